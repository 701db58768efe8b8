/-
Contracts of Merkle trees. No conditions.
-/
import Derived.Test.YtbkoenhfcdlahaaDoorSha4
import Derived.Test.YtbkoenhfcdlahaaDoorMer0
import Derived.KernelRfl
namespace Go.Fw
set_option linter.unusedVariables false
set_option linter.unusedSimpArgs false
open Go.Proofs
set_option maxRecDepth 10000

theorem ret_node (a b : List Int) (ha : a.length = 32) (hb : b.length = 32) : Returns cx n_merkle_Node [hashD a, hashD b] (hashD (node a b)) := by
  (refine of_W2 (fn := f_merkle_Node) {} (by kernel_rfl) (by kernel_rfl) (by kernel_rfl) (by kernel_rfl) (by kernel_rfl) ?_)
  ((try (conv => whnf)); (repeat ((first | refine br_true yesA ?_ | refine br_false noA ?_ | refine onS_map numA ?_ | refine onS_intro (eqTC_ints rfl rfl rfl rfl numA) ?_ | refine onS_intro (mapB_u8s _) ?_ | refine And.intro flatA ?_); (try (conv => whnf)))))
  refine call_intro (ret_sum (1 :: (a ++ b)) (by simp; omega)) (les_of_eq (by simp [cutL, u8s, bytesD])) ?_
  ((try (conv => whnf)); (repeat ((first | refine br_true yesA ?_ | refine br_false noA ?_ | refine onS_map numA ?_ | refine onS_intro (eqTC_ints rfl rfl rfl rfl numA) ?_ | refine onS_intro (mapB_u8s _) ?_ | refine And.intro flatA ?_); (try (conv => whnf)))))
  (first | exact D.le.refl _ | (simp only [chk_eq]; exact D.le.refl _))

theorem ret_kept (l : List (List Int)) : Returns cx n_lightclientlaw07_kept [hashesD l] (.bool (decide (l.length ≤ 40))) := by
  (refine of_W2 (fn := f_lightclientlaw07_kept) {} (by kernel_rfl) (by kernel_rfl) (by kernel_rfl) (by kernel_rfl) (by kernel_rfl) ?_)
  ((try (conv => whnf)); (repeat ((first | refine br_true yesA ?_ | refine br_false noA ?_ | refine onS_map numA ?_ | refine onS_intro (eqTC_ints rfl rfl rfl rfl numA) ?_ | refine onS_intro (mapB_u8s _) ?_ | refine And.intro flatA ?_); (try (conv => whnf)))))
  have e : chk (((l.map hashD).length : Int) ≤ 40) = decide (l.length ≤ 40) := by
    rw [chk_eq, Bool.eq_iff_iff]; simp; omega
  rw [e]
  (first | exact D.le.refl _ | (simp only [chk_eq]; exact D.le.refl _))

theorem take_snoc {α : Type} (l : List α) (k : Nat) (d : α) (h : k < l.length) : l.take (k + 1) = l.take k ++ [l.getD k d] := by
  rw [List.take_succ_eq_append_getElem h, getD_get _ _ _ h]

theorem ret_above (l : List (List Int)) (hl : l.length ≤ 100000) (hh : Hs l) : Returns cx n_merkle_above [hashesD l] (hashesD (above l)) := by
  have ha := above_len l
  (refine of_W2 (fn := f_merkle_above) {} (by kernel_rfl) (by kernel_rfl) (by kernel_rfl) (by kernel_rfl) (by kernel_rfl) ?_)
  ((try (conv => whnf)); (repeat ((first | refine br_true yesA ?_ | refine br_false noA ?_ | refine onS_map numA ?_ | refine onS_intro (eqTC_ints rfl rfl rfl rfl numA) ?_ | refine onS_intro (mapB_u8s _) ?_ | refine And.intro flatA ?_); (try (conv => whnf)))))
  (refine LoopW2_rule (fun k : Nat => [(0, .d (hashesD l)), (3, .sl 0 0 k), (4, .d (.int .i64 ((2 * k : Nat) : Int)))]) (fun k => [some (.grow k (.arr 32 .one) (((above l).take k).map hashD))]) (fun k => k ≤ (above l).length) (fun k => (above l).length - k) _ rfl 0 (Wk.go ?_ rfl ?_ rfl) numA ?_; all_goals (try (repeat' (first | exact trivial | rfl | exact .inl rfl | exact .inr rfl | refine ⟨?_, ?_⟩))))
  intro k K hk hK
  by_cases h : 2 * k < l.length
  · have hs := take_snoc (above l) k [] (by omega)
    have g0 := hh.get (i := 2 * k) h
    by_cases h2 : 2 * k + 1 < l.length
    · have g1 := hh.get (i := 2 * k + 1) h2
      rw [above_two l k h2] at hs
      ((try (conv => whnf)); (repeat ((first | refine br_true yesA ?_ | refine br_false noA ?_ | refine onS_map numA ?_ | refine onS_intro (eqTC_ints rfl rfl rfl rfl numA) ?_ | refine onS_intro (mapB_u8s _) ?_ | refine And.intro flatA ?_); (try (conv => whnf)))))
      refine call_intro (ret_node (l.getD (2 * k) []) (l.getD (2 * k + 1) []) g0 g1) (les_of_eq ?_) ?_
      · rfl
      ((try (conv => whnf)); (repeat ((first | refine br_true yesA ?_ | refine br_false noA ?_ | refine onS_map numA ?_ | refine onS_intro (eqTC_ints rfl rfl rfl rfl numA) ?_ | refine onS_intro (mapB_u8s _) ?_ | refine And.intro flatA ?_); (try (conv => whnf)))))
      (refine hK (k + 1) _ _ rfl (Wk.go ?_ rfl ?_ rfl) numA numA; all_goals (try (repeat' (first | exact trivial | rfl | exact .inl rfl | exact .inr rfl | refine ⟨?_, ?_⟩))))
      refine .inr ?_
      rw [hs, List.map_append]
      rfl
    · rw [above_one l k (by omega)] at hs
      ((try (conv => whnf)); (repeat ((first | refine br_true yesA ?_ | refine br_false noA ?_ | refine onS_map numA ?_ | refine onS_intro (eqTC_ints rfl rfl rfl rfl numA) ?_ | refine onS_intro (mapB_u8s _) ?_ | refine And.intro flatA ?_); (try (conv => whnf)))))
      (refine hK (k + 1) _ _ rfl (Wk.go ?_ rfl ?_ rfl) numA numA; all_goals (try (repeat' (first | exact trivial | rfl | exact .inl rfl | exact .inr rfl | refine ⟨?_, ?_⟩))))
      refine .inr ?_
      rw [hs, List.map_append]
      rfl
  · have h : k = (above l).length := by omega
    subst h
    ((try (conv => whnf)); (repeat ((first | refine br_true yesA ?_ | refine br_false noA ?_ | refine onS_map numA ?_ | refine onS_intro (eqTC_ints rfl rfl rfl rfl numA) ?_ | refine onS_intro (mapB_u8s _) ?_ | refine And.intro flatA ?_); (try (conv => whnf)))))
    rw [List.take_length]
    (first | exact D.le.refl _ | (simp only [chk_eq]; exact D.le.refl _))

theorem ret_root (l : List (List Int)) (hl : l.length ≤ 100000) (hh : Hs l) : Returns cx n_merkle_Root [hashesD l] (hashD (rootOr l)) := by
  (refine of_W2 (fn := f_merkle_Root) {} (by kernel_rfl) (by kernel_rfl) (by kernel_rfl) (by kernel_rfl) (by kernel_rfl) ?_)
  by_cases h0 : l.length = 0
  · have e : rootOr l = zero32 := by unfold rootOr; rw [if_pos (.inl h0)]
    rw [e]
    ((try (conv => whnf)); (repeat ((first | refine br_true yesA ?_ | refine br_false noA ?_ | refine onS_map numA ?_ | refine onS_intro (eqTC_ints rfl rfl rfl rfl numA) ?_ | refine onS_intro (mapB_u8s _) ?_ | refine And.intro flatA ?_); (try (conv => whnf)))))
    (first | exact D.le.refl _ | (simp only [chk_eq]; exact D.le.refl _))
  by_cases h1 : 1024 < l.length
  · have e : rootOr l = zero32 := by unfold rootOr; rw [if_pos (.inr h1)]
    rw [e]
    ((try (conv => whnf)); (repeat ((first | refine br_true yesA ?_ | refine br_false noA ?_ | refine onS_map numA ?_ | refine onS_intro (eqTC_ints rfl rfl rfl rfl numA) ?_ | refine onS_intro (mapB_u8s _) ?_ | refine And.intro flatA ?_); (try (conv => whnf)))))
    (first | exact D.le.refl _ | (simp only [chk_eq]; exact D.le.refl _))
  have e : rootOr l = root l := by unfold rootOr; rw [if_neg (by omega)]
  rw [e]
  ((try (conv => whnf)); (repeat ((first | refine br_true yesA ?_ | refine br_false noA ?_ | refine onS_map numA ?_ | refine onS_intro (eqTC_ints rfl rfl rfl rfl numA) ?_ | refine onS_intro (mapB_u8s _) ?_ | refine And.intro flatA ?_); (try (conv => whnf)))))
  refine LoopW2_rule (fun m : List (List Int) => [(0, .d (hashesD m)), (2, .ptr 0 0 [] (.arr 32 .one))]) (fun m => [some (.fix (.d (hashD zero32)))]) (fun m => 0 < m.length ∧ m.length ≤ 1024 ∧ Hs m ∧ root m = root l) (fun m => m.length) _ rfl l (Wk.go (by (repeat' (first | exact trivial | refine ⟨?_, ?_⟩ | rfl))) rfl (by (repeat' (first | exact trivial | refine ⟨?_, ?_⟩ | exact .inl rfl | exact .inr rfl))) rfl) ?_ ?_
  · exact ⟨by omega, by omega, hh, rfl⟩
  rintro m K ⟨hm0, hm1, hmh, hmr⟩ hK
  by_cases h : 1 < m.length
  · have ha := above_len m
    ((try (conv => whnf)); (repeat ((first | refine br_true yesA ?_ | refine br_false noA ?_ | refine onS_map numA ?_ | refine onS_intro (eqTC_ints rfl rfl rfl rfl numA) ?_ | refine onS_intro (mapB_u8s _) ?_ | refine And.intro flatA ?_); (try (conv => whnf)))))
    ((first | refine call_intro (ret_above m (by omega) hmh) (les_refl _) ?_ | refine call_intro (ret_above m (by omega) hmh) lesA ?_); (try (conv => whnf)))
    refine hK (above m) _ _ rfl (Wk.go ?_ rfl ?_ rfl) ⟨by omega, by omega, above_hs hmh, by rw [← root_step h]; exact hmr⟩ (by show (above m).length < m.length; omega)
    all_goals (try (repeat' (first | exact trivial | rfl | exact .inl rfl | exact .inr rfl | refine ⟨?_, ?_⟩)))
  · ((try (conv => whnf)); (repeat ((first | refine br_true yesA ?_ | refine br_false noA ?_ | refine onS_map numA ?_ | refine onS_intro (eqTC_ints rfl rfl rfl rfl numA) ?_ | refine onS_intro (mapB_u8s _) ?_ | refine And.intro flatA ?_); (try (conv => whnf)))))
    rw [← hmr, root_one (by omega)]
    (first | exact D.le.refl _ | (simp only [chk_eq]; exact D.le.refl _))
end Go.Fw
