/-
Contracts: digests. No conditions.
-/
import Derived.Test.YtcoooinjnkeokaaDoorSha3
namespace Go.Fw
set_option linter.unusedVariables false
set_option linter.unusedSimpArgs false
open Go.Proofs
set_option maxRecDepth 10000

theorem ret_sum (b : List Int) (hb : b.length ≤ 1000000) : Returns cx n_sha_Sum [bytesD b] (hashD (sum b)) := by
  have hl := u8s_len b
  have hm := msg_le b
  have hm64 := msg_len b
  have hpl := padL_len b.length 8
  have hpz := padZ_lt b.length
  (refine of_W2 (fn := f_sha_Sum) {} (by kernel_rfl) (by kernel_rfl) (by kernel_rfl) (by kernel_rfl) (by kernel_rfl) ?_)
  ((try (conv => whnf)); (repeat ((first | refine br_true yesA ?_ | refine br_false noA ?_ | refine onS_map numA ?_ | refine onS_intro (eqTC_ints rfl rfl rfl rfl numA) ?_ | refine onS_intro (mapB_u8s _) ?_ | refine And.intro flatA ?_); (try (conv => whnf)))))
  refine call_intro (ret_pad b.length (by omega)) (les_of_eq (by rw [u8s_len])) ?_
  ((try (conv => whnf)); (repeat ((first | refine br_true yesA ?_ | refine br_false noA ?_ | refine onS_map numA ?_ | refine onS_intro (eqTC_ints rfl rfl rfl rfl numA) ?_ | refine onS_intro (mapB_u8s _) ?_ | refine And.intro flatA ?_); (try (conv => whnf)))))
  (refine LoopW2_rule (fun k : Nat => [(2, .ptr 0 0 [] (.arr 32 .one)), (3, .sl 1 (64 * k) 2), (4, .ptr 4 0 [] (.arr 8 .one))]) (fun k => [some (.fix (.d (hashD (List.replicate 32 0)))), some (.grow 2 .one (u8s (msg b))), none, none, some (.fix (.d (stD (stN H0 (msg b) k))))]) (fun k => 64 * k ≤ (msg b).length) (fun k => (msg b).length - 64 * k) _ rfl 0 (Wk.go ?_ rfl ?_ rfl) numA ?_; all_goals (try (repeat' (first | exact trivial | rfl | exact .inl rfl | exact .inr rfl | refine ⟨?_, ?_⟩))))
  · exact .inr (by simp [msg, u8s])
  intro k K hk hK
  have hs := stN_len H0 (msg b) rfl k
  have hl2 := u8s_len (msg b)
  by_cases h : 64 * k < (msg b).length
  · ((try (conv => whnf)); (repeat ((first | refine br_true yesA ?_ | refine br_false noA ?_ | refine onS_map numA ?_ | refine onS_intro (eqTC_ints rfl rfl rfl rfl numA) ?_ | refine onS_intro (mapB_u8s _) ?_ | refine And.intro flatA ?_); (try (conv => whnf)))))
    refine call_intro (ret_compress _ ((List.drop (64 * k) (msg b)).take 64) hs (by simp; omega)) (les_of_eq ?_) ?_
    · rw [u8s_drop, u8s_take]; rfl
    ((try (conv => whnf)); (repeat ((first | refine br_true yesA ?_ | refine br_false noA ?_ | refine onS_map numA ?_ | refine onS_intro (eqTC_ints rfl rfl rfl rfl numA) ?_ | refine onS_intro (mapB_u8s _) ?_ | refine And.intro flatA ?_); (try (conv => whnf)))))
    (refine hK (k + 1) _ _ rfl (Wk.go ?_ rfl ?_ rfl) numA numA; all_goals (try (repeat' (first | exact trivial | rfl | exact .inl rfl | exact .inr rfl | refine ⟨?_, ?_⟩))))
  · have h : k = (msg b).length / 64 := by omega
    ((try (conv => whnf)); (repeat ((first | refine br_true yesA ?_ | refine br_false noA ?_ | refine onS_map numA ?_ | refine onS_intro (eqTC_ints rfl rfl rfl rfl numA) ?_ | refine onS_intro (mapB_u8s _) ?_ | refine And.intro flatA ?_); (try (conv => whnf)))))
    have e : stN H0 (msg b) k = stN H0 (msg b) ((msg b).length / 64) := by rw [h]
    have hst := stN_len H0 (msg b) rfl ((msg b).length / 64)
    rw [sum_eq]
    generalize stN H0 (msg b) ((msg b).length / 64) = st at *
    rw [e]
    (refine LoopW2_rule (fun i : Nat => [(2, .ptr 0 0 [] (.arr 32 .one)), (4, .ptr 4 0 [] (.arr 8 .one)), (5, .ptr 5 0 [] (.arr 32 .one)), (30, .d (.int .i64 (i : Nat)))]) (fun i => [some (.fix (.d (hashD (List.replicate 32 0)))), none, none, none, some (.fix (.d (stD st))), some (.fix (.d (hashD (hL st i))))]) (fun i => i ≤ 32) (fun i => 32 - i) _ rfl 0 (Wk.go ?_ rfl ?_ rfl) numA ?_; all_goals (try (repeat' (first | exact trivial | rfl | exact .inl rfl | exact .inr rfl | refine ⟨?_, ?_⟩))))
    intro i K hi hK
    have hh := hL_len st i
    by_cases h : i < 32
    · ((try (conv => whnf)); (repeat ((first | refine br_true yesA ?_ | refine br_false noA ?_ | refine onS_map numA ?_ | refine onS_intro (eqTC_ints rfl rfl rfl rfl numA) ?_ | refine onS_intro (mapB_u8s _) ?_ | refine And.intro flatA ?_); (try (conv => whnf)))))
      have e1 : ((i : Int) / 4).toNat = i / 4 := by omega
      have e2 : (24 - 8 * ((i : Int) % 4)).toNat = 24 - 8 * (i % 4) := by omega
      (refine hK (i + 1) _ _ rfl (Wk.go ?_ rfl ?_ rfl) numA numA; all_goals (try (repeat' (first | exact trivial | rfl | exact .inl rfl | exact .inr rfl | refine ⟨?_, ?_⟩))))
      exact .inr (congrArg (fun x => some (Blk.fix (.d x))) (set_u8s (by omega) (by rw [e1, e2]; rfl)))
    · have h : i = 32 := by omega
      subst h
      ((try (conv => whnf)); (repeat ((first | refine br_true yesA ?_ | refine br_false noA ?_ | refine onS_map numA ?_ | refine onS_intro (eqTC_ints rfl rfl rfl rfl numA) ?_ | refine onS_intro (mapB_u8s _) ?_ | refine And.intro flatA ?_); (try (conv => whnf)))))
      (first | exact D.le.refl _ | (simp only [chk_eq]; exact D.le.refl _))

theorem ret_sum' (b : List Int) (hb : b.length ≤ 1000000) : Returns cx n_lightclientref03_Sum [bytesD b] (hashD (sumR b)) := by
  have hl := u8s_len b
  have hm := msgR_le b
  have hm64 := msgR_len b
  have hpl := refR_len b.length 8
  have hpz := padZ_lt b.length
  (refine of_W2 (fn := f_lightclientref03_Sum) {} (by kernel_rfl) (by kernel_rfl) (by kernel_rfl) (by kernel_rfl) (by kernel_rfl) ?_)
  ((try (conv => whnf)); (repeat ((first | refine br_true yesA ?_ | refine br_false noA ?_ | refine onS_map numA ?_ | refine onS_intro (eqTC_ints rfl rfl rfl rfl numA) ?_ | refine onS_intro (mapB_u8s _) ?_ | refine And.intro flatA ?_); (try (conv => whnf)))))
  refine call_intro (ret_pad' b.length (by omega)) (les_of_eq (by rw [u8s_len])) ?_
  ((try (conv => whnf)); (repeat ((first | refine br_true yesA ?_ | refine br_false noA ?_ | refine onS_map numA ?_ | refine onS_intro (eqTC_ints rfl rfl rfl rfl numA) ?_ | refine onS_intro (mapB_u8s _) ?_ | refine And.intro flatA ?_); (try (conv => whnf)))))
  ((first | refine call_intro (ret_initial') (les_refl _) ?_ | refine call_intro (ret_initial') lesA ?_); (try (conv => whnf)))
  ((try (conv => whnf)); (repeat ((first | refine br_true yesA ?_ | refine br_false noA ?_ | refine onS_map numA ?_ | refine onS_intro (eqTC_ints rfl rfl rfl rfl numA) ?_ | refine onS_intro (mapB_u8s _) ?_ | refine And.intro flatA ?_); (try (conv => whnf)))))
  (refine LoopW2_rule (fun k : Nat => [(2, .ptr 0 0 [] (.arr 32 .one)), (3, .sl 1 0 1), (4, .ptr 3 0 [] (.arr 8 .one)), (5, .d (.int .i64 ((64 * k : Nat) : Int)))]) (fun k => [some (.fix (.d (hashD (List.replicate 32 0)))), some (.grow 1 .one (u8s (msgR b))), none, some (.fix (.d (stD (stR H0 (msgR b) k))))]) (fun k => 64 * k ≤ (msgR b).length) (fun k => (msgR b).length - 64 * k) _ rfl 0 (Wk.go ?_ rfl ?_ rfl) numA ?_; all_goals (try (repeat' (first | exact trivial | rfl | exact .inl rfl | exact .inr rfl | refine ⟨?_, ?_⟩))))
  · exact .inr (by simp [msgR, u8s])
  intro k K hk hK
  have hs := stR_len H0 (msgR b) rfl k
  have hl2 := u8s_len (msgR b)
  by_cases h : 64 * k < (msgR b).length
  · ((try (conv => whnf)); (repeat ((first | refine br_true yesA ?_ | refine br_false noA ?_ | refine onS_map numA ?_ | refine onS_intro (eqTC_ints rfl rfl rfl rfl numA) ?_ | refine onS_intro (mapB_u8s _) ?_ | refine And.intro flatA ?_); (try (conv => whnf)))))
    refine call_intro (ret_compress' _ ((List.drop (64 * k) (msgR b)).take 64) hs (by simp; omega)) (les_of_eq ?_) ?_
    · rw [copy_full (by simp) (by simp [u8s]; omega), Nat.zero_add, Int.toNat_natCast, u8s_drop, u8s_take]; rfl
    ((try (conv => whnf)); (repeat ((first | refine br_true yesA ?_ | refine br_false noA ?_ | refine onS_map numA ?_ | refine onS_intro (eqTC_ints rfl rfl rfl rfl numA) ?_ | refine onS_intro (mapB_u8s _) ?_ | refine And.intro flatA ?_); (try (conv => whnf)))))
    (refine hK (k + 1) _ _ rfl (Wk.go ?_ rfl ?_ rfl) numA numA; all_goals (try (repeat' (first | exact trivial | rfl | exact .inl rfl | exact .inr rfl | refine ⟨?_, ?_⟩))))
  · have h : k = (msgR b).length / 64 := by omega
    ((try (conv => whnf)); (repeat ((first | refine br_true yesA ?_ | refine br_false noA ?_ | refine onS_map numA ?_ | refine onS_intro (eqTC_ints rfl rfl rfl rfl numA) ?_ | refine onS_intro (mapB_u8s _) ?_ | refine And.intro flatA ?_); (try (conv => whnf)))))
    have e : stR H0 (msgR b) k = stR H0 (msgR b) ((msgR b).length / 64) := by rw [h]
    have hst := stR_len H0 (msgR b) rfl ((msgR b).length / 64)
    rw [sumR_eq]
    generalize stR H0 (msgR b) ((msgR b).length / 64) = st at *
    rw [e]
    (refine LoopW2_rule (fun i : Nat => [(2, .ptr 0 0 [] (.arr 32 .one)), (7, .ptr 4 0 [] (.arr 32 .one)), (33, .d (stD st)), (34, .d (.int .i64 (i : Nat)))]) (fun i => [some (.fix (.d (hashD (List.replicate 32 0)))), none, none, none, some (.fix (.d (hashD (hR st i))))]) (fun i => i ≤ 8) (fun i => 8 - i) _ rfl 0 (Wk.go ?_ rfl ?_ rfl) numA ?_; all_goals (try (repeat' (first | exact trivial | rfl | exact .inl rfl | exact .inr rfl | refine ⟨?_, ?_⟩))))
    intro i K hi hK
    have hh := hR_len st i
    by_cases h : i < 8
    · ((try (conv => whnf)); (repeat ((first | refine br_true yesA ?_ | refine br_false noA ?_ | refine onS_map numA ?_ | refine onS_intro (eqTC_ints rfl rfl rfl rfl numA) ?_ | refine onS_intro (mapB_u8s _) ?_ | refine And.intro flatA ?_); (try (conv => whnf)))))
      have e0 : (4 * (i : Int)).toNat = 4 * i := by omega
      have e1 : (4 * (i : Int) + 1).toNat = 4 * i + 1 := by omega
      have e2 : (4 * (i : Int) + 2).toNat = 4 * i + 2 := by omega
      have e3 : (4 * (i : Int) + 3).toNat = 4 * i + 3 := by omega
      (refine hK (i + 1) _ _ rfl (Wk.go ?_ rfl ?_ rfl) numA numA; all_goals (try (repeat' (first | exact trivial | rfl | exact .inl rfl | exact .inr rfl | refine ⟨?_, ?_⟩))))
      rw [e0, e1, e2, e3]
      refine .inr ?_
      simp only [hashD, hR, u8s, List.map_set]
      rfl
    · have h : i = 8 := by omega
      subst h
      ((try (conv => whnf)); (repeat ((first | refine br_true yesA ?_ | refine br_false noA ?_ | refine onS_map numA ?_ | refine onS_intro (eqTC_ints rfl rfl rfl rfl numA) ?_ | refine onS_intro (mapB_u8s _) ?_ | refine And.intro flatA ?_); (try (conv => whnf)))))
      (first | exact D.le.refl _ | (simp only [chk_eq]; exact D.le.refl _))
end Go.Fw
