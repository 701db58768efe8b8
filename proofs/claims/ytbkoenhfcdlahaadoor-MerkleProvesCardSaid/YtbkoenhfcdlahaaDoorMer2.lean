/-
Contracts of the statements on Merkle trees (sanity, made digests, growth). No conditions.
-/
import Derived.Test.YtbkoenhfcdlahaaDoorMer1
import Derived.Test.YtbkoenhfcdlahaaDoorShaP
namespace Go.Fw
set_option linter.unusedVariables false
set_option linter.unusedSimpArgs false
open Go.Proofs
set_option maxRecDepth 10000

def dig (l : List Int) : List Int := l ++ List.replicate (32 - l.length) 0
def hA : List Int := dig [1]
def hB : List Int := dig [2]
def hC : List Int := dig [3]
theorem node_ne : node hA hB ≠ node hB hA := by
  have e1 : (node hA hB).getD 0 0 = ((node hA hB).getD 0 0) := rfl
  have h1 : (hL (stN H0 (msg (1 :: (hA ++ hB))) ((msg (1 :: (hA ++ hB))).length / 64)) 32 == hL (stN H0 (msg (1 :: (hB ++ hA))) ((msg (1 :: (hB ++ hA))).length / 64)) 32) = false := by kernel_rfl
  unfold node
  rw [sum_eq, sum_eq]
  exact beq_eq_false_iff_ne.1 h1

theorem root_three (a b c : List Int) : root [a, b, c] = node (node a b) c := by
  rw [root_step (by simp)]
  have e : above [a, b, c] = [node a b, c] := by simp [above]
  rw [e, root_step (by simp)]
  have e2 : above [node a b, c] = [node (node a b) c] := by simp [above]
  rw [e2, root_one (by simp)]
  rfl

theorem ret_sane07 : Returns cx n_lightclientlaw07_sane [] (.bool true) := by
  have r1 : rootOr [hA] = hA := by unfold rootOr; rw [if_neg (by simp), root_one (by simp)]; rfl
  have r3 : rootOr [hA, hB, hC] = node (node hA hB) hC := by unfold rootOr; rw [if_neg (by simp), root_three]
  have n1 := node_len hA hB
  have n2 := node_len hB hA
  have n3 := node_len (node hA hB) hC
  have hne := node_ne
  have la : hA.length = 32 := rfl
  have lb : hB.length = 32 := rfl
  have lc : hC.length = 32 := rfl
  (refine of_W2 (fn := f_lightclientlaw07_sane) {} (by kernel_rfl) (by kernel_rfl) (by kernel_rfl) (by kernel_rfl) (by kernel_rfl) ?_)
  ((try (conv => whnf)); (repeat ((first | refine br_true yesA ?_ | refine br_false noA ?_ | refine onS_map numA ?_ | refine onS_intro (eqTC_ints rfl rfl rfl rfl numA) ?_ | refine onS_intro (mapB_u8s _) ?_ | refine And.intro flatA ?_); (try (conv => whnf)))))
  refine call_intro (ret_root [hA] (by simp) (fun h hh => by simp at hh; rw [hh]; rfl)) (les_of_eq rfl) ?_
  rw [r1]
  ((try (conv => whnf)); (repeat ((first | refine br_true yesA ?_ | refine br_false noA ?_ | refine onS_map numA ?_ | refine onS_intro (eqTC_ints rfl rfl rfl rfl numA) ?_ | refine onS_intro (mapB_u8s _) ?_ | refine And.intro flatA ?_); (try (conv => whnf)))))
  refine onS_intro (eqTC_ints (l := hA) (l' := hA) rfl rfl rfl rfl rfl) ?_
  ((try (conv => whnf)); (repeat ((first | refine br_true yesA ?_ | refine br_false noA ?_ | refine onS_map numA ?_ | refine onS_intro (eqTC_ints rfl rfl rfl rfl numA) ?_ | refine onS_intro (mapB_u8s _) ?_ | refine And.intro flatA ?_); (try (conv => whnf)))))
  refine call_intro (ret_root [hA, hB, hC] (by simp) (fun h hh => by simp at hh; rcases hh with rfl | rfl | rfl <;> rfl)) (les_of_eq rfl) ?_
  rw [r3]
  ((try (conv => whnf)); (repeat ((first | refine br_true yesA ?_ | refine br_false noA ?_ | refine onS_map numA ?_ | refine onS_intro (eqTC_ints rfl rfl rfl rfl numA) ?_ | refine onS_intro (mapB_u8s _) ?_ | refine And.intro flatA ?_); (try (conv => whnf)))))
  refine call_intro (ret_node hA hB rfl rfl) (les_of_eq rfl) ?_
  ((try (conv => whnf)); (repeat ((first | refine br_true yesA ?_ | refine br_false noA ?_ | refine onS_map numA ?_ | refine onS_intro (eqTC_ints rfl rfl rfl rfl numA) ?_ | refine onS_intro (mapB_u8s _) ?_ | refine And.intro flatA ?_); (try (conv => whnf)))))
  refine call_intro (ret_node (node hA hB) hC n1 rfl) (les_of_eq rfl) ?_
  ((try (conv => whnf)); (repeat ((first | refine br_true yesA ?_ | refine br_false noA ?_ | refine onS_map numA ?_ | refine onS_intro (eqTC_ints rfl rfl rfl rfl numA) ?_ | refine onS_intro (mapB_u8s _) ?_ | refine And.intro flatA ?_); (try (conv => whnf)))))
  refine call_intro (ret_node hA hB rfl rfl) (les_of_eq rfl) ?_
  ((try (conv => whnf)); (repeat ((first | refine br_true yesA ?_ | refine br_false noA ?_ | refine onS_map numA ?_ | refine onS_intro (eqTC_ints rfl rfl rfl rfl numA) ?_ | refine onS_intro (mapB_u8s _) ?_ | refine And.intro flatA ?_); (try (conv => whnf)))))
  refine call_intro (ret_node hB hA rfl rfl) (les_of_eq rfl) ?_
  ((try (conv => whnf)); (repeat ((first | refine br_true yesA ?_ | refine br_false noA ?_ | refine onS_map numA ?_ | refine onS_intro (eqTC_ints rfl rfl rfl rfl numA) ?_ | refine onS_intro (mapB_u8s _) ?_ | refine And.intro flatA ?_); (try (conv => whnf)))))
  refine le_true (bnot_true (chk_false hne))

/-- What Hashes makes of numbers. -/
def madeH (seeds : List Int) (i : Nat) : List Int := dig [seeds.getD i 0, IntKind.u8.wrap ((i : Int) % 3), 7]
def made (seeds : List Int) : List (List Int) := (List.range seeds.length).map (madeH seeds)
theorem made_len (seeds : List Int) : (made seeds).length = seeds.length := by simp [made]
theorem made_hs (seeds : List Int) : Hs (made seeds) := fun h hh => by
  obtain ⟨i, _, rfl⟩ := List.mem_map.1 hh
  rfl

theorem made_get (seeds : List Int) (k : Nat) (h : k < seeds.length) : (made seeds).getD k [] = madeH seeds k := by
  rw [getD_get _ _ _ (by rw [made_len]; exact h)]
  simp [made]

theorem ret_Hashes (seeds : List Int) (hl : seeds.length ≤ 4000000000000) : Returns cx n_lightclientmade_Hashes [bytesD seeds] (hashesD (made seeds)) := by
  (refine of_W2 (fn := f_lightclientmade_Hashes) {} (by kernel_rfl) (by kernel_rfl) (by kernel_rfl) (by kernel_rfl) (by kernel_rfl) ?_)
  have hml := made_len seeds
  ((try (conv => whnf)); (repeat ((first | refine br_true yesA ?_ | refine br_false noA ?_ | refine onS_map numA ?_ | refine onS_intro (eqTC_ints rfl rfl rfl rfl numA) ?_ | refine onS_intro (mapB_u8s _) ?_ | refine And.intro flatA ?_); (try (conv => whnf)))))
  refine LoopW2_rule (fun k : Nat => [(3, .sl 0 0 k), (6, .d (bytesD seeds)), (7, .d (.int .i64 (seeds.length : Nat))), (8, .d (.int .i64 (k : Nat)))]) (fun k => [some (.grow k (.arr 32 .one) (((made seeds).take k).map hashD))]) (fun k => k ≤ seeds.length) (fun k => seeds.length - k) _ rfl 0
    (.trans _ _ _ _ _ _ (Wk.bornT 3 (.arr 32 .one) rfl) (Wk.go ⟨rfl, rfl, congrArg (fun n : Nat => V.d (.int .i64 n)) (u8s_len seeds), rfl, trivial⟩ rfl ⟨.inr rfl, trivial⟩ rfl)) (by omega) ?_
  intro k K hk hK
  by_cases h : k < seeds.length
  · have hs := take_snoc (made seeds) k [] (by omega)
    rw [made_get seeds k h] at hs
    ((try (conv => whnf)); (repeat ((first | refine br_true yesA ?_ | refine br_false noA ?_ | refine onS_map numA ?_ | refine onS_intro (eqTC_ints rfl rfl rfl rfl numA) ?_ | refine onS_intro (mapB_u8s _) ?_ | refine And.intro flatA ?_); (try (conv => whnf)))))
    (refine hK (k + 1) _ _ rfl (Wk.go ?_ rfl ?_ rfl) numA numA; all_goals (try (repeat' (first | exact trivial | rfl | exact .inl rfl | exact .inr rfl | refine ⟨?_, ?_⟩))))
    refine .inr ?_
    rw [hs, List.map_append]
    rfl
  · have h : k = (made seeds).length := by omega
    subst h
    ((try (conv => whnf)); (repeat ((first | refine br_true yesA ?_ | refine br_false noA ?_ | refine onS_map numA ?_ | refine onS_intro (eqTC_ints rfl rfl rfl rfl numA) ?_ | refine onS_intro (mapB_u8s _) ?_ | refine And.intro flatA ?_); (try (conv => whnf)))))
    rw [List.take_length]
    (first | exact D.le.refl _ | (simp only [chk_eq]; exact D.le.refl _))

theorem ret_MerkleGrows (seeds x : List Int) (hl : seeds.length ≤ 1048576) (hx : x.length = 32) : Returns cx n_lightclientlaw07_MerkleGrows [bytesD seeds, hashD x] (.bool true) := by
  have hml := made_len seeds
  have hmh := made_hs seeds
  (refine of_W2 (fn := f_lightclientlaw07_MerkleGrows) { vis := [(7, [(6, true, [1, 2]), (10, true, []), (12, true, [0])])] } (by kernel_rfl) (by kernel_rfl) (by kernel_rfl) (by kernel_rfl) (by kernel_rfl) ?_)
  ((try (conv => whnf)); (repeat ((first | refine br_true yesA ?_ | refine br_false noA ?_ | refine onS_map numA ?_ | refine onS_intro (eqTC_ints rfl rfl rfl rfl numA) ?_ | refine onS_intro (mapB_u8s _) ?_ | refine And.intro flatA ?_); (try (conv => whnf)))))
  ((first | refine call_intro (ret_sane07) (les_refl _) ?_ | refine call_intro (ret_sane07) lesA ?_); (try (conv => whnf)))
  ((try (conv => whnf)); (repeat ((first | refine br_true yesA ?_ | refine br_false noA ?_ | refine onS_map numA ?_ | refine onS_intro (eqTC_ints rfl rfl rfl rfl numA) ?_ | refine onS_intro (mapB_u8s _) ?_ | refine And.intro flatA ?_); (try (conv => whnf)))))
  ((first | refine call_intro (ret_Hashes seeds (by omega)) (les_refl _) ?_ | refine call_intro (ret_Hashes seeds (by omega)) lesA ?_); (try (conv => whnf)))
  generalize made seeds = l at *
  ((try (conv => whnf)); (repeat ((first | refine br_true yesA ?_ | refine br_false noA ?_ | refine onS_map numA ?_ | refine onS_intro (eqTC_ints rfl rfl rfl rfl numA) ?_ | refine onS_intro (mapB_u8s _) ?_ | refine And.intro flatA ?_); (try (conv => whnf)))))
  (refine LoopW2_rule (fun k : Nat => [(3, .ptr 0 0 [] (.arr 32 .one)), (5, .d (hashesD l)), (6, .d (.int .i64 ((2 ^ k : Nat) : Int)))]) (fun k => [some (.fix (.d (hashD x)))]) (fun k => k ≤ 5) (fun k => 5 - k) _ rfl 0 (Wk.go ?_ rfl ?_ rfl) numA ?_; all_goals (try (repeat' (first | exact trivial | rfl | exact .inl rfl | exact .inr rfl | refine ⟨?_, ?_⟩))))
  intro k K hk hK
  have hp : 2 ^ k = 1 ∨ 2 ^ k = 2 ∨ 2 ^ k = 4 ∨ 2 ^ k = 8 ∨ 2 ^ k = 16 ∨ 2 ^ k = 32 := by
    match k, hk with
    | 0, _ => simp
    | 1, _ => simp
    | 2, _ => simp
    | 3, _ => simp
    | 4, _ => simp
    | 5, _ => simp
  have hp2 : 2 ^ (k + 1) = 2 * 2 ^ k := by rw [Nat.pow_succ]; omega
  have hp5 : 2 ^ k ≤ 16 → k < 5 := fun h => by
    rcases Nat.lt_or_ge k 5 with h1 | h1
    · exact h1
    · have : k = 5 := by omega
      subst this; simp at h
  have hsn := root_snoc k (l.take (2 ^ k)) x
  generalize 2 ^ k = n at *
  by_cases h1 : n ≤ 16
  · by_cases h2 : n ≤ l.length
    · have hk5 := hp5 h1
      have ht : (l.take n).length = n := by rw [List.length_take]; omega
      have hth := hmh.take n
      have r1 : rootOr (l.take n ++ [x]) = root (l.take n ++ [x]) := by unfold rootOr; rw [if_neg (by simp; omega)]
      have r2 : rootOr (l.take n) = root (l.take n) := by unfold rootOr; rw [if_neg (by omega)]
      have lr := root_len _ (l.take n) rfl hth (by omega)
      have hxs : Hs [x] := fun h hh => by simp at hh; rw [hh]; exact hx
      have lr2 := node_len (root (l.take n)) x
      ((try (conv => whnf)); (repeat ((first | refine br_true yesA ?_ | refine br_false noA ?_ | refine onS_map numA ?_ | refine onS_intro (eqTC_ints rfl rfl rfl rfl numA) ?_ | refine onS_intro (mapB_u8s _) ?_ | refine And.intro flatA ?_); (try (conv => whnf)))))
      refine call_intro (ret_root (l.take n ++ [x]) (by simp; omega) (hth.app hxs)) (les_of_eq (by simp [hashesD, List.map_take])) ?_
      rw [r1, hsn ht]
      ((try (conv => whnf)); (repeat ((first | refine br_true yesA ?_ | refine br_false noA ?_ | refine onS_map numA ?_ | refine onS_intro (eqTC_ints rfl rfl rfl rfl numA) ?_ | refine onS_intro (mapB_u8s _) ?_ | refine And.intro flatA ?_); (try (conv => whnf)))))
      refine call_intro (ret_root (l.take n) (by omega) hth) (les_of_eq (by simp [hashesD, List.map_take])) ?_
      rw [r2]
      ((try (conv => whnf)); (repeat ((first | refine br_true yesA ?_ | refine br_false noA ?_ | refine onS_map numA ?_ | refine onS_intro (eqTC_ints rfl rfl rfl rfl numA) ?_ | refine onS_intro (mapB_u8s _) ?_ | refine And.intro flatA ?_); (try (conv => whnf)))))
      ((first | refine call_intro (ret_node (root (l.take n)) x lr hx) (les_refl _) ?_ | refine call_intro (ret_node (root (l.take n)) x lr hx) lesA ?_); (try (conv => whnf)))
      ((try (conv => whnf)); (repeat ((first | refine br_true yesA ?_ | refine br_false noA ?_ | refine onS_map numA ?_ | refine onS_intro (eqTC_ints rfl rfl rfl rfl numA) ?_ | refine onS_intro (mapB_u8s _) ?_ | refine And.intro flatA ?_); (try (conv => whnf)))))
      refine hK (k + 1) _ _ rfl (Wk.go ?_ rfl ?_ rfl) (by omega) (by omega)
      all_goals (try (repeat' (first | exact trivial | rfl | exact .inl rfl | exact .inr rfl | refine ⟨?_, ?_⟩)))
      rw [hp2]
      exact congrArg (fun x => V.d (.int .i64 x)) (by omega)
    · ((try (conv => whnf)); (repeat ((first | refine br_true yesA ?_ | refine br_false noA ?_ | refine onS_map numA ?_ | refine onS_intro (eqTC_ints rfl rfl rfl rfl numA) ?_ | refine onS_intro (mapB_u8s _) ?_ | refine And.intro flatA ?_); (try (conv => whnf)))))
      refine call_intro (ret_root [] (by simp) (fun h hh => by simp at hh)) ⟨.nils _, trivial⟩ ?_
      ((try (conv => whnf)); (repeat ((first | refine br_true yesA ?_ | refine br_false noA ?_ | refine onS_map numA ?_ | refine onS_intro (eqTC_ints rfl rfl rfl rfl numA) ?_ | refine onS_intro (mapB_u8s _) ?_ | refine And.intro flatA ?_); (try (conv => whnf)))))
      refine onS_intro (eqTC_ints (l := rootOr []) (l' := zero32) rfl rfl rfl rfl (by unfold rootOr; rw [if_pos (.inl rfl)])) ?_
      ((try (conv => whnf)); (repeat ((first | refine br_true yesA ?_ | refine br_false noA ?_ | refine onS_map numA ?_ | refine onS_intro (eqTC_ints rfl rfl rfl rfl numA) ?_ | refine onS_intro (mapB_u8s _) ?_ | refine And.intro flatA ?_); (try (conv => whnf)))))
      exact le_true (chk_true (by unfold rootOr; rw [if_pos (.inl rfl)]))
  · ((try (conv => whnf)); (repeat ((first | refine br_true yesA ?_ | refine br_false noA ?_ | refine onS_map numA ?_ | refine onS_intro (eqTC_ints rfl rfl rfl rfl numA) ?_ | refine onS_intro (mapB_u8s _) ?_ | refine And.intro flatA ?_); (try (conv => whnf)))))
    refine call_intro (ret_root [] (by simp) (fun h hh => by simp at hh)) ⟨.nils _, trivial⟩ ?_
    ((try (conv => whnf)); (repeat ((first | refine br_true yesA ?_ | refine br_false noA ?_ | refine onS_map numA ?_ | refine onS_intro (eqTC_ints rfl rfl rfl rfl numA) ?_ | refine onS_intro (mapB_u8s _) ?_ | refine And.intro flatA ?_); (try (conv => whnf)))))
    refine onS_intro (eqTC_ints (l := rootOr []) (l' := zero32) rfl rfl rfl rfl (by unfold rootOr; rw [if_pos (.inl rfl)])) ?_
    ((try (conv => whnf)); (repeat ((first | refine br_true yesA ?_ | refine br_false noA ?_ | refine onS_map numA ?_ | refine onS_intro (eqTC_ints rfl rfl rfl rfl numA) ?_ | refine onS_intro (mapB_u8s _) ?_ | refine And.intro flatA ?_); (try (conv => whnf)))))
    exact le_true (chk_true (by unfold rootOr; rw [if_pos (.inl rfl)]))
end Go.Fw
