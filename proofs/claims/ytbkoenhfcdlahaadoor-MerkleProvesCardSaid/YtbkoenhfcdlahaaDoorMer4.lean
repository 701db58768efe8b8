/-
Contracts of ways. No conditions.
-/
import Derived.Test.YtbkoenhfcdlahaaDoorMer1
import Derived.Test.YtbkoenhfcdlahaaDoorMer3
namespace Go.Fw
set_option linter.unusedVariables false
set_option linter.unusedSimpArgs false
open Go.Proofs
set_option maxRecDepth 10000

def proofD (c i : Nat) (hs : List (List Int)) : D := .st [.int .i64 (c : Nat), .int .i64 (i : Nat), hashesD hs]
/-- Hashes that a call has made: none yet, or its own. -/
def madeD : List (List Int) → D
  | [] => .nils
  | a :: r => .ro (.arr 32 .one) false ((a :: r).map hashD)
def wayH (c i : Nat) : List (List Int) → Heap
  | [] => [some (.fix (.d (.st [.int .i64 0, .int .i64 0, .nils]))), some (.fix (.d (.st [.int .i64 (c : Nat), .int .i64 (i : Nat), .nils])))]
  | a :: r => [some (.fix (.d (.st [.int .i64 0, .int .i64 0, .nils]))), some (.fix (.st [.d (.int .i64 (c : Nat)), .d (.int .i64 (i : Nat)), .sl 3 0 r.length])), none, some (.grow r.length (.arr 32 .one) ((a :: r).map hashD))]

theorem ret_Path (l : List (List Int)) (i : Nat) (hl : l.length ≤ 1024) (hi : i < l.length) (hh : Hs l) : Returns cx n_merkle_Path [hashesD l, .int .i64 (i : Nat)] (.tup [.st [.int .i64 (l.length : Nat), .int .i64 (i : Nat), madeD (way l i)], .int .i64 0]) := by
  (refine of_W2 (fn := f_merkle_Path) {} (by kernel_rfl) (by kernel_rfl) (by kernel_rfl) (by kernel_rfl) (by kernel_rfl) ?_)
  ((try (conv => whnf)); (repeat ((first | refine br_true yesA ?_ | refine br_false noA ?_ | refine onS_map numA ?_ | refine onS_intro (eqTC_ints rfl rfl rfl rfl numA) ?_ | refine onS_intro (mapB_u8s _) ?_ | refine And.intro flatA ?_); (try (conv => whnf)))))
  rw [List.length_map]
  refine LoopW2_rule (fun p : List (List Int) × Nat × List (List Int) => [(0, .d (hashesD p.1)), (1, .d (.int .i64 (p.2.1 : Nat))), (4, .ptr 0 0 [] (.st [.one, .one, .one])), (5, .d (.int .i64 0)), (6, .ptr 1 0 [] (.st [.one, .one, .one]))])
    (fun p => wayH l.length i p.2.2) (fun p => p.1.length ≤ 1024 ∧ p.2.1 < p.1.length ∧ Hs p.1 ∧ way l i = p.2.2 ++ way p.1 p.2.1) (fun p => p.1.length) _ rfl (l, i, [])
    (Wk.go ?_ rfl ?_ rfl) ⟨hl, hi, hh, rfl⟩ ?_
  rotate_left 2
  · rintro ⟨m, j, acc⟩ K ⟨hm, hj, hmh, hw⟩ hK
    simp only at hm hj hmh hw hK ⊢
    have xj := xorW1 j (by omega)
    have hac : acc.length ≤ 10 := by
      have h1 := way_short 10 l i (by simpa using hl)
      rw [hw, List.length_append] at h1
      omega
    by_cases h : 1 < m.length
    · have hw1 := way_step j h
      have hal := above_len m
      have hah := above_hs hmh
      by_cases hs : sib j < m.length
      · rw [if_pos hs] at hw1
        have hx := hmh.get hs
        cases acc with
        | nil =>
          ((try (conv => whnf)); (repeat ((first | refine br_true yesA ?_ | refine br_false noA ?_ | refine onS_map numA ?_ | refine onS_intro (eqTC_ints rfl rfl rfl rfl numA) ?_ | refine onS_intro (mapB_u8s _) ?_ | refine And.intro flatA ?_); (try (conv => whnf)))))
          ((first | refine call_intro (ret_above m (by omega) hmh) (les_refl _) ?_ | refine call_intro (ret_above m (by omega) hmh) lesA ?_); (try (conv => whnf)))
          ((try (conv => whnf)); (repeat ((first | refine br_true yesA ?_ | refine br_false noA ?_ | refine onS_map numA ?_ | refine onS_intro (eqTC_ints rfl rfl rfl rfl numA) ?_ | refine onS_intro (mapB_u8s _) ?_ | refine And.intro flatA ?_); (try (conv => whnf)))))
          refine hK (above m, j / 2, [m.getD (sib j) []]) _ _ rfl (Wk.go ?_ rfl ?_ rfl) ?_ ?_
          all_goals (try (repeat' (first | exact trivial | rfl | exact .inl rfl | exact .inr rfl | refine ⟨?_, ?_⟩)))
          all_goals (first | exact above_hs hmh | (simp only; omega) | (show way l i = [m.getD (sib j) []] ++ way (above m) (j / 2); rw [hw, hw1]; rfl) | (refine .inr ?_; rw [xj]; rfl))
        | cons a r =>
          have hr : r.length < 10 := by simp at hac; omega
          ((try (conv => whnf)); (repeat ((first | refine br_true yesA ?_ | refine br_false noA ?_ | refine onS_map numA ?_ | refine onS_intro (eqTC_ints rfl rfl rfl rfl numA) ?_ | refine onS_intro (mapB_u8s _) ?_ | refine And.intro flatA ?_); (try (conv => whnf)))))
          ((first | refine call_intro (ret_above m (by omega) hmh) (les_refl _) ?_ | refine call_intro (ret_above m (by omega) hmh) lesA ?_); (try (conv => whnf)))
          ((try (conv => whnf)); (repeat ((first | refine br_true yesA ?_ | refine br_false noA ?_ | refine onS_map numA ?_ | refine onS_intro (eqTC_ints rfl rfl rfl rfl numA) ?_ | refine onS_intro (mapB_u8s _) ?_ | refine And.intro flatA ?_); (try (conv => whnf)))))
          refine hK (above m, j / 2, a :: (r ++ [m.getD (sib j) []])) _ _ rfl (Wk.go ?_ rfl ?_ rfl) ?_ ?_
          all_goals (try (repeat' (first | exact trivial | rfl | exact .inl rfl | exact .inr rfl | refine ⟨?_, ?_⟩)))
          all_goals (first | exact above_hs hmh | (simp only; omega) | (show way l i = (a :: (r ++ [m.getD (sib j) []])) ++ way (above m) (j / 2); rw [hw, hw1]; simp) | (refine .inr ?_; rw [List.length_append]; rfl) | (refine .inr ?_; rw [xj, List.length_append, ← List.cons_append, List.map_append]; rfl))
      · rw [if_neg hs, List.nil_append] at hw1
        cases acc with
        | nil =>
          ((try (conv => whnf)); (repeat ((first | refine br_true yesA ?_ | refine br_false noA ?_ | refine onS_map numA ?_ | refine onS_intro (eqTC_ints rfl rfl rfl rfl numA) ?_ | refine onS_intro (mapB_u8s _) ?_ | refine And.intro flatA ?_); (try (conv => whnf)))))
          ((first | refine call_intro (ret_above m (by omega) hmh) (les_refl _) ?_ | refine call_intro (ret_above m (by omega) hmh) lesA ?_); (try (conv => whnf)))
          ((try (conv => whnf)); (repeat ((first | refine br_true yesA ?_ | refine br_false noA ?_ | refine onS_map numA ?_ | refine onS_intro (eqTC_ints rfl rfl rfl rfl numA) ?_ | refine onS_intro (mapB_u8s _) ?_ | refine And.intro flatA ?_); (try (conv => whnf)))))
          refine hK (above m, j / 2, []) _ _ rfl (Wk.go ?_ rfl ?_ rfl) ?_ ?_
          all_goals (try (repeat' (first | exact trivial | rfl | exact .inl rfl | exact .inr rfl | refine ⟨?_, ?_⟩)))
          all_goals (first | exact above_hs hmh | (simp only; omega) | (show way l i = [] ++ way (above m) (j / 2); rw [hw, hw1]))
        | cons a r =>
          have hr : r.length < 10 := by simp at hac; omega
          ((try (conv => whnf)); (repeat ((first | refine br_true yesA ?_ | refine br_false noA ?_ | refine onS_map numA ?_ | refine onS_intro (eqTC_ints rfl rfl rfl rfl numA) ?_ | refine onS_intro (mapB_u8s _) ?_ | refine And.intro flatA ?_); (try (conv => whnf)))))
          ((first | refine call_intro (ret_above m (by omega) hmh) (les_refl _) ?_ | refine call_intro (ret_above m (by omega) hmh) lesA ?_); (try (conv => whnf)))
          ((try (conv => whnf)); (repeat ((first | refine br_true yesA ?_ | refine br_false noA ?_ | refine onS_map numA ?_ | refine onS_intro (eqTC_ints rfl rfl rfl rfl numA) ?_ | refine onS_intro (mapB_u8s _) ?_ | refine And.intro flatA ?_); (try (conv => whnf)))))
          refine hK (above m, j / 2, a :: r) _ _ rfl (Wk.go ?_ rfl ?_ rfl) ?_ ?_
          all_goals (try (repeat' (first | exact trivial | rfl | exact .inl rfl | exact .inr rfl | refine ⟨?_, ?_⟩)))
          all_goals (first | exact above_hs hmh | (simp only; omega) | (show way l i = (a :: r) ++ way (above m) (j / 2); rw [hw, hw1]))
    · rw [way_one j (by omega), List.append_nil] at hw
      cases acc with
      | nil =>
        ((try (conv => whnf)); (repeat ((first | refine br_true yesA ?_ | refine br_false noA ?_ | refine onS_map numA ?_ | refine onS_intro (eqTC_ints rfl rfl rfl rfl numA) ?_ | refine onS_intro (mapB_u8s _) ?_ | refine And.intro flatA ?_); (try (conv => whnf)))))
        rw [hw]
        (first | exact D.le.refl _ | (simp only [chk_eq]; exact D.le.refl _))
      | cons a r =>
        ((try (conv => whnf)); (repeat ((first | refine br_true yesA ?_ | refine br_false noA ?_ | refine onS_map numA ?_ | refine onS_intro (eqTC_ints rfl rfl rfl rfl numA) ?_ | refine onS_intro (mapB_u8s _) ?_ | refine And.intro flatA ?_); (try (conv => whnf)))))
        rw [hw]
        (first | exact D.le.refl _ | (simp only [chk_eq]; exact D.le.refl _))
  all_goals (try (repeat' (first | exact trivial | rfl | exact .inl rfl | exact .inr rfl | refine ⟨?_, ?_⟩)))
end Go.Fw
