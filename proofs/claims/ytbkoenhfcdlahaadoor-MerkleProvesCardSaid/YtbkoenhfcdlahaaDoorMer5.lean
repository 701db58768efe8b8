/-
Following ways. No conditions.
-/
import Derived.Test.YtbkoenhfcdlahaaDoorMer4
namespace Go.Fw
set_option linter.unusedVariables false
set_option linter.unusedSimpArgs false
open Go.Proofs
set_option maxRecDepth 10000

/-- What Follow answers, for any place. -/
theorem ret_Follow (c i : Nat) (hs : List (List Int)) (h : List Int) (hc : 0 < c) (hc2 : c ≤ 1024) (hi : i < c) (hh : Hs hs) (hl : h.length = 32) :
    Returns cx n_merkle_Follow [proofD c i hs, hashD h] (.tup (match fol c i hs h with | some g => [hashD g, .int .i64 0] | none => [hashD zero32, .int .i64 8])) := by
  (refine of_W2 (fn := f_merkle_Follow) { vis := [(3, [(4, true, [3]), (2, false, [3])])] } (by kernel_rfl) (by kernel_rfl) (by kernel_rfl) (by kernel_rfl) (by kernel_rfl) ?_)
  ((try (conv => whnf)); (repeat ((first | refine br_true yesA ?_ | refine br_false noA ?_ | refine onS_map numA ?_ | refine onS_intro (eqTC_ints rfl rfl rfl rfl numA) ?_ | refine onS_intro (mapB_u8s _) ?_ | refine And.intro flatA ?_); (try (conv => whnf)))))
  refine LoopW2_rule (fun p : Nat × Nat × List (List Int) × List Int => [(4, .ptr 2 0 [] (.arr 32 .one)), (5, .d (.int .i64 0)), (6, .ptr 3 0 [] (.arr 32 .one)), (7, .d (hashesD p.2.2.1)), (8, .d (.int .i64 (p.2.1 : Nat))), (9, .d (.int .i64 (p.1 : Nat)))])
    (fun p => [none, none, some (.fix (.d (hashD zero32))), some (.fix (.d (hashD p.2.2.2)))]) (fun p => p.1 ≤ 1024 ∧ p.2.1 < p.1 ∧ Hs p.2.2.1 ∧ p.2.2.2.length = 32 ∧ fol c i hs h = fol p.1 p.2.1 p.2.2.1 p.2.2.2) (fun p => p.1) _ rfl (c, i, hs, h)
    (Wk.go ?_ rfl ?_ rfl) ⟨hc2, hi, hh, hl, rfl⟩ ?_
  rotate_left 2
  · rintro ⟨d, j, ks, g⟩ K ⟨hd, hj, hkh, hg, hf⟩ hK
    simp only at hd hj hkh hg hf hK ⊢
    have xj := xorW1 j (by omega)
    by_cases h : 1 < d
    · have hu := join_len j g
      have r2 : (j : Int) % 2 = 0 ↔ j % 2 = 0 := by omega
      by_cases hs : sib j < d
      · cases ks with
        | nil =>
          rw [fol_none h hs] at hf
          rw [hf]
          ((try (conv => whnf)); (repeat ((first | refine br_true yesA ?_ | refine br_false noA ?_ | refine onS_map numA ?_ | refine onS_intro (eqTC_ints rfl rfl rfl rfl numA) ?_ | refine onS_intro (mapB_u8s _) ?_ | refine And.intro flatA ?_); (try (conv => whnf)))))
          exact D.le.refl _
        | cons x r =>
          rw [fol_step h hs] at hf
          have hx := hkh x (by simp)
          have hr : Hs r := fun y hy => hkh y (by simp [hy])
          unfold join at hf
          by_cases h2 : j % 2 = 0
          · rw [if_pos h2] at hf
            have hn := node_len g x
            ((try (conv => whnf)); (repeat ((first | refine br_true yesA ?_ | refine br_false noA ?_ | refine onS_map numA ?_ | refine onS_intro (eqTC_ints rfl rfl rfl rfl numA) ?_ | refine onS_intro (mapB_u8s _) ?_ | refine And.intro flatA ?_); (try (conv => whnf)))))
            ((first | refine call_intro (ret_node g x hg hx) (les_refl _) ?_ | refine call_intro (ret_node g x hg hx) lesA ?_); (try (conv => whnf)))
            ((try (conv => whnf)); (repeat ((first | refine br_true yesA ?_ | refine br_false noA ?_ | refine onS_map numA ?_ | refine onS_intro (eqTC_ints rfl rfl rfl rfl numA) ?_ | refine onS_intro (mapB_u8s _) ?_ | refine And.intro flatA ?_); (try (conv => whnf)))))
            refine hK ((d + 1) / 2, j / 2, r, node g x) _ _ rfl (Wk.go ?_ rfl ?_ rfl) ?_ ?_
            all_goals (try (repeat' (first | exact trivial | rfl | exact .inl rfl | exact .inr rfl | refine ⟨?_, ?_⟩)))
            all_goals (first | exact hr | exact hn | exact hf | (simp only; omega))
          · rw [if_neg h2] at hf
            have hn := node_len x g
            ((try (conv => whnf)); (repeat ((first | refine br_true yesA ?_ | refine br_false noA ?_ | refine onS_map numA ?_ | refine onS_intro (eqTC_ints rfl rfl rfl rfl numA) ?_ | refine onS_intro (mapB_u8s _) ?_ | refine And.intro flatA ?_); (try (conv => whnf)))))
            ((first | refine call_intro (ret_node x g hx hg) (les_refl _) ?_ | refine call_intro (ret_node x g hx hg) lesA ?_); (try (conv => whnf)))
            ((try (conv => whnf)); (repeat ((first | refine br_true yesA ?_ | refine br_false noA ?_ | refine onS_map numA ?_ | refine onS_intro (eqTC_ints rfl rfl rfl rfl numA) ?_ | refine onS_intro (mapB_u8s _) ?_ | refine And.intro flatA ?_); (try (conv => whnf)))))
            refine hK ((d + 1) / 2, j / 2, r, node x g) _ _ rfl (Wk.go ?_ rfl ?_ rfl) ?_ ?_
            all_goals (try (repeat' (first | exact trivial | rfl | exact .inl rfl | exact .inr rfl | refine ⟨?_, ?_⟩)))
            all_goals (first | exact hr | exact hn | exact hf | (simp only; omega))
      · rw [fol_lone h (by omega)] at hf
        ((try (conv => whnf)); (repeat ((first | refine br_true yesA ?_ | refine br_false noA ?_ | refine onS_map numA ?_ | refine onS_intro (eqTC_ints rfl rfl rfl rfl numA) ?_ | refine onS_intro (mapB_u8s _) ?_ | refine And.intro flatA ?_); (try (conv => whnf)))))
        refine hK ((d + 1) / 2, j / 2, ks, g) _ _ rfl (Wk.go ?_ rfl ?_ rfl) ?_ ?_
        all_goals (try (repeat' (first | exact trivial | rfl | exact .inl rfl | exact .inr rfl | refine ⟨?_, ?_⟩)))
        all_goals (first | exact hkh | exact hg | exact hf | (simp only; omega))
    · cases ks with
      | nil =>
        rw [fol_end (by omega)] at hf
        rw [hf]
        ((try (conv => whnf)); (repeat ((first | refine br_true yesA ?_ | refine br_false noA ?_ | refine onS_map numA ?_ | refine onS_intro (eqTC_ints rfl rfl rfl rfl numA) ?_ | refine onS_intro (mapB_u8s _) ?_ | refine And.intro flatA ?_); (try (conv => whnf)))))
        (first | exact D.le.refl _ | (simp only [chk_eq]; exact D.le.refl _))
      | cons x r =>
        rw [fol_rest (by omega)] at hf
        rw [hf]
        ((try (conv => whnf)); (repeat ((first | refine br_true yesA ?_ | refine br_false noA ?_ | refine onS_map numA ?_ | refine onS_intro (eqTC_ints rfl rfl rfl rfl numA) ?_ | refine onS_intro (mapB_u8s _) ?_ | refine And.intro flatA ?_); (try (conv => whnf)))))
        (first | exact D.le.refl _ | (simp only [chk_eq]; exact D.le.refl _))
  all_goals (try (repeat' (first | exact trivial | rfl | exact .inl rfl | exact .inr rfl | refine ⟨?_, ?_⟩)))

/-- Places that no tree has. -/
theorem ret_Follow_bad (c i : Int) (hs : List (List Int)) (h : List Int) (hci : inK .i64 c) (hii : inK .i64 i) (hb : c < 1 ∨ 1024 < c ∨ i < 0 ∨ c ≤ i) :
    Returns cx n_merkle_Follow [.st [.int .i64 c, .int .i64 i, hashesD hs], hashD h] (.tup [hashD zero32, .int .i64 5]) := by
  (refine of_W2 (fn := f_merkle_Follow) { vis := [(3, [(4, true, [3]), (2, false, [3])])] } (by kernel_rfl) (by kernel_rfl) (by kernel_rfl) (by kernel_rfl) (by kernel_rfl) ?_)
  by_cases h1 : c < 1
  · ((try (conv => whnf)); (repeat ((first | refine br_true yesA ?_ | refine br_false noA ?_ | refine onS_map numA ?_ | refine onS_intro (eqTC_ints rfl rfl rfl rfl numA) ?_ | refine onS_intro (mapB_u8s _) ?_ | refine And.intro flatA ?_); (try (conv => whnf)))))
    exact D.le.refl _
  · by_cases h2 : 1024 < c
    · ((try (conv => whnf)); (repeat ((first | refine br_true yesA ?_ | refine br_false noA ?_ | refine onS_map numA ?_ | refine onS_intro (eqTC_ints rfl rfl rfl rfl numA) ?_ | refine onS_intro (mapB_u8s _) ?_ | refine And.intro flatA ?_); (try (conv => whnf)))))
      exact D.le.refl _
    · by_cases h3 : i < 0
      · ((try (conv => whnf)); (repeat ((first | refine br_true yesA ?_ | refine br_false noA ?_ | refine onS_map numA ?_ | refine onS_intro (eqTC_ints rfl rfl rfl rfl numA) ?_ | refine onS_intro (mapB_u8s _) ?_ | refine And.intro flatA ?_); (try (conv => whnf)))))
        exact D.le.refl _
      · by_cases h4 : c ≤ i
        · ((try (conv => whnf)); (repeat ((first | refine br_true yesA ?_ | refine br_false noA ?_ | refine onS_map numA ?_ | refine onS_intro (eqTC_ints rfl rfl rfl rfl numA) ?_ | refine onS_intro (mapB_u8s _) ?_ | refine And.intro flatA ?_); (try (conv => whnf)))))
          exact D.le.refl _
        · omega

def pairD (p : List Int × List Int) : D := .arr 2 (.arr 32 .one) [hashD p.1, hashD p.2]
def pairsD : List (List Int × List Int) → D
  | [] => .nils
  | a :: r => .ro (.arr 2 (.arr 32 .one)) false ((a :: r).map pairD)

def prV : List (List Int × List Int) → V
  | [] => .d .nils
  | _ :: r => .sl 4 0 r.length
def prH (P : D) (g : List Int) : List (List Int × List Int) → Heap
  | [] => [some (.fix (.d P)), some (.fix (.d (hashD g)))]
  | a :: r => [some (.fix (.d P)), some (.fix (.d (hashD g))), none, none, some (.grow r.length (.arr 2 (.arr 32 .one)) ((a :: r).map pairD))]

theorem ret_pairs (c i : Nat) (hs : List (List Int)) (h : List Int) (hc : 0 < c) (hc2 : c ≤ 1024) (hi : i < c) (hsl : hs.length ≤ 1000) (hh : Hs hs) (hl : h.length = 32) :
    Returns cx n_lightclientlaw07_pairs [proofD c i hs, hashD h] (pairsD (prs c i hs h)) := by
  (refine of_W2 (fn := f_lightclientlaw07_pairs) { vis := [(11, [(2, true, []), (3, true, [3, 4, 6]), (5, false, [3, 4, 6]), (7, false, [3, 4, 6])])] } (by kernel_rfl) (by kernel_rfl) (by kernel_rfl) (by kernel_rfl) (by kernel_rfl) ?_)
  ((try (conv => whnf)); (repeat ((first | refine br_true yesA ?_ | refine br_false noA ?_ | refine onS_map numA ?_ | refine onS_intro (eqTC_ints rfl rfl rfl rfl numA) ?_ | refine onS_intro (mapB_u8s _) ?_ | refine And.intro flatA ?_); (try (conv => whnf)))))
  refine LoopW2_rule (fun p : Nat × Nat × Nat × List (List Int × List Int) × List Int => [(2, .ptr 0 0 [] (.st [.one, .one, .one])), (3, .ptr 1 0 [] (.arr 32 .one)), (5, prV p.2.2.2.1), (6, .d (.int .i64 (p.2.1 : Nat))), (7, .d (.int .i64 (p.2.2.1 : Nat))), (8, .d (.int .i64 (p.1 : Nat)))])
    (fun p => prH (proofD c i hs) p.2.2.2.2 p.2.2.2.1)
    (fun p => p.1 ≤ 1024 ∧ p.2.1 < p.1 ∧ p.2.2.1 ≤ hs.length ∧ p.2.2.2.1.length = p.2.2.1 ∧ p.2.2.2.2.length = 32 ∧ prs c i hs h = p.2.2.2.1 ++ prs p.1 p.2.1 (hs.drop p.2.2.1) p.2.2.2.2) (fun p => p.1) _ rfl (c, i, 0, [], h)
    (Wk.go ?_ rfl ?_ rfl) ⟨hc2, hi, by simp, rfl, hl, rfl⟩ ?_
  rotate_left 2
  · rintro ⟨d, j, k, acc, g⟩ K ⟨hd, hj, hk, hac, hg, hf⟩ hK
    simp only at hd hj hk hac hg hf hK ⊢
    have xj := xorW1 j (by omega)
    by_cases hq : 1 < d
    · have hu := join_len j g
      by_cases hs' : sib j < d
      · by_cases hk2 : k < hs.length
        · have hx := hh.get hk2
          have hdr : hs.drop k = hs.getD k [] :: hs.drop (k + 1) := by
            rw [List.drop_eq_getElem_cons hk2, getD_get _ _ _ hk2]
          rw [hdr, prs_step hq hs'] at hf
          by_cases h2 : j % 2 = 0
          · have h3 : ¬ sib j < j := by unfold sib; rw [if_pos h2]; omega
            have hn := node_len g (hs.getD k [])
            have ej : join j g (hs.getD k []) = node g (hs.getD k []) := if_pos h2
            have et : two j g (hs.getD k []) = (g, hs.getD k []) := if_pos h2
            rw [ej, et] at hf
            cases acc with
            | nil =>
              ((try (conv => whnf)); (repeat ((first | refine br_true yesA ?_ | refine br_false noA ?_ | refine onS_map numA ?_ | refine onS_intro (eqTC_ints rfl rfl rfl rfl numA) ?_ | refine onS_intro (mapB_u8s _) ?_ | refine And.intro flatA ?_); (try (conv => whnf)))))
              ((first | refine call_intro (ret_node g (hs.getD k []) hg hx) (les_refl _) ?_ | refine call_intro (ret_node g (hs.getD k []) hg hx) lesA ?_); (try (conv => whnf)))
              ((try (conv => whnf)); (repeat ((first | refine br_true yesA ?_ | refine br_false noA ?_ | refine onS_map numA ?_ | refine onS_intro (eqTC_ints rfl rfl rfl rfl numA) ?_ | refine onS_intro (mapB_u8s _) ?_ | refine And.intro flatA ?_); (try (conv => whnf)))))
              refine hK ((d + 1) / 2, j / 2, k + 1, [(g, hs.getD k [])], node g (hs.getD k [])) _ _ rfl (Wk.go ?_ rfl ?_ rfl) ?_ ?_
              all_goals (try (repeat' (first | exact trivial | rfl | exact .inl rfl | exact .inr rfl | refine ⟨?_, ?_⟩)))
              all_goals (first | exact hn | (rw [hf]; rfl) | (simp only; omega) | (simp at hac ⊢; omega) | exact congrArg (fun n => V.sl 4 0 n) (by simp) | (refine .inr ?_; rw [List.length_append, ← List.cons_append, List.map_append]; rfl))
            | cons a r =>
              have hr : r.length < 1000 := by simp at hac; omega
              ((try (conv => whnf)); (repeat ((first | refine br_true yesA ?_ | refine br_false noA ?_ | refine onS_map numA ?_ | refine onS_intro (eqTC_ints rfl rfl rfl rfl numA) ?_ | refine onS_intro (mapB_u8s _) ?_ | refine And.intro flatA ?_); (try (conv => whnf)))))
              ((first | refine call_intro (ret_node g (hs.getD k []) hg hx) (les_refl _) ?_ | refine call_intro (ret_node g (hs.getD k []) hg hx) lesA ?_); (try (conv => whnf)))
              ((try (conv => whnf)); (repeat ((first | refine br_true yesA ?_ | refine br_false noA ?_ | refine onS_map numA ?_ | refine onS_intro (eqTC_ints rfl rfl rfl rfl numA) ?_ | refine onS_intro (mapB_u8s _) ?_ | refine And.intro flatA ?_); (try (conv => whnf)))))
              refine hK ((d + 1) / 2, j / 2, k + 1, a :: (r ++ [(g, hs.getD k [])]), node g (hs.getD k [])) _ _ rfl (Wk.go ?_ rfl ?_ rfl) ?_ ?_
              all_goals (try (repeat' (first | exact trivial | rfl | exact .inl rfl | exact .inr rfl | refine ⟨?_, ?_⟩)))
              all_goals (first | exact hn | (rw [hf]; simp; done) | (simp only; omega) | (simp at hac ⊢; omega) | exact congrArg (fun n => V.sl 4 0 n) (by simp) | (refine .inr ?_; rw [List.length_append, ← List.cons_append, List.map_append]; rfl))
          · have h3 : sib j < j := by unfold sib; rw [if_neg h2]; omega
            have hn := node_len (hs.getD k []) g
            have ej : join j g (hs.getD k []) = node (hs.getD k []) g := if_neg h2
            have et : two j g (hs.getD k []) = (hs.getD k [], g) := if_neg h2
            rw [ej, et] at hf
            cases acc with
            | nil =>
              ((try (conv => whnf)); (repeat ((first | refine br_true yesA ?_ | refine br_false noA ?_ | refine onS_map numA ?_ | refine onS_intro (eqTC_ints rfl rfl rfl rfl numA) ?_ | refine onS_intro (mapB_u8s _) ?_ | refine And.intro flatA ?_); (try (conv => whnf)))))
              ((first | refine call_intro (ret_node (hs.getD k []) g hx hg) (les_refl _) ?_ | refine call_intro (ret_node (hs.getD k []) g hx hg) lesA ?_); (try (conv => whnf)))
              ((try (conv => whnf)); (repeat ((first | refine br_true yesA ?_ | refine br_false noA ?_ | refine onS_map numA ?_ | refine onS_intro (eqTC_ints rfl rfl rfl rfl numA) ?_ | refine onS_intro (mapB_u8s _) ?_ | refine And.intro flatA ?_); (try (conv => whnf)))))
              refine hK ((d + 1) / 2, j / 2, k + 1, [(hs.getD k [], g)], node (hs.getD k []) g) _ _ rfl (Wk.go ?_ rfl ?_ rfl) ?_ ?_
              all_goals (try (repeat' (first | exact trivial | rfl | exact .inl rfl | exact .inr rfl | refine ⟨?_, ?_⟩)))
              all_goals (first | exact hn | (rw [hf]; rfl) | (simp only; omega) | (simp at hac ⊢; omega) | exact congrArg (fun n => V.sl 4 0 n) (by simp) | (refine .inr ?_; rw [List.length_append, ← List.cons_append, List.map_append]; rfl))
            | cons a r =>
              have hr : r.length < 1000 := by simp at hac; omega
              ((try (conv => whnf)); (repeat ((first | refine br_true yesA ?_ | refine br_false noA ?_ | refine onS_map numA ?_ | refine onS_intro (eqTC_ints rfl rfl rfl rfl numA) ?_ | refine onS_intro (mapB_u8s _) ?_ | refine And.intro flatA ?_); (try (conv => whnf)))))
              ((first | refine call_intro (ret_node (hs.getD k []) g hx hg) (les_refl _) ?_ | refine call_intro (ret_node (hs.getD k []) g hx hg) lesA ?_); (try (conv => whnf)))
              ((try (conv => whnf)); (repeat ((first | refine br_true yesA ?_ | refine br_false noA ?_ | refine onS_map numA ?_ | refine onS_intro (eqTC_ints rfl rfl rfl rfl numA) ?_ | refine onS_intro (mapB_u8s _) ?_ | refine And.intro flatA ?_); (try (conv => whnf)))))
              refine hK ((d + 1) / 2, j / 2, k + 1, a :: (r ++ [(hs.getD k [], g)]), node (hs.getD k []) g) _ _ rfl (Wk.go ?_ rfl ?_ rfl) ?_ ?_
              all_goals (try (repeat' (first | exact trivial | rfl | exact .inl rfl | exact .inr rfl | refine ⟨?_, ?_⟩)))
              all_goals (first | exact hn | (rw [hf]; simp; done) | (simp only; omega) | (simp at hac ⊢; omega) | exact congrArg (fun n => V.sl 4 0 n) (by simp) | (refine .inr ?_; rw [List.length_append, ← List.cons_append, List.map_append]; rfl))
        · have hdr : hs.drop k = [] := List.drop_eq_nil_of_le (by omega)
          rw [hdr, prs_none hq, ← hdr] at hf
          cases acc with
          | nil =>
            ((try (conv => whnf)); (repeat ((first | refine br_true yesA ?_ | refine br_false noA ?_ | refine onS_map numA ?_ | refine onS_intro (eqTC_ints rfl rfl rfl rfl numA) ?_ | refine onS_intro (mapB_u8s _) ?_ | refine And.intro flatA ?_); (try (conv => whnf)))))
            refine hK ((d + 1) / 2, j / 2, k, [], g) _ _ rfl (Wk.go ?_ rfl ?_ rfl) ?_ ?_
            all_goals (try (repeat' (first | exact trivial | rfl | exact .inl rfl | exact .inr rfl | refine ⟨?_, ?_⟩)))
            all_goals (first | exact hf | exact hg | exact hac | (simp only; omega))
          | cons a r =>
            ((try (conv => whnf)); (repeat ((first | refine br_true yesA ?_ | refine br_false noA ?_ | refine onS_map numA ?_ | refine onS_intro (eqTC_ints rfl rfl rfl rfl numA) ?_ | refine onS_intro (mapB_u8s _) ?_ | refine And.intro flatA ?_); (try (conv => whnf)))))
            refine hK ((d + 1) / 2, j / 2, k, a :: r, g) _ _ rfl (Wk.go ?_ rfl ?_ rfl) ?_ ?_
            all_goals (try (repeat' (first | exact trivial | rfl | exact .inl rfl | exact .inr rfl | refine ⟨?_, ?_⟩)))
            all_goals (first | exact hf | exact hg | exact hac | (simp only; omega))
      · rw [prs_lone hq (by omega)] at hf
        cases acc with
        | nil =>
          ((try (conv => whnf)); (repeat ((first | refine br_true yesA ?_ | refine br_false noA ?_ | refine onS_map numA ?_ | refine onS_intro (eqTC_ints rfl rfl rfl rfl numA) ?_ | refine onS_intro (mapB_u8s _) ?_ | refine And.intro flatA ?_); (try (conv => whnf)))))
          refine hK ((d + 1) / 2, j / 2, k, [], g) _ _ rfl (Wk.go ?_ rfl ?_ rfl) ?_ ?_
          all_goals (try (repeat' (first | exact trivial | rfl | exact .inl rfl | exact .inr rfl | refine ⟨?_, ?_⟩)))
          all_goals (first | exact hf | exact hg | exact hac | (simp only; omega))
        | cons a r =>
          ((try (conv => whnf)); (repeat ((first | refine br_true yesA ?_ | refine br_false noA ?_ | refine onS_map numA ?_ | refine onS_intro (eqTC_ints rfl rfl rfl rfl numA) ?_ | refine onS_intro (mapB_u8s _) ?_ | refine And.intro flatA ?_); (try (conv => whnf)))))
          refine hK ((d + 1) / 2, j / 2, k, a :: r, g) _ _ rfl (Wk.go ?_ rfl ?_ rfl) ?_ ?_
          all_goals (try (repeat' (first | exact trivial | rfl | exact .inl rfl | exact .inr rfl | refine ⟨?_, ?_⟩)))
          all_goals (first | exact hf | exact hg | exact hac | (simp only; omega))
    · rw [prs_end (c := d) (by omega), List.append_nil] at hf
      rw [hf]
      cases acc with
      | nil =>
        ((try (conv => whnf)); (repeat ((first | refine br_true yesA ?_ | refine br_false noA ?_ | refine onS_map numA ?_ | refine onS_intro (eqTC_ints rfl rfl rfl rfl numA) ?_ | refine onS_intro (mapB_u8s _) ?_ | refine And.intro flatA ?_); (try (conv => whnf)))))
        (first | exact D.le.refl _ | (simp only [chk_eq]; exact D.le.refl _))
      | cons a r =>
        ((try (conv => whnf)); (repeat ((first | refine br_true yesA ?_ | refine br_false noA ?_ | refine onS_map numA ?_ | refine onS_intro (eqTC_ints rfl rfl rfl rfl numA) ?_ | refine onS_intro (mapB_u8s _) ?_ | refine And.intro flatA ?_); (try (conv => whnf)))))
        (first | exact D.le.refl _ | (simp only [chk_eq]; exact D.le.refl _))
  all_goals (try (repeat' (first | exact trivial | rfl | exact .inl rfl | exact .inr rfl | refine ⟨?_, ?_⟩)))
end Go.Fw
