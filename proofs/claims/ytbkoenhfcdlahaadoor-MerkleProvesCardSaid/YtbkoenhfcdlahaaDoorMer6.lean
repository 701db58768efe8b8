/-
The laws MerkleProves and MerkleBinds. No conditions.
-/
import Derived.Test.YtbkoenhfcdlahaaDoorMer2
import Derived.Test.YtbkoenhfcdlahaaDoorMer5
namespace Go.Fw
set_option linter.unusedVariables false
set_option linter.unusedSimpArgs false
open Go.Proofs
set_option maxRecDepth 10000

theorem le_proof (c i : Nat) (w : List (List Int)) : D.le (.st [.int .i64 (c : Nat), .int .i64 (i : Nat), madeD w]) (proofD c i w) := by
  cases w with
  | nil =>
    refine D.le.st _ _ rfl (fun j x y hx hy => ?_) rfl
    match j, hx, hy with
    | 0, hx, hy => cases hx; cases hy; exact D.le.refl _
    | 1, hx, hy => cases hx; cases hy; exact D.le.refl _
    | 2, hx, hy => cases hx; cases hy; exact D.le.nils _
    | n + 3, hx, hy => simp at hx
  | cons a r => exact D.le.refl _

theorem ret_MerkleProves (l : List (List Int)) (i : Nat) (hi : i < 256) (hh : Hs l) : Returns cx n_lightclientlaw07_MerkleProves [hashesD l, .int .u8 (i : Nat)] (.bool true) := by
  (refine of_W2 (fn := f_lightclientlaw07_MerkleProves) {} (by kernel_rfl) (by kernel_rfl) (by kernel_rfl) (by kernel_rfl) (by kernel_rfl) ?_)
  ((try (conv => whnf)); (repeat ((first | refine br_true yesA ?_ | refine br_false noA ?_ | refine onS_map numA ?_ | refine onS_intro (eqTC_ints rfl rfl rfl rfl numA) ?_ | refine onS_intro (mapB_u8s _) ?_ | refine And.intro flatA ?_); (try (conv => whnf)))))
  ((first | refine call_intro (ret_sane07) (les_refl _) ?_ | refine call_intro (ret_sane07) lesA ?_); (try (conv => whnf)))
  ((try (conv => whnf)); (repeat ((first | refine br_true yesA ?_ | refine br_false noA ?_ | refine onS_map numA ?_ | refine onS_intro (eqTC_ints rfl rfl rfl rfl numA) ?_ | refine onS_intro (mapB_u8s _) ?_ | refine And.intro flatA ?_); (try (conv => whnf)))))
  ((first | refine call_intro (ret_kept l) (les_refl _) ?_ | refine call_intro (ret_kept l) lesA ?_); (try (conv => whnf)))
  by_cases h40 : l.length ≤ 40
  · rw [decide_eq_true h40]
    by_cases h0 : l.length = 0
    · ((try (conv => whnf)); (repeat ((first | refine br_true yesA ?_ | refine br_false noA ?_ | refine onS_map numA ?_ | refine onS_intro (eqTC_ints rfl rfl rfl rfl numA) ?_ | refine onS_intro (mapB_u8s _) ?_ | refine And.intro flatA ?_); (try (conv => whnf)))))
      (first | exact D.le.refl _ | (simp only [chk_eq]; exact D.le.refl _))
    · have hm : i % l.length < l.length := Nat.mod_lt _ (by omega)
      have hw := way_short 6 l (i % l.length) (by omega)
      have hws := way_hs _ l (i % l.length) rfl hh
      have hf := fol_way _ l (i % l.length) rfl hm
      have hg := hh.get hm
      have hr := root_len _ l rfl hh (by omega)
      ((try (conv => whnf)); (repeat ((first | refine br_true yesA ?_ | refine br_false noA ?_ | refine onS_map numA ?_ | refine onS_intro (eqTC_ints rfl rfl rfl rfl numA) ?_ | refine onS_intro (mapB_u8s _) ?_ | refine And.intro flatA ?_); (try (conv => whnf)))))
      rw [show ((i : Int) % ((l.map hashD).length : Int)) = ((i % l.length : Nat) : Int) by simp]
      generalize i % l.length = k at *
      have ro : rootOr l = root l := by unfold rootOr; rw [if_neg (by omega)]
      have hp := ret_Path l k (by omega) hm hh
      generalize way l k = w at *
      cases w with
      | nil =>
        refine call_intro hp (les_of_eq rfl) ?_
        ((try (conv => whnf)); (repeat ((first | refine br_true yesA ?_ | refine br_false noA ?_ | refine onS_map numA ?_ | refine onS_intro (eqTC_ints rfl rfl rfl rfl numA) ?_ | refine onS_intro (mapB_u8s _) ?_ | refine And.intro flatA ?_); (try (conv => whnf)))))
        refine call_intro (ret_Follow l.length k [] (l.getD k []) (by omega) (by omega) hm hws hg) ?_ ?_
        · exact And.intro (le_proof _ _ []) (And.intro (D.le.refl _) trivial)
        rw [hf]
        ((try (conv => whnf)); (repeat ((first | refine br_true yesA ?_ | refine br_false noA ?_ | refine onS_map numA ?_ | refine onS_intro (eqTC_ints rfl rfl rfl rfl numA) ?_ | refine onS_intro (mapB_u8s _) ?_ | refine And.intro flatA ?_); (try (conv => whnf)))))
        ((first | refine call_intro (ret_root l (by omega) hh) (les_refl _) ?_ | refine call_intro (ret_root l (by omega) hh) lesA ?_); (try (conv => whnf)))
        rw [ro]
        ((try (conv => whnf)); (repeat ((first | refine br_true yesA ?_ | refine br_false noA ?_ | refine onS_map numA ?_ | refine onS_intro (eqTC_ints rfl rfl rfl rfl numA) ?_ | refine onS_intro (mapB_u8s _) ?_ | refine And.intro flatA ?_); (try (conv => whnf)))))
        (refine le_true yesA)
      | cons a r =>
        simp only [List.length_cons] at hw
        refine call_intro hp (les_of_eq rfl) ?_
        ((try (conv => whnf)); (repeat ((first | refine br_true yesA ?_ | refine br_false noA ?_ | refine onS_map numA ?_ | refine onS_intro (eqTC_ints rfl rfl rfl rfl numA) ?_ | refine onS_intro (mapB_u8s _) ?_ | refine And.intro flatA ?_); (try (conv => whnf)))))
        refine call_intro (ret_Follow l.length k (a :: r) (l.getD k []) (by omega) (by omega) hm hws hg) ?_ ?_
        · exact And.intro (D.le.refl _) (And.intro (D.le.refl _) trivial)
        rw [hf]
        ((try (conv => whnf)); (repeat ((first | refine br_true yesA ?_ | refine br_false noA ?_ | refine onS_map numA ?_ | refine onS_intro (eqTC_ints rfl rfl rfl rfl numA) ?_ | refine onS_intro (mapB_u8s _) ?_ | refine And.intro flatA ?_); (try (conv => whnf)))))
        ((first | refine call_intro (ret_root l (by omega) hh) (les_refl _) ?_ | refine call_intro (ret_root l (by omega) hh) lesA ?_); (try (conv => whnf)))
        rw [ro]
        ((try (conv => whnf)); (repeat ((first | refine br_true yesA ?_ | refine br_false noA ?_ | refine onS_map numA ?_ | refine onS_intro (eqTC_ints rfl rfl rfl rfl numA) ?_ | refine onS_intro (mapB_u8s _) ?_ | refine And.intro flatA ?_); (try (conv => whnf)))))
        (refine le_true yesA)
  · rw [decide_eq_false h40]
    ((try (conv => whnf)); (repeat ((first | refine br_true yesA ?_ | refine br_false noA ?_ | refine onS_map numA ?_ | refine onS_intro (eqTC_ints rfl rfl rfl rfl numA) ?_ | refine onS_intro (mapB_u8s _) ?_ | refine And.intro flatA ?_); (try (conv => whnf)))))
    (first | exact D.le.refl _ | (simp only [chk_eq]; exact D.le.refl _))

theorem hash_eq {t : TypeId} {te ee : TyE} (ht : cx.ty t = some te) (hty : te.ty = .arr 32 5) (he : cx.ty 5 = some ee) (hey : ee.ty = .int .u8) {a b : List Int} (ha : a.length = 32) (hb : b.length = 32) : eqT cx 19 t (hashD a) (hashD b) = some (decide (a = b)) := by
  show (match cx.ty t with
    | none => none
    | some te => match te.ty, hashD a, hashD b with
      | .int _, .int a p, .int b q => match decide (a = b) with
        | true => some (p == q)
        | false => none
      | .bool, .bool a, .bool b => some (a == b)
      | .str, .str a, .str b => some (a == b)
      | .arr _ e, .arr _ _ xs, .arr _ _ ys => eqL (eqT cx 18 e) xs ys
      | .st fs, .st xs, .st ys => eqF (eqT cx 18) fs xs ys
      | _, _, _ => none) = _
  rw [ht]
  simp only [hty]
  refine eqL_map (fun a b => ?_) (by rw [ha, hb])
  show (match cx.ty 5 with
    | none => none
    | some te => match te.ty, D.int .u8 a, D.int .u8 b with
      | .int _, .int a p, .int b q => match decide (a = b) with
        | true => some (p == q)
        | false => none
      | .bool, .bool a, .bool b => some (a == b)
      | .str, .str a, .str b => some (a == b)
      | .arr _ e, .arr _ _ xs, .arr _ _ ys => eqL (eqT cx 17 e) xs ys
      | .st fs, .st xs, .st ys => eqF (eqT cx 17) fs xs ys
      | _, _, _ => none) = _
  rw [he]
  simp only [hey]
  by_cases h : a = b <;> simp [h]
theorem pair_eq {p q : List Int × List Int} (h1 : p.1.length = 32) (h2 : p.2.length = 32) (h3 : q.1.length = 32) (h4 : q.2.length = 32) : eqTC cx 45 (pairD p) (pairD q) = some (chk (p = q)) := by
  rw [eqTC_eq, chk_eq]
  have e1 := hash_eq (t := 24) rfl rfl rfl rfl h1 h3
  have e2 := hash_eq (t := 24) rfl rfl rfl rfl h2 h4
  have ht : cx.ty 45 = some ⟨.arr 2 24, .arr 2 (.arr 32 (.one)), 64, .arr 2 (.arr 32 (.one)) (List.replicate 2 (.arr 32 (.one) (List.replicate 32 (.int .u8 0))))⟩ := rfl
  show (match cx.ty 45 with
    | none => none
    | some te => match te.ty, pairD p, pairD q with
      | .int _, .int a p, .int b q => match decide (a = b) with
        | true => some (p == q)
        | false => none
      | .bool, .bool a, .bool b => some (a == b)
      | .str, .str a, .str b => some (a == b)
      | .arr _ e, .arr _ _ xs, .arr _ _ ys => eqL (eqT cx 19 e) xs ys
      | .st fs, .st xs, .st ys => eqF (eqT cx 19) fs xs ys
      | _, _, _ => none) = _
  rw [ht]
  show eqL (eqT cx 19 24) [hashD p.1, hashD p.2] [hashD q.1, hashD q.2] = _
  simp only [eqL, e1, e2]
  congr 1
  rw [Bool.eq_iff_iff]
  simp [Prod.ext_iff]

def Ps (l : List (List Int × List Int)) : Prop := ∀ p ∈ l, p.1.length = 32 ∧ p.2.length = 32
theorem prs_ps : ∀ (n c i : Nat) (hs : List (List Int)) (h : List Int), c ≤ n + 1 → Hs hs → h.length = 32 → Ps (prs c i hs h)
  | 0, c, i, hs, h, hc, _, _ => by rw [prs_end (by omega)]; intro p hp; simp at hp
  | n + 1, c, i, hs, h, hc, hh, hl => by
    by_cases h1 : 1 < c
    · by_cases h2 : c ≤ sib i
      · rw [prs_lone h1 h2]; exact prs_ps n _ _ _ _ (by omega) hh hl
      · cases hs with
        | nil => rw [prs_none h1]; exact prs_ps n _ _ _ _ (by omega) hh hl
        | cons x r =>
          rw [prs_step h1 (by omega)]
          intro p hp
          rcases List.mem_cons.1 hp with rfl | hp
          · have hx := hh x (by simp)
            unfold two; split <;> exact ⟨by assumption, by assumption⟩
          · exact prs_ps n _ _ _ _ (by omega) (fun y hy => hh y (by simp [hy])) (join_len _ _ _) p hp
    · rw [prs_end (by omega)]; intro p hp; simp at hp
theorem prs_short : ∀ (n c i : Nat) (hs : List (List Int)) (h : List Int), c ≤ n + 1 → (prs c i hs h).length ≤ hs.length
  | 0, c, i, hs, h, hc => by rw [prs_end (by omega)]; simp
  | n + 1, c, i, hs, h, hc => by
    by_cases h1 : 1 < c
    · by_cases h2 : c ≤ sib i
      · rw [prs_lone h1 h2]; exact prs_short n _ _ _ _ (by omega)
      · cases hs with
        | nil => rw [prs_none h1]; exact prs_short n _ _ _ _ (by omega)
        | cons x r =>
          rw [prs_step h1 (by omega), List.length_cons, List.length_cons]
          have := prs_short n ((c + 1) / 2) (i / 2) r (join i h x) (by omega)
          omega
    · rw [prs_end (by omega)]; simp
theorem pairsD_ne {s : List (List Int × List Int)} (h : 0 < s.length) : pairsD s = .ro (.arr 2 (.arr 32 .one)) false (s.map pairD) := by
  cases s with
  | nil => simp at h
  | cons a r => rfl

theorem ret_MerkleBinds (c i : Int) (l m : List (List Int)) (a b : List Int) (hc : inK .i64 c) (hi : inK .i64 i) (hhl : Hs l) (hhm : Hs m) (ha : a.length = 32) (hb : b.length = 32) :
    Returns cx n_lightclientlaw07_MerkleBinds [.int .i64 c, .int .i64 i, hashesD l, hashesD m, hashD a, hashD b] (.bool true) := by
  have hz : zero32.length = 32 := rfl
  (refine of_W2 (fn := f_lightclientlaw07_MerkleBinds) {} (by kernel_rfl) (by kernel_rfl) (by kernel_rfl) (by kernel_rfl) (by kernel_rfl) ?_)
  ((try (conv => whnf)); (repeat ((first | refine br_true yesA ?_ | refine br_false noA ?_ | refine onS_map numA ?_ | refine onS_intro (eqTC_ints rfl rfl rfl rfl numA) ?_ | refine onS_intro (mapB_u8s _) ?_ | refine And.intro flatA ?_); (try (conv => whnf)))))
  ((first | refine call_intro (ret_sane07) (les_refl _) ?_ | refine call_intro (ret_sane07) lesA ?_); (try (conv => whnf)))
  ((try (conv => whnf)); (repeat ((first | refine br_true yesA ?_ | refine br_false noA ?_ | refine onS_map numA ?_ | refine onS_intro (eqTC_ints rfl rfl rfl rfl numA) ?_ | refine onS_intro (mapB_u8s _) ?_ | refine And.intro flatA ?_); (try (conv => whnf)))))
  ((first | refine call_intro (ret_kept l) (les_refl _) ?_ | refine call_intro (ret_kept l) lesA ?_); (try (conv => whnf)))
  by_cases hl : l.length ≤ 40
  · rw [decide_eq_true hl]
    ((try (conv => whnf)); (repeat ((first | refine br_true yesA ?_ | refine br_false noA ?_ | refine onS_map numA ?_ | refine onS_intro (eqTC_ints rfl rfl rfl rfl numA) ?_ | refine onS_intro (mapB_u8s _) ?_ | refine And.intro flatA ?_); (try (conv => whnf)))))
    ((first | refine call_intro (ret_kept m) (les_refl _) ?_ | refine call_intro (ret_kept m) lesA ?_); (try (conv => whnf)))
    by_cases hm : m.length ≤ 40
    · rw [decide_eq_true hm]
      by_cases hbad : c < 1 ∨ 1024 < c ∨ i < 0 ∨ c ≤ i
      · ((try (conv => whnf)); (repeat ((first | refine br_true yesA ?_ | refine br_false noA ?_ | refine onS_map numA ?_ | refine onS_intro (eqTC_ints rfl rfl rfl rfl numA) ?_ | refine onS_intro (mapB_u8s _) ?_ | refine And.intro flatA ?_); (try (conv => whnf)))))
        ((first | refine call_intro (ret_Follow_bad c i l a hc hi hbad) (les_refl _) ?_ | refine call_intro (ret_Follow_bad c i l a hc hi hbad) lesA ?_); (try (conv => whnf)))
        ((try (conv => whnf)); (repeat ((first | refine br_true yesA ?_ | refine br_false noA ?_ | refine onS_map numA ?_ | refine onS_intro (eqTC_ints rfl rfl rfl rfl numA) ?_ | refine onS_intro (mapB_u8s _) ?_ | refine And.intro flatA ?_); (try (conv => whnf)))))
        ((first | refine call_intro (ret_Follow_bad c i m b hc hi hbad) (les_refl _) ?_ | refine call_intro (ret_Follow_bad c i m b hc hi hbad) lesA ?_); (try (conv => whnf)))
        ((try (conv => whnf)); (repeat ((first | refine br_true yesA ?_ | refine br_false noA ?_ | refine onS_map numA ?_ | refine onS_intro (eqTC_ints rfl rfl rfl rfl numA) ?_ | refine onS_intro (mapB_u8s _) ?_ | refine And.intro flatA ?_); (try (conv => whnf)))))
        (first | exact D.le.refl _ | (simp only [chk_eq]; exact D.le.refl _))
      · obtain ⟨c, rfl⟩ := Int.eq_ofNat_of_zero_le (show 0 ≤ c by omega)
        obtain ⟨i, rfl⟩ := Int.eq_ofNat_of_zero_le (show 0 ≤ i by omega)
        have f1 := ret_Follow c i l a (by omega) (by omega) (by omega) hhl ha
        have f2 := ret_Follow c i m b (by omega) (by omega) (by omega) hhm hb
        cases e1 : fol c i l a with
        | none =>
          rw [e1] at f1
          ((try (conv => whnf)); (repeat ((first | refine br_true yesA ?_ | refine br_false noA ?_ | refine onS_map numA ?_ | refine onS_intro (eqTC_ints rfl rfl rfl rfl numA) ?_ | refine onS_intro (mapB_u8s _) ?_ | refine And.intro flatA ?_); (try (conv => whnf)))))
          refine call_intro f1 (les_of_eq rfl) ?_
          ((try (conv => whnf)); (repeat ((first | refine br_true yesA ?_ | refine br_false noA ?_ | refine onS_map numA ?_ | refine onS_intro (eqTC_ints rfl rfl rfl rfl numA) ?_ | refine onS_intro (mapB_u8s _) ?_ | refine And.intro flatA ?_); (try (conv => whnf)))))
          cases e2 : fol c i m b with
          | none =>
            rw [e2] at f2
            refine call_intro f2 (les_of_eq rfl) ?_
            ((try (conv => whnf)); (repeat ((first | refine br_true yesA ?_ | refine br_false noA ?_ | refine onS_map numA ?_ | refine onS_intro (eqTC_ints rfl rfl rfl rfl numA) ?_ | refine onS_intro (mapB_u8s _) ?_ | refine And.intro flatA ?_); (try (conv => whnf)))))
            (first | exact D.le.refl _ | (simp only [chk_eq]; exact D.le.refl _))
          | some g2 =>
            have l2 := fol_len c c i m b g2 (by omega) hb e2
            rw [e2] at f2
            refine call_intro f2 (les_of_eq rfl) ?_
            ((try (conv => whnf)); (repeat ((first | refine br_true yesA ?_ | refine br_false noA ?_ | refine onS_map numA ?_ | refine onS_intro (eqTC_ints rfl rfl rfl rfl numA) ?_ | refine onS_intro (mapB_u8s _) ?_ | refine And.intro flatA ?_); (try (conv => whnf)))))
            (first | exact D.le.refl _ | (simp only [chk_eq]; exact D.le.refl _))
        | some g1 =>
          have l1 := fol_len c c i l a g1 (by omega) ha e1
          rw [e1] at f1
          ((try (conv => whnf)); (repeat ((first | refine br_true yesA ?_ | refine br_false noA ?_ | refine onS_map numA ?_ | refine onS_intro (eqTC_ints rfl rfl rfl rfl numA) ?_ | refine onS_intro (mapB_u8s _) ?_ | refine And.intro flatA ?_); (try (conv => whnf)))))
          refine call_intro f1 (les_of_eq rfl) ?_
          ((try (conv => whnf)); (repeat ((first | refine br_true yesA ?_ | refine br_false noA ?_ | refine onS_map numA ?_ | refine onS_intro (eqTC_ints rfl rfl rfl rfl numA) ?_ | refine onS_intro (mapB_u8s _) ?_ | refine And.intro flatA ?_); (try (conv => whnf)))))
          cases e2 : fol c i m b with
          | none =>
            rw [e2] at f2
            refine call_intro f2 (les_of_eq rfl) ?_
            ((try (conv => whnf)); (repeat ((first | refine br_true yesA ?_ | refine br_false noA ?_ | refine onS_map numA ?_ | refine onS_intro (eqTC_ints rfl rfl rfl rfl numA) ?_ | refine onS_intro (mapB_u8s _) ?_ | refine And.intro flatA ?_); (try (conv => whnf)))))
            (first | exact D.le.refl _ | (simp only [chk_eq]; exact D.le.refl _))
          | some g2 =>
            have l2 := fol_len c c i m b g2 (by omega) hb e2
            rw [e2] at f2
            refine call_intro f2 (les_of_eq rfl) ?_
            by_cases hg : g1 = g2
            · by_cases hab : a = b
              · ((try (conv => whnf)); (repeat ((first | refine br_true yesA ?_ | refine br_false noA ?_ | refine onS_map numA ?_ | refine onS_intro (eqTC_ints rfl rfl rfl rfl numA) ?_ | refine onS_intro (mapB_u8s _) ?_ | refine And.intro flatA ?_); (try (conv => whnf)))))
                (first | exact D.le.refl _ | (simp only [chk_eq]; exact D.le.refl _))
              · subst hg
                obtain ⟨j0, p0, q0, hp0, hq0, hne, hnode⟩ := binds c c i l m a b g1 (by omega) e1 e2 hab
                have s1 := prs_ps c c i l a (by omega) hhl ha
                have s2 := prs_ps c c i m b (by omega) hhm hb
                have c1 := ret_pairs c i l a (by omega) (by omega) (by omega) (by omega) hhl ha
                have c2 := ret_pairs c i m b (by omega) (by omega) (by omega) (by omega) hhm hb
                have k1 := (List.getElem?_eq_some_iff.1 hp0).1
                have k0 := prs_short c c i l a (by omega)
                have k2 := (List.getElem?_eq_some_iff.1 hq0).1
                rw [pairsD_ne (by omega)] at c1 c2
                generalize prs c i l a = s at *
                generalize prs c i m b = t at *
                ((try (conv => whnf)); (repeat ((first | refine br_true yesA ?_ | refine br_false noA ?_ | refine onS_map numA ?_ | refine onS_intro (eqTC_ints rfl rfl rfl rfl numA) ?_ | refine onS_intro (mapB_u8s _) ?_ | refine And.intro flatA ?_); (try (conv => whnf)))))
                refine call_intro c1 (les_of_eq rfl) ?_
                ((try (conv => whnf)); (repeat ((first | refine br_true yesA ?_ | refine br_false noA ?_ | refine onS_map numA ?_ | refine onS_intro (eqTC_ints rfl rfl rfl rfl numA) ?_ | refine onS_intro (mapB_u8s _) ?_ | refine And.intro flatA ?_); (try (conv => whnf)))))
                refine call_intro c2 (les_of_eq rfl) ?_
                ((try (conv => whnf)); (repeat ((first | refine br_true yesA ?_ | refine br_false noA ?_ | refine onS_map numA ?_ | refine onS_intro (eqTC_ints rfl rfl rfl rfl numA) ?_ | refine onS_intro (mapB_u8s _) ?_ | refine And.intro flatA ?_); (try (conv => whnf)))))
                rw [List.length_map]
                refine LoopW2_rule (fun k : Nat => [(12, .d (.bool false)), (19, .d (.ro (.arr 2 (.arr 32 .one)) false (s.map pairD))), (20, .d (.ro (.arr 2 (.arr 32 .one)) false (t.map pairD))), (75, .d (.int .i64 (s.length : Nat))), (76, .d (.int .i64 (k : Nat)))]) (fun k => []) (fun k => k ≤ j0) (fun k => j0 - k) _ rfl 0
                  (Wk.go ?_ rfl ?_ rfl) (by omega) ?_
                rotate_left 2
                · intro k K hk hK
                  simp only at hk hK ⊢
                  have hks : k < s.length := by omega
                  have hkt : k < t.length := by omega
                  have mP : s.getD k default ∈ s := by rw [getD_get _ _ _ hks]; exact List.getElem_mem hks
                  have mQ : t.getD k default ∈ t := by rw [getD_get _ _ _ hkt]; exact List.getElem_mem hkt
                  have hp := s1 _ mP
                  have hq := s2 _ mQ
                  have hkj : (s.getD k default ≠ t.getD k default ∧ node (s.getD k default).1 (s.getD k default).2 = node (t.getD k default).1 (t.getD k default).2) ∨ k < j0 := by
                    rcases Nat.lt_or_ge k j0 with h | h
                    · exact .inr h
                    · have e : k = j0 := by omega
                      subst e
                      have ep : s.getD k default = p0 := by rw [List.getD_eq_getElem?_getD, hp0]; rfl
                      have eq : t.getD k default = q0 := by rw [List.getD_eq_getElem?_getD, hq0]; rfl
                      rw [ep, eq]
                      exact .inl ⟨hne, hnode⟩
                  have n1 := node_len (s.getD k default).1 (s.getD k default).2
                  have n2 := node_len (t.getD k default).1 (t.getD k default).2
                  ((try (conv => whnf)); (repeat ((first | refine br_true yesA ?_ | refine br_false noA ?_ | refine onS_map numA ?_ | refine onS_intro (eqTC_ints rfl rfl rfl rfl numA) ?_ | refine onS_intro (mapB_u8s _) ?_ | refine And.intro flatA ?_); (try (conv => whnf)))))
                  refine onS_intro (pair_eq (p := s.getD k default) (q := t.getD k default) hp.1 hp.2 hq.1 hq.2) ?_
                  by_cases hPQ : s.getD k default = t.getD k default
                  · have hkj := hkj.resolve_left (fun h => h.1 hPQ)
                    ((try (conv => whnf)); (repeat ((first | refine br_true yesA ?_ | refine br_false noA ?_ | refine onS_map numA ?_ | refine onS_intro (eqTC_ints rfl rfl rfl rfl numA) ?_ | refine onS_intro (mapB_u8s _) ?_ | refine And.intro flatA ?_); (try (conv => whnf)))))
                    (refine hK (k + 1) _ _ rfl (Wk.go ?_ rfl ?_ rfl) numA numA; all_goals (try (repeat' (first | exact trivial | rfl | exact .inl rfl | exact .inr rfl | refine ⟨?_, ?_⟩))))
                  · ((try (conv => whnf)); (repeat ((first | refine br_true yesA ?_ | refine br_false noA ?_ | refine onS_map numA ?_ | refine onS_intro (eqTC_ints rfl rfl rfl rfl numA) ?_ | refine onS_intro (mapB_u8s _) ?_ | refine And.intro flatA ?_); (try (conv => whnf)))))
                    ((first | refine call_intro (ret_node (s.getD k default).1 (s.getD k default).2 hp.1 hp.2) (les_refl _) ?_ | refine call_intro (ret_node (s.getD k default).1 (s.getD k default).2 hp.1 hp.2) lesA ?_); (try (conv => whnf)))
                    ((try (conv => whnf)); (repeat ((first | refine br_true yesA ?_ | refine br_false noA ?_ | refine onS_map numA ?_ | refine onS_intro (eqTC_ints rfl rfl rfl rfl numA) ?_ | refine onS_intro (mapB_u8s _) ?_ | refine And.intro flatA ?_); (try (conv => whnf)))))
                    ((first | refine call_intro (ret_node (t.getD k default).1 (t.getD k default).2 hq.1 hq.2) (les_refl _) ?_ | refine call_intro (ret_node (t.getD k default).1 (t.getD k default).2 hq.1 hq.2) lesA ?_); (try (conv => whnf)))
                    by_cases hN : node (s.getD k default).1 (s.getD k default).2 = node (t.getD k default).1 (t.getD k default).2
                    · ((try (conv => whnf)); (repeat ((first | refine br_true yesA ?_ | refine br_false noA ?_ | refine onS_map numA ?_ | refine onS_intro (eqTC_ints rfl rfl rfl rfl numA) ?_ | refine onS_intro (mapB_u8s _) ?_ | refine And.intro flatA ?_); (try (conv => whnf)))))
                      (first | exact D.le.refl _ | (simp only [chk_eq]; exact D.le.refl _))
                    · have hkj := hkj.resolve_left (fun h => hN h.2)
                      ((try (conv => whnf)); (repeat ((first | refine br_true yesA ?_ | refine br_false noA ?_ | refine onS_map numA ?_ | refine onS_intro (eqTC_ints rfl rfl rfl rfl numA) ?_ | refine onS_intro (mapB_u8s _) ?_ | refine And.intro flatA ?_); (try (conv => whnf)))))
                      (refine hK (k + 1) _ _ rfl (Wk.go ?_ rfl ?_ rfl) numA numA; all_goals (try (repeat' (first | exact trivial | rfl | exact .inl rfl | exact .inr rfl | refine ⟨?_, ?_⟩))))
                all_goals (try (repeat' (first | exact trivial | rfl | exact .inl rfl | exact .inr rfl | refine ⟨?_, ?_⟩)))
            · ((try (conv => whnf)); (repeat ((first | refine br_true yesA ?_ | refine br_false noA ?_ | refine onS_map numA ?_ | refine onS_intro (eqTC_ints rfl rfl rfl rfl numA) ?_ | refine onS_intro (mapB_u8s _) ?_ | refine And.intro flatA ?_); (try (conv => whnf)))))
              (first | exact D.le.refl _ | (simp only [chk_eq]; exact D.le.refl _))
    · rw [decide_eq_false hm]
      ((try (conv => whnf)); (repeat ((first | refine br_true yesA ?_ | refine br_false noA ?_ | refine onS_map numA ?_ | refine onS_intro (eqTC_ints rfl rfl rfl rfl numA) ?_ | refine onS_intro (mapB_u8s _) ?_ | refine And.intro flatA ?_); (try (conv => whnf)))))
      (first | exact D.le.refl _ | (simp only [chk_eq]; exact D.le.refl _))
  · rw [decide_eq_false hl]
    ((try (conv => whnf)); (repeat ((first | refine br_true yesA ?_ | refine br_false noA ?_ | refine onS_map numA ?_ | refine onS_intro (eqTC_ints rfl rfl rfl rfl numA) ?_ | refine onS_intro (mapB_u8s _) ?_ | refine And.intro flatA ?_); (try (conv => whnf)))))
    (first | exact D.le.refl _ | (simp only [chk_eq]; exact D.le.refl _))
end Go.Fw
