/-
Ways from a leaf to the root, plain. No conditions.
-/
import Derived.Test.YtbkoenhfcdlahaaDoorMer0
namespace Go.Fw
set_option linter.unusedVariables false
set_option linter.unusedSimpArgs false

theorem xor1 (n : Nat) : n ^^^ 1 = if n % 2 = 0 then n + 1 else n - 1 := by
  have h1 : (n ^^^ 1) / 2 = n / 2 := by rw [Nat.xor_div_two]; simp
  have h2 : (n ^^^ 1) % 2 = (n + 1) % 2 := by
    have := Nat.xor_mod_two_pow (a := n) (b := 1) (n := 1)
    rw [show 2 ^ 1 = 2 from rfl] at this
    rw [this]
    rcases Nat.mod_two_eq_zero_or_one n with h | h <;> rw [h] <;> simp <;> omega
  split <;> omega
def sib (i : Nat) : Nat := if i % 2 = 0 then i + 1 else i - 1
theorem wrap_i64_nat {n : Nat} (h : n < 9223372036854775808) : IntKind.i64.wrap (n : Int) = n := by
  simp [IntKind.wrap, IntKind.signed, IntKind.bits, IntKind.max]
  omega
theorem xorW1 (n : Nat) (h : n < 9223372036854775808) : xorW .i64 (n : Int) 1 = ((sib n : Nat) : Int) := by
  have e : BitVec.ofInt 64 (n : Int) = BitVec.ofNat 64 n := BitVec.ofInt_natCast 64 n
  have e1 : (BitVec.ofInt 64 (n : Int) ^^^ BitVec.ofInt 64 1).toNat = sib n := by
    rw [e]
    rw [show BitVec.ofInt 64 1 = BitVec.ofNat 64 1 from rfl, BitVec.toNat_xor, BitVec.toNat_ofNat, BitVec.toNat_ofNat, Nat.mod_eq_of_lt (by omega), Nat.mod_eq_of_lt (by omega)]
    exact xor1 n
  have h2 : sib n < 9223372036854775808 := by unfold sib; split <;> omega
  show IntKind.i64.wrap (((BitVec.ofInt 64 (n : Int) ^^^ BitVec.ofInt 64 1).toNat : Nat) : Int) = _
  rw [e1]
  exact wrap_i64_nat h2

noncomputable def wayF : Nat → List (List Int) → Nat → List (List Int)
  | 0, _, _ => []
  | n + 1, l, i => if 1 < l.length then (if sib i < l.length then [l.getD (sib i) []] else []) ++ wayF n (above l) (i / 2) else []
theorem wayF_same : ∀ (n m : Nat) (l : List (List Int)) (i : Nat), l.length ≤ n + 1 → l.length ≤ m + 1 → wayF n l i = wayF m l i
  | 0, 0, l, i, _, _ => rfl
  | 0, m + 1, l, i, h, _ => by simp only [wayF]; rw [if_neg (by omega)]
  | n + 1, 0, l, i, _, h => by simp only [wayF]; rw [if_neg (by omega)]
  | n + 1, m + 1, l, i, h1, h2 => by
    simp only [wayF]
    by_cases h : 1 < l.length
    · rw [if_pos h, if_pos h]
      rw [wayF_same n m _ (i / 2) (by rw [above_len]; omega) (by rw [above_len]; omega)]
    · rw [if_neg h, if_neg h]
/-- The siblings on the way. -/
noncomputable def way (l : List (List Int)) (i : Nat) : List (List Int) := wayF l.length l i
theorem way_step {l : List (List Int)} (i : Nat) (h : 1 < l.length) : way l i = (if sib i < l.length then [l.getD (sib i) []] else []) ++ way (above l) (i / 2) := by
  unfold way
  rw [wayF_same l.length (l.length + 1) l i (by omega) (by omega)]
  simp only [wayF]
  rw [if_pos h, wayF_same l.length (above l).length _ _ (by rw [above_len]; omega) (by omega)]
theorem way_one {l : List (List Int)} (i : Nat) (h : l.length ≤ 1) : way l i = [] := by
  unfold way
  rw [wayF_same l.length 0 l i (by omega) (by omega)]
  rfl
theorem way_hs : ∀ (n : Nat) (l : List (List Int)) (i : Nat), l.length = n → Hs l → Hs (way l i) := by
  intro n
  induction n using Nat.strongRecOn with
  | _ n ih =>
    intro l i hl hh
    by_cases h : 1 < l.length
    · rw [way_step i h]
      refine Hs.app (fun x hx => ?_) (ih (above l).length (by rw [above_len]; omega) _ _ rfl (above_hs hh))
      split at hx
      · rename_i hs
        simp only [List.mem_singleton] at hx
        rw [hx]; exact hh.get hs
      · simp at hx
    · rw [way_one i (by omega)]
      intro x hx; simp at hx
theorem way_short : ∀ (k : Nat) (l : List (List Int)) (i : Nat), l.length ≤ 2 ^ k → (way l i).length ≤ k
  | 0, l, i, h => by rw [way_one i (by simpa using h)]; simp
  | k + 1, l, i, h => by
    have h2 : 2 ^ (k + 1) = 2 * 2 ^ k := by rw [Nat.pow_succ]; omega
    by_cases h1 : 1 < l.length
    · rw [way_step i h1]
      have := way_short k (above l) (i / 2) (by rw [above_len]; omega)
      rw [List.length_append]
      have : (if sib i < l.length then [l.getD (sib i) []] else []).length ≤ 1 := by split <;> simp
      omega
    · rw [way_one i (by omega)]; simp

/-- One node up. -/
noncomputable def join (i : Nat) (h x : List Int) : List Int := if i % 2 = 0 then node h x else node x h
theorem join_len (i : Nat) (h x : List Int) : (join i h x).length = 32 := by
  unfold join; split <;> exact node_len _ _
noncomputable def folF : Nat → Nat → Nat → List (List Int) → List Int → Option (List Int)
  | 0, _, _, [], h => some h
  | 0, _, _, _ :: _, _ => none
  | n + 1, c, i, hs, h => if 1 < c then (if c ≤ sib i then folF n ((c + 1) / 2) (i / 2) hs h else match hs with | [] => none | x :: r => folF n ((c + 1) / 2) (i / 2) r (join i h x)) else match hs with | [] => some h | _ :: _ => none
theorem folF_same : ∀ (n m c i : Nat) (hs : List (List Int)) (h : List Int), c ≤ n + 1 → c ≤ m + 1 → folF n c i hs h = folF m c i hs h
  | 0, 0, c, i, hs, h, _, _ => rfl
  | 0, m + 1, c, i, hs, h, h1, _ => by
    simp only [folF]; rw [if_neg (by omega)]
    cases hs <;> simp [folF]
  | n + 1, 0, c, i, hs, h, _, h1 => by
    simp only [folF]; rw [if_neg (by omega)]
    cases hs <;> simp [folF]
  | n + 1, m + 1, c, i, hs, h, h1, h2 => by
    simp only [folF]
    by_cases hc : 1 < c
    · rw [if_pos hc, if_pos hc]
      by_cases hs' : c ≤ sib i
      · rw [if_pos hs', if_pos hs']
        exact folF_same n m _ _ _ _ (by omega) (by omega)
      · rw [if_neg hs', if_neg hs']
        cases hs with
        | nil => rfl
        | cons x r => exact folF_same n m _ _ _ _ (by omega) (by omega)
    · rw [if_neg hc, if_neg hc]
/-- What a way leads to. -/
noncomputable def fol (c i : Nat) (hs : List (List Int)) (h : List Int) : Option (List Int) := folF c c i hs h
theorem fol_end {c i : Nat} {h : List Int} (hc : c ≤ 1) : fol c i [] h = some h := by
  unfold fol; rw [folF_same c 0 c i [] h (by omega) (by omega)]; rfl
theorem fol_rest {c i : Nat} {x h : List Int} {r : List (List Int)} (hc : c ≤ 1) : fol c i (x :: r) h = none := by
  unfold fol; rw [folF_same c 0 c i (x :: r) h (by omega) (by omega)]; rfl
theorem fol_lone {c i : Nat} {hs : List (List Int)} {h : List Int} (hc : 1 < c) (h1 : c ≤ sib i) : fol c i hs h = fol ((c + 1) / 2) (i / 2) hs h := by
  unfold fol
  rw [folF_same c (c + 1) c i hs h (by omega) (by omega)]
  conv => lhs; unfold folF
  rw [if_pos hc, if_pos h1]
  exact folF_same _ _ _ _ _ _ (by omega) (by omega)
theorem fol_none {c i : Nat} {h : List Int} (hc : 1 < c) (h1 : sib i < c) : fol c i [] h = none := by
  unfold fol
  rw [folF_same c (c + 1) c i [] h (by omega) (by omega)]
  conv => lhs; unfold folF
  rw [if_pos hc, if_neg (by omega)]
theorem fol_step {c i : Nat} {x h : List Int} {r : List (List Int)} (hc : 1 < c) (h1 : sib i < c) : fol c i (x :: r) h = fol ((c + 1) / 2) (i / 2) r (join i h x) := by
  unfold fol
  rw [folF_same c (c + 1) c i (x :: r) h (by omega) (by omega)]
  conv => lhs; unfold folF
  rw [if_pos hc, if_neg (by omega)]
  exact folF_same _ _ _ _ _ _ (by omega) (by omega)
theorem fol_len : ∀ (n c i : Nat) (hs : List (List Int)) (h g : List Int), c ≤ n + 1 → h.length = 32 → fol c i hs h = some g → g.length = 32
  | 0, c, i, [], h, g, hc, hl, e => by rw [fol_end (by omega)] at e; cases e; exact hl
  | 0, c, i, x :: r, h, g, hc, hl, e => by rw [fol_rest (by omega)] at e; cases e
  | n + 1, c, i, hs, h, g, hc, hl, e => by
    by_cases h1 : 1 < c
    · by_cases h2 : c ≤ sib i
      · rw [fol_lone h1 h2] at e
        exact fol_len n _ _ _ _ _ (by omega) hl e
      · cases hs with
        | nil => rw [fol_none h1 (by omega)] at e; cases e
        | cons x r =>
          rw [fol_step h1 (by omega)] at e
          exact fol_len n _ _ _ _ _ (by omega) (join_len _ _ _) e
    · cases hs with
      | nil => rw [fol_end (by omega)] at e; cases e; exact hl
      | cons x r => rw [fol_rest (by omega)] at e; cases e

theorem above_get (l : List (List Int)) (i : Nat) (hi : i < l.length) (h1 : 1 < l.length) : (above l).getD (i / 2) [] = if sib i < l.length then join i (l.getD i []) (l.getD (sib i) []) else l.getD i [] := by
  unfold sib join
  by_cases h : i % 2 = 0
  · simp only [if_pos h]
    by_cases h2 : i + 1 < l.length
    · rw [if_pos h2, above_two l (i / 2) (by omega), show 2 * (i / 2) = i by omega]
    · rw [if_neg h2, above_one l (i / 2) (by omega), show 2 * (i / 2) = i by omega]
  · simp only [if_neg h]
    rw [if_pos (by omega), above_two l (i / 2) (by omega), show 2 * (i / 2) = i - 1 by omega, show i - 1 + 1 = i by omega]

theorem fol_way : ∀ (n : Nat) (l : List (List Int)) (i : Nat), l.length = n → i < l.length → fol l.length i (way l i) (l.getD i []) = some (root l) := by
  intro n
  induction n using Nat.strongRecOn with
  | _ n ih =>
    intro l i hl hi
    by_cases h : 1 < l.length
    · have ih' := ih (above l).length (by rw [above_len]; omega) (above l) (i / 2) rfl (by rw [above_len]; omega)
      rw [above_get l i hi h, above_len] at ih'
      rw [way_step i h, root_step h]
      by_cases hs : sib i < l.length
      · rw [if_pos hs] at ih' ⊢
        rw [List.singleton_append, fol_step h hs]
        exact ih'
      · rw [if_neg hs] at ih' ⊢
        rw [List.nil_append, fol_lone h (by omega)]
        exact ih'
    · rw [way_one i (by omega), fol_end (by omega), root_one (by omega)]
      have : i = 0 := by omega
      rw [this]

/-- The pairs on a way. -/
def two (i : Nat) (h x : List Int) : List Int × List Int := if i % 2 = 0 then (h, x) else (x, h)
theorem two_node (i : Nat) (h x : List Int) : node (two i h x).1 (two i h x).2 = join i h x := by
  unfold two join; split <;> rfl
theorem two_ne {i : Nat} {a b x y : List Int} (h : a ≠ b) : two i a x ≠ two i b y := by
  unfold two
  split <;> intro e
  · exact h (Prod.mk.inj e).1
  · exact h (Prod.mk.inj e).2
noncomputable def prsF : Nat → Nat → Nat → List (List Int) → List Int → List (List Int × List Int)
  | 0, _, _, _, _ => []
  | n + 1, c, i, hs, h => if 1 < c then (if c ≤ sib i then prsF n ((c + 1) / 2) (i / 2) hs h else match hs with | [] => prsF n ((c + 1) / 2) (i / 2) [] h | x :: r => two i h x :: prsF n ((c + 1) / 2) (i / 2) r (join i h x)) else []
theorem prsF_same : ∀ (n m c i : Nat) (hs : List (List Int)) (h : List Int), c ≤ n + 1 → c ≤ m + 1 → prsF n c i hs h = prsF m c i hs h
  | 0, 0, c, i, hs, h, _, _ => rfl
  | 0, m + 1, c, i, hs, h, h1, _ => by
    simp only [prsF]; rw [if_neg (by omega)]
  | n + 1, 0, c, i, hs, h, _, h1 => by
    simp only [prsF]; rw [if_neg (by omega)]
  | n + 1, m + 1, c, i, hs, h, h1, h2 => by
    simp only [prsF]
    by_cases hc : 1 < c
    · rw [if_pos hc, if_pos hc]
      by_cases hs' : c ≤ sib i
      · rw [if_pos hs', if_pos hs']
        exact prsF_same n m _ _ _ _ (by omega) (by omega)
      · rw [if_neg hs', if_neg hs']
        cases hs with
        | nil => exact prsF_same n m _ _ _ _ (by omega) (by omega)
        | cons x r => exact congrArg _ (prsF_same n m _ _ _ _ (by omega) (by omega))
    · rw [if_neg hc, if_neg hc]
noncomputable def prs (c i : Nat) (hs : List (List Int)) (h : List Int) : List (List Int × List Int) := prsF c c i hs h
theorem prs_end {c i : Nat} {hs : List (List Int)} {h : List Int} (hc : c ≤ 1) : prs c i hs h = [] := by
  unfold prs; rw [prsF_same c 0 c i hs h (by omega) (by omega)]; rfl
theorem prs_lone {c i : Nat} {hs : List (List Int)} {h : List Int} (hc : 1 < c) (h1 : c ≤ sib i) : prs c i hs h = prs ((c + 1) / 2) (i / 2) hs h := by
  unfold prs
  rw [prsF_same c (c + 1) c i hs h (by omega) (by omega)]
  conv => lhs; unfold prsF
  rw [if_pos hc, if_pos h1]
  exact prsF_same _ _ _ _ _ _ (by omega) (by omega)
theorem prs_none {c i : Nat} {h : List Int} (hc : 1 < c) : prs c i [] h = prs ((c + 1) / 2) (i / 2) [] h := by
  by_cases h1 : c ≤ sib i
  · exact prs_lone hc h1
  · unfold prs
    rw [prsF_same c (c + 1) c i [] h (by omega) (by omega)]
    conv => lhs; unfold prsF
    rw [if_pos hc, if_neg h1]
    exact prsF_same _ _ _ _ _ _ (by omega) (by omega)
theorem prs_step {c i : Nat} {x h : List Int} {r : List (List Int)} (hc : 1 < c) (h1 : sib i < c) : prs c i (x :: r) h = two i h x :: prs ((c + 1) / 2) (i / 2) r (join i h x) := by
  unfold prs
  rw [prsF_same c (c + 1) c i (x :: r) h (by omega) (by omega)]
  conv => lhs; unfold prsF
  rw [if_pos hc, if_neg (by omega)]
  exact congrArg _ (prsF_same _ _ _ _ _ _ (by omega) (by omega))

/-- Two ways at one place to one root from unlike leaves: a collision. -/
theorem binds : ∀ (n c i : Nat) (hs ks : List (List Int)) (a b g : List Int), c ≤ n + 1 → fol c i hs a = some g → fol c i ks b = some g → a ≠ b →
    ∃ (j : Nat) (p q : List Int × List Int), (prs c i hs a)[j]? = some p ∧ (prs c i ks b)[j]? = some q ∧ p ≠ q ∧ node p.1 p.2 = node q.1 q.2
  | n, c, i, hs, ks, a, b, g, hn, h1, h2, hab => by
    by_cases hc : 1 < c
    · match n, hn with
      | 0, hn => omega
      | n + 1, hn =>
        by_cases hs' : c ≤ sib i
        · rw [fol_lone hc hs'] at h1 h2
          rw [prs_lone hc hs', prs_lone hc hs']
          exact binds n _ _ _ _ _ _ _ (by omega) h1 h2 hab
        · cases hs with
          | nil => rw [fol_none hc (by omega)] at h1; cases h1
          | cons x r =>
            cases ks with
            | nil => rw [fol_none hc (by omega)] at h2; cases h2
            | cons y s =>
              rw [fol_step hc (by omega)] at h1 h2
              rw [prs_step hc (by omega), prs_step hc (by omega)]
              by_cases e : join i a x = join i b y
              · exact ⟨0, two i a x, two i b y, rfl, rfl, two_ne hab, by rw [two_node, two_node, e]⟩
              · obtain ⟨j, p, q, q1, q2, q3⟩ := binds n _ _ _ _ _ _ _ (by omega) h1 h2 e
                exact ⟨j + 1, p, q, q1, q2, q3⟩
    · cases hs with
      | cons x r => rw [fol_rest (by omega)] at h1; cases h1
      | nil =>
        cases ks with
        | cons y s => rw [fol_rest (by omega)] at h2; cases h2
        | nil =>
          rw [fol_end (by omega)] at h1 h2
          cases h1; cases h2
          exact absurd rfl hab
end Go.Fw
