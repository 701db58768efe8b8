/-
Merkle trees, plain. No conditions.
-/
import Derived.Test.YtbkoenhfcdlahaaDoorSha0
namespace Go.Fw
set_option linter.unusedVariables false
set_option linter.unusedSimpArgs false

noncomputable def node (a b : List Int) : List Int := sum (1 :: (a ++ b))
theorem node_len (a b : List Int) : (node a b).length = 32 := sum_len _
noncomputable def above : List (List Int) → List (List Int)
  | [] => []
  | [a] => [a]
  | a :: b :: r => node a b :: above r
theorem above_len : ∀ l : List (List Int), (above l).length = (l.length + 1) / 2
  | [] => by simp [above]
  | [a] => by simp [above]
  | a :: b :: r => by
    simp only [above, List.length_cons, above_len r]
    omega
theorem above_two : ∀ (l : List (List Int)) (k : Nat), 2 * k + 1 < l.length → (above l).getD k [] = node (l.getD (2 * k) []) (l.getD (2 * k + 1) [])
  | [], k, h => by simp at h
  | [a], k, h => by simp at h
  | a :: b :: r, 0, _ => by simp [above]
  | a :: b :: r, k + 1, h => by
    have := above_two r k (by simp at h; omega)
    rw [show 2 * (k + 1) = 2 * k + 2 by omega, show 2 * k + 2 + 1 = (2 * k + 1) + 2 by omega]
    simpa [above] using this
theorem above_one : ∀ (l : List (List Int)) (k : Nat), 2 * k + 1 = l.length → (above l).getD k [] = l.getD (2 * k) []
  | [], k, h => by simp at h
  | [a], k, h => by
    have : k = 0 := by simp at h; omega
    subst this
    simp [above]
  | a :: b :: r, 0, h => by simp at h
  | a :: b :: r, k + 1, h => by
    have := above_one r k (by simp at h; omega)
    rw [show 2 * (k + 1) = 2 * k + 2 by omega]
    simpa [above] using this
/-- Digests: 32 bytes each. -/
def Hs (l : List (List Int)) : Prop := ∀ h ∈ l, h.length = 32
theorem Hs.get {l : List (List Int)} (h : Hs l) {i : Nat} (hi : i < l.length) : (l.getD i []).length = 32 := by
  rw [getD_get _ _ _ hi]; exact h _ (List.getElem_mem hi)
theorem above_hs : ∀ {l : List (List Int)}, Hs l → Hs (above l)
  | [], h => by simpa [above] using h
  | [a], h => by simpa [above] using h
  | a :: b :: r, h => by
    intro x hx
    simp only [above] at hx
    rcases List.mem_cons.1 hx with rfl | hx
    · exact node_len _ _
    · exact above_hs (l := r) (fun y hy => h y (by simp [hy])) x hx
theorem Hs.app {a b : List (List Int)} (ha : Hs a) (hb : Hs b) : Hs (a ++ b) := fun x hx => by
  rcases List.mem_append.1 hx with h | h
  · exact ha x h
  · exact hb x h
theorem Hs.take {a : List (List Int)} (ha : Hs a) (n : Nat) : Hs (a.take n) := fun x hx => ha x (List.mem_of_mem_take hx)
theorem Hs.drop {a : List (List Int)} (ha : Hs a) (n : Nat) : Hs (a.drop n) := fun x hx => ha x (List.mem_of_mem_drop hx)

noncomputable def rootF : Nat → List (List Int) → List Int
  | 0, l => l.getD 0 []
  | n + 1, l => if 1 < l.length then rootF n (above l) else l.getD 0 []
theorem rootF_same : ∀ (n m : Nat) (l : List (List Int)), l.length ≤ n + 1 → l.length ≤ m + 1 → rootF n l = rootF m l
  | 0, 0, l, _, _ => rfl
  | 0, m + 1, l, h, _ => by simp only [rootF]; rw [if_neg (by omega)]
  | n + 1, 0, l, _, h => by simp only [rootF]; rw [if_neg (by omega)]
  | n + 1, m + 1, l, h1, h2 => by
    simp only [rootF]
    by_cases h : 1 < l.length
    · rw [if_pos h, if_pos h]
      exact rootF_same n m _ (by rw [above_len]; omega) (by rw [above_len]; omega)
    · rw [if_neg h, if_neg h]
noncomputable def root (l : List (List Int)) : List Int := rootF l.length l
theorem root_step {l : List (List Int)} (h : 1 < l.length) : root l = root (above l) := by
  unfold root
  rw [rootF_same l.length (l.length + 1) l (by omega) (by omega)]
  simp only [rootF]
  rw [if_pos h]
  exact rootF_same _ _ _ (by rw [above_len]; omega) (by omega)
theorem root_one {l : List (List Int)} (h : l.length ≤ 1) : root l = l.getD 0 [] := by
  unfold root
  rw [rootF_same l.length 0 l (by omega) (by omega)]
  rfl
theorem root_len : ∀ (n : Nat) (l : List (List Int)), l.length = n → Hs l → 0 < l.length → (root l).length = 32 := by
  intro n
  induction n using Nat.strongRecOn with
  | _ n ih =>
    intro l hl hh h0
    by_cases h : 1 < l.length
    · rw [root_step h]
      exact ih (above l).length (by rw [above_len]; omega) _ rfl (above_hs hh) (by rw [above_len]; omega)
    · rw [root_one (by omega)]
      exact hh.get h0
def zero32 : List Int := List.replicate 32 0
/-- What Root answers. -/
noncomputable def rootOr (l : List (List Int)) : List Int := if l.length = 0 ∨ 1024 < l.length then zero32 else root l
theorem rootOr_len (l : List (List Int)) (h : Hs l) : (rootOr l).length = 32 := by
  unfold rootOr
  split
  · rfl
  · exact root_len _ l rfl h (by omega)

/-- A leaf behind a full tree. -/
theorem above_snoc : ∀ (l : List (List Int)) (x : List Int), l.length % 2 = 0 → above (l ++ [x]) = above l ++ [x]
  | [], x, _ => by simp [above]
  | [a], x, h => by simp at h
  | a :: b :: r, x, h => by
    have := above_snoc r x (by simp at h; omega)
    simp only [List.cons_append, above, this]
theorem root_snoc : ∀ (k : Nat) (l : List (List Int)) (x : List Int), l.length = 2 ^ k → root (l ++ [x]) = node (root l) x
  | 0, l, x, h => by
    match l, h with
    | [a], _ =>
      rw [root_step (by simp), root_one (l := [a]) (by simp)]
      rw [root_one (by simp [above])]
      simp [above]
  | k + 1, l, x, h => by
    have h2 : 2 ^ (k + 1) = 2 * 2 ^ k := by rw [Nat.pow_succ]; omega
    have hp : 0 < 2 ^ k := Nat.two_pow_pos k
    rw [root_step (by simp; omega), above_snoc l x (by omega), root_snoc k (above l) x (by rw [above_len]; omega), ← root_step (by omega)]
def hashesD (l : List (List Int)) : D := .ro (.arr 32 .one) false (l.map hashD)
end Go.Fw
