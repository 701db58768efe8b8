/-
Regions: in text order, and in any order. No conditions.
-/
import Derived.Test.YtcoooinjnkeokaaDoorFwW
namespace Go.Fw
set_option linter.unusedVariables false
set_option linter.unusedSimpArgs false
open Go.RowKit

def dstOK (n : Nat) (ops : List Oper) : Bool := ops.all fun o => match o.dst with
  | some d => Nat.blt d n
  | none => true

theorem dstOK_spec {n : Nat} {ops : List Oper} (h : dstOK n ops = true) : ∀ o ∈ ops, ∀ d, o.dst = some d → d < n := by
  intro o ho d hd
  unfold dstOK at h
  rw [List.all_eq_true] at h
  have := h o ho
  rw [hd] at this
  exact of_eq_true (by rw [← Nat.blt_eq]; exact eq_true this)

section
variable {cx : Cx} {vis : Vis} {B n : Nat} {w0 : World} {far : Nat → Prop} {ops : List Oper} {base : Nat}

theorem list_sound (hx : CxOK cx) (hd : ∀ o ∈ ops, ∀ d, o.dst = some d → d < n) {K : Env → Heap → Prop} {Q : Exit → Act → World → Prop}
    (hQ : ∀ e H a w m, K e H → RelR cx B n w0 far ops base (fun _ => True) e H a w m → Q .normal a w) : ∀ (l : List Oper) (j : Nat) (e : Env) (H : Heap) (a : Act) (w : World) (m : M), (∀ i, l[i]? = ops[j + i]?) →
    RelR cx B n w0 far ops base (fun i => i < j) e H a w m → LexW cx vis ops base K l j e H → wpList cx.P ops.toArray Q l a w
  | [], j, e, H, a, w, m, hl, hr, h => hQ e H a w m h { hr with born := fun b hb => (hr.born b hb).imp id fun ⟨i, o, q1, q2, _, q4⟩ => ⟨i, o, q1, q2, trivial, q4⟩ }
  | o :: rest, j, e, H, a, w, m, hl, hr, ⟨v, ef, hy, h⟩ => by
    have h0 : ops[j]? = some o := by simpa using (hl 0).symm
    have hl' : ∀ i, rest[i]? = ops[j + 1 + i]? := fun i => by have := hl (i + 1); simpa [Nat.add_assoc, Nat.add_comm 1 i] using this
    refine wpList_step fun K' hK' => ?_
    refine step_sound hx hr h0 (hd o (List.mem_of_getElem? h0)) (Nat.lt_irrefl j) hy fun a' w' m' hr' => hK' _ _ ?_
    refine list_sound hx hd hQ rest (j + 1) _ _ a' w' m' hl' { hr' with born := fun b hb => (hr'.born b hb).imp id fun ⟨i, o, q1, q2, q3, q4⟩ => ⟨i, o, q1, q2, by omega, q4⟩ } h
end

/-! Any order -/

def AnyW (cx : Cx) (vis : Vis) (ops : List Oper) (base : Nat) (K : Env → Heap → Prop) : Nat → Array Bool → Env → Heap → Prop
  | 0, listed, e, H => Region.ready .any ops.toArray listed = [] ∧ K e H
  | fuel + 1, listed, e, H => (Region.ready .any ops.toArray listed = [] → K e H) ∧
    ∀ i ∈ Region.ready .any ops.toArray listed, ∀ o, ops[i]? = some o → ∃ v ef, YW cx vis ops base e H i o v ef ∧ AnyW cx vis ops base K fuel (listed.setIfInBounds i true) (put e o.dst v) (happ H ef)

section
variable {cx : Cx} {vis : Vis} {B n : Nat} {w0 : World} {far : Nat → Prop} {ops : List Oper} {base : Nat}

theorem any_sound (hx : CxOK cx) (hd : ∀ o ∈ ops, ∀ d, o.dst = some d → d < n) {K : Env → Heap → Prop} {Q : Exit → Act → World → Prop}
    (hQ : ∀ e H a w m, K e H → RelR cx B n w0 far ops base (fun _ => True) e H a w m → Q .normal a w) : ∀ (fuel : Nat) (listed : Array Bool) (e : Env) (H : Heap) (a : Act) (w : World) (m : M),
    listed.size = ops.length → RelR cx B n w0 far ops base (fun i => listed.getD i false = true) e H a w m → AnyW cx vis ops base K fuel listed e H → wpAny cx.P .any ops.toArray Q fuel listed a w
  | 0, listed, e, H, a, w, m, hs, hr, h => ⟨h.1, hQ e H a w m h.2 { hr with born := fun b hb => (hr.born b hb).imp id fun ⟨i, o, q1, q2, _, q4⟩ => ⟨i, o, q1, q2, trivial, q4⟩ }⟩
  | fuel + 1, listed, e, H, a, w, m, hs, hr, h => by
    refine ⟨fun hn => hQ e H a w m (h.1 hn) { hr with born := fun b hb => (hr.born b hb).imp id fun ⟨i, o, q1, q2, _, q4⟩ => ⟨i, o, q1, q2, trivial, q4⟩ }, fun i hi => ?_⟩
    obtain ⟨hun, o, ho, _⟩ := mem_ready.1 hi
    have ho' : ops[i]? = some o := by simpa using ho
    obtain ⟨v, ef, hy, hrest⟩ := h.2 i hi o ho'
    have hil := (List.getElem?_eq_some_iff.1 ho').1
    have hL : ¬ listed.getD i false = true := by
      have h1 : i < listed.size := by omega
      simp [h1] at hun ⊢
      exact hun
    have := step_sound hx hr ho' (hd o (List.mem_of_getElem? ho')) hL hy (K := wpAny cx.P .any ops.toArray Q fuel (listed.setIfInBounds i true)) (Q := Q) fun a' w' m' hr' =>
      any_sound hx hd hQ fuel _ _ _ a' w' m' (by simpa using hs) { hr' with born := fun b hb => (hr'.born b hb).imp id fun ⟨k, o, q1, q2, q3, q4⟩ => ⟨k, o, q1, q2, by
        rcases q3 with rfl | q3
        · have h1 : k < listed.size := by omega
          simp [h1]
        · exact getD_set_true q3, q4⟩ } hrest
    unfold wpOp
    simp only [ho]
    split
    · rename_i hw; rw [if_pos hw] at this; exact .inl this
    · rename_i hw; rw [if_neg hw] at this; exact this
end

/-! The order of the text stands for every order -/

def maskOf (acc : List Nat) (o : Oper) : Nat := o.after.toList.foldr (fun e r => bif Region.binds .any e then (1 <<< e.on) ||| (acc.getD e.on 0 ||| r) else r) 0

def masks : List Nat → List Oper → List Nat
  | acc, [] => acc
  | acc, o :: r => masks (acc ++ [maskOf acc o]) r

/-- Operations that may come in either order. -/
def hid (vis : Vis) (i j : Nat) (x : Oper) : Bool :=
  !writeOp x || match vis i with
    | some (true, l) => l.all fun b => !seen (vis j) b
    | _ => false

def compat (cx : Cx) (vis : Vis) (ops : Array Oper) (i j : Nat) (x y : Oper) : Bool :=
  x.apart ops y && (pureOp cx x || pureOp cx y || (!writeOp x && !writeOp y) || (frameOp x && softOp y) || (softOp x && frameOp y) || (hid vis i j x && hid vis j i y))

def earlier : List Oper → Nat → Bool
  | [], _ => true
  | o :: r, j => (o.after.toList.all fun e => !Region.binds .any e || Nat.blt e.on j) && earlier r (j + 1)

/-- Every pair, in the text's order: bound by edges, or free to change places. -/
def pairsOK (cx : Cx) (vis : Vis) (ops : Array Oper) (ms : List Nat) : List Oper → Nat → Bool
  | [], _ => true
  | x :: r, i => ((r.zipIdx (i + 1)).all fun p => (ms.getD p.2 0).testBit i || compat cx vis ops i p.2 x p.1) && pairsOK cx vis ops ms r (i + 1)

def regionFree (cx : Cx) (vis : Vis) (ops : List Oper) : Bool := earlier ops 0 && pairsOK cx vis ops.toArray (masks [] ops) ops 0

theorem earlier_spec (l : List Oper) : ∀ (j : Nat), earlier l j = true → ∀ (i : Nat) o, l[i]? = some o → ∀ e ∈ o.after, Region.binds .any e = true → e.on < j + i := by
  induction l with
  | nil => intro j h i o ho; simp at ho
  | cons x r ih =>
    intro j h i o ho e he hb
    unfold earlier at h
    rw [Bool.and_eq_true] at h
    cases i with
    | zero =>
      simp at ho; subst ho
      have h1 := h.1
      rw [List.all_eq_true] at h1
      have h2 := h1 e (by simpa using he)
      rw [hb] at h2
      simp only [Bool.not_true, Bool.false_or] at h2
      have : e.on < j := of_eq_true (by rw [← Nat.blt_eq]; exact eq_true h2)
      omega
    | succ i =>
      have := ih (j + 1) h.2 i o (by simpa using ho) e he hb
      omega

theorem pairsOK_spec {cx : Cx} {vis : Vis} {ops : Array Oper} {ms : List Nat} (l : List Oper) : ∀ (k : Nat), pairsOK cx vis ops ms l k = true → ∀ (i j : Nat) x y, l[i]? = some x → l[j]? = some y → i < j → (ms.getD (k + j) 0).testBit (k + i) = true ∨ compat cx vis ops (k + i) (k + j) x y = true := by
  induction l with
  | nil => intro k h i j x y hx; simp at hx
  | cons z r ih =>
    intro k h i j x y hx hy hij
    unfold pairsOK at h
    rw [Bool.and_eq_true] at h
    cases j with
    | zero => omega
    | succ j =>
      have hy' : r[j]? = some y := by simpa using hy
      cases i with
      | zero =>
        simp at hx; subst hx
        have h1 := h.1
        rw [List.all_eq_true] at h1
        have hm : (y, k + 1 + j) ∈ r.zipIdx (k + 1) := by
          rw [List.mem_iff_getElem?]
          exact ⟨j, by simp [List.getElem?_zipIdx, hy']⟩
        have h2 := h1 _ hm
        rw [Bool.or_eq_true] at h2
        rw [show k + (j + 1) = k + 1 + j by omega, Nat.add_zero]
        exact h2
      | succ i =>
        have := ih (k + 1) h.2 i j x y (by simpa using hx) hy' (by omega)
        rw [show k + (j + 1) = k + 1 + j by omega, show k + (i + 1) = k + 1 + i by omega]
        exact this

/-- All that a listed operation waits for is listed. -/
def Closed (ops : List Oper) (listed : Array Bool) : Prop := ∀ (k : Nat) o, listed.getD k false = true → ops[k]? = some o → ∀ e ∈ o.after, Region.binds .any e = true → listed.getD e.on false = true

theorem maskOf_spec {acc : List Nat} {o : Oper} {i : Nat} (h : (maskOf acc o).testBit i = true) : ∃ e ∈ o.after, Region.binds .any e = true ∧ (e.on = i ∨ (acc.getD e.on 0).testBit i = true) := by
  unfold maskOf at h
  have : ∀ (l : List Edge), (l.foldr (fun e r => bif Region.binds .any e then (1 <<< e.on) ||| (acc.getD e.on 0 ||| r) else r) 0).testBit i = true → ∃ e ∈ l, Region.binds .any e = true ∧ (e.on = i ∨ (acc.getD e.on 0).testBit i = true) := by
    intro l
    induction l with
    | nil => intro h; simp at h
    | cons e l ih =>
      intro h
      rw [List.foldr_cons] at h
      cases hb : Region.binds .any e with
      | false =>
        rw [hb] at h
        obtain ⟨e', h1, h2⟩ := ih h
        exact ⟨e', by simp [h1], h2⟩
      | true =>
        rw [hb] at h
        simp only [cond_true, Nat.testBit_or, Bool.or_eq_true] at h
        rcases h with h | h | h
        · refine ⟨e, by simp, hb, .inl ?_⟩
          rw [Nat.one_shiftLeft, Nat.testBit_two_pow] at h
          simpa using h
        · exact ⟨e, by simp, hb, .inr h⟩
        · obtain ⟨e', h1, h2⟩ := ih h
          exact ⟨e', by simp [h1], h2⟩
  obtain ⟨e, h1, h2⟩ := this _ h
  exact ⟨e, by simpa using h1, h2⟩

theorem masks_spec {ops : List Oper} (he : ∀ (i : Nat) o, ops[i]? = some o → ∀ e ∈ o.after, Region.binds .any e = true → e.on < i) : ∀ (l : List Oper) (acc : List Nat),
    (∀ i, l[i]? = ops[acc.length + i]?) →
    (∀ k, k < acc.length → ∀ listed, Closed ops listed → (∀ o, ops[k]? = some o → ∀ e ∈ o.after, Region.binds .any e = true → listed.getD e.on false = true) → ∀ i, (acc.getD k 0).testBit i = true → listed.getD i false = true) →
    ∀ k listed, Closed ops listed → (∀ o, ops[k]? = some o → ∀ e ∈ o.after, Region.binds .any e = true → listed.getD e.on false = true) → ∀ i, ((masks acc l).getD k 0).testBit i = true → listed.getD i false = true
  | [], acc, hl, ha, k, listed, hc, hk, i, hi => by
    simp only [masks] at hi
    by_cases hlt : k < acc.length
    · exact ha k hlt listed hc hk i hi
    · rw [List.getD_eq_getElem?_getD, List.getElem?_eq_none (by omega)] at hi
      simp at hi
  | o :: r, acc, hl, ha, k, listed, hc, hk, i, hi => by
    have h0 : ops[acc.length]? = some o := by simpa using (hl 0).symm
    refine masks_spec he r (acc ++ [maskOf acc o]) (fun i => by have := hl (i + 1); simp only [List.length_append, List.length_singleton]; rw [show acc.length + 1 + i = acc.length + (i + 1) by omega]; simpa using this) (fun k hk listed hc hk' i hi => ?_) k listed hc hk i hi
    by_cases hlt : k < acc.length
    · rw [List.getD_eq_getElem?_getD, List.getElem?_append_left hlt, ← List.getD_eq_getElem?_getD] at hi
      exact ha k hlt listed hc hk' i hi
    · have : k = acc.length := by simp at hk; omega
      subst this
      rw [List.getD_eq_getElem?_getD, List.getElem?_append_right (by omega)] at hi
      simp at hi
      obtain ⟨e, h1, h2, h3⟩ := maskOf_spec hi
      have hle := hk' o h0 e h1 h2
      rcases h3 with rfl | h3
      · exact hle
      · exact ha e.on (he _ o h0 e h1 h2) listed hc (fun o' ho' e' he' hb' => hc e.on o' hle ho' e' he' hb') i h3

theorem before3_listed {ops : List Oper} {listed : Array Bool} (hc : Closed ops listed) {i : Nat} : ∀ (n j : Nat), (∀ o, ops[j]? = some o → ∀ e ∈ o.after, Region.binds .any e = true → listed.getD e.on false = true) → before3 ops i j n = true → listed.getD i false = true
  | 0, j, hj, h => by cases h
  | n + 1, j, hj, h => by
    unfold before3 at h
    split at h
    · rename_i o ho
      rw [List.any_eq_true] at h
      obtain ⟨e, he, h⟩ := h
      simp only [Bool.and_eq_true, Bool.or_eq_true] at h
      have hl := hj o ho e (by simpa using he) h.1
      rcases h.2 with h2 | h2
      · have : e.on = i := by simpa using h2
        rw [← this]; exact hl
      · exact before3_listed hc n e.on (fun o' ho' e' he' hb' => hc e.on o' hl ho' e' he' hb') h2
    · cases h
end Go.Fw
