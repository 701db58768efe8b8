/-
A table of types, checked against the program by one Bool. No conditions.
-/
import Derived.Test.YtcoooinjnkeokaaDoorFwZc
namespace Go.Fw
set_option linter.unusedVariables false
set_option linter.unusedSimpArgs false
open Go.RowKit

def look {α : Type} (n : Nat) : List (Nat × α) → Option α
  | [] => none
  | (m, a) :: r => match Nat.beq n m with
    | true => some a
    | false => look n r

mutual
def cellsOf : D → List Value
  | .int k n => [.int k n]
  | .bool b => [.bool b]
  | .str l => [.string ⟨l.toArray⟩]
  | .nils => [.slice none 0 0]
  | .nilp => [.pointer none]
  | .arr _ _ xs => cellsOfs xs
  | .st xs => cellsOfs xs
  | _ => []
def cellsOfs : List D → List Value
  | [] => []
  | x :: xs => cellsOf x ++ cellsOfs xs
end

mutual
def wfD : Sh → D → Bool
  | .one, .int .. | .one, .bool _ | .one, .str _ | .one, .nils | .one, .nilp => true
  | .arr n e, .arr m f xs => Nat.beq n m && (e.beq f && (Nat.beq xs.length n && wfAll e xs))
  | .st shs, .st xs => wfSt shs xs
  | _, _ => false
def wfAll : Sh → List D → Bool
  | _, [] => true
  | e, x :: xs => wfD e x && wfAll e xs
def wfSt : List Sh → List D → Bool
  | [], [] => true
  | s :: ss, x :: xs => wfD s x && wfSt ss xs
  | _, _ => false
end

theorem cellsOfs_eq : ∀ (xs : List D), cellsOfs xs = (xs.map cellsOf).flatten
  | [] => by simp [cellsOfs]
  | x :: xs => by simp [cellsOfs, cellsOfs_eq xs]

mutual
theorem wfD_rc (w : World) (own : Nat → Prop) : ∀ (sh : Sh) (x : D), wfD sh x = true → RC w own sh x (cellsOf x)
  | .one, .int k n, _ => by unfold cellsOf; exact .int k n
  | .one, .bool b, _ => by unfold cellsOf; exact .bool b
  | .one, .str l, _ => by unfold cellsOf; exact .str l
  | .one, .nils, _ => by unfold cellsOf; exact .nils
  | .one, .nilp, _ => by unfold cellsOf; exact .nilp
  | .arr n e, .arr m f xs, h => by
    simp only [wfD, Bool.and_eq_true] at h
    obtain ⟨h1, h2, h3, h4⟩ := h
    have e1 := Nat.eq_of_beq_eq_true h1
    have e2 := Sh.beq_eq _ _ h2
    have e3 := Nat.eq_of_beq_eq_true h3
    subst e1; subst e2
    simp only [cellsOf, cellsOfs_eq]
    exact .arr n e xs _ (by simp) e3 fun i x cs q1 q2 => by
      rw [List.getElem?_map, q1] at q2
      cases q2
      exact wfAll_rc w own e xs h4 x (List.mem_of_getElem? q1)
  | .st shs, .st xs, h => by
    simp only [wfD] at h
    obtain ⟨h1, h2⟩ := wfSt_rc w own shs xs h
    simp only [cellsOf, cellsOfs_eq]
    exact .st shs xs _ (by simp) h1 fun i s x cs q0 q1 q2 => by
      rw [List.getElem?_map, q1] at q2
      cases q2
      exact h2 i s x q0 q1
  | .one, .ro .., h => by simp [wfD] at h
  | .one, .arr .., h => by simp [wfD] at h
  | .one, .st .., h => by simp [wfD] at h
  | .one, .tup .., h => by simp [wfD] at h
  | .one, .fn .., h => by simp [wfD] at h
  | .arr n e, .int .., h => by simp [wfD] at h
  | .arr n e, .bool .., h => by simp [wfD] at h
  | .arr n e, .str .., h => by simp [wfD] at h
  | .arr n e, .nils, h => by simp [wfD] at h
  | .arr n e, .nilp, h => by simp [wfD] at h
  | .arr n e, .ro .., h => by simp [wfD] at h
  | .arr n e, .st .., h => by simp [wfD] at h
  | .arr n e, .tup .., h => by simp [wfD] at h
  | .arr n e, .fn .., h => by simp [wfD] at h
  | .st n, .int .., h => by simp [wfD] at h
  | .st n, .bool .., h => by simp [wfD] at h
  | .st n, .str .., h => by simp [wfD] at h
  | .st n, .nils, h => by simp [wfD] at h
  | .st n, .nilp, h => by simp [wfD] at h
  | .st n, .ro .., h => by simp [wfD] at h
  | .st n, .arr .., h => by simp [wfD] at h
  | .st n, .tup .., h => by simp [wfD] at h
  | .st n, .fn .., h => by simp [wfD] at h
theorem wfAll_rc (w : World) (own : Nat → Prop) : ∀ (e : Sh) (xs : List D), wfAll e xs = true → ∀ x ∈ xs, RC w own e x (cellsOf x)
  | e, [], _, x, hx => by simp at hx
  | e, y :: ys, h, x, hx => by
    simp only [wfAll, Bool.and_eq_true] at h
    rcases List.mem_cons.1 hx with hx | hx
    · rw [hx]; exact wfD_rc w own e y h.1
    · exact wfAll_rc w own e ys h.2 x hx
theorem wfSt_rc (w : World) (own : Nat → Prop) : ∀ (ss : List Sh) (xs : List D), wfSt ss xs = true → ss.length = xs.length ∧ ∀ (i : Nat) s x, ss[i]? = some s → xs[i]? = some x → RC w own s x (cellsOf x)
  | [], [], _ => ⟨rfl, fun i s x h => by simp at h⟩
  | s :: ss, y :: ys, h => by
    simp only [wfSt, Bool.and_eq_true] at h
    obtain ⟨h1, h2⟩ := wfSt_rc w own ss ys h.2
    refine ⟨by simp [h1], fun i s' x q1 q2 => ?_⟩
    cases i with
    | zero => simp at q1 q2; subst q1; subst q2; exact wfD_rc w own s y h.1
    | succ i => exact h2 i s' x (by simpa using q1) (by simpa using q2)
  | [], _ :: _, h => by simp [wfSt] at h
  | _ :: _, [], h => by simp [wfSt] at h
end

def eqVal : Value → Value → Bool
  | .int k n, .int k' n' => decide (k = k') && decide (n = n')
  | .bool b, .bool b' => b == b'
  | .string s, .string s' => s.data.toList == s'.data.toList
  | .slice none 0 0, .slice none 0 0 => true
  | .pointer none, .pointer none => true
  | _, _ => false

def eqVals : List Value → List Value → Bool
  | [], [] => true
  | x :: xs, y :: ys => eqVal x y && eqVals xs ys
  | _, _ => false

theorem eqVal_eq {x y : Value} (h : eqVal x y = true) : x = y := by
  unfold eqVal at h
  split at h
  · simp at h; rw [h.1, h.2]
  · simp at h; rw [h]
  · rename_i s s'
    have h : s.data.toList = s'.data.toList := by simpa using h
    have : s.data = s'.data := Array.toList_inj.1 h
    cases s; cases s'; simp at this; rw [this]
  · rfl
  · rfl
  · cases h

theorem eqVals_eq : ∀ {xs ys : List Value}, eqVals xs ys = true → xs = ys
  | [], [], _ => rfl
  | x :: xs, y :: ys, h => by
    simp only [eqVals, Bool.and_eq_true] at h
    rw [eqVal_eq h.1, eqVals_eq h.2]
  | [], _ :: _, h => by simp [eqVals] at h
  | _ :: _, [], h => by simp [eqVals] at h

def isPack : Sh → Value → Bool
  | .one, .int .. | .one, .bool _ | .one, .string _ | .one, .slice .. | .one, .pointer _ => true
  | .arr .., .agg _ | .st _, .agg _ => true
  | _, _ => false

theorem isPack_eq {sh : Sh} {z : Value} (h : isPack sh z = true) : z = pack sh z.cells.toList := by
  cases sh <;> cases z <;> first | rfl | (simp [isPack] at h; done) | skip

def chkFields (tab : Nat → Option TyE) (shs : List Sh) : List Field → List TypeId → Nat → Bool
  | [], [], _ => true
  | f :: r, t :: ts, i => Nat.beq f.type t && (Nat.beq f.offset (Sh.cszs (shs.take i)) && (!(f.name == "_") && ((match tab f.type with
    | some fe => match shs[i]? with
      | some s => s.beq fe.sh
      | none => false
    | none => false) && chkFields tab shs r ts (i + 1))))
  | _, _, _ => false

def chkUnder (P : Program) (tab : Nat → Option TyE) (t : TypeId) (te : TyE) : Bool :=
  match te.ty with
  | .int k => (match P.underlying t with
    | some (.int k') => decide (k' = k)
    | _ => false) && te.sh.beq .one
  | .bool => (match P.underlying t with
    | some .bool => true
    | _ => false) && te.sh.beq .one
  | .str => (match P.underlying t with
    | some .string => true
    | _ => false) && te.sh.beq .one
  | .sl e => (match P.underlying t with
    | some (.slice e') => Nat.beq e' e
    | _ => false) && te.sh.beq .one
  | .ptr e => (match P.underlying t with
    | some (.pointer e') => Nat.beq e' e
    | _ => false) && te.sh.beq .one
  | .arr n e => (match P.underlying t with
    | some (.array n' e') => Nat.beq n' n && Nat.beq e' e
    | _ => false) && (match tab e with
    | some ee => te.sh.beq (.arr n ee.sh)
    | none => false)
  | .st fs => match P.underlying t with
    | some (.struct fields) => !P.stoodInHeld t && (match te.sh with
      | .st shs => Nat.beq shs.length fs.length && chkFields tab shs fields.toList fs 0
      | _ => false)
    | _ => false
  | _ => false

def chkT (P : Program) (tab : Nat → Option TyE) (t : TypeId) (te : TyE) : Bool :=
  match P.info? t with
  | none => false
  | some i => Nat.beq i.size te.sh.csz && (Nat.beq i.bytes te.bytes && (te.zero.sh.beq te.sh && (wfD te.sh te.zero && ((match i.zero with
    | some z => isPack te.sh z && eqVals z.cells.toList (cellsOf te.zero)
    | none => false) && (Nat.blt 0 te.sh.csz && (Nat.blt 0 te.bytes && chkUnder P tab t te))))))

theorem chkFields_spec {tab : Nat → Option TyE} {shs : List Sh} : ∀ (l : List Field) (ts : List TypeId) (i : Nat), chkFields tab shs l ts i = true → l.length = ts.length ∧ ∀ (j : Nat) f, l[j]? = some f →
    ts[j]? = some f.type ∧ f.offset = Sh.cszs (shs.take (i + j)) ∧ f.name ≠ "_" ∧ ∃ fe, tab f.type = some fe ∧ shs[i + j]? = some fe.sh
  | [], [], i, _ => ⟨rfl, fun j f h => by simp at h⟩
  | f :: r, t :: ts, i, h => by
    simp only [chkFields, Bool.and_eq_true] at h
    obtain ⟨h1, h2, h3, h4, h5⟩ := h
    obtain ⟨q1, q2⟩ := chkFields_spec r ts (i + 1) h5
    refine ⟨by simp [q1], fun j f' hj => ?_⟩
    cases j with
    | zero =>
      simp at hj; subst hj
      refine ⟨by simp [Nat.eq_of_beq_eq_true h1], Nat.eq_of_beq_eq_true h2, by simpa using h3, ?_⟩
      split at h4
      · rename_i fe hfe
        split at h4
        · rename_i s hs
          have := Sh.beq_eq _ _ h4
          subst this
          exact ⟨fe, hfe, hs⟩
        · cases h4
      · cases h4
    | succ j =>
      have := q2 j f' (by simpa using hj)
      rw [show i + 1 + j = i + (j + 1) by omega] at this
      simpa using this
  | [], _ :: _, i, h => by simp [chkFields] at h
  | _ :: _, [], i, h => by simp [chkFields] at h

theorem chkT_spec {cx : Cx} {t : TypeId} {te : TyE} (h : chkT cx.P cx.ty t te = true) : TyP cx t te := by
  unfold chkT at h
  cases hi : cx.P.info? t with
  | none => rw [hi] at h; cases h
  | some i =>
    rw [hi] at h
    simp only [Bool.and_eq_true] at h
    obtain ⟨h1, h2, h3, h4, h5, h6, h7, h8⟩ := h
    have pos : ∀ {n}, Nat.blt 0 n = true → 0 < n := fun h => of_eq_true (by rw [← Nat.blt_eq]; exact eq_true h)
    refine ⟨⟨i, hi, Nat.eq_of_beq_eq_true h1, Nat.eq_of_beq_eq_true h2, Sh.beq_eq _ _ h3, ?_⟩, ?_, pos h6, pos h7⟩
    · split at h5
      · rename_i z hz
        rw [Bool.and_eq_true] at h5
        refine ⟨z, hz, isPack_eq h5.1, fun w own => ?_⟩
        rw [eqVals_eq h5.2]
        exact wfD_rc w own _ _ h4
      · cases h5
    · unfold chkUnder at h8
      cases hty : te.ty with
      | int k =>
        rw [hty] at h8
        simp only [Bool.and_eq_true] at h8
        refine ⟨?_, Sh.beq_eq _ _ h8.2⟩
        have h := h8.1
        split at h
        · rename_i k' hu; rw [hu]; simp at h; rw [h]
        · cases h
      | bool =>
        rw [hty] at h8
        simp only [Bool.and_eq_true] at h8
        refine ⟨?_, Sh.beq_eq _ _ h8.2⟩
        have h := h8.1
        split at h
        · rename_i hu; exact hu
        · cases h
      | str =>
        rw [hty] at h8
        simp only [Bool.and_eq_true] at h8
        refine ⟨?_, Sh.beq_eq _ _ h8.2⟩
        have h := h8.1
        split at h
        · rename_i hu; exact hu
        · cases h
      | sl e =>
        rw [hty] at h8
        simp only [Bool.and_eq_true] at h8
        refine ⟨?_, Sh.beq_eq _ _ h8.2⟩
        have h := h8.1
        split at h
        · rename_i k' hu; rw [hu, Nat.eq_of_beq_eq_true h]
        · cases h
      | ptr e =>
        rw [hty] at h8
        simp only [Bool.and_eq_true] at h8
        refine ⟨?_, Sh.beq_eq _ _ h8.2⟩
        have h := h8.1
        split at h
        · rename_i k' hu; rw [hu, Nat.eq_of_beq_eq_true h]
        · cases h
      | arr n e =>
        rw [hty] at h8
        simp only [Bool.and_eq_true] at h8
        obtain ⟨h, h'⟩ := h8
        refine ⟨?_, ?_⟩
        · split at h
          · rename_i n' e' hu
            simp only [Bool.and_eq_true] at h
            rw [hu, Nat.eq_of_beq_eq_true h.1, Nat.eq_of_beq_eq_true h.2]
          · cases h
        · split at h'
          · rename_i ee he; exact ⟨ee, he, Sh.beq_eq _ _ h'⟩
          · cases h'
      | st fs =>
        rw [hty] at h8
        simp only at h8
        split at h8
        · rename_i fields hu
          simp only [Bool.and_eq_true] at h8
          obtain ⟨h, h'⟩ := h8
          split at h'
          · rename_i shs hsh
            simp only [Bool.and_eq_true] at h'
            obtain ⟨q1, q2⟩ := chkFields_spec _ _ _ h'.2
            refine ⟨fields, shs, hu, by simpa using h, by simpa using q1, hsh, Nat.eq_of_beq_eq_true h'.1, fun j f hj => ?_⟩
            have := q2 j f (by simpa using hj)
            simpa using this
          · cases h'
        · cases h8
      | fn => rw [hty] at h8; cases h8
      | tup => rw [hty] at h8; cases h8

theorem look_mem {α : Type} {n : Nat} {a : α} : ∀ {l : List (Nat × α)}, look n l = some a → (n, a) ∈ l
  | [], h => by cases h
  | (m, b) :: r, h => by
    unfold look at h
    split at h
    · rename_i hb
      have := Nat.eq_of_beq_eq_true hb
      subst this
      cases h
      simp
    · exact List.mem_cons_of_mem _ (look_mem h)

def chkTab (P : Program) (tab : List (Nat × TyE)) : Bool := tab.all fun p => chkT P (fun t => look t tab) p.1 p.2

def mkCx (P : Program) (tab : List (Nat × TyE)) (G : List (Nat × D)) : Cx := ⟨P, fun t => look t tab, fun g => look g G⟩

theorem CxOK.of_tab {P : Program} {tab : List (Nat × TyE)} {G : List (Nat × D)} (h : chkTab P tab = true) (hd : Nat.ble 20 P.depth = true) (hm : P.follows .mixedOrders = true) : CxOK (mkCx P tab G) where
  ty t te ht := by
    unfold chkTab at h
    rw [List.all_eq_true] at h
    exact chkT_spec (cx := mkCx P tab G) (h _ (look_mem ht))
  deep := Nat.le_of_ble_eq_true hd
  mixed := hm
end Go.Fw
