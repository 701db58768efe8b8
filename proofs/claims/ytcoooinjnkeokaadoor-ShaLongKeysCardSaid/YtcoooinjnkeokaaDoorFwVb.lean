/-
Operations that see only the frames of blocks, and writes that keep frames. No conditions.
-/
import Derived.Test.YtcoooinjnkeokaaDoorFwV
namespace Go.Fw
set_option linter.unusedVariables false
set_option linter.unusedSimpArgs false
open Go.RowKit

/-- Blocks of one frame: the same shape, or the same version and length. -/
inductive frB : Blk → Blk → Prop
  | fix (v v' : V) (h : v'.sh = v.sh) : frB (.fix v) (.fix v')
  | grow (ver : Nat) (e : Sh) (xs xs' : List D) (h : xs'.length = xs.length) : frB (.grow ver e xs) (.grow ver e xs')

inductive frO : Option Blk → Option Blk → Prop
  | none : frO none none
  | some (x y : Blk) (h : frB x y) : frO (some x) (some y)

theorem frB.refl (x : Blk) : frB x x := by
  cases x
  · exact .fix _ _ rfl
  · exact .grow _ _ _ _ rfl
theorem frB.symm {x y : Blk} (h : frB x y) : frB y x := by
  cases h with
  | fix v v' h => exact .fix _ _ h.symm
  | grow ver e xs xs' h => exact .grow _ _ _ _ h.symm
theorem frO.refl (x : Option Blk) : frO x x := by
  cases x
  · exact .none
  · exact .some _ _ (.refl _)
theorem frO.symm {x y : Option Blk} (h : frO x y) : frO y x := by
  cases h with
  | none => exact .none
  | some x y h => exact .some _ _ h.symm

def frameOp (o : Oper) : Bool :=
  match o.op with
  | .indexAddr .. | .slice .. | .sliceToArrayPointer .. => true
  | .call { callee := .builtin .len, .. } => true
  | _ => false

def softOp (o : Oper) : Bool :=
  match o.op with
  | .store .. => true
  | .call { callee := .builtin .copy, .. } => true
  | _ => false

theorem frS {x y : Option Blk} (h : frO x y) {K K' : Blk → Prop} (hk : onS x K) (hf : ∀ a b, frB a b → K a → K' b) : onS y K' := by
  cases h with
  | none => exact hk
  | some a b h => exact hf a b h hk

section
variable {cx : Cx} {ρ : Operand → V} {rd rd' : Nat → Option Blk} {slot slot' : Nat}

theorem idxV_frame (hf : ∀ b, frO (rd b) (rd' b)) {t : TypeId} {x : V} {i : Int} {k : V → Prop} (h : idxV cx rd t x i k) : idxV cx rd' t x i k := by
  obtain ⟨te, hte, h⟩ := onS_elim h
  refine onS_intro hte ?_
  revert h
  cases te.ty with
  | arr n e => cases x with
    | ptr b ver path s => cases s <;> exact fun h => h
    | rop y => cases y <;> exact fun h => h
    | _ => exact fun h => h
  | sl e =>
    intro h
    obtain ⟨ee, hee, h⟩ := onS_elim h
    refine onS_intro hee ?_
    cases x with
    | sl b off ver =>
      refine frS (hf b) h fun p q hpq hp => ?_
      cases hpq with
      | fix v v' h => exact hp
      | grow ver' e' xs xs' hl => simpa [hl] using hp
    | sub b off len ver =>
      refine frS (hf b) h fun p q hpq hp => ?_
      cases hpq with
      | fix v v' h => exact hp
      | grow ver' e' xs xs' hl => exact hp
    | d y => cases y <;> exact h
    | _ => exact h
  | _ => exact fun h => h

theorem lenV_frame (hf : ∀ b, frO (rd b) (rd' b)) {t : TypeId} {x : V} {k : Nat → Prop} (h : lenV cx rd t x k) : lenV cx rd' t x k := by
  obtain ⟨te, hte, h⟩ := onS_elim h
  refine onS_intro hte ?_
  revert h
  cases te.ty with
  | sl e =>
    cases x with
    | sl b off ver =>
      intro h
      refine frS (hf b) h fun p q hpq hp => ?_
      cases hpq with
      | fix v v' h => exact hp
      | grow ver' e' xs xs' hl => simpa [hl] using hp
    | sub b off len ver =>
      intro h
      refine frS (hf b) h fun p q hpq hp => ?_
      cases hpq with
      | fix v v' h => exact hp
      | grow ver' e' xs xs' hl => exact hp
    | sa b path off len =>
      intro h
      refine frS (hf b) h fun p q hpq hp => ?_
      cases hpq with
      | fix v v' h => exact hp
      | grow ver' e' xs xs' hl => exact hp
    | d y => cases y <;> exact fun h => h
    | _ => exact fun h => h
  | str => cases x with
    | d y => cases y <;> exact fun h => h
    | _ => exact fun h => h
  | arr n e => cases x with
    | d y => cases y <;> exact fun h => h
    | _ => exact fun h => h
  | _ => exact fun h => h

theorem arrV_frame (hf : ∀ b, frO (rd b) (rd' b)) {t : TypeId} {x : V} {k : V → Prop} (h : arrV cx rd t x k) : arrV cx rd' t x k := by
  obtain ⟨te, hte, h⟩ := onS_elim h
  refine onS_intro hte ?_
  revert h
  cases te.ty with
  | arr n e =>
    cases x with
    | sl b off ver =>
      intro h
      refine frS (hf b) h fun p q hpq hp => ?_
      cases hpq with
      | fix v v' h => exact hp
      | grow ver' e' xs xs' hl => simpa [hl] using hp
    | sub b off len ver =>
      intro h
      refine frS (hf b) h fun p q hpq hp => ?_
      cases hpq with
      | fix v v' h => exact hp
      | grow ver' e' xs xs' hl => exact hp
    | d y => cases y <;> exact fun h => h
    | _ => exact fun h => h
  | _ => exact fun h => h

theorem sliceV_frame (hf : ∀ b, frO (rd b) (rd' b)) {t : TypeId} {x : V} {lo hi mx : Option Operand} {k : V → Prop} (h : sliceV cx ρ rd t x lo hi mx k) : sliceV cx ρ rd' t x lo hi mx k := by
  obtain ⟨te, hte, h⟩ := onS_elim h
  refine onS_intro hte ?_
  revert h
  cases te.ty with
  | arr n e => cases x with
    | ptr b ver path s => cases s <;> exact fun h => h
    | _ => exact fun h => h
  | str => cases x with
    | d y => cases y <;> exact fun h => h
    | _ => exact fun h => h
  | sl e =>
    intro h
    obtain ⟨ee, hee, h⟩ := onS_elim h
    refine onS_intro hee ?_
    cases x with
    | sl b off ver =>
      refine frS (hf b) h fun p q hpq hp => ?_
      cases hpq with
      | fix v v' h => exact hp
      | grow ver' e' xs xs' hl => simpa only [hl] using hp
    | sub b off len ver =>
      refine frS (hf b) h fun p q hpq hp => ?_
      cases hpq with
      | fix v v' h => exact hp
      | grow ver' e' xs xs' hl => exact hp
    | sa b path off len =>
      refine frS (hf b) h fun p q hpq hp => ?_
      cases hpq with
      | fix v v' h => simpa only [h] using hp
      | grow ver' e' xs xs' hl => exact hp
    | d y => cases y <;> exact h
    | _ => exact h
  | _ => exact fun h => h

theorem Wop_frame {o : Oper} (hp : frameOp o = true) (hf : ∀ b, frO (rd b) (rd' b)) {k : V → Eff → Prop} (h : Wop cx ρ rd slot o k) : Wop cx ρ rd' slot' o k := by
  obtain ⟨dst, op, ty, pos, after, guard⟩ := o
  cases op with
  | indexAddr t x i =>
    have h' : asI (ρ i) fun _ i => idxV cx rd t (ρ x) i fun v => k v [] := h
    show asI (ρ i) fun _ i => idxV cx rd' t (ρ x) i fun v => k v []
    revert h'
    generalize ρ i = v
    cases v with
    | d y => cases y with
      | int kd n => exact fun h => idxV_frame (t := t) (x := ρ x) (i := n) (k := fun v => k v []) hf h
      | _ => exact fun h => h
    | _ => exact fun h => h
  | slice t x lo hi mx => exact sliceV_frame hf (k := fun v => k v []) h
  | sliceToArrayPointer arr x => exact arrV_frame hf (k := fun v => k v []) h
  | call c =>
    obtain ⟨callee, ⟨cargs⟩, ⟨catys⟩⟩ := c
    cases callee with
    | builtin b =>
      cases b with
      | len =>
        match cargs, catys, h with
        | [x], [t], h => exact lenV_frame hf (k := fun (n : Nat) => k (.d (.int .i64 n)) []) h
      | _ => cases hp
    | _ => cases hp
  | _ => cases hp

/-! Writes that keep frames -/

theorem map_set_same {α β : Type} {f : α → β} {xs : List α} {i : Nat} {x z : α} (hx : xs[i]? = some x) (h : f z = f x) : (xs.set i z).map f = xs.map f := by
  apply List.ext_getElem?
  intro j
  rw [List.getElem?_map, List.getElem?_map, List.getElem?_set]
  split
  · rename_i e
    subst e
    split
    · rw [hx]; simp [h]
    · rename_i hlt
      have := (List.getElem?_eq_some_iff.1 hx).1
      omega
  · rfl

theorem setD_sh : ∀ (p : List Nat) (y x : D) (k : D → Prop), setD p y x k → setD p y x fun z => z.sh = x.sh ∧ k z
  | [], y, x, k, h => by
    obtain ⟨hb, h⟩ := onT_elim h
    exact onT_intro hb ⟨Sh.beq_eq _ _ hb, h⟩
  | i :: p, y, x, k, h => by
    cases x with
    | arr n e xs =>
      cases p with
      | nil =>
        obtain ⟨h1, h⟩ := onT_elim h
        obtain ⟨h2, h⟩ := onT_elim h
        exact onT_intro h1 (onT_intro h2 ⟨rfl, h⟩)
      | cons j p =>
        obtain ⟨x, hx, h⟩ := onS_elim h
        exact onS_intro hx ((setD_one (j :: p) y x).mono (fun z h => ⟨rfl, h⟩) h)
    | st xs =>
      have main : onS xs[i]? (fun x => setD p y x fun z => k (.st (xs.set i z))) → onS xs[i]? fun x => setD p y x fun z => (D.st (xs.set i z)).sh = (D.st xs).sh ∧ k (.st (xs.set i z)) := fun h => by
        obtain ⟨x, hx, h⟩ := onS_elim h
        refine onS_intro hx ?_
        have := setD_sh p y x _ h
        refine (setD_one p y x).mono (fun z h => ⟨?_, h.2⟩) this
        simp only [D.sh, D.shs_eq]
        rw [map_set_same hx h.1]
      cases p with
      | nil => exact main h
      | cons j p => exact main h
    | _ => cases p <;> exact h.elim

theorem setD_arr {i : Nat} {p : List Nat} {y : D} {n : Nat} {e : Sh} {xs : List D} {k : D → Prop} (h : setD (i :: p) y (.arr n e xs) k) : setD (i :: p) y (.arr n e xs) fun z => (∃ xs', z = .arr n e xs' ∧ xs'.length = xs.length) ∧ k z := by
  cases p with
  | nil =>
    obtain ⟨h1, h⟩ := onT_elim h
    obtain ⟨h2, h⟩ := onT_elim h
    exact onT_intro h1 (onT_intro h2 ⟨⟨_, rfl, by simp⟩, h⟩)
  | cons j p =>
    obtain ⟨x, hx, h⟩ := onS_elim h
    exact onS_intro hx ((setD_one (j :: p) y x).mono (fun z h => ⟨⟨_, rfl, by simp⟩, h⟩) h)

theorem allD_map : ∀ {l : List V} {ds : List D}, allD l = some ds → l = ds.map V.d
  | [], ds, h => by cases h; rfl
  | .d x :: l, ds, h => by
    simp only [allD, Option.map_eq_some_iff] at h
    obtain ⟨ds', h1, rfl⟩ := h
    rw [allD_map h1]; rfl
  | .st _ :: l, ds, h => by cases h
  | .tup _ :: l, ds, h => by cases h
  | .sl .. :: l, ds, h => by cases h
  | .sub .. :: l, ds, h => by cases h
  | .sa .. :: l, ds, h => by cases h
  | .ptr .. :: l, ds, h => by cases h
  | .parr .. :: l, ds, h => by cases h
  | .rop _ :: l, ds, h => by cases h
  | .any :: l, ds, h => by cases h

theorem setV_sh : ∀ (p : List Nat) (u v : V) (k : V → Prop), setV p u v k → setV p u v fun z => z.sh = v.sh ∧ k z
  | [], u, v, k, h => by
    obtain ⟨hb, h⟩ := onT_elim h
    exact onT_intro hb ⟨Sh.beq_eq _ _ hb, h⟩
  | i :: p, u, v, k, h => by
    cases v with
    | d x =>
      have main : ∀ (xs : List D), onS xs[i]? (fun x => setV p u (.d x) fun z => k (mkSt ((xs.map V.d).set i z))) → onS xs[i]? fun x => setV p u (.d x) fun z => (mkSt ((xs.map V.d).set i z)).sh = (V.d (.st xs)).sh ∧ k (mkSt ((xs.map V.d).set i z)) := fun xs h => by
        obtain ⟨x, hx, h⟩ := onS_elim h
        refine onS_intro hx ?_
        have := setV_sh p u (.d x) _ h
        refine (setV_one p u (.d x)).mono (fun z h => ⟨?_, h.2⟩) this
        rw [mkSt_sh, V.shs_eq, map_set_same (x := V.d x) (by rw [List.getElem?_map, hx]; rfl) h.1]
        simp [V.sh, D.sh, D.shs_eq]
      cases u with
      | d y =>
        have h : setD (i :: p) y x fun z => k (.d z) := h
        show setD (i :: p) y x fun z => (V.d z).sh = (V.d x).sh ∧ k (.d z)
        exact setD_sh (i :: p) y x _ h
      | _ =>
        cases x with
        | st xs => exact main xs h
        | _ => exact h.elim
    | st xs =>
      have main : onS xs[i]? (fun x => setV p u x fun z => k (mkSt (xs.set i z))) → onS xs[i]? fun x => setV p u x fun z => (mkSt (xs.set i z)).sh = (V.st xs).sh ∧ k (mkSt (xs.set i z)) := fun h => by
        obtain ⟨x, hx, h⟩ := onS_elim h
        refine onS_intro hx ?_
        have := setV_sh p u x _ h
        refine (setV_one p u x).mono (fun z h => ⟨?_, h.2⟩) this
        rw [mkSt_sh, V.shs_eq, map_set_same hx h.1]
        simp [V.sh, V.shs_eq]
      cases u <;> exact main h
    | _ => cases u <;> exact h.elim

/-- A write that keeps frames: one block, with its new content. -/
def softEff (rd : Nat → Option Blk) (e : Eff) : Prop := ∃ b x x', rd b = some x ∧ frB x x' ∧ e = [(b, some x')]

theorem copyL_length {α : Type} (xs ys : List α) : (copyL xs ys).length = xs.length := by
  unfold copyL
  simp
  omega

theorem storeV_soft {t : TypeId} {p u : V} {k : Eff → Prop} (h : storeV cx rd t p u k) : storeV cx rd t p u fun e => softEff rd e ∧ k e := by
  obtain ⟨te, hte, h⟩ := onS_elim h
  refine onS_intro hte ?_
  obtain ⟨h1, h⟩ := onT_elim h
  obtain ⟨h2, h⟩ := onT_elim h
  refine onT_intro h1 (onT_intro h2 ?_)
  cases p with
  | ptr b ver path s =>
    obtain ⟨bk, hb, h⟩ := onS_elim h
    refine onS_intro hb ?_
    cases bk with
    | fix v =>
      refine (setV_one path u v).mono (fun z h => ⟨⟨b, _, _, hb, .fix v z h.1, rfl⟩, h.2⟩) (setV_sh path u v _ h)
    | grow ver' e xs =>
      obtain ⟨he, h⟩ := onE_elim h
      refine onE_intro he ?_
      cases path with
      | nil => exact h.elim
      | cons i p =>
        cases u with
        | d y =>
          refine (setD_one (i :: p) y _).mono (fun z h => ?_) (setD_arr h)
          obtain ⟨⟨xs', rfl, hl⟩, hk⟩ := h
          exact ⟨⟨b, _, _, hb, .grow ver' e xs xs' hl, rfl⟩, hk⟩
        | _ => exact h.elim
  | _ => exact h.elim

theorem copyV_soft {e : Sh} {dst src : V} {k : V → Eff → Prop} (h : copyV rd e dst src k) : copyV rd e dst src fun v ef => softEff rd ef ∧ k v ef := by
  cases dst with
  | sl b off ver =>
    obtain ⟨bk, hb, h⟩ := onS_elim h
    refine onS_intro hb ?_
    cases bk with
    | fix v => exact h.elim
    | grow ver' e' xs =>
      obtain ⟨he, h⟩ := onE_elim h
      refine onE_intro he ?_
      obtain ⟨hs, h9⟩ := onT_elim h
      clear h
      refine onT_intro hs ?_
      have := Sh.beq_eq _ _ hs
      subst this
      subst he
      refine (elems_lin rd e' src).mono (fun ys h => ⟨⟨b, _, _, hb, .grow _ _ _ _ ?_, rfl⟩, h⟩) h9
      simp [copyL_length]; omega
  | sub b off len ver =>
    obtain ⟨bk, hb, h⟩ := onS_elim h
    refine onS_intro hb ?_
    cases bk with
    | fix v => exact h.elim
    | grow ver' e' xs =>
      obtain ⟨he, h⟩ := onE_elim h
      refine onE_intro he ?_
      obtain ⟨hs, h9⟩ := onT_elim h
      clear h
      refine onT_intro hs ?_
      have := Sh.beq_eq _ _ hs
      subst this
      subst he
      refine (elems_lin rd e' src).mono (fun ys h => ⟨⟨b, _, _, hb, .grow _ _ _ _ ?_, rfl⟩, h⟩) h9
      simp [copyL_length]; omega
  | sa b path off len =>
    obtain ⟨bk, hb, h⟩ := onS_elim h
    refine onS_intro hb ?_
    cases bk with
    | grow ver' e' xs => exact h.elim
    | fix v =>
      refine (getV_one path v).mono (fun u h => ?_) h
      cases u with
      | d y =>
        cases y with
        | arr n e' xs =>
          obtain ⟨hs, h⟩ := onT_elim h
          refine onT_intro hs ?_
          refine (elems_lin rd e src).mono (fun ys h => ?_) h
          exact (setV_one _ _ _).mono (fun z h => ⟨⟨b, _, _, hb, .fix v z h.1, rfl⟩, h.2⟩) (setV_sh _ _ _ _ h)
        | _ => exact h.elim
      | _ => exact h.elim
  | _ => exact h.elim

/-- The blocks that an operation may change: its own new one, or blocks that it sees. -/
def domOK (rd : Nat → Option Blk) (o : Oper) (slot : Nat) (e : Eff) : Prop := ∀ b x, (b, x) ∈ e → (newOp o = true ∧ b = slot) ∨ rd b ≠ none

theorem appendZ_dom {o : Oper} (hn : newOp o = true) {e : Sh} {bytes : Nat} {zero : D} {dst src : V} {k : V → Eff → Prop} (h : appendZ rd e bytes zero dst src k) : appendZ rd e bytes zero dst src fun v ef => domOK rd o slot ef ∧ k v ef := by
  cases dst with
  | sl b off ver =>
    cases src with
    | d x =>
      cases x with
      | int kk n =>
        cases kk with
        | i64 =>
          obtain ⟨blk, hbl, h⟩ := onS_elim (o := rd b) h
          refine onS_intro (o := rd b) hbl ?_
          cases blk with
          | fix v => exact h.elim
          | grow ver' e' xs =>
            obtain ⟨hev, h⟩ := onE_elim h
            obtain ⟨hbe, h⟩ := onT_elim h
            obtain ⟨ho, h⟩ := onE_elim h
            obtain ⟨hr, h⟩ := onT_elim h
            refine onE_intro hev (onT_intro hbe (onE_intro ho (onT_intro hr ⟨fun b' x hx => ?_, h⟩)))
            simp at hx
            obtain ⟨rfl, rfl⟩ := hx
            exact .inr (by rw [hbl]; simp)
        | _ => exact h.elim
      | _ => exact h.elim
    | _ => exact h.elim
  | _ => exact h.elim

theorem appendV_dom {o : Oper} (hn : newOp o = true) {e : Sh} {bytes : Nat} {dst src : V} {k : V → Eff → Prop} (h : appendV rd slot e bytes dst src k) : appendV rd slot e bytes dst src fun v ef => domOK rd o slot ef ∧ k v ef := by
  cases dst with
  | d x =>
    cases x with
    | nils =>
      have h4 : elems rd e src fun ys => onT (decide (ys.length * bytes ≤ room)) (k (.sl slot 0 0) [(slot, some (.grow 0 e ys))]) := h
      refine Lin.mono (k' := fun ys => onT (decide (ys.length * bytes ≤ room)) (domOK rd o slot [(slot, some (.grow 0 e ys))] ∧ k (.sl slot 0 0) [(slot, some (.grow 0 e ys))])) (elems_lin rd e src) (fun ys h => ?_) h4
      obtain ⟨hb, hk⟩ := onT_elim h
      refine onT_intro hb ⟨fun b x hx => ?_, hk⟩
      simp at hx; exact .inl ⟨hn, hx.1⟩
    | ro e' t xs =>
      cases t with
      | false => exact h.elim
      | true =>
        obtain ⟨hs, h1⟩ := onT_elim h
        refine onT_intro hs ?_
        refine (elems_lin rd e src).mono (fun ys h => ?_) h1
        obtain ⟨hb, hk⟩ := onT_elim h
        refine onT_intro hb ?_
        cases ys with
        | nil => exact ⟨fun b x hx => by simp at hx, hk⟩
        | cons y ys' => exact ⟨fun b x hx => by simp at hx; exact .inl ⟨hn, hx.1⟩, hk⟩
    | _ => exact h.elim
  | sl b off ver =>
    obtain ⟨bk, hb, h1⟩ := onS_elim h
    refine onS_intro hb ?_
    cases bk with
    | fix v => exact h1.elim
    | grow ver' e' xs =>
      obtain ⟨he, h2⟩ := onE_elim h1
      refine onE_intro he ?_
      obtain ⟨hs, h3⟩ := onT_elim h2
      refine onT_intro hs ?_
      obtain ⟨ho, h4⟩ := onE_elim h3
      refine onE_intro ho ?_
      refine (elems_lin rd e src).mono (fun ys h => ?_) h4
      obtain ⟨hr, hk⟩ := onT_elim h
      refine onT_intro hr ⟨fun b' x hx => ?_, hk⟩
      simp at hx
      rw [hx.1, hb]
      exact .inr (by simp)
  | sa b path off len =>
    obtain ⟨bk, hb, h1⟩ := onS_elim h
    refine onS_intro hb ?_
    cases bk with
    | grow ver' e' xs => exact h1.elim
    | fix v =>
      refine (getV_one path v).mono (fun u h => ?_) h1
      cases u with
      | d y =>
        cases y with
        | arr n e' xs =>
          obtain ⟨he, h2⟩ := onE_elim h
          refine onE_intro he ?_
          obtain ⟨hs, h3⟩ := onT_elim h2
          refine onT_intro hs ?_
          refine (elems_lin rd e src).mono (fun ys h => ?_) h3
          obtain ⟨hr, h4⟩ := onT_elim h
          refine onT_intro hr ?_
          have one : ∀ y, domOK rd o slot [(slot, y)] := fun y b x hx => by simp at hx; exact .inl ⟨hn, hx.1⟩
          have two : ∀ y z, domOK rd o slot [(slot, y), (b, z)] := fun y z b' x hx => by
            simp at hx
            rcases hx with hx | hx
            · exact .inl ⟨hn, hx.1⟩
            · rw [hx.1, hb]; exact .inr (by simp)
          cases path with
          | nil =>
            cases off with
            | zero =>
              cases src with
              | sa b' p' off' len' =>
                cases len' with
                | zero => exact ⟨two _ _, h4⟩
                | succ n => exact ⟨one _, h4⟩
              | _ => exact ⟨two _ _, h4⟩
            | succ m =>
              cases src with
              | sa b' p' off' len' =>
                cases len' with
                | zero => exact h4.elim
                | succ n => exact ⟨one _, h4⟩
              | _ => exact h4.elim
          | cons i p =>
            cases src with
            | sa b' p' off' len' =>
              cases len' with
              | zero => exact h4.elim
              | succ n => exact ⟨one _, h4⟩
            | _ => exact h4.elim
        | _ => exact h.elim
      | _ => exact h.elim
  | _ => exact h.elim

theorem Wop_soft {o : Oper} (hp : softOp o = true) {k : V → Eff → Prop} (h : Wop cx ρ rd slot o k) : Wop cx ρ rd slot o fun v e => softEff rd e ∧ k v e := by
  obtain ⟨dst, op, ty, pos, after, guard⟩ := o
  cases op with
  | store t a x => exact storeV_soft (k := fun e => k .any e) h
  | call c =>
    obtain ⟨callee, ⟨cargs⟩, ⟨catys⟩⟩ := c
    cases callee with
    | builtin b =>
      cases b with
      | copy =>
        match cargs, catys, h with
        | [x, y], [t, t'], h =>
          obtain ⟨te, hte, h⟩ := onS_elim (show onS (cx.ty t) (fun te => match te.ty with
                | .sl e => onS (cx.ty e) fun ee => copyV rd ee.sh (ρ x) (ρ y) k
                | _ => False) from h)
          refine onS_intro hte ?_
          revert h
          cases te.ty with
          | sl e =>
            intro h
            obtain ⟨ee, hee, h⟩ := onS_elim h
            exact onS_intro hee (copyV_soft h)
          | _ => intro h; exact h.elim
      | _ => cases hp
    | _ => cases hp
  | _ => cases hp

theorem Wop_dom (hlit : ρ (.const (.slice none 0 0)) = .d .nils) {o : Oper} {k : V → Eff → Prop} (h : Wop cx ρ rd slot o k) : Wop cx ρ rd slot o fun v e => domOK rd o slot e ∧ k v e := by
  cases hw : writeOp o with
  | false =>
    refine (Wop_lin cx ρ rd slot o).mono (fun v e h => ⟨fun b x hx => ?_, h.2⟩) (Wop_eff hlit hw h)
    rcases h.1 with rfl | ⟨hn, y, rfl⟩
    · simp at hx
    · simp at hx; exact .inl ⟨hn, hx.1⟩
  | true =>
    cases hs : softOp o with
    | true =>
      refine (Wop_lin cx ρ rd slot o).mono (fun v e h => ⟨fun b x hx => ?_, h.2⟩) (Wop_soft hs h)
      obtain ⟨b', x', y, hb, _, rfl⟩ := h.1
      simp at hx
      rw [hx.1, hb]
      exact .inr (by simp)
    | false =>
      obtain ⟨dst, op, ty, pos, after, guard⟩ := o
      cases op with
      | store t a x => cases hs
      | convert src dst x =>
        have hw : Nat.beq src dst = true := hw
        have h : match Nat.beq src dst with
          | true => convS cx rd dst (ρ x) k
          | false => convV cx rd src dst (ρ x) fun v => k v [] := h
        show match Nat.beq src dst with
          | true => convS cx rd dst (ρ x) _
          | false => convV cx rd src dst (ρ x) fun v => _
        rw [hw] at h ⊢
        obtain ⟨te, hte, h⟩ := onS_elim h
        refine onS_intro hte ?_
        revert h
        cases te.ty with
        | int kd => cases ρ x with
          | d y => cases y with
            | int kk n => intro h; exact ⟨fun b x hx => by simp at hx, h⟩
            | _ => intro h; exact h.elim
          | _ => intro h; exact h.elim
        | str => cases ρ x with
          | d y => cases y with
            | str s => intro h; exact ⟨fun b x hx => by simp at hx, h⟩
            | _ => intro h; exact h.elim
          | _ => intro h; exact h.elim
        | sl e => cases ρ x with
          | sl b off ver =>
            intro h
            obtain ⟨ee, hee, h⟩ := onS_elim h
            refine onS_intro hee ?_
            revert h
            cases ee.ty with
            | int kd => cases kd with
              | u8 =>
                intro h
                obtain ⟨blk, hb, h⟩ := onS_elim h
                refine onS_intro hb ?_
                cases blk with
                | fix v => exact h.elim
                | grow ver' e' xs =>
                  obtain ⟨h1, h⟩ := onE_elim h
                  obtain ⟨h2, h⟩ := onT_elim h
                  refine onE_intro h1 (onT_intro h2 ⟨fun b' y hy => ?_, h⟩)
                  simp at hy
                  rw [hy.1, hb]
                  exact .inr (by simp)
              | _ => intro h; exact h.elim
            | _ => intro h; exact h.elim
          | _ => intro h; exact h.elim
        | _ => intro h; exact h.elim
      | call c =>
        obtain ⟨callee, ⟨cargs⟩, ⟨catys⟩⟩ := c
        cases callee with
        | builtin b =>
          cases b with
          | append =>
            match cargs, catys, h with
            | [x, y], [t, t'], h =>
              have h0 : br (t == t') (onS (cx.ty t) fun te => match te.ty with
                | .sl e => onS (cx.ty e) fun ee => appendV rd slot ee.sh ee.bytes (ρ x) (ρ y) k
                | _ => False) (onS (cx.ty t) fun te => match te.ty with
                | .sl e => onS (cx.ty e) fun ee => onS (cx.ty t') fun te' => match te'.ty with
                  | .int .i64 => appendZ rd ee.sh ee.bytes ee.zero (ρ x) (ρ y) k
                  | _ => False
                | _ => False) := h
              cases htt : (t == t') with
              | false =>
                rw [htt] at h0
                have h1 : onS (cx.ty t) fun te => match te.ty with
                  | .sl e => onS (cx.ty e) fun ee => onS (cx.ty t') fun te' => match te'.ty with
                    | .int .i64 => appendZ rd ee.sh ee.bytes ee.zero (ρ x) (ρ y) k
                    | _ => False
                  | _ => False := h0
                refine br_false htt ?_
                obtain ⟨te, hte, h2⟩ := onS_elim h1
                refine onS_intro hte ?_
                revert h2
                cases te.ty with
                | sl e =>
                  intro h2
                  obtain ⟨ee, hee, h3⟩ := onS_elim h2
                  obtain ⟨te', hte', h3⟩ := onS_elim h3
                  refine onS_intro hee (onS_intro hte' ?_)
                  revert h3
                  cases te'.ty with
                  | int kk =>
                    cases kk with
                    | i64 => intro h3; exact appendZ_dom rfl h3
                    | _ => intro h3; exact h3.elim
                  | _ => intro h3; exact h3.elim
                | _ => intro h2; exact h2.elim
              | true =>
              rw [htt] at h0
              have h1 : onS (cx.ty t) fun te => match te.ty with
                | .sl e => onS (cx.ty e) fun ee => appendV rd slot ee.sh ee.bytes (ρ x) (ρ y) k
                | _ => False := h0
              refine br_true htt ?_
              obtain ⟨te, hte, h2⟩ := onS_elim h1
              refine onS_intro hte ?_
              revert h2
              cases te.ty with
              | sl e =>
                intro h2
                obtain ⟨ee, hee, h3⟩ := onS_elim h2
                exact onS_intro hee (appendV_dom rfl h3)
              | _ => intro h2; exact h2.elim
          | copy => cases hs
          | _ => cases hw
        | _ => cases hw
      | _ => cases hw
end
end Go.Fw
