/-
The stricter form of W: operations, regions, code; what it says, W says. No conditions.
-/
import Derived.Test.YtcoooinjnkeokaaDoorFwZe
namespace Go.Fw
set_option linter.unusedVariables false
set_option linter.unusedSimpArgs false
open Go.RowKit

def optK (cx : Cx) (l : List V) (o : Option Operand) (k : Option V → Prop) : Prop :=
  match o with
  | none => k none
  | some x => evK cx l x fun v => k (some v)

def sliceK (cx : Cx) (rd : Nat → Option Blk) (t : TypeId) (x : V) (lo hi mx : Option V) (k : V → Prop) : Prop :=
  sliceVC cx (fun | .tmp 0 => lo.getD .any | .tmp 1 => hi.getD .any | _ => mx.getD .any) rd t x (lo.map fun _ => .tmp 0) (hi.map fun _ => .tmp 1) (mx.map fun _ => .tmp 2) k

theorem optI_same {ρ ρ' : Operand → V} {o o' : Option Operand} (h : o.isSome = o'.isSome) (h2 : ∀ x y, o = some x → o' = some y → ρ x = ρ' y) (d hi : Nat) (k : Nat → Prop) : optI ρ o d hi k = optI ρ' o' d hi k := by
  cases o with
  | none => cases o' with
    | none => rfl
    | some y => simp at h
  | some x => cases o' with
    | none => simp at h
    | some y => simp only [optI, h2 x y rfl rfl]

theorem sliceV_same {cx : Cx} {ρ ρ' : Operand → V} {rd : Nat → Option Blk} {t : TypeId} {x : V} {lo hi mx lo' hi' mx' : Option Operand} {k : V → Prop}
    (hl : lo.isSome = lo'.isSome) (hl2 : ∀ x y, lo = some x → lo' = some y → ρ x = ρ' y)
    (hh : hi.isSome = hi'.isSome) (hh2 : ∀ x y, hi = some x → hi' = some y → ρ x = ρ' y)
    (hm : mx.isSome = mx'.isSome) (hm2 : ∀ x y, mx = some x → mx' = some y → ρ x = ρ' y) : sliceV cx ρ rd t x lo hi mx k = sliceV cx ρ' rd t x lo' hi' mx' k := by
  have el : ∀ d h k, optI ρ lo d h k = optI ρ' lo' d h k := fun d h k => optI_same hl hl2 d h k
  have eh : ∀ d h k, optI ρ hi d h k = optI ρ' hi' d h k := fun d h k => optI_same hh hh2 d h k
  have em : ∀ d h k, optI ρ mx d h k = optI ρ' mx' d h k := fun d h k => optI_same hm hm2 d h k
  unfold sliceV
  simp only [el, eh]
  cases mx with
  | none => cases mx' with
    | some _ => simp at hm
    | none => cases hi with
      | none => cases hi' with
        | some _ => simp at hh
        | none => rfl
      | some a => cases hi' with
        | none => simp at hh
        | some b => simp only [eh]
  | some c => cases mx' with
    | none => simp at hm
    | some c' => cases hi with
      | none => cases hi' with
        | some _ => simp at hh
        | none => simp only [em]
      | some a => cases hi' with
        | none => simp at hh
        | some b => simp only [eh, em]

theorem optK_imp {cx : Cx} {l : List V} {o : Option Operand} {k : Option V → Prop} (h : optK cx l o k) : k (o.map (evO cx (nthV l))) := by
  cases o with
  | none => exact h
  | some x => exact evK_imp (k := fun v => k (some v)) h

theorem sliceK_imp {cx : Cx} {rd : Nat → Option Blk} {t : TypeId} {x : V} {ρ : Operand → V} {lo hi mx : Option Operand} {k : V → Prop}
    (h : sliceK cx rd t x (lo.map ρ) (hi.map ρ) (mx.map ρ) k) : sliceV cx ρ rd t x lo hi mx k := by
  unfold sliceK at h
  rw [sliceVC_eq] at h
  rw [sliceV_same (ρ' := ρ) (lo' := lo) (hi' := hi) (mx' := mx)] at h
  · exact h
  · simp
  · intro x y hx hy; subst hy; simp at hx; subst hx; rfl
  · simp
  · intro x y hx hy; subst hy; simp at hx; subst hx; rfl
  · simp
  · intro x y hx hy; subst hy; simp at hx; subst hx; rfl

def flipOf (hs : Hints) (id : Nat) (j : Nat) : Bool :=
  match lookN id hs.flip with
  | some l => elemN j l
  | none => false

/-- One operation, strictly. -/
def Wop2 (fl : Bool) (cx : Cx) (l : List V) (rd : Nat → Option Blk) (slot : Nat) (o : Oper) (k : V → Eff → Prop) : Prop :=
  match o.op with
  | .move x | .assign x => evK cx l x fun v => k v []
  | .pick c a b => evK cx l c fun c => asB c fun t => br t (evK cx l a fun v => k v []) (evK cx l b fun v => k v [])
  | .alloc elem => onTy (cx.ty elem) fun _ sh _ z => k (.ptr slot 0 [] sh) [(slot, some (.fix (.d z)))]
  | .box t x => evK cx l x fun v => onT (cellV v) (onTy (cx.ty t) fun _ sh _ _ => onT (sh.beq v.sh) (k (.ptr slot 0 [] sh) [(slot, some (.fix v))]))
  | .build t parts => onTy (cx.ty t) fun _ _ _ z => match z with
    | .st zs => mapDK zs fun vs => fillK cx l parts.toList vs fun vs => mkStK vs fun v => k v []
    | .arr n e zs => mapDK zs fun vs => fillK cx l parts.toList vs fun vs => allK vs fun ds => k (.d (.arr n e ds)) []
    | _ => False
  | .buildSlice t len parts => onTy (cx.ty t) fun ty _ _ _ => match ty with
    | .sl e => onTy (cx.ty e) fun _ sh _ z => onT (decide (len * sh.csz ≤ 16777216)) (mapDK (List.replicate len z) fun vs => fillK cx l parts.toList vs fun vs => allK vs fun ds => k (.sl slot 0 0) [(slot, some (.grow 0 sh ds))])
    | _ => False
  | .load t a => evK cx l a fun a => loadV cx rd t a fun v => k v []
  | .store t a x => evK cx l a fun a => evK cx l x fun x => storeV2 cx rd t a x fun e => k .any e
  | .nilCheck x => evK cx l x fun v => match v with
    | .ptr b v p s => k (.ptr b v p s) []
    | .rop x => k (.rop x) []
    | _ => False
  | .binOp op t x y _ => evK cx l x fun x => evK cx l y fun y => binV2 fl cx t op x y fun v => k v []
  | .unOp op _ x => evK cx l x fun x => unV2 fl op x fun v => k v []
  | .convert src dst x => evK cx l x fun x => br (Nat.beq src dst) (convS cx rd dst x k) (convV2 fl cx rd src dst x fun v => k v [])
  | .sliceToArrayPointer arr x => evK cx l x fun x => arrVC cx rd arr x fun v => k v []
  | .makeSlice t n c => evK cx l n fun n => evK cx l c fun c => onTy (cx.ty t) fun ty _ _ _ => match ty with
    | .sl e => onTy (cx.ty e) fun _ sh by_ z => asI n fun _ n => asI c fun _ m =>
        onT (chk (0 ≤ n ∧ n ≤ m ∧ by_ * m ≤ 281474976710656 ∧ m ≤ 9223372036854775807)) (k (.sl slot 0 0) [(slot, some (.grow 0 sh (List.replicate n.toNat z)))])
    | _ => False
  | .slice t x lo hi mx => evK cx l x fun x => optK cx l lo fun lo => optK cx l hi fun hi => optK cx l mx fun mx => sliceK cx rd t x lo hi mx fun v => k v []
  | .fieldAddr t x f => evK cx l x fun x => fieldAtV cx t x f fun v => k v []
  | .field t x f => evK cx l x fun x => fieldV cx t x f fun v => k v []
  | .indexAddr t x i => evK cx l i fun i => evK cx l x fun x => asI i fun _ i => idxVC cx rd t x i fun v => k v []
  | .index t x i => evK cx l i fun i => evK cx l x fun x => asI i fun _ i => indexVC cx t x i fun v => k v []
  | .extract x i => evK cx l x fun v => match v with
    | .d (.tup xs) => onS xs[i]? fun y => k (.d y) []
    | .tup xs => onS xs[i]? fun y => k y []
    | _ => False
  | .makeFunc (.func f) first captured => match first.toList with
    | [] => evKs cx l captured.toList fun vs => allK vs fun ds => onT (ds.all fun x => cellV (.d x)) (k (.d (.fn f ds)) [])
    | _ => False
  | .call c => match c.callee with
    | .builtin b => match b with
      | .len => match c.args.toList, c.argTypes.toList with
        | [x], [t] => evK cx l x fun x => lenV cx rd t x fun n => k (.d (.int .i64 n)) []
        | _, _ => False
      | .append => match c.args.toList, c.argTypes.toList with
        | [x, y], [t, t'] => br (t == t') (evK cx l x fun x => evK cx l y fun y => onTy (cx.ty t) fun ty _ _ _ => match ty with
          | .sl e => onTy (cx.ty e) fun _ sh by_ _ => appendVC rd slot sh by_ x y k
          | _ => False) (evK cx l x fun x => evK cx l y fun y => onTy (cx.ty t) fun ty _ _ _ => match ty with
          | .sl e => onTy (cx.ty e) fun _ sh by_ z => onTy (cx.ty t') fun ty' _ _ _ => match ty' with
            | .int .i64 => appendZC rd sh by_ z x y k
            | _ => False
          | _ => False)
        | _, _ => False
      | .copy => match c.args.toList, c.argTypes.toList with
        | [x, y], [t, _] => evK cx l x fun x => evK cx l y fun y => onTy (cx.ty t) fun ty _ _ _ => match ty with
          | .sl e => onTy (cx.ty e) fun _ sh _ _ => copyVC rd sh x y k
          | _ => False
        | _, _ => False
      | b => evKs cx l c.args.toList fun vs => minI b vs fun v => k v []
    | .value f => evK cx l f fun f => match f with
      | .d (.fn f caps) => evKs cx l c.args.toList fun vs => argsVC rd vs fun bor ds => ∃ ds' v, D.les ds ds' ∧ Returns cx f (ds' ++ caps) v ∧ onB bor v (k (.d v) [])
      | _ => False
    | _ => False
  | _ => False

theorem br_t {x y : Prop} (h : br true x y) : x := h
theorem br_f {x y : Prop} (h : br false x y) : y := h
theorem Wop2_imp {fl : Bool} {cx : Cx} {l : List V} {rd : Nat → Option Blk} {slot : Nat} {o : Oper} {k : V → Eff → Prop} (h : Wop2 fl cx l rd slot o k) : Wop cx (evO cx (nthV l)) rd slot o k := by
  unfold Wop2 at h
  simp only [appendZC_eq, appendVC_eq, idxVC_eq, arrVC_eq, indexVC_eq, copyVC_eq, argsVC_eq] at h
  obtain ⟨dst, op, ty, pos, after, guard⟩ := o
  cases op with
  | move x => exact evK_imp (k := fun v => k v []) h
  | assign x => exact evK_imp (k := fun v => k v []) h
  | pick c a b =>
    obtain ⟨t, ht, h⟩ := asB_inv (evK_imp h)
    show asB (evO cx (nthV l) c) fun t => br t _ _
    rw [ht]
    cases t with
    | true => exact evK_imp (k := fun v => k v []) h
    | false => exact evK_imp (k := fun v => k v []) h
  | alloc elem =>
    obtain ⟨te, ht, h⟩ := onTy_imp h
    exact onS_intro ht h
  | box t x =>
    have h := evK_imp h
    obtain ⟨h1, h⟩ := onT_inv h
    obtain ⟨te, ht, h⟩ := onTy_imp h
    obtain ⟨h2, h⟩ := onT_inv h
    rw [Sh.beq_eq _ _ h2] at h
    exact onT_intro h1 h
  | build t parts =>
    obtain ⟨te, ht, h⟩ := onTy_imp h
    refine onS_intro ht ?_
    cases hz : te.zero with
    | st zs =>
      rw [hz] at h
      have h := fillK_imp (mapDK_imp h)
      obtain ⟨z, hz, hm⟩ := fillV_lin _ _ _ _ h
      exact hm _ (mkStK_imp hz)
    | arr n e zs =>
      rw [hz] at h
      have h := fillK_imp (mapDK_imp h)
      obtain ⟨z, hz, hm⟩ := fillV_lin _ _ _ _ h
      obtain ⟨ds, h1, h2⟩ := allK_imp hz
      exact hm (fun l => onS (allD l) fun ds => k (.d (.arr n e ds)) []) (onS_intro h1 h2)
    | _ => rw [hz] at h; exact h.elim
  | buildSlice t len parts =>
    obtain ⟨te, ht, h⟩ := onTy_imp h
    refine onS_intro ht ?_
    cases hz : te.ty with
    | sl e =>
      simp only [hz] at h ⊢
      obtain ⟨ee, he, h⟩ := onTy_imp h
      refine onS_intro he ?_
      obtain ⟨h1, h⟩ := onT_inv h
      refine onT_intro h1 ?_
      have h := fillK_imp (mapDK_imp h)
      obtain ⟨z, hz, hm⟩ := fillV_lin _ _ _ _ h
      obtain ⟨ds, h1, h2⟩ := allK_imp hz
      exact hm (fun l => onS (allD l) fun ds => k (.sl slot 0 0) [(slot, some (.grow 0 ee.sh ds))]) (onS_intro h1 h2)
    | _ => rw [hz] at h; exact h.elim
  | load t a => exact evK_imp (k := fun a => loadV cx rd t a fun v => k v []) h
  | store t a x => exact storeV2_imp (evK_imp (evK_imp (k := fun a => evK cx l x fun x => storeV2 cx rd t a x fun e => k .any e) h))
  | nilCheck x =>
    have h := evK_imp h
    simp only [Wop]
    split at h
    · rename_i hx; rw [hx]; exact h
    · rename_i hx; rw [hx]; exact h
    · exact h.elim
  | binOp op t x y ty => exact binV2_imp (evK_imp (evK_imp (k := fun x => evK cx l y fun y => binV2 fl cx t op x y fun v => k v []) h))
  | unOp op t x => exact unV2_imp (evK_imp (k := fun x => unV2 fl op x fun v => k v []) h)
  | convert src dst x =>
    have h := evK_imp (k := fun x => br (Nat.beq src dst) (convS cx rd dst x k) (convV2 fl cx rd src dst x fun v => k v [])) h
    show match Nat.beq src dst with
      | true => convS cx rd dst _ k
      | false => convV cx rd src dst _ fun v => k v []
    cases hb : Nat.beq src dst with
    | true => rw [hb] at h; exact h
    | false => rw [hb] at h; exact convV2_imp h
  | sliceToArrayPointer arr x => exact evK_imp (k := fun x => arrV cx rd arr x fun v => k v []) h
  | makeSlice t n c =>
    have h := evK_imp h
    have h := evK_imp h
    obtain ⟨te, ht, h⟩ := onTy_imp h
    refine onS_intro ht ?_
    cases hz : te.ty with
    | sl e =>
      simp only [hz] at h ⊢
      obtain ⟨ee, he, h⟩ := onTy_imp h
      simp only [chk_eq] at h
      exact onS_intro he h
    | _ => rw [hz] at h; exact h.elim
  | slice t x lo hi mx =>
    have h := evK_imp h
    have h := optK_imp h
    have h := optK_imp h
    have h := optK_imp h
    exact sliceK_imp h
  | fieldAddr t x f => exact evK_imp (k := fun x => fieldAtV cx t x f fun v => k v []) h
  | field t x f => exact evK_imp (k := fun x => fieldV cx t x f fun v => k v []) h
  | indexAddr t x i => exact evK_imp (k := fun x => asI _ fun _ i => idxV cx rd t x i fun v => k v []) (evK_imp (k := fun i => evK cx l x fun x => asI i fun _ i => idxV cx rd t x i fun v => k v []) h)
  | index t x i => exact evK_imp (k := fun x => asI _ fun _ i => indexV cx t x i fun v => k v []) (evK_imp (k := fun i => evK cx l x fun x => asI i fun _ i => indexV cx t x i fun v => k v []) h)
  | extract x i =>
    have h := evK_imp h
    simp only [Wop]
    split at h
    · rename_i hx; rw [hx]; exact h
    · rename_i hx; rw [hx]; exact h
    · exact h.elim
  | makeFunc fn first captured =>
    cases fn with
    | func f =>
      simp only at h
      simp only [Wop]
      split at h
      · rename_i hf
        rw [hf]
        have h := evKs_imp h
        obtain ⟨ds, h1, h⟩ := allK_imp h
        exact onS_intro h1 h
      · exact h.elim
    | _ => exact h.elim
  | call c =>
    obtain ⟨callee, args, argTypes⟩ := c
    cases callee with
    | builtin b =>
      cases b with
      | len =>
        simp only at h
        simp only [Wop]
        split at h
        · rename_i x t e1 e2
          rw [e1, e2]
          exact evK_imp (k := fun x => lenV cx rd t x fun n => k (.d (.int .i64 n)) []) h
        · exact h.elim
      | append =>
        simp only at h
        simp only [Wop]
        split at h
        · rename_i x y t t' e1 e2
          rw [e1, e2]
          cases hb : (t == t') with
          | false =>
            rw [hb] at h
            refine br_false hb ?_
            have h := evK_imp (br_f h)
            have h := evK_imp h
            obtain ⟨te, ht, h⟩ := onTy_imp h
            refine onS_intro ht ?_
            cases hz : te.ty with
            | sl e =>
              simp only [hz] at h ⊢
              obtain ⟨ee, he, h⟩ := onTy_imp h
              refine onS_intro he ?_
              obtain ⟨te', ht', h⟩ := onTy_imp h
              refine onS_intro ht' ?_
              cases hz' : te'.ty with
              | int kk =>
                cases kk with
                | i64 => simp only [hz'] at h ⊢; exact h
                | _ => rw [hz'] at h; exact h.elim
              | _ => rw [hz'] at h; exact h.elim
            | _ => rw [hz] at h; exact h.elim
          | true =>
          rw [hb] at h
          refine br_true hb ?_
          have h := evK_imp (br_t h)
          have h := evK_imp h
          obtain ⟨te, ht, h⟩ := onTy_imp h
          refine onS_intro ht ?_
          cases hz : te.ty with
          | sl e =>
            simp only [hz] at h ⊢
            obtain ⟨ee, he, h⟩ := onTy_imp h
            exact onS_intro he h
          | _ => rw [hz] at h; exact h.elim
        · exact h.elim
      | copy =>
        simp only at h
        simp only [Wop]
        split at h
        · rename_i x y t t' e1 e2
          rw [e1, e2]
          have h := evK_imp h
          have h := evK_imp h
          obtain ⟨te, ht, h⟩ := onTy_imp h
          refine onS_intro ht ?_
          cases hz : te.ty with
          | sl e =>
            simp only [hz] at h ⊢
            obtain ⟨ee, he, h⟩ := onTy_imp h
            exact onS_intro he h
          | _ => rw [hz] at h; exact h.elim
        · exact h.elim
      | _ => exact evKs_imp (k := fun vs => minI _ vs fun v => k v []) h
    | value f =>
      have h := evK_imp h
      simp only [Wop]
      split at h
      · rename_i f' caps hf
        rw [hf]
        exact evKs_imp (k := fun vs => argsV rd vs fun bor ds => ∃ ds' v, D.les ds ds' ∧ Returns cx f' (ds' ++ caps) v ∧ onB bor v (k (.d v) [])) h
      · exact h.elim
    | _ => exact h.elim
  | _ => exact h.elim

abbrev OpsT := Nat → Nat → List V → Heap → Prop

def nextK (o : Oper) (ih : OpsT) (j slot : Nat) (l : List V) (H : Heap) : Prop :=
  br (newOp o) (numK (slot + 1) fun slot => ih (j + 1) slot l H) (ih (j + 1) slot l H)

def runK (cx : Cx) (fl : Nat → Bool) (vis : Vis) (ops : List Oper) (base : Nat) (o : Oper) (ih : OpsT) (j slot : Nat) (l : List V) (H : Heap) : Prop :=
  Wop2 (fl j) cx l (rdAt vis ops base H j) slot o fun v e => appK H e fun H' => putL l o.dst v fun l' => nextK o ih j slot l' H'

def idleK (o : Oper) (ih : OpsT) (j slot : Nat) (l : List V) (H : Heap) : Prop :=
  putL l o.dst (.tup []) fun l' => nextK o ih j slot l' H

def opsStep (cx : Cx) (fl : Nat → Bool) (vis : Vis) (ops : List Oper) (base : Nat) (o : Oper) (ih : OpsT) : OpsT := fun j slot l H =>
  match o.guard with
  | none => runK cx fl vis ops base o ih j slot l H
  | some (i, want) => match (ops[i]?).bind (·.dst) with
    | some t => getL l t fun gv => asG gv (idleK o ih j slot l H) fun g => br g
        (match want with
          | true => setL l t (.d (.bool true)) fun l => runK cx fl vis ops base o ih j slot l H
          | false => setL l t (.d (.bool true)) fun l => idleK o ih j slot l H)
        (match want with
          | true => setL l t (.d (.bool false)) fun l => idleK o ih j slot l H
          | false => setL l t (.d (.bool false)) fun l => runK cx fl vis ops base o ih j slot l H)
    | none => False

noncomputable def Wops2 (cx : Cx) (fl : Nat → Bool) (vis : Vis) (ops : List Oper) (base : Nat) (K : List V → Heap → Prop) (rest : List Oper) : OpsT :=
  List.rec (motive := fun _ => OpsT) (fun _ _ l H => K l H) (fun o _ ih => opsStep cx fl vis ops base o ih) rest

theorem Wops2_imp {cx : Cx} {fl : Nat → Bool} {vis : Vis} {ops : List Oper} {base N : Nat} {K2 : List V → Heap → Prop} {K : Env → Heap → Prop} (hK : ∀ l H, l.length = N → K2 l H → K (nthV l) H) :
    ∀ (rest : List Oper) (j slot : Nat) (l : List V) (H : Heap), l.length = N → Wops2 cx fl vis ops base K2 rest j slot l H → Wops cx vis ops base K rest j slot (nthV l) H
  | [], j, slot, l, H, hl, h => hK l H hl h
  | o :: rest, j, slot, l, H, hl, h => by
    have next : ∀ {l' H'}, l'.length = N → nextK o (Wops2 cx fl vis ops base K2 rest) j slot l' H' →
        Wops cx vis ops base K rest (j + 1) (bif newOp o then slot + 1 else slot) (nthV l') H' := fun hl' h => by
      unfold nextK at h
      cases hn : newOp o with
      | true => rw [hn] at h; exact Wops2_imp hK rest _ _ _ _ hl' (numK_imp (k := fun slot => Wops2 cx fl vis ops base K2 rest (j + 1) slot _ _) h)
      | false => rw [hn] at h; exact Wops2_imp hK rest _ _ _ _ hl' h
    have run : ∀ l1 : List V, l1.length = N → runK cx fl vis ops base o (Wops2 cx fl vis ops base K2 rest) j slot l1 H →
        Wop cx (evO cx (nthV l1)) (rdAt vis ops base H j) slot o (fun v e => appK H e fun H' => Wops cx vis ops base K rest (j + 1) (bif newOp o then slot + 1 else slot) (put (nthV l1) o.dst v) H') := fun l1 hl1 h =>
      (Wop_lin cx _ _ _ o).mono (fun v e h => by
        rw [appK_eq] at h ⊢
        obtain ⟨l', h1, h2, h3⟩ := putL_imp h
        rw [← h2]
        exact next (h1.trans hl1) h3) (Wop2_imp h)
    have h : opsStep cx fl vis ops base o (Wops2 cx fl vis ops base K2 rest) j slot l H := h
    unfold opsStep at h
    unfold Wops
    cases hgd : o.guard with
    | none => rw [hgd] at h; exact run l hl h
    | some p =>
      obtain ⟨i, want⟩ := p
      rw [hgd] at h
      cases hd : (ops[i]?).bind (·.dst) with
      | none => simp only [hd] at h
      | some t =>
        simp only [hd] at h ⊢
        obtain ⟨ht, h⟩ := getL_imp h
        rcases asG_inv h with ⟨hg, h⟩ | ⟨g, hg, h⟩
        · rw [hg]
          obtain ⟨l', h1, h2, h3⟩ := putL_imp h
          show Wops cx vis ops base K rest (j + 1) _ (put (nthV l) o.dst (.tup [])) H
          rw [← h2]
          exact next (h1.trans hl) h3
        rw [hg]
        cases g with
        | true =>
          cases want with
          | true =>
            obtain ⟨_, h⟩ := setL_imp h
            have := run _ (by simp [hl]) h
            rw [nthV_upd _ ht] at this
            exact this
          | false =>
            obtain ⟨_, h⟩ := setL_imp h
            obtain ⟨l', h1, h2, h3⟩ := putL_imp h
            show Wops cx vis ops base K rest (j + 1) _ (put (upd (nthV l) t (.d (.bool true))) o.dst (.tup [])) H
            rw [← nthV_upd _ ht, ← h2]
            exact next (h1.trans (by simp [hl])) h3
        | false =>
          cases want with
          | true =>
            obtain ⟨_, h⟩ := setL_imp h
            obtain ⟨l', h1, h2, h3⟩ := putL_imp h
            show Wops cx vis ops base K rest (j + 1) _ (put (upd (nthV l) t (.d (.bool false))) o.dst (.tup [])) H
            rw [← nthV_upd _ ht, ← h2]
            exact next (h1.trans (by simp [hl])) h3
          | false =>
            obtain ⟨_, h⟩ := setL_imp h
            have := run _ (by simp [hl]) h
            rw [nthV_upd _ ht] at this
            exact this

def lenK : Heap → Nat → (Nat → Prop) → Prop
  | [], n, k => numK n k
  | _ :: r, n, k => lenK r (n + 1) k

theorem lenK_imp : ∀ {H : Heap} {n : Nat} {k : Nat → Prop}, lenK H n k → k (n + H.length)
  | [], n, k, h => numK_imp h
  | _ :: r, n, k, h => by
    have := lenK_imp (H := r) (n := n + 1) h
    simp only [List.length_cons]
    rw [show n + (r.length + 1) = n + 1 + r.length by omega]
    exact this

def Wregion2 (cx : Cx) (fl : Nat → Bool) (vis : Vis) (ops : List Oper) (l : List V) (H : Heap) (K : List V → Heap → Prop) : Prop :=
  lenK H 0 fun base => moreK H (news ops) fun H' => Wops2 cx fl vis ops base K ops 0 base l H'

theorem Wregion2_imp {cx : Cx} {fl : Nat → Bool} {vis : Vis} {ops : List Oper} {l : List V} {H : Heap} {N : Nat} {K2 : List V → Heap → Prop} {K : Env → Heap → Prop} (hK : ∀ l H, l.length = N → K2 l H → K (nthV l) H)
    (hl : l.length = N) (h : Wregion2 cx fl vis ops l H K2) : Wregion cx vis ops (nthV l) H K := by
  have h := lenK_imp h
  rw [Nat.zero_add] at h
  rw [moreK_eq] at h
  unfold Wregion
  rw [moreK_eq]
  exact Wops2_imp hK ops 0 _ l _ hl h

abbrev Post2 := Ex → List V → Heap → Prop

def thenK2 (K : List V → Heap → Prop) (Q : Post2) : Post2
  | .normal, a, H => K a H
  | e, a, H => Q e a H

def inBlockK2 (id : Nat) (Q : Post2) : Post2
  | .exit i, a, H => br (Nat.beq i id) (Q .normal a H) (Q (.exit i) a H)
  | e, a, H => Q e a H

abbrev Tr2 := List V → Heap → (List V → Heap → Prop) → Prop

def iterW2 (F : Tr2) : Nat → List V → Heap → Prop
  | 0, _, _ => False
  | n + 1, a, H => ∃ a' H', a'.length = a.length ∧ Wk (nthV a) H (nthV a') H' ∧ F a' H' (iterW2 F n)

@[irreducible] def LoopW2 (F : Tr2) (a : List V) (H : Heap) : Prop := ∃ n, iterW2 F n a H

def cutK2 (b : Bool) (a : List V) (H : Heap) (k : List V → Heap → Prop) : Prop :=
  match b with
  | true => ∃ a' H', a'.length = a.length ∧ Wk (nthV a) H (nthV a') H' ∧ k a' H'
  | false => k a H

abbrev WT := List V → Heap → Post2 → Prop
def skipW : WT := fun a H Q => Q .normal a H
def falseW : WT := fun _ _ _ => False
def exitW (id : Nat) : WT := fun a H Q => Q (.exit id) a H
def retW : WT := fun a H Q => Q .ret a H
def regionW (cx : Cx) (hs : Hints) (id : Nat) (ops : Array Oper) : WT := fun a H Q =>
  cutK2 (elemN id hs.cuts) a H fun a H => Wregion2 cx (flipOf hs id) (visOf hs id) ops.toList a H (Q .normal)
def seqW (x y : WT) : WT := fun a H Q => x a H (thenK2 (fun a H => y a H Q) Q)
def condW (cx : Cx) (c : Operand) (x y : WT) : WT := fun a H Q =>
  match c with
  | .tmp t => getL a t fun v => asB v fun g => br g (setL a t (.d (.bool true)) fun a => x a H Q) (setL a t (.d (.bool false)) fun a => y a H Q)
  | c => evK cx a c fun v => asB v fun g => br g (x a H Q) (y a H Q)
def blockW (id : Nat) (b : WT) : WT := fun a H Q => b a H (inBlockK2 id Q)
def loopW (b : WT) : WT := fun a H Q => LoopW2 (fun a H K => b a H (thenK2 K Q)) a H

noncomputable def W2 (cx : Cx) (hs : Hints) (c : Code) : WT :=
  Code.rec (motive := fun _ => WT) skipW (fun id ops _ => regionW cx hs id ops) (fun _ _ x y => seqW x y) (fun c _ _ x y => condW cx c x y) (fun id _ b => blockW id b) (fun _ b => loopW b)
    (fun _ _ _ _ _ _ => falseW) (fun id => exitW id) (fun _ _ => falseW) (fun _ => falseW) (fun _ => falseW) retW (fun _ => falseW) c

theorem W2_imp {cx : Cx} {hs : Hints} {N : Nat} : ∀ (c : Code) (l : List V) (H : Heap) (Q2 : Post2) (Q : Post), (∀ ex l H, l.length = N → Q2 ex l H → Q ex (nthV l) H) → l.length = N → W2 cx hs c l H Q2 → W cx hs c (nthV l) H Q := by
  intro c
  induction c with
  | skip => intro l H Q2 Q hq hl h; exact hq _ _ _ hl h
  | exit id => intro l H Q2 Q hq hl h; exact hq _ _ _ hl h
  | ret => intro l H Q2 Q hq hl h; exact hq _ _ _ hl h
  | region id ops d =>
    intro l H Q2 Q hq hl h
    have h : cutK2 (elemN id hs.cuts) l H fun a H => Wregion2 cx (flipOf hs id) (visOf hs id) ops.toList a H (Q2 .normal) := h
    show cutK (elemN id hs.cuts) (nthV l) H fun a H => Wregion cx (visOf hs id) ops.toList a H (Q .normal)
    cases hc : elemN id hs.cuts with
    | false => rw [hc] at h; exact Wregion2_imp (hq .normal) hl h
    | true =>
      rw [hc] at h
      obtain ⟨l', H', h1, h2, h⟩ := h
      exact ⟨_, _, h2, Wregion2_imp (hq .normal) (h1.trans hl) h⟩
  | seq x y ihx ihy =>
    intro l H Q2 Q hq hl h
    refine ihx l H _ _ (fun ex l H hl h => ?_) hl h
    cases ex with
    | normal => exact ihy l H Q2 Q hq hl h
    | exit id => exact hq _ _ _ hl h
    | ret => exact hq _ _ _ hl h
  | cond c x y ihx ihy =>
    intro l H Q2 Q hq hl h
    cases c with
    | tmp t =>
      obtain ⟨ht, h⟩ := getL_imp h
      obtain ⟨g, hg, h⟩ := asB_inv h
      show asB (nthV l t) fun g => br g (W cx hs x (upd (nthV l) t (.d (.bool true))) H Q) (W cx hs y (upd (nthV l) t (.d (.bool false))) H Q)
      rw [hg]
      cases g with
      | true =>
        obtain ⟨_, h⟩ := setL_imp h
        show W cx hs x (upd (nthV l) t (.d (.bool true))) H Q
        rw [← nthV_upd _ ht]
        exact ihx _ H Q2 Q hq (by simp [hl]) h
      | false =>
        obtain ⟨_, h⟩ := setL_imp h
        show W cx hs y (upd (nthV l) t (.d (.bool false))) H Q
        rw [← nthV_upd _ ht]
        exact ihy _ H Q2 Q hq (by simp [hl]) h
    | const v =>
      have h : evK cx l (.const v) fun v => asB v fun g => br g (W2 cx hs x l H Q2) (W2 cx hs y l H Q2) := h
      obtain ⟨g, hg, h⟩ := asB_inv (evK_imp h)
      show asB (evO cx (nthV l) (.const v)) fun g => br g (W cx hs x (nthV l) H Q) (W cx hs y (nthV l) H Q)
      rw [hg]
      cases g with
      | true => exact ihx _ H Q2 Q hq hl h
      | false => exact ihy _ H Q2 Q hq hl h
    | global v =>
      have h : evK cx l (.global v) fun v => asB v fun g => br g (W2 cx hs x l H Q2) (W2 cx hs y l H Q2) := h
      obtain ⟨g, hg, h⟩ := asB_inv (evK_imp h)
      show asB (evO cx (nthV l) (.global v)) fun g => br g (W cx hs x (nthV l) H Q) (W cx hs y (nthV l) H Q)
      rw [hg]
      cases g with
      | true => exact ihx _ H Q2 Q hq hl h
      | false => exact ihy _ H Q2 Q hq hl h
    | func v =>
      have h : evK cx l (.func v) fun v => asB v fun g => br g (W2 cx hs x l H Q2) (W2 cx hs y l H Q2) := h
      obtain ⟨g, hg, h⟩ := asB_inv (evK_imp h)
      show asB (evO cx (nthV l) (.func v)) fun g => br g (W cx hs x (nthV l) H Q) (W cx hs y (nthV l) H Q)
      rw [hg]
      cases g with
      | true => exact ihx _ H Q2 Q hq hl h
      | false => exact ihy _ H Q2 Q hq hl h
  | block id b ih =>
    intro l H Q2 Q hq hl h
    refine ih l H _ _ (fun ex l H hl h => ?_) hl h
    cases ex with
    | normal => exact hq _ _ _ hl h
    | ret => exact hq _ _ _ hl h
    | exit i =>
      have h : br (Nat.beq i id) (Q2 .normal l H) (Q2 (.exit i) l H) := h
      show br (Nat.beq i id) (Q .normal (nthV l) H) (Q (.exit i) (nthV l) H)
      cases hi : Nat.beq i id with
      | true => rw [hi] at h; exact hq _ _ _ hl h
      | false => rw [hi] at h; exact hq _ _ _ hl h
  | loop b ih =>
    intro l H Q2 Q hq hl h
    have h : LoopW2 (fun a H K => W2 cx hs b a H (thenK2 K Q2)) l H := h
    show LoopW (fun a H K => W cx hs b a H (thenK K Q)) (nthV l) H
    have key : ∀ n l H, l.length = N → iterW2 (fun a H K => W2 cx hs b a H (thenK2 K Q2)) n l H → iterW (fun a H K => W cx hs b a H (thenK K Q)) n (nthV l) H := by
      intro n
      induction n with
      | zero => intro l H hl h; exact h.elim
      | succ n ihn =>
        intro l H hl hn
        obtain ⟨l', H', h1, h2, h3⟩ := hn
        refine ⟨nthV l', H', h2, ih l' H' _ _ (fun ex l H hl h => ?_) (h1.trans hl) h3⟩
        cases ex with
        | normal => exact ihn _ _ hl h
        | exit id => exact hq _ _ _ hl h
        | ret => exact hq _ _ _ hl h
    unfold LoopW2 at h
    unfold LoopW
    obtain ⟨n, hn⟩ := h
    exact ⟨n, key n l H hl hn⟩
  | _ => intro l H Q2 Q hq hl h; exact h.elim
end Go.Fw
