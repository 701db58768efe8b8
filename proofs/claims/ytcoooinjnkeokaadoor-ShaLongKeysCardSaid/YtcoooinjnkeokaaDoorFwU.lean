/-
Each operation has one outcome; which operations look at memory, which write; operations that see the same operands. No conditions.
-/
import Derived.Test.YtcoooinjnkeokaaDoorFwT
namespace Go.Fw
set_option linter.unusedVariables false
set_option linter.unusedSimpArgs false
open Go.RowKit

theorem Lin.mono {α : Type} {T : (α → Prop) → Prop} (h : Lin T) {k k' : α → Prop} (hk : ∀ x, k x → k' x) (hT : T k) : T k' := by
  obtain ⟨x, hx, h1⟩ := h k hT
  exact h1 k' (hk x hx)

theorem Lin2.mono {α β : Type} {T : (α → β → Prop) → Prop} (h : Lin2 T) {k k' : α → β → Prop} (hk : ∀ x y, k x y → k' x y) (hT : T k) : T k' :=
  Lin.mono h (k := fun p => k p.1 p.2) (k' := fun p => k' p.1 p.2) (fun p h => hk _ _ h) hT

theorem Lin.op {S : (V → Prop) → Prop} (h : Lin S) : Lin2 fun k : V → Eff → Prop => S fun v => k v [] := Lin.bind h fun v => Lin.ret (v, [])
theorem Lin.st {S : (Eff → Prop) → Prop} (h : Lin S) : Lin2 fun k : V → Eff → Prop => S fun e => k .any e := Lin.bind h fun e => Lin.ret (V.any, e)

section
variable (cx : Cx) (ρ : Operand → V) (rd : Nat → Option Blk) (slot : Nat)

theorem Wop_lin (o : Oper) : Lin2 (Wop cx ρ rd slot o) := by
  obtain ⟨dst, op, ty, pos, after, guard⟩ := o
  cases op with
  | move x => exact Lin.ret (_, _)
  | assign x => exact Lin.ret (_, _)
  | pick c a b => exact Lin.asB fun t => Lin.br (Lin.ret (_, _)) (Lin.ret (_, _))
  | alloc elem => exact Lin.onS fun te => Lin.ret (_, _)
  | box t x => exact Lin.onT (Lin.ret (_, _))
  | build t parts => have := Lin.op (buildV_lin cx ρ t parts.toList); exact this
  | buildSlice t len parts =>
    refine Lin.onS fun te => ?_
    cases te.ty with
    | sl e => exact Lin.onS fun ee => Lin.onT (Lin.bind (fillV_lin _ _ _) fun l => Lin.onS fun ds => Lin.ret (_, _))
    | _ => exact Lin.fals
  | load t a => have := Lin.op (loadV_lin cx rd t (ρ a)); exact this
  | store t a x => have := Lin.st (storeV_lin cx rd t (ρ a) (ρ x)); exact this
  | nilCheck x =>
    show Lin fun k : V × Eff → Prop => match ρ x with
      | .ptr b v p s => k (.ptr b v p s, [])
      | .rop x => k (.rop x, [])
      | _ => False
    cases ρ x with
    | ptr b v p s => exact Lin.ret (_, _)
    | rop x => exact Lin.ret (_, _)
    | _ => exact Lin.fals
  | binOp op t x y ty' => have := Lin.op (binV_lin cx t op (ρ x) (ρ y)); exact this
  | unOp op t x => have := Lin.op (unV_lin op (ρ x)); exact this
  | convert src dst x =>
    show Lin2 fun k => match Nat.beq src dst with
      | true => convS cx rd dst (ρ x) k
      | false => convV cx rd src dst (ρ x) fun v => k v []
    cases Nat.beq src dst with
    | true => exact convS_lin cx rd dst (ρ x)
    | false => have := Lin.op (convV_lin cx rd src dst (ρ x)); exact this
  | sliceToArrayPointer arr x => have := Lin.op (arrV_lin cx rd arr (ρ x)); exact this
  | makeSlice t l c =>
    refine Lin.onS fun te => ?_
    cases te.ty with
    | sl e => exact Lin.onS fun ee => Lin.asI fun _ n => Lin.asI fun _ m => Lin.onT (Lin.ret (_, _))
    | _ => exact Lin.fals
  | slice t x lo hi mx => have := Lin.op (sliceV_lin cx ρ rd t (ρ x) lo hi mx); exact this
  | fieldAddr t x f => have := Lin.op (fieldAtV_lin cx t (ρ x) f); exact this
  | field t x f => have := Lin.op (fieldV_lin cx t (ρ x) f); exact this
  | indexAddr t x i => exact Lin.asI fun _ i => by have := Lin.op (idxV_lin cx rd t (ρ x) i); exact this
  | index t x i => exact Lin.asI fun _ i => by have := Lin.op (indexV_lin cx t (ρ x) i); exact this
  | extract x i =>
    show Lin fun k : V × Eff → Prop => match ρ x with
      | .d (.tup xs) => onS xs[i]? fun y => k (.d y, [])
      | .tup xs => onS xs[i]? fun y => k (y, [])
      | _ => False
    cases ρ x with
    | d y => cases y with
      | tup xs => exact Lin.onS fun y => Lin.ret (_, _)
      | _ => exact Lin.fals
    | tup xs => exact Lin.onS fun y => Lin.ret (_, _)
    | _ => exact Lin.fals
  | makeFunc fn first captured =>
    cases fn with
    | func f =>
      show Lin fun k : V × Eff → Prop => match first.toList with
        | [] => onS (allD (captured.toList.map ρ)) fun ds => onT (ds.all fun x => cellV (.d x)) (k (.d (.fn f ds), []))
        | _ => False
      cases first.toList with
      | nil => exact Lin.onS fun ds => Lin.onT (Lin.ret (_, _))
      | cons x r => exact Lin.fals
    | _ => exact Lin.fals
  | call c =>
    obtain ⟨callee, ⟨cargs⟩, ⟨catys⟩⟩ := c
    cases callee with
    | builtin b =>
      have hm : b ≠ .len → b ≠ .append → b ≠ .copy → Lin2 (Wop cx ρ rd slot { dst, op := .call ⟨.builtin b, ⟨cargs⟩, ⟨catys⟩⟩, type := ty, pos, after, guard }) := fun h1 h2 h3 => by
        have := Lin.op (minI_lin b (cargs.map ρ))
        cases b <;> first | exact absurd rfl h1 | exact absurd rfl h2 | exact absurd rfl h3 | exact this
      by_cases hl : b = .len
      · subst hl
        match cargs, catys with
        | [x], [t] =>
          have : Lin fun k : V × Eff → Prop => lenV cx rd t (ρ x) fun n => k (.d (.int .i64 n), []) := Lin.bind (lenV_lin cx rd t (ρ x)) fun v => Lin.ret (_, _)
          exact this
        | [], _ => exact Lin.fals
        | _ :: _ :: _, _ => exact Lin.fals
        | [_], [] => exact Lin.fals
        | [_], _ :: _ :: _ => exact Lin.fals
      · by_cases ha : b = .append
        · subst ha
          match cargs, catys with
          | [x, y], [t, t'] =>
            refine Lin.br (Lin.onS fun te => ?_) (Lin.onS fun te => ?_)
            · cases te.ty with
              | sl e => exact Lin.onS fun ee => appendV_lin _ _ _ _ _ _
              | _ => exact Lin.fals
            · cases te.ty with
              | sl e =>
                refine Lin.onS fun ee => Lin.onS fun te' => ?_
                cases te'.ty with
                | int kk =>
                  cases kk with
                  | i64 => exact appendZ_lin _ _ _ _ _ _
                  | _ => exact Lin.fals
                | _ => exact Lin.fals
              | _ => exact Lin.fals
          | [], _ => exact Lin.fals
          | [_], _ => exact Lin.fals
          | _ :: _ :: _ :: _, _ => exact Lin.fals
          | [_, _], [] => exact Lin.fals
          | [_, _], [_] => exact Lin.fals
          | [_, _], _ :: _ :: _ :: _ => exact Lin.fals
        · by_cases hc : b = .copy
          · subst hc
            match cargs, catys with
            | [x, y], [t, t'] =>
              refine Lin.onS fun te => ?_
              cases te.ty with
              | sl e => exact Lin.onS fun ee => copyV_lin _ _ _ _
              | _ => exact Lin.fals
            | [], _ => exact Lin.fals
            | [_], _ => exact Lin.fals
            | _ :: _ :: _ :: _, _ => exact Lin.fals
            | [_, _], [] => exact Lin.fals
            | [_, _], [_] => exact Lin.fals
            | [_, _], _ :: _ :: _ :: _ => exact Lin.fals
          · exact hm hl ha hc
    | value f =>
      show Lin fun k : V × Eff → Prop => match ρ f with
        | .d (.fn f caps) => argsV rd (cargs.map ρ) fun bor ds => ∃ ds' v, D.les ds ds' ∧ Returns cx f (ds' ++ caps) v ∧ onB bor v (k (.d v, []))
        | _ => False
      cases ρ f with
      | d y => cases y with
        | fn f' caps =>
          refine Lin.bind2 (argsV_lin _ _) fun bor ds => ?_
          rintro k ⟨ds', v, h1, h2, h3⟩
          cases bor with
          | true => exact ⟨_, h3.2, fun k' hk => ⟨ds', v, h1, h2, h3.1, hk⟩⟩
          | false => exact ⟨_, h3, fun k' hk => ⟨ds', v, h1, h2, hk⟩⟩
        | _ => exact Lin.fals
      | _ => exact Lin.fals
    | invoke recv name => exact Lin.fals
  | _ => exact Lin.fals

/-- Looks at no memory. -/
def pureOp (cx : Cx) (o : Oper) : Bool :=
  match o.op with
  | .move _ | .assign _ | .pick .. | .build .. | .nilCheck _ | .binOp .. | .unOp .. | .fieldAddr .. | .field .. | .index .. | .extract .. | .makeFunc .. => true
  | .slice t .. => match cx.ty t with
    | some te => match te.ty with
      | .arr .. => true
      | _ => false
    | none => false
  | .indexAddr t .. => match cx.ty t with
    | some te => match te.ty with
      | .arr .. => true
      | _ => false
    | none => false
  | .call { callee := .builtin .min, .. } | .call { callee := .builtin .max, .. } => true
  | _ => false

def writeOp (o : Oper) : Bool :=
  match o.op with
  | .store .. => true
  | .convert src dst _ => Nat.beq src dst
  | .call { callee := .builtin .append, args := args, .. } => match args.toList with
    | .const (.slice none 0 0) :: _ => false
    | _ => true
  | .call { callee := .builtin .copy, .. } => true
  | _ => false

variable {cx ρ rd slot}

theorem optI_congr {ρ ρ' : Operand → V} {o : Option Operand} (h : ∀ x, o = some x → ρ x = ρ' x) (d hi : Nat) : optI ρ o d hi = optI ρ' o d hi := by
  cases o with
  | none => rfl
  | some x => funext k; simp only [optI, h x rfl]

theorem fillV_congr {ρ ρ' : Operand → V} : ∀ {parts : List (Nat × Operand)} (h : ∀ p ∈ parts, ρ p.2 = ρ' p.2) (l : List V), fillV ρ parts l = fillV ρ' parts l
  | [], h, l => rfl
  | (i, x) :: r, h, l => by
    have h1 : ρ x = ρ' x := h (i, x) (by simp)
    have ih := fun l => fillV_congr (parts := r) (fun p hp => h p (by simp [hp])) l
    funext k
    simp only [fillV, h1, ih]

theorem sliceV_congr {ρ ρ' : Operand → V} {lo hi mx : Option Operand} (h1 : ∀ x, lo = some x → ρ x = ρ' x) (h2 : ∀ x, hi = some x → ρ x = ρ' x) (h3 : ∀ x, mx = some x → ρ x = ρ' x) (rd : Nat → Option Blk) (t : TypeId) (x : V) :
    sliceV cx ρ rd t x lo hi mx = sliceV cx ρ' rd t x lo hi mx := by
  have e1 := fun d n => optI_congr h1 d n
  have e2 := fun d n => optI_congr h2 d n
  have e3 := fun d n => optI_congr h3 d n
  funext k
  cases hi with
  | none => cases mx <;> simp only [sliceV, e1, e2, e3]
  | some h => cases mx <;> simp only [sliceV, e1, e2, e3]

theorem Wop_congr {ρ ρ' : Operand → V} {o : Oper} (h : ∀ x ∈ o.op.operands, ρ x = ρ' x) : Wop cx ρ rd slot o = Wop cx ρ' rd slot o := by
  obtain ⟨dst, op, ty, pos, after, guard⟩ := o
  funext k
  cases op with
  | build t parts =>
    have := fillV_congr (parts := parts.toList) (ρ := ρ) (ρ' := ρ') fun p hp => h p.2 (by simp [Op.operands]; exact ⟨p.1, by simpa using hp⟩)
    simp only [Wop, buildV, this]
  | buildSlice t len parts =>
    have := fillV_congr (parts := parts.toList) (ρ := ρ) (ρ' := ρ') fun p hp => h p.2 (by simp [Op.operands]; exact ⟨p.1, by simpa using hp⟩)
    simp only [Wop, this]
  | slice t x lo hi mx =>
    have h0 : ρ x = ρ' x := h x (by simp [Op.operands])
    have := sliceV_congr (cx := cx) (ρ := ρ) (ρ' := ρ') (lo := lo) (hi := hi) (mx := mx) (fun y e => h y (by simp [Op.operands, e])) (fun y e => h y (by simp [Op.operands, e])) (fun y e => h y (by simp [Op.operands, e])) rd t
    simp only [Wop, h0, this]
  | makeFunc fn first captured =>
    have : captured.toList.map ρ = captured.toList.map ρ' := List.map_congr_left fun x hx => h x (by simp [Op.operands]; right; simpa using hx)
    cases fn <;> simp only [Wop, this]
  | call c =>
    obtain ⟨callee, cargs, catys⟩ := c
    have ha : cargs.toList.map ρ = cargs.toList.map ρ' := List.map_congr_left fun x hx => h x (by cases callee <;> simp [Op.operands, Call.operands] <;> simp_all)
    cases callee with
    | builtin b =>
      obtain ⟨cargs⟩ := cargs
      obtain ⟨catys⟩ := catys
      have hm : ∀ x ∈ cargs, ρ x = ρ' x := fun x hx => h x (by simp [Op.operands, Call.operands, hx])
      simp only at ha
      match cargs, hm with
      | [], hm => cases b <;> simp only [Wop, ha]
      | [x], hm =>
        have := hm x (by simp)
        rcases catys with _ | ⟨t, _ | ⟨t', _ | ⟨t3, r⟩⟩⟩ <;> cases b <;> simp only [Wop, ha, this]
      | [x, y], hm =>
        have h1 := hm x (by simp)
        have h2 := hm y (by simp)
        rcases catys with _ | ⟨t, _ | ⟨t', _ | ⟨t3, r⟩⟩⟩ <;> cases b <;> simp only [Wop, ha, h1, h2]
      | x :: y :: z :: r, hm => cases b <;> simp only [Wop, ha]
    | value f =>
      have : ρ f = ρ' f := h f (by simp [Op.operands, Call.operands])
      simp only [Wop, ha, this]
    | invoke recv name => simp only [Wop]
  | _ =>
    first
    | rfl
    | (simp only [Op.operands, List.mem_cons, List.mem_toArray, Array.mem_def] at h
       first
       | (have h1 := h _ (.inl rfl); have h2 := h _ (.inr (.inl rfl)); have h3 := h _ (.inr (.inr (.inl rfl))); simp only [Wop, h1, h2, h3])
       | (have h1 := h _ (.inl rfl); have h2 := h _ (.inr (.inl rfl)); simp only [Wop, h1, h2])
       | (have h1 := h _ (.inl rfl); simp only [Wop, h1])
       | simp only [Wop])
end
end Go.Fw
