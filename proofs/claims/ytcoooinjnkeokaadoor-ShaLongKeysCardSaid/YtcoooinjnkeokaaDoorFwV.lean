/-
Operations that look at no memory, and operations that do not write. No conditions.
-/
import Derived.Test.YtcoooinjnkeokaaDoorFwU
namespace Go.Fw
set_option linter.unusedVariables false
set_option linter.unusedSimpArgs false
open Go.RowKit

section
variable {cx : Cx} {ρ : Operand → V} {rd rd' : Nat → Option Blk} {slot slot' : Nat}

theorem Wop_pure {o : Oper} (hp : pureOp cx o = true) {k : V → Eff → Prop} (h : Wop cx ρ rd slot o k) : Wop cx ρ rd' slot' o fun v e => e = [] ∧ k v e := by
  obtain ⟨dst, op, ty, pos, after, guard⟩ := o
  cases op with
  | move x => exact ⟨rfl, h⟩
  | assign x => exact ⟨rfl, h⟩
  | pick c a b =>
    have h' : asB (ρ c) fun t => br t (k (ρ a) []) (k (ρ b) []) := h
    show asB (ρ c) fun t => br t ([] = [] ∧ k (ρ a) []) ([] = [] ∧ k (ρ b) [])
    simpa using h'
  | build t parts => exact (buildV_lin cx ρ t parts.toList).mono (k := fun v => k v []) (k' := fun v => ([] : Eff) = [] ∧ k v []) (fun v h => ⟨rfl, h⟩) h
  | nilCheck x =>
    have h' : match ρ x with
      | .ptr b v p s => k (.ptr b v p s) []
      | .rop x => k (.rop x) []
      | _ => False := h
    show match ρ x with
      | .ptr b v p s => [] = [] ∧ k (.ptr b v p s) []
      | .rop x => [] = [] ∧ k (.rop x) []
      | _ => False
    revert h'
    cases ρ x <;> intro h' <;> first | exact h'.elim | exact ⟨rfl, h'⟩
  | binOp op t x y ty' => exact (binV_lin cx t op (ρ x) (ρ y)).mono (k := fun v => k v []) (k' := fun v => ([] : Eff) = [] ∧ k v []) (fun v h => ⟨rfl, h⟩) h
  | unOp op t x => exact (unV_lin op (ρ x)).mono (k := fun v => k v []) (k' := fun v => ([] : Eff) = [] ∧ k v []) (fun v h => ⟨rfl, h⟩) h
  | fieldAddr t x f => exact (fieldAtV_lin cx t (ρ x) f).mono (k := fun v => k v []) (k' := fun v => ([] : Eff) = [] ∧ k v []) (fun v h => ⟨rfl, h⟩) h
  | field t x f => exact (fieldV_lin cx t (ρ x) f).mono (k := fun v => k v []) (k' := fun v => ([] : Eff) = [] ∧ k v []) (fun v h => ⟨rfl, h⟩) h
  | index t x i =>
    have h' : asI (ρ i) fun _ i => indexV cx t (ρ x) i fun v => k v [] := h
    show asI (ρ i) fun _ i => indexV cx t (ρ x) i fun v => [] = [] ∧ k v []
    simpa using h'
  | extract x i =>
    have h' : match ρ x with
      | .d (.tup xs) => onS xs[i]? fun y => k (.d y) []
      | .tup xs => onS xs[i]? fun y => k y []
      | _ => False := h
    show match ρ x with
      | .d (.tup xs) => onS xs[i]? fun y => [] = [] ∧ k (.d y) []
      | .tup xs => onS xs[i]? fun y => [] = [] ∧ k y []
      | _ => False
    simpa using h'
  | makeFunc fn first captured =>
    cases fn with
    | func f =>
      have h' : match first.toList with
        | [] => onS (allD (captured.toList.map ρ)) fun ds => onT (ds.all fun x => cellV (.d x)) (k (.d (.fn f ds)) [])
        | _ => False := h
      show match first.toList with
        | [] => onS (allD (captured.toList.map ρ)) fun ds => onT (ds.all fun x => cellV (.d x)) ([] = [] ∧ k (.d (.fn f ds)) [])
        | _ => False
      simpa using h'
    | _ => exact h.elim
  | slice t x lo hi mx =>
    have h' : sliceV cx ρ rd t (ρ x) lo hi mx fun v => k v [] := h
    show sliceV cx ρ rd' t (ρ x) lo hi mx fun v => [] = [] ∧ k v []
    unfold pureOp at hp
    simp only at hp
    split at hp
    · rename_i te hte
      split at hp
      · rename_i n e hty
        unfold sliceV at h' ⊢
        rw [hte] at h' ⊢
        simp only [onS] at h' ⊢
        rw [hty] at h' ⊢
        revert h'
        cases ρ x with
        | ptr b ver path s =>
          cases s with
          | arr n e => intro h'; simpa using h'
          | _ => intro h'; exact h'.elim
        | _ => intro h'; exact h'.elim
      · cases hp
    · cases hp
  | indexAddr t x i =>
    have h' : asI (ρ i) fun _ i => idxV cx rd t (ρ x) i fun v => k v [] := h
    show asI (ρ i) fun _ i => idxV cx rd' t (ρ x) i fun v => [] = [] ∧ k v []
    unfold pureOp at hp
    simp only at hp
    split at hp
    · rename_i te hte
      split at hp
      · rename_i n e hty
        have key : ∀ n, (idxV cx rd t (ρ x) n fun v => k v []) → idxV cx rd' t (ρ x) n fun v => ([] : Eff) = [] ∧ k v [] := fun n h => by
          unfold idxV at h ⊢
          rw [hte] at h ⊢
          simp only [onS] at h ⊢
          rw [hty] at h ⊢
          revert h
          cases ρ x with
          | ptr b ver path s => cases s with
            | arr n e => intro h; simpa using h
            | _ => intro h; exact h.elim
          | rop y => cases y with
            | arr n e xs => intro h; simpa using h
            | _ => intro h; exact h.elim
          | _ => intro h; exact h.elim
        revert h'
        generalize ρ i = vi
        cases vi with
        | d y => cases y with
          | int kd n => exact key n
          | _ => intro h; exact h.elim
        | _ => intro h; exact h.elim
      · cases hp
    · cases hp
  | call c =>
    obtain ⟨callee, ⟨cargs⟩, ⟨catys⟩⟩ := c
    cases callee with
    | builtin b =>
      cases b with
      | min => exact (minI_lin .min (cargs.map ρ)).mono (k := fun v => k v []) (k' := fun v => ([] : Eff) = [] ∧ k v []) (fun v h => ⟨rfl, h⟩) h
      | max => exact (minI_lin .max (cargs.map ρ)).mono (k := fun v => k v []) (k' := fun v => ([] : Eff) = [] ∧ k v []) (fun v h => ⟨rfl, h⟩) h
      | _ => cases hp
    | _ => cases hp
  | _ => first | exact h.elim | cases hp

/-- What an operation that does not write does to memory. -/
def effOK (o : Oper) (slot : Nat) (e : Eff) : Prop := e = [] ∨ (newOp o = true ∧ ∃ x, e = [(slot, x)])

theorem Wop_eff (hlit : ρ (.const (.slice none 0 0)) = .d .nils) {o : Oper} (hp : writeOp o = false) {k : V → Eff → Prop} (h : Wop cx ρ rd slot o k) : Wop cx ρ rd slot o fun v e => effOK o slot e ∧ k v e := by
  by_cases hpu : pureOp cx o = true
  · exact (Wop_lin cx ρ rd slot o).mono (fun v e h => ⟨.inl h.1, h.2⟩) (Wop_pure hpu h)
  obtain ⟨dst, op, ty, pos, after, guard⟩ := o
  cases op with
  | alloc elem =>
    obtain ⟨te, hte, h⟩ := onS_elim h
    exact onS_intro hte ⟨.inr ⟨rfl, _, rfl⟩, h⟩
  | box t x =>
    obtain ⟨hb, h⟩ := onT_elim h
    exact onT_intro hb ⟨.inr ⟨rfl, _, rfl⟩, h⟩
  | buildSlice t len parts =>
    obtain ⟨te, hte, h⟩ := onS_elim h
    refine onS_intro hte ?_
    revert h
    cases te.ty with
    | sl e =>
      intro h
      obtain ⟨ee, hee, h⟩ := onS_elim h
      refine onS_intro hee ?_
      obtain ⟨hb, h⟩ := onT_elim h
      refine onT_intro hb ?_
      refine (fillV_lin ρ parts.toList _).mono (fun l h => ?_) h
      obtain ⟨ds, hd, h⟩ := onS_elim h
      exact onS_intro hd ⟨.inr ⟨rfl, _, rfl⟩, h⟩
    | _ => intro h; exact h.elim
  | makeSlice t l c =>
    obtain ⟨te, hte, h⟩ := onS_elim h
    refine onS_intro hte ?_
    revert h
    cases te.ty with
    | sl e =>
      intro h
      obtain ⟨ee, hee, h⟩ := onS_elim h
      refine onS_intro hee ?_
      revert h
      show (asI (ρ l) fun _ n => asI (ρ c) fun _ m =>
        onT (decide (0 ≤ n ∧ n ≤ m ∧ ee.bytes * m ≤ 281474976710656 ∧ m ≤ 9223372036854775807)) (k (.sl slot 0 0) [(slot, some (.grow 0 ee.sh (List.replicate n.toNat ee.zero)))])) →
        (asI (ρ l) fun _ n => asI (ρ c) fun _ m =>
        onT (decide (0 ≤ n ∧ n ≤ m ∧ ee.bytes * m ≤ 281474976710656 ∧ m ≤ 9223372036854775807)) (effOK _ slot [(slot, some (.grow 0 ee.sh (List.replicate n.toNat ee.zero)))] ∧ k (.sl slot 0 0) [(slot, some (.grow 0 ee.sh (List.replicate n.toNat ee.zero)))]))
      generalize ρ l = vl
      generalize ρ c = vc
      cases vl with
      | d x => cases x with
        | int a n => cases vc with
          | d y => cases y with
            | int b m =>
              intro h
              obtain ⟨hb, h⟩ := onT_elim (show onT _ _ from h)
              exact onT_intro hb ⟨.inr ⟨rfl, _, rfl⟩, h⟩
            | _ => intro h; exact h.elim
          | _ => intro h; exact h.elim
        | _ => intro h; exact h.elim
      | _ => intro h; exact h.elim
    | _ => intro h; exact h.elim
  | load t a => exact (loadV_lin cx rd t (ρ a)).mono (k := fun v => k v []) (k' := fun v => effOK _ slot ([] : Eff) ∧ k v []) (fun v h => ⟨.inl rfl, h⟩) h
  | convert src dst x =>
    have hp : Nat.beq src dst = false := hp
    have h : match Nat.beq src dst with
      | true => convS cx rd dst (ρ x) k
      | false => convV cx rd src dst (ρ x) fun v => k v [] := h
    show match Nat.beq src dst with
      | true => convS cx rd dst (ρ x) _
      | false => convV cx rd src dst (ρ x) fun v => _
    rw [hp] at h ⊢
    exact (convV_lin cx rd src dst (ρ x)).mono (k := fun v => k v []) (k' := fun v => effOK _ slot ([] : Eff) ∧ k v []) (fun v h => ⟨.inl rfl, h⟩) h
  | sliceToArrayPointer arr x => exact (arrV_lin cx rd arr (ρ x)).mono (k := fun v => k v []) (k' := fun v => effOK _ slot ([] : Eff) ∧ k v []) (fun v h => ⟨.inl rfl, h⟩) h
  | slice t x lo hi mx => exact (sliceV_lin cx ρ rd t (ρ x) lo hi mx).mono (k := fun v => k v []) (k' := fun v => effOK _ slot ([] : Eff) ∧ k v []) (fun v h => ⟨.inl rfl, h⟩) h
  | indexAddr t x i =>
    have h' : asI (ρ i) fun _ i => idxV cx rd t (ρ x) i fun v => k v [] := h
    show asI (ρ i) fun _ i => idxV cx rd t (ρ x) i fun v => effOK _ slot [] ∧ k v []
    simpa [effOK] using h'
  | call c =>
    obtain ⟨callee, ⟨cargs⟩, ⟨catys⟩⟩ := c
    cases callee with
    | builtin b =>
      have hm : b ≠ .len → b ≠ .append → b ≠ .copy → Wop cx ρ rd slot { dst, op := .call ⟨.builtin b, ⟨cargs⟩, ⟨catys⟩⟩, type := ty, pos, after, guard } fun v e => effOK { dst, op := .call ⟨.builtin b, ⟨cargs⟩, ⟨catys⟩⟩, type := ty, pos, after, guard } slot e ∧ k v e := fun h1 h2 h3 => by
        have key := (minI_lin b (cargs.map ρ)).mono (k := fun v => k v []) (k' := fun v => effOK { dst, op := .call ⟨.builtin b, ⟨cargs⟩, ⟨catys⟩⟩, type := ty, pos, after, guard } slot ([] : Eff) ∧ k v []) (fun v h => ⟨.inl rfl, h⟩)
        cases b <;> first | exact absurd rfl h1 | exact absurd rfl h2 | exact absurd rfl h3 | exact key h
      by_cases hl : b = .len
      · subst hl
        match cargs, catys, h with
        | [x], [t], h => exact (lenV_lin cx rd t (ρ x)).mono (k := fun (n : Nat) => k (.d (.int .i64 n)) []) (k' := fun (n : Nat) => effOK _ slot ([] : Eff) ∧ k (.d (.int .i64 n)) []) (fun v h => ⟨.inl rfl, h⟩) h
      · by_cases ha : b = .append
        · subst ha
          have hw : ∃ r, cargs = .const (.slice none 0 0) :: r := by
            unfold writeOp at hp
            simp only at hp
            split at hp
            · exact ⟨_, rfl⟩
            · cases hp
          obtain ⟨r, rfl⟩ := hw
          match r, catys, h with
          | [y], [t, t'], h =>
            have h0 : br (t == t') (onS (cx.ty t) fun te => match te.ty with
              | .sl e => onS (cx.ty e) fun ee => appendV rd slot ee.sh ee.bytes (ρ (.const (.slice none 0 0))) (ρ y) k
              | _ => False) (onS (cx.ty t) fun te => match te.ty with
              | .sl e => onS (cx.ty e) fun ee => onS (cx.ty t') fun te' => match te'.ty with
                | .int .i64 => appendZ rd ee.sh ee.bytes ee.zero (ρ (.const (.slice none 0 0))) (ρ y) k
                | _ => False
              | _ => False) := h
            cases htt : (t == t') with
            | false =>
              rw [htt] at h0
              have h1 : onS (cx.ty t) fun te => match te.ty with
                | .sl e => onS (cx.ty e) fun ee => onS (cx.ty t') fun te' => match te'.ty with
                  | .int .i64 => appendZ rd ee.sh ee.bytes ee.zero (ρ (.const (.slice none 0 0))) (ρ y) k
                  | _ => False
                | _ => False := h0
              obtain ⟨te, hte, h2⟩ := onS_elim h1
              cases hty : te.ty with
              | sl e =>
                rw [hty] at h2
                obtain ⟨ee, hee, h3⟩ := onS_elim h2
                obtain ⟨te', hte', h3⟩ := onS_elim h3
                cases hty' : te'.ty with
                | int kk =>
                  cases kk with
                  | i64 => rw [hty'] at h3; rw [hlit] at h3; exact h3.elim
                  | _ => rw [hty'] at h3; exact h3.elim
                | _ => rw [hty'] at h3; exact h3.elim
              | _ => rw [hty] at h2; exact h2.elim
            | true =>
            rw [htt] at h0
            have h1 : onS (cx.ty t) fun te => match te.ty with
              | .sl e => onS (cx.ty e) fun ee => appendV rd slot ee.sh ee.bytes (ρ (.const (.slice none 0 0))) (ρ y) k
              | _ => False := h0
            refine br_true htt ?_
            obtain ⟨te, hte, h2⟩ := onS_elim h1
            refine onS_intro hte ?_
            revert h2
            cases te.ty with
            | sl e =>
              intro h2
              obtain ⟨ee, hee, h3⟩ := onS_elim h2
              refine onS_intro hee ?_
              rw [hlit] at h3
              show appendV rd slot ee.sh ee.bytes (ρ (.const (.slice none 0 0))) (ρ y) _
              rw [hlit]
              have h4 : elems rd ee.sh (ρ y) fun ys => onT (decide (ys.length * ee.bytes ≤ room)) (k (.sl slot 0 0) [(slot, some (.grow 0 ee.sh ys))]) := h3
              refine Lin.mono (k' := fun ys => onT (decide (ys.length * ee.bytes ≤ room)) (effOK _ slot [(slot, some (.grow 0 ee.sh ys))] ∧ k (.sl slot 0 0) [(slot, some (.grow 0 ee.sh ys))])) (elems_lin rd ee.sh (ρ y)) (fun ys h => ?_) h4
              obtain ⟨hb, hk⟩ := onT_elim h
              exact onT_intro hb ⟨.inr ⟨rfl, _, rfl⟩, hk⟩
            | _ => intro h2; exact h2.elim
        · by_cases hc : b = .copy
          · subst hc; cases hp
          · exact hm hl ha hc
    | value f =>
      have h' : match ρ f with
        | .d (.fn f caps) => argsV rd (cargs.map ρ) fun bor ds => ∃ ds' v, D.les ds ds' ∧ Returns cx f (ds' ++ caps) v ∧ onB bor v (k (.d v) [])
        | _ => False := h
      show match ρ f with
        | .d (.fn f caps) => argsV rd (cargs.map ρ) fun bor ds => ∃ ds' v, D.les ds ds' ∧ Returns cx f (ds' ++ caps) v ∧ onB bor v (effOK _ slot [] ∧ k (.d v) [])
        | _ => False
      simpa [effOK] using h'
    | invoke recv name => exact h.elim
  | _ => first | exact h.elim | exact absurd rfl hpu | cases hp
end
end Go.Fw
