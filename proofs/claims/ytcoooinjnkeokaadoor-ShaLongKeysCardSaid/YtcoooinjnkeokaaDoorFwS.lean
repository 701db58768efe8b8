/-
Every operation that W lets in is sound. No conditions.
-/
import Derived.Test.YtcoooinjnkeokaaDoorFwR
namespace Go.Fw
set_option linter.unusedVariables false
set_option linter.unusedSimpArgs false
open Go.RowKit

section
variable {cx : Cx} {B : Nat} {w : World} {m : M} {H : Heap} {rd : Nat → Option Blk}

theorem pure_ok (hh : HeapOK cx B w m H) {slot : Nat} {o : Oper} {a : Act} {k : V → Eff → Prop} {v : V} {c : Value} (hk : k v []) (hv : RV w m H v c) (he : execOp a.eval o = pure (.value c)) : OpOK cx B w m H slot o a k :=
  POK.ok hh ⟨v, c, hk, by rfl, hv⟩ (S := pure c) (by rw [he]; rfl)

theorem args_list {ρ : Operand → V} {ρc : Operand → Value} (hρ : RO w m H ρ ρc) (l : List Operand) : ∀ (i : Nat) v c, (l.map ρ)[i]? = some v → (l.map ρc)[i]? = some c → RV w m H v c := by
  intro i v c h1 h2
  rw [List.getElem?_map] at h1 h2
  cases h : l[i]? with
  | none => rw [h] at h1; cases h1
  | some x =>
    rw [h] at h1 h2
    cases h1; cases h2
    exact hρ x

theorem parts_toArray (parts : Array (Nat × Operand)) (f : Operand → Value) : (parts.map fun (i, x) => (i, f x)) = (parts.toList.map fun p => (p.1, f p.2)).toArray := by
  cases parts; simp

theorem arr_toArray (parts : Array Operand) (f : Operand → Value) : parts.map f = (parts.toList.map f).toArray := by
  cases parts; simp

theorem Wop_sound (hx : CxOK cx) (hh : HeapOK cx B w m H) (hrd : Rd rd H) {ρ : Operand → V} {a : Act} (hρ : RO w m H ρ a.eval) {slot : Nat} {o : Oper}
    (hn : newOp o = true → ¬ m.born slot ∧ slot < H.length) {k : V → Eff → Prop} (hg : Wop cx ρ rd slot o k) : OpOK cx B w m H slot o a k := by
  obtain ⟨dst, op, ty, pos, after, guard⟩ := o
  cases op with
  | move x => exact pure_ok hh hg (hρ x) rfl
  | assign x => exact pure_ok hh hg (hρ x) rfl
  | pick c x y =>
    obtain ⟨b, hb, hc, hg⟩ := asB_elim (hρ c) hg
    cases b with
    | true => exact pure_ok hh hg (hρ x) (by simp [execOp, hc, asBool])
    | false => exact pure_ok hh hg (hρ y) (by simp [execOp, hc, asBool])
  | alloc elem =>
    obtain ⟨te, hte, hk⟩ := onS_elim hg
    obtain ⟨h1, h2⟩ := hn rfl
    exact (alloc_sound hx hh h1 h2 hte hk).ok rfl
  | box t x =>
    obtain ⟨hcv, hk⟩ := onT_elim hg
    obtain ⟨h1, h2⟩ := hn rfl
    exact (box_sound hh h1 h2 (hρ x) hcv hk).ok rfl
  | build t parts =>
    refine POK.ok hh (buildV_sound hx hρ hg) ?_
    simp only [execOp, parts_toArray]
  | buildSlice t len parts =>
    obtain ⟨te, hte, hg⟩ := onS_elim hg
    obtain ⟨h1, h2⟩ := hn rfl
    cases hty : te.ty with
    | sl e =>
      rw [hty] at hg
      obtain ⟨ee, hee, hg⟩ := onS_elim hg
      obtain ⟨h24, hg⟩ := onT_elim hg
      refine (buildSlice_sound hx hh h1 h2 hρ hte hty hee (by simpa using h24) hg).ok ?_
      simp only [execOp, parts_toArray]
    | _ => rw [hty] at hg; exact hg.elim
  | load t x =>
    have hg' : loadV cx rd t (ρ x) (fun v => k v []) := hg
    obtain ⟨u, c', hk, hr, hv⟩ := loadV_sound hx hh hrd (hρ x) hg'
    exact POK.ok hh ⟨u, c', hk, hr, hv⟩ rfl
  | store t x y =>
    have hg' : storeV cx rd t (ρ x) (ρ y) (fun e => k .any e) := hg
    obtain ⟨b, x', w', hk, hr, h1, h2, h3⟩ := storeV_sound hx hh hrd (hρ x) (hρ y) hg'
    refine ⟨_, _, hk, fun K Q hK => ?_⟩
    unfold Oper.wp
    simp only [execOp, Sem.run_bind, hr, Result.andThen_ok, Sem.run_pure, Oper.upon]
    exact hK undef w' m ⟨h1, h2, .any _, h3, fun b h => .inl h⟩
  | nilCheck x =>
    have hg' : match ρ x with
      | .ptr b v p s => k (.ptr b v p s) []
      | .rop x => k (.rop x) []
      | _ => False := hg
    obtain ⟨ad, hc, hk⟩ := nilCheck_sound (k := fun v => k v []) hg' (hρ x)
    refine pure_ok hh hk (hρ x) ?_
    simp only [execOp, hc]
  | binOp op t x y ty' => exact POK.ok hh (binV_sound hx (ox := x) (oy := y) (hρ x) (hρ y) hg) rfl
  | unOp op t x => exact POK.ok hh (unV_sound (hρ x) hg) rfl
  | convert src dst x =>
    have hg : match Nat.beq src dst with
      | true => convS cx rd dst (ρ x) k
      | false => convV cx rd src dst (ρ x) fun v => k v [] := hg
    cases hb : Nat.beq src dst with
    | true => rw [hb] at hg; exact (convS_sound hx hh hrd (Nat.eq_of_beq_eq_true hb) (hρ x) hg).ok rfl
    | false => rw [hb] at hg; exact (convV_sound hx hh hrd (hρ x) hg).ok rfl
  | sliceToArrayPointer arr x => exact POK.ok hh (arrV_sound hx hh hrd (hρ x) hg) rfl
  | makeSlice t l c =>
    obtain ⟨te, hte, hg⟩ := onS_elim hg
    obtain ⟨h1, h2⟩ := hn rfl
    cases hty : te.ty with
    | sl e =>
      rw [hty] at hg
      obtain ⟨ee, hee, hg⟩ := onS_elim hg
      obtain ⟨kl, n, _, hl, hg⟩ := asI_elim (hρ l) hg
      obtain ⟨kc, c', _, hc, hg⟩ := asI_elim (hρ c) hg
      obtain ⟨hb, hk⟩ := onT_elim hg
      have hb : 0 ≤ n ∧ n ≤ c' ∧ ee.bytes * c' ≤ 281474976710656 ∧ c' ≤ 9223372036854775807 := by simpa using hb
      refine (makeSlice_sound hx hh h1 h2 hte hty hee (kl := kl) (kc := kc) hb.1 hb.2.1 hb.2.2.1 hb.2.2.2 hk).ok ?_
      simp only [execOp, hl, hc]
    | _ => rw [hty] at hg; exact hg.elim
  | slice t x lo hi mx => exact POK.ok hh (sliceV_sound hx hh hrd hρ (hρ x) hg) rfl
  | fieldAddr t x f => exact POK.ok hh (fieldAtV_sound hx (hρ x) hg) rfl
  | field t x f => exact POK.ok hh (fieldV_sound hx (hρ x) hg) rfl
  | indexAddr t x i =>
    obtain ⟨kd, n, _, hc, hg⟩ := asI_elim (hρ i) hg
    refine POK.ok hh (idxV_sound hx hh hrd (kd := kd) (hρ x) hg) ?_
    simp only [execOp, hc]
  | index t x i =>
    obtain ⟨kd, n, _, hc, hg⟩ := asI_elim (hρ i) hg
    refine POK.ok hh (indexV_sound hx (kd := kd) (hρ x) hg) ?_
    simp only [execOp, hc]
  | extract x i =>
    have hg' : match ρ x with
      | .d (.tup xs) => onS xs[i]? fun y => k (.d y) []
      | .tup xs => onS xs[i]? fun y => k y []
      | _ => False := hg
    exact POK.ok hh (extract_sound (k := fun v => k v []) hg' (hρ x)) rfl
  | makeFunc fn first captured =>
    cases fn with
    | func f =>
      have hg' : match first.toList with
        | [] => onS (allD (captured.toList.map ρ)) fun ds => onT (ds.all fun x => cellV (.d x)) (k (.d (.fn f ds)) [])
        | _ => False := hg
      cases hf : first.toList with
      | nil =>
        rw [hf] at hg'
        have hf0 : first = #[] := by cases first; simp at hf; subst hf; rfl
        subst hf0
        refine POK.ok hh (makeFunc_sound (k := fun v => k v []) hh (f := f) (l := captured.toList.map ρ) (cl := captured.toList.map a.eval) (by simp) (args_list hρ _) hg') ?_
        simp only [execOp, arr_toArray]
        rfl
      | cons x r => rw [hf] at hg'; exact hg'.elim
    | _ => exact hg.elim
  | call c =>
    obtain ⟨callee, cargs, catys⟩ := c
    cases callee with
    | builtin b =>
      by_cases hl : b = .len
      · subst hl
        have hg' : match cargs.toList, catys.toList with
          | [x], [t] => lenV cx rd t (ρ x) fun n => k (.d (.int .i64 n)) []
          | _, _ => False := hg
        obtain ⟨cargs⟩ := cargs
        obtain ⟨catys⟩ := catys
        match cargs, catys, hg' with
        | [x], [t], hg' =>
          obtain ⟨n, hk, hr⟩ := lenV_sound hx hh hrd (ty := ty) (hρ x) hg'
          exact POK.ok hh ⟨_, _, hk, hr, .int _ _⟩ (by simp only [execOp, resolve, arr_toArray]; rfl)
      · by_cases ha : b = .append
        · subst ha
          have hg' : match cargs.toList, catys.toList with
            | [x, y], [t, t'] => br (t == t') (onS (cx.ty t) fun te => match te.ty with
              | .sl e => onS (cx.ty e) fun ee => appendV rd slot ee.sh ee.bytes (ρ x) (ρ y) k
              | _ => False) (onS (cx.ty t) fun te => match te.ty with
              | .sl e => onS (cx.ty e) fun ee => onS (cx.ty t') fun te' => match te'.ty with
                | .int .i64 => appendZ rd ee.sh ee.bytes ee.zero (ρ x) (ρ y) k
                | _ => False
              | _ => False)
            | _, _ => False := hg
          obtain ⟨cargs⟩ := cargs
          obtain ⟨catys⟩ := catys
          obtain ⟨h1, h2⟩ := hn rfl
          match cargs, catys, hg' with
          | [x, y], [t, t'], hg1 =>
            have hg' : br (t == t') (onS (cx.ty t) fun te => match te.ty with
              | .sl e => onS (cx.ty e) fun ee => appendV rd slot ee.sh ee.bytes (ρ x) (ρ y) k
              | _ => False) (onS (cx.ty t) fun te => match te.ty with
              | .sl e => onS (cx.ty e) fun ee => onS (cx.ty t') fun te' => match te'.ty with
                | .int .i64 => appendZ rd ee.sh ee.bytes ee.zero (ρ x) (ρ y) k
                | _ => False
              | _ => False) := hg1
            clear hg1
            cases hb : (t == t') with
            | false =>
              rw [hb] at hg'
              have hg3 : (onS (cx.ty t) fun te => match te.ty with
              | .sl e => onS (cx.ty e) fun ee => onS (cx.ty t') fun te' => match te'.ty with
                | .int .i64 => appendZ rd ee.sh ee.bytes ee.zero (ρ x) (ρ y) k
                | _ => False
              | _ => False) := hg'
              clear hg'
              obtain ⟨te, hte, hg'⟩ := onS_elim hg3
              cases hty : te.ty with
              | sl e =>
                rw [hty] at hg'
                obtain ⟨ee, hee, hg'⟩ := onS_elim hg'
                obtain ⟨te', hte', hg'⟩ := onS_elim hg'
                cases hty' : te'.ty with
                | int kk =>
                  cases kk with
                  | i64 =>
                    rw [hty'] at hg'
                    exact (appendZ_sound (ty := ty) (slot := slot) hx hh hrd hte hty hee hte' hty' (hρ x) (hρ y) hg').ok (by simp only [execOp, resolve, arr_toArray]; rfl)
                  | _ => rw [hty'] at hg'; exact hg'.elim
                | _ => rw [hty'] at hg'; exact hg'.elim
              | _ => rw [hty] at hg'; exact hg'.elim
            | true =>
            rw [hb] at hg'
            have hg3 : onS (cx.ty t) fun te => match te.ty with
              | .sl e => onS (cx.ty e) fun ee => appendV rd slot ee.sh ee.bytes (ρ x) (ρ y) k
              | _ => False := hg'
            clear hg'
            have he : t = t' := by simpa using hb
            subst he
            obtain ⟨te, hte, hg'⟩ := onS_elim hg3
            cases hty : te.ty with
            | sl e =>
              rw [hty] at hg'
              obtain ⟨ee, hee, hg'⟩ := onS_elim hg'
              exact (appendV_sound (ty := ty) hx hh hrd h1 h2 hte hty hee (hρ x) (hρ y) hg').ok (by simp only [execOp, resolve, arr_toArray]; rfl)
            | _ => rw [hty] at hg'; exact hg'.elim
        · by_cases hc : b = .copy
          · subst hc
            have hg' : match cargs.toList, catys.toList with
              | [x, y], [t, _] => onS (cx.ty t) fun te => match te.ty with
                | .sl e => onS (cx.ty e) fun ee => copyV rd ee.sh (ρ x) (ρ y) k
                | _ => False
              | _, _ => False := hg
            obtain ⟨cargs⟩ := cargs
            obtain ⟨catys⟩ := catys
            match cargs, catys, hg' with
            | [x, y], [t, t'], hg1 =>
              have hg' : onS (cx.ty t) (fun te => match te.ty with
                | .sl e => onS (cx.ty e) fun ee => copyV rd ee.sh (ρ x) (ρ y) k
                | _ => False) := hg1
              obtain ⟨te, hte, hg'⟩ := onS_elim hg'
              cases hty : te.ty with
              | sl e =>
                rw [hty] at hg'
                obtain ⟨ee, hee, hg'⟩ := onS_elim hg'
                exact (copyV_sound (ty := ty) hx hh hrd hte hty hee (hρ x) (hρ y) hg').ok (by simp only [execOp, resolve, arr_toArray]; rfl)
              | _ => rw [hty] at hg'; exact hg'.elim
          · have hg' : minI b (cargs.toList.map ρ) fun v => k v [] := by
              cases b <;> first | exact hg | exact absurd rfl hl | exact absurd rfl ha | exact absurd rfl hc
            obtain ⟨v, c, hk, hv, hor⟩ := minI_sound (tt := catys) (ty := ty) (l := cargs.toList.map ρ) (cl := cargs.toList.map a.eval) (by simp) (args_list hρ _) hg'
            rcases hor with ⟨rfl, hr⟩ | ⟨rfl, hr⟩
            · refine POK.ok hh ⟨v, c, hk, hr, hv⟩ ?_
              simp only [execOp, resolve, arr_toArray]
              rfl
            · refine POK.ok hh ⟨v, c, hk, hr, hv⟩ ?_
              simp only [execOp, resolve, arr_toArray]
              rfl
    | value f =>
      have hg' : match ρ f with
        | .d (.fn f caps) => argsV rd (cargs.toList.map ρ) fun bor ds => ∃ ds' v, D.les ds ds' ∧ Returns cx f (ds' ++ caps) v ∧ onB bor v (k (.d v) [])
        | _ => False := hg
      have hf := hρ f
      cases hfv : ρ f with
      | d y =>
        rw [hfv] at hg' hf
        cases y with
        | fn f' caps =>
          refine call_ok hh hrd (caps := caps) hf (l := cargs.toList.map ρ) (cl := cargs.toList.map a.eval) (by simp) (args_list hρ _) (fun fn first captured he => ?_) hg'
          simp only [execOp, resolve, he, Deferred.ofValue, arr_toArray]
          rfl
        | _ => exact hg'.elim
      | _ => rw [hfv] at hg'; exact hg'.elim
    | invoke recv name => exact hg.elim
  | _ => exact hg.elim
end
end Go.Fw
