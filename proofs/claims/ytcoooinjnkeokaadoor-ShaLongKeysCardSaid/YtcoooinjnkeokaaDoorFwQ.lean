/-
Every operation that W lets in does what W says. No conditions.
-/
import Derived.Test.YtcoooinjnkeokaaDoorFwP
namespace Go.Fw
set_option linter.unusedVariables false
set_option linter.unusedSimpArgs false
open Go.RowKit

section
variable {cx : Cx} {B : Nat} {w : World} {m : M} {H : Heap} {rd : Nat → Option Blk}

/-- What is known behind an operation with value v and effect e. -/
structure Aft (cx : Cx) (B : Nat) (w : World) (m : M) (H : Heap) (slot : Nat) (v : V) (e : Eff) (c : Value) (w' : World) (m' : M) : Prop where
  keep : Keep w m H w' m' (happ H e)
  heap : HeapOK cx B w' m' (happ H e)
  val : RV w' m' (happ H e) v c
  below : Below B w w'
  born : ∀ b, m'.born b → m.born b ∨ b = slot

/-- The operation is sound for this predicate. -/
def OpOK (cx : Cx) (B : Nat) (w : World) (m : M) (H : Heap) (slot : Nat) (o : Oper) (a : Act) (k : V → Eff → Prop) : Prop :=
  ∃ v e, k v e ∧ ∀ (K : Act → World → Prop) (Q : Exit → Act → World → Prop), (∀ c w' m', Aft cx B w m H slot v e c w' m' → K (a.put o.dst c) w') → o.wp cx.P a w K Q

theorem OpRes.ok {slot : Nat} {o : Oper} {a : Act} {k : V → Eff → Prop} {S : Sem Value} (h : OpRes cx B w m H slot k S) (he : execOp a.eval o = do pure (.value (← S))) : OpOK cx B w m H slot o a k := by
  obtain ⟨v, e, c, w', m', hk, hr, h1, h2, h3, h4, h5⟩ := h
  refine ⟨v, e, hk, fun K Q hK => ?_⟩
  unfold Oper.wp
  rw [he]
  simp only [Sem.run_bind, hr, Result.andThen_ok, Sem.run_pure, Oper.upon]
  exact hK c w' m' ⟨h1, h2, h3, h4, h5⟩

theorem POK.ok (hh : HeapOK cx B w m H) {slot : Nat} {o : Oper} {a : Act} {k : V → Eff → Prop} {S : Sem Value} (h : POK cx w m H (fun v => k v []) S) (he : execOp a.eval o = do pure (.value (← S))) : OpOK cx B w m H slot o a k :=
  (h.res hh).ok he

/-- A call of a function with a body. -/
theorem call_ok (hh : HeapOK cx B w m H) (hrd : Rd rd H) {slot : Nat} {o : Oper} {a : Act} {k : V → Eff → Prop} {f : FuncId} {caps : List D} {cv : Value} {l : List V} {cl : List Value} (hf : RV w m H (.d (.fn f caps)) cv)
    (hl : cl.length = l.length) (hr : ∀ (i : Nat) v c, l[i]? = some v → cl[i]? = some c → RV w m H v c)
    (he : ∀ fn first captured, cv = .func fn first captured → execOp a.eval o = invoke (.fn fn captured) (first ++ cl.toArray))
    (hg : argsV rd l fun bor ds => ∃ ds' v, D.les ds ds' ∧ Returns cx f (ds' ++ caps) v ∧ onB bor v (k (.d v) [])) : OpOK cx B w m H slot o a k := by
  obtain ⟨bor, ds, ⟨ds', v, hles, ⟨⟨fn, hfn, hname, hbody⟩, hret⟩, hk⟩, hdl, hds⟩ := argsV_sound hh hrd l cl hl hr hg
  obtain ⟨cs, hfc, hcv⟩ := hf.elim rfl
  have hfc := hfc.of_d
  cases hfc with
  | fn _ _ css hcl hcr =>
    obtain ⟨hll, hle⟩ := D.les_spec hles
    have hcv : cv = .func (.func f) #[] (List.zipWith (fun x cs => pack x.sh cs) caps css).toArray := hcv
    have hex := he _ _ _ hcv
    have hnb : ¬ fn.body.isNone = true := by
      cases h : fn.body with
      | none => rw [h] at hbody; cases hbody
      | some b => simp
    have hnm : ¬ (fn.name == "runtime.NumGoroutine") = true := by rw [hname]; simp
    have hrun : (execOp a.eval o).run cx.P w = .ok (.enter f (cl ++ List.zipWith (fun x cs => pack x.sh cs) caps css).toArray) w := by
      rw [hex]
      simp only [invoke, callFunc, Sem.run_bind, run_program, Result.andThen_ok, hfn]
      rw [if_neg hnm, if_neg hnb]
      simp
    have hargs : ∀ (own : Nat → Prop), (∀ (i : Nat) x c, ds[i]? = some x → cl[i]? = some c → RD1 w own x c) → (∀ (i : Nat) x cs, caps[i]? = some x → css[i]? = some cs → RC w own x.sh x cs) →
        ∀ (i : Nat) x c, (ds' ++ caps)[i]? = some x → (cl ++ List.zipWith (fun x cs => pack x.sh cs) caps css)[i]? = some c → RD1 w own x c := by
      intro own h1 h2 i x c hx hc
      rw [List.getElem?_append] at hx hc
      rw [hll, hdl] at hx
      rw [hl] at hc
      split at hx
      · rename_i hi
        rw [if_pos hi] at hc
        obtain ⟨x0, hx0, hle0⟩ := hle i x hx
        exact (h1 i x0 c hx0 hc).le hle0
      · rename_i hi
        rw [if_neg hi] at hc
        rw [List.getElem?_zipWith] at hc
        rw [hx] at hc
        split at hc
        · rename_i a' b' ha hb
          cases ha
          cases hc
          exact ⟨b', h2 _ _ _ hx hb, rfl⟩
        · cases hc
    have hlen : (cl ++ List.zipWith (fun x cs => pack x.sh cs) caps css).length = (ds' ++ caps).length := by
      simp [hll, hdl, hl, hcl]
    have post : ∀ (v : D) (c : Value) (w' : World), Below w.heap.size w w' → RD w' (Own m H) v c → Aft cx B w m H slot (.d v) [] c w' m := fun v c w' hb hd =>
      ⟨(keep_below hh hb).1, (keep_below hh hb).2, hd.rv, hb.mono hh.size, fun b h => .inl h⟩
    cases bor with
    | false =>
      have hc := hret w _ (Own m H) (own_lt hh) hh.glob hlen (hargs _ (fun i x c a b => (hds i x c a b).2 rfl) hcr)
      refine ⟨.d v, [], hk, fun K Q hK => ?_⟩
      unfold Oper.wp
      rw [hrun]
      simp only [Oper.upon]
      refine hc.mono ?_
      rintro e w' ⟨c, rfl, hd, hb⟩
      exact hK c w' m (post v c w' hb hd)
    | true =>
      obtain ⟨hfl, hk⟩ := hk
      have hgl : GOK cx w noOwn := hh.glob.mono (fun a c h _ => ⟨h, fun h => h⟩) (fun g x _ _ h => h)
      have hc := hret w _ noOwn (fun k h => h.elim) hgl hlen (hargs _ (fun i x c a b => (hds i x c a b).1) (fun i x cs a b => (hcr i x cs a b).unown))
      refine ⟨.d v, [], hk, fun K Q hK => ?_⟩
      unfold Oper.wp
      rw [hrun]
      simp only [Oper.upon]
      refine hc.mono ?_
      rintro e w' ⟨c, rfl, hd, hb⟩
      exact hK c w' m (post v c w' hb (hd.flat hfl))

theorem allD_rc (hh : HeapOK cx B w m H) : ∀ (l : List V) (cl : List Value) (ds : List D), cl.length = l.length → (∀ (i : Nat) v c, l[i]? = some v → cl[i]? = some c → RV w m H v c) → allD l = some ds → (∀ x ∈ ds, cellV (.d x) = true) →
    ∃ css : List (List Value), css.length = ds.length ∧ (∀ (i : Nat) x cs, ds[i]? = some x → css[i]? = some cs → RC w (Own m H) x.sh x cs) ∧ cl = List.zipWith (fun x cs => pack x.sh cs) ds css := by
  intro l cl ds hl hr hd hcv
  have := allD_some hd
  subst this
  clear hd
  induction ds generalizing cl with
  | nil => cases cl with
    | nil => exact ⟨[], rfl, fun i x cs h => by simp at h, rfl⟩
    | cons c r => simp at hl
  | cons x ds ih =>
    cases cl with
    | nil => simp at hl
    | cons c r =>
      obtain ⟨css, h1, h2, h3⟩ := ih r (fun y hy => hcv y (by simp [hy])) (by simpa using hl) (fun i v c a b => hr (i + 1) v c (by simpa using a) (by simpa using b))
      obtain ⟨cs, q1, rfl⟩ := (hr 0 (.d x) c rfl rfl).elim (hcv x (by simp))
      refine ⟨cs :: css, by simp [h1], fun i y ds' a b => ?_, by simp [h3, V.sh]⟩
      cases i with
      | zero => simp at a b; subst a; subst b; exact q1.of_d
      | succ i => exact h2 i y ds' (by simpa using a) (by simpa using b)
end

end Go.Fw
