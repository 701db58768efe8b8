/-
Code: what W says comes to pass. No conditions.
-/
import Derived.Test.YtcoooinjnkeokaaDoorFwZa
namespace Go.Fw
set_option linter.unusedVariables false
set_option linter.unusedSimpArgs false
open Go.RowKit

theorem least {p : Nat → Prop} (h : ∃ n, p n) : ∃ n, p n ∧ ∀ m, p m → n ≤ m := by
  obtain ⟨n, hn⟩ := h
  induction n using Nat.strongRecOn with
  | _ n ih =>
    by_cases h : ∃ m, m < n ∧ p m
    · obtain ⟨m, hm, hp⟩ := h
      exact ih m hm hp
    · exact ⟨n, hn, fun m hm => Nat.le_of_not_lt fun hlt => h ⟨m, hlt, hm⟩⟩

open Classical in
noncomputable def leastOf (p : Nat → Prop) : Nat := if h : ∃ n, p n then Classical.choose (least h) else 0

theorem leastOf_spec {p : Nat → Prop} (h : ∃ n, p n) : p (leastOf p) ∧ ∀ m, p m → leastOf p ≤ m := by
  unfold leastOf
  rw [dif_pos h]
  exact Classical.choose_spec (least h)

def okCode (cx : Cx) (hs : Hints) (n : Nat) : Code → Bool
  | .region id ops draw => dstOK n ops.toList && (!draw || regionFree cx (visOf hs id) ops.toList)
  | .seq x y => okCode cx hs n x && okCode cx hs n y
  | .cond _ x y => okCode cx hs n x && okCode cx hs n y
  | .block _ b => okCode cx hs n b
  | .loop b => okCode cx hs n b
  | _ => true

def Ex.out : Ex → Exit
  | .normal => .normal
  | .exit id => .exit id
  | .ret => .ret

section
variable {cx : Cx} {vis : Vis} {B n : Nat} {w0 : World} {far : Nat → Prop}

/-- The program's condition is met wherever ours is. -/
def PQ (cx : Cx) (B n : Nat) (w0 : World) (far : Nat → Prop) (Q0 : Post) (Q : Exit → Act → World → Prop) : Prop :=
  ∀ ex e H a w m, Q0 ex e H → RelS cx B n w0 far e H a w m → Q ex.out a w

theorem region_sound (hx : CxOK cx) {hs : Hints} {id : Nat} {ops : Array Oper} {draw : Bool} (hok : okCode cx hs n (.region id ops draw) = true) {e : Env} {H : Heap} {a : Act} {w : World} {m : M} {Q0 : Post} {Q : Exit → Act → World → Prop}
    (hr : RelS cx B n w0 far e H a w m) (hq : PQ cx B n w0 far Q0 Q) (h : Wregion cx (visOf hs id) ops.toList e H (Q0 .normal)) : (Code.region id ops draw).wp cx.P Q a w := by
  unfold okCode at hok
  rw [Bool.and_eq_true] at hok
  have hd := dstOK_spec hok.1
  unfold Wregion at h
  rw [moreK_eq] at h
  have hlex := lex_of_wops ops.toList 0 H.length e _ (by simp [slotAt, news]) (fun i => by simp) h
  have hfin : ∀ e' H' a' w' m', Q0 .normal e' H' → RelR cx B n w0 far ops.toList H.length (fun _ => True) e' H' a' w' m' → Q .normal a' w' := fun e' H' a' w' m' h1 h2 =>
    hq .normal e' H' a' w' m' h1 ⟨h2.heap, h2.env, h2.size, h2.defers, h2.below, h2.far⟩
  have hstart : ∀ (w1 : World), w1.heap = w.heap → Below B w0 w1 → ∀ L, RelR cx B n w0 far ops.toList H.length L e (H ++ List.replicate (news ops.toList) none) a w1 m := fun w1 hw1 hb L => by
    have hk1 := keep_world (m := m) (H := H) hw1
    have hk2 := keep_more (w := w1) (m := m) (H := H) (news ops.toList)
    exact ⟨heap_more (heap_world hr.heap hw1) _, fun t => ((hr.env t).keep hk1).keep hk2, hr.size, hr.defers, hb, hr.far, by simp, fun b hb => .inl (hr.heap.lt b hb)⟩
  cases draw with
  | false =>
    refine wp_region_list ?_
    have := list_sound hx hd hfin ops.toList 0 e _ a w m (fun i => by simp) (hstart w rfl hr.below _) hlex
    simpa using this
  | true =>
    have hfree : regionFree cx (visOf hs id) ops.toList = true := by simpa using hok.2
    refine wp_region_any hx.mixed ?_
    have hany := any_of_lex hfree ops.toList 0 (Array.replicate ops.size false) e _ (fun i => by simp) (by simp) (fun k => by simp [Array.getElem?_replicate]; split <;> simp) (by simp) hlex
    have hb : Below B w0 { w with drawn := w.drawn + 1 } := ⟨hr.below.os, hr.below.tape, hr.below.output, hr.below.size, hr.below.block⟩
    have := any_sound hx hd hfin ops.toList.length (Array.replicate ops.size false) e _ a { w with drawn := w.drawn + 1 } m (by simp) (hstart { w with drawn := w.drawn + 1 } rfl hb _) hany
    simpa using this

theorem W_sound (hx : CxOK cx) {hs : Hints} : ∀ (c : Code) (e : Env) (H : Heap) (a : Act) (w : World) (m : M) (Q0 : Post) (Q : Exit → Act → World → Prop), okCode cx hs n c = true →
    RelS cx B n w0 far e H a w m → PQ cx B n w0 far Q0 Q → W cx hs c e H Q0 → c.wp cx.P Q a w := by
  intro c
  induction c with
  | skip => intro e H a w m Q0 Q hok hr hq h; exact wp_skip (hq .normal _ _ _ _ _ h hr)
  | exit id => intro e H a w m Q0 Q hok hr hq h; exact wp_exit (hq (.exit id) _ _ _ _ _ h hr)
  | ret => intro e H a w m Q0 Q hok hr hq h; exact wp_ret (hq .ret _ _ _ _ _ h hr)
  | region id ops draw =>
    intro e H a w m Q0 Q hok hr hq h
    have h : cutK (elemN id hs.cuts) e H fun a H => Wregion cx (visOf hs id) ops.toList a H (Q0 .normal) := h
    cases hc : elemN id hs.cuts with
    | false => rw [hc] at h; exact region_sound hx hok hr hq h
    | true =>
      rw [hc] at h
      obtain ⟨e', H', hk, h⟩ := h
      obtain ⟨m', hr'⟩ := Wk_sound hk hr
      exact region_sound hx hok hr' hq h
  | seq x y ihx ihy =>
    intro e H a w m Q0 Q hok hr hq h
    unfold okCode at hok
    rw [Bool.and_eq_true] at hok
    refine wp_seq (ihx e H a w m _ _ hok.1 hr ?_ h)
    intro ex e' H' a' w' m' h1 h2
    cases ex with
    | normal => exact ihy e' H' a' w' m' Q0 Q hok.2 h2 hq h1
    | exit id => exact hq (.exit id) e' H' a' w' m' h1 h2
    | ret => exact hq .ret e' H' a' w' m' h1 h2
  | cond c x y ihx ihy =>
    intro e H a w m Q0 Q hok hr hq h
    unfold okCode at hok
    rw [Bool.and_eq_true] at hok
    have hev := evO_sound hr.heap hr.env c
    have main : asB (evO cx e c) (fun g => br g (W cx hs x e H Q0) (W cx hs y e H Q0)) → (Code.cond c x y).wp cx.P Q a w := fun h => by
      obtain ⟨g, _, hc, h⟩ := asB_elim hev h
      cases g with
      | true => exact wp_cond_true hc (ihx e H a w m Q0 Q hok.1 hr hq h)
      | false => exact wp_cond_false hc (ihy e H a w m Q0 Q hok.2 hr hq h)
    cases c with
    | tmp t =>
      have h : asB (e t) fun g => br g (W cx hs x (upd e t (.d (.bool true))) H Q0) (W cx hs y (upd e t (.d (.bool false))) H Q0) := h
      refine main ?_
      obtain ⟨g, hg, h⟩ := asB_inv h
      have he : evO cx e (.tmp t) = .d (.bool g) := hg
      rw [he]
      cases g with
      | true => rw [upd_self hg] at h; exact h
      | false => rw [upd_self hg] at h; exact h
    | _ => exact main h
  | block id b ih =>
    intro e H a w m Q0 Q hok hr hq h
    refine wp_block (ih e H a w m _ _ hok hr ?_ h)
    intro ex e' H' a' w' m' h1 h2
    cases ex with
    | normal => exact hq .normal e' H' a' w' m' h1 h2
    | ret => exact hq .ret e' H' a' w' m' h1 h2
    | exit i =>
      have h1 : br (Nat.beq i id) (Q0 .normal e' H') (Q0 (.exit i) e' H') := h1
      show if i = id then Q .normal a' w' else Q (.exit i) a' w'
      cases hi : Nat.beq i id with
      | true =>
        rw [hi] at h1
        rw [if_pos (Nat.eq_of_beq_eq_true hi)]
        exact hq .normal e' H' a' w' m' h1 h2
      | false =>
        rw [hi] at h1
        rw [if_neg (Nat.ne_of_beq_eq_false hi)]
        exact hq (.exit i) e' H' a' w' m' h1 h2
  | loop b ih =>
    intro e H a w m Q0 Q hok hr hq h
    have h : LoopW (fun a H K => W cx hs b a H (thenK K Q0)) e H := h
    unfold LoopW at h
    obtain ⟨n0, h0⟩ := h
    let J : Nat → Act → World → Prop := fun k a w => ∃ e H m, RelS cx B n w0 far e H a w m ∧ iterW (fun a H K => W cx hs b a H (thenK K Q0)) k e H
    refine wp_loop (fun a w => ∃ k, J k a w) (fun a w => leastOf fun k => J k a w) ⟨n0, e, H, m, hr, h0⟩ ?_
    intro a1 w1 hI
    obtain ⟨⟨e1, H1, m1, hr1, hit⟩, _⟩ := leastOf_spec hI
    cases hk : leastOf (fun k => J k a1 w1) with
    | zero => rw [hk] at hit; exact hit.elim
    | succ k =>
      rw [hk] at hit
      obtain ⟨e2, H2, hwk, hit⟩ := hit
      obtain ⟨m2, hr2⟩ := Wk_sound hwk hr1
      refine ih e2 H2 a1 w1 m2 _ _ hok hr2 ?_ hit
      intro ex e' H' a' w' m' h1 h2
      cases ex with
      | exit i => exact hq (.exit i) e' H' a' w' m' h1 h2
      | ret => exact hq .ret e' H' a' w' m' h1 h2
      | normal =>
        have hJ : ∃ k, J k a' w' := ⟨k, e', H', m', h2, h1⟩
        refine ⟨hJ, ?_⟩
        show leastOf (fun k => J k a' w') < k + 1
        have := (leastOf_spec hJ).2 k ⟨e', H', m', h2, h1⟩
        omega
  | _ => intro e H a w m Q0 Q hok hr hq h; exact h.elim

theorem Wops_mono {ops : List Oper} {base : Nat} {K K' : Env → Heap → Prop} (hK : ∀ e H, K e H → K' e H) : ∀ (l : List Oper) (j slot : Nat) (e : Env) (H : Heap), Wops cx vis ops base K l j slot e H → Wops cx vis ops base K' l j slot e H
  | [], j, slot, e, H, h => hK e H h
  | o :: rest, j, slot, e, H, h => by
    have run : ∀ e1, Wop cx (evO cx e1) (rdAt vis ops base H j) slot o (fun v ef => appK H ef fun H' => Wops cx vis ops base K rest (j + 1) (bif newOp o then slot + 1 else slot) (put e1 o.dst v) H') →
        Wop cx (evO cx e1) (rdAt vis ops base H j) slot o (fun v ef => appK H ef fun H' => Wops cx vis ops base K' rest (j + 1) (bif newOp o then slot + 1 else slot) (put e1 o.dst v) H') := fun e1 h =>
      (Wop_lin cx _ _ _ o).mono (fun v ef h => by rw [appK_eq] at h ⊢; exact Wops_mono hK rest _ _ _ _ h) h
    unfold Wops at h ⊢
    cases hgd : o.guard with
    | none => rw [hgd] at h; exact run e h
    | some p =>
      obtain ⟨i, want⟩ := p
      rw [hgd] at h
      cases hd : (ops[i]?).bind (·.dst) with
      | none => simp only [hd] at h
      | some t =>
        simp only [hd] at h ⊢
        rcases asG_inv h with ⟨hg, h⟩ | ⟨g, hg, h⟩
        · rw [hg]; exact Wops_mono hK rest _ _ _ _ h
        rw [hg]
        cases g with
        | true =>
          cases want with
          | true => exact run _ h
          | false => exact Wops_mono hK rest _ _ _ _ h
        | false =>
          cases want with
          | true => exact Wops_mono hK rest _ _ _ _ h
          | false => exact run _ h

theorem iterW_mono {F F' : Tr} (h1 : ∀ a H K, F a H K → F' a H K) (h2 : ∀ a H K K', (∀ a H, K a H → K' a H) → F' a H K → F' a H K') : ∀ n a H, iterW F n a H → iterW F' n a H
  | 0, a, H, h => h.elim
  | n + 1, a, H, ⟨a', H', hk, h⟩ => ⟨a', H', hk, h2 _ _ _ _ (iterW_mono h1 h2 n) (h1 _ _ _ h)⟩

theorem W_mono {hs : Hints} (c : Code) : ∀ (e : Env) (H : Heap) (Q Q' : Post), (∀ ex e H, Q ex e H → Q' ex e H) → W cx hs c e H Q → W cx hs c e H Q' := by
  induction c with
  | skip => intro e H Q Q' hq h; exact hq _ _ _ h
  | exit id => intro e H Q Q' hq h; exact hq _ _ _ h
  | ret => intro e H Q Q' hq h; exact hq _ _ _ h
  | region id ops draw =>
    intro e H Q Q' hq h
    have h : cutK (elemN id hs.cuts) e H fun a H => Wregion cx (visOf hs id) ops.toList a H (Q .normal) := h
    show cutK (elemN id hs.cuts) e H fun a H => Wregion cx (visOf hs id) ops.toList a H (Q' .normal)
    have hm : ∀ e H, Wregion cx (visOf hs id) ops.toList e H (Q .normal) → Wregion cx (visOf hs id) ops.toList e H (Q' .normal) := fun e H h => by
      unfold Wregion at h ⊢
      rw [moreK_eq] at h ⊢
      exact Wops_mono (hq .normal) _ _ _ _ _ h
    cases hc : elemN id hs.cuts with
    | false => rw [hc] at h; exact hm _ _ h
    | true => rw [hc] at h; obtain ⟨e', H', hk, h⟩ := h; exact ⟨e', H', hk, hm _ _ h⟩
  | seq x y ihx ihy =>
    intro e H Q Q' hq h
    refine ihx e H _ _ (fun ex e H h => ?_) h
    cases ex with
    | normal => exact ihy e H Q Q' hq h
    | exit id => exact hq _ _ _ h
    | ret => exact hq _ _ _ h
  | cond c x y ihx ihy =>
    intro e H Q Q' hq h
    cases c with
    | tmp t =>
      have h : asB (e t) fun g => br g (W cx hs x (upd e t (.d (.bool true))) H Q) (W cx hs y (upd e t (.d (.bool false))) H Q) := h
      show asB (e t) fun g => br g (W cx hs x (upd e t (.d (.bool true))) H Q') (W cx hs y (upd e t (.d (.bool false))) H Q')
      obtain ⟨g, hg, h⟩ := asB_inv h
      rw [hg]
      cases g with
      | true => exact ihx _ H Q Q' hq h
      | false => exact ihy _ H Q Q' hq h
    | const v =>
      have h : asB (evO cx e (.const v)) fun g => br g (W cx hs x e H Q) (W cx hs y e H Q) := h
      show asB (evO cx e (.const v)) fun g => br g (W cx hs x e H Q') (W cx hs y e H Q')
      obtain ⟨g, hg, h⟩ := asB_inv h
      rw [hg]
      cases g with
      | true => exact ihx _ H Q Q' hq h
      | false => exact ihy _ H Q Q' hq h
    | global v =>
      have h : asB (evO cx e (.global v)) fun g => br g (W cx hs x e H Q) (W cx hs y e H Q) := h
      show asB (evO cx e (.global v)) fun g => br g (W cx hs x e H Q') (W cx hs y e H Q')
      obtain ⟨g, hg, h⟩ := asB_inv h
      rw [hg]
      cases g with
      | true => exact ihx _ H Q Q' hq h
      | false => exact ihy _ H Q Q' hq h
    | func v =>
      have h : asB (evO cx e (.func v)) fun g => br g (W cx hs x e H Q) (W cx hs y e H Q) := h
      show asB (evO cx e (.func v)) fun g => br g (W cx hs x e H Q') (W cx hs y e H Q')
      obtain ⟨g, hg, h⟩ := asB_inv h
      rw [hg]
      cases g with
      | true => exact ihx _ H Q Q' hq h
      | false => exact ihy _ H Q Q' hq h
  | block id b ih =>
    intro e H Q Q' hq h
    refine ih e H _ _ (fun ex e H h => ?_) h
    cases ex with
    | normal => exact hq _ _ _ h
    | ret => exact hq _ _ _ h
    | exit i =>
      have h : br (Nat.beq i id) (Q .normal e H) (Q (.exit i) e H) := h
      show br (Nat.beq i id) (Q' .normal e H) (Q' (.exit i) e H)
      cases hi : Nat.beq i id with
      | true => rw [hi] at h; exact hq _ _ _ h
      | false => rw [hi] at h; exact hq _ _ _ h
  | loop b ih =>
    intro e H Q Q' hq h
    have h : LoopW (fun a H K => W cx hs b a H (thenK K Q)) e H := h
    show LoopW (fun a H K => W cx hs b a H (thenK K Q')) e H
    unfold LoopW at h ⊢
    obtain ⟨n0, h0⟩ := h
    refine ⟨n0, iterW_mono (fun a H K h => ih a H _ _ (fun ex e H h => ?_) h) (fun a H K K' hk h => ih a H _ _ (fun ex e H h => ?_) h) n0 e H h0⟩
    · cases ex with
      | normal => exact h
      | exit id => exact hq _ _ _ h
      | ret => exact hq _ _ _ h
    · cases ex with
      | normal => exact hk _ _ h
      | exit id => exact h
      | ret => exact h
  | _ => intro e H Q Q' hq h; exact h.elim
end
end Go.Fw
