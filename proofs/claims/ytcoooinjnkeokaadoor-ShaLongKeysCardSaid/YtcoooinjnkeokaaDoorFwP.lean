/-
Arguments handed on as data; calls; every operation. No conditions.
-/
import Derived.Test.YtcoooinjnkeokaaDoorFwO
namespace Go.Fw
set_option linter.unusedVariables false
set_option linter.unusedSimpArgs false
open Go.RowKit

section
variable {cx : Cx} {B : Nat} {w : World} {m : M} {H : Heap} {rd : Nat → Option Blk}

theorem SlAt.rc {e : Sh} {xs : List D} {c : Value} (h : SlAt w m H e xs c) : RC w noOwn .one (.ro e false xs) [c] := by
  obtain ⟨a, cap, css, rfl, hc, hl, h1, h2⟩ := h
  refine .ro e false xs a cap css hl hc (by intro h; cases h) (fun i x cs a b => (h1 i x cs a b).unown) (fun i cs j c a b => ?_)
  obtain ⟨ad, h3, h4⟩ := h2 i cs j c a b
  exact ⟨ad, h3, h4, fun h => h⟩

theorem views_sound {shs : List Sh} {k : Bool → List D → Prop} : ∀ (xs : List V) (i : Nat) (css : List (List Value)),
    (∀ (j : Nat) s x cs, shs[i + j]? = some s → xs[j]? = some x → css[j]? = some cs → ∀ k : Bool → D → Prop, view rd x k → ∃ b y, k b y ∧ RC w noOwn s y cs ∧ (b = false → RC w (Own m H) s y cs)) →
    css.length = xs.length → i + xs.length = shs.length → views rd xs k →
    ∃ b ys, k b ys ∧ ys.length = xs.length ∧ (∀ (j : Nat) s y cs, shs[i + j]? = some s → ys[j]? = some y → css[j]? = some cs → RC w noOwn s y cs ∧ (b = false → RC w (Own m H) s y cs))
  | [], i, css, _, _, _, hg => ⟨false, [], hg, rfl, fun j s y cs _ h => by simp at h⟩
  | x :: xs, i, css, h, hl, hs, hg => by
    cases css with
    | nil => simp at hl
    | cons c0 cr =>
      simp only [List.length_cons] at hl hs
      have hs0 : shs[i + 0]? = some (shs[i]'(by omega)) := by rw [Nat.add_zero]; exact List.getElem?_eq_getElem (by omega)
      obtain ⟨b, y, hk, r1, r2⟩ := h 0 _ x c0 hs0 rfl rfl _ hg
      obtain ⟨b', ys, hk, hyl, hr⟩ := views_sound xs (i + 1) cr (fun j s x cs a b c => h (j + 1) s x cs (by rw [← a]; congr 1; omega) (by simpa using b) (by simpa using c)) (by omega) (by omega) hk
      refine ⟨b || b', y :: ys, hk, by simp [hyl], fun j s z cs a p q => ?_⟩
      cases j with
      | zero =>
        rw [hs0] at a
        simp at p q
        cases a; subst p; subst q
        exact ⟨r1, fun hb => r2 (by cases b <;> simp_all)⟩
      | succ j =>
        obtain ⟨q1, q2⟩ := hr j s z cs (by rw [← a]; congr 1; omega) (by simpa using p) (by simpa using q)
        exact ⟨q1, fun hb => q2 (by cases b' <;> simp_all)⟩

theorem view_cells (hh : HeapOK cx B w m H) (hrd : Rd rd H) {sh : Sh} {v : V} {cs : List Value} (h : RCV w m H sh v cs) : ∀ k : Bool → D → Prop, view rd v k → ∃ b x, k b x ∧ RC w noOwn sh x cs ∧ (b = false → RC w (Own m H) sh x cs) := by
  have slice : ∀ {v : V} {c : Value}, (∀ x, v ≠ .d x) → RCV w m H .one v [c] → v.sh = .one → ∀ k : Bool → D → Prop, vslice rd v k → ∃ b x, k b x ∧ RC w noOwn .one x [c] ∧ (b = false → RC w (Own m H) .one x [c]) := by
    intro v c hv hr hs k hg
    obtain ⟨b, x, hk, hor⟩ := vslice_sound hh hrd (RV.one_cell hr hs) hg
    rcases hor with ⟨_, rfl⟩ | ⟨rfl, e, xs, rfl, hsl⟩
    · exact absurd rfl (hv x)
    · exact ⟨true, _, hk, hsl.rc, fun h => by cases h⟩
  induction h with
  | d sh x cs h => intro k hg; exact ⟨false, x, hg, h.unown, fun _ => h⟩
  | st shs xs css hl hs h ih =>
    intro k hg
    obtain ⟨b, ys, hk, hyl, hr⟩ := views_sound (shs := shs) xs 0 css (fun j s x cs a b c => ih j s x cs (by simpa using a) b c) hl (by omega) hg
    refine ⟨b, .st ys, hk, .st shs ys css (by omega) (by omega) (fun i s x cs a b c => (hr i s x cs (by simpa using a) b c).1), fun hb => .st shs ys css (by omega) (by omega) (fun i s x cs a b c => (hr i s x cs (by simpa using a) b c).2 hb)⟩
  | any c h => intro k hg; exact hg.elim
  | ptr b ver path sh a hb h => intro k hg; exact hg.elim
  | parr b off n ver c ho hb h => intro k hg; exact hg.elim
  | rop x a cs h hm => intro k hg; exact hg.elim
  | sl b off ver c ho hb h => exact slice (by intro x h; cases h) (.sl b off ver c ho hb h) rfl
  | sub b off len ver c ho hb h => exact slice (by intro x h; cases h) (.sub b off len ver c ho hb h) rfl
  | sa b path off len c ho hb h => exact slice (by intro x h; cases h) (.sa b path off len c ho hb h) rfl

theorem argsV_sound (hh : HeapOK cx B w m H) (hrd : Rd rd H) {k : Bool → List D → Prop} : ∀ (l : List V) (cl : List Value), cl.length = l.length → (∀ (i : Nat) v c, l[i]? = some v → cl[i]? = some c → RV w m H v c) → argsV rd l k →
    ∃ b ds, k b ds ∧ ds.length = l.length ∧ (∀ (i : Nat) x c, ds[i]? = some x → cl[i]? = some c → RD1 w noOwn x c ∧ (b = false → RD1 w (Own m H) x c))
  | [], cl, _, _, hg => ⟨false, [], hg, rfl, fun i x c h => by simp at h⟩
  | v :: vs, cl, hl, hr, hg => by
    cases cl with
    | nil => simp at hl
    | cons c0 cr =>
      obtain ⟨hcv, hg⟩ := onT_elim hg
      obtain ⟨cs, hrc, rfl⟩ := (hr 0 v c0 rfl rfl).elim hcv
      obtain ⟨b, x, hk, r1, r2⟩ := view_cells hh hrd hrc _ hg
      obtain ⟨b', ds, hk, hdl, hrr⟩ := argsV_sound hh hrd vs cr (by simpa using hl) (fun i v c a b => hr (i + 1) v c (by simpa using a) (by simpa using b)) hk
      have hsh := r1.sh_eq
      refine ⟨b || b', x :: ds, hk, by simp [hdl], fun i y c a p => ?_⟩
      cases i with
      | zero =>
        simp at a p
        subst a; subst p
        exact ⟨⟨cs, by rw [hsh]; exact r1, by rw [hsh]⟩, fun hb => ⟨cs, by rw [hsh]; exact r2 (by cases b <;> simp_all), by rw [hsh]⟩⟩
      | succ i =>
        obtain ⟨q1, q2⟩ := hrr i y c (by simpa using a) (by simpa using p)
        exact ⟨q1, fun hb => q2 (by cases b' <;> simp_all)⟩

theorem D.le.sh_eq {x y : D} (h : D.le x y) : x.sh = y.sh := by
  induction h with
  | refl x => rfl
  | nils e => rfl
  | loose e xs => rfl
  | st xs ys hl h hs ih => simp [D.sh, hs]

theorem RC.le {own : Nat → Prop} {x y : D} (h : D.le x y) : ∀ {sh : Sh} {cs : List Value}, RC w own sh x cs → RC w own sh y cs := by
  induction h with
  | refl x => intro sh cs h; exact h
  | nils e =>
    intro sh cs h
    cases h
    exact .ro e false [] none 0 [] rfl (by simp) (by intro h; cases h) (fun i x cs h => by simp at h) (fun i cs j c h => by simp at h)
  | loose e xs =>
    intro sh cs h
    cases h with
    | ro _ _ _ a cap css hl hc ht h hm => exact .ro e false xs a cap css hl hc (by intro h; cases h) h hm
  | st xs ys hl h hs ih =>
    intro sh cs hr
    cases hr with
    | st shs _ css hl2 hs2 h2 =>
      refine .st shs ys css (by omega) (by omega) fun i s y cs a b c => ?_
      have hi : i < xs.length := by have := (List.getElem?_eq_some_iff.1 b).1; omega
      have hx : xs[i]? = some xs[i] := List.getElem?_eq_getElem hi
      exact ih i _ _ hx b (h2 i s _ cs a hx c)

theorem RD1.le {own : Nat → Prop} {x y : D} {c : Value} (hl : D.le x y) (h : RD1 w own x c) : RD1 w own y c := by
  obtain ⟨cs, h1, h2⟩ := h
  rw [hl.sh_eq] at h1 h2
  exact ⟨cs, RC.le hl h1, h2⟩

theorem D.les_spec : ∀ {xs ys : List D}, D.les xs ys → ys.length = xs.length ∧ ∀ (i : Nat) y, ys[i]? = some y → ∃ x, xs[i]? = some x ∧ D.le x y
  | [], [], _ => ⟨rfl, fun i y h => by simp at h⟩
  | x :: xs, y :: ys, h => by
    obtain ⟨h1, h2⟩ := h
    obtain ⟨l, r⟩ := D.les_spec h2
    refine ⟨by simp [l], fun i z hz => ?_⟩
    cases i with
    | zero => simp at hz; subst hz; exact ⟨x, rfl, h1⟩
    | succ i => obtain ⟨u, hu, hle⟩ := r i z (by simpa using hz); exact ⟨u, by simpa using hu, hle⟩
  | [], _ :: _, h => h.elim
  | _ :: _, [], h => h.elim

theorem RC.flat {own own' : Nat → Prop} {sh : Sh} {x : D} {cs : List Value} (h : RC w own sh x cs) (hf : x.flat) : RC w own' sh x cs := by
  induction h with
  | int k n => exact .int k n
  | bool b => exact .bool b
  | str l => exact .str l
  | nils => exact .nils
  | nilp => exact .nilp
  | fn f caps css hl h ih => cases hf
  | ro e t xs a cap css hl hc ht h hm ih => cases hf
  | arr n e xs css hl hn h ih =>
    cases hf with
    | arr _ _ _ hf => exact .arr n e xs css hl hn fun i x cs a b => ih i x cs a b (hf x (List.mem_of_getElem? a))
  | st shs xs css hl hs h ih =>
    cases hf with
    | st _ hf => exact .st shs xs css hl hs fun i s x cs a b c => ih i s x cs a b c (hf x (List.mem_of_getElem? b))

theorem RD.flat {own own' : Nat → Prop} {x : D} {c : Value} (h : RD w own x c) (hf : x.flat) : RD w own' x c := by
  cases x with
  | tup xs =>
    obtain ⟨cs, h1, h2, h3⟩ := h
    cases hf with
    | tup _ hf =>
      refine ⟨cs, h1, h2, fun i x c a b => ?_⟩
      obtain ⟨cells, q1, q2⟩ := h3 i x c a b
      exact ⟨cells, q1.flat (hf x (List.mem_of_getElem? a)), q2⟩
  | _ =>
    obtain ⟨cells, q1, q2⟩ := h
    exact ⟨cells, q1.flat hf, q2⟩

theorem RD.rv {x : D} {c : Value} (h : RD w (Own m H) x c) : RV w m H (.d x) c := by
  cases x with
  | tup xs =>
    obtain ⟨cs, rfl, h2, h3⟩ := h
    exact .dtup xs cs h2 h3
  | _ =>
    obtain ⟨cells, q1, rfl⟩ := h
    exact .one (.d _) cells (.d _ _ _ q1)

/-- A call that hands back data: what the relation keeps. -/
theorem keep_below {w' : World} (hh : HeapOK cx B w m H) (hb : Below w.heap.size w w') : Keep w m H w' m H ∧ HeapOK cx B w' m H := by
  have hk : Keep w m H w' m H := ⟨fun a c h1 h2 => ⟨by rw [hb.cell (cell_lt h1)]; exact h1, h2⟩, fun _ h => h, fun b _ x hx => ⟨x, hx, BK.refl m b x⟩, fun _ h => h⟩
  refine ⟨hk, fun i y hy => (hh.blk i y hy).keep hk rfl fun k cap cur hi hr => ?_, hh.inj, hh.lo, hh.lt, hh.born, hh.glob.keep hk, hh.far, Nat.le_trans hh.size hb.size⟩
  obtain ⟨t, ht⟩ := hr
  exact ⟨t, by rw [hb.block k (Array.getElem?_eq_some_iff.1 ht).1]; exact ht⟩

theorem own_lt (hh : HeapOK cx B w m H) : ∀ k, Own m H k → k < w.heap.size := by
  rintro k (hf | ⟨b, x, cap, hl, hi⟩)
  · have := hh.far k hf; have := hh.size; omega
  · exact heap_lts hh b x k cap hl hi

end

end Go.Fw
