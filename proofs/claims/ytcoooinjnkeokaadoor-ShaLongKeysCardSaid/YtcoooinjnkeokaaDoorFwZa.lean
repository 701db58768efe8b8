/-
Weakenings of a state are sound. No conditions.
-/
import Derived.Test.YtcoooinjnkeokaaDoorFwY
namespace Go.Fw
set_option linter.unusedVariables false
set_option linter.unusedSimpArgs false
open Go.RowKit

/-- What is known of a state between regions. -/
structure RelS (cx : Cx) (B n : Nat) (w0 : World) (far : Nat → Prop) (e : Env) (H : Heap) (a : Act) (w : World) (m : M) : Prop where
  heap : HeapOK cx B w m H
  env : ∀ t, RV w m H (e t) (a.tmps.getD t undef)
  size : a.tmps.size = n
  defers : a.defers = []
  below : Below B w0 w
  far : ∀ k, far k → m.far k

section
variable {cx : Cx} {B n : Nat} {w0 : World} {far : Nat → Prop}

theorem RV.le {w : World} {m : M} {H : Heap} {x y : D} {c : Value} (h : RV w m H (.d x) c) (hl : D.le x y) : RV w m H (.d y) c := by
  cases hl with
  | refl x => exact h
  | nils e => exact RD.rv (x := .ro e false []) ((h.rd1 rfl).le (.nils e))
  | loose e xs => exact RD.rv (x := .ro e false xs) ((h.rd1 rfl).le (.loose e xs))
  | st xs ys hl h1 hs => exact RD.rv (x := .st ys) ((h.rd1 rfl).le (.st xs ys hl h1 hs))

theorem own_take {m : M} {H : Heap} {n k : Nat} (h : Own ⟨m.ι, fun b => m.born b ∧ b < n, m.far⟩ (H.take n) k) : Own m H k := by
  rcases h with h | ⟨b, x, cap, hl, hi⟩
  · exact .inl h
  · refine .inr ⟨b, x, cap, ?_, hi⟩
    unfold live at *
    rw [List.getElem?_take] at hl
    split at hl
    · exact hl
    · cases hl

theorem live_take {H : Heap} {n b : Nat} {x : Blk} (h : live (H.take n) b x) : b < n ∧ live H b x := by
  unfold live at *
  rw [List.getElem?_take] at h
  split at h
  · rename_i hb; exact ⟨hb, h⟩
  · cases h

theorem RCV.trunc {w : World} {m : M} {H : Heap} {n : Nat} {sh : Sh} {v : V} {cs : List Value} (h : RCV w m H sh v cs) (hv : V.lowV n v) : RCV w ⟨m.ι, fun b => m.born b ∧ b < n, m.far⟩ (H.take n) sh v cs := by
  have hmono : ∀ {sh x cs}, RC w (Own m H) sh x cs → RC w (Own ⟨m.ι, fun b => m.born b ∧ b < n, m.far⟩ (H.take n)) sh x cs := fun h => h.mono fun a c h1 h2 => ⟨h1, fun h => h2 (own_take h)⟩
  induction h with
  | d sh x cs h => exact .d _ _ _ (hmono h)
  | st shs xs css hl hs h ih =>
    cases hv with
    | st _ hv => exact .st _ _ _ hl hs fun i s x cs h1 h2 h3 => ih i s x cs h1 h2 h3 (hv x (List.mem_of_getElem? h2))
  | any c h => exact .any c h
  | ptr b ver path sh a hb h =>
    cases hv with
    | ptr _ _ _ _ hbn => exact .ptr b ver path sh a ⟨hb, hbn⟩ fun x hx => h x (live_take hx).2
  | sl b off ver c ho hb h =>
    cases hv with
    | sl _ _ _ hbn => exact .sl b off ver c ho ⟨hb, hbn⟩ fun v' e xs hx => h v' e xs (live_take hx).2
  | sub b off len ver c ho hb h =>
    cases hv with
    | sub _ _ _ _ hbn => exact .sub b off len ver c ho ⟨hb, hbn⟩ fun v' e xs hx => h v' e xs (live_take hx).2
  | sa b path off len c ho hb h =>
    cases hv with
    | sa _ _ _ _ hbn => exact .sa b path off len c ho ⟨hb, hbn⟩ fun v hx => h v (live_take hx).2
  | parr b off m' ver c ho hb h =>
    cases hv with
    | parr _ _ _ _ hbn => exact .parr b off m' ver c ho ⟨hb, hbn⟩ fun v' e xs hx => h v' e xs (live_take hx).2
  | rop x a cs h hm => exact .rop x a cs (hmono h) fun j c hj => ⟨(hm j c hj).1, fun h => (hm j c hj).2 (own_take h)⟩

theorem RV.trunc {w : World} {m : M} {H : Heap} {n : Nat} {v : V} {c : Value} (h : RV w m H v c) (hv : V.lowV n v) : RV w ⟨m.ι, fun b => m.born b ∧ b < n, m.far⟩ (H.take n) v c := by
  cases h with
  | one v cs h => exact .one v cs (h.trunc hv)
  | tup xs cs hl h => cases hv
  | dtup xs cs hl h => exact .dtup xs cs hl fun i x c h1 h2 => (h i x c h1 h2).mono fun a c h1 h2 => ⟨h1, fun h => h2 (own_take h)⟩
  | any c => exact .any c

theorem Wk_sound {e : Env} {H : Heap} {e' : Env} {H' : Heap} (h : Wk e H e' H') {a : Act} {w : World} : ∀ {m : M}, RelS cx B n w0 far e H a w m → ∃ m', RelS cx B n w0 far e' H' a w m' := by
  induction h with
  | env e e' H h =>
    intro m hr
    refine ⟨m, { hr with env := fun t => ?_ }⟩
    rcases h t with h | h
    · rw [h]; exact .any _
    · rw [h]; exact hr.env t
  | le e e' H h =>
    intro m hr
    refine ⟨m, { hr with env := fun t => ?_ }⟩
    rcases h t with h | ⟨x, y, h1, h2, h3⟩
    · rw [h]; exact hr.env t
    · rw [h2]
      have := hr.env t
      rw [h1] at this
      exact this.le h3
  | kill e H b =>
    intro m hr
    exact ⟨m, { hr with heap := heap_kill hr.heap, env := fun t => (hr.env t).keep keep_kill }⟩
  | freeze e e' H b ver sh xs hb h =>
    intro m hr
    have hl : live H b (.grow ver sh xs) := hb
    refine ⟨m, { hr with heap := heap_kill hr.heap, env := fun t => ?_ }⟩
    rcases h t with h | ⟨off, h1, h2⟩
    · rw [h]; exact (hr.env t).keep keep_kill
    · rw [h2]
      have hv := hr.env t
      rw [h1] at hv
      obtain ⟨hle, ao, cap, css, hc, hcap, hcl, hrc, hm⟩ := slAt_sl hr.heap hl hv rfl
      rw [hc]
      have hkm : ∀ {sh x cs}, RC w (Own m H) sh x cs → RC w (Own m (H.set b none)) sh x cs := fun h => h.mono (keep_kill (w := w) (m := m) (H := H) (b := b)).cell
      refine RV.d1 (.ro sh false (xs.drop off) ao cap css hcl hcap (fun h => by cases h) (fun i x cs h1 h2 => hkm (hrc i x cs h1 h2)) fun i cs j cc h1 h2 => ?_) rfl
      obtain ⟨ad, ha, hcell⟩ := hm i cs j cc h1 h2
      refine ⟨ad, ha, hcell, ?_⟩
      -- the block behind the slice is b's own
      obtain ⟨cs', hq, hc'⟩ := hv.elim rfl
      cases hq with
      | sl _ _ _ c' ho hb' hq =>
        have hc' : a.tmps.getD t undef = c' := hc'
        obtain ⟨_, hor⟩ := (hq ver sh xs hl).2 rfl
        rcases hor with ⟨hn, hcn⟩ | ⟨k, cap', a', hi, hcap', hcs, ha'⟩
        · rw [hc, hcn] at hc'
          simp only [Value.slice.injEq] at hc'
          rw [hc'.1] at ha
          cases ha
        · rw [hc, hcs] at hc'
          have hil := (List.getElem?_eq_some_iff.1 h1).1
          rw [hcl, List.length_drop] at hil
          have ha2 := ha' (by omega)
          have : ao = a' := by
            have := hc'
            simp only [Value.slice.injEq] at this
            exact this.1
          rw [this, ha2] at ha
          cases ha
          rintro (hfar | ⟨b2, x2, c2, hl2, hi2⟩)
          · have h1 := hr.heap.far _ hfar
            have h2 := hr.heap.lo b _ k cap' hl hi
            simp at h1
            omega
          · rcases live_set hl2 with ⟨_, he⟩ | ⟨hne, hl2⟩
            · cases he
            · exact hne (hr.heap.inj b2 b x2 _ k c2 cap' hl2 hl hi2 hi)
  | freezeA e e' H b n sh xs hb h =>
    intro m hr
    have hl : live H b (.fix (.d (.arr n sh xs))) := hb
    refine ⟨m, { hr with heap := heap_kill hr.heap, env := fun t => ?_ }⟩
    rcases h t with h | ⟨off, len, h1, h2⟩
    · rw [h]; exact (hr.env t).keep keep_kill
    · rw [h2]
      have hv := hr.env t
      rw [h1] at hv
      obtain ⟨kk, cap, cur, o, ad0, hi, hrow, hrcv, hp, hle, hxl, hsz, hrc, hc, ha, hs⟩ := slAt_sa hr.heap hl hv (k := fun u => u = .d (.arr n sh xs)) rfl (fun u hu => hu)
      obtain ⟨ao, cp, css, hc2, hcap, hcl, hrc2, hm⟩ := hs
      rw [hc2]
      have hkm : ∀ {sh x cs}, RC w (Own m H) sh x cs → RC w (Own m (H.set b none)) sh x cs := fun h => h.mono (keep_kill (w := w) (m := m) (H := H) (b := b)).cell
      refine RV.d1 (.ro sh false (cutL off len n xs) ao cp css hcl hcap (fun h => by cases h) (fun i x cs h1 h2 => hkm (hrc2 i x cs h1 h2)) fun i cs j cc h1 h2 => ?_) rfl
      obtain ⟨ad, haa, hcell⟩ := hm i cs j cc h1 h2
      refine ⟨ad, haa, hcell, ?_⟩
      have hlen : 0 < css.length := Nat.lt_of_le_of_lt (Nat.zero_le _) (List.getElem?_eq_some_iff.1 h1).1
      rw [hc2] at hc
      simp only [Value.slice.injEq] at hc
      have h0 := ha (by omega)
      rw [← hc.1, haa] at h0
      cases h0
      rintro (hfar | ⟨b2, x2, c2, hl2, hi2⟩)
      · have h1 := hr.heap.far _ hfar
        have h2 := hr.heap.lo b _ kk cap hl hi
        simp at h1
        omega
      · rcases live_set hl2 with ⟨_, he⟩ | ⟨hne, hl2⟩
        · cases he
        · exact hne (hr.heap.inj b2 b x2 _ kk c2 cap hl2 hl hi2 hi)
  | born e e' H sh h =>
    intro m hr
    have hnb : ¬ m.born H.length := fun hb => Nat.lt_irrefl _ (hr.heap.lt _ hb)
    have e1 : H ++ [some (.grow 0 sh [])] = (H ++ List.replicate 1 none).set H.length (some (.grow 0 sh [])) := by simp
    rw [e1]
    have hm := heap_more hr.heap 1
    have hk1 := keep_more (w := w) (m := m) (H := H) 1
    have hk2 : Keep w m (H ++ List.replicate 1 none) w (m.addNone H.length) _ := keep_newNone (x := .grow 0 sh []) hnb
    refine ⟨m.addNone H.length, { hr with heap := heap_newNone hm hnb (by simp), env := fun t => ?_, far := fun k hk => hr.far k hk }⟩
    rcases h t with h | ⟨h1, h2⟩
    · rw [h]; exact ((hr.env t).keep hk1).keep hk2
    · rw [h2]
      have hv := hr.env t
      rw [h1] at hv
      have hv := hv.nils_inv
      rw [hv]
      refine .one (.sl H.length 0 0) [.slice none 0 0] (.sl _ _ _ _ rfl (.inl rfl) fun ver' e xs hl => ?_)
      rcases live_set hl with ⟨_, he⟩ | ⟨hne, _⟩
      · cases he
        exact ⟨Nat.le_refl _, fun _ => ⟨Nat.le_refl _, .inl ⟨by simp [M.addNone], rfl⟩⟩⟩
      · exact absurd rfl hne
  | trunc e H n' hv hH =>
    intro m hr
    refine ⟨⟨m.ι, fun b => m.born b ∧ b < n', m.far⟩, { hr with heap := ?_, env := fun t => (hr.env t).trunc (hv t), far := fun k hk => hr.far k hk }⟩
    have hmono : ∀ {sh x cs}, RC w (Own m H) sh x cs → RC w (Own ⟨m.ι, fun b => m.born b ∧ b < n', m.far⟩ (H.take n')) sh x cs := fun h => h.mono fun a c h1 h2 => ⟨h1, fun h => h2 (own_take h)⟩
    refine ⟨fun b x hx => ?_, fun b b' x x' k c c' h1 h2 => hr.heap.inj b b' x x' k c c' (live_take h1).2 (live_take h2).2, fun b x k c h1 => hr.heap.lo b x k c (live_take h1).2, fun b hb => ?_, fun b x h1 => ⟨hr.heap.born b x (live_take h1).2, (live_take h1).1⟩,
      hr.heap.glob.mono (fun a c h1 h2 => ⟨h1, fun h => h2 (own_take h)⟩) (fun g x hg h1 h => h1 (own_take h)), hr.heap.far, hr.heap.size⟩
    · obtain ⟨hb, hl⟩ := live_take hx
      cases hr.heap.blk b x hl with
      | fix v k cap cur h1 h2 h3 =>
        have := hH b _ hl hb
        exact .fix v k cap cur h1 h2 (h3.trunc this)
      | none ver e h1 => exact .none ver e h1
      | grow ver e xs k cap cur css h1 h2 h3 h4 h5 h6 h7 h8 => exact .grow ver e xs k cap cur css h1 h2 h3 h4 h5 h6 (fun i x cs q1 q2 => hmono (h7 i x cs q1 q2)) h8
    · have := hr.heap.lt b hb.1
      have h2 : b < n' := hb.2
      simp
      omega
  | trans a A b B c C h1 h2 ih1 ih2 =>
    intro m hr
    obtain ⟨m1, hr1⟩ := ih1 hr
    exact ih2 hr1
end
end Go.Fw
