/-
Sizes and parts: how data, and values with references, lie in cells; parts read and set. No conditions.
-/
import Derived.Test.YtcoooinjnkeokaaDoorFwC
namespace Go.Fw
set_option linter.unusedVariables false
set_option linter.unusedSimpArgs false
open Go.RowKit

/-! Lists of lists -/

theorem flat_get {α : Type} : ∀ {css : List (List α)} {i : Nat} {cs : List α}, css[i]? = some cs →
    (css.flatten.drop ((css.take i).map List.length).sum).take cs.length = cs ∧ ((css.take i).map List.length).sum + cs.length ≤ css.flatten.length
  | c :: r, 0, cs, h => by
    simp at h; subst h
    simp
  | c :: r, i + 1, cs, h => by
    have ih := flat_get (css := r) (i := i) (cs := cs) (by simpa using h)
    simp only [List.take_succ_cons, List.map_cons, List.sum_cons, List.flatten_cons]
    constructor
    · rw [List.drop_append, List.drop_eq_nil_of_le (Nat.le_add_right _ _), List.nil_append, Nat.add_sub_cancel_left]; exact ih.1
    · rw [List.length_append]; omega
  | [], i, cs, h => by simp at h

theorem flat_set {α : Type} : ∀ {css : List (List α)} {i : Nat} {cs ds : List α}, css[i]? = some cs →
    (css.set i ds).flatten = css.flatten.take ((css.take i).map List.length).sum ++ ds ++ css.flatten.drop (((css.take i).map List.length).sum + cs.length)
  | c :: r, 0, cs, ds, h => by
    simp at h; subst h
    simp
  | c :: r, i + 1, cs, ds, h => by
    have ih := flat_set (css := r) (i := i) (cs := cs) (ds := ds) (by simpa using h)
    simp only [List.set_cons_succ, List.take_succ_cons, List.map_cons, List.sum_cons, List.flatten_cons]
    rw [ih, List.take_append, List.take_of_length_le (Nat.le_add_right _ _), Nat.add_sub_cancel_left, List.drop_append,
      List.drop_eq_nil_of_le (as := c) (by omega),
      show c.length + ((r.take i).map List.length).sum + cs.length - c.length = ((r.take i).map List.length).sum + cs.length from by omega]
    simp only [List.append_assoc, List.nil_append]
  | [], i, cs, ds, h => by simp at h

theorem sum_const {css : List (List Value)} {m : Nat} (h : ∀ cs ∈ css, cs.length = m) : (css.map List.length).sum = css.length * m := by
  induction css with
  | nil => simp
  | cons c r ih =>
    simp only [List.map_cons, List.sum_cons, List.length_cons]
    rw [h c (by simp), ih (fun cs hc => h cs (by simp [hc])), Nat.add_mul]
    omega

theorem len_flat {css : List (List Value)} : css.flatten.length = (css.map List.length).sum := by simp [List.length_flatten]

/-! Shapes -/

theorem Sh.beq_eq : ∀ (a b : Sh), a.beq b = true → a = b := by
  intro a
  refine Sh.rec (motive_1 := fun a => ∀ b, a.beq b = true → a = b) (motive_2 := fun l => ∀ m, Sh.beqs l m = true → l = m) ?_ ?_ ?_ ?_ ?_ a
  · intro b h; cases b <;> simp [Sh.beq] at h; rfl
  · intro n e ih b h
    cases b <;> simp [Sh.beq] at h
    rw [h.1, ih _ h.2]
  · intro l ih b h
    cases b <;> simp [Sh.beq] at h
    rw [ih _ h]
  · intro m h; cases m <;> simp [Sh.beqs] at h; rfl
  · intro x xs ih1 ih2 m h
    cases m <;> simp [Sh.beqs] at h
    rw [ih1 _ h.1, ih2 _ h.2]

theorem D.shs_eq : ∀ l : List D, D.shs l = l.map D.sh
  | [] => rfl
  | x :: r => by simp [D.shs, D.shs_eq r]
theorem V.shs_eq : ∀ l : List V, V.shs l = l.map V.sh
  | [] => rfl
  | x :: r => by simp [V.shs, V.shs_eq r]
theorem Sh.cszs_eq : ∀ l : List Sh, Sh.cszs l = (l.map Sh.csz).sum
  | [] => rfl
  | x :: r => by simp [Sh.cszs, Sh.cszs_eq r]

section
variable {w : World} {own : Nat → Prop}

theorem RC.sh_eq {sh : Sh} {x : D} {cs : List Value} (h : RC w own sh x cs) : x.sh = sh := by
  induction h with
  | st shs xs css hl hs h ih =>
    simp only [D.sh, D.shs_eq]
    congr 1
    apply List.ext_getElem?
    intro i
    rw [List.getElem?_map]
    rcases hx : xs[i]? with _ | x
    · rw [List.getElem?_eq_none_iff] at hx; rw [List.getElem?_eq_none (l := shs) (by omega)]; rfl
    · have hi : i < xs.length := (List.getElem?_eq_some_iff.1 hx).1
      have h1 : shs[i]? = some shs[i] := List.getElem?_eq_getElem (by omega)
      have h2 : css[i]? = some css[i] := List.getElem?_eq_getElem (by omega)
      rw [h1]; simp [ih i _ x _ h1 hx h2]
  | _ => rfl

theorem RC.len {sh : Sh} {x : D} {cs : List Value} (h : RC w own sh x cs) : cs.length = sh.csz := by
  induction h with
  | arr n e xs css hl hn h ih =>
    rw [len_flat, sum_const (m := e.csz), hl, hn]; rfl
    intro cs hcs
    obtain ⟨i, hi, he⟩ := List.getElem_of_mem hcs
    exact ih i xs[i] cs (List.getElem?_eq_getElem (by omega)) (by rw [← he]; exact List.getElem?_eq_getElem hi)
  | st shs xs css hl hs h ih =>
    rw [len_flat]; simp only [Sh.csz, Sh.cszs_eq]
    congr 1
    apply List.ext_getElem?
    intro i
    rw [List.getElem?_map, List.getElem?_map]
    rcases hx : css[i]? with _ | x
    · rw [List.getElem?_eq_none_iff] at hx; rw [List.getElem?_eq_none (l := shs) (by omega)]; rfl
    · have hi : i < css.length := (List.getElem?_eq_some_iff.1 hx).1
      have h1 : shs[i]? = some shs[i] := List.getElem?_eq_getElem (by omega)
      have h2 : xs[i]? = some xs[i] := List.getElem?_eq_getElem (by omega)
      rw [h1]; simp [ih i _ _ x h1 h2 hx]
  | _ => rfl

theorem RC.mono {w' : World} {own' : Nat → Prop} (hk : ∀ a c, w.cell? a = some c → ¬ own a.block → w'.cell? a = some c ∧ ¬ own' a.block)
    {sh : Sh} {x : D} {cs : List Value} (h : RC w own sh x cs) : RC w' own' sh x cs := by
  induction h with
  | int k n => exact .int k n
  | bool b => exact .bool b
  | str l => exact .str l
  | nils => exact .nils
  | nilp => exact .nilp
  | fn f caps css hl h ih => exact .fn f caps css hl ih
  | ro e t xs a cap css hl hc ht h hm ih =>
    refine .ro e t xs a cap css hl hc ht ih ?_
    intro i cs j c h1 h2
    obtain ⟨ad, ha, hce, ho⟩ := hm i cs j c h1 h2
    obtain ⟨h3, h4⟩ := hk _ _ hce (by unfold Addr.add; split <;> exact ho)
    exact ⟨ad, ha, h3, by unfold Addr.add at h4; split at h4 <;> exact h4⟩
  | arr n e xs css hl hn h ih => exact .arr n e xs css hl hn ih
  | st shs xs css hl hs h ih => exact .st shs xs css hl hs ih
end

/-! Own blocks -/

/-- Where the own blocks lie, and which have ever been made. -/
structure M where
  ι : Nat → Option (Nat × Nat)
  born : Nat → Prop
  far : Nat → Prop

def live (H : Heap) (b : Nat) (x : Blk) : Prop := H[b]? = some (some x)

def Own (m : M) (H : Heap) (k : Nat) : Prop := m.far k ∨ ∃ b x cap, live H b x ∧ m.ι b = some (k, cap)

def Blk.ver : Blk → Nat
  | .fix _ => 0
  | .grow v _ _ => v

def Blk.bsh : Blk → Sh
  | .fix v => v.sh
  | .grow _ e xs => .arr xs.length e

/-- A value with references, in cells. -/
inductive RCV (w : World) (m : M) (H : Heap) : Sh → V → List Value → Prop
  | d (sh : Sh) (x : D) (cs : List Value) (h : RC w (Own m H) sh x cs) : RCV w m H sh (.d x) cs
  | st (shs : List Sh) (xs : List V) (css : List (List Value)) (hl : css.length = xs.length) (hs : shs.length = xs.length)
      (h : ∀ (i : Nat) s x cs, shs[i]? = some s → xs[i]? = some x → css[i]? = some cs → RCV w m H s x cs) : RCV w m H (.st shs) (.st xs) css.flatten
  | any (c : Value) (h : c.oneCell' = true) : RCV w m H .one .any [c]
  | ptr (b ver : Nat) (path : List Nat) (sh : Sh) (a : Addr) (hb : m.born b)
      (h : ∀ x, live H b x → ver ≤ x.ver ∧ (ver = x.ver → ∃ k cap o, m.ι b = some (k, cap) ∧ poff x.bsh path = some (o, sh) ∧ a = ⟨k, o, none⟩)) : RCV w m H .one (.ptr b ver path sh) [.pointer (some a)]
  | sl (b off ver : Nat) (c : Value) (ho : c.oneCell' = true) (hb : m.born b)
      (h : ∀ ver' e xs, live H b (.grow ver' e xs) → ver ≤ ver' ∧ (ver = ver' → off ≤ xs.length ∧
        ((m.ι b = none ∧ c = .slice none 0 0) ∨ ∃ k cap a, m.ι b = some (k, cap) ∧ xs.length ≤ cap ∧ c = .slice a (xs.length - off) (cap - off) ∧ (off < cap → a = some ⟨k, off * e.csz, none⟩)))) : RCV w m H .one (.sl b off ver) [c]
  | sub (b off len ver : Nat) (c : Value) (ho : c.oneCell' = true) (hb : m.born b)
      (h : ∀ ver' e xs, live H b (.grow ver' e xs) → ver ≤ ver' ∧ (ver = ver' → off + len ≤ xs.length ∧
        ∃ cap a, c = .slice a len cap ∧ len ≤ cap ∧ (0 < len → ∃ k cap, m.ι b = some (k, cap) ∧ a = some ⟨k, off * e.csz, none⟩))) : RCV w m H .one (.sub b off len ver) [c]
  | sa (b : Nat) (path : List Nat) (off len : Nat) (c : Value) (ho : c.oneCell' = true) (hb : m.born b)
      (h : ∀ v, live H b (.fix v) → ∃ k cap o n e a, m.ι b = some (k, cap) ∧ poff v.sh path = some (o, .arr n e) ∧ off + len ≤ n ∧ c = .slice a len (n - off) ∧ (off < n → a = some ⟨k, o + off * e.csz, none⟩)) : RCV w m H .one (.sa b path off len) [c]
  | parr (b off n ver : Nat) (c : Value) (ho : c.oneCell' = true) (hb : m.born b)
      (h : ∀ ver' e xs, live H b (.grow ver' e xs) → ver ≤ ver' ∧ (ver = ver' → off + n ≤ xs.length ∧
        (0 < n → ∃ k cap, m.ι b = some (k, cap) ∧ c = .pointer (some ⟨k, off * e.csz, none⟩)))) : RCV w m H .one (.parr b off n ver) [c]
  | rop (x : D) (a : Addr) (cs : List Value) (h : RC w (Own m H) x.sh x cs) (hm : ∀ (j : Nat) c, cs[j]? = some c → w.cell? (a.add j) = some c ∧ ¬ Own m H a.block) : RCV w m H .one (.rop x) [.pointer (some a)]

section
variable {w : World} {m : M} {H : Heap}

theorem RCV.sh_eq {sh : Sh} {v : V} {cs : List Value} (h : RCV w m H sh v cs) : v.sh = sh := by
  induction h with
  | d sh x cs h => exact h.sh_eq
  | st shs xs css hl hs h ih =>
    simp only [V.sh, V.shs_eq]
    congr 1
    apply List.ext_getElem?
    intro i
    rw [List.getElem?_map]
    rcases hx : xs[i]? with _ | x
    · rw [List.getElem?_eq_none_iff] at hx; rw [List.getElem?_eq_none (l := shs) (by omega)]; rfl
    · have hi : i < xs.length := (List.getElem?_eq_some_iff.1 hx).1
      have h1 : shs[i]? = some shs[i] := List.getElem?_eq_getElem (by omega)
      have h2 : css[i]? = some css[i] := List.getElem?_eq_getElem (by omega)
      rw [h1]; simp [ih i _ x _ h1 hx h2]
  | _ => rfl

theorem RC.one {own : Nat → Prop} {sh : Sh} {x : D} {cs : List Value} (h : RC w own sh x cs) : ∀ c ∈ cs, c.oneCell' = true := by
  induction h with
  | arr n e xs css hl hn h ih =>
    intro c hc
    obtain ⟨l, hl', hc⟩ := List.mem_flatten.1 hc
    obtain ⟨i, hi, he⟩ := List.getElem_of_mem hl'
    exact ih i (xs[i]'(by omega)) l (List.getElem?_eq_getElem (by omega)) (by rw [← he]; exact List.getElem?_eq_getElem hi) c hc
  | st shs xs css hl hs h ih =>
    intro c hc
    obtain ⟨l, hl', hc⟩ := List.mem_flatten.1 hc
    obtain ⟨i, hi, he⟩ := List.getElem_of_mem hl'
    exact ih i (shs[i]'(by omega)) (xs[i]'(by omega)) l (List.getElem?_eq_getElem (by omega)) (List.getElem?_eq_getElem (by omega)) (by rw [← he]; exact List.getElem?_eq_getElem hi) c hc
  | _ => intro c hc; simp at hc; subst hc; rfl

theorem RCV.one {sh : Sh} {v : V} {cs : List Value} (h : RCV w m H sh v cs) : ∀ c ∈ cs, c.oneCell' = true := by
  induction h with
  | d sh x cs h => exact RC.one h
  | st shs xs css hl hs h ih =>
    intro c hc
    obtain ⟨l, hl', hc⟩ := List.mem_flatten.1 hc
    obtain ⟨i, hi, he⟩ := List.getElem_of_mem hl'
    exact ih i (shs[i]'(by omega)) (xs[i]'(by omega)) l (List.getElem?_eq_getElem (by omega)) (List.getElem?_eq_getElem (by omega)) (by rw [← he]; exact List.getElem?_eq_getElem hi) c hc
  | rop x a cs h hm => intro c hc; simp at hc; subst hc; rfl
  | ptr b ver path sh a hb h => intro c hc; simp at hc; subst hc; rfl
  | _ => intro c hc; simp at hc; subst hc; assumption

theorem RCV.len {sh : Sh} {v : V} {cs : List Value} (h : RCV w m H sh v cs) : cs.length = sh.csz := by
  induction h with
  | d sh x cs h => exact h.len
  | st shs xs css hl hs h ih =>
    rw [len_flat]; simp only [Sh.csz, Sh.cszs_eq]
    congr 1
    apply List.ext_getElem?
    intro i
    rw [List.getElem?_map, List.getElem?_map]
    rcases hx : css[i]? with _ | x
    · rw [List.getElem?_eq_none_iff] at hx; rw [List.getElem?_eq_none (l := shs) (by omega)]; rfl
    · have hi : i < css.length := (List.getElem?_eq_some_iff.1 hx).1
      have h1 : shs[i]? = some shs[i] := List.getElem?_eq_getElem (by omega)
      have h2 : xs[i]? = some xs[i] := List.getElem?_eq_getElem (by omega)
      rw [h1]; simp [ih i _ _ x h1 h2 hx]
  | _ => rfl

/-- How an own block may have changed: its parts, not their sizes; or it is another by its version. -/
inductive BK (m m' : M) (b : Nat) : Blk → Blk → Prop
  | fix (v v' : V) (h : v'.sh = v.sh) (hi : m'.ι b = m.ι b) : BK m m' b (.fix v) (.fix v')
  | grow (ver : Nat) (e : Sh) (xs xs' : List D) (h : xs'.length = xs.length) (hi : m'.ι b = m.ι b) : BK m m' b (.grow ver e xs) (.grow ver e xs')
  | later (ver ver' : Nat) (e e' : Sh) (xs xs' : List D) (h : ver < ver') : BK m m' b (.grow ver e xs) (.grow ver' e' xs')

theorem BK.refl (m : M) (b : Nat) (x : Blk) : BK m m b x x := by
  cases x
  · exact .fix _ _ rfl rfl
  · exact .grow _ _ _ _ rfl rfl

theorem BK.trans {m1 m2 m3 : M} {b : Nat} {x y z : Blk} (h : BK m1 m2 b x y) (h' : BK m2 m3 b y z) : BK m1 m3 b x z := by
  cases h with
  | fix v v' h hi => cases h' with
    | fix _ v'' h2 hi2 => exact .fix _ _ (h2.trans h) (hi2.trans hi)
  | grow ver e xs xs' h hi => cases h' with
    | grow _ _ _ xs'' h2 hi2 => exact .grow _ _ _ _ (h2.trans h) (hi2.trans hi)
    | later _ ver' _ e' _ xs'' h2 => exact .later _ _ _ _ _ _ h2
  | later ver ver' e e' xs xs' h => cases h' with
    | grow _ _ _ xs'' h2 hi2 => exact .later _ _ _ _ _ _ h
    | later _ ver'' _ e' _ xs'' h2 => exact .later _ _ _ _ _ _ (Nat.lt_trans h h2)

/-- What must hold between two states for values to go on reading as they did. -/
structure Keep (w : World) (m : M) (H : Heap) (w' : World) (m' : M) (H' : Heap) : Prop where
  cell : ∀ a c, w.cell? a = some c → ¬ Own m H a.block → w'.cell? a = some c ∧ ¬ Own m' H' a.block
  born : ∀ b, m.born b → m'.born b
  blk : ∀ b, m.born b → ∀ x', live H' b x' → ∃ x, live H b x ∧ BK m m' b x x'
  far : ∀ k, m.far k → m'.far k

theorem Keep.refl (w : World) (m : M) (H : Heap) : Keep w m H w m H :=
  ⟨fun _ _ h1 h2 => ⟨h1, h2⟩, fun _ h => h, fun b _ x hx => ⟨x, hx, BK.refl m b x⟩, fun _ h => h⟩

theorem Keep.trans {w1 w2 : World} {m1 m2 : M} {H1 H2 : Heap} (h : Keep w m H w1 m1 H1) (h' : Keep w1 m1 H1 w2 m2 H2) : Keep w m H w2 m2 H2 := by
  refine ⟨fun a c h1 h2 => ?_, fun b hb => h'.born b (h.born b hb), fun b hb x2 hx2 => ?_, fun k hk => h'.far k (h.far k hk)⟩
  · obtain ⟨h3, h4⟩ := h.cell a c h1 h2; exact h'.cell a c h3 h4
  · obtain ⟨x1, hx1, h1⟩ := h'.blk b (h.born b hb) x2 hx2
    obtain ⟨x0, hx0, h0⟩ := h.blk b hb x1 hx1
    exact ⟨x0, hx0, h0.trans h1⟩

theorem RCV.keep {w' : World} {m' : M} {H' : Heap} (hk : Keep w m H w' m' H') {sh : Sh} {v : V} {cs : List Value} (h : RCV w m H sh v cs) : RCV w' m' H' sh v cs := by
  induction h with
  | d sh x cs h => exact .d sh x cs (h.mono hk.cell)
  | st shs xs css hl hs h ih => exact .st shs xs css hl hs ih
  | any c h => exact .any c h
  | ptr b ver path sh a hb h =>
    refine .ptr b ver path sh a (hk.born b hb) fun x' hx' => ?_
    obtain ⟨x, hx, h1⟩ := hk.blk b hb x' hx'
    have h0 := h x hx
    cases h1 with
    | fix v v' he hi => simp only [Blk.bsh, he, hi, Blk.ver] at h0 ⊢; exact h0
    | grow ver e xs xs' he hi => simp only [Blk.bsh, he, hi, Blk.ver] at h0 ⊢; exact h0
    | later ver ver' e e' xs xs' hlt => simp only [Blk.ver] at h0 ⊢; exact ⟨by omega, fun e => by omega⟩
  | sl b off ver c ho hb h =>
    refine .sl b off ver c ho (hk.born b hb) fun ver' e xs' hx' => ?_
    obtain ⟨x, hx, h1⟩ := hk.blk b hb _ hx'
    cases h1 with
    | grow ver e xs xs' he hi => rw [he, hi]; exact h _ _ _ hx
    | later ver ver' e e' xs xs' hlt => have h0 := h _ _ _ hx; exact ⟨by omega, fun e => by omega⟩
  | sub b off len ver c ho hb h =>
    refine .sub b off len ver c ho (hk.born b hb) fun ver' e xs' hx' => ?_
    obtain ⟨x, hx, h1⟩ := hk.blk b hb _ hx'
    cases h1 with
    | grow ver e xs xs' he hi => rw [he, hi]; exact h _ _ _ hx
    | later ver ver' e e' xs xs' hlt => have h0 := h _ _ _ hx; exact ⟨by omega, fun e => by omega⟩
  | sa b path off len c ho hb h =>
    refine .sa b path off len c ho (hk.born b hb) fun v' hx' => ?_
    obtain ⟨x, hx, h1⟩ := hk.blk b hb _ hx'
    cases h1 with
    | fix v v' he hi => rw [he, hi]; exact h _ hx
  | parr b off n ver c ho hb h =>
    refine .parr b off n ver c ho (hk.born b hb) fun ver' e xs' hx' => ?_
    obtain ⟨x, hx, h1⟩ := hk.blk b hb _ hx'
    cases h1 with
    | grow ver e xs xs' he hi => rw [he, hi]; exact h _ _ _ hx
    | later ver ver' e e' xs xs' hlt => have h0 := h _ _ _ hx; exact ⟨by omega, fun e => by omega⟩
  | rop x a cs h hm =>
    refine .rop x a cs (h.mono hk.cell) fun j c hc => ?_
    obtain ⟨h1, h2⟩ := hm j c hc
    obtain ⟨h3, h4⟩ := hk.cell _ _ h1 (by unfold Addr.add; split <;> exact h2)
    exact ⟨h3, by unfold Addr.add at h4; split at h4 <;> exact h4⟩
end

end Go.Fw
