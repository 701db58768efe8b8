/-
The relation between a state of the abstract machine and the program's own state, and how it lives through new blocks, stores and kills. No conditions.
-/
import Derived.Test.YtcoooinjnkeokaaDoorFwE
import Derived.Laws.CopyRow
namespace Go.Fw
set_option linter.unusedVariables false
set_option linter.unusedSimpArgs false
open Go.RowKit

def Row (w : World) (k : Nat) (cur : Array Value) : Prop := ∃ t, w.heap[k]? = some (.cells cur t (0, 0))

theorem Row.lt {w : World} {k : Nat} {cur : Array Value} (h : Row w k cur) : k < w.heap.size := by
  obtain ⟨t, h⟩ := h
  exact (Array.getElem?_eq_some_iff.1 h).1

theorem Row.cell {w : World} {k : Nat} {cur : Array Value} (h : Row w k cur) (j : Nat) : w.cell? ⟨k, j, none⟩ = cur[j]? := by
  obtain ⟨t, h⟩ := h
  exact cell_of_row w k j cur t (0, 0) h

theorem Row.inj {w : World} {k : Nat} {a b : Array Value} (h : Row w k a) (h' : Row w k b) : a = b := by
  obtain ⟨t, h⟩ := h
  obtain ⟨t', h'⟩ := h'
  rw [h] at h'; cases h'; rfl

/-- An own block lies in memory as it should. -/
inductive BlkOK (w : World) (m : M) (H : Heap) (b : Nat) : Blk → Prop
  | fix (v : V) (k cap : Nat) (cur : Array Value) (hi : m.ι b = some (k, cap)) (hr : Row w k cur) (hv : RCV w m H v.sh v cur.toList) : BlkOK w m H b (.fix v)
  | none (ver : Nat) (e : Sh) (hi : m.ι b = none) : BlkOK w m H b (.grow ver e [])
  | grow (ver : Nat) (e : Sh) (xs : List D) (k cap : Nat) (cur : Array Value) (css : List (List Value)) (hi : m.ι b = some (k, cap)) (hr : Row w k cur) (hs : cur.size = cap * e.csz)
      (hc : xs.length ≤ cap) (hm : cap ≤ maxLen) (hl : css.length = xs.length) (h : ∀ (i : Nat) x cs, xs[i]? = some x → css[i]? = some cs → RC w (Own m H) e x cs)
      (ht : cur.toList.take (xs.length * e.csz) = css.flatten) : BlkOK w m H b (.grow ver e xs)

structure HeapOK (cx : Cx) (B : Nat) (w : World) (m : M) (H : Heap) : Prop where
  blk : ∀ b x, live H b x → BlkOK w m H b x
  inj : ∀ b b' x x' k c c', live H b x → live H b' x' → m.ι b = some (k, c) → m.ι b' = some (k, c') → b = b'
  lo : ∀ b x k c, live H b x → m.ι b = some (k, c) → B ≤ k
  lt : ∀ b, m.born b → b < H.length
  born : ∀ b x, live H b x → m.born b
  glob : GOK cx w (Own m H)
  far : ∀ k, m.far k → k < B
  size : B ≤ w.heap.size

/-- A value of the program's own stands for one of ours. -/
inductive RV (w : World) (m : M) (H : Heap) : V → Value → Prop
  | one (v : V) (cs : List Value) (h : RCV w m H v.sh v cs) : RV w m H v (pack v.sh cs)
  | tup (xs : List V) (cs : List Value) (hl : cs.length = xs.length) (h : ∀ (i : Nat) x c, xs[i]? = some x → cs[i]? = some c → RV w m H x c) : RV w m H (.tup xs) (.tuple cs.toArray)
  | dtup (xs : List D) (cs : List Value) (hl : cs.length = xs.length) (h : ∀ (i : Nat) x c, xs[i]? = some x → cs[i]? = some c → RD1 w (Own m H) x c) : RV w m H (.d (.tup xs)) (.tuple cs.toArray)
  | any (c : Value) : RV w m H .any c

theorem RD1.mono {w w' : World} {own own' : Nat → Prop} (hk : ∀ a c, w.cell? a = some c → ¬ own a.block → w'.cell? a = some c ∧ ¬ own' a.block)
    {x : D} {c : Value} (h : RD1 w own x c) : RD1 w' own' x c := by
  obtain ⟨cells, h1, h2⟩ := h
  exact ⟨cells, h1.mono hk, h2⟩

theorem RV.keep {w w' : World} {m m' : M} {H H' : Heap} (hk : Keep w m H w' m' H') {v : V} {c : Value} (h : RV w m H v c) : RV w' m' H' v c := by
  induction h with
  | one v cs h => exact .one v cs (h.keep hk)
  | tup xs cs hl h ih => exact .tup xs cs hl ih
  | dtup xs cs hl h => exact .dtup xs cs hl fun i x c h1 h2 => (h i x c h1 h2).mono hk.cell
  | any c => exact .any c

theorem live_set {H : Heap} {b : Nat} {x : Option Blk} {b' : Nat} {y : Blk} (h : live (H.set b x) b' y) : (b' = b ∧ x = some y) ∨ (b' ≠ b ∧ live H b' y) := by
  unfold live at h
  rw [List.getElem?_set] at h
  split at h
  · rename_i e
    split at h
    · cases h; exact .inl ⟨e.symm, rfl⟩
    · cases h
  · rename_i e
    exact .inr ⟨fun e' => e e'.symm, h⟩

theorem live_set_self {H : Heap} {b : Nat} {x : Blk} (hb : b < H.length) : live (H.set b (some x)) b x := by
  unfold live; simp [hb]

theorem live_set_ne {H : Heap} {b b' : Nat} {x : Option Blk} {y : Blk} (hne : b' ≠ b) (h : live H b' y) : live (H.set b x) b' y := by
  unfold live at *
  rw [List.getElem?_set, if_neg (fun e => hne e.symm)]; exact h

theorem live_lt {H : Heap} {b : Nat} {x : Blk} (h : live H b x) : b < H.length := (List.getElem?_eq_some_iff.1 h).1

theorem live_inj {H : Heap} {b : Nat} {x y : Blk} (h : live H b x) (h' : live H b y) : x = y := by
  unfold live at *; rw [h] at h'; cases h'; rfl

theorem cell_lt {w : World} {a : Addr} {c : Value} (h : w.cell? a = some c) : a.block < w.heap.size := by
  unfold World.cell? at h
  split at h
  · rename_i e; exact (Array.getElem?_eq_some_iff.1 e).1
  · cases h

theorem GOK.mono {cx : Cx} {w w' : World} {own own' : Nat → Prop} (h : GOK cx w own) (hk : ∀ a c, w.cell? a = some c → ¬ own a.block → w'.cell? a = some c ∧ ¬ own' a.block) (hg : ∀ g x, cx.G g = some x → ¬ own g → ¬ own' g) : GOK cx w' own' := by
  intro g x hgx
  obtain ⟨hB, hp, cells, h1, h2⟩ := h g x hgx
  exact ⟨hg g x hgx hB, hp, cells, h1.mono hk, fun j c hc => (hk _ _ (h2 j c hc) hB).1⟩

theorem GOK.keep {cx : Cx} {w w' : World} {m m' : M} {H H' : Heap} (h : GOK cx w (Own m H)) (hk : Keep w m H w' m' H') : GOK cx w' (Own m' H') := by
  refine h.mono hk.cell fun g x hg hn => ?_
  obtain ⟨_, hpos, cells, h1, h2⟩ := h g x hg
  have hl := h1.len
  have hc := h2 0 (cells[0]'(by omega)) (List.getElem?_eq_getElem (by omega))
  exact (hk.cell _ _ hc hn).2

section
variable {cx : Cx} {B : Nat} {w : World} {m : M} {H : Heap}

theorem BlkOK.keep {w' : World} {m' : M} {H' : Heap} (hk : Keep w m H w' m' H') {b : Nat} {x : Blk} (h : BlkOK w m H b x) (hi : m'.ι b = m.ι b)
    (hr : ∀ k cap cur, m.ι b = some (k, cap) → Row w k cur → Row w' k cur) : BlkOK w' m' H' b x := by
  cases h with
  | fix v k cap cur h1 h2 h3 => exact .fix v k cap cur (hi.trans h1) (hr k cap cur h1 h2) (h3.keep hk)
  | none ver e h1 => exact .none ver e (hi.trans h1)
  | grow ver e xs k cap cur css h1 h2 h3 h4 h5 h6 h7 h8 =>
    exact .grow ver e xs k cap cur css (hi.trans h1) (hr k cap cur h1 h2) h3 h4 h5 h6 (fun i x cs a b => (h7 i x cs a b).mono hk.cell) h8

theorem cell_alloc {a : Addr} {c : Value} {o : Obj} (h : w.cell? a = some c) : (w.alloc o).cell? a = some c := by
  rw [World.cell?_alloc_lt w o a (cell_lt h)]; exact h

/-- The map of own blocks with one more. -/
def M.add (m : M) (b k cap : Nat) : M := ⟨fun i => if i = b then some (k, cap) else m.ι i, fun i => i = b ∨ m.born i, m.far⟩

theorem keep_new {b : Nat} {x : Blk} {o : Obj} (hb : ¬ m.born b) (cap : Nat) : Keep w m H (w.alloc o) (m.add b w.heap.size cap) (H.set b (some x)) := by
  refine ⟨fun a c h1 h2 => ⟨cell_alloc h1, ?_⟩, fun i hi => .inr hi, fun i hi y hy => ?_, fun _ h => h⟩
  · rintro (hfar | ⟨i, y, cp, hl, hi⟩)
    · exact h2 (.inl hfar)
    have hne : i ≠ b := by
      rintro rfl
      simp only [M.add, if_true, Option.some.injEq, Prod.mk.injEq] at hi
      have := cell_lt h1
      omega
    rcases live_set hl with ⟨e, _⟩ | ⟨_, hl⟩
    · exact hne e
    · simp only [M.add, if_neg hne] at hi
      exact h2 (.inr ⟨i, y, cp, hl, hi⟩)
  · have hne : i ≠ b := by rintro rfl; exact hb hi
    rcases live_set hy with ⟨e, _⟩ | ⟨_, hl⟩
    · exact absurd e hne
    · refine ⟨y, hl, ?_⟩
      have hi : (m.add b w.heap.size cap).ι i = m.ι i := by simp [M.add, hne]
      cases y
      · exact .fix _ _ rfl hi
      · exact .grow _ _ _ _ rfl hi

theorem row_alloc {k : Nat} {cur : Array Value} {o : Obj} (h : Row w k cur) : Row (w.alloc o) k cur := by
  obtain ⟨t, ht⟩ := h
  exact ⟨t, by rw [Below.heap_alloc w o k (Array.getElem?_eq_some_iff.1 ht).1]; exact ht⟩

theorem heap_new (h : HeapOK cx B w m H) {b : Nat} {x : Blk} {o : Obj} {cap : Nat} (hb : ¬ m.born b) (hlt : b < H.length)
    (hx : BlkOK (w.alloc o) (m.add b w.heap.size cap) (H.set b (some x)) b x) : HeapOK cx B (w.alloc o) (m.add b w.heap.size cap) (H.set b (some x)) := by
  have hk : Keep w m H (w.alloc o) (m.add b w.heap.size cap) (H.set b (some x)) := keep_new hb cap
  have hlts : ∀ i y k c, live H i y → m.ι i = some (k, c) → k < w.heap.size := by
    intro i y k c hl hi
    cases h.blk i y hl with
    | fix v k' cap' cur h1 h2 h3 => rw [hi] at h1; cases h1; exact h2.lt
    | none ver e h1 => rw [hi] at h1; cases h1
    | grow ver e xs k' cap' cur css h1 h2 => rw [hi] at h1; cases h1; exact h2.lt
  refine ⟨fun i y hy => ?_, fun i i' y y' k c c' hy hy' hi hi' => ?_, fun i y k c hy hi => ?_, fun i hi => ?_, fun i y hy => ?_, h.glob.keep hk, h.far, ?_⟩
  · rcases live_set hy with ⟨rfl, e⟩ | ⟨hne, hl⟩
    · cases e; exact hx
    · exact (h.blk i y hl).keep hk (by simp [M.add, hne]) fun k cap cur _ hr => row_alloc hr
  · rcases live_set hy with ⟨e1, _⟩ | ⟨n1, l1⟩ <;> rcases live_set hy' with ⟨e2, _⟩ | ⟨n2, l2⟩
    · exact e1.trans e2.symm
    · simp only [M.add, e1, if_true, Option.some.injEq, Prod.mk.injEq, if_neg n2] at hi hi'
      have := hlts _ _ _ _ l2 hi'; omega
    · simp only [M.add, e2, if_true, Option.some.injEq, Prod.mk.injEq, if_neg n1] at hi hi'
      have := hlts _ _ _ _ l1 hi; omega
    · simp only [M.add, if_neg n1, if_neg n2] at hi hi'
      exact h.inj i i' y y' k c c' l1 l2 hi hi'
  · rcases live_set hy with ⟨e1, _⟩ | ⟨n1, l1⟩
    · simp only [M.add, e1, if_true, Option.some.injEq, Prod.mk.injEq] at hi
      have := h.size; omega
    · simp only [M.add, if_neg n1] at hi
      exact h.lo i y k c l1 hi
  · rw [List.length_set]
    rcases hi with rfl | hi
    · exact hlt
    · exact h.lt i hi
  · rcases live_set hy with ⟨e1, _⟩ | ⟨n1, l1⟩
    · exact .inl e1
    · exact .inr (h.born i y l1)
  · have := h.size; simp; omega

/-- A growing block moves to a new place. -/
theorem keep_re {b ver ver' : Nat} {e e' : Sh} {xs xs' : List D} {o : Obj} (hl : live H b (.grow ver e xs)) (hv : ver < ver') (cap : Nat) : Keep w m H (w.alloc o) (m.add b w.heap.size cap) (H.set b (some (.grow ver' e' xs'))) := by
  refine ⟨fun a c h1 h2 => ⟨cell_alloc h1, ?_⟩, fun i hi => .inr hi, fun i hi y hy => ?_, fun _ h => h⟩
  · rintro (hfar | ⟨i, y, cp, hl', hi⟩)
    · exact h2 (.inl hfar)
    have hne : i ≠ b := by
      rintro rfl
      simp only [M.add, if_true, Option.some.injEq, Prod.mk.injEq] at hi
      have := cell_lt h1
      omega
    rcases live_set hl' with ⟨e, _⟩ | ⟨_, hl'⟩
    · exact hne e
    · simp only [M.add, if_neg hne] at hi
      exact h2 (.inr ⟨i, y, cp, hl', hi⟩)
  · rcases live_set hy with ⟨rfl, e⟩ | ⟨hne, hl'⟩
    · cases e; exact ⟨_, hl, .later _ _ _ _ _ _ hv⟩
    · refine ⟨y, hl', ?_⟩
      have hi : (m.add b w.heap.size cap).ι i = m.ι i := by simp [M.add, hne]
      cases y
      · exact .fix _ _ rfl hi
      · exact .grow _ _ _ _ rfl hi

theorem heap_lts (h : HeapOK cx B w m H) : ∀ i y k c, live H i y → m.ι i = some (k, c) → k < w.heap.size := by
  intro i y k c hl hi
  cases h.blk i y hl with
  | fix v k' cap' cur h1 h2 h3 => rw [hi] at h1; cases h1; exact h2.lt
  | none ver e h1 => rw [hi] at h1; cases h1
  | grow ver e xs k' cap' cur css h1 h2 => rw [hi] at h1; cases h1; exact h2.lt

theorem heap_re (h : HeapOK cx B w m H) {b ver ver' : Nat} {e e' : Sh} {xs xs' : List D} {o : Obj} {cap : Nat} (hlb : live H b (.grow ver e xs)) (hv : ver < ver')
    (hx : BlkOK (w.alloc o) (m.add b w.heap.size cap) (H.set b (some (.grow ver' e' xs'))) b (.grow ver' e' xs')) : HeapOK cx B (w.alloc o) (m.add b w.heap.size cap) (H.set b (some (.grow ver' e' xs'))) := by
  have hk : Keep w m H (w.alloc o) (m.add b w.heap.size cap) (H.set b (some (.grow ver' e' xs'))) := keep_re hlb hv cap
  have hlts := heap_lts h
  refine ⟨fun i y hy => ?_, fun i i' y y' k c c' hy hy' hi hi' => ?_, fun i y k c hy hi => ?_, fun i hi => ?_, fun i y hy => ?_, h.glob.keep hk, h.far, ?_⟩
  · rcases live_set hy with ⟨rfl, e⟩ | ⟨hne, hl⟩
    · cases e; exact hx
    · exact (h.blk i y hl).keep hk (by simp [M.add, hne]) fun k cap cur _ hr => row_alloc hr
  · rcases live_set hy with ⟨e1, _⟩ | ⟨n1, l1⟩ <;> rcases live_set hy' with ⟨e2, _⟩ | ⟨n2, l2⟩
    · exact e1.trans e2.symm
    · simp only [M.add, e1, if_true, Option.some.injEq, Prod.mk.injEq, if_neg n2] at hi hi'
      have := hlts _ _ _ _ l2 hi'; omega
    · simp only [M.add, e2, if_true, Option.some.injEq, Prod.mk.injEq, if_neg n1] at hi hi'
      have := hlts _ _ _ _ l1 hi; omega
    · simp only [M.add, if_neg n1, if_neg n2] at hi hi'
      exact h.inj i i' y y' k c c' l1 l2 hi hi'
  · rcases live_set hy with ⟨e1, _⟩ | ⟨n1, l1⟩
    · simp only [M.add, e1, if_true, Option.some.injEq, Prod.mk.injEq] at hi
      have := h.size; omega
    · simp only [M.add, if_neg n1] at hi
      exact h.lo i y k c l1 hi
  · rw [List.length_set]
    rcases hi with rfl | hi
    · exact live_lt hlb
    · exact h.lt i hi
  · rcases live_set hy with ⟨e1, _⟩ | ⟨n1, l1⟩
    · exact .inl e1
    · exact .inr (h.born i y l1)
  · have := h.size; simp; omega

/-- A growing block that has no place yet keeps having none. -/
theorem keep_none {b ver ver' : Nat} {e e' : Sh} {xs xs' : List D} (hl : live H b (.grow ver e xs)) (hv : ver < ver') : Keep w m H w m (H.set b (some (.grow ver' e' xs'))) := by
  refine ⟨fun a c h1 h2 => ⟨h1, ?_⟩, fun i hi => hi, fun i hi y hy => ?_, fun _ h => h⟩
  · rintro (hfar | ⟨i, y, cp, hl', hi⟩)
    · exact h2 (.inl hfar)
    rcases live_set hl' with ⟨rfl, _⟩ | ⟨_, hl'⟩
    · exact h2 (.inr ⟨_, _, cp, hl, hi⟩)
    · exact h2 (.inr ⟨i, y, cp, hl', hi⟩)
  · rcases live_set hy with ⟨rfl, e⟩ | ⟨hne, hl'⟩
    · cases e; exact ⟨_, hl, .later _ _ _ _ _ _ hv⟩
    · exact ⟨y, hl', BK.refl m i y⟩

theorem heap_none (h : HeapOK cx B w m H) {b ver ver' : Nat} {e e' : Sh} {xs : List D} (hlb : live H b (.grow ver e xs)) (hv : ver < ver') (hi : m.ι b = none) : HeapOK cx B w m (H.set b (some (.grow ver' e' []))) := by
  have hk : Keep w m H w m (H.set b (some (.grow ver' e' []))) := keep_none hlb hv
  have back : ∀ {i y}, live (H.set b (some (.grow ver' e' []))) i y → ∃ y', live H i y' := fun hy => by
    rcases live_set hy with ⟨rfl, _⟩ | ⟨_, l⟩
    · exact ⟨_, hlb⟩
    · exact ⟨_, l⟩
  refine ⟨fun i y hy => ?_, fun i i' y y' k c c' a b' => ?_, fun i y k c a => ?_, fun i hi => by rw [List.length_set]; exact h.lt i hi, fun i y a => ?_, h.glob.keep hk, h.far, h.size⟩
  · rcases live_set hy with ⟨rfl, e⟩ | ⟨hne, hl⟩
    · cases e; exact .none _ _ hi
    · exact (h.blk i y hl).keep hk rfl fun _ _ _ _ hr => hr
  · obtain ⟨y1, l1⟩ := back a
    obtain ⟨y2, l2⟩ := back b'
    exact h.inj i i' y1 y2 k c c' l1 l2
  · obtain ⟨y1, l1⟩ := back a
    exact h.lo i y1 k c l1
  · obtain ⟨y1, l1⟩ := back a
    exact h.born i y1 l1

/-- A new slice that is nil still. -/
def M.addNone (m : M) (b : Nat) : M := ⟨fun i => if i = b then none else m.ι i, fun i => i = b ∨ m.born i, m.far⟩

theorem keep_newNone {b : Nat} {x : Blk} (hb : ¬ m.born b) : Keep w m H w (m.addNone b) (H.set b (some x)) := by
  refine ⟨fun a c h1 h2 => ⟨h1, ?_⟩, fun i hi => .inr hi, fun i hi y hy => ?_, fun _ h => h⟩
  · rintro (hfar | ⟨i, y, cp, hl, hi⟩)
    · exact h2 (.inl hfar)
    have hne : i ≠ b := by
      rintro rfl
      simp [M.addNone] at hi
    rcases live_set hl with ⟨e, _⟩ | ⟨_, hl⟩
    · exact hne e
    · simp only [M.addNone, if_neg hne] at hi
      exact h2 (.inr ⟨i, y, cp, hl, hi⟩)
  · have hne : i ≠ b := by rintro rfl; exact hb hi
    rcases live_set hy with ⟨e, _⟩ | ⟨_, hl⟩
    · exact absurd e hne
    · refine ⟨y, hl, ?_⟩
      have hi : (m.addNone b).ι i = m.ι i := by simp [M.addNone, hne]
      cases y
      · exact .fix _ _ rfl hi
      · exact .grow _ _ _ _ rfl hi

theorem heap_newNone (h : HeapOK cx B w m H) {b ver : Nat} {e : Sh} (hb : ¬ m.born b) (hlt : b < H.length) : HeapOK cx B w (m.addNone b) (H.set b (some (.grow ver e []))) := by
  have hk : Keep w m H w (m.addNone b) (H.set b (some (.grow ver e []))) := keep_newNone hb
  refine ⟨fun i y hy => ?_, fun i i' y y' k c c' hy hy' hi hi' => ?_, fun i y k c hy hi => ?_, fun i hi => ?_, fun i y hy => ?_, h.glob.keep hk, h.far, h.size⟩
  · rcases live_set hy with ⟨rfl, e⟩ | ⟨hne, hl⟩
    · cases e; exact .none _ _ (by simp [M.addNone])
    · exact (h.blk i y hl).keep hk (by simp [M.addNone, hne]) fun _ _ _ _ hr => hr
  · rcases live_set hy with ⟨e1, _⟩ | ⟨n1, l1⟩
    · simp [M.addNone, e1] at hi
    · rcases live_set hy' with ⟨e2, _⟩ | ⟨n2, l2⟩
      · simp [M.addNone, e2] at hi'
      · simp only [M.addNone, if_neg n1, if_neg n2] at hi hi'
        exact h.inj i i' y y' k c c' l1 l2 hi hi'
  · rcases live_set hy with ⟨e1, _⟩ | ⟨n1, l1⟩
    · simp [M.addNone, e1] at hi
    · simp only [M.addNone, if_neg n1] at hi
      exact h.lo i y k c l1 hi
  · rw [List.length_set]
    rcases hi with rfl | hi
    · exact hlt
    · exact h.lt i hi
  · rcases live_set hy with ⟨e1, _⟩ | ⟨n1, l1⟩
    · exact .inl e1
    · exact .inr (h.born i y l1)

/-- One live block gets another content, in the same place. -/
theorem keep_set {b k cap : Nat} {x x' : Blk} {cur' : Array Value} (hl : live H b x) (hi : m.ι b = some (k, cap)) (hbk : BK m m b x x') : Keep w m H (w.setRow k cur') m (H.set b (some x')) := by
  refine ⟨fun a c h1 h2 => ⟨?_, ?_⟩, fun i hi => hi, fun i hi' y hy => ?_, fun _ h => h⟩
  · rw [cell_setRow_other w k cur' a (fun e => h2 (.inr ⟨b, x, cap, hl, by rw [e]; exact hi⟩))]; exact h1
  · rintro (hfar | ⟨i, y, cp, hl', hi'⟩)
    · exact h2 (.inl hfar)
    rcases live_set hl' with ⟨e, _⟩ | ⟨_, hl'⟩
    · subst e; exact h2 (.inr ⟨i, x, cp, hl, hi'⟩)
    · exact h2 (.inr ⟨i, y, cp, hl', hi'⟩)
  · rcases live_set hy with ⟨e, e'⟩ | ⟨_, hl'⟩
    · subst e; cases e'; exact ⟨x, hl, hbk⟩
    · exact ⟨y, hl', BK.refl m i y⟩

theorem row_setRow {k k' : Nat} {cur cur' : Array Value} (hne : k' ≠ k) (h : Row w k' cur) : Row (w.setRow k cur') k' cur := by
  obtain ⟨t, h⟩ := h
  exact ⟨t, by rw [setRow_other w k k' cur' hne]; exact h⟩

theorem row_setRow_self {k : Nat} {cur cur' : Array Value} (h : Row w k cur) : Row (w.setRow k cur') k cur' := by
  obtain ⟨t, h⟩ := h
  exact ⟨t, setRow_heap w k cur cur' t (0, 0) h⟩

theorem heap_set (h : HeapOK cx B w m H) {b k cap : Nat} {x x' : Blk} {cur' : Array Value} (hl : live H b x) (hib : m.ι b = some (k, cap)) (hbk : BK m m b x x')
    (hx : BlkOK (w.setRow k cur') m (H.set b (some x')) b x') : HeapOK cx B (w.setRow k cur') m (H.set b (some x')) := by
  have hk : Keep w m H (w.setRow k cur') m (H.set b (some x')) := keep_set hl hib hbk
  have hB := h.lo b x k cap hl hib
  refine ⟨fun i y hy => ?_, fun i i' y y' k c c' hy hy' hi hi' => ?_, fun i y k c hy hi => ?_, fun i hi => ?_, fun i y hy => ?_, h.glob.keep hk, h.far, ?_⟩
  · rcases live_set hy with ⟨rfl, e⟩ | ⟨hne, hl'⟩
    · cases e; exact hx
    · refine (h.blk i y hl').keep hk rfl fun k' cap' cur hi' hr => row_setRow (fun e => hne ?_) hr
      subst e
      exact h.inj i b y x k' cap' cap hl' hl hi' hib
  · have l1 : ∃ y, live H i y := by
      rcases live_set hy with ⟨rfl, _⟩ | ⟨_, l⟩
      · exact ⟨x, hl⟩
      · exact ⟨y, l⟩
    have l2 : ∃ y, live H i' y := by
      rcases live_set hy' with ⟨rfl, _⟩ | ⟨_, l⟩
      · exact ⟨x, hl⟩
      · exact ⟨y', l⟩
    obtain ⟨y1, l1⟩ := l1
    obtain ⟨y2, l2⟩ := l2
    exact h.inj i i' y1 y2 k c c' l1 l2 hi hi'
  · rcases live_set hy with ⟨rfl, _⟩ | ⟨_, l⟩
    · exact h.lo _ x k c hl hi
    · exact h.lo i y k c l hi
  · rw [List.length_set]; exact h.lt i hi
  · rcases live_set hy with ⟨rfl, _⟩ | ⟨_, l⟩
    · exact h.born i x hl
    · exact h.born i y l
  · rw [size_setRow]; exact h.size

/-- A block is given up. -/
theorem keep_kill {b : Nat} : Keep w m H w m (H.set b none) := by
  refine ⟨fun a c h1 h2 => ⟨h1, ?_⟩, fun i hi => hi, fun i hi y hy => ?_, fun _ h => h⟩
  · rintro (hfar | ⟨i, y, cp, hl, hi⟩)
    · exact h2 (.inl hfar)
    rcases live_set hl with ⟨_, e⟩ | ⟨_, hl⟩
    · cases e
    · exact h2 (.inr ⟨i, y, cp, hl, hi⟩)
  · rcases live_set hy with ⟨_, e⟩ | ⟨_, hl⟩
    · cases e
    · exact ⟨y, hl, BK.refl m i y⟩

theorem heap_kill (h : HeapOK cx B w m H) {b : Nat} : HeapOK cx B w m (H.set b none) := by
  have hl : ∀ {i y}, live (H.set b none) i y → live H i y := fun hy => by
    rcases live_set hy with ⟨_, e⟩ | ⟨_, hl⟩
    · cases e
    · exact hl
  have hk : Keep w m H w m (H.set b none) := keep_kill
  exact ⟨fun i y hy => (h.blk i y (hl hy)).keep keep_kill rfl fun _ _ _ _ hr => hr, fun i i' y y' k c c' a b' => h.inj i i' y y' k c c' (hl a) (hl b'),
    fun i y k c a => h.lo i y k c (hl a), fun i hi => by rw [List.length_set]; exact h.lt i hi, fun i y a => h.born i y (hl a), h.glob.keep hk, h.far, h.size⟩

/-- An array's block becomes a growing one. -/
theorem keep_move {b slot kk cap n : Nat} {x x' : Blk} (hb : ¬ m.born slot) (hl : live H b x) (hi : m.ι b = some (kk, cap)) : Keep w m H w (m.add slot kk n) ((H.set slot (some x')).set b none) := by
  refine ⟨fun a c h1 h2 => ⟨h1, ?_⟩, fun i hi => .inr hi, fun i hib y hy => ?_, fun _ h => h⟩
  · rintro (hfar | ⟨i, y, cp, hl', hi'⟩)
    · exact h2 (.inl hfar)
    rcases live_set hl' with ⟨_, e⟩ | ⟨hne, hl'⟩
    · cases e
    · rcases live_set hl' with ⟨rfl, _⟩ | ⟨hne', hl'⟩
      · simp only [M.add, if_true, Option.some.injEq, Prod.mk.injEq] at hi'
        exact h2 (.inr ⟨b, x, cap, hl, by rw [← hi'.1]; exact hi⟩)
      · simp only [M.add, if_neg hne'] at hi'
        exact h2 (.inr ⟨i, y, cp, hl', hi'⟩)
  · have hne : i ≠ slot := by rintro rfl; exact hb hib
    rcases live_set hy with ⟨_, e⟩ | ⟨_, hl'⟩
    · cases e
    · rcases live_set hl' with ⟨e, _⟩ | ⟨_, hl'⟩
      · exact absurd e hne
      · refine ⟨y, hl', ?_⟩
        have hi' : (m.add slot kk n).ι i = m.ι i := by simp [M.add, hne]
        cases y
        · exact .fix _ _ rfl hi'
        · exact .grow _ _ _ _ rfl hi'

theorem heap_move (h : HeapOK cx B w m H) {b slot kk cap n : Nat} {x x' : Blk} (hb : ¬ m.born slot) (hlt : slot < H.length) (hl : live H b x) (hib : m.ι b = some (kk, cap))
    (hx : BlkOK w (m.add slot kk n) ((H.set slot (some x')).set b none) slot x') : HeapOK cx B w (m.add slot kk n) ((H.set slot (some x')).set b none) := by
  have hk : Keep w m H w (m.add slot kk n) ((H.set slot (some x')).set b none) := keep_move hb hl hib
  have hB := h.lo b x kk cap hl hib
  have back : ∀ {i y}, live ((H.set slot (some x')).set b none) i y → i ≠ b ∧ ((i = slot ∧ y = x') ∨ (i ≠ slot ∧ live H i y)) := fun hy => by
    rcases live_set hy with ⟨_, e⟩ | ⟨hne, hl⟩
    · cases e
    · refine ⟨hne, ?_⟩
      rcases live_set hl with ⟨e1, e2⟩ | ⟨n1, l1⟩
      · cases e2; exact .inl ⟨e1, rfl⟩
      · exact .inr ⟨n1, l1⟩
  refine ⟨fun i y hy => ?_, fun i i' y y' k c c' hy hy' hi hi' => ?_, fun i y k c hy hi => ?_, fun i hi => ?_, fun i y hy => ?_, h.glob.keep hk, h.far, h.size⟩
  · obtain ⟨hne, ⟨rfl, rfl⟩ | ⟨n1, l1⟩⟩ := back hy
    · exact hx
    · exact (h.blk i y l1).keep hk (by simp [M.add, n1]) fun _ _ _ _ hr => hr
  · obtain ⟨hne, o1⟩ := back hy
    obtain ⟨hne', o2⟩ := back hy'
    rcases o1 with ⟨e1, _⟩ | ⟨n1, l1⟩ <;> rcases o2 with ⟨e2, _⟩ | ⟨n2, l2⟩
    · exact e1.trans e2.symm
    · simp only [M.add, e1, if_true, Option.some.injEq, Prod.mk.injEq, if_neg n2] at hi hi'
      rw [← hi.1] at hi'
      exact absurd (h.inj i' b y' x kk c' cap l2 hl hi' hib) hne'
    · simp only [M.add, e2, if_true, Option.some.injEq, Prod.mk.injEq, if_neg n1] at hi hi'
      rw [← hi'.1] at hi
      exact absurd (h.inj i b y x kk c cap l1 hl hi hib) hne
    · simp only [M.add, if_neg n1, if_neg n2] at hi hi'
      exact h.inj i i' y y' k c c' l1 l2 hi hi'
  · obtain ⟨hne, ⟨rfl, rfl⟩ | ⟨n1, l1⟩⟩ := back hy
    · simp only [M.add, if_true, Option.some.injEq, Prod.mk.injEq] at hi
      omega
    · simp only [M.add, if_neg n1] at hi
      exact h.lo i y k c l1 hi
  · rw [List.length_set, List.length_set]
    rcases hi with rfl | hi
    · exact hlt
    · exact h.lt i hi
  · obtain ⟨hne, ⟨rfl, rfl⟩ | ⟨n1, l1⟩⟩ := back hy
    · exact .inl rfl
    · exact .inr (h.born i y l1)

/-- Dead places behind the heap. -/
theorem live_more {n b : Nat} {x : Blk} (h : live (H ++ List.replicate n none) b x) : live H b x := by
  unfold live at *
  rw [List.getElem?_append] at h
  split at h
  · exact h
  · rw [List.getElem?_replicate] at h
    split at h <;> cases h

theorem live_more' {n b : Nat} {x : Blk} (h : live H b x) : live (H ++ List.replicate n none) b x := by
  unfold live at *
  rw [List.getElem?_append_left (List.getElem?_eq_some_iff.1 h).1]; exact h

theorem own_more {n k : Nat} : Own m (H ++ List.replicate n none) k ↔ Own m H k :=
  ⟨fun h => h.imp id fun ⟨b, x, c, h1, h2⟩ => ⟨b, x, c, live_more h1, h2⟩, fun h => h.imp id fun ⟨b, x, c, h1, h2⟩ => ⟨b, x, c, live_more' h1, h2⟩⟩

theorem keep_more (n : Nat) : Keep w m H w m (H ++ List.replicate n none) :=
  ⟨fun _ _ h1 h2 => ⟨h1, fun h => h2 (own_more.1 h)⟩, fun _ h => h, fun b _ x hx => ⟨x, live_more hx, BK.refl m b x⟩, fun _ h => h⟩

theorem heap_more (h : HeapOK cx B w m H) (n : Nat) : HeapOK cx B w m (H ++ List.replicate n none) :=
  have hk : Keep w m H w m (H ++ List.replicate n none) := keep_more n
  ⟨fun i y hy => (h.blk i y (live_more hy)).keep (keep_more n) rfl fun _ _ _ _ hr => hr, fun i i' y y' k c c' a b' => h.inj i i' y y' k c c' (live_more a) (live_more b'),
    fun i y k c a => h.lo i y k c (live_more a), fun i hi => by rw [List.length_append]; have := h.lt i hi; omega, fun i y a => h.born i y (live_more a), h.glob.keep hk, h.far, h.size⟩

/-- A draw changes nothing. -/
theorem keep_world {w' : World} (hh : w'.heap = w.heap) : Keep w m H w' m H :=
  ⟨fun a c h1 h2 => ⟨by unfold World.cell? at *; rw [hh]; exact h1, h2⟩, fun _ h => h, fun b _ x hx => ⟨x, hx, BK.refl m b x⟩, fun _ h => h⟩

theorem heap_world (h : HeapOK cx B w m H) {w' : World} (hh : w'.heap = w.heap) : HeapOK cx B w' m H :=
  ⟨fun i y hy => (h.blk i y hy).keep (keep_world hh) rfl fun _ _ _ _ ⟨t, hr⟩ => ⟨t, by rw [hh]; exact hr⟩, h.inj, h.lo, h.lt, h.born,
    h.glob.keep (keep_world hh), h.far, by rw [hh]; exact h.size⟩
end

end Go.Fw
