/-
New blocks: variables, boxes, built structs, arrays and slices, made slices. No conditions.
-/
import Derived.Test.YtcoooinjnkeokaaDoorFwL
import Derived.Laws.MakeOwn
namespace Go.Fw
set_option linter.unusedVariables false
set_option linter.unusedSimpArgs false
open Go.RowKit

section
variable {cx : Cx} {B : Nat} {w : World} {m : M} {H : Heap} {rd : Nat → Option Blk}

theorem below_alloc (hB : B ≤ w.heap.size) (o : Obj) : Below B w (w.alloc o) := (Below.refl B w).alloc hB o

/-- A new variable. -/
theorem newfix (hh : HeapOK cx B w m H) {slot : Nat} (hb : ¬ m.born slot) (hlt : slot < H.length) {v : V} {cs : List Value} (hv : RCV w m H v.sh v cs) (t : TypeId) :
    Keep w m H (w.alloc (.cells cs.toArray t)) (m.add slot w.heap.size 0) (H.set slot (some (.fix v))) ∧ HeapOK cx B (w.alloc (.cells cs.toArray t)) (m.add slot w.heap.size 0) (H.set slot (some (.fix v))) ∧
      RV (w.alloc (.cells cs.toArray t)) (m.add slot w.heap.size 0) (H.set slot (some (.fix v))) (.ptr slot 0 [] v.sh) (.pointer (some ⟨w.heap.size, 0, none⟩)) ∧ Below B w (w.alloc (.cells cs.toArray t)) ∧
      (∀ b, (m.add slot w.heap.size 0).born b → m.born b ∨ b = slot) := by
  have hk : Keep w m H (w.alloc (.cells cs.toArray t)) (m.add slot w.heap.size 0) (H.set slot (some (.fix v))) := keep_new hb 0
  have hrow : Row (w.alloc (.cells cs.toArray t)) w.heap.size cs.toArray := ⟨t, heap_alloc_new w _⟩
  refine ⟨hk, heap_new hh hb hlt (.fix v w.heap.size 0 cs.toArray (by simp [M.add]) hrow (by simpa using hv.keep hk)), ?_, below_alloc hh.size _, fun b h => h.symm⟩
  refine .one_cell (.ptr slot 0 [] v.sh _ (.inl rfl) fun x hx => ?_) rfl
  have := live_inj (live_set_self hlt) hx
  subst this
  exact ⟨Nat.le_refl _, fun _ => ⟨w.heap.size, 0, 0, by simp [M.add], by simp [poff, Blk.bsh], rfl⟩⟩

/-- A new slice, its cells in a block of its own. -/
theorem newgrow (hh : HeapOK cx B w m H) {slot : Nat} (hb : ¬ m.born slot) (hlt : slot < H.length) {e : Sh} {xs : List D} {css : List (List Value)} {cur : Array Value} {cap : Nat} (hl : css.length = xs.length)
    (h : ∀ (i : Nat) x cs, xs[i]? = some x → css[i]? = some cs → RC w (Own m H) e x cs) (hs : cur.size = cap * e.csz) (hc : xs.length ≤ cap) (hm : cap ≤ maxLen) (ht : cur.toList.take (xs.length * e.csz) = css.flatten)
    {wd : World} (hw : wd.heap = w.heap) (hbw : Below B w wd) (t : TypeId) :
    Keep w m H (wd.alloc (.cells cur t)) (m.add slot w.heap.size cap) (H.set slot (some (.grow 0 e xs))) ∧ HeapOK cx B (wd.alloc (.cells cur t)) (m.add slot w.heap.size cap) (H.set slot (some (.grow 0 e xs))) ∧
      RV (wd.alloc (.cells cur t)) (m.add slot w.heap.size cap) (H.set slot (some (.grow 0 e xs))) (.sl slot 0 0) (.slice (some ⟨w.heap.size, 0, none⟩) xs.length cap) ∧ Below B w (wd.alloc (.cells cur t)) ∧
      (∀ b, (m.add slot w.heap.size cap).born b → m.born b ∨ b = slot) := by
  have hkd : Keep w m H wd m H := keep_world hw
  have hhd := heap_world hh hw
  have hsz : wd.heap.size = w.heap.size := by rw [hw]
  have hk0 : Keep wd m H (wd.alloc (.cells cur t)) (m.add slot wd.heap.size cap) (H.set slot (some (.grow 0 e xs))) := keep_new hb cap
  have hrow : Row (wd.alloc (.cells cur t)) wd.heap.size cur := ⟨t, heap_alloc_new wd _⟩
  have hk := hkd.trans hk0
  have hn := heap_new (o := .cells cur t) (x := .grow 0 e xs) (cap := cap) hhd hb hlt (.grow 0 e xs wd.heap.size cap cur css (by simp [M.add]) hrow hs hc hm hl (fun i x cs a b => (h i x cs a b).mono hk.cell) ht)
  rw [hsz] at hk hn
  refine ⟨hk, hn, ?_, hbw.trans (below_alloc hhd.size _), fun b h => h.symm⟩
  refine .one_cell (.sl slot 0 0 _ rfl (.inl rfl) fun ver' e' xs' hx => ?_) rfl
  have := live_inj (live_set_self hlt) hx
  cases this
  exact ⟨Nat.le_refl _, fun _ => ⟨Nat.zero_le _, .inr ⟨w.heap.size, cap, _, by simp [M.add], hc, rfl, fun _ => by simp⟩⟩⟩

theorem run_newVar {t : TypeId} {sh : Sh} {cs : List Value} (hl : cs.length = sh.csz) (h1 : ∀ c ∈ cs, c.oneCell' = true) :
    (newVar t (pack sh cs)).run cx.P w = .ok ⟨w.heap.size, 0, none⟩ (w.alloc (.cells cs.toArray t)) := by
  unfold newVar newRow newObj
  rw [pack_cells hl h1]
  rfl

theorem alloc_sound (hx : CxOK cx) (hh : HeapOK cx B w m H) {slot : Nat} (hb : ¬ m.born slot) (hlt : slot < H.length) {t : TypeId} {te : TyE} (hte : cx.ty t = some te) {k : V → Eff → Prop}
    (hk : k (.ptr slot 0 [] te.sh) [(slot, some (.fix (.d te.zero)))]) : OpRes cx B w m H slot k (Instr.alloc t true (.tuple #[])) := by
  have ht := hx.ty t te hte
  obtain ⟨z, hz, hzp, hzr⟩ := ht.run_zero w
  have hzs := ht.zero_sh
  have hv : RCV w m H (V.sh (.d te.zero)) (.d te.zero) z.cells.toList := by
    rw [show V.sh (.d te.zero) = te.zero.sh from rfl, hzs]; exact .d _ _ _ (hzr _ _)
  obtain ⟨n1, n2, n3, n4, n5⟩ := newfix hh hb hlt hv t
  rw [show V.sh (.d te.zero) = te.zero.sh from rfl, hzs] at n3
  refine ⟨_, _, _, _, _, hk, ?_, n1, n2, n3, n4, n5⟩
  have hnv := run_newVar (cx := cx) (w := w) (t := t) (sh := te.sh) (cs := z.cells.toList) (by have := hv.len; rw [show V.sh (.d te.zero) = te.zero.sh from rfl, hzs] at this; exact this) hv.one
  rw [← hzp] at hnv
  simp [Instr.alloc, hz, hnv]

theorem box_sound (hh : HeapOK cx B w m H) {slot : Nat} (hb : ¬ m.born slot) (hlt : slot < H.length) {t : TypeId} {v : V} {c : Value} {k : V → Eff → Prop} (hv : RV w m H v c) (hcv : cellV v = true)
    (hk : k (.ptr slot 0 [] v.sh) [(slot, some (.fix v))]) : OpRes cx B w m H slot k (Instr.box t c) := by
  obtain ⟨cs, hr, rfl⟩ := hv.elim hcv
  obtain ⟨n1, n2, n3, n4, n5⟩ := newfix hh hb hlt hr t
  refine ⟨_, _, _, _, _, hk, ?_, n1, n2, n3, n4, n5⟩
  simp [Instr.box, run_newVar (cx := cx) (w := w) (t := t) hr.len hr.one]

/-! Parts put together -/

theorem foldl_set : ∀ (vs : List Value) (cells : Array Value) (off k : Nat), off + k + vs.length ≤ cells.size →
    (vs.zipIdx k).foldl (fun (cs : Array Value) (p : Value × Nat) => cs.setIfInBounds (off + p.2) p.1) cells = (cells.toList.take (off + k) ++ vs ++ cells.toList.drop (off + k + vs.length)).toArray
  | [], cells, off, k, _ => by simp
  | v :: r, cells, off, k, h => by
    simp only [List.zipIdx_cons, List.foldl_cons, List.length_cons] at h ⊢
    rw [foldl_set r (cells.setIfInBounds (off + k) v) off (k + 1) (by simp; omega)]
    congr 1
    have e := list_seg_step cells.toList (off + k) v r (by simp; omega)
    simpa [Array.toList_setIfInBounds, Nat.add_assoc] using e

theorem fill_sound {ρ : Operand → V} {ρc : Operand → Value} (hρ : RO w m H ρ ρc) {place : Nat → Option (Nat × Nat)} {shs : List Sh} (hpl : ∀ (i : Nat) s, shs[i]? = some s → place i = some (Sh.cszs (shs.take i), s.csz)) {k : List V → Prop} :
    ∀ (parts : List (Nat × Operand)) (l : List V) (css : List (List Value)), css.length = l.length → shs.length = l.length → (∀ (i : Nat) s x cs, shs[i]? = some s → l[i]? = some x → css[i]? = some cs → RCV w m H s x cs) → fillV ρ parts l k →
    ∃ (l' : List V) (css' : List (List Value)), k l' ∧ Instr.fill place css.flatten.toArray (parts.map fun p => (p.1, ρc p.2)) = some css'.flatten.toArray ∧ css'.length = l'.length ∧ shs.length = l'.length ∧
      (∀ (i : Nat) s x cs, shs[i]? = some s → l'[i]? = some x → css'[i]? = some cs → RCV w m H s x cs)
  | [], l, css, h1, h2, h3, hg => ⟨l, css, hg, rfl, h1, h2, h3⟩
  | (i, x) :: r, l, css, h1, h2, h3, hg => by
    obtain ⟨z, hz, hg⟩ := onS_elim hg
    obtain ⟨hcv, hg⟩ := onT_elim hg
    obtain ⟨hb, hg⟩ := onT_elim hg
    have he := Sh.beq_eq _ _ hb
    have hi := (List.getElem?_eq_some_iff.1 hz).1
    have hs : shs[i]? = some (shs[i]'(by omega)) := List.getElem?_eq_getElem (by omega)
    have hc : css[i]? = some (css[i]'(by omega)) := List.getElem?_eq_getElem (by omega)
    obtain ⟨cs, hr, hcx⟩ := (hρ x).elim hcv
    have hzr := h3 i _ z _ hs hz hc
    have hsh : (ρ x).sh = shs[i]'(by omega) := by rw [he]; exact hzr.sh_eq
    have hlen : (css[i]'(by omega)).length = cs.length := by rw [hzr.len, hr.len, hsh]
    obtain ⟨l', css', q1, q2, q3, q4, q5⟩ := fill_sound hρ hpl r (l.set i (ρ x)) (css.set i cs) (by simp [h1]) (by simp [h2]) (fun j s y c a b d => by
      by_cases hij : i = j
      · subst hij
        rw [List.getElem?_set_self (by omega)] at b d
        cases b; cases d
        rw [hs] at a; cases a
        rw [← hsh]; exact hr
      · rw [List.getElem?_set_ne hij] at b d
        exact h3 j s y c a b d) hg
    refine ⟨l', css', q1, ?_, q3, q4, q5⟩
    have f := flat_set (ds := cs) hc
    have g := (flat_get hc).2
    rw [st_sum (shs := shs) (by omega) (RCV.st_lens h1 h3), hlen] at f g
    have hcells : (ρc x).cells = cs.toArray := by rw [hcx]; exact pack_cells hr.len hr.one
    rw [List.map_cons, Instr.fill, hpl i _ hs]
    simp only [hcells]
    have hno : ¬ ((cs.toArray.size ≠ (shs[i]'(by omega)).csz || Sh.cszs (List.take i shs) + cs.toArray.size > css.flatten.toArray.size) = true) := by
      rw [List.size_toArray, List.size_toArray]
      have h1 := hr.len
      rw [hsh] at h1
      simp only [Bool.or_eq_true, decide_eq_true_eq, not_or]
      omega
    rw [if_neg hno]
    have e : cs.toArray.zipIdx.foldl (fun cs (x : Value × Nat) => cs.setIfInBounds (Sh.cszs (List.take i shs) + x.2) x.1) css.flatten.toArray = (css.set i cs).flatten.toArray := by
      rw [← Array.foldl_toList, Array.toList_zipIdx]
      have := foldl_set cs css.flatten.toArray (Sh.cszs (List.take i shs)) 0 (by rw [List.size_toArray]; omega)
      simp only [Nat.add_zero] at this
      rw [f]
      simpa using this
    rw [← e] at q2
    exact q2

theorem mapM_places (hx : CxOK cx) : ∀ (fl : List Field), (∀ f ∈ fl, ∃ fe, cx.ty f.type = some fe) →
    fl.mapM (fun f => (cx.P.info? f.type).map fun i => (f.offset, i.size)) = some (fl.map fun f => (f.offset, cx.P.cellsOf f.type))
  | [], _ => by simp
  | f :: r, h => by
    obtain ⟨fe, hfe⟩ := h f (by simp)
    obtain ⟨i, hi, _⟩ := (hx.ty _ _ hfe).info
    rw [List.mapM_cons, mapM_places hx r (fun g hg => h g (by simp [hg]))]
    simp [hi, Program.cellsOf]

theorem buildV_sound (hx : CxOK cx) {ρ : Operand → V} {ρc : Operand → Value} (hρ : RO w m H ρ ρc) {t : TypeId} {parts : List (Nat × Operand)} {k : V → Prop} (hg : buildV cx ρ t parts k) :
    POK cx w m H k (Instr.build t (parts.map fun p => (p.1, ρc p.2)).toArray) := by
  obtain ⟨te, hte, hg⟩ := onS_elim hg
  have ht := hx.ty t te hte
  obtain ⟨it, hit, _, _, hzs, z, hz, hzp, hzr⟩ := ht.info
  have hzr := hzr w (Own m H)
  have hrun := fun cells h => run_build (P := cx.P) w t (parts.map fun p => (p.1, ρc p.2)).toArray cells h
  split at hg
  · rename_i zs hzero
    rw [hzero] at hzr hzs
    have hcl : ∃ cl, z.cells.toList = cl := ⟨_, rfl⟩
    obtain ⟨cl, hcl⟩ := hcl
    rw [hcl] at hzr
    obtain ⟨sh0, hsh0⟩ : ∃ s, te.sh = s := ⟨_, rfl⟩
    rw [hsh0] at hzr
    cases hzr with
    | st shs _ css hl hs h =>
      have hu' := ht.under
      cases hty : te.ty <;> simp only [hty] at hu'
      case st fs =>
        obtain ⟨fields, shs', hu, _, hsz, hs', hsl, hfd⟩ := hu'
        rw [hsh0] at hs'
        cases hs'
        have hpl2 : ∀ (i : Nat) s, shs[i]? = some s → ((fields.toList.map fun f => (f.offset, cx.P.cellsOf f.type)).toArray)[i]? = some (Sh.cszs (shs.take i), s.csz) := by
          intro i s hs
          have hi := (List.getElem?_eq_some_iff.1 hs).1
          have hf : fields[i]? = some (fields[i]'(by omega)) := Array.getElem?_eq_getElem (by omega)
          obtain ⟨_, h2, _, fe, h4, h5⟩ := hfd i _ hf
          rw [hs] at h5; cases h5
          rw [List.getElem?_toArray, List.getElem?_map, Array.getElem?_toList, hf]
          simp [h2, cellsOf_eq (hx.ty _ _ h4)]
        obtain ⟨l', css', q1, q2, q3, q4, q5⟩ := fill_sound hρ (place := fun i => ((fields.toList.map fun f => (f.offset, cx.P.cellsOf f.type)).toArray)[i]?) hpl2 parts (zs.map V.d) css (by simpa using hl) (by simpa using hs) (fun i s x cs a b c => by
          rw [List.getElem?_map, Option.map_eq_some_iff] at b
          obtain ⟨y, hy, rfl⟩ := b
          exact .d _ _ _ (h i s y cs a hy c)) hg
        have hcz : z.cells = css.flatten.toArray := by rw [← hcl]
        have hb : cx.P.built t (parts.map fun p => (p.1, ρc p.2)) = some css'.flatten.toArray := by
          unfold Program.built
          have hmp := mapM_places hx fields.toList (fun f hf => by
            obtain ⟨i, hi, he⟩ := List.getElem_of_mem hf
            obtain ⟨_, _, _, fe, h4, _⟩ := hfd i f (by rw [← he]; simp)
            exact ⟨fe, h4⟩)
          simp only [hit, hu, hz, hmp, hcz]
          exact q2
        refine ⟨_, .agg css'.flatten.toArray, q1, hrun _ (by simpa using hb), ?_⟩
        have hr := (RCV.st shs l' css' q3 q4 q5).mkSt
        have e := hr.sh_eq
        have := RV.one (mkSt l') css'.flatten (by rw [e]; exact hr)
        rw [e] at this
        exact this
      case arr => obtain ⟨_, ee, _, hs'⟩ := hu'; rw [hsh0] at hs'; cases hs'
      all_goals (have hs' := hu'.2; rw [hsh0] at hs'; cases hs')
  · rename_i n e zs hzero
    rw [hzero] at hzr hzs
    obtain ⟨cl, hcl⟩ : ∃ cl, z.cells.toList = cl := ⟨_, rfl⟩
    rw [hcl] at hzr
    obtain ⟨sh0, hsh0⟩ : ∃ s, te.sh = s := ⟨_, rfl⟩
    rw [hsh0] at hzr
    cases hzr with
    | arr _ _ _ css hl hn h =>
      have hu' := ht.under
      cases hty : te.ty <;> simp only [hty] at hu'
      case arr n' e' =>
        obtain ⟨hu, ee, hee, hs'⟩ := hu'
        rw [hsh0] at hs'
        cases hs'
        have hte' := hx.ty _ _ hee
        obtain ⟨ie, hie, hies, _⟩ := hte'.info
        have hpl2 : ∀ (i : Nat) s, (List.replicate n ee.sh)[i]? = some s → some (i * ie.size, ie.size) = some (Sh.cszs ((List.replicate n ee.sh).take i), s.csz) := by
          intro i s hs
          rw [List.getElem?_replicate] at hs
          split at hs <;> cases hs
          rename_i hi
          rw [hies, Sh.cszs_eq, List.take_replicate, List.map_replicate, Nat.min_eq_left (by omega)]
          simp
        obtain ⟨l', css', q1, q2, q3, q4, q5⟩ := fill_sound hρ (place := fun i => some (i * ie.size, ie.size)) hpl2 parts (zs.map V.d) css (by simpa using hl) (by simp [hn]) (fun i s x cs a b c => by
          rw [List.getElem?_map, Option.map_eq_some_iff] at b
          obtain ⟨y, hy, rfl⟩ := b
          rw [List.getElem?_replicate] at a
          split at a <;> cases a
          exact .d _ _ _ (h i y cs hy c)) hg
        obtain ⟨ds, hds, hk⟩ := onS_elim q1
        have hld := allD_some hds
        subst hld
        have hcz : z.cells = css.flatten.toArray := by rw [← hcl]
        have hb : cx.P.built t (parts.map fun p => (p.1, ρc p.2)) = some css'.flatten.toArray := by
          unfold Program.built
          simp only [hit, hu, hz, hie, hcz]
          exact q2
        refine ⟨_, .agg css'.flatten.toArray, hk, hrun _ (by simpa using hb), ?_⟩
        have hlen : ds.length = n := by simpa using q4.symm
        have hr : RC w (Own m H) (.arr n ee.sh) (.arr n ee.sh ds) css'.flatten := by
          refine .arr n ee.sh ds css' (by simpa using q3) hlen fun i x cs a b => ?_
          have hi := (List.getElem?_eq_some_iff.1 a).1
          exact (q5 i ee.sh (.d x) cs (by rw [List.getElem?_replicate, if_pos (by omega)]) (by rw [List.getElem?_map, a]; rfl) b).of_d
        exact RV.one (.d (.arr n ee.sh ds)) css'.flatten (.d _ _ _ hr)
      case st => obtain ⟨_, _, _, _, _, hs', _⟩ := hu'; rw [hsh0] at hs'; cases hs'
      all_goals (have hs' := hu'.2; rw [hsh0] at hs'; cases hs')
  · exact hg.elim

end

end Go.Fw
