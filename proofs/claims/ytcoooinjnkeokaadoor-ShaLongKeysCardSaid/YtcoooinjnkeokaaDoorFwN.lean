/-
Slices built and made, appended to, copied into. No conditions.
-/
import Derived.Test.YtcoooinjnkeokaaDoorFwM
import Derived.Laws.AppendOwn
namespace Go.Fw
set_option linter.unusedVariables false
set_option linter.unusedSimpArgs false
open Go.RowKit

section
variable {cx : Cx} {B : Nat} {w : World} {m : M} {H : Heap} {rd : Nat → Option Blk}

theorem made_flat (z : Array Value) : ∀ (n : Nat), (madeCells z (n * z.size)).toList = (List.replicate n z.toList).flatten := by
  intro n
  induction n with
  | zero => simp [madeCells]
  | succ n ih =>
    rw [List.replicate_succ', List.flatten_append, ← ih]
    simp only [madeCells, Array.toList_map, Array.toList_range, List.flatten_cons, List.flatten_nil, List.append_nil]
    rw [Nat.succ_mul, List.range_add, List.map_append]
    congr 1
    rw [List.map_map]
    apply List.ext_getElem?
    intro i
    rw [List.getElem?_map]
    by_cases hi : i < z.size
    · rw [List.getElem?_range hi]
      simp [Nat.mul_add_mod_self_right, Nat.mod_eq_of_lt hi, hi]
    · rw [List.getElem?_eq_none (by simpa using hi), List.getElem?_eq_none (by simpa using hi)]
      rfl

theorem rep_css {e : Sh} {x : D} {cs : List Value} {own : Nat → Prop} (h : RC w own e x cs) (n : Nat) : ∀ (i : Nat) y ds, (List.replicate n x)[i]? = some y → (List.replicate n cs)[i]? = some ds → RC w own e y ds := by
  intro i y ds a b
  rw [List.getElem?_replicate] at a b
  split at a <;> cases a
  rename_i hi
  rw [if_pos hi] at b
  cases b
  exact h

theorem csz_rep (n i : Nat) (e : Sh) (hi : i ≤ n) : Sh.cszs ((List.replicate n e).take i) = i * e.csz := by
  rw [Sh.cszs_eq, List.take_replicate, List.map_replicate, Nat.min_eq_left hi]
  simp

theorem buildSlice_sound (hx : CxOK cx) (hh : HeapOK cx B w m H) {slot : Nat} (hb : ¬ m.born slot) (hlt : slot < H.length) {ρ : Operand → V} {ρc : Operand → Value} (hρ : RO w m H ρ ρc) {t e : TypeId} {te ee : TyE} (hte : cx.ty t = some te) (hty : te.ty = .sl e)
    (hee : cx.ty e = some ee) {len : Nat} (h24 : len * ee.sh.csz ≤ 16777216) {parts : List (Nat × Operand)} {k : V → Eff → Prop}
    (hg : fillV ρ parts ((List.replicate len ee.zero).map V.d) fun l => onS (allD l) fun ds => k (.sl slot 0 0) [(slot, some (.grow 0 ee.sh ds))]) :
    OpRes cx B w m H slot k (Instr.buildSlice t len (parts.map fun p => (p.1, ρc p.2)).toArray) := by
  have hu := ty_sl hx hte hty
  have hte' := hx.ty _ _ hee
  obtain ⟨z, hz, hzp, hzr⟩ := hte'.run_zero w
  have hzr := hzr w (Own m H)
  have hzl := hzr.len
  have hpos := hte'.pos
  have hzs : z.cells.size = ee.sh.csz := by simpa using hzl
  have hpl2 : ∀ (i : Nat) s, (List.replicate len ee.sh)[i]? = some s → some (i * ee.sh.csz, ee.sh.csz) = some (Sh.cszs ((List.replicate len ee.sh).take i), s.csz) := by
    intro i s hs
    rw [List.getElem?_replicate] at hs
    split at hs <;> cases hs
    rw [csz_rep _ _ _ (by omega)]
  obtain ⟨l', css', q1, q2, q3, q4, q5⟩ := fill_sound hρ (place := fun i => some (i * ee.sh.csz, ee.sh.csz)) hpl2 parts ((List.replicate len ee.zero).map V.d) (List.replicate len z.cells.toList) (by simp) (by simp) (fun i s x cs a b c => by
    rw [List.getElem?_map, Option.map_eq_some_iff] at b
    obtain ⟨y, hy, rfl⟩ := b
    rw [List.getElem?_replicate] at a
    split at a <;> cases a
    exact .d _ _ _ (rep_css hzr len i y cs hy c)) hg
  obtain ⟨ds, hds, hk⟩ := onS_elim q1
  have hld := allD_some hds
  subst hld
  have hlen : ds.length = len := by simpa using q4.symm
  have hrc : ∀ (i : Nat) x cs, ds[i]? = some x → css'[i]? = some cs → RC w (Own m H) ee.sh x cs := fun i x cs a b => by
    have hi := (List.getElem?_eq_some_iff.1 a).1
    exact (q5 i ee.sh (.d x) cs (by rw [List.getElem?_replicate, if_pos (by omega)]) (by rw [List.getElem?_map, a]; rfl) b).of_d
  have hcl : css'.length = ds.length := by simpa using q3
  have hsz : css'.flatten.length = len * ee.sh.csz := by rw [len_flat, sum_const (arr_lens hcl hrc), hcl, hlen]
  have hm : len ≤ maxLen := by
    have : len * 1 ≤ len * ee.sh.csz := Nat.mul_le_mul_left _ hpos
    unfold maxLen; omega
  obtain ⟨n1, n2, n3, n4, n5⟩ := newgrow hh hb hlt (e := ee.sh) (xs := ds) (css := css') (cur := css'.flatten.toArray) (cap := len) hcl hrc (by simpa using hsz) (by omega) hm (by rw [hlen]; rw [← hsz, List.take_length]) rfl (Below.refl B w) e
  rw [hlen] at n3
  refine ⟨_, _, _, _, _, hk, ?_, n1, n2, n3, n4, n5⟩
  have hfl : ((Array.range (len * ee.sh.csz)).map (z.cells[· % z.cells.size]!)) = (List.replicate len z.cells.toList).flatten.toArray := by
    have := made_flat z.cells len
    rw [hzs] at this
    apply Array.ext'
    rw [← this, madeCells]
  have hno : ¬ (len * ee.sh.csz > 2 ^ 24) := by omega
  unfold Instr.buildSlice
  simp only [Sem.run_bind, run_underlying hu, Result.andThen_ok, hte'.run_sizeOf w]
  rw [if_neg hno]
  by_cases h0 : len * ee.sh.csz = 0
  · have hl0 : len = 0 := by
      rcases Nat.mul_eq_zero.1 h0 with h | h
      · exact h
      · omega
    rw [if_pos h0, Sem.run_bind, Sem.run_pure, Result.andThen_ok]
    have e0 : ((Array.range (len * ee.sh.csz)).map ((#[] : Array Value)[· % (#[] : Array Value).size]!)) = (List.replicate len z.cells.toList).flatten.toArray := by
      rw [h0, hl0]; simp
    rw [e0, q2]
    simp [newRow, newObj]
    rfl
  · rw [if_neg h0]
    simp only [Sem.run_bind, Sem.run_pure, Result.andThen_ok, hz]
    rw [hfl, q2]
    simp [newRow, newObj]
    rfl

theorem makeSlice_sound (hx : CxOK cx) (hh : HeapOK cx B w m H) {slot : Nat} (hb : ¬ m.born slot) (hlt : slot < H.length) {t e : TypeId} {te ee : TyE} (hte : cx.ty t = some te) (hty : te.ty = .sl e)
    (hee : cx.ty e = some ee) {kl kc : IntKind} {n c : Int} (hn : 0 ≤ n) (hnc : n ≤ c) (hbytes : ee.bytes * c ≤ 281474976710656) (h63 : c ≤ 9223372036854775807) {k : V → Eff → Prop}
    (hk : k (.sl slot 0 0) [(slot, some (.grow 0 ee.sh (List.replicate n.toNat ee.zero)))]) : OpRes cx B w m H slot k (Instr.makeSlice t (.int kl n) (.int kc c)) := by
  have hu := ty_sl hx hte hty
  have hte' := hx.ty _ _ hee
  obtain ⟨i, hi, his, hib, _, z, hz, hzp, hzr⟩ := hte'.info
  have hzr := hzr w (Own m H)
  have hzs : z.cells.size = ee.sh.csz := by simpa using hzr.len
  have hrun := run_make (P := cx.P) w t e i z hu hi hz kl kc n c hn hnc (by rw [hib]; exact hbytes) h63
  rw [his] at hrun
  have hcur := made_flat z.cells c.toNat
  rw [hzs] at hcur
  have hle : n.toNat ≤ c.toNat := by omega
  obtain ⟨n1, n2, n3, n4, n5⟩ := newgrow hh hb hlt (e := ee.sh) (xs := List.replicate n.toNat ee.zero) (css := List.replicate n.toNat z.cells.toList) (cur := madeCells z.cells (c.toNat * ee.sh.csz)) (cap := c.toNat) (by simp) (rep_css hzr _)
    (by simp [size_madeCells]) (by simpa using hle) (by unfold maxLen; omega) (by
      rw [hcur]
      simp only [List.length_replicate]
      have := flat_take (css := List.replicate c.toNat z.cells.toList) (m := ee.sh.csz) n.toNat (fun cs hcs => by rw [List.mem_replicate] at hcs; rw [hcs.2]; simpa using hzs) (by simpa using hle)
      rw [← this, List.take_replicate, Nat.min_eq_left hle]) rfl (Below.refl B w) e
  rw [List.length_replicate] at n3
  exact ⟨_, _, _, _, _, hk, hrun, n1, n2, n3, n4, n5⟩

/-! Append -/

theorem SlAt.flat {e : Sh} {ys : List D} {c : Value} (h : SlAt w m H e ys c) (hpos : 0 < e.csz) :
    ∃ (a : Option Addr) (cap : Nat) (css : List (List Value)), c = .slice a ys.length cap ∧ css.length = ys.length ∧ (∀ (i : Nat) x cs, ys[i]? = some x → css[i]? = some cs → RC w (Own m H) e x cs) ∧
      css.flatten.length = ys.length * e.csz ∧ (∀ c ∈ css.flatten, c.oneCell' = true) ∧ (∀ (j : Nat) cc, css.flatten[j]? = some cc → ∃ ad, a = some ad ∧ w.cell? (ad.add j) = some cc) := by
  obtain ⟨a, cap, css, rfl, hcap, hl, h1, h2⟩ := h
  have hlen := arr_lens hl h1
  refine ⟨a, cap, css, rfl, hl, h1, by rw [len_flat, sum_const hlen, hl], fun c hc => ?_, fun j cc hj => ?_⟩
  · obtain ⟨l, hl', hc⟩ := List.mem_flatten.1 hc
    obtain ⟨i, hi, he⟩ := List.getElem_of_mem hl'
    exact (h1 i (ys[i]'(by omega)) l (List.getElem?_eq_getElem (by omega)) (by rw [← he]; exact List.getElem?_eq_getElem hi)).one c hc
  · have hjl := (List.getElem?_eq_some_iff.1 hj).1
    rw [len_flat, sum_const hlen] at hjl
    have hi : j / e.csz < css.length := Nat.div_lt_of_lt_mul (by rw [Nat.mul_comm]; exact hjl)
    have hc : css[j / e.csz]? = some css[j / e.csz] := List.getElem?_eq_getElem hi
    obtain ⟨f1, f2⟩ := flat_get hc
    have hll := hlen _ (List.getElem_mem hi)
    rw [sum_take_const hlen (by omega), hll] at f1 f2
    have hm := Nat.mod_lt j hpos
    have h3 : (css[j / e.csz])[j % e.csz]? = some cc := by
      rw [← f1, List.getElem?_take, if_pos hm, List.getElem?_drop]
      rw [show j / e.csz * e.csz + j % e.csz = j from by rw [Nat.mul_comm]; exact Nat.div_add_mod j e.csz]
      exact hj
    obtain ⟨ad, ha, hc⟩ := h2 _ _ _ _ hc h3
    rw [show j / e.csz * e.csz + j % e.csz = j from by rw [Nat.mul_comm]; exact Nat.div_add_mod j e.csz] at hc
    exact ⟨ad, ha, hc⟩

/-- Appended within the room that there is. -/
theorem run_append_in {t ty e : TypeId} {ee : TyE} (hu : cx.P.underlying t = some (.slice e)) (hee : TyP cx e ee) {g n cap : Nat} {cur : Array Value} (hr : Row w g cur)
    {a : Option Addr} {mm c : Nat} {news : List Value} (hl : news.length = mm * ee.sh.csz) (hnews : ∀ (j : Nat) u, news[j]? = some u → ∃ ad, a = some ad ∧ w.cell? (ad.add j) = some u) (h1 : ∀ u ∈ news, u.oneCell' = true)
    (hroom : n + mm ≤ cap) (hfit : n * ee.sh.csz + news.length ≤ cur.size) :
    (Builtin.append_ #[t, t] ty #[.slice (some ⟨g, 0, none⟩) n cap, .slice a mm c]).run cx.P w =
      .ok (.slice (some ⟨g, 0, none⟩) (n + mm) cap) (w.setRow g (cur.toList.take (n * ee.sh.csz) ++ news ++ cur.toList.drop (n * ee.sh.csz + news.length)).toArray) := by
  obtain ⟨tt, hr⟩ := hr
  obtain ⟨i, hi, his, _⟩ := hee.info
  have hst := run_storeCells_at cx.P g (n * ee.sh.csz) tt news 0 cur w hr (by simpa using hfit) h1
  simp only [Nat.add_zero] at hst
  have hf : (Builtin.firstCells ee.sh.csz mm (.slice a mm c)).run cx.P w = .ok news.toArray w := by
    cases a with
    | some a =>
      have := run_firstCells_some (P := cx.P) w ee.sh.csz mm a mm c news hl (fun j u hj => by obtain ⟨ad, ha, h⟩ := hnews j u hj; cases ha; exact h)
      exact this
    | none =>
      have : news = [] := by
        cases news with
        | nil => rfl
        | cons x r => obtain ⟨ad, ha, _⟩ := hnews 0 x rfl; cases ha
      subst this
      rfl
  simp [Builtin.append_, run_underlying hu, sizeOf, typeInfo, hi, his, Builtin.lenOf, hroom, hf, Addr.add_lit, hst]

/-- A new row behind an append. -/
theorem append_row {e : Sh} {xs ys : List D} {css dss : List (List Value)} {own : Nat → Prop} (hl : css.length = xs.length) (h : ∀ (i : Nat) x cs, xs[i]? = some x → css[i]? = some cs → RC w own e x cs)
    (hl2 : dss.length = ys.length) (h2 : ∀ (i : Nat) x cs, ys[i]? = some x → dss[i]? = some cs → RC w own e x cs) :
    (css ++ dss).length = (xs ++ ys).length ∧ (∀ (i : Nat) x cs, (xs ++ ys)[i]? = some x → (css ++ dss)[i]? = some cs → RC w own e x cs) ∧ css.flatten.length = xs.length * e.csz ∧ dss.flatten.length = ys.length * e.csz := by
  refine ⟨by simp [hl, hl2], fun i x cs a b => ?_, by rw [len_flat, sum_const (arr_lens hl h), hl], by rw [len_flat, sum_const (arr_lens hl2 h2), hl2]⟩
  rw [List.getElem?_append] at a b
  rw [hl] at b
  split at a
  · rename_i hi; rw [if_pos hi] at b; exact h i x cs a b
  · rename_i hi; rw [if_neg hi] at b; exact h2 _ x cs a b

/-- What an append that grows leaves: a row of its own. -/
theorem grown_row {e : TypeId} {ee : TyE} (hee : TyP cx e ee) {z : Value} (hzs : z.cells.size = ee.sh.csz) {olds news : List Value} {n old : Nat} (hl : olds.length + news.length = n * ee.sh.csz) (h63 : n ≤ maxLen) :
    let cur := olds.toArray ++ news.toArray ++ Builtin.zeroCells z.cells (grownCap w n old e - n)
    cur.size = grownCap w n old e * ee.sh.csz ∧ n ≤ grownCap w n old e ∧ grownCap w n old e ≤ maxLen ∧ cur.toList.take (n * ee.sh.csz) = olds ++ news := by
  have hge := grownCap_ge w n old e
  refine ⟨?_, hge, grownCap_le_maxLen w n old e h63, ?_⟩
  · simp only [Array.size_append, List.size_toArray, size_zeroCells, hzs]
    rw [hl, ← Nat.add_mul]
    congr 1
    omega
  · simp only [Array.toList_append, List.append_assoc]
    rw [← List.append_assoc, ← hl, ← List.length_append]
    exact List.take_left

theorem below_drew : Below B w w.drew := (Below.refl B w).drew

/-- Appended to nothing. -/
theorem append_nils (hx : CxOK cx) (hh : HeapOK cx B w m H) {slot : Nat} (hb : ¬ m.born slot) (hlt : slot < H.length) {t ty e : TypeId} {te ee : TyE} (hte : cx.ty t = some te) (hty : te.ty = .sl e) (hee : cx.ty e = some ee)
    {ys : List D} {c : Value} (hs : SlAt w m H ee.sh ys c) (hroom : ys.length * ee.bytes ≤ room) (h63 : ys.length ≤ 9223372036854775807) {k : V → Eff → Prop} (hk : k (.sl slot 0 0) [(slot, some (.grow 0 ee.sh ys))]) :
    OpRes cx B w m H slot k (Builtin.append_ #[t, t] ty #[.slice none 0 0, c]) := by
  have hu := ty_sl hx hte hty
  have hte' := hx.ty _ _ hee
  obtain ⟨i, hi, his, hib, _, z, hz, hzp, hzr⟩ := hte'.info
  have hzr := hzr w (Own m H)
  have hzs : z.cells.size = ee.sh.csz := by simpa using hzr.len
  obtain ⟨a, cap, css, rfl, hl, hrc, hfl, hone, hcell⟩ := hs.flat hte'.pos
  cases ys with
  | nil =>
    refine ⟨_, _, .slice none 0 0, w, m.addNone slot, hk, ?_, keep_newNone hb, heap_newNone hh hb hlt, ?_, Below.refl B w, fun b h => h.symm⟩
    · have hf : (Builtin.firstCells ee.sh.csz 0 (.slice a 0 cap)).run cx.P w = .ok #[] w := by
        cases a with
        | none => rfl
        | some a => simp [Builtin.firstCells, loadCells, loadCellsFrom]
      simp [Builtin.append_, run_underlying hu, sizeOf, typeInfo, hi, his, Builtin.lenOf, hf]
    · refine .one_cell (.sl slot 0 0 _ rfl (.inl rfl) fun ver' e' xs' hx' => ?_) rfl
      have := live_inj (live_set_self hlt) hx'
      cases this
      exact ⟨Nat.le_refl _, fun _ => ⟨Nat.zero_le _, .inl ⟨by simp [M.addNone], rfl⟩⟩⟩
  | cons y ys =>
    have h0 : 0 < css.flatten.length := by rw [hfl]; exact Nat.mul_pos (by simp) hte'.pos
    obtain ⟨ad, rfl, _⟩ := hcell 0 _ (List.getElem?_eq_getElem h0)
    have hc2 : ∀ j v, css.flatten[j]? = some v → w.cell? (ad.add j) = some v := fun j v hj => by
      obtain ⟨ad', ha, h⟩ := hcell j v hj; cases ha; exact h
    have hrun := run_append_nil (P := cx.P) w t ty e i z hu hi hz ad (y :: ys).length cap css.flatten (by rw [his]; exact hfl) hc2 (by simp) (by omega) (by rw [hib]; unfold room at hroom; omega)
    obtain ⟨g1, g2, g3, g4⟩ := grown_row (w := w) hte' hzs (olds := []) (news := css.flatten) (n := (y :: ys).length) (old := 0) (by simpa using hfl) (by unfold maxLen; omega)
    simp only [List.nil_append, Array.empty_append] at g1 g2 g3 g4
    obtain ⟨n1, n2, n3, n4, n5⟩ := newgrow hh hb hlt (e := ee.sh) (xs := y :: ys) (css := css) (cap := grownCap w (y :: ys).length 0 e) hl hrc g1 g2 g3 g4 (wd := w.drew) rfl below_drew e
    exact ⟨_, _, _, _, _, hk, hrun, n1, n2, n3, n4, n5⟩

/-- What an append that moves its row leaves. -/
theorem append_re (hh : HeapOK cx B w m H) {slot b ver : Nat} {e0 e : Sh} {xs zs : List D} (hlb : live H b (.grow ver e0 xs)) {k : V → Eff → Prop} (hk : k (.sl b 0 (ver + 1)) [(b, some (.grow (ver + 1) e zs))])
    {S : Sem Value} {cur : Array Value} {cap : Nat} {t : TypeId} (hrun : S.run cx.P w = .ok (.slice (some ⟨w.heap.size, 0, none⟩) zs.length cap) (w.drew.alloc (.cells cur t))) {css : List (List Value)} (hl : css.length = zs.length)
    (h : ∀ (i : Nat) x cs, zs[i]? = some x → css[i]? = some cs → RC w (Own m H) e x cs) (hs : cur.size = cap * e.csz) (hc : zs.length ≤ cap) (hm : cap ≤ maxLen) (ht : cur.toList.take (zs.length * e.csz) = css.flatten) :
    OpRes cx B w m H slot k S := by
  have hw : w.drew.heap = w.heap := rfl
  have hkd : Keep w m H w.drew m H := keep_world hw
  have hhd := heap_world hh hw
  have hk0 : Keep w.drew m H (w.drew.alloc (.cells cur t)) (m.add b w.drew.heap.size cap) (H.set b (some (.grow (ver + 1) e zs))) := keep_re hlb (by omega) cap
  have hrow : Row (w.drew.alloc (.cells cur t)) w.drew.heap.size cur := ⟨t, heap_alloc_new w.drew _⟩
  have hkk := hkd.trans hk0
  have hn := heap_re (o := .cells cur t) (cap := cap) (ver' := ver + 1) (e' := e) (xs' := zs) hhd hlb (by omega) (.grow (ver + 1) e zs w.drew.heap.size cap cur css (by simp [M.add]) hrow hs hc hm hl (fun i x cs a b => (h i x cs a b).mono hkk.cell) ht)
  have hlt := live_lt hlb
  refine ⟨_, _, _, _, m.add b w.drew.heap.size cap, hk, hrun, hkk, hn, ?_, below_drew.trans (below_alloc hhd.size _), fun i hi => ?_⟩
  · refine .one_cell (.sl b 0 (ver + 1) _ rfl (.inl rfl) fun ver' e' xs' hx => ?_) rfl
    have := live_inj (live_set_self hlt) hx
    cases this
    exact ⟨Nat.le_refl _, fun _ => ⟨Nat.zero_le _, .inr ⟨w.heap.size, cap, _, by simp [M.add, hw], hc, rfl, fun _ => by simp⟩⟩⟩
  · rcases hi with rfl | hi
    · exact .inl (hh.born _ _ hlb)
    · exact .inl hi

/-- Appended to a growing slice of the call's own. -/
theorem append_own (hx : CxOK cx) (hh : HeapOK cx B w m H) {slot b ver : Nat} {t ty e : TypeId} {te ee : TyE} (hte : cx.ty t = some te) (hty : te.ty = .sl e) (hee : cx.ty e = some ee)
    {xs ys : List D} (hlb : live H b (.grow ver ee.sh xs)) {d c : Value} (hd : RV w m H (.sl b 0 ver) d) (hs : SlAt w m H ee.sh ys c) (hroom : (xs.length + ys.length) * ee.bytes ≤ room) (h63 : xs.length + ys.length ≤ 9223372036854775807)
    {k : V → Eff → Prop} (hk : k (.sl b 0 (ver + 1)) [(b, some (.grow (ver + 1) ee.sh (xs ++ ys)))]) :
    OpRes cx B w m H slot k (Builtin.append_ #[t, t] ty #[d, c]) := by
  have hu := ty_sl hx hte hty
  have hte' := hx.ty _ _ hee
  obtain ⟨i, hi, his, hib, _, z, hz, hzp, hzr⟩ := hte'.info
  have hzr := hzr w (Own m H)
  have hzs : z.cells.size = ee.sh.csz := by simpa using hzr.len
  obtain ⟨a, cp, dss, rfl, hl2, hrc2, hfl2, hone2, hcell2⟩ := hs.flat hte'.pos
  have hlt := live_lt hlb
  have hbb := hh.born b _ hlb
  obtain ⟨cs, h, hc⟩ := hd.elim rfl
  cases h with
  | sl _ _ _ c' ho _ h =>
    have hc : d = c' := hc
    subst hc
    obtain ⟨_, h⟩ := h ver _ xs hlb
    obtain ⟨_, h⟩ := h rfl
    rcases h with ⟨hn, rfl⟩ | ⟨kk, cap, ad0, hi2, hcap, rfl, ha⟩
    · -- nothing there yet
      have hx0 : xs = [] := by
        cases hh.blk b _ hlb with
        | none => rfl
        | grow ver e xs k cap cur css h1 => rw [hn] at h1; cases h1
      subst hx0
      cases ys with
      | nil =>
        refine ⟨_, _, .slice none 0 0, w, m, hk, ?_, keep_none hlb (by omega), heap_none hh hlb (by omega) hn, ?_, Below.refl B w, fun b h => .inl h⟩
        · have hf : (Builtin.firstCells ee.sh.csz 0 (.slice a 0 cp)).run cx.P w = .ok #[] w := by
            cases a with
            | none => rfl
            | some a => simp [Builtin.firstCells, loadCells, loadCellsFrom]
          simp [Builtin.append_, run_underlying hu, sizeOf, typeInfo, hi, his, Builtin.lenOf, hf]
        · refine .one_cell (.sl b 0 (ver + 1) _ rfl hbb fun ver' e' xs' hx' => ?_) rfl
          have := live_inj (live_set_self hlt) hx'
          cases this
          exact ⟨Nat.le_refl _, fun _ => ⟨Nat.zero_le _, .inl ⟨hn, rfl⟩⟩⟩
      | cons y ys =>
        have h0 : 0 < dss.flatten.length := by rw [hfl2]; exact Nat.mul_pos (by simp) hte'.pos
        obtain ⟨ad, rfl, _⟩ := hcell2 0 _ (List.getElem?_eq_getElem h0)
        have hc2 : ∀ j v, dss.flatten[j]? = some v → w.cell? (ad.add j) = some v := fun j v hj => by
          obtain ⟨ad', ha, h⟩ := hcell2 j v hj; cases ha; exact h
        simp only [List.length_nil, Nat.zero_add] at hroom h63
        have hrun := run_append_nil (P := cx.P) w t ty e i z hu hi hz ad (y :: ys).length cp dss.flatten (by rw [his]; exact hfl2) hc2 (by simp) (by omega) (by rw [hib]; unfold room at hroom; omega)
        obtain ⟨g1, g2, g3, g4⟩ := grown_row (w := w) hte' hzs (olds := []) (news := dss.flatten) (n := (y :: ys).length) (old := 0) (by simpa using hfl2) (by unfold maxLen; omega)
        simp only [List.nil_append, Array.empty_append] at g1 g2 g3 g4
        exact append_re hh hlb hk hrun hl2 hrc2 g1 g2 g3 g4
    · cases hh.blk b _ hlb with
      | none ver e h1 => rw [hi2] at h1; cases h1
      | grow _ _ _ k' cap' cur css h1 hr hsz hcap' hm hl1 hrc1 ht1 =>
        rw [hi2] at h1; cases h1
        obtain ⟨r1, r2, r3, r4⟩ := append_row hl1 hrc1 hl2 hrc2
        have hcl : cur.toList.length = cur.size := by simp
        have hnew : (xs ++ ys).length = xs.length + ys.length := by simp
        by_cases hin : xs.length + ys.length ≤ cap
        · -- within the room
          have ha : ad0 = some ⟨kk, 0, none⟩ ∨ cap = 0 := by
            rcases Nat.eq_zero_or_pos cap with h | h
            · exact .inr h
            · have := ha h; simp at this; exact .inl this
          rcases ha with rfl | hcap0
          · have hfit : xs.length * ee.sh.csz + dss.flatten.length ≤ cur.size := by rw [r4, hsz, ← Nat.add_mul]; exact Nat.mul_le_mul_right _ hin
            have hrun := run_append_in (w := w) (ty := ty) (n := xs.length) (cap := cap) (c := cp) hu hte' hr hfl2 hcell2 hone2 hin hfit
            have hbk : BK m m b (.grow ver ee.sh xs) (.grow (ver + 1) ee.sh (xs ++ ys)) := .later _ _ _ _ _ _ (by omega)
            refine ⟨_, _, _, _, m, hk, hrun, keep_set hlb hi2 hbk, heap_set hh hlb hi2 hbk ?_, ?_, below_row (hh.lo b _ kk cap hlb hi2), fun i hi => .inl hi⟩
            · refine .grow (ver + 1) ee.sh (xs ++ ys) kk cap _ (css ++ dss) hi2 (row_setRow_self hr) ?_ (by omega) hm r1 (fun i x cs a b' => (r2 i x cs a b').mono (keep_set hlb hi2 hbk).cell) ?_
              · rw [← hsz]; simp only [List.size_toArray, List.length_append, List.length_take, List.length_drop, hcl]; omega
              · rw [hnew, List.flatten_append, ← ht1, Nat.add_mul, ← r4]
                have e1 : (cur.toList.take (xs.length * ee.sh.csz) ++ dss.flatten).length = xs.length * ee.sh.csz + dss.flatten.length := by
                  rw [List.length_append, List.length_take, hcl, Nat.min_eq_left (by omega)]
                rw [← e1]
                exact List.take_left
            · refine .one_cell (.sl b 0 (ver + 1) _ rfl hbb fun ver' e' xs' hx => ?_) rfl
              have := live_inj (live_set_self hlt) hx
              cases this
              exact ⟨Nat.le_refl _, fun _ => ⟨Nat.zero_le _, .inr ⟨kk, cap, _, hi2, by omega, by rw [hnew]; rfl, fun _ => by simp⟩⟩⟩
          · -- no room and nothing appended
            have hx0 : xs = [] := List.eq_nil_of_length_eq_zero (by omega)
            have hy0 : ys = [] := List.eq_nil_of_length_eq_zero (by omega)
            subst hx0; subst hy0
            subst hcap0
            have hbk : BK m m b (.grow ver ee.sh []) (.grow (ver + 1) ee.sh ([] ++ [])) := .later _ _ _ _ _ _ (by omega)
            have hself : w.setRow kk cur = w := by obtain ⟨tt, hrt⟩ := hr; exact setRow_self w kk cur tt (0, 0) hrt
            have kset : Keep w m H (w.setRow kk cur) m (H.set b (some (.grow (ver + 1) ee.sh ([] ++ [])))) := keep_set hlb hi2 hbk
            have hset : HeapOK cx B (w.setRow kk cur) m (H.set b (some (.grow (ver + 1) ee.sh ([] ++ [])))) := heap_set hh hlb hi2 hbk (.grow (ver + 1) ee.sh _ kk 0 cur [] hi2 (row_setRow_self hr) hsz (by simp) (by simp) (by simp) (fun i x cs a => by simp at a) (by simp))
            rw [hself] at kset hset
            refine ⟨_, _, .slice ad0 0 0, w, m, hk, ?_, kset, hset, ?_, Below.refl B w, fun i hi => .inl hi⟩
            · have hf : (Builtin.firstCells ee.sh.csz 0 (.slice a 0 cp)).run cx.P w = .ok #[] w := by
                cases a with
                | none => rfl
                | some a => simp [Builtin.firstCells, loadCells, loadCellsFrom]
              cases ad0 <;> simp [Builtin.append_, run_underlying hu, sizeOf, typeInfo, hi, his, Builtin.lenOf, hf, storeCells]
            · refine .one_cell (.sl b 0 (ver + 1) _ rfl hbb fun ver' e' xs' hx => ?_) rfl
              have := live_inj (live_set_self hlt) hx
              cases this
              exact ⟨Nat.le_refl _, fun _ => ⟨Nat.zero_le _, .inr ⟨kk, 0, _, hi2, by simp, rfl, fun h => by omega⟩⟩⟩
        · -- beyond it
          have hy0 : 0 < ys.length := by omega
          have h0 : 0 < dss.flatten.length := by rw [hfl2]; exact Nat.mul_pos hy0 hte'.pos
          obtain ⟨ad, rfl, _⟩ := hcell2 0 _ (List.getElem?_eq_getElem h0)
          have hc2 : ∀ j v, dss.flatten[j]? = some v → w.cell? (ad.add j) = some v := fun j v hj => by
            obtain ⟨ad', ha, h⟩ := hcell2 j v hj; cases ha; exact h
          obtain ⟨g1, g2, g3, g4⟩ := grown_row (w := w) hte' hzs (olds := css.flatten) (news := dss.flatten) (n := (xs ++ ys).length) (old := cap) (by rw [r3, r4, hnew, Nat.add_mul]) (by rw [hnew]; unfold maxLen; omega)
          rw [← List.flatten_append] at g4
          rcases Nat.eq_zero_or_pos cap with hcap0 | hcap0
          · have hx0 : xs = [] := List.eq_nil_of_length_eq_zero (by omega)
            subst hx0; subst hcap0
            have hcs : css = [] := List.eq_nil_of_length_eq_zero (by simpa using hl1)
            subst hcs
            simp only [List.length_nil, Nat.zero_add] at hroom h63
            cases ad0 with
            | none =>
              have hrun := run_append_nil (P := cx.P) w t ty e i z hu hi hz ad ys.length cp dss.flatten (by rw [his]; exact hfl2) hc2 hy0 (by omega) (by rw [hib]; unfold room at hroom; omega)
              have e0 : (([] : List (List Value)).flatten.toArray ++ dss.flatten.toArray) = dss.flatten.toArray := by simp
              rw [e0] at g1 g4
              exact append_re hh hlb hk hrun r1 r2 g1 g2 g3 g4
            | some ad0 =>
              have hrun := run_append_grow (P := cx.P) w t ty e i z hu hi hz ad0 0 0 [] (by simp) (fun j v hj => by simp at hj) ad ys.length cp dss.flatten (by rw [his]; exact hfl2) hc2 (by omega) (by omega) (growslice_fits (by omega) (by rw [hib, Nat.zero_add]; exact hroom))
              simp only [Nat.zero_add] at hrun
              exact append_re hh hlb hk hrun r1 r2 g1 g2 g3 g4
          · have ha := ha hcap0
            subst ha
            have hold : ∀ j v, css.flatten[j]? = some v → w.cell? ((⟨kk, 0 * ee.sh.csz, none⟩ : Addr).add j) = some v := fun j v hj => by
              rw [← ht1] at hj
              rw [addr_add, hr.cell]
              rw [List.getElem?_take] at hj
              split at hj
              · simpa using hj
              · cases hj
            have hrun := run_append_grow (P := cx.P) w t ty e i z hu hi hz ⟨kk, 0 * ee.sh.csz, none⟩ xs.length cap css.flatten (by rw [his]; exact r3) hold ad ys.length cp dss.flatten (by rw [his]; exact hfl2) hc2 (by omega) (by omega) (growslice_fits (by omega) (by rw [hib]; exact hroom))
            rw [← hnew] at hrun
            exact append_re hh hlb hk hrun r1 r2 g1 g2 g3 g4

/-- Appended, something, to a slice that is full: a new row. -/
theorem append_full (hx : CxOK cx) (hh : HeapOK cx B w m H) {slot : Nat} (hb : ¬ m.born slot) (hlt : slot < H.length) {t ty e : TypeId} {te ee : TyE} (hte : cx.ty t = some te) (hty : te.ty = .sl e) (hee : cx.ty e = some ee)
    {xs ys : List D} {a0 : Option Addr} {c : Value} (hd : SlAt w m H ee.sh xs (.slice a0 xs.length xs.length)) (hs : SlAt w m H ee.sh ys c) (hy : 0 < ys.length) (hroom : (xs.length + ys.length) * ee.bytes ≤ room)
    {k : V → Eff → Prop} {e' : Eff} (hk : k (.sl slot 0 0) ((slot, some (.grow 0 ee.sh (xs ++ ys))) :: e')) (hkill : e' = [] ∨ ∃ b, e' = [(b, none)] ∧ b ≠ slot) :
    OpRes cx B w m H slot k (Builtin.append_ #[t, t] ty #[.slice a0 xs.length xs.length, c]) := by
  have hu := ty_sl hx hte hty
  have hte' := hx.ty _ _ hee
  have h63 : xs.length + ys.length ≤ room := Nat.le_trans (Nat.le_mul_of_pos_right _ hte'.bpos) hroom
  obtain ⟨i, hi, his, hib, _, z, hz, hzp, hzr⟩ := hte'.info
  have hzr := hzr w (Own m H)
  have hzs : z.cells.size = ee.sh.csz := by simpa using hzr.len
  obtain ⟨a1, cp1, css, hq, hl1, hrc1, hfl1, hone1, hcell1⟩ := hd.flat hte'.pos
  cases hq
  obtain ⟨a, cp, dss, rfl, hl2, hrc2, hfl2, hone2, hcell2⟩ := hs.flat hte'.pos
  obtain ⟨r1, r2, r3, r4⟩ := append_row hl1 hrc1 hl2 hrc2
  have hnew : (xs ++ ys).length = xs.length + ys.length := by simp
  have h0 : 0 < dss.flatten.length := by rw [hfl2]; exact Nat.mul_pos hy hte'.pos
  obtain ⟨ad, rfl, _⟩ := hcell2 0 _ (List.getElem?_eq_getElem h0)
  have hc2 : ∀ j v, dss.flatten[j]? = some v → w.cell? (ad.add j) = some v := fun j v hj => by
    obtain ⟨ad', ha, h⟩ := hcell2 j v hj; cases ha; exact h
  obtain ⟨g1, g2, g3, g4⟩ := grown_row (w := w) hte' hzs (olds := css.flatten) (news := dss.flatten) (n := (xs ++ ys).length) (old := xs.length) (by rw [r3, r4, hnew, Nat.add_mul]) (by rw [hnew]; unfold maxLen; unfold room at h63; omega)
  rw [← List.flatten_append] at g4
  have fin : ∀ {S : Sem Value} {cur : Array Value} {cap : Nat}, S.run cx.P w = .ok (.slice (some ⟨w.heap.size, 0, none⟩) (xs ++ ys).length cap) (w.drew.alloc (.cells cur e)) → cur.size = cap * ee.sh.csz → (xs ++ ys).length ≤ cap → cap ≤ maxLen →
      cur.toList.take ((xs ++ ys).length * ee.sh.csz) = (css ++ dss).flatten → OpRes cx B w m H slot k S := by
    intro S cur cap hrun q1 q2 q3 q4
    obtain ⟨n1, n2, n3, n4, n5⟩ := newgrow hh hb hlt (e := ee.sh) (xs := xs ++ ys) (css := css ++ dss) (cap := cap) r1 r2 q1 q2 q3 q4 (wd := w.drew) rfl below_drew e
    rcases hkill with rfl | ⟨b, rfl, hbs⟩
    · exact ⟨_, _, _, _, _, hk, hrun, n1, n2, n3, n4, n5⟩
    · exact ⟨_, _, _, _, _, hk, hrun, n1.trans keep_kill, heap_kill n2, n3.keep keep_kill, n4, n5⟩
  unfold room at h63 hroom
  cases a0 with
  | some a0 =>
    have hc1 : ∀ j v, css.flatten[j]? = some v → w.cell? (a0.add j) = some v := fun j v hj => by
      obtain ⟨ad', ha, h⟩ := hcell1 j v hj; cases ha; exact h
    have hrun := run_append_grow (P := cx.P) w t ty e i z hu hi hz a0 xs.length xs.length css.flatten (by rw [his]; exact r3) hc1 ad ys.length cp dss.flatten (by rw [his]; exact hfl2) hc2 (by omega) (by omega) (growslice_fits (by omega) (by rw [hib]; exact hroom))
    rw [← hnew] at hrun
    exact fin hrun g1 g2 g3 g4
  | none =>
    have hx0 : xs = [] := by
      cases xs with
      | nil => rfl
      | cons x r =>
        have : 0 < css.flatten.length := by rw [hfl1]; exact Nat.mul_pos (by simp) hte'.pos
        obtain ⟨ad', ha, _⟩ := hcell1 0 _ (List.getElem?_eq_getElem this)
        cases ha
    subst hx0
    have hcs : css = [] := List.eq_nil_of_length_eq_zero (by simpa using hl1)
    subst hcs
    simp only [List.length_nil, Nat.zero_add] at hroom h63
    have hrun := run_append_nil (P := cx.P) w t ty e i z hu hi hz ad ys.length cp dss.flatten (by rw [his]; exact hfl2) hc2 hy (by omega) (by rw [hib]; omega)
    have e0 : (([] : List (List Value)).flatten.toArray ++ dss.flatten.toArray) = dss.flatten.toArray := by simp
    rw [e0] at g1 g4
    exact fin hrun g1 g2 g3 g4

/-- Nothing appended: the very same slice. -/
theorem run_append_same (hx : CxOK cx) {t ty e : TypeId} {te ee : TyE} (hte : cx.ty t = some te) (hty : te.ty = .sl e) (hee : cx.ty e = some ee) {a0 a : Option Addr} {n cap cp : Nat} (hn : n ≤ cap) :
    (Builtin.append_ #[t, t] ty #[.slice a0 n cap, .slice a 0 cp]).run cx.P w = .ok (.slice a0 n cap) w := by
  have hu := ty_sl hx hte hty
  obtain ⟨i, hi, his, _⟩ := (hx.ty _ _ hee).info
  have hf : (Builtin.firstCells ee.sh.csz 0 (.slice a 0 cp)).run cx.P w = .ok #[] w := by
    cases a with
    | none => rfl
    | some a => simp [Builtin.firstCells, loadCells, loadCellsFrom]
  cases a0 <;> simp [Builtin.append_, run_underlying hu, sizeOf, typeInfo, hi, his, Builtin.lenOf, hf, hn, storeCells]

theorem elems_sa_len (hh : HeapOK cx B w m H) (hrd : Rd rd H) {e : Sh} {b off l : Nat} {path : List Nat} {c : Value} {k : List D → Prop} (hv : RV w m H (.sa b path off l) c) (hg : elems rd e (.sa b path off l) k) : ∃ a cap, c = .slice a l cap := by
  obtain ⟨blk, hbl, hg⟩ := onS_elim (o := rd b) hg
  cases blk with
  | grow ver' e' xs => exact hg.elim
  | fix v =>
    obtain ⟨cs, h, hc⟩ := hv.elim rfl
    cases h with
    | sa _ _ _ _ c' ho hbb h =>
      obtain ⟨kk, cap, o, n, e, a, _, _, _, hc2, _⟩ := h v (hrd b _ hbl)
      have hc : c = c' := hc
      exact ⟨a, _, hc.trans hc2⟩

theorem appendV_sound (hx : CxOK cx) (hh : HeapOK cx B w m H) (hrd : Rd rd H) {slot : Nat} (hb : ¬ m.born slot) (hlt : slot < H.length) {t ty e : TypeId} {te ee : TyE} (hte : cx.ty t = some te) (hty : te.ty = .sl e) (hee : cx.ty e = some ee)
    {dst src : V} {d c : Value} {k : V → Eff → Prop} (hd : RV w m H dst d) (hc : RV w m H src c) (hg : appendV rd slot ee.sh ee.bytes dst src k) : OpRes cx B w m H slot k (Builtin.append_ #[t, t] ty #[d, c]) := by
  have hte' := hx.ty _ _ hee
  have h63 : ∀ n : Nat, n * ee.bytes ≤ room → n ≤ 9223372036854775807 := fun n h => by
    have := Nat.le_trans (Nat.le_mul_of_pos_right n hte'.bpos) h
    unfold room at this; omega
  cases dst with
  | d x =>
    cases x with
    | nils =>
      have := hd.nils_inv
      subst this
      unfold appendV at hg
      obtain ⟨ys, hg1, hs⟩ := elems_sound hh hrd hc hg
      obtain ⟨hr, hk⟩ := onT_elim hg1
      have hr : ys.length * ee.bytes ≤ room := by simpa using hr
      exact append_nils hx hh hb hlt hte hty hee hs hr (h63 _ hr) hk
    | ro e' tt xs =>
      cases tt with
      | false => exact hg.elim
      | true =>
        obtain ⟨hbe, hg⟩ := onT_elim hg
        have he := Sh.beq_eq _ _ hbe
        subst he
        obtain ⟨ys, hg2, hs⟩ := elems_sound hh hrd hc hg
        obtain ⟨hr, hk⟩ := onT_elim hg2
        have hr : (xs.length + ys.length) * ee.bytes ≤ room := by simpa using hr
        obtain ⟨a0, cap, rfl, hcap, htt, _⟩ := ro_elem hd hte'.pos
        have hcap := htt rfl
        subst hcap
        have hsd := ro_slAt hd
        cases ys with
        | nil =>
          obtain ⟨a, cp, css, rfl, _⟩ := hs
          exact POK.res hh ⟨_, _, hk, run_append_same hx hte hty hee (Nat.le_refl _), hd⟩
        | cons y ys => exact append_full hx hh hb hlt hte hty hee hsd hs (by simp) hr hk (.inl rfl)
    | _ => exact hg.elim
  | sl b off ver =>
    obtain ⟨blk, hbl, hg⟩ := onS_elim hg
    cases blk with
    | fix v => exact hg.elim
    | grow ver' e' xs =>
      obtain ⟨hev, hg1⟩ := onE_elim hg
      obtain ⟨hbe, hg2⟩ := onT_elim hg1
      obtain ⟨ho, hg3⟩ := onE_elim hg2
      clear hg hg1 hg2
      have he := Sh.beq_eq _ _ hbe
      subst he; subst ho; subst hev
      obtain ⟨ys, hg4, hs⟩ := elems_sound hh hrd hc hg3
      obtain ⟨hr, hk⟩ := onT_elim hg4
      have hr : (xs.length + ys.length) * ee.bytes ≤ room := by simpa using hr
      exact append_own hx hh hte hty hee (hrd b _ hbl) hd hs hr (h63 _ hr) hk
  | sa b path off len =>
    obtain ⟨blk, hbl, hg⟩ := onS_elim hg
    cases blk with
    | grow ver' e' xs => exact hg.elim
    | fix v =>
      have hl := hrd b _ hbl
      obtain ⟨u, hk', hg2⟩ := getV_lin path v hg
      cases u with
      | d y =>
        cases y with
        | arr n e' xs =>
          obtain ⟨kk, cap, cur, o, a, hi2, hr, hrv, hp, hle, hxl, hsz, hra, rfl, ha, hsd⟩ := slAt_sa hh hl hd hg2 (fun u hu => hu)
          obtain ⟨hon, hg3⟩ := onE_elim hk'
          obtain ⟨hbe, hg4⟩ := onT_elim hg3
          clear hk' hg3 hg
          have he := Sh.beq_eq _ _ hbe
          subst he
          obtain ⟨ys, hg5, hs⟩ := elems_sound hh hrd hc hg4
          obtain ⟨hroom, hk⟩ := onT_elim hg5
          have hroom : (len + ys.length) * ee.bytes ≤ room := by simpa using hroom
          have hcl : (cutL off len n xs).length = len := by rw [cutL_eq hxl]; simp; omega
          have hnl : n - off = len := by omega
          rw [hnl] at hsd ⊢
          have hne : b ≠ slot := by rintro rfl; exact hb (hh.born _ _ hl)
          have kill : path = [] → off = 0 → k (.sl slot 0 0) [(slot, some (.grow 0 ee.sh (xs ++ ys))), (b, none)] → OpRes cx B w m H slot k (Builtin.append_ #[t, t] ty #[.slice a len len, c]) := by
            intro hp0 ho0 hkk
            clear hk
            subst hp0; subst ho0
            have hln : len = n := by omega
            subst hln
            have hxs : cutL 0 len len xs = xs := by rw [cutL_eq hxl]; simp [← hxl]
            rw [hxs] at hsd
            rw [← hxl] at hsd ⊢
            cases ys with
            | cons y ys => exact append_full hx hh hb hlt hte hty hee hsd hs (by simp) (by rw [hxl]; exact hroom) hkk (.inr ⟨b, rfl, hne⟩)
            | nil =>
              obtain ⟨a2, cp, _, rfl, _⟩ := hs
              have ho : o = 0 := by simp [poff] at hp; exact hp.1.symm
              have hvs : v.sh = .arr len ee.sh := by simp [poff] at hp; exact hp.2
              subst ho
              have hcz : cur.size = len * ee.sh.csz := by have := hrv.len; rw [hvs] at this; simpa [Sh.csz] using this
              rw [List.drop_zero, ← hcz, show cur.size = cur.toList.length from by simp, List.take_length] at hra
              obtain ⟨cl, hcl0⟩ : ∃ cl, cur.toList = cl := ⟨_, rfl⟩
              rw [hcl0] at hra
              cases hra with
              | arr _ _ _ css hl1 hn1 hrc1 =>
                have hkm : Keep w m H w (m.add slot kk len) ((H.set slot (some (.grow 0 ee.sh (xs ++ [])))).set b none) := keep_move hb hl hi2
                have h63 := h63 _ hroom
                have hx2 : HeapOK cx B w (m.add slot kk len) ((H.set slot (some (.grow 0 ee.sh (xs ++ [])))).set b none) :=
                  heap_move hh hb hlt hl hi2 (.grow 0 ee.sh (xs ++ []) kk len cur css (by simp [M.add]) hr hcz (by simp [hxl]) (by simp at h63; unfold maxLen; omega) (by simpa using hl1) (fun i x cs p q => (hrc1 i x cs (by simpa using p) q).mono hkm.cell)
                    (by rw [List.append_nil, hxl, ← hcz, hcl0]; rw [show cur.size = css.flatten.length from by rw [← hcl0]; simp]; exact List.take_length))
                refine ⟨_, _, _, w, m.add slot kk len, hkk, run_append_same hx hte hty hee (Nat.le_refl _), hkm, hx2, ?_, Below.refl B w, fun i h => h.symm⟩
                refine .one_cell (.sl slot 0 0 _ rfl (.inl rfl) fun ver' e' xs' hx' => ?_) rfl
                have := live_inj (live_set_ne (Ne.symm hne) (live_set_self hlt)) hx'
                cases this
                refine ⟨Nat.le_refl _, fun _ => ⟨Nat.zero_le _, .inr ⟨kk, len, a, by simp [M.add], by simp [hxl], by simp [hxl], fun h => ?_⟩⟩⟩
                have := ha h
                simpa using this
          split at hk
          · -- the source is an array of some length
            obtain ⟨a2, cp, hcc⟩ := elems_sa_len hh hrd hc hg4
            obtain ⟨a3, cp3, css3, hcc3, _⟩ := hs
            rw [hcc3] at hcc
            have hyl : 0 < ys.length := by injection hcc with _ h _; omega
            have hsd2 : SlAt w m H ee.sh (cutL off len n xs) (.slice a (cutL off len n xs).length (cutL off len n xs).length) := by rw [hcl]; exact hsd
            have hfin := append_full (ty := ty) hx hh hb hlt hte hty hee hsd2 ⟨a3, cp3, css3, hcc3, ‹_›⟩ hyl (by rw [hcl]; exact hroom) hk (.inl rfl)
            rw [hcl] at hfin
            exact hfin
          · split at hk
            · exact kill rfl rfl hk
            · exact hk.elim
        | _ => exact hk'.elim
      | _ => exact hk'.elim
  | _ => exact hg.elim

end

end Go.Fw
