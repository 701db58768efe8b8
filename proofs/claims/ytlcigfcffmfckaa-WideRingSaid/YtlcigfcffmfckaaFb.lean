/-
Slices built and made, appended to, copied into. No conditions.
-/
import Derived.Test.YtlcigfcffmfckaaFa
import Derived.Laws.AppendOwn
namespace Go.Fw
set_option linter.unusedVariables false
set_option linter.unusedSimpArgs false
open Go.RowKit

section
variable {cx : Cx} {B : Nat} {w : World} {m : M} {H : Heap} {rd : Nat → Option Blk}

theorem made_flat (z : Array Value) : ∀ (n : Nat), (madeCells z (n * z.size)).toList = (List.replicate n z.toList).flatten := by
  intro n
  induction n with
  | zero => simp [madeCells]
  | succ n ih =>
    rw [List.replicate_succ', List.flatten_append, ← ih]
    simp only [madeCells, Array.toList_map, Array.toList_range, List.flatten_cons, List.flatten_nil, List.append_nil]
    rw [Nat.succ_mul, List.range_add, List.map_append]
    congr 1
    rw [List.map_map]
    apply List.ext_getElem?
    intro i
    rw [List.getElem?_map]
    by_cases hi : i < z.size
    · rw [List.getElem?_range hi]
      simp [Nat.mul_add_mod_self_right, Nat.mod_eq_of_lt hi, hi]
    · rw [List.getElem?_eq_none (by simpa using hi), List.getElem?_eq_none (by simpa using hi)]
      rfl

theorem rep_css {e : Sh} {x : D} {cs : List Value} {own : Nat → Prop} (h : RC w own e x cs) (n : Nat) : ∀ (i : Nat) y ds, (List.replicate n x)[i]? = some y → (List.replicate n cs)[i]? = some ds → RC w own e y ds := by
  intro i y ds a b
  rw [List.getElem?_replicate] at a b
  split at a <;> cases a
  rename_i hi
  rw [if_pos hi] at b
  cases b
  exact h

theorem csz_rep (n i : Nat) (e : Sh) (hi : i ≤ n) : Sh.cszs ((List.replicate n e).take i) = i * e.csz := by
  rw [Sh.cszs_eq, List.take_replicate, List.map_replicate, Nat.min_eq_left hi]
  simp

theorem buildSlice_sound (hx : CxOK cx) (hh : HeapOK cx B w m H) {slot : Nat} (hb : ¬ m.born slot) (hlt : slot < H.length) {ρ : Operand → V} {ρc : Operand → Value} (hρ : RO w m H ρ ρc) {t e : TypeId} {te ee : TyE} (hte : cx.ty t = some te) (hty : te.ty = .sl e)
    (hee : cx.ty e = some ee) {len : Nat} (h24 : len * ee.sh.csz ≤ 16777216) {parts : List (Nat × Operand)} {k : V → Eff → Prop}
    (hg : fillV ρ parts ((List.replicate len ee.zero).map V.d) fun l => onS (allD l) fun ds => k (.sl slot 0 0) [(slot, some (.grow 0 ee.sh ds))]) :
    OpRes cx B w m H slot k (Instr.buildSlice t len (parts.map fun p => (p.1, ρc p.2)).toArray) := by
  have hu := ty_sl hx hte hty
  have hte' := hx.ty _ _ hee
  obtain ⟨z, hz, hzp, hzr⟩ := hte'.run_zero w
  have hzr := hzr w (Own m H)
  have hzl := hzr.len
  have hpos := hte'.pos
  have hzs : z.cells.size = ee.sh.csz := by simpa using hzl
  have hpl2 : ∀ (i : Nat) s, (List.replicate len ee.sh)[i]? = some s → some (i * ee.sh.csz, ee.sh.csz) = some (Sh.cszs ((List.replicate len ee.sh).take i), s.csz) := by
    intro i s hs
    rw [List.getElem?_replicate] at hs
    split at hs <;> cases hs
    rw [csz_rep _ _ _ (by omega)]
  obtain ⟨l', css', q1, q2, q3, q4, q5⟩ := fill_sound hρ (place := fun i => some (i * ee.sh.csz, ee.sh.csz)) hpl2 parts ((List.replicate len ee.zero).map V.d) (List.replicate len z.cells.toList) (by simp) (by simp) (fun i s x cs a b c => by
    rw [List.getElem?_map, Option.map_eq_some_iff] at b
    obtain ⟨y, hy, rfl⟩ := b
    rw [List.getElem?_replicate] at a
    split at a <;> cases a
    exact .d _ _ _ (rep_css hzr len i y cs hy c)) hg
  obtain ⟨ds, hds, hk⟩ := onS_elim q1
  have hld := allD_some hds
  subst hld
  have hlen : ds.length = len := by simpa using q4.symm
  have hrc : ∀ (i : Nat) x cs, ds[i]? = some x → css'[i]? = some cs → RC w (Own m H) ee.sh x cs := fun i x cs a b => by
    have hi := (List.getElem?_eq_some_iff.1 a).1
    exact (q5 i ee.sh (.d x) cs (by rw [List.getElem?_replicate, if_pos (by omega)]) (by rw [List.getElem?_map, a]; rfl) b).of_d
  have hcl : css'.length = ds.length := by simpa using q3
  have hsz : css'.flatten.length = len * ee.sh.csz := by rw [len_flat, sum_const (arr_lens hcl hrc), hcl, hlen]
  have hm : len ≤ maxLen := by
    have : len * 1 ≤ len * ee.sh.csz := Nat.mul_le_mul_left _ hpos
    unfold maxLen; omega
  obtain ⟨n1, n2, n3, n4, n5⟩ := newgrow hh hb hlt (e := ee.sh) (xs := ds) (css := css') (cur := css'.flatten.toArray) (cap := len) hcl hrc (by simpa using hsz) (by omega) hm (by rw [hlen]; rw [← hsz, List.take_length]) rfl (Below.refl B w) e
  rw [hlen] at n3
  refine ⟨_, _, _, _, _, hk, ?_, n1, n2, n3, n4, n5⟩
  have hfl : ((Array.range (len * ee.sh.csz)).map (z.cells[· % z.cells.size]!)) = (List.replicate len z.cells.toList).flatten.toArray := by
    have := made_flat z.cells len
    rw [hzs] at this
    apply Array.ext'
    rw [← this, madeCells]
  have hno : ¬ (len * ee.sh.csz > 2 ^ 24) := by omega
  unfold Instr.buildSlice
  simp only [Sem.run_bind, run_underlying hu, Result.andThen_ok, hte'.run_sizeOf w]
  rw [if_neg hno]
  by_cases h0 : len * ee.sh.csz = 0
  · have hl0 : len = 0 := by
      rcases Nat.mul_eq_zero.1 h0 with h | h
      · exact h
      · omega
    rw [if_pos h0, Sem.run_bind, Sem.run_pure, Result.andThen_ok]
    have e0 : ((Array.range (len * ee.sh.csz)).map ((#[] : Array Value)[· % (#[] : Array Value).size]!)) = (List.replicate len z.cells.toList).flatten.toArray := by
      rw [h0, hl0]; simp
    rw [e0, q2]
    simp [newRow, newObj]
    rfl
  · rw [if_neg h0]
    simp only [Sem.run_bind, Sem.run_pure, Result.andThen_ok, hz]
    rw [hfl, q2]
    simp [newRow, newObj]
    rfl

theorem makeSlice_sound (hx : CxOK cx) (hh : HeapOK cx B w m H) {slot : Nat} (hb : ¬ m.born slot) (hlt : slot < H.length) {t e : TypeId} {te ee : TyE} (hte : cx.ty t = some te) (hty : te.ty = .sl e)
    (hee : cx.ty e = some ee) {kl kc : IntKind} {n c : Int} (hn : 0 ≤ n) (hnc : n ≤ c) (hbytes : ee.bytes * c ≤ 281474976710656) (h63 : c ≤ 9223372036854775807) {k : V → Eff → Prop}
    (hk : k (.sl slot 0 0) [(slot, some (.grow 0 ee.sh (List.replicate n.toNat ee.zero)))]) : OpRes cx B w m H slot k (Instr.makeSlice t (.int kl n) (.int kc c)) := by
  have hu := ty_sl hx hte hty
  have hte' := hx.ty _ _ hee
  obtain ⟨i, hi, his, hib, _, z, hz, hzp, hzr⟩ := hte'.info
  have hzr := hzr w (Own m H)
  have hzs : z.cells.size = ee.sh.csz := by simpa using hzr.len
  have hrun := run_make (P := cx.P) w t e i z hu hi hz kl kc n c hn hnc (by rw [hib]; exact hbytes) h63
  rw [his] at hrun
  have hcur := made_flat z.cells c.toNat
  rw [hzs] at hcur
  have hle : n.toNat ≤ c.toNat := by omega
  obtain ⟨n1, n2, n3, n4, n5⟩ := newgrow hh hb hlt (e := ee.sh) (xs := List.replicate n.toNat ee.zero) (css := List.replicate n.toNat z.cells.toList) (cur := madeCells z.cells (c.toNat * ee.sh.csz)) (cap := c.toNat) (by simp) (rep_css hzr _)
    (by simp [size_madeCells]) (by simpa using hle) (by unfold maxLen; omega) (by
      rw [hcur]
      simp only [List.length_replicate]
      have := flat_take (css := List.replicate c.toNat z.cells.toList) (m := ee.sh.csz) n.toNat (fun cs hcs => by rw [List.mem_replicate] at hcs; rw [hcs.2]; simpa using hzs) (by simpa using hle)
      rw [← this, List.take_replicate, Nat.min_eq_left hle]) rfl (Below.refl B w) e
  rw [List.length_replicate] at n3
  exact ⟨_, _, _, _, _, hk, hrun, n1, n2, n3, n4, n5⟩

/-! Append -/

theorem SlAt.flat {e : Sh} {ys : List D} {c : Value} (h : SlAt w m H e ys c) (hpos : 0 < e.csz) :
    ∃ (a : Option Addr) (cap : Nat) (css : List (List Value)), c = .slice a ys.length cap ∧ css.length = ys.length ∧ (∀ (i : Nat) x cs, ys[i]? = some x → css[i]? = some cs → RC w (Own m H) e x cs) ∧
      css.flatten.length = ys.length * e.csz ∧ (∀ c ∈ css.flatten, c.oneCell' = true) ∧ (∀ (j : Nat) cc, css.flatten[j]? = some cc → ∃ ad, a = some ad ∧ w.cell? (ad.add j) = some cc) := by
  obtain ⟨a, cap, css, rfl, hcap, hl, h1, h2⟩ := h
  have hlen := arr_lens hl h1
  refine ⟨a, cap, css, rfl, hl, h1, by rw [len_flat, sum_const hlen, hl], fun c hc => ?_, fun j cc hj => ?_⟩
  · obtain ⟨l, hl', hc⟩ := List.mem_flatten.1 hc
    obtain ⟨i, hi, he⟩ := List.getElem_of_mem hl'
    exact (h1 i (ys[i]'(by omega)) l (List.getElem?_eq_getElem (by omega)) (by rw [← he]; exact List.getElem?_eq_getElem hi)).one c hc
  · have hjl := (List.getElem?_eq_some_iff.1 hj).1
    rw [len_flat, sum_const hlen] at hjl
    have hi : j / e.csz < css.length := Nat.div_lt_of_lt_mul (by rw [Nat.mul_comm]; exact hjl)
    have hc : css[j / e.csz]? = some css[j / e.csz] := List.getElem?_eq_getElem hi
    obtain ⟨f1, f2⟩ := flat_get hc
    have hll := hlen _ (List.getElem_mem hi)
    rw [sum_take_const hlen (by omega), hll] at f1 f2
    have hm := Nat.mod_lt j hpos
    have h3 : (css[j / e.csz])[j % e.csz]? = some cc := by
      rw [← f1, List.getElem?_take, if_pos hm, List.getElem?_drop]
      rw [show j / e.csz * e.csz + j % e.csz = j from by rw [Nat.mul_comm]; exact Nat.div_add_mod j e.csz]
      exact hj
    obtain ⟨ad, ha, hc⟩ := h2 _ _ _ _ hc h3
    rw [show j / e.csz * e.csz + j % e.csz = j from by rw [Nat.mul_comm]; exact Nat.div_add_mod j e.csz] at hc
    exact ⟨ad, ha, hc⟩

/-- Appended within the room that there is. -/
theorem run_append_in {t ty e : TypeId} {ee : TyE} (hu : cx.P.underlying t = some (.slice e)) (hee : TyP cx e ee) {g n cap : Nat} {cur : Array Value} (hr : Row w g cur)
    {a : Option Addr} {mm c : Nat} {news : List Value} (hl : news.length = mm * ee.sh.csz) (hnews : ∀ (j : Nat) u, news[j]? = some u → ∃ ad, a = some ad ∧ w.cell? (ad.add j) = some u) (h1 : ∀ u ∈ news, u.oneCell' = true)
    (hroom : n + mm ≤ cap) (hfit : n * ee.sh.csz + news.length ≤ cur.size) :
    (Builtin.append_ #[t, t] ty #[.slice (some ⟨g, 0, none⟩) n cap, .slice a mm c]).run cx.P w =
      .ok (.slice (some ⟨g, 0, none⟩) (n + mm) cap) (w.setRow g (cur.toList.take (n * ee.sh.csz) ++ news ++ cur.toList.drop (n * ee.sh.csz + news.length)).toArray) := by
  obtain ⟨tt, hr⟩ := hr
  obtain ⟨i, hi, his, _⟩ := hee.info
  have hst := run_storeCells_at cx.P g (n * ee.sh.csz) tt news 0 cur w hr (by simpa using hfit) h1
  simp only [Nat.add_zero] at hst
  have hf : (Builtin.firstCells ee.sh.csz mm (.slice a mm c)).run cx.P w = .ok news.toArray w := by
    cases a with
    | some a =>
      have := run_firstCells_some (P := cx.P) w ee.sh.csz mm a mm c news hl (fun j u hj => by obtain ⟨ad, ha, h⟩ := hnews j u hj; cases ha; exact h)
      exact this
    | none =>
      have : news = [] := by
        cases news with
        | nil => rfl
        | cons x r => obtain ⟨ad, ha, _⟩ := hnews 0 x rfl; cases ha
      subst this
      rfl
  simp [Builtin.append_, run_underlying hu, sizeOf, typeInfo, hi, his, Builtin.lenOf, hroom, hf, Addr.add_lit, hst]

/-- A new row behind an append. -/
theorem append_row {e : Sh} {xs ys : List D} {css dss : List (List Value)} {own : Nat → Prop} (hl : css.length = xs.length) (h : ∀ (i : Nat) x cs, xs[i]? = some x → css[i]? = some cs → RC w own e x cs)
    (hl2 : dss.length = ys.length) (h2 : ∀ (i : Nat) x cs, ys[i]? = some x → dss[i]? = some cs → RC w own e x cs) :
    (css ++ dss).length = (xs ++ ys).length ∧ (∀ (i : Nat) x cs, (xs ++ ys)[i]? = some x → (css ++ dss)[i]? = some cs → RC w own e x cs) ∧ css.flatten.length = xs.length * e.csz ∧ dss.flatten.length = ys.length * e.csz := by
  refine ⟨by simp [hl, hl2], fun i x cs a b => ?_, by rw [len_flat, sum_const (arr_lens hl h), hl], by rw [len_flat, sum_const (arr_lens hl2 h2), hl2]⟩
  rw [List.getElem?_append] at a b
  rw [hl] at b
  split at a
  · rename_i hi; rw [if_pos hi] at b; exact h i x cs a b
  · rename_i hi; rw [if_neg hi] at b; exact h2 _ x cs a b

/-- What an append that grows leaves: a row of its own. -/
theorem grown_row {e : TypeId} {ee : TyE} (hee : TyP cx e ee) {z : Value} (hzs : z.cells.size = ee.sh.csz) {olds news : List Value} {n old : Nat} (hl : olds.length + news.length = n * ee.sh.csz) (h63 : n ≤ maxLen) :
    let cur := olds.toArray ++ news.toArray ++ Builtin.zeroCells z.cells (grownCap w n old e - n)
    cur.size = grownCap w n old e * ee.sh.csz ∧ n ≤ grownCap w n old e ∧ grownCap w n old e ≤ maxLen ∧ cur.toList.take (n * ee.sh.csz) = olds ++ news := by
  have hge := grownCap_ge w n old e
  refine ⟨?_, hge, grownCap_le_maxLen w n old e h63, ?_⟩
  · simp only [Array.size_append, List.size_toArray, size_zeroCells, hzs]
    rw [hl, ← Nat.add_mul]
    congr 1
    omega
  · simp only [Array.toList_append, List.append_assoc]
    rw [← List.append_assoc, ← hl, ← List.length_append]
    exact List.take_left

theorem below_drew : Below B w w.drew := (Below.refl B w).drew

/-- Appended to nothing. -/
theorem append_nils (hx : CxOK cx) (hh : HeapOK cx B w m H) {slot : Nat} (hb : ¬ m.born slot) (hlt : slot < H.length) {t ty e : TypeId} {te ee : TyE} (hte : cx.ty t = some te) (hty : te.ty = .sl e) (hee : cx.ty e = some ee)
    {ys : List D} {c : Value} (hs : SlAt w m H ee.sh ys c) (hroom : ys.length * ee.bytes ≤ room) (h63 : ys.length ≤ 9223372036854775807) {k : V → Eff → Prop} (hk : k (.sl slot 0 0) [(slot, some (.grow 0 ee.sh ys))]) :
    OpRes cx B w m H slot k (Builtin.append_ #[t, t] ty #[.slice none 0 0, c]) := by
  have hu := ty_sl hx hte hty
  have hte' := hx.ty _ _ hee
  obtain ⟨i, hi, his, hib, _, z, hz, hzp, hzr⟩ := hte'.info
  have hzr := hzr w (Own m H)
  have hzs : z.cells.size = ee.sh.csz := by simpa using hzr.len
  obtain ⟨a, cap, css, rfl, hl, hrc, hfl, hone, hcell⟩ := hs.flat hte'.pos
  cases ys with
  | nil =>
    refine ⟨_, _, .slice none 0 0, w, m.addNone slot, hk, ?_, keep_newNone hb, heap_newNone hh hb hlt, ?_, Below.refl B w, fun b h => h.symm⟩
    · have hf : (Builtin.firstCells ee.sh.csz 0 (.slice a 0 cap)).run cx.P w = .ok #[] w := by
        cases a with
        | none => rfl
        | some a => simp [Builtin.firstCells, loadCells, loadCellsFrom]
      simp [Builtin.append_, run_underlying hu, sizeOf, typeInfo, hi, his, Builtin.lenOf, hf]
    · refine .one_cell (.sl slot 0 0 _ rfl (.inl rfl) fun ver' e' xs' hx' => ?_) rfl
      have := live_inj (live_set_self hlt) hx'
      cases this
      exact ⟨Nat.le_refl _, fun _ => ⟨Nat.zero_le _, .inl ⟨by simp [M.addNone], rfl⟩⟩⟩
  | cons y ys =>
    have h0 : 0 < css.flatten.length := by rw [hfl]; exact Nat.mul_pos (by simp) hte'.pos
    obtain ⟨ad, rfl, _⟩ := hcell 0 _ (List.getElem?_eq_getElem h0)
    have hc2 : ∀ j v, css.flatten[j]? = some v → w.cell? (ad.add j) = some v := fun j v hj => by
      obtain ⟨ad', ha, h⟩ := hcell j v hj; cases ha; exact h
    have hrun := run_append_nil (P := cx.P) w t ty e i z hu hi hz ad (y :: ys).length cap css.flatten (by rw [his]; exact hfl) hc2 (by simp) (by omega) (by rw [hib]; unfold room at hroom; omega)
    obtain ⟨g1, g2, g3, g4⟩ := grown_row (w := w) hte' hzs (olds := []) (news := css.flatten) (n := (y :: ys).length) (old := 0) (by simpa using hfl) (by unfold maxLen; omega)
    simp only [List.nil_append, Array.empty_append] at g1 g2 g3 g4
    obtain ⟨n1, n2, n3, n4, n5⟩ := newgrow hh hb hlt (e := ee.sh) (xs := y :: ys) (css := css) (cap := grownCap w (y :: ys).length 0 e) hl hrc g1 g2 g3 g4 (wd := w.drew) rfl below_drew e
    exact ⟨_, _, _, _, _, hk, hrun, n1, n2, n3, n4, n5⟩

/-- What an append that moves its row leaves. -/
theorem append_re (hh : HeapOK cx B w m H) {slot b ver : Nat} {e0 e : Sh} {xs zs : List D} (hlb : live H b (.grow ver e0 xs)) {k : V → Eff → Prop} (hk : k (.sl b 0 (ver + 1)) [(b, some (.grow (ver + 1) e zs))])
    {S : Sem Value} {cur : Array Value} {cap : Nat} {t : TypeId} (hrun : S.run cx.P w = .ok (.slice (some ⟨w.heap.size, 0, none⟩) zs.length cap) (w.drew.alloc (.cells cur t))) {css : List (List Value)} (hl : css.length = zs.length)
    (h : ∀ (i : Nat) x cs, zs[i]? = some x → css[i]? = some cs → RC w (Own m H) e x cs) (hs : cur.size = cap * e.csz) (hc : zs.length ≤ cap) (hm : cap ≤ maxLen) (ht : cur.toList.take (zs.length * e.csz) = css.flatten) :
    OpRes cx B w m H slot k S := by
  have hw : w.drew.heap = w.heap := rfl
  have hkd : Keep w m H w.drew m H := keep_world hw
  have hhd := heap_world hh hw
  have hk0 : Keep w.drew m H (w.drew.alloc (.cells cur t)) (m.add b w.drew.heap.size cap) (H.set b (some (.grow (ver + 1) e zs))) := keep_re hlb (by omega) cap
  have hrow : Row (w.drew.alloc (.cells cur t)) w.drew.heap.size cur := ⟨t, heap_alloc_new w.drew _⟩
  have hkk := hkd.trans hk0
  have hn := heap_re (o := .cells cur t) (cap := cap) (ver' := ver + 1) (e' := e) (xs' := zs) hhd hlb (by omega) (.grow (ver + 1) e zs w.drew.heap.size cap cur css (by simp [M.add]) hrow hs hc hm hl (fun i x cs a b => (h i x cs a b).mono hkk.cell) ht)
  have hlt := live_lt hlb
  refine ⟨_, _, _, _, m.add b w.drew.heap.size cap, hk, hrun, hkk, hn, ?_, below_drew.trans (below_alloc hhd.size _), fun i hi => ?_⟩
  · refine .one_cell (.sl b 0 (ver + 1) _ rfl (.inl rfl) fun ver' e' xs' hx => ?_) rfl
    have := live_inj (live_set_self hlt) hx
    cases this
    exact ⟨Nat.le_refl _, fun _ => ⟨Nat.zero_le _, .inr ⟨w.heap.size, cap, _, by simp [M.add, hw], hc, rfl, fun _ => by simp⟩⟩⟩
  · rcases hi with rfl | hi
    · exact .inl (hh.born _ _ hlb)
    · exact .inl hi

/-- Appended to a growing slice of the call's own. -/
theorem append_own (hx : CxOK cx) (hh : HeapOK cx B w m H) {slot b ver : Nat} {t ty e : TypeId} {te ee : TyE} (hte : cx.ty t = some te) (hty : te.ty = .sl e) (hee : cx.ty e = some ee)
    {xs ys : List D} (hlb : live H b (.grow ver ee.sh xs)) {d c : Value} (hd : RV w m H (.sl b 0 ver) d) (hs : SlAt w m H ee.sh ys c) (hroom : (xs.length + ys.length) * ee.bytes ≤ room) (h63 : xs.length + ys.length ≤ 9223372036854775807)
    {k : V → Eff → Prop} (hk : k (.sl b 0 (ver + 1)) [(b, some (.grow (ver + 1) ee.sh (xs ++ ys)))]) :
    OpRes cx B w m H slot k (Builtin.append_ #[t, t] ty #[d, c]) := by
  have hu := ty_sl hx hte hty
  have hte' := hx.ty _ _ hee
  obtain ⟨i, hi, his, hib, _, z, hz, hzp, hzr⟩ := hte'.info
  have hzr := hzr w (Own m H)
  have hzs : z.cells.size = ee.sh.csz := by simpa using hzr.len
  obtain ⟨a, cp, dss, rfl, hl2, hrc2, hfl2, hone2, hcell2⟩ := hs.flat hte'.pos
  have hlt := live_lt hlb
  have hbb := hh.born b _ hlb
  obtain ⟨cs, h, hc⟩ := hd.elim rfl
  cases h with
  | sl _ _ _ c' ho _ h =>
    have hc : d = c' := hc
    subst hc
    obtain ⟨_, h⟩ := h ver _ xs hlb
    obtain ⟨_, h⟩ := h rfl
    rcases h with ⟨hn, rfl⟩ | ⟨kk, cap, ad0, hi2, hcap, rfl, ha⟩
    · -- nothing there yet
      have hx0 : xs = [] := by
        cases hh.blk b _ hlb with
        | none => rfl
        | grow ver e xs k cap cur css h1 => rw [hn] at h1; cases h1
      subst hx0
      cases ys with
      | nil =>
        refine ⟨_, _, .slice none 0 0, w, m, hk, ?_, keep_none hlb (by omega), heap_none hh hlb (by omega) hn, ?_, Below.refl B w, fun b h => .inl h⟩
        · have hf : (Builtin.firstCells ee.sh.csz 0 (.slice a 0 cp)).run cx.P w = .ok #[] w := by
            cases a with
            | none => rfl
            | some a => simp [Builtin.firstCells, loadCells, loadCellsFrom]
          simp [Builtin.append_, run_underlying hu, sizeOf, typeInfo, hi, his, Builtin.lenOf, hf]
        · refine .one_cell (.sl b 0 (ver + 1) _ rfl hbb fun ver' e' xs' hx' => ?_) rfl
          have := live_inj (live_set_self hlt) hx'
          cases this
          exact ⟨Nat.le_refl _, fun _ => ⟨Nat.zero_le _, .inl ⟨hn, rfl⟩⟩⟩
      | cons y ys =>
        have h0 : 0 < dss.flatten.length := by rw [hfl2]; exact Nat.mul_pos (by simp) hte'.pos
        obtain ⟨ad, rfl, _⟩ := hcell2 0 _ (List.getElem?_eq_getElem h0)
        have hc2 : ∀ j v, dss.flatten[j]? = some v → w.cell? (ad.add j) = some v := fun j v hj => by
          obtain ⟨ad', ha, h⟩ := hcell2 j v hj; cases ha; exact h
        simp only [List.length_nil, Nat.zero_add] at hroom h63
        have hrun := run_append_nil (P := cx.P) w t ty e i z hu hi hz ad (y :: ys).length cp dss.flatten (by rw [his]; exact hfl2) hc2 (by simp) (by omega) (by rw [hib]; unfold room at hroom; omega)
        obtain ⟨g1, g2, g3, g4⟩ := grown_row (w := w) hte' hzs (olds := []) (news := dss.flatten) (n := (y :: ys).length) (old := 0) (by simpa using hfl2) (by unfold maxLen; omega)
        simp only [List.nil_append, Array.empty_append] at g1 g2 g3 g4
        exact append_re hh hlb hk hrun hl2 hrc2 g1 g2 g3 g4
    · cases hh.blk b _ hlb with
      | none ver e h1 => rw [hi2] at h1; cases h1
      | grow _ _ _ k' cap' cur css h1 hr hsz hcap' hm hl1 hrc1 ht1 =>
        rw [hi2] at h1; cases h1
        obtain ⟨r1, r2, r3, r4⟩ := append_row hl1 hrc1 hl2 hrc2
        have hcl : cur.toList.length = cur.size := by simp
        have hnew : (xs ++ ys).length = xs.length + ys.length := by simp
        by_cases hin : xs.length + ys.length ≤ cap
        · -- within the room
          have ha : ad0 = some ⟨kk, 0, none⟩ ∨ cap = 0 := by
            rcases Nat.eq_zero_or_pos cap with h | h
            · exact .inr h
            · have := ha h; simp at this; exact .inl this
          rcases ha with rfl | hcap0
          · have hfit : xs.length * ee.sh.csz + dss.flatten.length ≤ cur.size := by rw [r4, hsz, ← Nat.add_mul]; exact Nat.mul_le_mul_right _ hin
            have hrun := run_append_in (w := w) (ty := ty) (n := xs.length) (cap := cap) (c := cp) hu hte' hr hfl2 hcell2 hone2 hin hfit
            have hbk : BK m m b (.grow ver ee.sh xs) (.grow (ver + 1) ee.sh (xs ++ ys)) := .later _ _ _ _ _ _ (by omega)
            refine ⟨_, _, _, _, m, hk, hrun, keep_set hlb hi2 hbk, heap_set hh hlb hi2 hbk ?_, ?_, below_row (hh.lo b _ kk cap hlb hi2), fun i hi => .inl hi⟩
            · refine .grow (ver + 1) ee.sh (xs ++ ys) kk cap _ (css ++ dss) hi2 (row_setRow_self hr) ?_ (by omega) hm r1 (fun i x cs a b' => (r2 i x cs a b').mono (keep_set hlb hi2 hbk).cell) ?_
              · rw [← hsz]; simp only [List.size_toArray, List.length_append, List.length_take, List.length_drop, hcl]; omega
              · rw [hnew, List.flatten_append, ← ht1, Nat.add_mul, ← r4]
                have e1 : (cur.toList.take (xs.length * ee.sh.csz) ++ dss.flatten).length = xs.length * ee.sh.csz + dss.flatten.length := by
                  rw [List.length_append, List.length_take, hcl, Nat.min_eq_left (by omega)]
                rw [← e1]
                exact List.take_left
            · refine .one_cell (.sl b 0 (ver + 1) _ rfl hbb fun ver' e' xs' hx => ?_) rfl
              have := live_inj (live_set_self hlt) hx
              cases this
              exact ⟨Nat.le_refl _, fun _ => ⟨Nat.zero_le _, .inr ⟨kk, cap, _, hi2, by omega, by rw [hnew]; rfl, fun _ => by simp⟩⟩⟩
          · -- no room and nothing appended
            have hx0 : xs = [] := List.eq_nil_of_length_eq_zero (by omega)
            have hy0 : ys = [] := List.eq_nil_of_length_eq_zero (by omega)
            subst hx0; subst hy0
            subst hcap0
            have hbk : BK m m b (.grow ver ee.sh []) (.grow (ver + 1) ee.sh ([] ++ [])) := .later _ _ _ _ _ _ (by omega)
            have hself : w.setRow kk cur = w := by obtain ⟨tt, hrt⟩ := hr; exact setRow_self w kk cur tt (0, 0) hrt
            have kset : Keep w m H (w.setRow kk cur) m (H.set b (some (.grow (ver + 1) ee.sh ([] ++ [])))) := keep_set hlb hi2 hbk
            have hset : HeapOK cx B (w.setRow kk cur) m (H.set b (some (.grow (ver + 1) ee.sh ([] ++ [])))) := heap_set hh hlb hi2 hbk (.grow (ver + 1) ee.sh _ kk 0 cur [] hi2 (row_setRow_self hr) hsz (by simp) (by simp) (by simp) (fun i x cs a => by simp at a) (by simp))
            rw [hself] at kset hset
            refine ⟨_, _, .slice ad0 0 0, w, m, hk, ?_, kset, hset, ?_, Below.refl B w, fun i hi => .inl hi⟩
            · have hf : (Builtin.firstCells ee.sh.csz 0 (.slice a 0 cp)).run cx.P w = .ok #[] w := by
                cases a with
                | none => rfl
                | some a => simp [Builtin.firstCells, loadCells, loadCellsFrom]
              cases ad0 <;> simp [Builtin.append_, run_underlying hu, sizeOf, typeInfo, hi, his, Builtin.lenOf, hf, storeCells]
            · refine .one_cell (.sl b 0 (ver + 1) _ rfl hbb fun ver' e' xs' hx => ?_) rfl
              have := live_inj (live_set_self hlt) hx
              cases this
              exact ⟨Nat.le_refl _, fun _ => ⟨Nat.zero_le _, .inr ⟨kk, 0, _, hi2, by simp, rfl, fun h => by omega⟩⟩⟩
        · -- beyond it
          have hy0 : 0 < ys.length := by omega
          have h0 : 0 < dss.flatten.length := by rw [hfl2]; exact Nat.mul_pos hy0 hte'.pos
          obtain ⟨ad, rfl, _⟩ := hcell2 0 _ (List.getElem?_eq_getElem h0)
          have hc2 : ∀ j v, dss.flatten[j]? = some v → w.cell? (ad.add j) = some v := fun j v hj => by
            obtain ⟨ad', ha, h⟩ := hcell2 j v hj; cases ha; exact h
          obtain ⟨g1, g2, g3, g4⟩ := grown_row (w := w) hte' hzs (olds := css.flatten) (news := dss.flatten) (n := (xs ++ ys).length) (old := cap) (by rw [r3, r4, hnew, Nat.add_mul]) (by rw [hnew]; unfold maxLen; omega)
          rw [← List.flatten_append] at g4
          rcases Nat.eq_zero_or_pos cap with hcap0 | hcap0
          · have hx0 : xs = [] := List.eq_nil_of_length_eq_zero (by omega)
            subst hx0; subst hcap0
            have hcs : css = [] := List.eq_nil_of_length_eq_zero (by simpa using hl1)
            subst hcs
            simp only [List.length_nil, Nat.zero_add] at hroom h63
            cases ad0 with
            | none =>
              have hrun := run_append_nil (P := cx.P) w t ty e i z hu hi hz ad ys.length cp dss.flatten (by rw [his]; exact hfl2) hc2 hy0 (by omega) (by rw [hib]; unfold room at hroom; omega)
              have e0 : (([] : List (List Value)).flatten.toArray ++ dss.flatten.toArray) = dss.flatten.toArray := by simp
              rw [e0] at g1 g4
              exact append_re hh hlb hk hrun r1 r2 g1 g2 g3 g4
            | some ad0 =>
              have hrun := run_append_grow (P := cx.P) w t ty e i z hu hi hz ad0 0 0 [] (by simp) (fun j v hj => by simp at hj) ad ys.length cp dss.flatten (by rw [his]; exact hfl2) hc2 (by omega) (by omega) (growslice_fits (by omega) (by rw [hib, Nat.zero_add]; exact hroom))
              simp only [Nat.zero_add] at hrun
              exact append_re hh hlb hk hrun r1 r2 g1 g2 g3 g4
          · have ha := ha hcap0
            subst ha
            have hold : ∀ j v, css.flatten[j]? = some v → w.cell? ((⟨kk, 0 * ee.sh.csz, none⟩ : Addr).add j) = some v := fun j v hj => by
              rw [← ht1] at hj
              rw [addr_add, hr.cell]
              rw [List.getElem?_take] at hj
              split at hj
              · simpa using hj
              · cases hj
            have hrun := run_append_grow (P := cx.P) w t ty e i z hu hi hz ⟨kk, 0 * ee.sh.csz, none⟩ xs.length cap css.flatten (by rw [his]; exact r3) hold ad ys.length cp dss.flatten (by rw [his]; exact hfl2) hc2 (by omega) (by omega) (growslice_fits (by omega) (by rw [hib]; exact hroom))
            rw [← hnew] at hrun
            exact append_re hh hlb hk hrun r1 r2 g1 g2 g3 g4

/-- Appended, something, to a slice that is full: a new row. -/
theorem append_full (hx : CxOK cx) (hh : HeapOK cx B w m H) {slot : Nat} (hb : ¬ m.born slot) (hlt : slot < H.length) {t ty e : TypeId} {te ee : TyE} (hte : cx.ty t = some te) (hty : te.ty = .sl e) (hee : cx.ty e = some ee)
    {xs ys : List D} {a0 : Option Addr} {c : Value} (hd : SlAt w m H ee.sh xs (.slice a0 xs.length xs.length)) (hs : SlAt w m H ee.sh ys c) (hy : 0 < ys.length) (hroom : (xs.length + ys.length) * ee.bytes ≤ room)
    {k : V → Eff → Prop} {e' : Eff} (hk : k (.sl slot 0 0) ((slot, some (.grow 0 ee.sh (xs ++ ys))) :: e')) (hkill : e' = [] ∨ ∃ b, e' = [(b, none)] ∧ b ≠ slot) :
    OpRes cx B w m H slot k (Builtin.append_ #[t, t] ty #[.slice a0 xs.length xs.length, c]) := by
  have hu := ty_sl hx hte hty
  have hte' := hx.ty _ _ hee
  have h63 : xs.length + ys.length ≤ room := Nat.le_trans (Nat.le_mul_of_pos_right _ hte'.bpos) hroom
  obtain ⟨i, hi, his, hib, _, z, hz, hzp, hzr⟩ := hte'.info
  have hzr := hzr w (Own m H)
  have hzs : z.cells.size = ee.sh.csz := by simpa using hzr.len
  obtain ⟨a1, cp1, css, hq, hl1, hrc1, hfl1, hone1, hcell1⟩ := hd.flat hte'.pos
  cases hq
  obtain ⟨a, cp, dss, rfl, hl2, hrc2, hfl2, hone2, hcell2⟩ := hs.flat hte'.pos
  obtain ⟨r1, r2, r3, r4⟩ := append_row hl1 hrc1 hl2 hrc2
  have hnew : (xs ++ ys).length = xs.length + ys.length := by simp
  have h0 : 0 < dss.flatten.length := by rw [hfl2]; exact Nat.mul_pos hy hte'.pos
  obtain ⟨ad, rfl, _⟩ := hcell2 0 _ (List.getElem?_eq_getElem h0)
  have hc2 : ∀ j v, dss.flatten[j]? = some v → w.cell? (ad.add j) = some v := fun j v hj => by
    obtain ⟨ad', ha, h⟩ := hcell2 j v hj; cases ha; exact h
  obtain ⟨g1, g2, g3, g4⟩ := grown_row (w := w) hte' hzs (olds := css.flatten) (news := dss.flatten) (n := (xs ++ ys).length) (old := xs.length) (by rw [r3, r4, hnew, Nat.add_mul]) (by rw [hnew]; unfold maxLen; unfold room at h63; omega)
  rw [← List.flatten_append] at g4
  have fin : ∀ {S : Sem Value} {cur : Array Value} {cap : Nat}, S.run cx.P w = .ok (.slice (some ⟨w.heap.size, 0, none⟩) (xs ++ ys).length cap) (w.drew.alloc (.cells cur e)) → cur.size = cap * ee.sh.csz → (xs ++ ys).length ≤ cap → cap ≤ maxLen →
      cur.toList.take ((xs ++ ys).length * ee.sh.csz) = (css ++ dss).flatten → OpRes cx B w m H slot k S := by
    intro S cur cap hrun q1 q2 q3 q4
    obtain ⟨n1, n2, n3, n4, n5⟩ := newgrow hh hb hlt (e := ee.sh) (xs := xs ++ ys) (css := css ++ dss) (cap := cap) r1 r2 q1 q2 q3 q4 (wd := w.drew) rfl below_drew e
    rcases hkill with rfl | ⟨b, rfl, hbs⟩
    · exact ⟨_, _, _, _, _, hk, hrun, n1, n2, n3, n4, n5⟩
    · exact ⟨_, _, _, _, _, hk, hrun, n1.trans keep_kill, heap_kill n2, n3.keep keep_kill, n4, n5⟩
  unfold room at h63 hroom
  cases a0 with
  | some a0 =>
    have hc1 : ∀ j v, css.flatten[j]? = some v → w.cell? (a0.add j) = some v := fun j v hj => by
      obtain ⟨ad', ha, h⟩ := hcell1 j v hj; cases ha; exact h
    have hrun := run_append_grow (P := cx.P) w t ty e i z hu hi hz a0 xs.length xs.length css.flatten (by rw [his]; exact r3) hc1 ad ys.length cp dss.flatten (by rw [his]; exact hfl2) hc2 (by omega) (by omega) (growslice_fits (by omega) (by rw [hib]; exact hroom))
    rw [← hnew] at hrun
    exact fin hrun g1 g2 g3 g4
  | none =>
    have hx0 : xs = [] := by
      cases xs with
      | nil => rfl
      | cons x r =>
        have : 0 < css.flatten.length := by rw [hfl1]; exact Nat.mul_pos (by simp) hte'.pos
        obtain ⟨ad', ha, _⟩ := hcell1 0 _ (List.getElem?_eq_getElem this)
        cases ha
    subst hx0
    have hcs : css = [] := List.eq_nil_of_length_eq_zero (by simpa using hl1)
    subst hcs
    simp only [List.length_nil, Nat.zero_add] at hroom h63
    have hrun := run_append_nil (P := cx.P) w t ty e i z hu hi hz ad ys.length cp dss.flatten (by rw [his]; exact hfl2) hc2 hy (by omega) (by rw [hib]; omega)
    have e0 : (([] : List (List Value)).flatten.toArray ++ dss.flatten.toArray) = dss.flatten.toArray := by simp
    rw [e0] at g1 g4
    exact fin hrun g1 g2 g3 g4

/-- Nothing appended: the very same slice. -/
theorem run_append_same (hx : CxOK cx) {t ty e : TypeId} {te ee : TyE} (hte : cx.ty t = some te) (hty : te.ty = .sl e) (hee : cx.ty e = some ee) {a0 a : Option Addr} {n cap cp : Nat} (hn : n ≤ cap) :
    (Builtin.append_ #[t, t] ty #[.slice a0 n cap, .slice a 0 cp]).run cx.P w = .ok (.slice a0 n cap) w := by
  have hu := ty_sl hx hte hty
  obtain ⟨i, hi, his, _⟩ := (hx.ty _ _ hee).info
  have hf : (Builtin.firstCells ee.sh.csz 0 (.slice a 0 cp)).run cx.P w = .ok #[] w := by
    cases a with
    | none => rfl
    | some a => simp [Builtin.firstCells, loadCells, loadCellsFrom]
  cases a0 <;> simp [Builtin.append_, run_underlying hu, sizeOf, typeInfo, hi, his, Builtin.lenOf, hf, hn, storeCells]

theorem elems_sa_len (hh : HeapOK cx B w m H) (hrd : Rd rd H) {e : Sh} {b off l : Nat} {path : List Nat} {c : Value} {k : List D → Prop} (hv : RV w m H (.sa b path off l) c) (hg : elems rd e (.sa b path off l) k) : ∃ a cap, c = .slice a l cap := by
  obtain ⟨blk, hbl, hg⟩ := onS_elim (o := rd b) hg
  cases blk with
  | grow ver' e' xs => exact hg.elim
  | fix v =>
    obtain ⟨cs, h, hc⟩ := hv.elim rfl
    cases h with
    | sa _ _ _ _ c' ho hbb h =>
      obtain ⟨kk, cap, o, n, e, a, _, _, _, hc2, _⟩ := h v (hrd b _ hbl)
      have hc : c = c' := hc
      exact ⟨a, _, hc.trans hc2⟩

theorem appendV_sound (hx : CxOK cx) (hh : HeapOK cx B w m H) (hrd : Rd rd H) {slot : Nat} (hb : ¬ m.born slot) (hlt : slot < H.length) {t ty e : TypeId} {te ee : TyE} (hte : cx.ty t = some te) (hty : te.ty = .sl e) (hee : cx.ty e = some ee)
    {dst src : V} {d c : Value} {k : V → Eff → Prop} (hd : RV w m H dst d) (hc : RV w m H src c) (hg : appendV rd slot ee.sh ee.bytes dst src k) : OpRes cx B w m H slot k (Builtin.append_ #[t, t] ty #[d, c]) := by
  have hte' := hx.ty _ _ hee
  have h63 : ∀ n : Nat, n * ee.bytes ≤ room → n ≤ 9223372036854775807 := fun n h => by
    have := Nat.le_trans (Nat.le_mul_of_pos_right n hte'.bpos) h
    unfold room at this; omega
  cases dst with
  | d x =>
    cases x with
    | nils =>
      have := hd.nils_inv
      subst this
      unfold appendV at hg
      obtain ⟨ys, hg1, hs⟩ := elems_sound hh hrd hc hg
      obtain ⟨hr, hk⟩ := onT_elim hg1
      have hr : ys.length * ee.bytes ≤ room := by simpa using hr
      exact append_nils hx hh hb hlt hte hty hee hs hr (h63 _ hr) hk
    | ro e' tt xs =>
      cases tt with
      | false => exact hg.elim
      | true =>
        obtain ⟨hbe, hg⟩ := onT_elim hg
        have he := Sh.beq_eq _ _ hbe
        subst he
        obtain ⟨ys, hg2, hs⟩ := elems_sound hh hrd hc hg
        obtain ⟨hr, hk⟩ := onT_elim hg2
        have hr : (xs.length + ys.length) * ee.bytes ≤ room := by simpa using hr
        obtain ⟨a0, cap, rfl, hcap, htt, _⟩ := ro_elem hd hte'.pos
        have hcap := htt rfl
        subst hcap
        have hsd := ro_slAt hd
        cases ys with
        | nil =>
          obtain ⟨a, cp, css, rfl, _⟩ := hs
          exact POK.res hh ⟨_, _, hk, run_append_same hx hte hty hee (Nat.le_refl _), hd⟩
        | cons y ys => exact append_full hx hh hb hlt hte hty hee hsd hs (by simp) hr hk (.inl rfl)
    | _ => exact hg.elim
  | sl b off ver =>
    obtain ⟨blk, hbl, hg⟩ := onS_elim hg
    cases blk with
    | fix v => exact hg.elim
    | grow ver' e' xs =>
      obtain ⟨hev, hg1⟩ := onE_elim hg
      obtain ⟨hbe, hg2⟩ := onT_elim hg1
      obtain ⟨ho, hg3⟩ := onE_elim hg2
      clear hg hg1 hg2
      have he := Sh.beq_eq _ _ hbe
      subst he; subst ho; subst hev
      obtain ⟨ys, hg4, hs⟩ := elems_sound hh hrd hc hg3
      obtain ⟨hr, hk⟩ := onT_elim hg4
      have hr : (xs.length + ys.length) * ee.bytes ≤ room := by simpa using hr
      exact append_own hx hh hte hty hee (hrd b _ hbl) hd hs hr (h63 _ hr) hk
  | sa b path off len =>
    obtain ⟨blk, hbl, hg⟩ := onS_elim hg
    cases blk with
    | grow ver' e' xs => exact hg.elim
    | fix v =>
      have hl := hrd b _ hbl
      obtain ⟨u, hk', hg2⟩ := getV_lin path v hg
      cases u with
      | d y =>
        cases y with
        | arr n e' xs =>
          obtain ⟨kk, cap, cur, o, a, hi2, hr, hrv, hp, hle, hxl, hsz, hra, rfl, ha, hsd⟩ := slAt_sa hh hl hd hg2 (fun u hu => hu)
          obtain ⟨hon, hg3⟩ := onE_elim hk'
          obtain ⟨hbe, hg4⟩ := onT_elim hg3
          clear hk' hg3 hg
          have he := Sh.beq_eq _ _ hbe
          subst he
          obtain ⟨ys, hg5, hs⟩ := elems_sound hh hrd hc hg4
          obtain ⟨hroom, hk⟩ := onT_elim hg5
          have hroom : (len + ys.length) * ee.bytes ≤ room := by simpa using hroom
          have hcl : (cutL off len n xs).length = len := by rw [cutL_eq hxl]; simp; omega
          have hnl : n - off = len := by omega
          rw [hnl] at hsd ⊢
          have hne : b ≠ slot := by rintro rfl; exact hb (hh.born _ _ hl)
          have kill : path = [] → off = 0 → k (.sl slot 0 0) [(slot, some (.grow 0 ee.sh (xs ++ ys))), (b, none)] → OpRes cx B w m H slot k (Builtin.append_ #[t, t] ty #[.slice a len len, c]) := by
            intro hp0 ho0 hkk
            clear hk
            subst hp0; subst ho0
            have hln : len = n := by omega
            subst hln
            have hxs : cutL 0 len len xs = xs := by rw [cutL_eq hxl]; simp [← hxl]
            rw [hxs] at hsd
            rw [← hxl] at hsd ⊢
            cases ys with
            | cons y ys => exact append_full hx hh hb hlt hte hty hee hsd hs (by simp) (by rw [hxl]; exact hroom) hkk (.inr ⟨b, rfl, hne⟩)
            | nil =>
              obtain ⟨a2, cp, _, rfl, _⟩ := hs
              have ho : o = 0 := by simp [poff] at hp; exact hp.1.symm
              have hvs : v.sh = .arr len ee.sh := by simp [poff] at hp; exact hp.2
              subst ho
              have hcz : cur.size = len * ee.sh.csz := by have := hrv.len; rw [hvs] at this; simpa [Sh.csz] using this
              rw [List.drop_zero, ← hcz, show cur.size = cur.toList.length from by simp, List.take_length] at hra
              obtain ⟨cl, hcl0⟩ : ∃ cl, cur.toList = cl := ⟨_, rfl⟩
              rw [hcl0] at hra
              cases hra with
              | arr _ _ _ css hl1 hn1 hrc1 =>
                have hkm : Keep w m H w (m.add slot kk len) ((H.set slot (some (.grow 0 ee.sh (xs ++ [])))).set b none) := keep_move hb hl hi2
                have h63 := h63 _ hroom
                have hx2 : HeapOK cx B w (m.add slot kk len) ((H.set slot (some (.grow 0 ee.sh (xs ++ [])))).set b none) :=
                  heap_move hh hb hlt hl hi2 (.grow 0 ee.sh (xs ++ []) kk len cur css (by simp [M.add]) hr hcz (by simp [hxl]) (by simp at h63; unfold maxLen; omega) (by simpa using hl1) (fun i x cs p q => (hrc1 i x cs (by simpa using p) q).mono hkm.cell)
                    (by rw [List.append_nil, hxl, ← hcz, hcl0]; rw [show cur.size = css.flatten.length from by rw [← hcl0]; simp]; exact List.take_length))
                refine ⟨_, _, _, w, m.add slot kk len, hkk, run_append_same hx hte hty hee (Nat.le_refl _), hkm, hx2, ?_, Below.refl B w, fun i h => h.symm⟩
                refine .one_cell (.sl slot 0 0 _ rfl (.inl rfl) fun ver' e' xs' hx' => ?_) rfl
                have := live_inj (live_set_ne (Ne.symm hne) (live_set_self hlt)) hx'
                cases this
                refine ⟨Nat.le_refl _, fun _ => ⟨Nat.zero_le _, .inr ⟨kk, len, a, by simp [M.add], by simp [hxl], by simp [hxl], fun h => ?_⟩⟩⟩
                have := ha h
                simpa using this
          split at hk
          · -- the source is an array of some length
            obtain ⟨a2, cp, hcc⟩ := elems_sa_len hh hrd hc hg4
            obtain ⟨a3, cp3, css3, hcc3, _⟩ := hs
            rw [hcc3] at hcc
            have hyl : 0 < ys.length := by injection hcc with _ h _; omega
            have hsd2 : SlAt w m H ee.sh (cutL off len n xs) (.slice a (cutL off len n xs).length (cutL off len n xs).length) := by rw [hcl]; exact hsd
            have hfin := append_full (ty := ty) hx hh hb hlt hte hty hee hsd2 ⟨a3, cp3, css3, hcc3, ‹_›⟩ hyl (by rw [hcl]; exact hroom) hk (.inl rfl)
            rw [hcl] at hfin
            exact hfin
          · split at hk
            · exact kill rfl rfl hk
            · exact hk.elim
        | _ => exact hk'.elim
      | _ => exact hk'.elim
  | _ => exact hg.elim

end

end Go.Fw

/-
Zeros appended to a slice of the call's own: append of a made slice. No conditions.
-/
namespace Go.Fw
set_option linter.unusedVariables false
set_option linter.unusedSimpArgs false
open Go.RowKit

section
variable {cx : Cx} {B : Nat} {w : World} {m : M} {H : Heap} {rd : Nat → Option Blk}

theorem zero_flat (z : Array Value) (n : Nat) : (Builtin.zeroCells z n).toList = (List.replicate n z.toList).flatten := by
  have : Builtin.zeroCells z n = madeCells z (n * z.size) := rfl
  rw [this, made_flat]
theorem wrap_self {n : Nat} (h : n ≤ room) : IntKind.i64.wrap (n : Int) = n := by
  unfold room at h
  simp [IntKind.wrap, IntKind.signed, IntKind.bits]
  omega

theorem run_appendZ_same {t ti ty e : TypeId} {ee : TyE} (hu : cx.P.underlying t = some (.slice e)) (hui : cx.P.underlying ti = some (.int .i64)) (hee : TyP cx e ee) {a0 : Option Addr} {n cap : Nat} (hn : n ≤ cap) :
    (Builtin.append_ #[t, ti] ty #[.slice a0 n cap, .int .i64 (0 : Nat)]).run cx.P w = .ok (.slice a0 n cap) w := by
  obtain ⟨i, hi, his, _⟩ := hee.info
  have hw : IntKind.i64.wrap 0 = 0 := by decide
  cases a0 <;> simp [Builtin.append_, run_underlying hu, run_underlying hui, sizeOf, typeInfo, hi, his, asInt, asIntOf, hn, storeCells, hw]

theorem run_appendZ_in {t ti ty e : TypeId} {ee : TyE} (hu : cx.P.underlying t = some (.slice e)) (hui : cx.P.underlying ti = some (.int .i64)) (hee : TyP cx e ee) {g n cap : Nat} {cur : Array Value} (hr : Row w g cur)
    {mm : Nat} {i : TypeInfo} {z : Value} (hi : cx.P.info? e = some i) (hz : i.zero = some z) (hzs : z.cells.size = ee.sh.csz) (his : i.size = ee.sh.csz) (h1 : ∀ u ∈ (Builtin.zeroCells z.cells mm).toList, u.oneCell' = true)
    (hb : mm * i.bytes ≤ room) (hroom : n + mm ≤ cap) (hmm : mm ≤ room) (hfit : n * ee.sh.csz + (Builtin.zeroCells z.cells mm).toList.length ≤ cur.size) :
    (Builtin.append_ #[t, ti] ty #[.slice (some ⟨g, 0, none⟩) n cap, .int .i64 (mm : Nat)]).run cx.P w =
      .ok (.slice (some ⟨g, 0, none⟩) (n + mm) cap) (w.setRow g (cur.toList.take (n * ee.sh.csz) ++ (Builtin.zeroCells z.cells mm).toList ++ cur.toList.drop (n * ee.sh.csz + (Builtin.zeroCells z.cells mm).toList.length)).toArray) := by
  obtain ⟨tt, hr⟩ := hr
  have hst := run_storeCells_at cx.P g (n * ee.sh.csz) tt (Builtin.zeroCells z.cells mm).toList 0 cur w hr (by simpa using hfit) h1
  simp only [Nat.add_zero] at hst
  have hw := wrap_self hmm
  have hp := hee.pos
  have hb' : ¬ (281474976710656 < (mm : Int) * (i.bytes : Int)) := by
    unfold room at hb
    rw [← Int.natCast_mul]
    omega
  have hlt : ¬ ((mm : Int) < 0) := by omega
  simp [Builtin.append_, run_underlying hu, run_underlying hui, sizeOf, typeInfo, zeroValue, hi, his, hz, asInt, asIntOf, hroom, Addr.add_lit, hst, hw, hb', hlt]
  intro h
  have hm0 : mm = 0 := by
    rcases Nat.eq_zero_or_pos mm with h0 | h0
    · exact h0
    · exact absurd (Nat.mul_pos h0 hp) (by omega)
  subst hm0
  have hz0 : (Builtin.zeroCells z.cells 0) = #[] := by simp [Builtin.zeroCells]
  rw [hz0]
  simp [storeCells]
  exact (setRow_self w g cur tt (0, 0) hr).symm

theorem run_appendZ_grow {t ti ty e : TypeId} {ee : TyE} (hu : cx.P.underlying t = some (.slice e)) (hui : cx.P.underlying ti = some (.int .i64)) (hee : TyP cx e ee)
    {i : TypeInfo} {z : Value} (hi : cx.P.info? e = some i) (hz : i.zero = some z) (his : i.size = ee.sh.csz) (base : Option Addr) (sLen sCap : Nat) (olds : List Value)
    (hold : (Builtin.firstCells i.size sLen (.slice base sLen sCap)).run cx.P w.drew = .ok olds.toArray w.drew) {n : Nat} (h0 : 0 < n) (hn : n ≤ room) (hb : n * i.bytes ≤ room)
    (hg : sCap < sLen + n) (h63 : ((sLen + n : Nat) : Int) ≤ 9223372036854775807) (hfit : Builtin.nextslicecap (sLen + n) sCap * i.bytes ≤ 281474976710656) :
    (Builtin.append_ #[t, ti] ty #[.slice base sLen sCap, .int .i64 (n : Nat)]).run cx.P w =
      .ok (.slice (some ⟨w.heap.size, 0, none⟩) (sLen + n) (grownCap w (sLen + n) sCap e))
        (w.drew.alloc (.cells (olds.toArray ++ (Builtin.zeroCells z.cells n).toList.toArray ++ Builtin.zeroCells z.cells (grownCap w (sLen + n) sCap e - (sLen + n))) e)) := by
  have hn' : ¬ (sLen + n ≤ sCap) := by omega
  have h63' : ¬ (9223372036854775807 < ((sLen : Int) + (n : Int))) := by omega
  have h48' : ¬ (281474976710656 < Builtin.nextslicecap (sLen + n) sCap * i.bytes) := by omega
  have hw := wrap_self hn
  have hp := hee.pos
  have hb' : ¬ (281474976710656 < (n : Int) * (i.bytes : Int)) := by
    unfold room at hb
    rw [← Int.natCast_mul]
    omega
  have hlt : ¬ ((n : Int) < 0) := by omega
  have hne : ¬ (n * ee.sh.csz = 0) := by have := Nat.mul_pos h0 hp; omega
  have hmx : max (n : Int) 0 = n := by omega
  rw [his] at hold
  simp [Builtin.append_, run_underlying hu, run_underlying hui, sizeOf, typeInfo, zeroValue, hi, his, hz, asInt, asIntOf, hn', h63', h48', hw, hb', hlt, hne, hmx, Question.forced, hold, newRow, grownCap]

theorem append_ownZ (hx : CxOK cx) (hh : HeapOK cx B w m H) {slot b ver : Nat} {t ti ty e : TypeId} {te ee : TyE} (hte : cx.ty t = some te) (hty : te.ty = .sl e) (hui : cx.P.underlying ti = some (.int .i64)) (hee : cx.ty e = some ee)
    {xs : List D} {nz : Nat} (hlb : live H b (.grow ver ee.sh xs)) {d : Value} (hd : RV w m H (.sl b 0 ver) d) (hroom : (xs.length + nz) * ee.bytes ≤ room) (h63 : xs.length + nz ≤ 9223372036854775807)
    {k : V → Eff → Prop} (hk : k (.sl b 0 (ver + 1)) [(b, some (.grow (ver + 1) ee.sh (xs ++ List.replicate nz ee.zero)))]) :
    OpRes cx B w m H slot k (Builtin.append_ #[t, ti] ty #[d, .int .i64 (nz : Nat)]) := by
  have hu := ty_sl hx hte hty
  have hte' := hx.ty _ _ hee
  obtain ⟨i, hi, his, hib, _, z, hz, hzp, hzr⟩ := hte'.info
  have hzr := hzr w (Own m H)
  have hzs : z.cells.size = ee.sh.csz := by simpa using hzr.len
  have hpb := hte'.bpos
  have hnr : nz ≤ room := Nat.le_trans (Nat.le_trans (Nat.le_add_left _ _) (Nat.le_mul_of_pos_right _ hpb)) hroom
  have hnb : nz * i.bytes ≤ room := by rw [hib]; exact Nat.le_trans (Nat.mul_le_mul_right _ (Nat.le_add_left _ _)) hroom
  obtain ⟨ys, hys⟩ : ∃ ys, ys = List.replicate nz ee.zero := ⟨_, rfl⟩
  obtain ⟨dss, hds⟩ : ∃ dss, dss = List.replicate nz z.cells.toList := ⟨_, rfl⟩
  have hyl : ys.length = nz := by rw [hys]; simp
  have hl2 : dss.length = ys.length := by rw [hyl, hds]; simp
  have hrc2 : ∀ (i : Nat) x cs, ys[i]? = some x → dss[i]? = some cs → RC w (Own m H) ee.sh x cs := by rw [hys, hds]; exact rep_css hzr nz
  have hzf : (Builtin.zeroCells z.cells nz).toList = dss.flatten := by rw [hds]; exact zero_flat _ _
  have hfl2 : dss.flatten.length = nz * ee.sh.csz := by rw [← hzf, Array.length_toList, size_zeroCells, hzs]
  have hone2 : ∀ u ∈ dss.flatten, u.oneCell' = true := fun u hu' => by
    obtain ⟨l, hl', hc⟩ := List.mem_flatten.1 hu'
    rw [hds, List.mem_replicate] at hl'
    rw [hl'.2] at hc
    exact hzr.one u hc
  rw [← hys] at hk
  clear hys hds
  subst hyl
  have hlt := live_lt hlb
  have hbb := hh.born b _ hlb
  obtain ⟨cs, h, hc⟩ := hd.elim rfl
  cases h with
  | sl _ _ _ c' ho _ h =>
    have hc : d = c' := hc
    subst hc
    obtain ⟨_, h⟩ := h ver _ xs hlb
    obtain ⟨_, h⟩ := h rfl
    rcases h with ⟨hn, rfl⟩ | ⟨kk, cap, ad0, hi2, hcap, rfl, ha⟩
    · -- nothing there yet
      have hx0 : xs = [] := by
        cases hh.blk b _ hlb with
        | none => rfl
        | grow ver e xs k cap cur css h1 => rw [hn] at h1; cases h1
      subst hx0
      rcases Nat.eq_zero_or_pos ys.length with hz0 | hz0
      · have hy0 : ys = [] := List.eq_nil_of_length_eq_zero hz0
        subst hy0
        refine ⟨_, _, .slice none 0 0, w, m, hk, ?_, keep_none hlb (by omega), heap_none hh hlb (by omega) hn, ?_, Below.refl B w, fun b h => .inl h⟩
        · exact run_appendZ_same hu hui hte' (Nat.le_refl _)
        · refine .one_cell (.sl b 0 (ver + 1) _ rfl hbb fun ver' e' xs' hx' => ?_) rfl
          have := live_inj (live_set_self hlt) hx'
          cases this
          exact ⟨Nat.le_refl _, fun _ => ⟨Nat.zero_le _, .inl ⟨hn, rfl⟩⟩⟩
      · simp only [List.length_nil, Nat.zero_add] at hroom h63
        have hrun := run_appendZ_grow (ty := ty) (w := w) hu hui hte' hi hz his none 0 0 [] (by simp [Builtin.firstCells]) hz0 hnr hnb (by omega) (by omega) (growslice_fits (by omega) (by rw [hib, Nat.zero_add]; exact hroom))
        rw [hzf] at hrun
        obtain ⟨g1, g2, g3, g4⟩ := grown_row (w := w) hte' hzs (olds := []) (news := dss.flatten) (n := ys.length) (old := 0) (by simpa using hfl2) (by unfold maxLen; omega)
        simp only [Nat.zero_add] at hrun
        simp only [List.nil_append] at hk g4
        exact append_re hh hlb hk hrun hl2 hrc2 g1 g2 g3 g4
    · cases hh.blk b _ hlb with
      | none ver e h1 => rw [hi2] at h1; cases h1
      | grow _ _ _ k' cap' cur css h1 hr hsz hcap' hm hl1 hrc1 ht1 =>
        rw [hi2] at h1; cases h1
        obtain ⟨r1, r2, r3, r4⟩ := append_row hl1 hrc1 hl2 hrc2
        have hcl : cur.toList.length = cur.size := by simp
        have hnew : (xs ++ ys).length = xs.length + ys.length := by simp
        by_cases hin : xs.length + ys.length ≤ cap
        · -- within the room
          have ha : ad0 = some ⟨kk, 0, none⟩ ∨ cap = 0 := by
            rcases Nat.eq_zero_or_pos cap with h | h
            · exact .inr h
            · have := ha h; simp at this; exact .inl this
          rcases ha with rfl | hcap0
          · have hfit : xs.length * ee.sh.csz + dss.flatten.length ≤ cur.size := by rw [r4, hsz, ← Nat.add_mul]; exact Nat.mul_le_mul_right _ hin
            have hrun := run_appendZ_in (w := w) (ty := ty) (n := xs.length) (cap := cap) hu hui hte' hr hi hz hzs his (by rw [hzf]; exact hone2) hnb (by omega) hnr (by rw [hzf]; exact hfit)
            rw [hzf] at hrun
            have hbk : BK m m b (.grow ver ee.sh xs) (.grow (ver + 1) ee.sh (xs ++ ys)) := .later _ _ _ _ _ _ (by omega)
            refine ⟨_, _, _, _, m, hk, hrun, keep_set hlb hi2 hbk, heap_set hh hlb hi2 hbk ?_, ?_, below_row (hh.lo b _ kk cap hlb hi2), fun i hi => .inl hi⟩
            · refine .grow (ver + 1) ee.sh (xs ++ ys) kk cap _ (css ++ dss) hi2 (row_setRow_self hr) ?_ (by omega) hm r1 (fun i x cs a b' => (r2 i x cs a b').mono (keep_set hlb hi2 hbk).cell) ?_
              · rw [← hsz]; simp only [List.size_toArray, List.length_append, List.length_take, List.length_drop, hcl]; omega
              · rw [hnew, List.flatten_append, ← ht1, Nat.add_mul, ← r4]
                have e1 : (cur.toList.take (xs.length * ee.sh.csz) ++ dss.flatten).length = xs.length * ee.sh.csz + dss.flatten.length := by
                  rw [List.length_append, List.length_take, hcl, Nat.min_eq_left (by omega)]
                rw [← e1]
                exact List.take_left
            · refine .one_cell (.sl b 0 (ver + 1) _ rfl hbb fun ver' e' xs' hx => ?_) rfl
              have := live_inj (live_set_self hlt) hx
              cases this
              exact ⟨Nat.le_refl _, fun _ => ⟨Nat.zero_le _, .inr ⟨kk, cap, _, hi2, by omega, by rw [hnew]; rfl, fun _ => by simp⟩⟩⟩
          · -- no room and nothing appended
            have hx0 : xs = [] := List.eq_nil_of_length_eq_zero (by omega)
            have hy0 : ys = [] := List.eq_nil_of_length_eq_zero (by omega)
            subst hx0; subst hy0
            subst hcap0
            have hbk : BK m m b (.grow ver ee.sh []) (.grow (ver + 1) ee.sh ([] ++ [])) := .later _ _ _ _ _ _ (by omega)
            have hself : w.setRow kk cur = w := by obtain ⟨tt, hrt⟩ := hr; exact setRow_self w kk cur tt (0, 0) hrt
            have kset : Keep w m H (w.setRow kk cur) m (H.set b (some (.grow (ver + 1) ee.sh ([] ++ [])))) := keep_set hlb hi2 hbk
            have hset : HeapOK cx B (w.setRow kk cur) m (H.set b (some (.grow (ver + 1) ee.sh ([] ++ [])))) := heap_set hh hlb hi2 hbk (.grow (ver + 1) ee.sh _ kk 0 cur [] hi2 (row_setRow_self hr) hsz (by simp) (by simp) (by simp) (fun i x cs a => by simp at a) (by simp))
            rw [hself] at kset hset
            refine ⟨_, _, .slice ad0 0 0, w, m, hk, ?_, kset, hset, ?_, Below.refl B w, fun i hi => .inl hi⟩
            · exact run_appendZ_same hu hui hte' (Nat.le_refl _)
            · refine .one_cell (.sl b 0 (ver + 1) _ rfl hbb fun ver' e' xs' hx => ?_) rfl
              have := live_inj (live_set_self hlt) hx
              cases this
              exact ⟨Nat.le_refl _, fun _ => ⟨Nat.zero_le _, .inr ⟨kk, 0, _, hi2, by simp, rfl, fun h => by omega⟩⟩⟩
        · -- beyond it
          have hy0 : 0 < ys.length := by omega
          obtain ⟨g1, g2, g3, g4⟩ := grown_row (w := w) hte' hzs (olds := css.flatten) (news := dss.flatten) (n := (xs ++ ys).length) (old := cap) (by rw [r3, r4, hnew, Nat.add_mul]) (by rw [hnew]; unfold maxLen; omega)
          rw [← List.flatten_append] at g4
          have hold : (Builtin.firstCells i.size xs.length (.slice ad0 xs.length cap)).run cx.P w.drew = .ok css.flatten.toArray w.drew := by
            rcases Nat.eq_zero_or_pos cap with hcap0 | hcap0
            · have hx0 : xs = [] := List.eq_nil_of_length_eq_zero (by omega)
              subst hx0
              have hcs : css = [] := List.eq_nil_of_length_eq_zero (by simpa using hl1)
              subst hcs
              cases ad0 <;> simp [Builtin.firstCells, loadCells, loadCellsFrom]
            · have ha := ha hcap0
              subst ha
              refine run_firstCells_some (P := cx.P) w.drew i.size xs.length _ xs.length cap css.flatten (by rw [his]; exact r3) (fun j v hj => ?_)
              show w.cell? _ = _
              rw [← ht1] at hj
              rw [addr_add, hr.cell]
              rw [List.getElem?_take] at hj
              split at hj
              · simpa using hj
              · cases hj
          have hrun := run_appendZ_grow (ty := ty) (w := w) hu hui hte' hi hz his ad0 xs.length cap css.flatten hold (by omega) hnr hnb (by omega) (by omega) (growslice_fits (by omega) (by rw [hib]; exact hroom))
          rw [hzf] at hrun
          rw [← hnew] at hrun
          exact append_re hh hlb hk hrun r1 r2 g1 g2 g3 g4

theorem appendZ_sound (hx : CxOK cx) (hh : HeapOK cx B w m H) (hrd : Rd rd H) {slot : Nat} {t ti ty e : TypeId} {te ee te' : TyE} (hte : cx.ty t = some te) (hty : te.ty = .sl e) (hee : cx.ty e = some ee) (hti : cx.ty ti = some te') (hti' : te'.ty = .int .i64)
    {dst src : V} {d c : Value} {k : V → Eff → Prop} (hd : RV w m H dst d) (hc : RV w m H src c) (hg : appendZ rd ee.sh ee.bytes ee.zero dst src k) : OpRes cx B w m H slot k (Builtin.append_ #[t, ti] ty #[d, c]) := by
  have hui := (hx.ty _ _ hti).under
  rw [hti'] at hui
  cases dst with
  | sl b off ver =>
    cases src with
    | d x =>
      cases x with
      | int kk n =>
        cases kk with
        | i64 =>
          have := hc.int_inv
          subst this
          obtain ⟨blk, hbl, hg⟩ := onS_elim hg
          cases blk with
          | fix v => exact hg.elim
          | grow ver' e' xs =>
            obtain ⟨hev, hg1⟩ := onE_elim hg
            obtain ⟨hbe, hg2⟩ := onT_elim hg1
            obtain ⟨ho, hg3⟩ := onE_elim hg2
            obtain ⟨hr, hk⟩ := onT_elim hg3
            have he := Sh.beq_eq _ _ hbe
            subst he; subst ho; subst hev
            have hr := of_decide_eq_true hr
            obtain ⟨nn, rfl⟩ := Int.eq_ofNat_of_zero_le hr.1
            have h2 : (xs.length + nn) * ee.bytes ≤ room := hr.2
            have h63 : xs.length + nn ≤ 9223372036854775807 := by
              have := Nat.le_trans (Nat.le_mul_of_pos_right (xs.length + nn) (hx.ty _ _ hee).bpos) h2
              unfold room at this; omega
            exact append_ownZ hx hh hte hty hui.1 hee (hrd b _ hbl) hd h2 h63 hk
        | _ => exact hg.elim
      | _ => exact hg.elim
    | _ => exact hg.elim
  | _ => exact hg.elim

end
end Go.Fw

/-
Copies into slices. No conditions.
-/
namespace Go.Fw
set_option linter.unusedVariables false
set_option linter.unusedSimpArgs false
open Go.RowKit

theorem copyL_eq {α : Type} (xs ys : List α) (off len : Nat) (h : off + len ≤ xs.length) :
    xs.take off ++ (copyL ((xs.drop off).take len) ys ++ xs.drop (off + len)) = xs.take off ++ ys.take (Nat.min ys.length len) ++ xs.drop (off + Nat.min ys.length len) := by
  unfold copyL
  have hl : ((xs.drop off).take len).length = len := by simp; omega
  rw [hl, List.append_assoc, List.append_assoc]
  congr 1
  rcases Nat.le_total ys.length len with h1 | h1
  · rw [show Nat.min ys.length len = ys.length from Nat.min_eq_left h1, List.take_of_length_le h1, List.take_length]
    congr 1
    rw [List.drop_take, List.drop_drop]
    have e : xs.drop (off + ys.length) = (xs.drop (off + ys.length)).take (len - ys.length) ++ xs.drop (off + len) := by
      conv => lhs; rw [← List.take_append_drop (len - ys.length) (xs.drop (off + ys.length))]
      rw [List.drop_drop]
      congr 2
      omega
    rw [← e]
  · rw [show Nat.min ys.length len = len from Nat.min_eq_right h1]
    congr 1
    rw [List.drop_eq_nil_of_le (by omega), List.nil_append]

section
variable {cx : Cx} {B : Nat} {w : World} {m : M} {H : Heap} {rd : Nat → Option Blk}

theorem copy_arr {own : Nat → Prop} {N : Nat} {e : Sh} {xs ys : List D} {cells : List Value} {dss : List (List Value)} (h : RC w own (.arr N e) (.arr N e xs) cells) (hl2 : dss.length = ys.length)
    (h2 : ∀ (i : Nat) x cs, ys[i]? = some x → dss[i]? = some cs → RC w own e x cs) {off n : Nat} (hn : n ≤ ys.length) (hle : off + n ≤ N) :
    RC w own (.arr N e) (.arr N e (xs.take off ++ ys.take n ++ xs.drop (off + n))) (cells.take (off * e.csz) ++ dss.flatten.take (n * e.csz) ++ cells.drop (off * e.csz + n * e.csz)) := by
  cases h with
  | arr _ _ _ css hl hN h =>
    have l1 := arr_lens hl h
    have l2 := arr_lens hl2 h2
    rw [← flat_take off l1 (by omega), ← flat_take n l2 (by omega), ← Nat.add_mul, ← flat_drop (off + n) l1 (by omega), ← List.flatten_append, ← List.flatten_append]
    refine .arr N e _ _ (by simp [hl, hl2]) (by simp; omega) fun i x cs a b => ?_
    rw [List.getElem?_append] at a b
    have e1 : (xs.take off ++ ys.take n).length = off + n := by simp; omega
    have e2 : (css.take off ++ dss.take n).length = off + n := by simp; omega
    rw [e1] at a
    rw [e2] at b
    split at a
    · rename_i hi
      rw [if_pos hi] at b
      rw [List.getElem?_append] at a b
      have e3 : (xs.take off).length = off := by simp; omega
      have e4 : (css.take off).length = off := by simp; omega
      rw [e3] at a
      rw [e4] at b
      split at a
      · rename_i hi2
        rw [if_pos hi2] at b
        rw [List.getElem?_take, if_pos hi2] at a b
        exact h _ x cs a b
      · rename_i hi2
        rw [if_neg hi2] at b
        rw [List.getElem?_take] at a b
        split at a
        · rename_i hi3
          rw [if_pos hi3] at b
          exact h2 _ x cs a b
        · cases a
    · rename_i hi
      rw [if_neg hi] at b
      rw [List.getElem?_drop] at a b
      exact h _ x cs a b

/-- The built-in copy. -/
theorem run_copy {t t2 ty e : TypeId} {ee : TyE} (hu : cx.P.underlying t = some (.slice e)) (hee : TyP cx e ee) {kk o len cap : Nat} {cur : Array Value} (hr : Row w kk cur) {a : Option Addr} {mm c2 : Nat} {ao : Option Addr}
    {news : List Value} (hl : news.length = mm * ee.sh.csz) (hcell : ∀ (j : Nat) u, news[j]? = some u → ∃ ad, a = some ad ∧ w.cell? (ad.add j) = some u) (h1 : ∀ u ∈ news, u.oneCell' = true)
    (hao : 0 < len → ao = some ⟨kk, o, none⟩) (hfit : o + Nat.min mm len * ee.sh.csz ≤ cur.size) :
    (Builtin.copy_ #[t, t2] ty #[.slice ao len cap, .slice a mm c2]).run cx.P w =
      .ok (goInt (Nat.min mm len)) (w.setRow kk (cur.toList.take o ++ news.take (Nat.min mm len * ee.sh.csz) ++ cur.toList.drop (o + Nat.min mm len * ee.sh.csz)).toArray) := by
  obtain ⟨tt, hr⟩ := hr
  have hnl : (news.take (Nat.min mm len * ee.sh.csz)).length = Nat.min mm len * ee.sh.csz := by
    rw [List.length_take, hl]; exact Nat.min_eq_left (Nat.mul_le_mul_right _ (Nat.min_le_left _ _))
  have hst := run_storeCells_at cx.P kk o tt (news.take (Nat.min mm len * ee.sh.csz)) 0 cur w hr (by rw [hnl]; simpa using hfit) (fun v hv => h1 v (List.mem_of_mem_take hv))
  simp only [Nat.add_zero, hnl] at hst
  have hf : (Builtin.firstCells ee.sh.csz (Nat.min mm len) (.slice a mm c2)).run cx.P w = .ok (news.take (Nat.min mm len * ee.sh.csz)).toArray w := by
    cases a with
    | some a =>
      exact run_firstCells_some (P := cx.P) w ee.sh.csz (Nat.min mm len) a mm c2 _ hnl (fun j u hj => by
        rw [List.getElem?_take] at hj
        split at hj
        · obtain ⟨ad, ha, h⟩ := hcell j u hj; cases ha; exact h
        · cases hj)
    | none =>
      have : news = [] := by
        cases news with
        | nil => rfl
        | cons x r => obtain ⟨ad, ha, _⟩ := hcell 0 x rfl; cases ha
      subst this
      simp
      rfl
  rcases Nat.eq_zero_or_pos len with h0 | h0
  · subst h0
    have hm : Nat.min mm 0 = 0 := Nat.min_zero _
    rw [hm] at hst hf ⊢
    simp only [Nat.zero_mul, List.take_zero, List.append_nil, Nat.add_zero, List.take_append_drop, Array.toArray_toList] at hst hf ⊢
    rw [setRow_self w kk cur tt (0, 0) hr]
    have hm' : min mm 0 = 0 := Nat.min_zero _
    cases ao <;> simp [Builtin.copy_, run_underlying hu, hee.run_sizeOf w, Builtin.lenOf, hf, storeCells, hm']
  · have := hao h0
    subst this
    simp [Builtin.copy_, run_underlying hu, hee.run_sizeOf w, Builtin.lenOf, hf, hst]

theorem run_copy0 {t t2 ty e : TypeId} {ee : TyE} (hu : cx.P.underlying t = some (.slice e)) (hee : TyP cx e ee) {ao a : Option Addr} {cap mm c2 : Nat} :
    (Builtin.copy_ #[t, t2] ty #[.slice ao 0 cap, .slice a mm c2]).run cx.P w = .ok (goInt 0) w := by
  have hf : (Builtin.firstCells ee.sh.csz 0 (.slice a mm c2)).run cx.P w = .ok #[] w := by
    cases a with
    | none => rfl
    | some a => simp [Builtin.firstCells, loadCells, loadCellsFrom]
  cases ao <;> simp [Builtin.copy_, run_underlying hu, hee.run_sizeOf w, Builtin.lenOf, hf, storeCells]

theorem set_live {b : Nat} {x : Blk} (h : live H b x) : H.set b (some x) = H := by
  apply List.ext_getElem?
  intro i
  rw [List.getElem?_set]
  split
  · rename_i e
    subst e
    rw [if_pos (live_lt h)]
    exact h.symm
  · rfl

theorem copy_fin (hh : HeapOK cx B w m H) {slot b kk cap : Nat} {x x' : Blk} {cur' : Array Value} (hl : live H b x) (hi : m.ι b = some (kk, cap)) (hbk : BK m m b x x') {k : V → Eff → Prop} {n : Nat} {S : Sem Value}
    (hk : k (.d (.int .i64 n)) [(b, some x')]) (hrun : S.run cx.P w = .ok (goInt n) (w.setRow kk cur')) (hx : BlkOK (w.setRow kk cur') m (H.set b (some x')) b x') : OpRes cx B w m H slot k S :=
  ⟨_, _, _, _, m, hk, hrun, keep_set hl hi hbk, heap_set hh hl hi hbk hx, .int _ _, below_row (hh.lo b x kk cap hl hi), fun i hi => .inl hi⟩

theorem copyV_sound (hx : CxOK cx) (hh : HeapOK cx B w m H) (hrd : Rd rd H) {slot : Nat} {t t2 ty e : TypeId} {te ee : TyE} (hte : cx.ty t = some te) (hty : te.ty = .sl e) (hee : cx.ty e = some ee)
    {dst src : V} {d c : Value} {k : V → Eff → Prop} (hd : RV w m H dst d) (hc : RV w m H src c) (hg : copyV rd ee.sh dst src k) : OpRes cx B w m H slot k (Builtin.copy_ #[t, t2] ty #[d, c]) := by
  have hu := ty_sl hx hte hty
  have hte' := hx.ty _ _ hee
  have grows : ∀ {b ver off len : Nat} {xs ys : List D}, live H b (.grow ver ee.sh xs) → off + len ≤ xs.length → SlAt w m H ee.sh ys c → (∃ ao cp, d = .slice ao len cp ∧ (0 < len → ∃ kk cap, m.ι b = some (kk, cap) ∧ ao = some ⟨kk, off * ee.sh.csz, none⟩)) →
      k (.d (.int .i64 (Nat.min ys.length len))) [(b, some (.grow ver ee.sh (xs.take off ++ ys.take (Nat.min ys.length len) ++ xs.drop (off + Nat.min ys.length len))))] → OpRes cx B w m H slot k (Builtin.copy_ #[t, t2] ty #[d, c]) := by
    intro b ver off len xs ys hl hle hs hdd hk
    obtain ⟨ao, cp, rfl, hao⟩ := hdd
    obtain ⟨a, c2, dss, rfl, hl2, hrc2, hfl2, hone2, hcell2⟩ := hs.flat hte'.pos
    cases hbo : hh.blk b _ hl with
    | none _ _ hn =>
      have hlen : len = 0 := by simp at hle; omega
      subst hlen
      refine ⟨_, _, .int .i64 0, w, m, hk, run_copy0 hu hte', ?_⟩
      have e0 : ([] : List D).take off ++ ys.take (Nat.min ys.length 0) ++ ([] : List D).drop (off + Nat.min ys.length 0) = [] := by simp [show Nat.min ys.length 0 = 0 from Nat.min_zero _]
      rw [e0]
      have e1 : happ H [(b, some (.grow ver ee.sh []))] = H := set_live hl
      rw [e1]
      exact ⟨Keep.refl w m H, hh, by rw [show Nat.min ys.length 0 = 0 from Nat.min_zero _]; exact .int _ _, Below.refl B w, fun i hi => .inl hi⟩
    | grow _ _ _ kk cap cur css hi hr hsz hcap hm hl1 hrc1 ht1 =>
      have hmin : Nat.min ys.length len ≤ len := Nat.min_le_right _ _
      have hmin2 : Nat.min ys.length len ≤ ys.length := Nat.min_le_left _ _
      have hfit : off * ee.sh.csz + Nat.min ys.length len * ee.sh.csz ≤ xs.length * ee.sh.csz := by rw [← Nat.add_mul]; exact Nat.mul_le_mul_right _ (by omega)
      have hfit2 : xs.length * ee.sh.csz ≤ cur.size := by rw [hsz]; exact Nat.mul_le_mul_right _ hcap
      have hrun := run_copy (cx := cx) (t2 := t2) (ty := ty) (cap := cp) (c2 := c2) hu hte' hr hfl2 hcell2 hone2 (ao := ao) (o := off * ee.sh.csz) (len := len) (fun h => by
        obtain ⟨kk', cap', hi', ha⟩ := hao h
        rw [hi] at hi'; cases hi'; exact ha) (by omega)
      have hlen : (xs.take off ++ ys.take (Nat.min ys.length len) ++ xs.drop (off + Nat.min ys.length len)).length = xs.length := by
        simp only [List.length_append, List.length_take, List.length_drop]; omega
      have hbk : BK m m b (.grow ver ee.sh xs) (.grow ver ee.sh (xs.take off ++ ys.take (Nat.min ys.length len) ++ xs.drop (off + Nat.min ys.length len))) := .grow _ _ _ _ hlen rfl
      have harr : RC w (Own m H) (.arr xs.length ee.sh) (.arr xs.length ee.sh xs) (cur.toList.take (xs.length * ee.sh.csz)) := by rw [ht1]; exact .arr _ _ xs css hl1 rfl hrc1
      have hnew := copy_arr harr hl2 hrc2 (off := off) (n := Nat.min ys.length len) hmin2 (by omega)
      have hnl : (dss.flatten.take (Nat.min ys.length len * ee.sh.csz)).length = Nat.min ys.length len * ee.sh.csz := by
        rw [List.length_take, hfl2]; exact Nat.min_eq_left (Nat.mul_le_mul_right _ hmin2)
      have hcl : cur.toList.length = cur.size := by simp
      have hts := take_splice cur.toList (dss.flatten.take (Nat.min ys.length len * ee.sh.csz)) (xs.length * ee.sh.csz) (off * ee.sh.csz) (by rw [hnl]; exact hfit) (by omega)
      rw [hnl] at hts
      rw [← hts] at hnew
      generalize hq : (cur.toList.take (off * ee.sh.csz) ++ dss.flatten.take (Nat.min ys.length len * ee.sh.csz) ++ cur.toList.drop (off * ee.sh.csz + Nat.min ys.length len * ee.sh.csz)) = q at *
      have hql : q.length = cur.size := by rw [← hq]; simp only [List.length_append, List.length_take, List.length_drop, hcl, hfl2]; rw [show min (Nat.min ys.length len * ee.sh.csz) (ys.length * ee.sh.csz) = Nat.min ys.length len * ee.sh.csz from Nat.min_eq_left (Nat.mul_le_mul_right _ hmin2)]; omega
      generalize hq2 : q.take (xs.length * ee.sh.csz) = q2 at hnew
      cases hnew with
      | arr _ _ _ css' hl' hn' hrc' =>
        refine copy_fin hh hl hi hbk hk hrun (.grow ver ee.sh _ kk cap _ css' hi (row_setRow_self hr) (by rw [← hsz]; simpa using hql) (by rw [hlen]; exact hcap) hm hl' (fun i x cs p r => (hrc' i x cs p r).mono (keep_set hl hi hbk).cell) ?_)
        rw [hlen]
        simpa using hq2
  cases dst with
  | sl b off ver =>
    obtain ⟨blk, hbl, hg⟩ := onS_elim hg
    cases blk with
    | fix v => exact hg.elim
    | grow ver' e' xs =>
      obtain ⟨hev, hg1⟩ := onE_elim hg
      obtain ⟨hbe, hg2⟩ := onT_elim hg1
      clear hg hg1
      have he := Sh.beq_eq _ _ hbe
      subst he; subst hev
      have hl := hrd b _ hbl
      obtain ⟨ys, hk, hs⟩ := elems_sound hh hrd hc hg2
      obtain ⟨cs, h, hcc⟩ := hd.elim rfl
      cases h with
      | sl _ _ _ c' ho _ h =>
        have hcc : d = c' := hcc
        subst hcc
        obtain ⟨_, h⟩ := h ver _ xs hl
        obtain ⟨hof, h⟩ := h rfl
        have hcl := copyL_eq xs ys off (xs.length - off) (by omega)
        rw [List.take_of_length_le (l := xs.drop off) (by simp), List.drop_eq_nil_of_le (as := xs) (i := off + (xs.length - off)) (by omega), List.append_nil] at hcl
        rw [hcl] at hk
        refine grows (len := xs.length - off) hl (by omega) hs ?_ hk
        rcases h with ⟨hn, rfl⟩ | ⟨kk, cap, a, hi, hcap, rfl, ha⟩
        · have hx0 : xs = [] := by
            cases hh.blk b _ hl with
            | none => rfl
            | grow ver e xs k cap cur css h1 => rw [hn] at h1; cases h1
          subst hx0
          exact ⟨none, 0, by simp, fun h => by simp at h⟩
        · exact ⟨a, _, rfl, fun h => ⟨kk, cap, hi, ha (by omega)⟩⟩
  | sub b off len ver =>
    obtain ⟨blk, hbl, hg⟩ := onS_elim hg
    cases blk with
    | fix v => exact hg.elim
    | grow ver' e' xs =>
      obtain ⟨hev, hg1⟩ := onE_elim hg
      obtain ⟨hbe, hg2⟩ := onT_elim hg1
      clear hg hg1
      have he := Sh.beq_eq _ _ hbe
      subst he; subst hev
      have hl := hrd b _ hbl
      obtain ⟨ys, hk, hs⟩ := elems_sound hh hrd hc hg2
      obtain ⟨cs, h, hcc⟩ := hd.elim rfl
      cases h with
      | sub _ _ _ _ c' ho _ h =>
        have hcc : d = c' := hcc
        subst hcc
        obtain ⟨_, h⟩ := h ver _ xs hl
        obtain ⟨hle, cap, a, rfl, hcap, ha⟩ := h rfl
        rw [copyL_eq xs ys off len hle] at hk
        exact grows hl hle hs ⟨a, cap, rfl, ha⟩ hk
  | sa b path off len =>
    obtain ⟨blk, hbl, hg⟩ := onS_elim hg
    cases blk with
    | grow ver' e' xs => exact hg.elim
    | fix v =>
      have hl := hrd b _ hbl
      obtain ⟨u, hk', hg2⟩ := getV_lin path v hg
      cases u with
      | d y =>
        cases y with
        | arr n e' xs =>
          obtain ⟨kk, cap, cur, o, a, hi2, hr, hrv, hp, hle, hxl, hsz, hra, rfl, ha, hsd⟩ := slAt_sa hh hl hd hg2 (fun u hu => hu)
          obtain ⟨hbe, hg3⟩ := onT_elim hk'
          clear hk' hg
          have he := Sh.beq_eq _ _ hbe
          subst he
          obtain ⟨ys, hg4, hs⟩ := elems_sound hh hrd hc hg3
          obtain ⟨ac, c2, dss, rfl, hl2, hrc2, hfl2, hone2, hcell2⟩ := hs.flat hte'.pos
          have hmin : Nat.min ys.length len ≤ len := Nat.min_le_right _ _
          have hmin2 : Nat.min ys.length len ≤ ys.length := Nat.min_le_left _ _
          have hnl : (dss.flatten.take (Nat.min ys.length len * ee.sh.csz)).length = Nat.min ys.length len * ee.sh.csz := by
            rw [List.length_take, hfl2]; exact Nat.min_eq_left (Nat.mul_le_mul_right _ hmin2)
          have hfit : off * ee.sh.csz + Nat.min ys.length len * ee.sh.csz ≤ n * ee.sh.csz := by rw [← Nat.add_mul]; exact Nat.mul_le_mul_right _ (by omega)
          rw [copyL_eq xs ys off len (by omega)] at hg4
          have hnew := copy_arr hra hl2 hrc2 (off := off) (n := Nat.min ys.length len) hmin2 (by omega)
          obtain ⟨z, o', hk, hp', hz, hle'⟩ := setV_sound (u := .d (.arr n ee.sh (xs.take off ++ ys.take (Nat.min ys.length len) ++ xs.drop (off + Nat.min ys.length len)))) (.d _ _ _ hnew) path hrv hg4
          rw [show V.sh (.d (.arr n ee.sh (xs.take off ++ ys.take (Nat.min ys.length len) ++ xs.drop (off + Nat.min ys.length len)))) = .arr n ee.sh from rfl, hp] at hp'
          cases hp'
          have hcl : cur.toList.length = cur.size := by simp
          have hrun := run_copy (cx := cx) (t2 := t2) (ty := ty) (cap := n - off) (c2 := c2) hu hte' hr hfl2 hcell2 hone2 (ao := a) (o := o + off * ee.sh.csz) (len := len) (fun h => ha (by omega)) (by omega)
          have hsh : z.sh = v.sh := hz.sh_eq
          have hbk : BK m m b (.fix v) (.fix z) := .fix _ _ hsh rfl
          refine copy_fin hh hl hi2 hbk hk hrun (.fix z kk cap _ hi2 (row_setRow_self hr) ?_)
          rw [hsh]
          refine RCV.keep (keep_set hl hi2 hbk) ?_
          have hss := splice_splice cur.toList (dss.flatten.take (Nat.min ys.length len * ee.sh.csz)) o (n * ee.sh.csz) (off * ee.sh.csz) (by rw [hnl]; exact hfit)
          have hlen2 : (((cur.toList.drop o).take (n * ee.sh.csz)).take (off * ee.sh.csz) ++ dss.flatten.take (Nat.min ys.length len * ee.sh.csz) ++ ((cur.toList.drop o).take (n * ee.sh.csz)).drop (off * ee.sh.csz + Nat.min ys.length len * ee.sh.csz)).length = n * ee.sh.csz := by
            simp only [List.length_append, hnl, List.length_take, List.length_drop, hcl]; omega
          rw [hlen2] at hz
          rw [hnl] at hss
          rw [hss] at hz
          simpa using hz
        | _ => exact hk'.elim
      | _ => exact hk'.elim
  | _ => exact hg.elim
end

end Go.Fw

/-
Arguments handed on as data; calls; every operation. No conditions.
-/
namespace Go.Fw
set_option linter.unusedVariables false
set_option linter.unusedSimpArgs false
open Go.RowKit

section
variable {cx : Cx} {B : Nat} {w : World} {m : M} {H : Heap} {rd : Nat → Option Blk}

theorem SlAt.rc {e : Sh} {xs : List D} {c : Value} (h : SlAt w m H e xs c) : RC w noOwn .one (.ro e false xs) [c] := by
  obtain ⟨a, cap, css, rfl, hc, hl, h1, h2⟩ := h
  refine .ro e false xs a cap css hl hc (by intro h; cases h) (fun i x cs a b => (h1 i x cs a b).unown) (fun i cs j c a b => ?_)
  obtain ⟨ad, h3, h4⟩ := h2 i cs j c a b
  exact ⟨ad, h3, h4, fun h => h⟩

theorem views_sound {shs : List Sh} {k : Bool → List D → Prop} : ∀ (xs : List V) (i : Nat) (css : List (List Value)),
    (∀ (j : Nat) s x cs, shs[i + j]? = some s → xs[j]? = some x → css[j]? = some cs → ∀ k : Bool → D → Prop, view rd x k → ∃ b y, k b y ∧ RC w noOwn s y cs ∧ (b = false → RC w (Own m H) s y cs)) →
    css.length = xs.length → i + xs.length = shs.length → views rd xs k →
    ∃ b ys, k b ys ∧ ys.length = xs.length ∧ (∀ (j : Nat) s y cs, shs[i + j]? = some s → ys[j]? = some y → css[j]? = some cs → RC w noOwn s y cs ∧ (b = false → RC w (Own m H) s y cs))
  | [], i, css, _, _, _, hg => ⟨false, [], hg, rfl, fun j s y cs _ h => by simp at h⟩
  | x :: xs, i, css, h, hl, hs, hg => by
    cases css with
    | nil => simp at hl
    | cons c0 cr =>
      simp only [List.length_cons] at hl hs
      have hs0 : shs[i + 0]? = some (shs[i]'(by omega)) := by rw [Nat.add_zero]; exact List.getElem?_eq_getElem (by omega)
      obtain ⟨b, y, hk, r1, r2⟩ := h 0 _ x c0 hs0 rfl rfl _ hg
      obtain ⟨b', ys, hk, hyl, hr⟩ := views_sound xs (i + 1) cr (fun j s x cs a b c => h (j + 1) s x cs (by rw [← a]; congr 1; omega) (by simpa using b) (by simpa using c)) (by omega) (by omega) hk
      refine ⟨b || b', y :: ys, hk, by simp [hyl], fun j s z cs a p q => ?_⟩
      cases j with
      | zero =>
        rw [hs0] at a
        simp at p q
        cases a; subst p; subst q
        exact ⟨r1, fun hb => r2 (by cases b <;> simp_all)⟩
      | succ j =>
        obtain ⟨q1, q2⟩ := hr j s z cs (by rw [← a]; congr 1; omega) (by simpa using p) (by simpa using q)
        exact ⟨q1, fun hb => q2 (by cases b' <;> simp_all)⟩

theorem view_cells (hh : HeapOK cx B w m H) (hrd : Rd rd H) {sh : Sh} {v : V} {cs : List Value} (h : RCV w m H sh v cs) : ∀ k : Bool → D → Prop, view rd v k → ∃ b x, k b x ∧ RC w noOwn sh x cs ∧ (b = false → RC w (Own m H) sh x cs) := by
  have slice : ∀ {v : V} {c : Value}, (∀ x, v ≠ .d x) → RCV w m H .one v [c] → v.sh = .one → ∀ k : Bool → D → Prop, vslice rd v k → ∃ b x, k b x ∧ RC w noOwn .one x [c] ∧ (b = false → RC w (Own m H) .one x [c]) := by
    intro v c hv hr hs k hg
    obtain ⟨b, x, hk, hor⟩ := vslice_sound hh hrd (RV.one_cell hr hs) hg
    rcases hor with ⟨_, rfl⟩ | ⟨rfl, e, xs, rfl, hsl⟩
    · exact absurd rfl (hv x)
    · exact ⟨true, _, hk, hsl.rc, fun h => by cases h⟩
  induction h with
  | d sh x cs h => intro k hg; exact ⟨false, x, hg, h.unown, fun _ => h⟩
  | st shs xs css hl hs h ih =>
    intro k hg
    obtain ⟨b, ys, hk, hyl, hr⟩ := views_sound (shs := shs) xs 0 css (fun j s x cs a b c => ih j s x cs (by simpa using a) b c) hl (by omega) hg
    refine ⟨b, .st ys, hk, .st shs ys css (by omega) (by omega) (fun i s x cs a b c => (hr i s x cs (by simpa using a) b c).1), fun hb => .st shs ys css (by omega) (by omega) (fun i s x cs a b c => (hr i s x cs (by simpa using a) b c).2 hb)⟩
  | any c h => intro k hg; exact hg.elim
  | ptr b ver path sh a hb h => intro k hg; exact hg.elim
  | parr b off n ver c ho hb h => intro k hg; exact hg.elim
  | rop x a cs h hm => intro k hg; exact hg.elim
  | sl b off ver c ho hb h => exact slice (by intro x h; cases h) (.sl b off ver c ho hb h) rfl
  | sub b off len ver c ho hb h => exact slice (by intro x h; cases h) (.sub b off len ver c ho hb h) rfl
  | sa b path off len c ho hb h => exact slice (by intro x h; cases h) (.sa b path off len c ho hb h) rfl

theorem argsV_sound (hh : HeapOK cx B w m H) (hrd : Rd rd H) {k : Bool → List D → Prop} : ∀ (l : List V) (cl : List Value), cl.length = l.length → (∀ (i : Nat) v c, l[i]? = some v → cl[i]? = some c → RV w m H v c) → argsV rd l k →
    ∃ b ds, k b ds ∧ ds.length = l.length ∧ (∀ (i : Nat) x c, ds[i]? = some x → cl[i]? = some c → RD1 w noOwn x c ∧ (b = false → RD1 w (Own m H) x c))
  | [], cl, _, _, hg => ⟨false, [], hg, rfl, fun i x c h => by simp at h⟩
  | v :: vs, cl, hl, hr, hg => by
    cases cl with
    | nil => simp at hl
    | cons c0 cr =>
      obtain ⟨hcv, hg⟩ := onT_elim hg
      obtain ⟨cs, hrc, rfl⟩ := (hr 0 v c0 rfl rfl).elim hcv
      obtain ⟨b, x, hk, r1, r2⟩ := view_cells hh hrd hrc _ hg
      obtain ⟨b', ds, hk, hdl, hrr⟩ := argsV_sound hh hrd vs cr (by simpa using hl) (fun i v c a b => hr (i + 1) v c (by simpa using a) (by simpa using b)) hk
      have hsh := r1.sh_eq
      refine ⟨b || b', x :: ds, hk, by simp [hdl], fun i y c a p => ?_⟩
      cases i with
      | zero =>
        simp at a p
        subst a; subst p
        exact ⟨⟨cs, by rw [hsh]; exact r1, by rw [hsh]⟩, fun hb => ⟨cs, by rw [hsh]; exact r2 (by cases b <;> simp_all), by rw [hsh]⟩⟩
      | succ i =>
        obtain ⟨q1, q2⟩ := hrr i y c (by simpa using a) (by simpa using p)
        exact ⟨q1, fun hb => q2 (by cases b' <;> simp_all)⟩

theorem D.le.sh_eq {x y : D} (h : D.le x y) : x.sh = y.sh := by
  induction h with
  | refl x => rfl
  | nils e => rfl
  | loose e xs => rfl
  | st xs ys hl h hs ih => simp [D.sh, hs]

theorem RC.le {own : Nat → Prop} {x y : D} (h : D.le x y) : ∀ {sh : Sh} {cs : List Value}, RC w own sh x cs → RC w own sh y cs := by
  induction h with
  | refl x => intro sh cs h; exact h
  | nils e =>
    intro sh cs h
    cases h
    exact .ro e false [] none 0 [] rfl (by simp) (by intro h; cases h) (fun i x cs h => by simp at h) (fun i cs j c h => by simp at h)
  | loose e xs =>
    intro sh cs h
    cases h with
    | ro _ _ _ a cap css hl hc ht h hm => exact .ro e false xs a cap css hl hc (by intro h; cases h) h hm
  | st xs ys hl h hs ih =>
    intro sh cs hr
    cases hr with
    | st shs _ css hl2 hs2 h2 =>
      refine .st shs ys css (by omega) (by omega) fun i s y cs a b c => ?_
      have hi : i < xs.length := by have := (List.getElem?_eq_some_iff.1 b).1; omega
      have hx : xs[i]? = some xs[i] := List.getElem?_eq_getElem hi
      exact ih i _ _ hx b (h2 i s _ cs a hx c)

theorem RD1.le {own : Nat → Prop} {x y : D} {c : Value} (hl : D.le x y) (h : RD1 w own x c) : RD1 w own y c := by
  obtain ⟨cs, h1, h2⟩ := h
  rw [hl.sh_eq] at h1 h2
  exact ⟨cs, RC.le hl h1, h2⟩

theorem D.les_spec : ∀ {xs ys : List D}, D.les xs ys → ys.length = xs.length ∧ ∀ (i : Nat) y, ys[i]? = some y → ∃ x, xs[i]? = some x ∧ D.le x y
  | [], [], _ => ⟨rfl, fun i y h => by simp at h⟩
  | x :: xs, y :: ys, h => by
    obtain ⟨h1, h2⟩ := h
    obtain ⟨l, r⟩ := D.les_spec h2
    refine ⟨by simp [l], fun i z hz => ?_⟩
    cases i with
    | zero => simp at hz; subst hz; exact ⟨x, rfl, h1⟩
    | succ i => obtain ⟨u, hu, hle⟩ := r i z (by simpa using hz); exact ⟨u, by simpa using hu, hle⟩
  | [], _ :: _, h => h.elim
  | _ :: _, [], h => h.elim

theorem RC.flat {own own' : Nat → Prop} {sh : Sh} {x : D} {cs : List Value} (h : RC w own sh x cs) (hf : x.flat) : RC w own' sh x cs := by
  induction h with
  | int k n => exact .int k n
  | bool b => exact .bool b
  | str l => exact .str l
  | nils => exact .nils
  | nilp => exact .nilp
  | fn f caps css hl h ih => cases hf
  | ro e t xs a cap css hl hc ht h hm ih => cases hf
  | arr n e xs css hl hn h ih =>
    cases hf with
    | arr _ _ _ hf => exact .arr n e xs css hl hn fun i x cs a b => ih i x cs a b (hf x (List.mem_of_getElem? a))
  | st shs xs css hl hs h ih =>
    cases hf with
    | st _ hf => exact .st shs xs css hl hs fun i s x cs a b c => ih i s x cs a b c (hf x (List.mem_of_getElem? b))

theorem RD.flat {own own' : Nat → Prop} {x : D} {c : Value} (h : RD w own x c) (hf : x.flat) : RD w own' x c := by
  cases x with
  | tup xs =>
    obtain ⟨cs, h1, h2, h3⟩ := h
    cases hf with
    | tup _ hf =>
      refine ⟨cs, h1, h2, fun i x c a b => ?_⟩
      obtain ⟨cells, q1, q2⟩ := h3 i x c a b
      exact ⟨cells, q1.flat (hf x (List.mem_of_getElem? a)), q2⟩
  | _ =>
    obtain ⟨cells, q1, q2⟩ := h
    exact ⟨cells, q1.flat hf, q2⟩

theorem RD.rv {x : D} {c : Value} (h : RD w (Own m H) x c) : RV w m H (.d x) c := by
  cases x with
  | tup xs =>
    obtain ⟨cs, rfl, h2, h3⟩ := h
    exact .dtup xs cs h2 h3
  | _ =>
    obtain ⟨cells, q1, rfl⟩ := h
    exact .one (.d _) cells (.d _ _ _ q1)

/-- A call that hands back data: what the relation keeps. -/
theorem keep_below {w' : World} (hh : HeapOK cx B w m H) (hb : Below w.heap.size w w') : Keep w m H w' m H ∧ HeapOK cx B w' m H := by
  have hk : Keep w m H w' m H := ⟨fun a c h1 h2 => ⟨by rw [hb.cell (cell_lt h1)]; exact h1, h2⟩, fun _ h => h, fun b _ x hx => ⟨x, hx, BK.refl m b x⟩, fun _ h => h⟩
  refine ⟨hk, fun i y hy => (hh.blk i y hy).keep hk rfl fun k cap cur hi hr => ?_, hh.inj, hh.lo, hh.lt, hh.born, hh.glob.keep hk, hh.far, Nat.le_trans hh.size hb.size⟩
  obtain ⟨t, ht⟩ := hr
  exact ⟨t, by rw [hb.block k (Array.getElem?_eq_some_iff.1 ht).1]; exact ht⟩

theorem own_lt (hh : HeapOK cx B w m H) : ∀ k, Own m H k → k < w.heap.size := by
  rintro k (hf | ⟨b, x, cap, hl, hi⟩)
  · have := hh.far k hf; have := hh.size; omega
  · exact heap_lts hh b x k cap hl hi

end

end Go.Fw

/-
Every operation that W lets in does what W says. No conditions.
-/
namespace Go.Fw
set_option linter.unusedVariables false
set_option linter.unusedSimpArgs false
open Go.RowKit

section
variable {cx : Cx} {B : Nat} {w : World} {m : M} {H : Heap} {rd : Nat → Option Blk}

/-- What is known behind an operation with value v and effect e. -/
structure Aft (cx : Cx) (B : Nat) (w : World) (m : M) (H : Heap) (slot : Nat) (v : V) (e : Eff) (c : Value) (w' : World) (m' : M) : Prop where
  keep : Keep w m H w' m' (happ H e)
  heap : HeapOK cx B w' m' (happ H e)
  val : RV w' m' (happ H e) v c
  below : Below B w w'
  born : ∀ b, m'.born b → m.born b ∨ b = slot

/-- The operation is sound for this predicate. -/
def OpOK (cx : Cx) (B : Nat) (w : World) (m : M) (H : Heap) (slot : Nat) (o : Oper) (a : Act) (k : V → Eff → Prop) : Prop :=
  ∃ v e, k v e ∧ ∀ (K : Act → World → Prop) (Q : Exit → Act → World → Prop), (∀ c w' m', Aft cx B w m H slot v e c w' m' → K (a.put o.dst c) w') → o.wp cx.P a w K Q

theorem OpRes.ok {slot : Nat} {o : Oper} {a : Act} {k : V → Eff → Prop} {S : Sem Value} (h : OpRes cx B w m H slot k S) (he : execOp a.eval o = do pure (.value (← S))) : OpOK cx B w m H slot o a k := by
  obtain ⟨v, e, c, w', m', hk, hr, h1, h2, h3, h4, h5⟩ := h
  refine ⟨v, e, hk, fun K Q hK => ?_⟩
  unfold Oper.wp
  rw [he]
  simp only [Sem.run_bind, hr, Result.andThen_ok, Sem.run_pure, Oper.upon]
  exact hK c w' m' ⟨h1, h2, h3, h4, h5⟩

theorem POK.ok (hh : HeapOK cx B w m H) {slot : Nat} {o : Oper} {a : Act} {k : V → Eff → Prop} {S : Sem Value} (h : POK cx w m H (fun v => k v []) S) (he : execOp a.eval o = do pure (.value (← S))) : OpOK cx B w m H slot o a k :=
  (h.res hh).ok he

/-- A call of a function with a body. -/
theorem call_ok (hh : HeapOK cx B w m H) (hrd : Rd rd H) {slot : Nat} {o : Oper} {a : Act} {k : V → Eff → Prop} {f : FuncId} {caps : List D} {cv : Value} {l : List V} {cl : List Value} (hf : RV w m H (.d (.fn f caps)) cv)
    (hl : cl.length = l.length) (hr : ∀ (i : Nat) v c, l[i]? = some v → cl[i]? = some c → RV w m H v c)
    (he : ∀ fn first captured, cv = .func fn first captured → execOp a.eval o = invoke (.fn fn captured) (first ++ cl.toArray))
    (hg : argsV rd l fun bor ds => ∃ ds' v, D.les ds ds' ∧ Returns cx f (ds' ++ caps) v ∧ onB bor v (k (.d v) [])) : OpOK cx B w m H slot o a k := by
  obtain ⟨bor, ds, ⟨ds', v, hles, hret0, hk⟩, hdl, hds⟩ := argsV_sound hh hrd l cl hl hr hg
  obtain ⟨cs, hfc, hcv⟩ := hf.elim rfl
  have hfc := hfc.of_d
  cases hfc with
  | fn _ _ css hcl hcr =>
    obtain ⟨hll, hle⟩ := D.les_spec hles
    have hcv : cv = .func (.func f) #[] (List.zipWith (fun x cs => pack x.sh cs) caps css).toArray := hcv
    have hex := he _ _ _ hcv
    have hargs : ∀ (own : Nat → Prop), (∀ (i : Nat) x c, ds[i]? = some x → cl[i]? = some c → RD1 w own x c) → (∀ (i : Nat) x cs, caps[i]? = some x → css[i]? = some cs → RC w own x.sh x cs) →
        ∀ (i : Nat) x c, (ds' ++ caps)[i]? = some x → (cl ++ List.zipWith (fun x cs => pack x.sh cs) caps css)[i]? = some c → RD1 w own x c := by
      intro own h1 h2 i x c hx hc
      rw [List.getElem?_append] at hx hc
      rw [hll, hdl] at hx
      rw [hl] at hc
      split at hx
      · rename_i hi
        rw [if_pos hi] at hc
        obtain ⟨x0, hx0, hle0⟩ := hle i x hx
        exact (h1 i x0 c hx0 hc).le hle0
      · rename_i hi
        rw [if_neg hi] at hc
        rw [List.getElem?_zipWith] at hc
        rw [hx] at hc
        split at hc
        · rename_i a' b' ha hb
          cases ha
          cases hc
          exact ⟨b', h2 _ _ _ hx hb, rfl⟩
        · cases hc
    have hlen : (cl ++ List.zipWith (fun x cs => pack x.sh cs) caps css).length = (ds' ++ caps).length := by
      simp [hll, hdl, hl, hcl]
    have post : ∀ (v : D) (c : Value) (w' : World), Below w.heap.size w w' → RD w' (Own m H) v c → Aft cx B w m H slot (.d v) [] c w' m := fun v c w' hb hd =>
      ⟨(keep_below hh hb).1, (keep_below hh hb).2, hd.rv, hb.mono hh.size, fun b h => .inl h⟩
    rcases hret0 with ⟨⟨fn, hfn, hname, hbody⟩, hret⟩ | ⟨_, hret⟩
    · skip
      have hnb : ¬ fn.body.isNone = true := by
        cases h : fn.body with
        | none => rw [h] at hbody; cases hbody
        | some b => simp
      have hnm : ¬ (fn.name == "runtime.NumGoroutine") = true := by rw [hname]; simp
      have hrun : (execOp a.eval o).run cx.P w = .ok (.enter f (cl ++ List.zipWith (fun x cs => pack x.sh cs) caps css).toArray) w := by
        rw [hex]
        simp only [invoke, callFunc, Sem.run_bind, run_program, Result.andThen_ok, hfn]
        rw [if_neg hnm, if_neg hnb]
        simp
      cases bor with
      | false =>
        have hc := hret w _ (Own m H) (own_lt hh) hh.glob hlen (hargs _ (fun i x c a b => (hds i x c a b).2 rfl) hcr)
        refine ⟨.d v, [], hk, fun K Q hK => ?_⟩
        unfold Oper.wp
        rw [hrun]
        simp only [Oper.upon]
        refine hc.mono ?_
        rintro e w' ⟨c, rfl, hd, hb⟩
        exact hK c w' m (post v c w' hb hd)
      | true =>
        obtain ⟨hfl, hk⟩ := hk
        have hgl : GOK cx w noOwn := hh.glob.mono (fun a c h _ => ⟨h, fun h => h⟩) (fun g x _ _ h => h)
        have hc := hret w _ noOwn (fun k h => h.elim) hgl hlen (hargs _ (fun i x c a b => (hds i x c a b).1) (fun i x cs a b => (hcr i x cs a b).unown))
        refine ⟨.d v, [], hk, fun K Q hK => ?_⟩
        unfold Oper.wp
        rw [hrun]
        simp only [Oper.upon]
        refine hc.mono ?_
        rintro e w' ⟨c, rfl, hd, hb⟩
        exact hK c w' m (post v c w' hb (hd.flat hfl))
    · have hrun0 : ∀ c, (callFunc f (cl ++ List.zipWith (fun x cs => pack x.sh cs) caps css).toArray).run cx.P w = .ok (.value c) w → (execOp a.eval o).run cx.P w = .ok (.value c) w := fun c h => by
        rw [hex]
        simp only [invoke]
        simpa using h
      cases bor with
      | false =>
        obtain ⟨c, hc, hd⟩ := hret w _ (Own m H) hlen (hargs _ (fun i x c a b => (hds i x c a b).2 rfl) hcr)
        refine ⟨.d v, [], hk, fun K Q hK => ?_⟩
        unfold Oper.wp
        rw [hrun0 c hc]
        simp only [Oper.upon]
        exact hK c w m (post v c w (Below.refl _ _) hd)
      | true =>
        obtain ⟨hfl, hk⟩ := hk
        obtain ⟨c, hc, hd⟩ := hret w _ noOwn hlen (hargs _ (fun i x c a b => (hds i x c a b).1) (fun i x cs a b => (hcr i x cs a b).unown))
        refine ⟨.d v, [], hk, fun K Q hK => ?_⟩
        unfold Oper.wp
        rw [hrun0 c hc]
        simp only [Oper.upon]
        exact hK c w m (post v c w (Below.refl _ _) (hd.flat hfl))

theorem allD_rc (hh : HeapOK cx B w m H) : ∀ (l : List V) (cl : List Value) (ds : List D), cl.length = l.length → (∀ (i : Nat) v c, l[i]? = some v → cl[i]? = some c → RV w m H v c) → allD l = some ds → (∀ x ∈ ds, cellV (.d x) = true) →
    ∃ css : List (List Value), css.length = ds.length ∧ (∀ (i : Nat) x cs, ds[i]? = some x → css[i]? = some cs → RC w (Own m H) x.sh x cs) ∧ cl = List.zipWith (fun x cs => pack x.sh cs) ds css := by
  intro l cl ds hl hr hd hcv
  have := allD_some hd
  subst this
  clear hd
  induction ds generalizing cl with
  | nil => cases cl with
    | nil => exact ⟨[], rfl, fun i x cs h => by simp at h, rfl⟩
    | cons c r => simp at hl
  | cons x ds ih =>
    cases cl with
    | nil => simp at hl
    | cons c r =>
      obtain ⟨css, h1, h2, h3⟩ := ih r (fun y hy => hcv y (by simp [hy])) (by simpa using hl) (fun i v c a b => hr (i + 1) v c (by simpa using a) (by simpa using b))
      obtain ⟨cs, q1, rfl⟩ := (hr 0 (.d x) c rfl rfl).elim (hcv x (by simp))
      refine ⟨cs :: css, by simp [h1], fun i y ds' a b => ?_, by simp [h3, V.sh]⟩
      cases i with
      | zero => simp at a b; subst a; subst b; exact q1.of_d
      | succ i => exact h2 i y ds' (by simpa using a) (by simpa using b)
end

end Go.Fw

/-
Reads of parts, slices as arrays, function values: what each operation comes to. No conditions.
-/
namespace Go.Fw
set_option linter.unusedVariables false
set_option linter.unusedSimpArgs false
open Go.RowKit

section
variable {cx : Cx} {B : Nat} {w : World} {m : M} {H : Heap} {rd : Nat → Option Blk}

theorem ro_flat {own : Nat → Prop} {e : Sh} {xs : List D} {a : Option Addr} {css : List (List Value)} (hl : css.length = xs.length)
    (h : ∀ (i : Nat) x cs, xs[i]? = some x → css[i]? = some cs → RC w own e x cs) (hpos : 0 < e.csz)
    (hm : ∀ (i : Nat) cs (j : Nat) c, css[i]? = some cs → cs[j]? = some c → ∃ ad, a = some ad ∧ w.cell? (ad.add (i * e.csz + j)) = some c ∧ ¬ own ad.block) :
    ∀ (j : Nat) c, css.flatten[j]? = some c → ∃ ad, a = some ad ∧ w.cell? (ad.add j) = some c ∧ ¬ own ad.block := by
  have hlen := arr_lens hl h
  intro j cc hj
  have hjl := (List.getElem?_eq_some_iff.1 hj).1
  rw [len_flat, sum_const hlen] at hjl
  have hi : j / e.csz < css.length := Nat.div_lt_of_lt_mul (by rw [Nat.mul_comm]; exact hjl)
  have hc : css[j / e.csz]? = some css[j / e.csz] := List.getElem?_eq_getElem hi
  obtain ⟨f1, f2⟩ := flat_get hc
  have hll := hlen _ (List.getElem_mem hi)
  rw [sum_take_const hlen (by omega), hll] at f1 f2
  have hmod := Nat.mod_lt j hpos
  have he : j / e.csz * e.csz + j % e.csz = j := by rw [Nat.mul_comm]; exact Nat.div_add_mod j e.csz
  have h3 : (css[j / e.csz])[j % e.csz]? = some cc := by
    rw [← f1, List.getElem?_take, if_pos hmod, List.getElem?_drop, he]
    exact hj
  have := hm _ _ _ _ hc h3
  rw [he] at this
  exact this

theorem run_arrayAt {arr e : TypeId} {n : Nat} (hu : cx.P.underlying arr = some (.array n e)) {a : Option Addr} {len cap : Nat} (hn : n ≤ len) :
    (Instr.arrayAt arr (.slice a len cap)).run cx.P w = .ok (.pointer a) w := by
  have : ¬ len < n := by omega
  simp [Instr.arrayAt, run_underlying hu, this]

/-- Slices as pointers at arrays. -/
theorem arrV_sound (hx : CxOK cx) (hh : HeapOK cx B w m H) (hrd : Rd rd H) {t : TypeId} {x : V} {c : Value} {k : V → Prop} (hv : RV w m H x c)
    (hg : arrV cx rd t x k) : POK cx w m H k (Instr.arrayAt t c) := by
  obtain ⟨te, hte, hg⟩ := onS_elim hg
  cases hty : te.ty with
  | arr n e0 =>
    obtain ⟨hu, ee, hee, hsh⟩ := ty_arr hx hte hty
    rw [hty] at hg
    cases x with
    | d y =>
      cases y with
      | ro e t xs =>
        obtain ⟨hb, hg⟩ := onT_elim hg
        obtain ⟨hn, hk⟩ := onT_elim hg
        have hn : 0 < n ∧ n ≤ xs.length := by simpa using hn
        have he := Sh.beq_eq _ _ hb
        rw [hsh] at he
        cases he
        have hpos : 0 < ee.sh.csz := (hx.ty _ _ hee).pos
        obtain ⟨cs, h, hc⟩ := hv.elim rfl
        have h := h.of_d
        cases h with
        | ro _ _ _ a cap css hl hcap ht h0 hm =>
          have hc : c = .slice a xs.length cap := hc
          subst hc
          have hrun := fun a => run_arrayAt (w := w) (cx := cx) hu (a := a) (cap := cap) hn.2
          have hf := ro_flat hl h0 hpos hm
          have hlen := arr_lens hl h0
          have h00 : css[0]? = some (css[0]'(by omega)) := List.getElem?_eq_getElem (by omega)
          have hp0 : 0 < (css[0]'(by omega)).length := by rw [hlen _ (List.getElem_mem _)]; exact hpos
          obtain ⟨ad, ha, _⟩ := hm 0 _ 0 _ h00 (List.getElem?_eq_getElem hp0)
          subst ha
          refine ⟨_, .pointer (some ad), hk, hrun _, .rop_of (cs := (css.take n).flatten) ?_ fun j c hj => ?_⟩
          · refine .arr n _ _ _ (by simp [hl]) (by simp; omega) fun i x c h1 h2 => ?_
            rw [List.getElem?_take] at h1 h2
            split at h1
            · rename_i hi
              rw [if_pos hi] at h2
              exact h0 _ x c h1 h2
            · cases h1
          · rw [flat_take n hlen (by omega)] at hj
            rw [List.getElem?_take] at hj
            split at hj
            · obtain ⟨ad', ha', q⟩ := hf j c hj
              cases ha'
              exact q
            · cases hj
      | _ => exact hg.elim
    | sl b off ver =>
      obtain ⟨bk, hb, hg2⟩ := onS_elim hg
      have hl := hrd b bk hb
      cases bk with
      | fix v => exact hg2.elim
      | grow ver' e xs =>
        obtain ⟨he, hg3⟩ := onE_elim hg2
        obtain ⟨hn, hk⟩ := onT_elim hg3
        have hn : n ≤ xs.length - off := by simpa using hn
        obtain ⟨cs, h, hc⟩ := hv.elim rfl
        cases h with
        | sl _ _ _ c' ho hb' h =>
          have hc : c = c' := hc
          subst hc
          obtain ⟨hle, hor⟩ := (h ver' e xs hl).2 he
          have hmk : ∀ (q : Value), q.oneCell' = true → (0 < n → ∃ k cap, m.ι b = some (k, cap) ∧ q = .pointer (some ⟨k, off * e.csz, none⟩)) → RV w m H (.parr b off n ver) q := fun q hq h1 => by
            refine .one (.parr b off n ver) [q] (.parr b off n ver q hq hb' fun ver2 e2 xs2 hl2 => ?_)
            have := live_inj hl hl2
            cases this
            exact ⟨by omega, fun _ => ⟨by omega, h1⟩⟩
          rcases hor with ⟨hn0, rfl⟩ | ⟨kk, cap, a, hi, hcap, rfl, ha⟩
          · have hx0 : xs = [] := by
              cases hh.blk b _ hl with
              | none => rfl
              | grow ver e xs k cap cur css h1 => rw [hn0] at h1; cases h1
            subst hx0
            have : n = 0 := by simpa using hn
            exact ⟨_, _, hk, run_arrayAt hu (by omega), hmk _ rfl (fun h => by omega)⟩
          · refine ⟨_, _, hk, run_arrayAt hu hn, hmk _ rfl fun hp => ⟨kk, cap, hi, by rw [ha (by omega)]⟩⟩
    | sub b off len ver =>
      obtain ⟨bk, hb, hg2⟩ := onS_elim hg
      have hl := hrd b bk hb
      cases bk with
      | fix v => exact hg2.elim
      | grow ver' e xs =>
        obtain ⟨he, hg3⟩ := onE_elim hg2
        obtain ⟨hn, hk⟩ := onT_elim hg3
        have hn : n ≤ len := by simpa using hn
        obtain ⟨cs, h, hc⟩ := hv.elim rfl
        cases h with
        | sub _ _ _ _ c' ho hb' h =>
          have hc : c = c' := hc
          subst hc
          obtain ⟨hle, cap, a, rfl, hcl, ha⟩ := (h ver' e xs hl).2 he
          refine ⟨_, _, hk, run_arrayAt hu hn, .one (.parr b off n ver) [.pointer a] (.parr b off n ver _ rfl hb' fun ver2 e2 xs2 hl2 => ?_)⟩
          have := live_inj hl hl2
          cases this
          refine ⟨by omega, fun _ => ⟨by omega, fun hp => ?_⟩⟩
          obtain ⟨kk, cap', hi, rfl⟩ := ha (by omega)
          exact ⟨kk, cap', hi, rfl⟩
    | _ => exact hg.elim
  | _ => rw [hty] at hg; exact hg.elim

theorem nilCheck_sound {x : V} {c : Value} {k : V → Prop}
    (hg : match x with
      | .ptr b v p s => k (.ptr b v p s)
      | .rop x => k (.rop x)
      | _ => False) (hv : RV w m H x c) : ∃ a, c = .pointer (some a) ∧ k x := by
  cases x with
  | ptr b ver path s => obtain ⟨a, rfl⟩ := hv.ptr_inv; exact ⟨a, rfl, hg⟩
  | rop y => obtain ⟨a, cs, rfl, _⟩ := hv.rop_inv; exact ⟨a, rfl, hg⟩
  | _ => exact hg.elim

theorem fieldAtV_sound (hx : CxOK cx) {t : TypeId} {x : V} {c : Value} {f : Nat} {k : V → Prop} (hv : RV w m H x c) (hg : fieldAtV cx t x f k) : POK cx w m H k (Instr.fieldAt t c f) := by
  obtain ⟨te, hte, hg⟩ := onS_elim hg
  cases hty : te.ty with
  | st fs =>
    rw [hty] at hg
    cases x with
    | ptr b ver path s =>
      cases s with
      | st l =>
        obtain ⟨hb, hg⟩ := onT_elim hg
        obtain ⟨s, hs, hk⟩ := onS_elim hg
        obtain ⟨fields, fd, fe, hu, hf, ho, hfe, rfl⟩ := field_at hx hte hty (Sh.beq_eq _ _ hb) hs
        obtain ⟨a, rfl⟩ := hv.ptr_inv
        exact ⟨_, _, hk, run_fieldAt hu hf (hx.ty _ _ hfe), hv.ptr_part (q := [f]) (by simp [poff, hs, ho])⟩
      | _ => exact hg.elim
    | rop y =>
      cases y with
      | st xs =>
        obtain ⟨hb, hg⟩ := onT_elim hg
        obtain ⟨y, hy, hk⟩ := onS_elim hg
        obtain ⟨a, cs, rfl, hr, hm⟩ := hv.rop_inv
        obtain ⟨o, s, hp, hrv⟩ := rop_part (p := [f]) (y := y) hv (onS_intro hy rfl)
        simp only [D.sh, poff] at hp
        cases hs : (D.shs xs)[f]? with
        | none => rw [hs] at hp; cases hp
        | some s' =>
          rw [hs] at hp
          simp at hp
          obtain ⟨rfl, rfl⟩ := hp
          obtain ⟨fields, fd, fe, hu, hf, ho, hfe, rfl⟩ := field_at hx hte hty (Sh.beq_eq _ _ hb) hs
          exact ⟨_, _, hk, run_fieldAt hu hf (hx.ty _ _ hfe), by rw [ho]; exact hrv⟩
      | _ => exact hg.elim
    | _ => exact hg.elim
  | _ => rw [hty] at hg; exact hg.elim

theorem fieldV_sound (hx : CxOK cx) {t : TypeId} {x : V} {c : Value} {f : Nat} {k : V → Prop} (hv : RV w m H x c) (hg : fieldV cx t x f k) : POK cx w m H k (Instr.field t c f) := by
  obtain ⟨te, hte, hg⟩ := onS_elim hg
  cases hty : te.ty with
  | st fs =>
    rw [hty] at hg
    have main : ∀ {l : List Sh} {x : V} {k' : V → Prop} (hv : RV w m H x c), cellV x = true → x.sh = .st l → te.sh = .st l → getV [f] x k' → ∃ u c', k' u ∧ (Instr.field t c f).run cx.P w = .ok c' w ∧ RV w m H u c' := by
      intro l x k' hv hcv hxs hts hgv
      obtain ⟨cs, hr, rfl⟩ := hv.elim hcv
      obtain ⟨u, o, s, hk, hp, hru, hle⟩ := getV_sound [f] hr hgv
      rw [hxs] at hp
      simp only [poff] at hp
      cases hs : l[f]? with
      | none => rw [hs] at hp; cases hp
      | some s' =>
        rw [hs] at hp
        simp at hp
        obtain ⟨rfl, rfl⟩ := hp
        obtain ⟨fields, fd, fe, hu, hf, ho, hfe, rfl⟩ := field_at hx hte hty hts hs
        have hag : x.sh.agg = true := by rw [hxs]; rfl
        have hus := hru.sh_eq
        refine ⟨u, pack fe.sh ((cs.drop (Sh.cszs (l.take f))).take fe.sh.csz), hk, ?_, RCV.one_of (by rw [hus]; exact hru) (by rw [hus])⟩
        rw [pack_agg hag, run_field hu hf (hx.ty _ _ hfe) (by rw [ho]; exact hle), ho]
    cases x with
    | d y =>
      cases y with
      | st xs =>
        obtain ⟨hb, hg⟩ := onT_elim hg
        exact main (k' := k) hv rfl rfl (Sh.beq_eq _ _ hb) hg
      | _ => exact hg.elim
    | st xs =>
      obtain ⟨hb, hg⟩ := onT_elim hg
      exact main (k' := k) hv rfl rfl (Sh.beq_eq _ _ hb) hg
    | _ => exact hg.elim
  | _ => rw [hty] at hg; exact hg.elim

theorem indexV_sound (hx : CxOK cx) {t : TypeId} {x : V} {c : Value} {kd : IntKind} {i : Int} {k : V → Prop} (hv : RV w m H x c) (hg : indexV cx t x i k) : POK cx w m H k (Instr.index t c (.int kd i)) := by
  obtain ⟨te, hte, hg⟩ := onS_elim hg
  cases hty : te.ty with
  | arr n0 e0 =>
    rw [hty] at hg
    obtain ⟨hu, ee, hee, hsh⟩ := ty_arr hx hte hty
    cases x with
    | d y =>
      cases y with
      | arr n e xs =>
        obtain ⟨hb, hg⟩ := onT_elim hg
        obtain ⟨hi, hgg⟩ := onT_elim hg
        have he := Sh.beq_eq _ _ hb
        rw [hsh] at he
        cases he
        have hi : 0 ≤ i ∧ i < n0 := by simpa using hi
        obtain ⟨cs, hr, rfl⟩ := hv.elim rfl
        obtain ⟨u, o, s, hk, hp, hru, hle⟩ := getV_sound (k := k) [i.toNat] hr hgg
        simp only [V.sh, D.sh, poff] at hp
        rw [if_pos (by omega)] at hp
        simp at hp
        obtain ⟨rfl, rfl⟩ := hp
        have hus := hru.sh_eq
        refine ⟨u, pack ee.sh ((cs.drop (i.toNat * ee.sh.csz)).take ee.sh.csz), hk, ?_, RCV.one_of (by rw [hus]; exact hru) (by rw [hus])⟩
        rw [pack_agg (by rfl)]
        simp [Instr.index, asIntOf, run_underlying hu, hi.1, hi.2, (hx.ty _ _ hee).run_sizeOf w, run_part (hx.ty _ _ hee) hle]
      | _ => exact hg.elim
    | _ => exact hg.elim
  | str =>
    rw [hty] at hg
    have hu : cx.P.underlying t = some .string := by have := (hx.ty _ _ hte).under; rw [hty] at this; exact this.1
    cases x with
    | d y =>
      cases y with
      | str s =>
        obtain ⟨hi, hg⟩ := onT_elim hg
        obtain ⟨b, hb, hk⟩ := onS_elim hg
        have hi : 0 ≤ i ∧ i < s.length := by simpa using hi
        have := hv.str_inv
        subst this
        refine ⟨_, .int .u8 b.toNat, hk, ?_, .int _ _⟩
        have e : (ByteArray.mk s.toArray)[i.toNat]? = some b := by
          have h1 : i.toNat < (ByteArray.mk s.toArray).size := by simp [ByteArray.size]; omega
          rw [getElem?_pos (ByteArray.mk s.toArray) i.toNat h1]
          have := (List.getElem?_eq_some_iff.1 hb).2
          rw [← this]
          rfl
        simp [Instr.index, asIntOf, run_underlying hu, hi.1, e]
      | _ => exact hg.elim
    | _ => exact hg.elim
  | _ => rw [hty] at hg; exact hg.elim

theorem extract_sound {x : V} {c : Value} {i : Nat} {k : V → Prop}
    (hg : match x with
      | .d (.tup xs) => onS xs[i]? fun y => k (.d y)
      | .tup xs => onS xs[i]? fun y => k y
      | _ => False) (hv : RV w m H x c) : POK cx w m H k (Instr.extract c i) := by
  cases x with
  | d y =>
    cases y with
    | tup xs =>
      obtain ⟨y, hy, hk⟩ := onS_elim hg
      cases hv with
      | one _ cs h => have h := h.of_d; cases h
      | dtup _ cs hl h =>
        have hi := (List.getElem?_eq_some_iff.1 hy).1
        have hc : cs[i]? = some (cs[i]'(by omega)) := List.getElem?_eq_getElem (by omega)
        obtain ⟨cells, h1, h2⟩ := h i y _ hy hc
        refine ⟨_, _, hk, ?_, RCV.one_of (.d _ _ _ h1) h2⟩
        simp [Instr.extract, hc]
    | _ => exact hg.elim
  | tup xs =>
    obtain ⟨y, hy, hk⟩ := onS_elim hg
    cases hv with
    | one _ cs h => cases h
    | tup _ cs hl h =>
      have hi := (List.getElem?_eq_some_iff.1 hy).1
      have hc : cs[i]? = some (cs[i]'(by omega)) := List.getElem?_eq_getElem (by omega)
      refine ⟨_, _, hk, ?_, h i y _ hy hc⟩
      simp [Instr.extract, hc]
  | _ => exact hg.elim

theorem makeFunc_sound (hh : HeapOK cx B w m H) {f : FuncId} {l : List V} {cl : List Value} {k : V → Prop} (hl : cl.length = l.length) (hr : ∀ (i : Nat) v c, l[i]? = some v → cl[i]? = some c → RV w m H v c)
    (hg : onS (allD l) fun ds => onT (ds.all fun x => cellV (.d x)) (k (.d (.fn f ds)))) : POK cx w m H k (Instr.makeFunc (.func f) #[] cl.toArray) := by
  obtain ⟨ds, hd, hg⟩ := onS_elim hg
  obtain ⟨hc, hk⟩ := onT_elim hg
  rw [List.all_eq_true] at hc
  obtain ⟨css, h1, h2, rfl⟩ := allD_rc hh l cl ds hl hr hd hc
  exact ⟨_, _, hk, rfl, RV.d1 (.fn f ds css h1 h2) rfl⟩
end
end Go.Fw

/-
Every operation that W lets in is sound. No conditions.
-/
namespace Go.Fw
set_option linter.unusedVariables false
set_option linter.unusedSimpArgs false
open Go.RowKit

section
variable {cx : Cx} {B : Nat} {w : World} {m : M} {H : Heap} {rd : Nat → Option Blk}

theorem pure_ok (hh : HeapOK cx B w m H) {slot : Nat} {o : Oper} {a : Act} {k : V → Eff → Prop} {v : V} {c : Value} (hk : k v []) (hv : RV w m H v c) (he : execOp a.eval o = pure (.value c)) : OpOK cx B w m H slot o a k :=
  POK.ok hh ⟨v, c, hk, by rfl, hv⟩ (S := pure c) (by rw [he]; rfl)

theorem args_list {ρ : Operand → V} {ρc : Operand → Value} (hρ : RO w m H ρ ρc) (l : List Operand) : ∀ (i : Nat) v c, (l.map ρ)[i]? = some v → (l.map ρc)[i]? = some c → RV w m H v c := by
  intro i v c h1 h2
  rw [List.getElem?_map] at h1 h2
  cases h : l[i]? with
  | none => rw [h] at h1; cases h1
  | some x =>
    rw [h] at h1 h2
    cases h1; cases h2
    exact hρ x

theorem parts_toArray (parts : Array (Nat × Operand)) (f : Operand → Value) : (parts.map fun (i, x) => (i, f x)) = (parts.toList.map fun p => (p.1, f p.2)).toArray := by
  cases parts; simp

theorem arr_toArray (parts : Array Operand) (f : Operand → Value) : parts.map f = (parts.toList.map f).toArray := by
  cases parts; simp

theorem Wop_sound (hx : CxOK cx) (hh : HeapOK cx B w m H) (hrd : Rd rd H) {ρ : Operand → V} {a : Act} (hρ : RO w m H ρ a.eval) {slot : Nat} {o : Oper}
    (hn : newOp o = true → ¬ m.born slot ∧ slot < H.length) {k : V → Eff → Prop} (hg : Wop cx ρ rd slot o k) : OpOK cx B w m H slot o a k := by
  obtain ⟨dst, op, ty, pos, after, guard⟩ := o
  cases op with
  | move x => exact pure_ok hh hg (hρ x) rfl
  | assign x => exact pure_ok hh hg (hρ x) rfl
  | pick c x y =>
    obtain ⟨b, hb, hc, hg⟩ := asB_elim (hρ c) hg
    cases b with
    | true => exact pure_ok hh hg (hρ x) (by simp [execOp, hc, asBool])
    | false => exact pure_ok hh hg (hρ y) (by simp [execOp, hc, asBool])
  | alloc elem =>
    obtain ⟨te, hte, hk⟩ := onS_elim hg
    obtain ⟨h1, h2⟩ := hn rfl
    exact (alloc_sound hx hh h1 h2 hte hk).ok rfl
  | box t x =>
    obtain ⟨hcv, hk⟩ := onT_elim hg
    obtain ⟨h1, h2⟩ := hn rfl
    exact (box_sound hh h1 h2 (hρ x) hcv hk).ok rfl
  | build t parts =>
    refine POK.ok hh (buildV_sound hx hρ hg) ?_
    simp only [execOp, parts_toArray]
  | buildSlice t len parts =>
    obtain ⟨te, hte, hg⟩ := onS_elim hg
    obtain ⟨h1, h2⟩ := hn rfl
    cases hty : te.ty with
    | sl e =>
      rw [hty] at hg
      obtain ⟨ee, hee, hg⟩ := onS_elim hg
      obtain ⟨h24, hg⟩ := onT_elim hg
      refine (buildSlice_sound hx hh h1 h2 hρ hte hty hee (by simpa using h24) hg).ok ?_
      simp only [execOp, parts_toArray]
    | _ => rw [hty] at hg; exact hg.elim
  | load t x =>
    have hg' : loadV cx rd t (ρ x) (fun v => k v []) := hg
    obtain ⟨u, c', hk, hr, hv⟩ := loadV_sound hx hh hrd (hρ x) hg'
    exact POK.ok hh ⟨u, c', hk, hr, hv⟩ rfl
  | store t x y =>
    have hg' : storeV cx rd t (ρ x) (ρ y) (fun e => k .any e) := hg
    obtain ⟨b, x', w', hk, hr, h1, h2, h3⟩ := storeV_sound hx hh hrd (hρ x) (hρ y) hg'
    refine ⟨_, _, hk, fun K Q hK => ?_⟩
    unfold Oper.wp
    simp only [execOp, Sem.run_bind, hr, Result.andThen_ok, Sem.run_pure, Oper.upon]
    exact hK undef w' m ⟨h1, h2, .any _, h3, fun b h => .inl h⟩
  | nilCheck x =>
    have hg' : match ρ x with
      | .ptr b v p s => k (.ptr b v p s) []
      | .rop x => k (.rop x) []
      | _ => False := hg
    obtain ⟨ad, hc, hk⟩ := nilCheck_sound (k := fun v => k v []) hg' (hρ x)
    refine pure_ok hh hk (hρ x) ?_
    simp only [execOp, hc]
  | binOp op t x y ty' => exact POK.ok hh (binV_sound hx (ox := x) (oy := y) (hρ x) (hρ y) hg) rfl
  | unOp op t x => exact POK.ok hh (unV_sound (hρ x) hg) rfl
  | convert src dst x =>
    have hg : match Nat.beq src dst with
      | true => convS cx rd dst (ρ x) k
      | false => convV cx rd src dst (ρ x) fun v => k v [] := hg
    cases hb : Nat.beq src dst with
    | true => rw [hb] at hg; exact (convS_sound hx hh hrd (Nat.eq_of_beq_eq_true hb) (hρ x) hg).ok rfl
    | false => rw [hb] at hg; exact (convV_sound hx hh hrd (hρ x) hg).ok rfl
  | sliceToArrayPointer arr x => exact POK.ok hh (arrV_sound hx hh hrd (hρ x) hg) rfl
  | makeSlice t l c =>
    obtain ⟨te, hte, hg⟩ := onS_elim hg
    obtain ⟨h1, h2⟩ := hn rfl
    cases hty : te.ty with
    | sl e =>
      rw [hty] at hg
      obtain ⟨ee, hee, hg⟩ := onS_elim hg
      obtain ⟨kl, n, _, hl, hg⟩ := asI_elim (hρ l) hg
      obtain ⟨kc, c', _, hc, hg⟩ := asI_elim (hρ c) hg
      obtain ⟨hb, hk⟩ := onT_elim hg
      have hb : 0 ≤ n ∧ n ≤ c' ∧ ee.bytes * c' ≤ 281474976710656 ∧ c' ≤ 9223372036854775807 := by simpa using hb
      refine (makeSlice_sound hx hh h1 h2 hte hty hee (kl := kl) (kc := kc) hb.1 hb.2.1 hb.2.2.1 hb.2.2.2 hk).ok ?_
      simp only [execOp, hl, hc]
    | _ => rw [hty] at hg; exact hg.elim
  | slice t x lo hi mx => exact POK.ok hh (sliceV_sound hx hh hrd hρ (hρ x) hg) rfl
  | fieldAddr t x f => exact POK.ok hh (fieldAtV_sound hx (hρ x) hg) rfl
  | field t x f => exact POK.ok hh (fieldV_sound hx (hρ x) hg) rfl
  | indexAddr t x i =>
    obtain ⟨kd, n, _, hc, hg⟩ := asI_elim (hρ i) hg
    refine POK.ok hh (idxV_sound hx hh hrd (kd := kd) (hρ x) hg) ?_
    simp only [execOp, hc]
  | index t x i =>
    obtain ⟨kd, n, _, hc, hg⟩ := asI_elim (hρ i) hg
    refine POK.ok hh (indexV_sound hx (kd := kd) (hρ x) hg) ?_
    simp only [execOp, hc]
  | extract x i =>
    have hg' : match ρ x with
      | .d (.tup xs) => onS xs[i]? fun y => k (.d y) []
      | .tup xs => onS xs[i]? fun y => k y []
      | _ => False := hg
    exact POK.ok hh (extract_sound (k := fun v => k v []) hg' (hρ x)) rfl
  | makeFunc fn first captured =>
    cases fn with
    | func f =>
      have hg' : match first.toList with
        | [] => onS (allD (captured.toList.map ρ)) fun ds => onT (ds.all fun x => cellV (.d x)) (k (.d (.fn f ds)) [])
        | _ => False := hg
      cases hf : first.toList with
      | nil =>
        rw [hf] at hg'
        have hf0 : first = #[] := by cases first; simp at hf; subst hf; rfl
        subst hf0
        refine POK.ok hh (makeFunc_sound (k := fun v => k v []) hh (f := f) (l := captured.toList.map ρ) (cl := captured.toList.map a.eval) (by simp) (args_list hρ _) hg') ?_
        simp only [execOp, arr_toArray]
        rfl
      | cons x r => rw [hf] at hg'; exact hg'.elim
    | _ => exact hg.elim
  | call c =>
    obtain ⟨callee, cargs, catys⟩ := c
    cases callee with
    | builtin b =>
      by_cases hl : b = .len
      · subst hl
        have hg' : match cargs.toList, catys.toList with
          | [x], [t] => lenV cx rd t (ρ x) fun n => k (.d (.int .i64 n)) []
          | _, _ => False := hg
        obtain ⟨cargs⟩ := cargs
        obtain ⟨catys⟩ := catys
        match cargs, catys, hg' with
        | [x], [t], hg' =>
          obtain ⟨n, hk, hr⟩ := lenV_sound hx hh hrd (ty := ty) (hρ x) hg'
          exact POK.ok hh ⟨_, _, hk, hr, .int _ _⟩ (by simp only [execOp, resolve, arr_toArray]; rfl)
      · by_cases ha : b = .append
        · subst ha
          have hg' : match cargs.toList, catys.toList with
            | [x, y], [t, t'] => br (t == t') (onS (cx.ty t) fun te => match te.ty with
              | .sl e => onS (cx.ty e) fun ee => appendV rd slot ee.sh ee.bytes (ρ x) (ρ y) k
              | _ => False) (onS (cx.ty t) fun te => match te.ty with
              | .sl e => onS (cx.ty e) fun ee => onS (cx.ty t') fun te' => match te'.ty with
                | .int .i64 => appendZ rd ee.sh ee.bytes ee.zero (ρ x) (ρ y) k
                | _ => False
              | _ => False)
            | _, _ => False := hg
          obtain ⟨cargs⟩ := cargs
          obtain ⟨catys⟩ := catys
          obtain ⟨h1, h2⟩ := hn rfl
          match cargs, catys, hg' with
          | [x, y], [t, t'], hg1 =>
            have hg' : br (t == t') (onS (cx.ty t) fun te => match te.ty with
              | .sl e => onS (cx.ty e) fun ee => appendV rd slot ee.sh ee.bytes (ρ x) (ρ y) k
              | _ => False) (onS (cx.ty t) fun te => match te.ty with
              | .sl e => onS (cx.ty e) fun ee => onS (cx.ty t') fun te' => match te'.ty with
                | .int .i64 => appendZ rd ee.sh ee.bytes ee.zero (ρ x) (ρ y) k
                | _ => False
              | _ => False) := hg1
            clear hg1
            cases hb : (t == t') with
            | false =>
              rw [hb] at hg'
              have hg3 : (onS (cx.ty t) fun te => match te.ty with
              | .sl e => onS (cx.ty e) fun ee => onS (cx.ty t') fun te' => match te'.ty with
                | .int .i64 => appendZ rd ee.sh ee.bytes ee.zero (ρ x) (ρ y) k
                | _ => False
              | _ => False) := hg'
              clear hg'
              obtain ⟨te, hte, hg'⟩ := onS_elim hg3
              cases hty : te.ty with
              | sl e =>
                rw [hty] at hg'
                obtain ⟨ee, hee, hg'⟩ := onS_elim hg'
                obtain ⟨te', hte', hg'⟩ := onS_elim hg'
                cases hty' : te'.ty with
                | int kk =>
                  cases kk with
                  | i64 =>
                    rw [hty'] at hg'
                    exact (appendZ_sound (ty := ty) (slot := slot) hx hh hrd hte hty hee hte' hty' (hρ x) (hρ y) hg').ok (by simp only [execOp, resolve, arr_toArray]; rfl)
                  | _ => rw [hty'] at hg'; exact hg'.elim
                | _ => rw [hty'] at hg'; exact hg'.elim
              | _ => rw [hty] at hg'; exact hg'.elim
            | true =>
            rw [hb] at hg'
            have hg3 : onS (cx.ty t) fun te => match te.ty with
              | .sl e => onS (cx.ty e) fun ee => appendV rd slot ee.sh ee.bytes (ρ x) (ρ y) k
              | _ => False := hg'
            clear hg'
            have he : t = t' := by simpa using hb
            subst he
            obtain ⟨te, hte, hg'⟩ := onS_elim hg3
            cases hty : te.ty with
            | sl e =>
              rw [hty] at hg'
              obtain ⟨ee, hee, hg'⟩ := onS_elim hg'
              exact (appendV_sound (ty := ty) hx hh hrd h1 h2 hte hty hee (hρ x) (hρ y) hg').ok (by simp only [execOp, resolve, arr_toArray]; rfl)
            | _ => rw [hty] at hg'; exact hg'.elim
        · by_cases hc : b = .copy
          · subst hc
            have hg' : match cargs.toList, catys.toList with
              | [x, y], [t, _] => onS (cx.ty t) fun te => match te.ty with
                | .sl e => onS (cx.ty e) fun ee => copyV rd ee.sh (ρ x) (ρ y) k
                | _ => False
              | _, _ => False := hg
            obtain ⟨cargs⟩ := cargs
            obtain ⟨catys⟩ := catys
            match cargs, catys, hg' with
            | [x, y], [t, t'], hg1 =>
              have hg' : onS (cx.ty t) (fun te => match te.ty with
                | .sl e => onS (cx.ty e) fun ee => copyV rd ee.sh (ρ x) (ρ y) k
                | _ => False) := hg1
              obtain ⟨te, hte, hg'⟩ := onS_elim hg'
              cases hty : te.ty with
              | sl e =>
                rw [hty] at hg'
                obtain ⟨ee, hee, hg'⟩ := onS_elim hg'
                exact (copyV_sound (ty := ty) hx hh hrd hte hty hee (hρ x) (hρ y) hg').ok (by simp only [execOp, resolve, arr_toArray]; rfl)
              | _ => rw [hty] at hg'; exact hg'.elim
          · have hg' : minI b (cargs.toList.map ρ) fun v => k v [] := by
              cases b <;> first | exact hg | exact absurd rfl hl | exact absurd rfl ha | exact absurd rfl hc
            obtain ⟨v, c, hk, hv, hor⟩ := minI_sound (tt := catys) (ty := ty) (l := cargs.toList.map ρ) (cl := cargs.toList.map a.eval) (by simp) (args_list hρ _) hg'
            rcases hor with ⟨rfl, hr⟩ | ⟨rfl, hr⟩
            · refine POK.ok hh ⟨v, c, hk, hr, hv⟩ ?_
              simp only [execOp, resolve, arr_toArray]
              rfl
            · refine POK.ok hh ⟨v, c, hk, hr, hv⟩ ?_
              simp only [execOp, resolve, arr_toArray]
              rfl
    | value f =>
      have hg' : match ρ f with
        | .d (.fn f caps) => argsV rd (cargs.toList.map ρ) fun bor ds => ∃ ds' v, D.les ds ds' ∧ Returns cx f (ds' ++ caps) v ∧ onB bor v (k (.d v) [])
        | _ => False := hg
      have hf := hρ f
      cases hfv : ρ f with
      | d y =>
        rw [hfv] at hg' hf
        cases y with
        | fn f' caps =>
          refine call_ok hh hrd (caps := caps) hf (l := cargs.toList.map ρ) (cl := cargs.toList.map a.eval) (by simp) (args_list hρ _) (fun fn first captured he => ?_) hg'
          simp only [execOp, resolve, he, Deferred.ofValue, arr_toArray]
          rfl
        | _ => exact hg'.elim
      | _ => rw [hfv] at hg'; exact hg'.elim
    | invoke recv name => exact hg.elim
  | _ => exact hg.elim
end
end Go.Fw

/-
Each operation has one outcome: what W asks of it is asked of that outcome. No conditions.
-/
namespace Go.Fw
set_option linter.unusedVariables false
set_option linter.unusedSimpArgs false
open Go.RowKit

/-- One outcome. -/
def Lin {α : Type} (T : (α → Prop) → Prop) : Prop := ∀ k, T k → ∃ x, k x ∧ ∀ k' : α → Prop, k' x → T k'
def Lin2 {α β : Type} (T : (α → β → Prop) → Prop) : Prop := Lin fun k : α × β → Prop => T fun a b => k (a, b)

section
variable {α β γ : Type}
theorem Lin.ret (x : α) : Lin fun k => k x := fun _ h => ⟨x, h, fun _ h => h⟩
theorem Lin.fals : Lin fun _ : α → Prop => False := fun _ h => h.elim
theorem Lin.bind {S : (α → Prop) → Prop} {T : α → (β → Prop) → Prop} (hS : Lin S) (hT : ∀ a, Lin (T a)) : Lin fun k => S fun a => T a k := by
  intro k h
  obtain ⟨x, hx, h1⟩ := hS _ h
  obtain ⟨y, hy, h2⟩ := hT x _ hx
  exact ⟨y, hy, fun k' hk => h1 _ (h2 _ hk)⟩
theorem Lin.bind2 {S : (α → β → Prop) → Prop} {T : α → β → (γ → Prop) → Prop} (hS : Lin2 S) (hT : ∀ a b, Lin (T a b)) : Lin fun k => S fun a b => T a b k := by
  intro k h
  obtain ⟨x, hx, h1⟩ := hS (fun p => T p.1 p.2 k) h
  obtain ⟨y, hy, h2⟩ := hT x.1 x.2 _ hx
  exact ⟨y, hy, fun k' hk => h1 (fun p => T p.1 p.2 k') (h2 _ hk)⟩
theorem Lin.onS {o : Option α} {T : α → (β → Prop) → Prop} (h : ∀ a, Lin (T a)) : Lin fun k => Fw.onS o fun a => T a k := by
  cases o with
  | none => exact Lin.fals
  | some a => exact h a
theorem Lin.onT {b : Bool} {T : (β → Prop) → Prop} (h : Lin T) : Lin fun k => Fw.onT b (T k) := by
  cases b with
  | true => exact h
  | false => exact Lin.fals
theorem Lin.onE {a b : Nat} {T : (β → Prop) → Prop} (h : Lin T) : Lin fun k => Fw.onE a b (T k) := by
  unfold Fw.onE
  cases Nat.beq a b with
  | true => exact h
  | false => exact Lin.fals
theorem Lin.br {b : Bool} {T U : (β → Prop) → Prop} (h : Lin T) (h' : Lin U) : Lin fun k => Fw.br b (T k) (U k) := by
  cases b with
  | true => exact h
  | false => exact h'
theorem Lin.asI {v : V} {T : IntKind → Int → (β → Prop) → Prop} (h : ∀ a n, Lin (T a n)) : Lin fun k => Fw.asI v fun a n => T a n k := by
  cases v with
  | d x => cases x with
    | int a n => exact h a n
    | _ => exact Lin.fals
  | _ => exact Lin.fals
theorem Lin.asB {v : V} {T : Bool → (β → Prop) → Prop} (h : ∀ a, Lin (T a)) : Lin fun k => Fw.asB v fun a => T a k := by
  cases v with
  | d x => cases x with
    | bool a => exact h a
    | _ => exact Lin.fals
  | _ => exact Lin.fals
end

theorem getD_one : ∀ (p : List Nat) (x : D), Lin (getD p x)
  | [], x => Lin.ret x
  | i :: p, x => by
    cases x with
    | arr n e xs => exact Lin.onS fun x => getD_one p x
    | st xs => exact Lin.onS fun x => getD_one p x
    | _ => exact Lin.fals

theorem setD_one : ∀ (p : List Nat) (y x : D), Lin (setD p y x)
  | [], y, x => Lin.onT (Lin.ret y)
  | [i], y, x => by
    cases x with
    | arr n e xs => exact Lin.onT (Lin.onT (Lin.ret _))
    | st xs => exact Lin.onS fun x => Lin.bind (setD_one [] y x) fun z => Lin.ret _
    | _ => exact Lin.fals
  | i :: j :: p, y, x => by
    cases x with
    | arr n e xs => exact Lin.onS fun x => Lin.bind (setD_one (j :: p) y x) fun z => Lin.ret _
    | st xs => exact Lin.onS fun x => Lin.bind (setD_one (j :: p) y x) fun z => Lin.ret _
    | _ => exact Lin.fals

theorem getV_one : ∀ (p : List Nat) (v : V), Lin (getV p v)
  | [], v => Lin.ret v
  | i :: p, v => by
    cases v with
    | d x =>
      show Lin fun k => getD (i :: p) x fun y => k (V.d y)
      exact Lin.bind (getD_one (i :: p) x) fun y => Lin.ret _
    | st xs => exact Lin.onS fun v => getV_one p v
    | _ => exact Lin.fals

theorem setV_one : ∀ (p : List Nat) (u v : V), Lin (setV p u v)
  | [], u, v => Lin.onT (Lin.ret u)
  | i :: p, u, v => by
    cases v with
    | d x =>
      cases u with
      | d y =>
        show Lin fun k => setD (i :: p) y x fun y => k (V.d y)
        exact Lin.bind (setD_one (i :: p) y x) fun z => Lin.ret _
      | _ =>
        cases x with
        | st xs => exact Lin.onS fun x => Lin.bind (setV_one p _ (.d x)) fun z => Lin.ret _
        | _ => exact Lin.fals
    | st xs => cases u <;> exact Lin.onS fun x => Lin.bind (setV_one p _ x) fun z => Lin.ret _
    | _ => cases u <;> exact Lin.fals

theorem vslice_lin (rd : Nat → Option Blk) (v : V) : Lin2 (vslice rd v) := by
  cases v with
  | d x => exact Lin.ret (false, x)
  | sl b off ver =>
    refine Lin.onS fun bk => ?_
    cases bk with
    | fix v => exact Lin.fals
    | grow ver' e xs => exact Lin.onE (Lin.ret (true, _))
  | sub b off len ver =>
    refine Lin.onS fun bk => ?_
    cases bk with
    | fix v => exact Lin.fals
    | grow ver' e xs => exact Lin.onE (Lin.ret (true, _))
  | sa b path off len =>
    refine Lin.onS fun bk => ?_
    cases bk with
    | fix v =>
      refine Lin.bind (getV_one path v) fun u => ?_
      cases u with
      | d x =>
        cases x with
        | arr n e xs => exact Lin.ret (true, _)
        | _ => exact Lin.fals
      | _ => exact Lin.fals
    | grow ver' e xs => exact Lin.fals
  | _ => exact Lin.fals

mutual
theorem view_one (rd : Nat → Option Blk) : ∀ (v : V), Lin2 (view rd v)
  | .st xs => by
    show Lin fun k : Bool × D → Prop => view rd (.st xs) fun a b => k (a, b)
    simp only [view]
    exact Lin.bind2 (views_one rd xs) fun b l => Lin.ret (b, D.st l)
  | .d x => by
    show Lin fun k : Bool × D → Prop => view rd (.d x) fun a b => k (a, b)
    simp only [view]
    exact vslice_lin rd _
  | .tup xs => by
    show Lin fun k : Bool × D → Prop => view rd (.tup xs) fun a b => k (a, b)
    simp only [view]
    exact vslice_lin rd _
  | .sl a b c => by
    show Lin fun k : Bool × D → Prop => view rd (.sl a b c) fun a b => k (a, b)
    simp only [view]
    exact vslice_lin rd _
  | .sub a b c d => by
    show Lin fun k : Bool × D → Prop => view rd (.sub a b c d) fun a b => k (a, b)
    simp only [view]
    exact vslice_lin rd _
  | .sa a b c d => by
    show Lin fun k : Bool × D → Prop => view rd (.sa a b c d) fun a b => k (a, b)
    simp only [view]
    exact vslice_lin rd _
  | .ptr a b c d => by
    show Lin fun k : Bool × D → Prop => view rd (.ptr a b c d) fun a b => k (a, b)
    simp only [view]
    exact vslice_lin rd _
  | .parr a b c d => by
    show Lin fun k : Bool × D → Prop => view rd (.parr a b c d) fun a b => k (a, b)
    simp only [view]
    exact vslice_lin rd _
  | .rop x => by
    show Lin fun k : Bool × D → Prop => view rd (.rop x) fun a b => k (a, b)
    simp only [view]
    exact vslice_lin rd _
  | .any => by
    show Lin fun k : Bool × D → Prop => view rd (.any) fun a b => k (a, b)
    simp only [view]
    exact vslice_lin rd _
theorem views_one (rd : Nat → Option Blk) : ∀ (l : List V), Lin2 (views rd l)
  | [] => by
    show Lin fun k : Bool × List D → Prop => views rd [] fun a b => k (a, b)
    simp only [views]
    exact Lin.ret (false, [])
  | v :: vs => by
    show Lin fun k : Bool × List D → Prop => views rd (v :: vs) fun a b => k (a, b)
    simp only [views]
    exact Lin.bind2 (view_one rd v) fun b x => Lin.bind2 (views_one rd vs) fun c l => Lin.ret (b || c, x :: l)
end

theorem elems_lin (rd : Nat → Option Blk) (e : Sh) (v : V) : Lin (elems rd e v) := by
  have main : Lin fun k => vslice rd v fun _ x => match x with
    | .ro e' _ xs => onT (e'.beq e) (k xs)
    | _ => False := Lin.bind2 (vslice_lin rd v) fun b x => by
      cases x with
      | ro e' t xs => exact Lin.onT (Lin.ret _)
      | _ => exact Lin.fals
  cases v with
  | d x =>
    cases x with
    | nils => exact Lin.ret _
    | _ => exact main
  | _ => exact main

theorem argsV_lin (rd : Nat → Option Blk) : ∀ (l : List V), Lin2 (argsV rd l)
  | [] => Lin.ret (false, [])
  | v :: vs => Lin.onT (Lin.bind2 (view_one rd v) fun b x => Lin.bind2 (argsV_lin rd vs) fun c l => Lin.ret (b || c, x :: l))

theorem fillV_lin (ρ : Operand → V) : ∀ (parts : List (Nat × Operand)) (l : List V), Lin (fillV ρ parts l)
  | [], l => Lin.ret l
  | (i, x) :: r, l => Lin.onS fun z => Lin.onT (Lin.onT (fillV_lin ρ r _))

theorem optI_lin (ρ : Operand → V) (o : Option Operand) (d hi : Nat) : Lin (optI ρ o d hi) := by
  cases o with
  | none => exact Lin.ret _
  | some x => exact Lin.asI fun _ i => Lin.onT (Lin.ret _)

theorem appendZ_lin (rd : Nat → Option Blk) (e : Sh) (bytes : Nat) (zero : D) (dst src : V) : Lin2 (appendZ rd e bytes zero dst src) := by
  cases dst with
  | sl b off ver =>
    cases src with
    | d x =>
      cases x with
      | int kk n =>
        cases kk with
        | i64 =>
          refine Lin.onS fun bk => ?_
          cases bk with
          | fix v => exact Lin.fals
          | grow ver' e' xs => exact Lin.onE (Lin.onT (Lin.onE (Lin.onT (Lin.ret (_, _)))))
        | _ => exact Lin.fals
      | _ => exact Lin.fals
    | _ => exact Lin.fals
  | _ => exact Lin.fals

theorem appendV_lin (rd : Nat → Option Blk) (slot : Nat) (e : Sh) (bytes : Nat) (dst src : V) : Lin2 (appendV rd slot e bytes dst src) := by
  cases dst with
  | d x =>
    cases x with
    | nils =>
      show Lin fun k : V × Eff → Prop => elems rd e src fun ys => onT (decide (ys.length * bytes ≤ room)) (k (.sl slot 0 0, [(slot, some (.grow 0 e ys))]))
      exact Lin.bind (elems_lin rd e src) fun ys => Lin.onT (Lin.ret (_, _))
    | ro e' t xs =>
      cases t with
      | false => exact Lin.fals
      | true =>
        refine Lin.onT (Lin.bind (elems_lin rd e src) fun ys => Lin.onT ?_)
        cases ys with
        | nil => exact Lin.ret (_, _)
        | cons y ys' => exact Lin.ret (_, _)
    | _ => exact Lin.fals
  | sl b off ver =>
    refine Lin.onS fun bk => ?_
    cases bk with
    | fix v => exact Lin.fals
    | grow ver' e' xs => exact Lin.onE (Lin.onT (Lin.onE (Lin.bind (elems_lin rd e src) fun ys => Lin.onT (Lin.ret (_, _)))))
  | sa b path off len =>
    refine Lin.onS fun bk => ?_
    cases bk with
    | fix v =>
      refine Lin.bind (getV_one path v) fun u => ?_
      cases u with
      | d x =>
        cases x with
        | arr n e' xs =>
          refine Lin.onE (Lin.onT (Lin.bind (elems_lin rd e src) fun ys => Lin.onT ?_))
          have main : Lin fun k : V × Eff → Prop => (match path, off with
              | [], 0 => k (.sl slot 0 0, [(slot, some (.grow 0 e (xs ++ ys))), (b, none)])
              | _, _ => False) := by
            cases path with
            | nil => cases off with
              | zero => exact Lin.ret (_, _)
              | succ n => exact Lin.fals
            | cons i p => exact Lin.fals
          cases src with
          | sa b' p' off' len' =>
            cases len' with
            | zero => exact main
            | succ n => exact Lin.ret (_, _)
          | _ => exact main
        | _ => exact Lin.fals
      | _ => exact Lin.fals
    | grow ver' e xs => exact Lin.fals
  | _ => exact Lin.fals

theorem copyV_lin (rd : Nat → Option Blk) (e : Sh) (dst src : V) : Lin2 (copyV rd e dst src) := by
  cases dst with
  | sl b off ver =>
    refine Lin.onS fun bk => ?_
    cases bk with
    | fix v => exact Lin.fals
    | grow ver' e' xs => exact Lin.onE (Lin.onT (Lin.bind (elems_lin rd e src) fun ys => Lin.ret (_, _)))
  | sub b off len ver =>
    refine Lin.onS fun bk => ?_
    cases bk with
    | fix v => exact Lin.fals
    | grow ver' e' xs => exact Lin.onE (Lin.onT (Lin.bind (elems_lin rd e src) fun ys => Lin.ret (_, _)))
  | sa b path off len =>
    refine Lin.onS fun bk => ?_
    cases bk with
    | fix v =>
      refine Lin.bind (getV_one path v) fun u => ?_
      cases u with
      | d x =>
        cases x with
        | arr n e' xs => exact Lin.onT (Lin.bind (elems_lin rd e src) fun ys => Lin.bind (setV_one _ _ _) fun v' => Lin.ret (_, _))
        | _ => exact Lin.fals
      | _ => exact Lin.fals
    | grow ver' e xs => exact Lin.fals
  | _ => exact Lin.fals

theorem lenV_lin (cx : Cx) (rd : Nat → Option Blk) (t : TypeId) (v : V) : Lin (lenV cx rd t v) := by
  refine Lin.onS fun te => ?_
  cases te.ty with
  | str => cases v with
    | d x => cases x with
      | str l => exact Lin.ret _
      | _ => exact Lin.fals
    | _ => exact Lin.fals
  | arr n e => cases v with
    | d x => cases x with
      | arr n e xs => exact Lin.ret _
      | _ => exact Lin.fals
    | _ => exact Lin.fals
  | sl e => cases v with
    | d x => cases x with
      | nils => exact Lin.ret _
      | ro e t xs => exact Lin.ret _
      | _ => exact Lin.fals
    | sl b off ver =>
      refine Lin.onS fun bk => ?_
      cases bk with
      | fix v => exact Lin.fals
      | grow ver' e' xs => exact Lin.onE (Lin.ret _)
    | sub b off len ver =>
      refine Lin.onS fun bk => ?_
      cases bk with
      | fix v => exact Lin.fals
      | grow ver' e' xs => exact Lin.onE (Lin.ret _)
    | sa b path off len =>
      refine Lin.onS fun bk => ?_
      cases bk with
      | fix v => exact Lin.ret _
      | grow ver' e' xs => exact Lin.fals
    | _ => exact Lin.fals
  | _ => exact Lin.fals

theorem eqV_lin (cx : Cx) (t : TypeId) (op : BinOp) (x y : D) : Lin (eqV cx t op x y) := by
  refine Lin.onS fun te => Lin.onT (Lin.onT (Lin.onT (Lin.onS fun b => ?_)))
  cases op <;> first | exact Lin.ret _ | exact Lin.fals

theorem binV_lin (cx : Cx) (t : TypeId) (op : BinOp) (x y : V) : Lin (binV cx t op x y) := by
  cases x with
  | d x =>
    cases y with
    | d y =>
      cases x with
      | int kx a => cases y with
        | int ky b => cases op <;> first | exact Lin.onT (Lin.ret _) | exact Lin.onT (Lin.onT (Lin.ret _)) | exact Lin.ret _ | exact Lin.fals
        | _ => exact Lin.fals
      | str a => cases y with
        | str b => cases op <;> first | exact Lin.onT (Lin.ret _) | exact Lin.ret _ | exact Lin.fals
        | _ => exact Lin.fals
      | bool a => cases y with
        | bool b =>
          refine Lin.onS fun te => ?_
          cases te.ty with
          | bool => cases op <;> first | exact Lin.ret _ | exact Lin.fals
          | _ => exact Lin.fals
        | _ => exact Lin.fals
      | arr n e xs => cases y with
        | arr m f ys => exact eqV_lin _ _ _ _ _
        | _ => exact Lin.fals
      | st xs => cases y with
        | st ys => exact eqV_lin _ _ _ _ _
        | _ => exact Lin.fals
      | _ => exact Lin.fals
    | _ => cases x <;> exact Lin.fals
  | _ => exact Lin.fals

theorem unV_lin (op : UnOp) (x : V) : Lin (unV op x) := by
  cases x with
  | d x => cases x <;> cases op <;> first | exact Lin.ret _ | exact Lin.fals
  | _ => cases op <;> exact Lin.fals

theorem idxV_lin (cx : Cx) (rd : Nat → Option Blk) (t : TypeId) (x : V) (i : Int) : Lin (idxV cx rd t x i) := by
  refine Lin.onS fun te => ?_
  cases te.ty with
  | arr n e => cases x with
    | ptr b ver path s => cases s with
      | arr n e => exact Lin.onT (Lin.onT (Lin.ret _))
      | _ => exact Lin.fals
    | rop y => cases y with
      | arr n e xs => exact Lin.onT (Lin.onT (Lin.onS fun _ => Lin.ret _))
      | _ => exact Lin.fals
    | _ => exact Lin.fals
  | sl e =>
    refine Lin.onS fun ee => ?_
    cases x with
    | d y => cases y with
      | ro e t xs => exact Lin.onT (Lin.onT (Lin.onS fun _ => Lin.ret _))
      | _ => exact Lin.fals
    | sl b off ver =>
      refine Lin.onS fun bk => ?_
      cases bk with
      | fix v => exact Lin.fals
      | grow ver' e' xs => exact Lin.onE (Lin.onT (Lin.onT (Lin.ret _)))
    | sub b off len ver =>
      refine Lin.onS fun bk => ?_
      cases bk with
      | fix v => exact Lin.fals
      | grow ver' e' xs => exact Lin.onE (Lin.onT (Lin.onT (Lin.ret _)))
    | _ => exact Lin.fals
  | _ => exact Lin.fals

theorem sliceV_lin (cx : Cx) (ρ : Operand → V) (rd : Nat → Option Blk) (t : TypeId) (x : V) (lo hi mx : Option Operand) : Lin (sliceV cx ρ rd t x lo hi mx) := by
  refine Lin.onS fun te => ?_
  cases te.ty with
  | arr n e => cases x with
    | ptr b ver path s => cases s with
      | arr n e =>
        cases mx with
        | none => exact Lin.onT (Lin.bind (optI_lin _ _ _ _) fun h => Lin.bind (optI_lin _ _ _ _) fun l => Lin.ret _)
        | some m => exact Lin.onT Lin.fals
      | _ => exact Lin.fals
    | _ => exact Lin.fals
  | str => cases x with
    | d y => cases y with
      | str s => cases mx with
        | none => exact Lin.bind (optI_lin _ _ _ _) fun h => Lin.bind (optI_lin _ _ _ _) fun l => Lin.ret _
        | some m => exact Lin.fals
      | _ => exact Lin.fals
    | _ => exact Lin.fals
  | sl e =>
    refine Lin.onS fun ee => ?_
    cases x with
    | d y => cases y with
      | ro e t xs =>
        refine Lin.onT ?_
        cases mx with
        | none => cases hi with
          | none => exact Lin.bind (optI_lin _ _ _ _) fun l => Lin.ret _
          | some h => exact Lin.bind (optI_lin _ _ _ _) fun h => Lin.bind (optI_lin _ _ _ _) fun l => Lin.ret _
        | some m => cases hi with
          | none => exact Lin.fals
          | some h => exact Lin.bind (optI_lin _ _ _ _) fun m => Lin.bind (optI_lin _ _ _ _) fun h => Lin.bind (optI_lin _ _ _ _) fun l => Lin.ret _
      | nils => cases mx with
        | none => exact Lin.bind (optI_lin _ _ _ _) fun h => Lin.bind (optI_lin _ _ _ _) fun l => Lin.ret _
        | some m => exact Lin.fals
      | _ => exact Lin.fals
    | sl b off ver =>
      refine Lin.onS fun bk => ?_
      cases bk with
      | fix v => exact Lin.fals
      | grow ver' e' xs =>
        refine Lin.onE (Lin.onT ?_)
        cases mx with
        | none => cases hi with
          | none => exact Lin.bind (optI_lin _ _ _ _) fun l => Lin.ret _
          | some h => exact Lin.bind (optI_lin _ _ _ _) fun h => Lin.bind (optI_lin _ _ _ _) fun l => Lin.ret _
        | some m => exact Lin.fals
    | sub b off len ver =>
      refine Lin.onS fun bk => ?_
      cases bk with
      | fix v => exact Lin.fals
      | grow ver' e' xs =>
        refine Lin.onE (Lin.onT ?_)
        cases mx with
        | none => exact Lin.bind (optI_lin _ _ _ _) fun h => Lin.bind (optI_lin _ _ _ _) fun l => Lin.ret _
        | some m => exact Lin.fals
    | sa b path off len =>
      refine Lin.onS fun bk => ?_
      cases bk with
      | fix v =>
        refine Lin.onS fun p => ?_
        obtain ⟨o, s⟩ := p
        cases s with
        | arr n e =>
          refine Lin.onT ?_
          cases mx with
          | none => exact Lin.bind (optI_lin _ _ _ _) fun h => Lin.bind (optI_lin _ _ _ _) fun l => Lin.ret _
          | some m => exact Lin.fals
        | _ => exact Lin.fals
      | grow ver' e xs => exact Lin.fals
    | _ => exact Lin.fals
  | _ => exact Lin.fals

theorem bytesV_lin (rd : Nat → Option Blk) (x : V) : Lin (bytesV rd x) := by
  have main : Lin fun k : V → Prop => vslice rd x fun _ y => match y with
    | .ro _ _ xs => onS (xs.mapM asByte) fun l => k (.d (.str l))
    | _ => False := Lin.bind2 (vslice_lin rd x) fun b y => by
      cases y with
      | ro e' t xs => exact Lin.onS fun l => Lin.ret _
      | _ => exact Lin.fals
  cases x with
  | d y => cases y with
    | nils => exact Lin.ret _
    | _ => exact main
  | _ => exact main

theorem convS_lin (cx : Cx) (rd : Nat → Option Blk) (t : TypeId) (x : V) : Lin2 (convS cx rd t x) := by
  refine Lin.onS fun te => ?_
  cases te.ty with
  | int kd => cases x with
    | d y => cases y with
      | int k n => exact Lin.ret (_, _)
      | _ => exact Lin.fals
    | _ => exact Lin.fals
  | str => cases x with
    | d y => cases y with
      | str s => exact Lin.ret (_, _)
      | _ => exact Lin.fals
    | _ => exact Lin.fals
  | sl e => cases x with
    | sl b off ver =>
      refine Lin.onS fun ee => ?_
      cases ee.ty with
      | int k =>
        cases k with
        | u8 =>
          refine Lin.onS fun blk => ?_
          cases blk with
          | grow ver' e' xs => exact Lin.onE (Lin.onT (Lin.ret (_, _)))
          | fix v => exact Lin.fals
        | _ => exact Lin.fals
      | _ => exact Lin.fals
    | _ => exact Lin.fals
  | _ => exact Lin.fals

theorem convV_lin (cx : Cx) (rd : Nat → Option Blk) (src dst : TypeId) (x : V) : Lin (convV cx rd src dst x) := by
  refine Lin.onS fun ts => Lin.onS fun te => ?_
  cases te.ty with
  | int kd => cases x with
    | d y => cases y with
      | int k n => exact Lin.ret _
      | _ => exact Lin.fals
    | _ => exact Lin.fals
  | str =>
    cases ts.ty with
    | str => cases x with
      | d y => cases y with
        | str s => exact Lin.ret _
        | _ => exact Lin.fals
      | _ => exact Lin.fals
    | sl e =>
      refine Lin.onS fun ee => ?_
      cases ee.ty with
      | int k => cases k <;> first | exact bytesV_lin rd x | exact Lin.fals
      | _ => exact Lin.fals
    | _ => exact Lin.fals
  | sl e => cases x with
    | d y => cases y with
      | str s =>
        refine Lin.onS fun ee => ?_
        cases ee.ty with
        | int k => cases k <;> first | exact Lin.ret _ | exact Lin.fals
        | _ => exact Lin.fals
      | _ => exact Lin.fals
    | _ => exact Lin.fals
  | _ => exact Lin.fals

theorem minI_lin (op : Builtin) (l : List V) : Lin (minI op l) := by
  match l with
  | [] => cases op <;> exact Lin.fals
  | [x] => cases op <;> cases x <;> first | exact Lin.fals | (rename_i d; cases d <;> exact Lin.fals)
  | x :: y :: z :: r =>
    cases x with
    | d a => cases a with
      | int k n => cases y with
        | d b => cases b <;> cases op <;> exact Lin.fals
        | _ => cases op <;> exact Lin.fals
      | _ => cases op <;> exact Lin.fals
    | _ => cases op <;> exact Lin.fals
  | [x, y] =>
    cases x with
    | d a => cases a with
      | int k n => cases y with
        | d b => cases b <;> cases op <;> first | exact Lin.fals | exact Lin.onT (Lin.ret _)
        | _ => cases op <;> exact Lin.fals
      | _ => cases op <;> exact Lin.fals
    | _ => cases op <;> exact Lin.fals

theorem loadV_lin (cx : Cx) (rd : Nat → Option Blk) (t : TypeId) (p : V) : Lin (loadV cx rd t p) := by
  refine Lin.onS fun te => ?_
  cases p with
  | rop x => exact Lin.onT (Lin.ret _)
  | ptr b ver path s =>
    refine Lin.onT (Lin.onS fun bk => ?_)
    cases bk with
    | fix v => exact getV_one path v
    | grow ver' e xs =>
      refine Lin.onE ?_
      cases path with
      | nil => exact Lin.fals
      | cons i p => exact Lin.onS fun x => Lin.bind (getD_one p x) fun y => Lin.ret _
  | parr b off n ver =>
    refine Lin.onS fun bk => ?_
    cases bk with
    | fix v => exact Lin.fals
    | grow ver' e xs => exact Lin.onE (Lin.onT (Lin.ret _))
  | _ => exact Lin.fals

theorem storeV_lin (cx : Cx) (rd : Nat → Option Blk) (t : TypeId) (p u : V) : Lin (storeV cx rd t p u) := by
  refine Lin.onS fun te => Lin.onT (Lin.onT ?_)
  cases p with
  | ptr b ver path s =>
    refine Lin.onS fun bk => ?_
    cases bk with
    | fix v => exact Lin.bind (setV_one path u v) fun v' => Lin.ret _
    | grow ver' e xs =>
      refine Lin.onE ?_
      cases path with
      | nil => exact Lin.fals
      | cons i p =>
        cases u with
        | d y =>
          refine Lin.bind (setD_one (i :: p) y _) fun z => ?_
          cases z with
          | arr n e xs' => exact Lin.ret _
          | _ => exact Lin.fals
        | _ => exact Lin.fals
  | _ => exact Lin.fals

theorem buildV_lin (cx : Cx) (ρ : Operand → V) (t : TypeId) (parts : List (Nat × Operand)) : Lin (buildV cx ρ t parts) := by
  refine Lin.onS fun te => ?_
  cases te.zero with
  | st zs => exact Lin.bind (fillV_lin ρ parts _) fun l => Lin.ret _
  | arr n e zs => exact Lin.bind (fillV_lin ρ parts _) fun l => Lin.onS fun ds => Lin.ret _
  | _ => exact Lin.fals

theorem arrV_lin (cx : Cx) (rd : Nat → Option Blk) (t : TypeId) (x : V) : Lin (arrV cx rd t x) := by
  refine Lin.onS fun te => ?_
  cases te.ty with
  | arr n e => cases x with
    | d y => cases y with
      | ro e t xs => exact Lin.onT (Lin.onT (Lin.ret _))
      | _ => exact Lin.fals
    | sl b off ver =>
      refine Lin.onS fun bk => ?_
      cases bk with
      | fix v => exact Lin.fals
      | grow ver' e' xs => exact Lin.onE (Lin.onT (Lin.ret _))
    | sub b off len ver =>
      refine Lin.onS fun bk => ?_
      cases bk with
      | fix v => exact Lin.fals
      | grow ver' e' xs => exact Lin.onE (Lin.onT (Lin.ret _))
    | _ => exact Lin.fals
  | _ => exact Lin.fals

theorem fieldAtV_lin (cx : Cx) (t : TypeId) (x : V) (f : Nat) : Lin (fieldAtV cx t x f) := by
  refine Lin.onS fun te => ?_
  cases te.ty with
  | st fs => cases x with
    | ptr b ver path s => cases s with
      | st l => exact Lin.onT (Lin.onS fun _ => Lin.ret _)
      | _ => exact Lin.fals
    | rop y => cases y with
      | st xs => exact Lin.onT (Lin.onS fun _ => Lin.ret _)
      | _ => exact Lin.fals
    | _ => exact Lin.fals
  | _ => exact Lin.fals

theorem fieldV_lin (cx : Cx) (t : TypeId) (x : V) (f : Nat) : Lin (fieldV cx t x f) := by
  refine Lin.onS fun te => ?_
  cases te.ty with
  | st fs => cases x with
    | d y => cases y with
      | st l => exact Lin.onT (Lin.onS fun _ => Lin.ret _)
      | _ => exact Lin.fals
    | st l => exact Lin.onT (Lin.onS fun _ => Lin.ret _)
    | _ => exact Lin.fals
  | _ => exact Lin.fals

theorem indexV_lin (cx : Cx) (t : TypeId) (x : V) (i : Int) : Lin (indexV cx t x i) := by
  refine Lin.onS fun te => ?_
  cases te.ty with
  | arr n e => cases x with
    | d y => cases y with
      | arr n e xs => exact Lin.onT (Lin.onT (Lin.onS fun _ => Lin.ret _))
      | _ => exact Lin.fals
    | _ => exact Lin.fals
  | str => cases x with
    | d y => cases y with
      | str s => exact Lin.onT (Lin.onS fun _ => Lin.ret _)
      | _ => exact Lin.fals
    | _ => exact Lin.fals
  | _ => exact Lin.fals
end Go.Fw

/-
Each operation has one outcome; which operations look at memory, which write; operations that see the same operands. No conditions.
-/
namespace Go.Fw
set_option linter.unusedVariables false
set_option linter.unusedSimpArgs false
open Go.RowKit

theorem Lin.mono {α : Type} {T : (α → Prop) → Prop} (h : Lin T) {k k' : α → Prop} (hk : ∀ x, k x → k' x) (hT : T k) : T k' := by
  obtain ⟨x, hx, h1⟩ := h k hT
  exact h1 k' (hk x hx)

theorem Lin2.mono {α β : Type} {T : (α → β → Prop) → Prop} (h : Lin2 T) {k k' : α → β → Prop} (hk : ∀ x y, k x y → k' x y) (hT : T k) : T k' :=
  Lin.mono h (k := fun p => k p.1 p.2) (k' := fun p => k' p.1 p.2) (fun p h => hk _ _ h) hT

theorem Lin.op {S : (V → Prop) → Prop} (h : Lin S) : Lin2 fun k : V → Eff → Prop => S fun v => k v [] := Lin.bind h fun v => Lin.ret (v, [])
theorem Lin.st {S : (Eff → Prop) → Prop} (h : Lin S) : Lin2 fun k : V → Eff → Prop => S fun e => k .any e := Lin.bind h fun e => Lin.ret (V.any, e)

section
variable (cx : Cx) (ρ : Operand → V) (rd : Nat → Option Blk) (slot : Nat)

theorem Wop_lin (o : Oper) : Lin2 (Wop cx ρ rd slot o) := by
  obtain ⟨dst, op, ty, pos, after, guard⟩ := o
  cases op with
  | move x => exact Lin.ret (_, _)
  | assign x => exact Lin.ret (_, _)
  | pick c a b => exact Lin.asB fun t => Lin.br (Lin.ret (_, _)) (Lin.ret (_, _))
  | alloc elem => exact Lin.onS fun te => Lin.ret (_, _)
  | box t x => exact Lin.onT (Lin.ret (_, _))
  | build t parts => have := Lin.op (buildV_lin cx ρ t parts.toList); exact this
  | buildSlice t len parts =>
    refine Lin.onS fun te => ?_
    cases te.ty with
    | sl e => exact Lin.onS fun ee => Lin.onT (Lin.bind (fillV_lin _ _ _) fun l => Lin.onS fun ds => Lin.ret (_, _))
    | _ => exact Lin.fals
  | load t a => have := Lin.op (loadV_lin cx rd t (ρ a)); exact this
  | store t a x => have := Lin.st (storeV_lin cx rd t (ρ a) (ρ x)); exact this
  | nilCheck x =>
    show Lin fun k : V × Eff → Prop => match ρ x with
      | .ptr b v p s => k (.ptr b v p s, [])
      | .rop x => k (.rop x, [])
      | _ => False
    cases ρ x with
    | ptr b v p s => exact Lin.ret (_, _)
    | rop x => exact Lin.ret (_, _)
    | _ => exact Lin.fals
  | binOp op t x y ty' => have := Lin.op (binV_lin cx t op (ρ x) (ρ y)); exact this
  | unOp op t x => have := Lin.op (unV_lin op (ρ x)); exact this
  | convert src dst x =>
    show Lin2 fun k => match Nat.beq src dst with
      | true => convS cx rd dst (ρ x) k
      | false => convV cx rd src dst (ρ x) fun v => k v []
    cases Nat.beq src dst with
    | true => exact convS_lin cx rd dst (ρ x)
    | false => have := Lin.op (convV_lin cx rd src dst (ρ x)); exact this
  | sliceToArrayPointer arr x => have := Lin.op (arrV_lin cx rd arr (ρ x)); exact this
  | makeSlice t l c =>
    refine Lin.onS fun te => ?_
    cases te.ty with
    | sl e => exact Lin.onS fun ee => Lin.asI fun _ n => Lin.asI fun _ m => Lin.onT (Lin.ret (_, _))
    | _ => exact Lin.fals
  | slice t x lo hi mx => have := Lin.op (sliceV_lin cx ρ rd t (ρ x) lo hi mx); exact this
  | fieldAddr t x f => have := Lin.op (fieldAtV_lin cx t (ρ x) f); exact this
  | field t x f => have := Lin.op (fieldV_lin cx t (ρ x) f); exact this
  | indexAddr t x i => exact Lin.asI fun _ i => by have := Lin.op (idxV_lin cx rd t (ρ x) i); exact this
  | index t x i => exact Lin.asI fun _ i => by have := Lin.op (indexV_lin cx t (ρ x) i); exact this
  | extract x i =>
    show Lin fun k : V × Eff → Prop => match ρ x with
      | .d (.tup xs) => onS xs[i]? fun y => k (.d y, [])
      | .tup xs => onS xs[i]? fun y => k (y, [])
      | _ => False
    cases ρ x with
    | d y => cases y with
      | tup xs => exact Lin.onS fun y => Lin.ret (_, _)
      | _ => exact Lin.fals
    | tup xs => exact Lin.onS fun y => Lin.ret (_, _)
    | _ => exact Lin.fals
  | makeFunc fn first captured =>
    cases fn with
    | func f =>
      show Lin fun k : V × Eff → Prop => match first.toList with
        | [] => onS (allD (captured.toList.map ρ)) fun ds => onT (ds.all fun x => cellV (.d x)) (k (.d (.fn f ds), []))
        | _ => False
      cases first.toList with
      | nil => exact Lin.onS fun ds => Lin.onT (Lin.ret (_, _))
      | cons x r => exact Lin.fals
    | _ => exact Lin.fals
  | call c =>
    obtain ⟨callee, ⟨cargs⟩, ⟨catys⟩⟩ := c
    cases callee with
    | builtin b =>
      have hm : b ≠ .len → b ≠ .append → b ≠ .copy → Lin2 (Wop cx ρ rd slot { dst, op := .call ⟨.builtin b, ⟨cargs⟩, ⟨catys⟩⟩, type := ty, pos, after, guard }) := fun h1 h2 h3 => by
        have := Lin.op (minI_lin b (cargs.map ρ))
        cases b <;> first | exact absurd rfl h1 | exact absurd rfl h2 | exact absurd rfl h3 | exact this
      by_cases hl : b = .len
      · subst hl
        match cargs, catys with
        | [x], [t] =>
          have : Lin fun k : V × Eff → Prop => lenV cx rd t (ρ x) fun n => k (.d (.int .i64 n), []) := Lin.bind (lenV_lin cx rd t (ρ x)) fun v => Lin.ret (_, _)
          exact this
        | [], _ => exact Lin.fals
        | _ :: _ :: _, _ => exact Lin.fals
        | [_], [] => exact Lin.fals
        | [_], _ :: _ :: _ => exact Lin.fals
      · by_cases ha : b = .append
        · subst ha
          match cargs, catys with
          | [x, y], [t, t'] =>
            refine Lin.br (Lin.onS fun te => ?_) (Lin.onS fun te => ?_)
            · cases te.ty with
              | sl e => exact Lin.onS fun ee => appendV_lin _ _ _ _ _ _
              | _ => exact Lin.fals
            · cases te.ty with
              | sl e =>
                refine Lin.onS fun ee => Lin.onS fun te' => ?_
                cases te'.ty with
                | int kk =>
                  cases kk with
                  | i64 => exact appendZ_lin _ _ _ _ _ _
                  | _ => exact Lin.fals
                | _ => exact Lin.fals
              | _ => exact Lin.fals
          | [], _ => exact Lin.fals
          | [_], _ => exact Lin.fals
          | _ :: _ :: _ :: _, _ => exact Lin.fals
          | [_, _], [] => exact Lin.fals
          | [_, _], [_] => exact Lin.fals
          | [_, _], _ :: _ :: _ :: _ => exact Lin.fals
        · by_cases hc : b = .copy
          · subst hc
            match cargs, catys with
            | [x, y], [t, t'] =>
              refine Lin.onS fun te => ?_
              cases te.ty with
              | sl e => exact Lin.onS fun ee => copyV_lin _ _ _ _
              | _ => exact Lin.fals
            | [], _ => exact Lin.fals
            | [_], _ => exact Lin.fals
            | _ :: _ :: _ :: _, _ => exact Lin.fals
            | [_, _], [] => exact Lin.fals
            | [_, _], [_] => exact Lin.fals
            | [_, _], _ :: _ :: _ :: _ => exact Lin.fals
          · exact hm hl ha hc
    | value f =>
      show Lin fun k : V × Eff → Prop => match ρ f with
        | .d (.fn f caps) => argsV rd (cargs.map ρ) fun bor ds => ∃ ds' v, D.les ds ds' ∧ Returns cx f (ds' ++ caps) v ∧ onB bor v (k (.d v, []))
        | _ => False
      cases ρ f with
      | d y => cases y with
        | fn f' caps =>
          refine Lin.bind2 (argsV_lin _ _) fun bor ds => ?_
          rintro k ⟨ds', v, h1, h2, h3⟩
          cases bor with
          | true => exact ⟨_, h3.2, fun k' hk => ⟨ds', v, h1, h2, h3.1, hk⟩⟩
          | false => exact ⟨_, h3, fun k' hk => ⟨ds', v, h1, h2, hk⟩⟩
        | _ => exact Lin.fals
      | _ => exact Lin.fals
    | invoke recv name => exact Lin.fals
  | _ => exact Lin.fals

/-- Looks at no memory. -/
def pureOp (cx : Cx) (o : Oper) : Bool :=
  match o.op with
  | .move _ | .assign _ | .pick .. | .build .. | .nilCheck _ | .binOp .. | .unOp .. | .fieldAddr .. | .field .. | .index .. | .extract .. | .makeFunc .. => true
  | .slice t .. => match cx.ty t with
    | some te => match te.ty with
      | .arr .. => true
      | _ => false
    | none => false
  | .indexAddr t .. => match cx.ty t with
    | some te => match te.ty with
      | .arr .. => true
      | _ => false
    | none => false
  | .call { callee := .builtin .min, .. } | .call { callee := .builtin .max, .. } => true
  | _ => false

def writeOp (o : Oper) : Bool :=
  match o.op with
  | .store .. => true
  | .convert src dst _ => Nat.beq src dst
  | .call { callee := .builtin .append, args := args, .. } => match args.toList with
    | .const (.slice none 0 0) :: _ => false
    | _ => true
  | .call { callee := .builtin .copy, .. } => true
  | _ => false

variable {cx ρ rd slot}

theorem optI_congr {ρ ρ' : Operand → V} {o : Option Operand} (h : ∀ x, o = some x → ρ x = ρ' x) (d hi : Nat) : optI ρ o d hi = optI ρ' o d hi := by
  cases o with
  | none => rfl
  | some x => funext k; simp only [optI, h x rfl]

theorem fillV_congr {ρ ρ' : Operand → V} : ∀ {parts : List (Nat × Operand)} (h : ∀ p ∈ parts, ρ p.2 = ρ' p.2) (l : List V), fillV ρ parts l = fillV ρ' parts l
  | [], h, l => rfl
  | (i, x) :: r, h, l => by
    have h1 : ρ x = ρ' x := h (i, x) (by simp)
    have ih := fun l => fillV_congr (parts := r) (fun p hp => h p (by simp [hp])) l
    funext k
    simp only [fillV, h1, ih]

theorem sliceV_congr {ρ ρ' : Operand → V} {lo hi mx : Option Operand} (h1 : ∀ x, lo = some x → ρ x = ρ' x) (h2 : ∀ x, hi = some x → ρ x = ρ' x) (h3 : ∀ x, mx = some x → ρ x = ρ' x) (rd : Nat → Option Blk) (t : TypeId) (x : V) :
    sliceV cx ρ rd t x lo hi mx = sliceV cx ρ' rd t x lo hi mx := by
  have e1 := fun d n => optI_congr h1 d n
  have e2 := fun d n => optI_congr h2 d n
  have e3 := fun d n => optI_congr h3 d n
  funext k
  cases hi with
  | none => cases mx <;> simp only [sliceV, e1, e2, e3]
  | some h => cases mx <;> simp only [sliceV, e1, e2, e3]

theorem Wop_congr {ρ ρ' : Operand → V} {o : Oper} (h : ∀ x ∈ o.op.operands, ρ x = ρ' x) : Wop cx ρ rd slot o = Wop cx ρ' rd slot o := by
  obtain ⟨dst, op, ty, pos, after, guard⟩ := o
  funext k
  cases op with
  | build t parts =>
    have := fillV_congr (parts := parts.toList) (ρ := ρ) (ρ' := ρ') fun p hp => h p.2 (by simp [Op.operands]; exact ⟨p.1, by simpa using hp⟩)
    simp only [Wop, buildV, this]
  | buildSlice t len parts =>
    have := fillV_congr (parts := parts.toList) (ρ := ρ) (ρ' := ρ') fun p hp => h p.2 (by simp [Op.operands]; exact ⟨p.1, by simpa using hp⟩)
    simp only [Wop, this]
  | slice t x lo hi mx =>
    have h0 : ρ x = ρ' x := h x (by simp [Op.operands])
    have := sliceV_congr (cx := cx) (ρ := ρ) (ρ' := ρ') (lo := lo) (hi := hi) (mx := mx) (fun y e => h y (by simp [Op.operands, e])) (fun y e => h y (by simp [Op.operands, e])) (fun y e => h y (by simp [Op.operands, e])) rd t
    simp only [Wop, h0, this]
  | makeFunc fn first captured =>
    have : captured.toList.map ρ = captured.toList.map ρ' := List.map_congr_left fun x hx => h x (by simp [Op.operands]; right; simpa using hx)
    cases fn <;> simp only [Wop, this]
  | call c =>
    obtain ⟨callee, cargs, catys⟩ := c
    have ha : cargs.toList.map ρ = cargs.toList.map ρ' := List.map_congr_left fun x hx => h x (by cases callee <;> simp [Op.operands, Call.operands] <;> simp_all)
    cases callee with
    | builtin b =>
      obtain ⟨cargs⟩ := cargs
      obtain ⟨catys⟩ := catys
      have hm : ∀ x ∈ cargs, ρ x = ρ' x := fun x hx => h x (by simp [Op.operands, Call.operands, hx])
      simp only at ha
      match cargs, hm with
      | [], hm => cases b <;> simp only [Wop, ha]
      | [x], hm =>
        have := hm x (by simp)
        rcases catys with _ | ⟨t, _ | ⟨t', _ | ⟨t3, r⟩⟩⟩ <;> cases b <;> simp only [Wop, ha, this]
      | [x, y], hm =>
        have h1 := hm x (by simp)
        have h2 := hm y (by simp)
        rcases catys with _ | ⟨t, _ | ⟨t', _ | ⟨t3, r⟩⟩⟩ <;> cases b <;> simp only [Wop, ha, h1, h2]
      | x :: y :: z :: r, hm => cases b <;> simp only [Wop, ha]
    | value f =>
      have : ρ f = ρ' f := h f (by simp [Op.operands, Call.operands])
      simp only [Wop, ha, this]
    | invoke recv name => simp only [Wop]
  | _ =>
    first
    | rfl
    | (simp only [Op.operands, List.mem_cons, List.mem_toArray, Array.mem_def] at h
       first
       | (have h1 := h _ (.inl rfl); have h2 := h _ (.inr (.inl rfl)); have h3 := h _ (.inr (.inr (.inl rfl))); simp only [Wop, h1, h2, h3])
       | (have h1 := h _ (.inl rfl); have h2 := h _ (.inr (.inl rfl)); simp only [Wop, h1, h2])
       | (have h1 := h _ (.inl rfl); simp only [Wop, h1])
       | simp only [Wop])
end
end Go.Fw

/-
Operations that look at no memory, and operations that do not write. No conditions.
-/
namespace Go.Fw
set_option linter.unusedVariables false
set_option linter.unusedSimpArgs false
open Go.RowKit

section
variable {cx : Cx} {ρ : Operand → V} {rd rd' : Nat → Option Blk} {slot slot' : Nat}

theorem Wop_pure {o : Oper} (hp : pureOp cx o = true) {k : V → Eff → Prop} (h : Wop cx ρ rd slot o k) : Wop cx ρ rd' slot' o fun v e => e = [] ∧ k v e := by
  obtain ⟨dst, op, ty, pos, after, guard⟩ := o
  cases op with
  | move x => exact ⟨rfl, h⟩
  | assign x => exact ⟨rfl, h⟩
  | pick c a b =>
    have h' : asB (ρ c) fun t => br t (k (ρ a) []) (k (ρ b) []) := h
    show asB (ρ c) fun t => br t ([] = [] ∧ k (ρ a) []) ([] = [] ∧ k (ρ b) [])
    simpa using h'
  | build t parts => exact (buildV_lin cx ρ t parts.toList).mono (k := fun v => k v []) (k' := fun v => ([] : Eff) = [] ∧ k v []) (fun v h => ⟨rfl, h⟩) h
  | nilCheck x =>
    have h' : match ρ x with
      | .ptr b v p s => k (.ptr b v p s) []
      | .rop x => k (.rop x) []
      | _ => False := h
    show match ρ x with
      | .ptr b v p s => [] = [] ∧ k (.ptr b v p s) []
      | .rop x => [] = [] ∧ k (.rop x) []
      | _ => False
    revert h'
    cases ρ x <;> intro h' <;> first | exact h'.elim | exact ⟨rfl, h'⟩
  | binOp op t x y ty' => exact (binV_lin cx t op (ρ x) (ρ y)).mono (k := fun v => k v []) (k' := fun v => ([] : Eff) = [] ∧ k v []) (fun v h => ⟨rfl, h⟩) h
  | unOp op t x => exact (unV_lin op (ρ x)).mono (k := fun v => k v []) (k' := fun v => ([] : Eff) = [] ∧ k v []) (fun v h => ⟨rfl, h⟩) h
  | fieldAddr t x f => exact (fieldAtV_lin cx t (ρ x) f).mono (k := fun v => k v []) (k' := fun v => ([] : Eff) = [] ∧ k v []) (fun v h => ⟨rfl, h⟩) h
  | field t x f => exact (fieldV_lin cx t (ρ x) f).mono (k := fun v => k v []) (k' := fun v => ([] : Eff) = [] ∧ k v []) (fun v h => ⟨rfl, h⟩) h
  | index t x i =>
    have h' : asI (ρ i) fun _ i => indexV cx t (ρ x) i fun v => k v [] := h
    show asI (ρ i) fun _ i => indexV cx t (ρ x) i fun v => [] = [] ∧ k v []
    simpa using h'
  | extract x i =>
    have h' : match ρ x with
      | .d (.tup xs) => onS xs[i]? fun y => k (.d y) []
      | .tup xs => onS xs[i]? fun y => k y []
      | _ => False := h
    show match ρ x with
      | .d (.tup xs) => onS xs[i]? fun y => [] = [] ∧ k (.d y) []
      | .tup xs => onS xs[i]? fun y => [] = [] ∧ k y []
      | _ => False
    simpa using h'
  | makeFunc fn first captured =>
    cases fn with
    | func f =>
      have h' : match first.toList with
        | [] => onS (allD (captured.toList.map ρ)) fun ds => onT (ds.all fun x => cellV (.d x)) (k (.d (.fn f ds)) [])
        | _ => False := h
      show match first.toList with
        | [] => onS (allD (captured.toList.map ρ)) fun ds => onT (ds.all fun x => cellV (.d x)) ([] = [] ∧ k (.d (.fn f ds)) [])
        | _ => False
      simpa using h'
    | _ => exact h.elim
  | slice t x lo hi mx =>
    have h' : sliceV cx ρ rd t (ρ x) lo hi mx fun v => k v [] := h
    show sliceV cx ρ rd' t (ρ x) lo hi mx fun v => [] = [] ∧ k v []
    unfold pureOp at hp
    simp only at hp
    split at hp
    · rename_i te hte
      split at hp
      · rename_i n e hty
        unfold sliceV at h' ⊢
        rw [hte] at h' ⊢
        simp only [onS] at h' ⊢
        rw [hty] at h' ⊢
        revert h'
        cases ρ x with
        | ptr b ver path s =>
          cases s with
          | arr n e => intro h'; simpa using h'
          | _ => intro h'; exact h'.elim
        | _ => intro h'; exact h'.elim
      · cases hp
    · cases hp
  | indexAddr t x i =>
    have h' : asI (ρ i) fun _ i => idxV cx rd t (ρ x) i fun v => k v [] := h
    show asI (ρ i) fun _ i => idxV cx rd' t (ρ x) i fun v => [] = [] ∧ k v []
    unfold pureOp at hp
    simp only at hp
    split at hp
    · rename_i te hte
      split at hp
      · rename_i n e hty
        have key : ∀ n, (idxV cx rd t (ρ x) n fun v => k v []) → idxV cx rd' t (ρ x) n fun v => ([] : Eff) = [] ∧ k v [] := fun n h => by
          unfold idxV at h ⊢
          rw [hte] at h ⊢
          simp only [onS] at h ⊢
          rw [hty] at h ⊢
          revert h
          cases ρ x with
          | ptr b ver path s => cases s with
            | arr n e => intro h; simpa using h
            | _ => intro h; exact h.elim
          | rop y => cases y with
            | arr n e xs => intro h; simpa using h
            | _ => intro h; exact h.elim
          | _ => intro h; exact h.elim
        revert h'
        generalize ρ i = vi
        cases vi with
        | d y => cases y with
          | int kd n => exact key n
          | _ => intro h; exact h.elim
        | _ => intro h; exact h.elim
      · cases hp
    · cases hp
  | call c =>
    obtain ⟨callee, ⟨cargs⟩, ⟨catys⟩⟩ := c
    cases callee with
    | builtin b =>
      cases b with
      | min => exact (minI_lin .min (cargs.map ρ)).mono (k := fun v => k v []) (k' := fun v => ([] : Eff) = [] ∧ k v []) (fun v h => ⟨rfl, h⟩) h
      | max => exact (minI_lin .max (cargs.map ρ)).mono (k := fun v => k v []) (k' := fun v => ([] : Eff) = [] ∧ k v []) (fun v h => ⟨rfl, h⟩) h
      | _ => cases hp
    | _ => cases hp
  | _ => first | exact h.elim | cases hp

/-- What an operation that does not write does to memory. -/
def effOK (o : Oper) (slot : Nat) (e : Eff) : Prop := e = [] ∨ (newOp o = true ∧ ∃ x, e = [(slot, x)])

theorem Wop_eff (hlit : ρ (.const (.slice none 0 0)) = .d .nils) {o : Oper} (hp : writeOp o = false) {k : V → Eff → Prop} (h : Wop cx ρ rd slot o k) : Wop cx ρ rd slot o fun v e => effOK o slot e ∧ k v e := by
  by_cases hpu : pureOp cx o = true
  · exact (Wop_lin cx ρ rd slot o).mono (fun v e h => ⟨.inl h.1, h.2⟩) (Wop_pure hpu h)
  obtain ⟨dst, op, ty, pos, after, guard⟩ := o
  cases op with
  | alloc elem =>
    obtain ⟨te, hte, h⟩ := onS_elim h
    exact onS_intro hte ⟨.inr ⟨rfl, _, rfl⟩, h⟩
  | box t x =>
    obtain ⟨hb, h⟩ := onT_elim h
    exact onT_intro hb ⟨.inr ⟨rfl, _, rfl⟩, h⟩
  | buildSlice t len parts =>
    obtain ⟨te, hte, h⟩ := onS_elim h
    refine onS_intro hte ?_
    revert h
    cases te.ty with
    | sl e =>
      intro h
      obtain ⟨ee, hee, h⟩ := onS_elim h
      refine onS_intro hee ?_
      obtain ⟨hb, h⟩ := onT_elim h
      refine onT_intro hb ?_
      refine (fillV_lin ρ parts.toList _).mono (fun l h => ?_) h
      obtain ⟨ds, hd, h⟩ := onS_elim h
      exact onS_intro hd ⟨.inr ⟨rfl, _, rfl⟩, h⟩
    | _ => intro h; exact h.elim
  | makeSlice t l c =>
    obtain ⟨te, hte, h⟩ := onS_elim h
    refine onS_intro hte ?_
    revert h
    cases te.ty with
    | sl e =>
      intro h
      obtain ⟨ee, hee, h⟩ := onS_elim h
      refine onS_intro hee ?_
      revert h
      show (asI (ρ l) fun _ n => asI (ρ c) fun _ m =>
        onT (decide (0 ≤ n ∧ n ≤ m ∧ ee.bytes * m ≤ 281474976710656 ∧ m ≤ 9223372036854775807)) (k (.sl slot 0 0) [(slot, some (.grow 0 ee.sh (List.replicate n.toNat ee.zero)))])) →
        (asI (ρ l) fun _ n => asI (ρ c) fun _ m =>
        onT (decide (0 ≤ n ∧ n ≤ m ∧ ee.bytes * m ≤ 281474976710656 ∧ m ≤ 9223372036854775807)) (effOK _ slot [(slot, some (.grow 0 ee.sh (List.replicate n.toNat ee.zero)))] ∧ k (.sl slot 0 0) [(slot, some (.grow 0 ee.sh (List.replicate n.toNat ee.zero)))]))
      generalize ρ l = vl
      generalize ρ c = vc
      cases vl with
      | d x => cases x with
        | int a n => cases vc with
          | d y => cases y with
            | int b m =>
              intro h
              obtain ⟨hb, h⟩ := onT_elim (show onT _ _ from h)
              exact onT_intro hb ⟨.inr ⟨rfl, _, rfl⟩, h⟩
            | _ => intro h; exact h.elim
          | _ => intro h; exact h.elim
        | _ => intro h; exact h.elim
      | _ => intro h; exact h.elim
    | _ => intro h; exact h.elim
  | load t a => exact (loadV_lin cx rd t (ρ a)).mono (k := fun v => k v []) (k' := fun v => effOK _ slot ([] : Eff) ∧ k v []) (fun v h => ⟨.inl rfl, h⟩) h
  | convert src dst x =>
    have hp : Nat.beq src dst = false := hp
    have h : match Nat.beq src dst with
      | true => convS cx rd dst (ρ x) k
      | false => convV cx rd src dst (ρ x) fun v => k v [] := h
    show match Nat.beq src dst with
      | true => convS cx rd dst (ρ x) _
      | false => convV cx rd src dst (ρ x) fun v => _
    rw [hp] at h ⊢
    exact (convV_lin cx rd src dst (ρ x)).mono (k := fun v => k v []) (k' := fun v => effOK _ slot ([] : Eff) ∧ k v []) (fun v h => ⟨.inl rfl, h⟩) h
  | sliceToArrayPointer arr x => exact (arrV_lin cx rd arr (ρ x)).mono (k := fun v => k v []) (k' := fun v => effOK _ slot ([] : Eff) ∧ k v []) (fun v h => ⟨.inl rfl, h⟩) h
  | slice t x lo hi mx => exact (sliceV_lin cx ρ rd t (ρ x) lo hi mx).mono (k := fun v => k v []) (k' := fun v => effOK _ slot ([] : Eff) ∧ k v []) (fun v h => ⟨.inl rfl, h⟩) h
  | indexAddr t x i =>
    have h' : asI (ρ i) fun _ i => idxV cx rd t (ρ x) i fun v => k v [] := h
    show asI (ρ i) fun _ i => idxV cx rd t (ρ x) i fun v => effOK _ slot [] ∧ k v []
    simpa [effOK] using h'
  | call c =>
    obtain ⟨callee, ⟨cargs⟩, ⟨catys⟩⟩ := c
    cases callee with
    | builtin b =>
      have hm : b ≠ .len → b ≠ .append → b ≠ .copy → Wop cx ρ rd slot { dst, op := .call ⟨.builtin b, ⟨cargs⟩, ⟨catys⟩⟩, type := ty, pos, after, guard } fun v e => effOK { dst, op := .call ⟨.builtin b, ⟨cargs⟩, ⟨catys⟩⟩, type := ty, pos, after, guard } slot e ∧ k v e := fun h1 h2 h3 => by
        have key := (minI_lin b (cargs.map ρ)).mono (k := fun v => k v []) (k' := fun v => effOK { dst, op := .call ⟨.builtin b, ⟨cargs⟩, ⟨catys⟩⟩, type := ty, pos, after, guard } slot ([] : Eff) ∧ k v []) (fun v h => ⟨.inl rfl, h⟩)
        cases b <;> first | exact absurd rfl h1 | exact absurd rfl h2 | exact absurd rfl h3 | exact key h
      by_cases hl : b = .len
      · subst hl
        match cargs, catys, h with
        | [x], [t], h => exact (lenV_lin cx rd t (ρ x)).mono (k := fun (n : Nat) => k (.d (.int .i64 n)) []) (k' := fun (n : Nat) => effOK _ slot ([] : Eff) ∧ k (.d (.int .i64 n)) []) (fun v h => ⟨.inl rfl, h⟩) h
      · by_cases ha : b = .append
        · subst ha
          have hw : ∃ r, cargs = .const (.slice none 0 0) :: r := by
            unfold writeOp at hp
            simp only at hp
            split at hp
            · exact ⟨_, rfl⟩
            · cases hp
          obtain ⟨r, rfl⟩ := hw
          match r, catys, h with
          | [y], [t, t'], h =>
            have h0 : br (t == t') (onS (cx.ty t) fun te => match te.ty with
              | .sl e => onS (cx.ty e) fun ee => appendV rd slot ee.sh ee.bytes (ρ (.const (.slice none 0 0))) (ρ y) k
              | _ => False) (onS (cx.ty t) fun te => match te.ty with
              | .sl e => onS (cx.ty e) fun ee => onS (cx.ty t') fun te' => match te'.ty with
                | .int .i64 => appendZ rd ee.sh ee.bytes ee.zero (ρ (.const (.slice none 0 0))) (ρ y) k
                | _ => False
              | _ => False) := h
            cases htt : (t == t') with
            | false =>
              rw [htt] at h0
              have h1 : onS (cx.ty t) fun te => match te.ty with
                | .sl e => onS (cx.ty e) fun ee => onS (cx.ty t') fun te' => match te'.ty with
                  | .int .i64 => appendZ rd ee.sh ee.bytes ee.zero (ρ (.const (.slice none 0 0))) (ρ y) k
                  | _ => False
                | _ => False := h0
              obtain ⟨te, hte, h2⟩ := onS_elim h1
              cases hty : te.ty with
              | sl e =>
                rw [hty] at h2
                obtain ⟨ee, hee, h3⟩ := onS_elim h2
                obtain ⟨te', hte', h3⟩ := onS_elim h3
                cases hty' : te'.ty with
                | int kk =>
                  cases kk with
                  | i64 => rw [hty'] at h3; rw [hlit] at h3; exact h3.elim
                  | _ => rw [hty'] at h3; exact h3.elim
                | _ => rw [hty'] at h3; exact h3.elim
              | _ => rw [hty] at h2; exact h2.elim
            | true =>
            rw [htt] at h0
            have h1 : onS (cx.ty t) fun te => match te.ty with
              | .sl e => onS (cx.ty e) fun ee => appendV rd slot ee.sh ee.bytes (ρ (.const (.slice none 0 0))) (ρ y) k
              | _ => False := h0
            refine br_true htt ?_
            obtain ⟨te, hte, h2⟩ := onS_elim h1
            refine onS_intro hte ?_
            revert h2
            cases te.ty with
            | sl e =>
              intro h2
              obtain ⟨ee, hee, h3⟩ := onS_elim h2
              refine onS_intro hee ?_
              rw [hlit] at h3
              show appendV rd slot ee.sh ee.bytes (ρ (.const (.slice none 0 0))) (ρ y) _
              rw [hlit]
              have h4 : elems rd ee.sh (ρ y) fun ys => onT (decide (ys.length * ee.bytes ≤ room)) (k (.sl slot 0 0) [(slot, some (.grow 0 ee.sh ys))]) := h3
              refine Lin.mono (k' := fun ys => onT (decide (ys.length * ee.bytes ≤ room)) (effOK _ slot [(slot, some (.grow 0 ee.sh ys))] ∧ k (.sl slot 0 0) [(slot, some (.grow 0 ee.sh ys))])) (elems_lin rd ee.sh (ρ y)) (fun ys h => ?_) h4
              obtain ⟨hb, hk⟩ := onT_elim h
              exact onT_intro hb ⟨.inr ⟨rfl, _, rfl⟩, hk⟩
            | _ => intro h2; exact h2.elim
        · by_cases hc : b = .copy
          · subst hc; cases hp
          · exact hm hl ha hc
    | value f =>
      have h' : match ρ f with
        | .d (.fn f caps) => argsV rd (cargs.map ρ) fun bor ds => ∃ ds' v, D.les ds ds' ∧ Returns cx f (ds' ++ caps) v ∧ onB bor v (k (.d v) [])
        | _ => False := h
      show match ρ f with
        | .d (.fn f caps) => argsV rd (cargs.map ρ) fun bor ds => ∃ ds' v, D.les ds ds' ∧ Returns cx f (ds' ++ caps) v ∧ onB bor v (effOK _ slot [] ∧ k (.d v) [])
        | _ => False
      simpa [effOK] using h'
    | invoke recv name => exact h.elim
  | _ => first | exact h.elim | exact absurd rfl hpu | cases hp
end
end Go.Fw

/-
Operations that see only the frames of blocks, and writes that keep frames. No conditions.
-/
namespace Go.Fw
set_option linter.unusedVariables false
set_option linter.unusedSimpArgs false
open Go.RowKit

/-- Blocks of one frame: the same shape, or the same version and length. -/
inductive frB : Blk → Blk → Prop
  | fix (v v' : V) (h : v'.sh = v.sh) : frB (.fix v) (.fix v')
  | grow (ver : Nat) (e : Sh) (xs xs' : List D) (h : xs'.length = xs.length) : frB (.grow ver e xs) (.grow ver e xs')

inductive frO : Option Blk → Option Blk → Prop
  | none : frO none none
  | some (x y : Blk) (h : frB x y) : frO (some x) (some y)

theorem frB.refl (x : Blk) : frB x x := by
  cases x
  · exact .fix _ _ rfl
  · exact .grow _ _ _ _ rfl
theorem frB.symm {x y : Blk} (h : frB x y) : frB y x := by
  cases h with
  | fix v v' h => exact .fix _ _ h.symm
  | grow ver e xs xs' h => exact .grow _ _ _ _ h.symm
theorem frO.refl (x : Option Blk) : frO x x := by
  cases x
  · exact .none
  · exact .some _ _ (.refl _)
theorem frO.symm {x y : Option Blk} (h : frO x y) : frO y x := by
  cases h with
  | none => exact .none
  | some x y h => exact .some _ _ h.symm

def frameOp (o : Oper) : Bool :=
  match o.op with
  | .indexAddr .. | .slice .. | .sliceToArrayPointer .. => true
  | .call { callee := .builtin .len, .. } => true
  | _ => false

def softOp (o : Oper) : Bool :=
  match o.op with
  | .store .. => true
  | .call { callee := .builtin .copy, .. } => true
  | _ => false

theorem frS {x y : Option Blk} (h : frO x y) {K K' : Blk → Prop} (hk : onS x K) (hf : ∀ a b, frB a b → K a → K' b) : onS y K' := by
  cases h with
  | none => exact hk
  | some a b h => exact hf a b h hk

section
variable {cx : Cx} {ρ : Operand → V} {rd rd' : Nat → Option Blk} {slot slot' : Nat}

theorem idxV_frame (hf : ∀ b, frO (rd b) (rd' b)) {t : TypeId} {x : V} {i : Int} {k : V → Prop} (h : idxV cx rd t x i k) : idxV cx rd' t x i k := by
  obtain ⟨te, hte, h⟩ := onS_elim h
  refine onS_intro hte ?_
  revert h
  cases te.ty with
  | arr n e => cases x with
    | ptr b ver path s => cases s <;> exact fun h => h
    | rop y => cases y <;> exact fun h => h
    | _ => exact fun h => h
  | sl e =>
    intro h
    obtain ⟨ee, hee, h⟩ := onS_elim h
    refine onS_intro hee ?_
    cases x with
    | sl b off ver =>
      refine frS (hf b) h fun p q hpq hp => ?_
      cases hpq with
      | fix v v' h => exact hp
      | grow ver' e' xs xs' hl => simpa [hl] using hp
    | sub b off len ver =>
      refine frS (hf b) h fun p q hpq hp => ?_
      cases hpq with
      | fix v v' h => exact hp
      | grow ver' e' xs xs' hl => exact hp
    | d y => cases y <;> exact h
    | _ => exact h
  | _ => exact fun h => h

theorem lenV_frame (hf : ∀ b, frO (rd b) (rd' b)) {t : TypeId} {x : V} {k : Nat → Prop} (h : lenV cx rd t x k) : lenV cx rd' t x k := by
  obtain ⟨te, hte, h⟩ := onS_elim h
  refine onS_intro hte ?_
  revert h
  cases te.ty with
  | sl e =>
    cases x with
    | sl b off ver =>
      intro h
      refine frS (hf b) h fun p q hpq hp => ?_
      cases hpq with
      | fix v v' h => exact hp
      | grow ver' e' xs xs' hl => simpa [hl] using hp
    | sub b off len ver =>
      intro h
      refine frS (hf b) h fun p q hpq hp => ?_
      cases hpq with
      | fix v v' h => exact hp
      | grow ver' e' xs xs' hl => exact hp
    | sa b path off len =>
      intro h
      refine frS (hf b) h fun p q hpq hp => ?_
      cases hpq with
      | fix v v' h => exact hp
      | grow ver' e' xs xs' hl => exact hp
    | d y => cases y <;> exact fun h => h
    | _ => exact fun h => h
  | str => cases x with
    | d y => cases y <;> exact fun h => h
    | _ => exact fun h => h
  | arr n e => cases x with
    | d y => cases y <;> exact fun h => h
    | _ => exact fun h => h
  | _ => exact fun h => h

theorem arrV_frame (hf : ∀ b, frO (rd b) (rd' b)) {t : TypeId} {x : V} {k : V → Prop} (h : arrV cx rd t x k) : arrV cx rd' t x k := by
  obtain ⟨te, hte, h⟩ := onS_elim h
  refine onS_intro hte ?_
  revert h
  cases te.ty with
  | arr n e =>
    cases x with
    | sl b off ver =>
      intro h
      refine frS (hf b) h fun p q hpq hp => ?_
      cases hpq with
      | fix v v' h => exact hp
      | grow ver' e' xs xs' hl => simpa [hl] using hp
    | sub b off len ver =>
      intro h
      refine frS (hf b) h fun p q hpq hp => ?_
      cases hpq with
      | fix v v' h => exact hp
      | grow ver' e' xs xs' hl => exact hp
    | d y => cases y <;> exact fun h => h
    | _ => exact fun h => h
  | _ => exact fun h => h

theorem sliceV_frame (hf : ∀ b, frO (rd b) (rd' b)) {t : TypeId} {x : V} {lo hi mx : Option Operand} {k : V → Prop} (h : sliceV cx ρ rd t x lo hi mx k) : sliceV cx ρ rd' t x lo hi mx k := by
  obtain ⟨te, hte, h⟩ := onS_elim h
  refine onS_intro hte ?_
  revert h
  cases te.ty with
  | arr n e => cases x with
    | ptr b ver path s => cases s <;> exact fun h => h
    | _ => exact fun h => h
  | str => cases x with
    | d y => cases y <;> exact fun h => h
    | _ => exact fun h => h
  | sl e =>
    intro h
    obtain ⟨ee, hee, h⟩ := onS_elim h
    refine onS_intro hee ?_
    cases x with
    | sl b off ver =>
      refine frS (hf b) h fun p q hpq hp => ?_
      cases hpq with
      | fix v v' h => exact hp
      | grow ver' e' xs xs' hl => simpa only [hl] using hp
    | sub b off len ver =>
      refine frS (hf b) h fun p q hpq hp => ?_
      cases hpq with
      | fix v v' h => exact hp
      | grow ver' e' xs xs' hl => exact hp
    | sa b path off len =>
      refine frS (hf b) h fun p q hpq hp => ?_
      cases hpq with
      | fix v v' h => simpa only [h] using hp
      | grow ver' e' xs xs' hl => exact hp
    | d y => cases y <;> exact h
    | _ => exact h
  | _ => exact fun h => h

theorem Wop_frame {o : Oper} (hp : frameOp o = true) (hf : ∀ b, frO (rd b) (rd' b)) {k : V → Eff → Prop} (h : Wop cx ρ rd slot o k) : Wop cx ρ rd' slot' o k := by
  obtain ⟨dst, op, ty, pos, after, guard⟩ := o
  cases op with
  | indexAddr t x i =>
    have h' : asI (ρ i) fun _ i => idxV cx rd t (ρ x) i fun v => k v [] := h
    show asI (ρ i) fun _ i => idxV cx rd' t (ρ x) i fun v => k v []
    revert h'
    generalize ρ i = v
    cases v with
    | d y => cases y with
      | int kd n => exact fun h => idxV_frame (t := t) (x := ρ x) (i := n) (k := fun v => k v []) hf h
      | _ => exact fun h => h
    | _ => exact fun h => h
  | slice t x lo hi mx => exact sliceV_frame hf (k := fun v => k v []) h
  | sliceToArrayPointer arr x => exact arrV_frame hf (k := fun v => k v []) h
  | call c =>
    obtain ⟨callee, ⟨cargs⟩, ⟨catys⟩⟩ := c
    cases callee with
    | builtin b =>
      cases b with
      | len =>
        match cargs, catys, h with
        | [x], [t], h => exact lenV_frame hf (k := fun (n : Nat) => k (.d (.int .i64 n)) []) h
      | _ => cases hp
    | _ => cases hp
  | _ => cases hp

/-! Writes that keep frames -/

theorem map_set_same {α β : Type} {f : α → β} {xs : List α} {i : Nat} {x z : α} (hx : xs[i]? = some x) (h : f z = f x) : (xs.set i z).map f = xs.map f := by
  apply List.ext_getElem?
  intro j
  rw [List.getElem?_map, List.getElem?_map, List.getElem?_set]
  split
  · rename_i e
    subst e
    split
    · rw [hx]; simp [h]
    · rename_i hlt
      have := (List.getElem?_eq_some_iff.1 hx).1
      omega
  · rfl

theorem setD_sh : ∀ (p : List Nat) (y x : D) (k : D → Prop), setD p y x k → setD p y x fun z => z.sh = x.sh ∧ k z
  | [], y, x, k, h => by
    obtain ⟨hb, h⟩ := onT_elim h
    exact onT_intro hb ⟨Sh.beq_eq _ _ hb, h⟩
  | i :: p, y, x, k, h => by
    cases x with
    | arr n e xs =>
      cases p with
      | nil =>
        obtain ⟨h1, h⟩ := onT_elim h
        obtain ⟨h2, h⟩ := onT_elim h
        exact onT_intro h1 (onT_intro h2 ⟨rfl, h⟩)
      | cons j p =>
        obtain ⟨x, hx, h⟩ := onS_elim h
        exact onS_intro hx ((setD_one (j :: p) y x).mono (fun z h => ⟨rfl, h⟩) h)
    | st xs =>
      have main : onS xs[i]? (fun x => setD p y x fun z => k (.st (xs.set i z))) → onS xs[i]? fun x => setD p y x fun z => (D.st (xs.set i z)).sh = (D.st xs).sh ∧ k (.st (xs.set i z)) := fun h => by
        obtain ⟨x, hx, h⟩ := onS_elim h
        refine onS_intro hx ?_
        have := setD_sh p y x _ h
        refine (setD_one p y x).mono (fun z h => ⟨?_, h.2⟩) this
        simp only [D.sh, D.shs_eq]
        rw [map_set_same hx h.1]
      cases p with
      | nil => exact main h
      | cons j p => exact main h
    | _ => cases p <;> exact h.elim

theorem setD_arr {i : Nat} {p : List Nat} {y : D} {n : Nat} {e : Sh} {xs : List D} {k : D → Prop} (h : setD (i :: p) y (.arr n e xs) k) : setD (i :: p) y (.arr n e xs) fun z => (∃ xs', z = .arr n e xs' ∧ xs'.length = xs.length) ∧ k z := by
  cases p with
  | nil =>
    obtain ⟨h1, h⟩ := onT_elim h
    obtain ⟨h2, h⟩ := onT_elim h
    exact onT_intro h1 (onT_intro h2 ⟨⟨_, rfl, by simp⟩, h⟩)
  | cons j p =>
    obtain ⟨x, hx, h⟩ := onS_elim h
    exact onS_intro hx ((setD_one (j :: p) y x).mono (fun z h => ⟨⟨_, rfl, by simp⟩, h⟩) h)

theorem allD_map : ∀ {l : List V} {ds : List D}, allD l = some ds → l = ds.map V.d
  | [], ds, h => by cases h; rfl
  | .d x :: l, ds, h => by
    simp only [allD, Option.map_eq_some_iff] at h
    obtain ⟨ds', h1, rfl⟩ := h
    rw [allD_map h1]; rfl
  | .st _ :: l, ds, h => by cases h
  | .tup _ :: l, ds, h => by cases h
  | .sl .. :: l, ds, h => by cases h
  | .sub .. :: l, ds, h => by cases h
  | .sa .. :: l, ds, h => by cases h
  | .ptr .. :: l, ds, h => by cases h
  | .parr .. :: l, ds, h => by cases h
  | .rop _ :: l, ds, h => by cases h
  | .any :: l, ds, h => by cases h

theorem setV_sh : ∀ (p : List Nat) (u v : V) (k : V → Prop), setV p u v k → setV p u v fun z => z.sh = v.sh ∧ k z
  | [], u, v, k, h => by
    obtain ⟨hb, h⟩ := onT_elim h
    exact onT_intro hb ⟨Sh.beq_eq _ _ hb, h⟩
  | i :: p, u, v, k, h => by
    cases v with
    | d x =>
      have main : ∀ (xs : List D), onS xs[i]? (fun x => setV p u (.d x) fun z => k (mkSt ((xs.map V.d).set i z))) → onS xs[i]? fun x => setV p u (.d x) fun z => (mkSt ((xs.map V.d).set i z)).sh = (V.d (.st xs)).sh ∧ k (mkSt ((xs.map V.d).set i z)) := fun xs h => by
        obtain ⟨x, hx, h⟩ := onS_elim h
        refine onS_intro hx ?_
        have := setV_sh p u (.d x) _ h
        refine (setV_one p u (.d x)).mono (fun z h => ⟨?_, h.2⟩) this
        rw [mkSt_sh, V.shs_eq, map_set_same (x := V.d x) (by rw [List.getElem?_map, hx]; rfl) h.1]
        simp [V.sh, D.sh, D.shs_eq]
      cases u with
      | d y =>
        have h : setD (i :: p) y x fun z => k (.d z) := h
        show setD (i :: p) y x fun z => (V.d z).sh = (V.d x).sh ∧ k (.d z)
        exact setD_sh (i :: p) y x _ h
      | _ =>
        cases x with
        | st xs => exact main xs h
        | _ => exact h.elim
    | st xs =>
      have main : onS xs[i]? (fun x => setV p u x fun z => k (mkSt (xs.set i z))) → onS xs[i]? fun x => setV p u x fun z => (mkSt (xs.set i z)).sh = (V.st xs).sh ∧ k (mkSt (xs.set i z)) := fun h => by
        obtain ⟨x, hx, h⟩ := onS_elim h
        refine onS_intro hx ?_
        have := setV_sh p u x _ h
        refine (setV_one p u x).mono (fun z h => ⟨?_, h.2⟩) this
        rw [mkSt_sh, V.shs_eq, map_set_same hx h.1]
        simp [V.sh, V.shs_eq]
      cases u <;> exact main h
    | _ => cases u <;> exact h.elim

/-- A write that keeps frames: one block, with its new content. -/
def softEff (rd : Nat → Option Blk) (e : Eff) : Prop := ∃ b x x', rd b = some x ∧ frB x x' ∧ e = [(b, some x')]

theorem copyL_length {α : Type} (xs ys : List α) : (copyL xs ys).length = xs.length := by
  unfold copyL
  simp
  omega

theorem storeV_soft {t : TypeId} {p u : V} {k : Eff → Prop} (h : storeV cx rd t p u k) : storeV cx rd t p u fun e => softEff rd e ∧ k e := by
  obtain ⟨te, hte, h⟩ := onS_elim h
  refine onS_intro hte ?_
  obtain ⟨h1, h⟩ := onT_elim h
  obtain ⟨h2, h⟩ := onT_elim h
  refine onT_intro h1 (onT_intro h2 ?_)
  cases p with
  | ptr b ver path s =>
    obtain ⟨bk, hb, h⟩ := onS_elim h
    refine onS_intro hb ?_
    cases bk with
    | fix v =>
      refine (setV_one path u v).mono (fun z h => ⟨⟨b, _, _, hb, .fix v z h.1, rfl⟩, h.2⟩) (setV_sh path u v _ h)
    | grow ver' e xs =>
      obtain ⟨he, h⟩ := onE_elim h
      refine onE_intro he ?_
      cases path with
      | nil => exact h.elim
      | cons i p =>
        cases u with
        | d y =>
          refine (setD_one (i :: p) y _).mono (fun z h => ?_) (setD_arr h)
          obtain ⟨⟨xs', rfl, hl⟩, hk⟩ := h
          exact ⟨⟨b, _, _, hb, .grow ver' e xs xs' hl, rfl⟩, hk⟩
        | _ => exact h.elim
  | _ => exact h.elim

theorem copyV_soft {e : Sh} {dst src : V} {k : V → Eff → Prop} (h : copyV rd e dst src k) : copyV rd e dst src fun v ef => softEff rd ef ∧ k v ef := by
  cases dst with
  | sl b off ver =>
    obtain ⟨bk, hb, h⟩ := onS_elim h
    refine onS_intro hb ?_
    cases bk with
    | fix v => exact h.elim
    | grow ver' e' xs =>
      obtain ⟨he, h⟩ := onE_elim h
      refine onE_intro he ?_
      obtain ⟨hs, h9⟩ := onT_elim h
      clear h
      refine onT_intro hs ?_
      have := Sh.beq_eq _ _ hs
      subst this
      subst he
      refine (elems_lin rd e' src).mono (fun ys h => ⟨⟨b, _, _, hb, .grow _ _ _ _ ?_, rfl⟩, h⟩) h9
      simp [copyL_length]; omega
  | sub b off len ver =>
    obtain ⟨bk, hb, h⟩ := onS_elim h
    refine onS_intro hb ?_
    cases bk with
    | fix v => exact h.elim
    | grow ver' e' xs =>
      obtain ⟨he, h⟩ := onE_elim h
      refine onE_intro he ?_
      obtain ⟨hs, h9⟩ := onT_elim h
      clear h
      refine onT_intro hs ?_
      have := Sh.beq_eq _ _ hs
      subst this
      subst he
      refine (elems_lin rd e' src).mono (fun ys h => ⟨⟨b, _, _, hb, .grow _ _ _ _ ?_, rfl⟩, h⟩) h9
      simp [copyL_length]; omega
  | sa b path off len =>
    obtain ⟨bk, hb, h⟩ := onS_elim h
    refine onS_intro hb ?_
    cases bk with
    | grow ver' e' xs => exact h.elim
    | fix v =>
      refine (getV_one path v).mono (fun u h => ?_) h
      cases u with
      | d y =>
        cases y with
        | arr n e' xs =>
          obtain ⟨hs, h⟩ := onT_elim h
          refine onT_intro hs ?_
          refine (elems_lin rd e src).mono (fun ys h => ?_) h
          exact (setV_one _ _ _).mono (fun z h => ⟨⟨b, _, _, hb, .fix v z h.1, rfl⟩, h.2⟩) (setV_sh _ _ _ _ h)
        | _ => exact h.elim
      | _ => exact h.elim
  | _ => exact h.elim

/-- The blocks that an operation may change: its own new one, or blocks that it sees. -/
def domOK (rd : Nat → Option Blk) (o : Oper) (slot : Nat) (e : Eff) : Prop := ∀ b x, (b, x) ∈ e → (newOp o = true ∧ b = slot) ∨ rd b ≠ none

theorem appendZ_dom {o : Oper} (hn : newOp o = true) {e : Sh} {bytes : Nat} {zero : D} {dst src : V} {k : V → Eff → Prop} (h : appendZ rd e bytes zero dst src k) : appendZ rd e bytes zero dst src fun v ef => domOK rd o slot ef ∧ k v ef := by
  cases dst with
  | sl b off ver =>
    cases src with
    | d x =>
      cases x with
      | int kk n =>
        cases kk with
        | i64 =>
          obtain ⟨blk, hbl, h⟩ := onS_elim (o := rd b) h
          refine onS_intro (o := rd b) hbl ?_
          cases blk with
          | fix v => exact h.elim
          | grow ver' e' xs =>
            obtain ⟨hev, h⟩ := onE_elim h
            obtain ⟨hbe, h⟩ := onT_elim h
            obtain ⟨ho, h⟩ := onE_elim h
            obtain ⟨hr, h⟩ := onT_elim h
            refine onE_intro hev (onT_intro hbe (onE_intro ho (onT_intro hr ⟨fun b' x hx => ?_, h⟩)))
            simp at hx
            obtain ⟨rfl, rfl⟩ := hx
            exact .inr (by rw [hbl]; simp)
        | _ => exact h.elim
      | _ => exact h.elim
    | _ => exact h.elim
  | _ => exact h.elim

theorem appendV_dom {o : Oper} (hn : newOp o = true) {e : Sh} {bytes : Nat} {dst src : V} {k : V → Eff → Prop} (h : appendV rd slot e bytes dst src k) : appendV rd slot e bytes dst src fun v ef => domOK rd o slot ef ∧ k v ef := by
  cases dst with
  | d x =>
    cases x with
    | nils =>
      have h4 : elems rd e src fun ys => onT (decide (ys.length * bytes ≤ room)) (k (.sl slot 0 0) [(slot, some (.grow 0 e ys))]) := h
      refine Lin.mono (k' := fun ys => onT (decide (ys.length * bytes ≤ room)) (domOK rd o slot [(slot, some (.grow 0 e ys))] ∧ k (.sl slot 0 0) [(slot, some (.grow 0 e ys))])) (elems_lin rd e src) (fun ys h => ?_) h4
      obtain ⟨hb, hk⟩ := onT_elim h
      refine onT_intro hb ⟨fun b x hx => ?_, hk⟩
      simp at hx; exact .inl ⟨hn, hx.1⟩
    | ro e' t xs =>
      cases t with
      | false => exact h.elim
      | true =>
        obtain ⟨hs, h1⟩ := onT_elim h
        refine onT_intro hs ?_
        refine (elems_lin rd e src).mono (fun ys h => ?_) h1
        obtain ⟨hb, hk⟩ := onT_elim h
        refine onT_intro hb ?_
        cases ys with
        | nil => exact ⟨fun b x hx => by simp at hx, hk⟩
        | cons y ys' => exact ⟨fun b x hx => by simp at hx; exact .inl ⟨hn, hx.1⟩, hk⟩
    | _ => exact h.elim
  | sl b off ver =>
    obtain ⟨bk, hb, h1⟩ := onS_elim h
    refine onS_intro hb ?_
    cases bk with
    | fix v => exact h1.elim
    | grow ver' e' xs =>
      obtain ⟨he, h2⟩ := onE_elim h1
      refine onE_intro he ?_
      obtain ⟨hs, h3⟩ := onT_elim h2
      refine onT_intro hs ?_
      obtain ⟨ho, h4⟩ := onE_elim h3
      refine onE_intro ho ?_
      refine (elems_lin rd e src).mono (fun ys h => ?_) h4
      obtain ⟨hr, hk⟩ := onT_elim h
      refine onT_intro hr ⟨fun b' x hx => ?_, hk⟩
      simp at hx
      rw [hx.1, hb]
      exact .inr (by simp)
  | sa b path off len =>
    obtain ⟨bk, hb, h1⟩ := onS_elim h
    refine onS_intro hb ?_
    cases bk with
    | grow ver' e' xs => exact h1.elim
    | fix v =>
      refine (getV_one path v).mono (fun u h => ?_) h1
      cases u with
      | d y =>
        cases y with
        | arr n e' xs =>
          obtain ⟨he, h2⟩ := onE_elim h
          refine onE_intro he ?_
          obtain ⟨hs, h3⟩ := onT_elim h2
          refine onT_intro hs ?_
          refine (elems_lin rd e src).mono (fun ys h => ?_) h3
          obtain ⟨hr, h4⟩ := onT_elim h
          refine onT_intro hr ?_
          have one : ∀ y, domOK rd o slot [(slot, y)] := fun y b x hx => by simp at hx; exact .inl ⟨hn, hx.1⟩
          have two : ∀ y z, domOK rd o slot [(slot, y), (b, z)] := fun y z b' x hx => by
            simp at hx
            rcases hx with hx | hx
            · exact .inl ⟨hn, hx.1⟩
            · rw [hx.1, hb]; exact .inr (by simp)
          cases path with
          | nil =>
            cases off with
            | zero =>
              cases src with
              | sa b' p' off' len' =>
                cases len' with
                | zero => exact ⟨two _ _, h4⟩
                | succ n => exact ⟨one _, h4⟩
              | _ => exact ⟨two _ _, h4⟩
            | succ m =>
              cases src with
              | sa b' p' off' len' =>
                cases len' with
                | zero => exact h4.elim
                | succ n => exact ⟨one _, h4⟩
              | _ => exact h4.elim
          | cons i p =>
            cases src with
            | sa b' p' off' len' =>
              cases len' with
              | zero => exact h4.elim
              | succ n => exact ⟨one _, h4⟩
            | _ => exact h4.elim
        | _ => exact h.elim
      | _ => exact h.elim
  | _ => exact h.elim

theorem Wop_soft {o : Oper} (hp : softOp o = true) {k : V → Eff → Prop} (h : Wop cx ρ rd slot o k) : Wop cx ρ rd slot o fun v e => softEff rd e ∧ k v e := by
  obtain ⟨dst, op, ty, pos, after, guard⟩ := o
  cases op with
  | store t a x => exact storeV_soft (k := fun e => k .any e) h
  | call c =>
    obtain ⟨callee, ⟨cargs⟩, ⟨catys⟩⟩ := c
    cases callee with
    | builtin b =>
      cases b with
      | copy =>
        match cargs, catys, h with
        | [x, y], [t, t'], h =>
          obtain ⟨te, hte, h⟩ := onS_elim (show onS (cx.ty t) (fun te => match te.ty with
                | .sl e => onS (cx.ty e) fun ee => copyV rd ee.sh (ρ x) (ρ y) k
                | _ => False) from h)
          refine onS_intro hte ?_
          revert h
          cases te.ty with
          | sl e =>
            intro h
            obtain ⟨ee, hee, h⟩ := onS_elim h
            exact onS_intro hee (copyV_soft h)
          | _ => intro h; exact h.elim
      | _ => cases hp
    | _ => cases hp
  | _ => cases hp

theorem Wop_dom (hlit : ρ (.const (.slice none 0 0)) = .d .nils) {o : Oper} {k : V → Eff → Prop} (h : Wop cx ρ rd slot o k) : Wop cx ρ rd slot o fun v e => domOK rd o slot e ∧ k v e := by
  cases hw : writeOp o with
  | false =>
    refine (Wop_lin cx ρ rd slot o).mono (fun v e h => ⟨fun b x hx => ?_, h.2⟩) (Wop_eff hlit hw h)
    rcases h.1 with rfl | ⟨hn, y, rfl⟩
    · simp at hx
    · simp at hx; exact .inl ⟨hn, hx.1⟩
  | true =>
    cases hs : softOp o with
    | true =>
      refine (Wop_lin cx ρ rd slot o).mono (fun v e h => ⟨fun b x hx => ?_, h.2⟩) (Wop_soft hs h)
      obtain ⟨b', x', y, hb, _, rfl⟩ := h.1
      simp at hx
      rw [hx.1, hb]
      exact .inr (by simp)
    | false =>
      obtain ⟨dst, op, ty, pos, after, guard⟩ := o
      cases op with
      | store t a x => cases hs
      | convert src dst x =>
        have hw : Nat.beq src dst = true := hw
        have h : match Nat.beq src dst with
          | true => convS cx rd dst (ρ x) k
          | false => convV cx rd src dst (ρ x) fun v => k v [] := h
        show match Nat.beq src dst with
          | true => convS cx rd dst (ρ x) _
          | false => convV cx rd src dst (ρ x) fun v => _
        rw [hw] at h ⊢
        obtain ⟨te, hte, h⟩ := onS_elim h
        refine onS_intro hte ?_
        revert h
        cases te.ty with
        | int kd => cases ρ x with
          | d y => cases y with
            | int kk n => intro h; exact ⟨fun b x hx => by simp at hx, h⟩
            | _ => intro h; exact h.elim
          | _ => intro h; exact h.elim
        | str => cases ρ x with
          | d y => cases y with
            | str s => intro h; exact ⟨fun b x hx => by simp at hx, h⟩
            | _ => intro h; exact h.elim
          | _ => intro h; exact h.elim
        | sl e => cases ρ x with
          | sl b off ver =>
            intro h
            obtain ⟨ee, hee, h⟩ := onS_elim h
            refine onS_intro hee ?_
            revert h
            cases ee.ty with
            | int kd => cases kd with
              | u8 =>
                intro h
                obtain ⟨blk, hb, h⟩ := onS_elim h
                refine onS_intro hb ?_
                cases blk with
                | fix v => exact h.elim
                | grow ver' e' xs =>
                  obtain ⟨h1, h⟩ := onE_elim h
                  obtain ⟨h2, h⟩ := onT_elim h
                  refine onE_intro h1 (onT_intro h2 ⟨fun b' y hy => ?_, h⟩)
                  simp at hy
                  rw [hy.1, hb]
                  exact .inr (by simp)
              | _ => intro h; exact h.elim
            | _ => intro h; exact h.elim
          | _ => intro h; exact h.elim
        | _ => intro h; exact h.elim
      | call c =>
        obtain ⟨callee, ⟨cargs⟩, ⟨catys⟩⟩ := c
        cases callee with
        | builtin b =>
          cases b with
          | append =>
            match cargs, catys, h with
            | [x, y], [t, t'], h =>
              have h0 : br (t == t') (onS (cx.ty t) fun te => match te.ty with
                | .sl e => onS (cx.ty e) fun ee => appendV rd slot ee.sh ee.bytes (ρ x) (ρ y) k
                | _ => False) (onS (cx.ty t) fun te => match te.ty with
                | .sl e => onS (cx.ty e) fun ee => onS (cx.ty t') fun te' => match te'.ty with
                  | .int .i64 => appendZ rd ee.sh ee.bytes ee.zero (ρ x) (ρ y) k
                  | _ => False
                | _ => False) := h
              cases htt : (t == t') with
              | false =>
                rw [htt] at h0
                have h1 : onS (cx.ty t) fun te => match te.ty with
                  | .sl e => onS (cx.ty e) fun ee => onS (cx.ty t') fun te' => match te'.ty with
                    | .int .i64 => appendZ rd ee.sh ee.bytes ee.zero (ρ x) (ρ y) k
                    | _ => False
                  | _ => False := h0
                refine br_false htt ?_
                obtain ⟨te, hte, h2⟩ := onS_elim h1
                refine onS_intro hte ?_
                revert h2
                cases te.ty with
                | sl e =>
                  intro h2
                  obtain ⟨ee, hee, h3⟩ := onS_elim h2
                  obtain ⟨te', hte', h3⟩ := onS_elim h3
                  refine onS_intro hee (onS_intro hte' ?_)
                  revert h3
                  cases te'.ty with
                  | int kk =>
                    cases kk with
                    | i64 => intro h3; exact appendZ_dom rfl h3
                    | _ => intro h3; exact h3.elim
                  | _ => intro h3; exact h3.elim
                | _ => intro h2; exact h2.elim
              | true =>
              rw [htt] at h0
              have h1 : onS (cx.ty t) fun te => match te.ty with
                | .sl e => onS (cx.ty e) fun ee => appendV rd slot ee.sh ee.bytes (ρ x) (ρ y) k
                | _ => False := h0
              refine br_true htt ?_
              obtain ⟨te, hte, h2⟩ := onS_elim h1
              refine onS_intro hte ?_
              revert h2
              cases te.ty with
              | sl e =>
                intro h2
                obtain ⟨ee, hee, h3⟩ := onS_elim h2
                exact onS_intro hee (appendV_dom rfl h3)
              | _ => intro h2; exact h2.elim
          | copy => cases hs
          | _ => cases hw
        | _ => cases hw
      | _ => cases hw
end
end Go.Fw

/-
One step of a region, and its soundness. No conditions.
-/
namespace Go.Fw
set_option linter.unusedVariables false
set_option linter.unusedSimpArgs false
open Go.RowKit

def slotAt (ops : List Oper) (base j : Nat) : Nat := base + news (ops.take j)

/-- Does the operation's guard let it in. -/
def gd (ops : List Oper) (e : Env) (o : Oper) : Option Bool :=
  match o.guard with
  | none => some true
  | some (i, want) => match (ops[i]?).bind (·.dst) with
    | some t => match e t with
      | .d (.bool g) => some (g == want)
      | .tup [] => some false
      | _ => none
    | none => none

/-- Operation j yields v, with effect ef. -/
def YW (cx : Cx) (vis : Vis) (ops : List Oper) (base : Nat) (e : Env) (H : Heap) (j : Nat) (o : Oper) (v : V) (ef : Eff) : Prop :=
  (gd ops e o = some true ∧ ∀ k : V → Eff → Prop, k v ef → Wop cx (evO cx e) (rdAt vis ops base H j) (slotAt ops base j) o k) ∨ (gd ops e o = some false ∧ v = .tup [] ∧ ef = [])

def LexW (cx : Cx) (vis : Vis) (ops : List Oper) (base : Nat) (K : Env → Heap → Prop) : List Oper → Nat → Env → Heap → Prop
  | [], _, e, H => K e H
  | o :: r, j, e, H => ∃ v ef, YW cx vis ops base e H j o v ef ∧ LexW cx vis ops base K r (j + 1) (put e o.dst v) (happ H ef)

theorem news_append : ∀ (l r : List Oper), news (l ++ r) = news l + news r
  | [], r => by simp [news]
  | o :: l, r => by
    simp only [List.cons_append, news, news_append l r]
    cases newOp o <;> simp; omega

theorem slotAt_succ {ops : List Oper} {base j : Nat} {o : Oper} (h : ops[j]? = some o) : slotAt ops base (j + 1) = bif newOp o then slotAt ops base j + 1 else slotAt ops base j := by
  unfold slotAt
  rw [List.take_add_one, h, news_append]
  simp only [Option.toList, news]
  cases newOp o <;> simp; omega

theorem setK_eq (x : Option Blk) : ∀ (H : Heap) (b : Nat) (k : Heap → Prop), setK H b x k = k (H.set b x)
  | [], b, k => by cases b <;> rfl
  | _ :: r, 0, k => rfl
  | y :: r, n + 1, k => by simp only [setK, setK_eq x r n, List.set_cons_succ]

theorem appK_eq : ∀ (e : Eff) (H : Heap) (k : Heap → Prop), appK H e k = k (happ H e)
  | [], H, k => rfl
  | (b, x) :: r, H, k => by simp only [appK, happ, setK_eq, appK_eq r]

theorem moreK_eq : ∀ (H : Heap) (n : Nat) (k : Heap → Prop), moreK H n k = k (H ++ List.replicate n none)
  | [], n, k => rfl
  | y :: r, n, k => by simp only [moreK, moreK_eq r n, List.cons_append]

theorem upd_self {e : Env} {t : Nat} {v : V} (h : e t = v) : upd e t v = e := by
  funext i
  unfold upd
  cases hi : Nat.beq i t with
  | true => have := Nat.eq_of_beq_eq_true hi; subst this; exact h.symm
  | false => rfl

theorem asG_inv {v : V} {u : Prop} {k : Bool → Prop} (h : asG v u k) : (v = .tup [] ∧ u) ∨ ∃ b, v = .d (.bool b) ∧ k b := by
  unfold asG at h
  split at h
  · rename_i b; exact .inr ⟨b, rfl, h⟩
  · exact .inl ⟨rfl, h⟩
  · exact h.elim

theorem asB_inv {v : V} {k : Bool → Prop} (h : asB v k) : ∃ b, v = .d (.bool b) ∧ k b := by
  unfold asB at h
  split at h
  · rename_i b; exact ⟨b, rfl, h⟩
  · exact h.elim

theorem happ_length : ∀ (e : Eff) (H : Heap), (happ H e).length = H.length
  | [], H => rfl
  | (b, x) :: r, H => by simp only [happ, happ_length r, List.length_set]

section
variable {cx : Cx} {vis : Vis}

theorem lex_of_wops {ops : List Oper} {base : Nat} {K : Env → Heap → Prop} : ∀ (l : List Oper) (j slot : Nat) (e : Env) (H : Heap), slot = slotAt ops base j → (∀ i, l[i]? = ops[j + i]?) →
    Wops cx vis ops base K l j slot e H → LexW cx vis ops base K l j e H
  | [], j, slot, e, H, hs, hl, h => h
  | o :: rest, j, slot, e, H, hs, hl, h => by
    have h0 : ops[j]? = some o := by simpa using (hl 0).symm
    have hl' : ∀ i, rest[i]? = ops[j + 1 + i]? := fun i => by have := hl (i + 1); simpa [Nat.add_assoc, Nat.add_comm 1 i] using this
    have hs' : (bif newOp o then slot + 1 else slot) = slotAt ops base (j + 1) := by rw [slotAt_succ h0, hs]
    have run : gd ops e o = some true → Wop cx (evO cx e) (rdAt vis ops base H j) slot o (fun v ef => appK H ef fun H' => Wops cx vis ops base K rest (j + 1) (bif newOp o then slot + 1 else slot) (put e o.dst v) H') →
        LexW cx vis ops base K (o :: rest) j e H := fun hg h => by
      obtain ⟨⟨v, ef⟩, hk, hy⟩ := Wop_lin cx (evO cx e) (rdAt vis ops base H j) slot o (fun p => appK H p.2 fun H' => Wops cx vis ops base K rest (j + 1) (bif newOp o then slot + 1 else slot) (put e o.dst p.1) H') h
      have hk' : appK H ef fun H' => Wops cx vis ops base K rest (j + 1) (bif newOp o then slot + 1 else slot) (put e o.dst v) H' := hk
      rw [appK_eq] at hk'
      exact ⟨v, ef, .inl ⟨hg, fun k hk => by rw [← hs]; exact hy (fun p => k p.1 p.2) hk⟩, lex_of_wops rest (j + 1) _ _ _ hs' hl' hk'⟩
    have skip : gd ops e o = some false → Wops cx vis ops base K rest (j + 1) (bif newOp o then slot + 1 else slot) (put e o.dst (.tup [])) H → LexW cx vis ops base K (o :: rest) j e H := fun hg h =>
      ⟨.tup [], [], .inr ⟨hg, rfl, rfl⟩, lex_of_wops rest (j + 1) _ _ _ hs' hl' h⟩
    unfold Wops at h
    cases hgd : o.guard with
    | none =>
      rw [hgd] at h
      exact run (by simp [gd, hgd]) h
    | some p =>
      obtain ⟨i, want⟩ := p
      rw [hgd] at h
      cases hd : (ops[i]?).bind (·.dst) with
      | none => simp only [hd] at h
      | some t =>
        simp only [hd] at h
        rcases asG_inv h with ⟨hg, h⟩ | ⟨g, hg, h⟩
        · exact skip (by simp [gd, hgd, hd, hg]) h
        have hgd' : gd ops e o = some (g == want) := by simp [gd, hgd, hd, hg]
        cases g with
        | true =>
          rw [upd_self hg] at h
          cases want with
          | true => exact run (by simpa using hgd') h
          | false => exact skip (by simpa using hgd') h
        | false =>
          rw [upd_self hg] at h
          cases want with
          | true => exact skip (by simpa using hgd') h
          | false => exact run (by simpa using hgd') h

theorem Wop_slot {ρ : Operand → V} {rd : Nat → Option Blk} {slot slot' : Nat} {o : Oper} (hn : newOp o = false) {k : V → Eff → Prop} (h : Wop cx ρ rd slot o k) : Wop cx ρ rd slot' o k := by
  obtain ⟨dst, op, ty, pos, after, guard⟩ := o
  cases op with
  | call c =>
    obtain ⟨callee, cargs, catys⟩ := c
    cases callee with
    | builtin b => cases b <;> first | exact h | cases hn
    | _ => exact h
  | makeFunc fn first captured => cases fn <;> exact h
  | _ => first | exact h | cases hn

/-- What is known of a state while a region runs: 'L' says which operations have run. -/
structure RelR (cx : Cx) (B n : Nat) (w0 : World) (far : Nat → Prop) (ops : List Oper) (base : Nat) (L : Nat → Prop) (e : Env) (H : Heap) (a : Act) (w : World) (m : M) : Prop where
  heap : HeapOK cx B w m H
  env : ∀ t, RV w m H (e t) (a.tmps.getD t undef)
  size : a.tmps.size = n
  defers : a.defers = []
  below : Below B w0 w
  far : ∀ k, far k → m.far k
  len : H.length = base + news ops
  born : ∀ b, m.born b → b < base ∨ ∃ j o, ops[j]? = some o ∧ newOp o = true ∧ L j ∧ b = slotAt ops base j

theorem rdAt_rd (vis : Vis) (ops : List Oper) (base : Nat) (H : Heap) (j : Nat) : Rd (rdAt vis ops base H j) H := by
  intro b x hb
  have key : H.getD b none = some x → live H b x := fun h => by
    unfold live
    rw [List.getD_eq_getElem?_getD] at h
    cases hg : H[b]? with
    | none => rw [hg] at h; cases h
    | some y => rw [hg] at h; simpa using h
  unfold rdAt at hb
  split at hb
  · cases hb
  · split at hb
    · exact key hb
    · split at hb
      · split at hb
        · exact key hb
        · cases hb
      · cases hb

theorem litV_sound {w : World} {m : M} {H : Heap} (v : Value) : RV w m H (litV v) v := by
  unfold litV
  split
  · exact .int _ _
  · exact .bool _
  · rename_i s
    have := RV.str (w := w) (m := m) (H := H) s.data.toList
    simpa using this
  · exact .d1 .nils rfl
  · exact .d1 .nilp rfl
  · exact .any _

theorem evO_sound {B : Nat} {w : World} {m : M} {H : Heap} {e : Env} {a : Act} (hh : HeapOK cx B w m H) (he : ∀ t, RV w m H (e t) (a.tmps.getD t undef)) : RO w m H (evO cx e) a.eval := by
  intro x
  cases x with
  | tmp t => exact he t
  | const v => exact litV_sound v
  | global g =>
    show RV w m H (match cx.G g with
      | some x => .rop x
      | none => .any) (.pointer (some ⟨g, 0, none⟩))
    cases hg : cx.G g with
    | none => exact .any _
    | some x =>
      obtain ⟨h1, h2, cells, h3, h4⟩ := hh.glob g x hg
      exact .rop_of h3 fun j c hc => ⟨by rw [addr_add]; simpa using h4 j c hc, h1⟩
  | func f =>
    have := RV.d1 (w := w) (m := m) (H := H) (RC.fn f [] [] rfl fun i x cs h => by simp at h) rfl
    show RV w m H (.d (.fn f [])) (.func (.func f) #[] #[])
    simpa using this

theorem gd_wanted {ops : List Oper} {e : Env} {a : Act} {w : World} {m : M} {H : Heap} (he : ∀ t, RV w m H (e t) (a.tmps.getD t undef)) {o : Oper} {g : Bool} (h : gd ops e o = some g) :
    Region.wanted o (yielded ops.toArray a.tmps) = g := by
  unfold gd at h
  unfold Region.wanted
  cases hg : o.guard with
  | none => rw [hg] at h; simpa using h
  | some p =>
    obtain ⟨i, want⟩ := p
    rw [hg] at h
    simp only at h ⊢
    cases hd : (ops[i]?).bind (·.dst) with
    | none => rw [hd] at h; cases h
    | some t =>
      rw [hd] at h
      simp only at h
      split at h
      · rename_i b hb
        have hv := he t
        rw [hb] at hv
        have hv := hv.bool_inv
        have ht : a.tmps[t]? = some (.bool b) := by
          rw [Array.getD_eq_getD_getElem?] at hv
          cases hq : a.tmps[t]? with
          | none => rw [hq] at hv; cases hv
          | some y => rw [hq] at hv; simpa using hv
        have : yielded ops.toArray a.tmps i = some b := by
          unfold yielded
          simp [hd, ht]
        rw [this]
        cases h
        cases b <;> cases want <;> rfl
      · rename_i hb
        cases h
        have hv := he t
        rw [hb] at hv
        have hu : a.tmps.getD t undef = .tuple #[] := by
          generalize a.tmps.getD t undef = c at hv
          cases hv with
          | one v cs h => cases h
          | tup xs cs hl h =>
            simp at hl
            subst hl
            rfl
        have : yielded ops.toArray a.tmps i = none := by
          unfold yielded
          simp only [List.getElem?_toArray, hd, Option.bind_some]
          rw [Array.getD_eq_getD_getElem?] at hu
          cases hq : a.tmps[t]? with
          | none => rfl
          | some y => rw [hq] at hu; simp at hu; rw [hu]
        rw [this]
        rfl
      · cases h

theorem news_take_lt {ops : List Oper} {j : Nat} {o : Oper} (h : ops[j]? = some o) (hn : newOp o = true) : news (ops.take j) + 1 ≤ news ops := by
  have hj := (List.getElem?_eq_some_iff.1 h).1
  have h1 : ops = ops.take (j + 1) ++ ops.drop (j + 1) := (List.take_append_drop _ _).symm
  have h2 : news ops = news (ops.take (j + 1)) + news (ops.drop (j + 1)) := by rw [← news_append, ← h1]
  rw [List.take_add_one, h, news_append] at h2
  simp only [Option.toList, news, hn, cond_true] at h2
  omega

theorem news_mono {ops : List Oper} {i j : Nat} (h : i ≤ j) : news (ops.take i) ≤ news (ops.take j) := by
  have h1 : ops.take i = (ops.take j).take i := by rw [List.take_take, Nat.min_eq_left h]
  have h2 : ops.take j = (ops.take j).take i ++ (ops.take j).drop i := (List.take_append_drop _ _).symm
  rw [h2, news_append, ← h1]
  omega

theorem slotAt_lt {ops : List Oper} {base i j : Nat} {o : Oper} (hi : ops[i]? = some o) (hn : newOp o = true) (h : i < j) : slotAt ops base i < slotAt ops base j := by
  have := slotAt_succ (base := base) hi
  rw [hn] at this
  have h2 := news_mono (ops := ops) (show i + 1 ≤ j from h)
  unfold slotAt at *
  simp at this
  omega

theorem slotAt_inj {ops : List Oper} {base i j : Nat} {o o' : Oper} (hi : ops[i]? = some o) (hn : newOp o = true) (hj : ops[j]? = some o') (hn' : newOp o' = true) (h : slotAt ops base i = slotAt ops base j) : i = j := by
  rcases Nat.lt_trichotomy i j with hl | rfl | hl
  · have := slotAt_lt (base := base) hi hn hl; omega
  · rfl
  · have := slotAt_lt (base := base) hj hn' hl; omega

theorem env_put {n : Nat} {w : World} {m : M} {H : Heap} {e : Env} {a : Act} (he : ∀ t, RV w m H (e t) (a.tmps.getD t undef)) (hs : a.tmps.size = n) {dst : Option Tmp} (hd : ∀ d, dst = some d → d < n) {v : V} {c : Value} (hv : RV w m H v c) :
    ∀ t, RV w m H (put e dst v t) ((a.put dst c).tmps.getD t undef) := by
  intro t
  cases dst with
  | none => exact he t
  | some d =>
    have hdn := hd d rfl
    show RV w m H (upd e d v t) ((a.tmps.setIfInBounds d c).getD t undef)
    unfold upd
    cases hi : Nat.beq t d with
    | true =>
      have := Nat.eq_of_beq_eq_true hi
      subst this
      simp [Array.getElem?_setIfInBounds, hs, hdn]
      exact hv
    | false =>
      have hne : d ≠ t := fun h => by subst h; simp at hi
      have := he t
      simpa [Array.getElem?_setIfInBounds_ne hne] using this

/-- One operation of a region: the state behind it. -/
theorem step_sound (hx : CxOK cx) {B n : Nat} {w0 : World} {far : Nat → Prop} {ops : List Oper} {base : Nat} {L : Nat → Prop} {e : Env} {H : Heap} {a : Act} {w : World} {m : M}
    (hr : RelR cx B n w0 far ops base L e H a w m) {j : Nat} {o : Oper} (hj : ops[j]? = some o) (hd : ∀ d, o.dst = some d → d < n) (hL : ¬ L j) {v : V} {ef : Eff} (hy : YW cx vis ops base e H j o v ef)
    {K : Act → World → Prop} {Q : Exit → Act → World → Prop} (hK : ∀ a' w' m', RelR cx B n w0 far ops base (fun i => i = j ∨ L i) (put e o.dst v) (happ H ef) a' w' m' → K a' w') :
    if Region.wanted o (yielded ops.toArray a.tmps) then o.wp cx.P a w K Q else K (a.put o.dst undef) w := by
  have put_size : ∀ c, (a.put o.dst c).tmps.size = n := fun c => by
    cases h : o.dst <;> simp [Act.put, hr.size]
  have put_def : ∀ c, (a.put o.dst c).defers = [] := fun c => by
    cases h : o.dst <;> simp [Act.put, hr.defers]
  rcases hy with ⟨hg, hW⟩ | ⟨hg, rfl, rfl⟩
  · rw [if_pos (gd_wanted hr.env hg)]
    have hW := hW (fun v' e' => v' = v ∧ e' = ef) ⟨rfl, rfl⟩
    have hrd := rdAt_rd vis ops base H j
    have hρ : RO w m H (evO cx e) a.eval := evO_sound hr.heap hr.env
    cases hn : newOp o with
    | true =>
      have hs : ¬ m.born (slotAt ops base j) ∧ slotAt ops base j < H.length := by
        constructor
        · intro hb
          rcases hr.born _ hb with h | ⟨i, o', hi, hn', hLi, he⟩
          · unfold slotAt at h; omega
          · have := slotAt_inj hj hn hi hn' he
            subst this
            exact hL hLi
        · rw [hr.len]
          have := news_take_lt hj hn
          unfold slotAt
          omega
      obtain ⟨v', e', ⟨rfl, rfl⟩, hok⟩ := Wop_sound hx hr.heap hrd hρ (fun _ => hs) hW
      refine hok K Q fun c w' m' h => hK _ w' m' ⟨h.heap, ?_, put_size c, put_def c, hr.below.trans h.below, fun k hk => h.keep.far k (hr.far k hk), by rw [happ_length]; exact hr.len, fun b hb => ?_⟩
      · exact env_put (fun t => (hr.env t).keep h.keep) hr.size hd h.val
      · rcases h.born b hb with h1 | h1
        · rcases hr.born b h1 with h2 | ⟨i, o', q1, q2, q3, q4⟩
          · exact .inl h2
          · exact .inr ⟨i, o', q1, q2, .inr q3, q4⟩
        · exact .inr ⟨j, o, hj, hn, .inl rfl, h1⟩
    | false =>
      obtain ⟨v', e', ⟨rfl, rfl⟩, hok⟩ := Wop_sound hx hr.heap hrd hρ (slot := H.length) (fun h => by rw [hn] at h; cases h) (Wop_slot hn hW)
      refine hok K Q fun c w' m' h => hK _ w' m' ⟨h.heap, ?_, put_size c, put_def c, hr.below.trans h.below, fun k hk => h.keep.far k (hr.far k hk), by rw [happ_length]; exact hr.len, fun b hb => ?_⟩
      · exact env_put (fun t => (hr.env t).keep h.keep) hr.size hd h.val
      · rcases h.born b hb with h1 | h1
        · rcases hr.born b h1 with h2 | ⟨i, o', q1, q2, q3, q4⟩
          · exact .inl h2
          · exact .inr ⟨i, o', q1, q2, .inr q3, q4⟩
        · have := h.heap.lt b hb
          rw [happ_length] at this
          omega
  · have hw := gd_wanted hr.env hg
    rw [hw]
    simp only [Bool.false_eq_true, if_false]
    refine hK _ w m ⟨hr.heap, env_put hr.env hr.size hd (.tup [] [] rfl (fun i x c h => by simp at h)), put_size _, put_def _, hr.below, hr.far, hr.len, fun b hb => ?_⟩
    rcases hr.born b hb with h2 | ⟨i, o', q1, q2, q3, q4⟩
    · exact .inl h2
    · exact .inr ⟨i, o', q1, q2, .inr q3, q4⟩
end
end Go.Fw

/-
Regions: in text order, and in any order. No conditions.
-/
namespace Go.Fw
set_option linter.unusedVariables false
set_option linter.unusedSimpArgs false
open Go.RowKit

def dstOK (n : Nat) (ops : List Oper) : Bool := ops.all fun o => match o.dst with
  | some d => Nat.blt d n
  | none => true

theorem dstOK_spec {n : Nat} {ops : List Oper} (h : dstOK n ops = true) : ∀ o ∈ ops, ∀ d, o.dst = some d → d < n := by
  intro o ho d hd
  unfold dstOK at h
  rw [List.all_eq_true] at h
  have := h o ho
  rw [hd] at this
  exact of_eq_true (by rw [← Nat.blt_eq]; exact eq_true this)

section
variable {cx : Cx} {vis : Vis} {B n : Nat} {w0 : World} {far : Nat → Prop} {ops : List Oper} {base : Nat}

theorem list_sound (hx : CxOK cx) (hd : ∀ o ∈ ops, ∀ d, o.dst = some d → d < n) {K : Env → Heap → Prop} {Q : Exit → Act → World → Prop}
    (hQ : ∀ e H a w m, K e H → RelR cx B n w0 far ops base (fun _ => True) e H a w m → Q .normal a w) : ∀ (l : List Oper) (j : Nat) (e : Env) (H : Heap) (a : Act) (w : World) (m : M), (∀ i, l[i]? = ops[j + i]?) →
    RelR cx B n w0 far ops base (fun i => i < j) e H a w m → LexW cx vis ops base K l j e H → wpList cx.P ops.toArray Q l a w
  | [], j, e, H, a, w, m, hl, hr, h => hQ e H a w m h { hr with born := fun b hb => (hr.born b hb).imp id fun ⟨i, o, q1, q2, _, q4⟩ => ⟨i, o, q1, q2, trivial, q4⟩ }
  | o :: rest, j, e, H, a, w, m, hl, hr, ⟨v, ef, hy, h⟩ => by
    have h0 : ops[j]? = some o := by simpa using (hl 0).symm
    have hl' : ∀ i, rest[i]? = ops[j + 1 + i]? := fun i => by have := hl (i + 1); simpa [Nat.add_assoc, Nat.add_comm 1 i] using this
    refine wpList_step fun K' hK' => ?_
    refine step_sound hx hr h0 (hd o (List.mem_of_getElem? h0)) (Nat.lt_irrefl j) hy fun a' w' m' hr' => hK' _ _ ?_
    refine list_sound hx hd hQ rest (j + 1) _ _ a' w' m' hl' { hr' with born := fun b hb => (hr'.born b hb).imp id fun ⟨i, o, q1, q2, q3, q4⟩ => ⟨i, o, q1, q2, by omega, q4⟩ } h
end

/-! Any order -/

def AnyW (cx : Cx) (vis : Vis) (ops : List Oper) (base : Nat) (K : Env → Heap → Prop) : Nat → Array Bool → Env → Heap → Prop
  | 0, listed, e, H => Region.ready .any ops.toArray listed = [] ∧ K e H
  | fuel + 1, listed, e, H => (Region.ready .any ops.toArray listed = [] → K e H) ∧
    ∀ i ∈ Region.ready .any ops.toArray listed, ∀ o, ops[i]? = some o → ∃ v ef, YW cx vis ops base e H i o v ef ∧ AnyW cx vis ops base K fuel (listed.setIfInBounds i true) (put e o.dst v) (happ H ef)

section
variable {cx : Cx} {vis : Vis} {B n : Nat} {w0 : World} {far : Nat → Prop} {ops : List Oper} {base : Nat}

theorem any_sound (hx : CxOK cx) (hd : ∀ o ∈ ops, ∀ d, o.dst = some d → d < n) {K : Env → Heap → Prop} {Q : Exit → Act → World → Prop}
    (hQ : ∀ e H a w m, K e H → RelR cx B n w0 far ops base (fun _ => True) e H a w m → Q .normal a w) : ∀ (fuel : Nat) (listed : Array Bool) (e : Env) (H : Heap) (a : Act) (w : World) (m : M),
    listed.size = ops.length → RelR cx B n w0 far ops base (fun i => listed.getD i false = true) e H a w m → AnyW cx vis ops base K fuel listed e H → wpAny cx.P .any ops.toArray Q fuel listed a w
  | 0, listed, e, H, a, w, m, hs, hr, h => ⟨h.1, hQ e H a w m h.2 { hr with born := fun b hb => (hr.born b hb).imp id fun ⟨i, o, q1, q2, _, q4⟩ => ⟨i, o, q1, q2, trivial, q4⟩ }⟩
  | fuel + 1, listed, e, H, a, w, m, hs, hr, h => by
    refine ⟨fun hn => hQ e H a w m (h.1 hn) { hr with born := fun b hb => (hr.born b hb).imp id fun ⟨i, o, q1, q2, _, q4⟩ => ⟨i, o, q1, q2, trivial, q4⟩ }, fun i hi => ?_⟩
    obtain ⟨hun, o, ho, _⟩ := mem_ready.1 hi
    have ho' : ops[i]? = some o := by simpa using ho
    obtain ⟨v, ef, hy, hrest⟩ := h.2 i hi o ho'
    have hil := (List.getElem?_eq_some_iff.1 ho').1
    have hL : ¬ listed.getD i false = true := by
      have h1 : i < listed.size := by omega
      simp [h1] at hun ⊢
      exact hun
    have := step_sound hx hr ho' (hd o (List.mem_of_getElem? ho')) hL hy (K := wpAny cx.P .any ops.toArray Q fuel (listed.setIfInBounds i true)) (Q := Q) fun a' w' m' hr' =>
      any_sound hx hd hQ fuel _ _ _ a' w' m' (by simpa using hs) { hr' with born := fun b hb => (hr'.born b hb).imp id fun ⟨k, o, q1, q2, q3, q4⟩ => ⟨k, o, q1, q2, by
        rcases q3 with rfl | q3
        · have h1 : k < listed.size := by omega
          simp [h1]
        · exact getD_set_true q3, q4⟩ } hrest
    unfold wpOp
    simp only [ho]
    split
    · rename_i hw; rw [if_pos hw] at this; exact .inl this
    · rename_i hw; rw [if_neg hw] at this; exact this
end

/-! The order of the text stands for every order -/

def maskOf (acc : List Nat) (o : Oper) : Nat := o.after.toList.foldr (fun e r => bif Region.binds .any e then (1 <<< e.on) ||| (acc.getD e.on 0 ||| r) else r) 0

def masks : List Nat → List Oper → List Nat
  | acc, [] => acc
  | acc, o :: r => masks (acc ++ [maskOf acc o]) r

/-- Operations that may come in either order. -/
def hid (vis : Vis) (i j : Nat) (x : Oper) : Bool :=
  !writeOp x || match vis i with
    | some (true, l) => l.all fun b => !seen (vis j) b
    | _ => false

def compat (cx : Cx) (vis : Vis) (ops : Array Oper) (i j : Nat) (x y : Oper) : Bool :=
  x.apart ops y && (pureOp cx x || pureOp cx y || (!writeOp x && !writeOp y) || (frameOp x && softOp y) || (softOp x && frameOp y) || (hid vis i j x && hid vis j i y))

def earlier : List Oper → Nat → Bool
  | [], _ => true
  | o :: r, j => (o.after.toList.all fun e => !Region.binds .any e || Nat.blt e.on j) && earlier r (j + 1)

/-- Every pair, in the text's order: bound by edges, or free to change places. -/
def pairsOK (cx : Cx) (vis : Vis) (ops : Array Oper) (ms : List Nat) : List Oper → Nat → Bool
  | [], _ => true
  | x :: r, i => ((r.zipIdx (i + 1)).all fun p => (ms.getD p.2 0).testBit i || compat cx vis ops i p.2 x p.1) && pairsOK cx vis ops ms r (i + 1)

def regionFree (cx : Cx) (vis : Vis) (ops : List Oper) : Bool := earlier ops 0 && pairsOK cx vis ops.toArray (masks [] ops) ops 0

theorem earlier_spec (l : List Oper) : ∀ (j : Nat), earlier l j = true → ∀ (i : Nat) o, l[i]? = some o → ∀ e ∈ o.after, Region.binds .any e = true → e.on < j + i := by
  induction l with
  | nil => intro j h i o ho; simp at ho
  | cons x r ih =>
    intro j h i o ho e he hb
    unfold earlier at h
    rw [Bool.and_eq_true] at h
    cases i with
    | zero =>
      simp at ho; subst ho
      have h1 := h.1
      rw [List.all_eq_true] at h1
      have h2 := h1 e (by simpa using he)
      rw [hb] at h2
      simp only [Bool.not_true, Bool.false_or] at h2
      have : e.on < j := of_eq_true (by rw [← Nat.blt_eq]; exact eq_true h2)
      omega
    | succ i =>
      have := ih (j + 1) h.2 i o (by simpa using ho) e he hb
      omega

theorem pairsOK_spec {cx : Cx} {vis : Vis} {ops : Array Oper} {ms : List Nat} (l : List Oper) : ∀ (k : Nat), pairsOK cx vis ops ms l k = true → ∀ (i j : Nat) x y, l[i]? = some x → l[j]? = some y → i < j → (ms.getD (k + j) 0).testBit (k + i) = true ∨ compat cx vis ops (k + i) (k + j) x y = true := by
  induction l with
  | nil => intro k h i j x y hx; simp at hx
  | cons z r ih =>
    intro k h i j x y hx hy hij
    unfold pairsOK at h
    rw [Bool.and_eq_true] at h
    cases j with
    | zero => omega
    | succ j =>
      have hy' : r[j]? = some y := by simpa using hy
      cases i with
      | zero =>
        simp at hx; subst hx
        have h1 := h.1
        rw [List.all_eq_true] at h1
        have hm : (y, k + 1 + j) ∈ r.zipIdx (k + 1) := by
          rw [List.mem_iff_getElem?]
          exact ⟨j, by simp [List.getElem?_zipIdx, hy']⟩
        have h2 := h1 _ hm
        rw [Bool.or_eq_true] at h2
        rw [show k + (j + 1) = k + 1 + j by omega, Nat.add_zero]
        exact h2
      | succ i =>
        have := ih (k + 1) h.2 i j x y (by simpa using hx) hy' (by omega)
        rw [show k + (j + 1) = k + 1 + j by omega, show k + (i + 1) = k + 1 + i by omega]
        exact this

/-- All that a listed operation waits for is listed. -/
def Closed (ops : List Oper) (listed : Array Bool) : Prop := ∀ (k : Nat) o, listed.getD k false = true → ops[k]? = some o → ∀ e ∈ o.after, Region.binds .any e = true → listed.getD e.on false = true

theorem maskOf_spec {acc : List Nat} {o : Oper} {i : Nat} (h : (maskOf acc o).testBit i = true) : ∃ e ∈ o.after, Region.binds .any e = true ∧ (e.on = i ∨ (acc.getD e.on 0).testBit i = true) := by
  unfold maskOf at h
  have : ∀ (l : List Edge), (l.foldr (fun e r => bif Region.binds .any e then (1 <<< e.on) ||| (acc.getD e.on 0 ||| r) else r) 0).testBit i = true → ∃ e ∈ l, Region.binds .any e = true ∧ (e.on = i ∨ (acc.getD e.on 0).testBit i = true) := by
    intro l
    induction l with
    | nil => intro h; simp at h
    | cons e l ih =>
      intro h
      rw [List.foldr_cons] at h
      cases hb : Region.binds .any e with
      | false =>
        rw [hb] at h
        obtain ⟨e', h1, h2⟩ := ih h
        exact ⟨e', by simp [h1], h2⟩
      | true =>
        rw [hb] at h
        simp only [cond_true, Nat.testBit_or, Bool.or_eq_true] at h
        rcases h with h | h | h
        · refine ⟨e, by simp, hb, .inl ?_⟩
          rw [Nat.one_shiftLeft, Nat.testBit_two_pow] at h
          simpa using h
        · exact ⟨e, by simp, hb, .inr h⟩
        · obtain ⟨e', h1, h2⟩ := ih h
          exact ⟨e', by simp [h1], h2⟩
  obtain ⟨e, h1, h2⟩ := this _ h
  exact ⟨e, by simpa using h1, h2⟩

theorem masks_spec {ops : List Oper} (he : ∀ (i : Nat) o, ops[i]? = some o → ∀ e ∈ o.after, Region.binds .any e = true → e.on < i) : ∀ (l : List Oper) (acc : List Nat),
    (∀ i, l[i]? = ops[acc.length + i]?) →
    (∀ k, k < acc.length → ∀ listed, Closed ops listed → (∀ o, ops[k]? = some o → ∀ e ∈ o.after, Region.binds .any e = true → listed.getD e.on false = true) → ∀ i, (acc.getD k 0).testBit i = true → listed.getD i false = true) →
    ∀ k listed, Closed ops listed → (∀ o, ops[k]? = some o → ∀ e ∈ o.after, Region.binds .any e = true → listed.getD e.on false = true) → ∀ i, ((masks acc l).getD k 0).testBit i = true → listed.getD i false = true
  | [], acc, hl, ha, k, listed, hc, hk, i, hi => by
    simp only [masks] at hi
    by_cases hlt : k < acc.length
    · exact ha k hlt listed hc hk i hi
    · rw [List.getD_eq_getElem?_getD, List.getElem?_eq_none (by omega)] at hi
      simp at hi
  | o :: r, acc, hl, ha, k, listed, hc, hk, i, hi => by
    have h0 : ops[acc.length]? = some o := by simpa using (hl 0).symm
    refine masks_spec he r (acc ++ [maskOf acc o]) (fun i => by have := hl (i + 1); simp only [List.length_append, List.length_singleton]; rw [show acc.length + 1 + i = acc.length + (i + 1) by omega]; simpa using this) (fun k hk listed hc hk' i hi => ?_) k listed hc hk i hi
    by_cases hlt : k < acc.length
    · rw [List.getD_eq_getElem?_getD, List.getElem?_append_left hlt, ← List.getD_eq_getElem?_getD] at hi
      exact ha k hlt listed hc hk' i hi
    · have : k = acc.length := by simp at hk; omega
      subst this
      rw [List.getD_eq_getElem?_getD, List.getElem?_append_right (by omega)] at hi
      simp at hi
      obtain ⟨e, h1, h2, h3⟩ := maskOf_spec hi
      have hle := hk' o h0 e h1 h2
      rcases h3 with rfl | h3
      · exact hle
      · exact ha e.on (he _ o h0 e h1 h2) listed hc (fun o' ho' e' he' hb' => hc e.on o' hle ho' e' he' hb') i h3

theorem before3_listed {ops : List Oper} {listed : Array Bool} (hc : Closed ops listed) {i : Nat} : ∀ (n j : Nat), (∀ o, ops[j]? = some o → ∀ e ∈ o.after, Region.binds .any e = true → listed.getD e.on false = true) → before3 ops i j n = true → listed.getD i false = true
  | 0, j, hj, h => by cases h
  | n + 1, j, hj, h => by
    unfold before3 at h
    split at h
    · rename_i o ho
      rw [List.any_eq_true] at h
      obtain ⟨e, he, h⟩ := h
      simp only [Bool.and_eq_true, Bool.or_eq_true] at h
      have hl := hj o ho e (by simpa using he) h.1
      rcases h.2 with h2 | h2
      · have : e.on = i := by simpa using h2
        rw [← this]; exact hl
      · exact before3_listed hc n e.on (fun o' ho' e' he' hb' => hc e.on o' hl ho' e' he' hb') h2
    · cases h
end Go.Fw
