/-
Zeros appended to a slice of the call's own: append of a made slice. No conditions.
-/
import Derived.Test.YtcoooinjnkeokaaDoorFwN
namespace Go.Fw
set_option linter.unusedVariables false
set_option linter.unusedSimpArgs false
open Go.RowKit

section
variable {cx : Cx} {B : Nat} {w : World} {m : M} {H : Heap} {rd : Nat → Option Blk}

theorem zero_flat (z : Array Value) (n : Nat) : (Builtin.zeroCells z n).toList = (List.replicate n z.toList).flatten := by
  have : Builtin.zeroCells z n = madeCells z (n * z.size) := rfl
  rw [this, made_flat]
theorem wrap_self {n : Nat} (h : n ≤ room) : IntKind.i64.wrap (n : Int) = n := by
  unfold room at h
  simp [IntKind.wrap, IntKind.signed, IntKind.bits]
  omega

theorem run_appendZ_same {t ti ty e : TypeId} {ee : TyE} (hu : cx.P.underlying t = some (.slice e)) (hui : cx.P.underlying ti = some (.int .i64)) (hee : TyP cx e ee) {a0 : Option Addr} {n cap : Nat} (hn : n ≤ cap) :
    (Builtin.append_ #[t, ti] ty #[.slice a0 n cap, .int .i64 (0 : Nat)]).run cx.P w = .ok (.slice a0 n cap) w := by
  obtain ⟨i, hi, his, _⟩ := hee.info
  have hw : IntKind.i64.wrap 0 = 0 := by decide
  cases a0 <;> simp [Builtin.append_, run_underlying hu, run_underlying hui, sizeOf, typeInfo, hi, his, asInt, asIntOf, hn, storeCells, hw]

theorem run_appendZ_in {t ti ty e : TypeId} {ee : TyE} (hu : cx.P.underlying t = some (.slice e)) (hui : cx.P.underlying ti = some (.int .i64)) (hee : TyP cx e ee) {g n cap : Nat} {cur : Array Value} (hr : Row w g cur)
    {mm : Nat} {i : TypeInfo} {z : Value} (hi : cx.P.info? e = some i) (hz : i.zero = some z) (hzs : z.cells.size = ee.sh.csz) (his : i.size = ee.sh.csz) (h1 : ∀ u ∈ (Builtin.zeroCells z.cells mm).toList, u.oneCell' = true)
    (hb : mm * i.bytes ≤ room) (hroom : n + mm ≤ cap) (hmm : mm ≤ room) (hfit : n * ee.sh.csz + (Builtin.zeroCells z.cells mm).toList.length ≤ cur.size) :
    (Builtin.append_ #[t, ti] ty #[.slice (some ⟨g, 0, none⟩) n cap, .int .i64 (mm : Nat)]).run cx.P w =
      .ok (.slice (some ⟨g, 0, none⟩) (n + mm) cap) (w.setRow g (cur.toList.take (n * ee.sh.csz) ++ (Builtin.zeroCells z.cells mm).toList ++ cur.toList.drop (n * ee.sh.csz + (Builtin.zeroCells z.cells mm).toList.length)).toArray) := by
  obtain ⟨tt, hr⟩ := hr
  have hst := run_storeCells_at cx.P g (n * ee.sh.csz) tt (Builtin.zeroCells z.cells mm).toList 0 cur w hr (by simpa using hfit) h1
  simp only [Nat.add_zero] at hst
  have hw := wrap_self hmm
  have hp := hee.pos
  have hb' : ¬ (281474976710656 < (mm : Int) * (i.bytes : Int)) := by
    unfold room at hb
    rw [← Int.natCast_mul]
    omega
  have hlt : ¬ ((mm : Int) < 0) := by omega
  simp [Builtin.append_, run_underlying hu, run_underlying hui, sizeOf, typeInfo, zeroValue, hi, his, hz, asInt, asIntOf, hroom, Addr.add_lit, hst, hw, hb', hlt]
  intro h
  have hm0 : mm = 0 := by
    rcases Nat.eq_zero_or_pos mm with h0 | h0
    · exact h0
    · exact absurd (Nat.mul_pos h0 hp) (by omega)
  subst hm0
  have hz0 : (Builtin.zeroCells z.cells 0) = #[] := by simp [Builtin.zeroCells]
  rw [hz0]
  simp [storeCells]
  exact (setRow_self w g cur tt (0, 0) hr).symm

theorem run_appendZ_grow {t ti ty e : TypeId} {ee : TyE} (hu : cx.P.underlying t = some (.slice e)) (hui : cx.P.underlying ti = some (.int .i64)) (hee : TyP cx e ee)
    {i : TypeInfo} {z : Value} (hi : cx.P.info? e = some i) (hz : i.zero = some z) (his : i.size = ee.sh.csz) (base : Option Addr) (sLen sCap : Nat) (olds : List Value)
    (hold : (Builtin.firstCells i.size sLen (.slice base sLen sCap)).run cx.P w.drew = .ok olds.toArray w.drew) {n : Nat} (h0 : 0 < n) (hn : n ≤ room) (hb : n * i.bytes ≤ room)
    (hg : sCap < sLen + n) (h63 : ((sLen + n : Nat) : Int) ≤ 9223372036854775807) (hfit : Builtin.nextslicecap (sLen + n) sCap * i.bytes ≤ 281474976710656) :
    (Builtin.append_ #[t, ti] ty #[.slice base sLen sCap, .int .i64 (n : Nat)]).run cx.P w =
      .ok (.slice (some ⟨w.heap.size, 0, none⟩) (sLen + n) (grownCap w (sLen + n) sCap e))
        (w.drew.alloc (.cells (olds.toArray ++ (Builtin.zeroCells z.cells n).toList.toArray ++ Builtin.zeroCells z.cells (grownCap w (sLen + n) sCap e - (sLen + n))) e)) := by
  have hn' : ¬ (sLen + n ≤ sCap) := by omega
  have h63' : ¬ (9223372036854775807 < ((sLen : Int) + (n : Int))) := by omega
  have h48' : ¬ (281474976710656 < Builtin.nextslicecap (sLen + n) sCap * i.bytes) := by omega
  have hw := wrap_self hn
  have hp := hee.pos
  have hb' : ¬ (281474976710656 < (n : Int) * (i.bytes : Int)) := by
    unfold room at hb
    rw [← Int.natCast_mul]
    omega
  have hlt : ¬ ((n : Int) < 0) := by omega
  have hne : ¬ (n * ee.sh.csz = 0) := by have := Nat.mul_pos h0 hp; omega
  have hmx : max (n : Int) 0 = n := by omega
  rw [his] at hold
  simp [Builtin.append_, run_underlying hu, run_underlying hui, sizeOf, typeInfo, zeroValue, hi, his, hz, asInt, asIntOf, hn', h63', h48', hw, hb', hlt, hne, hmx, Question.forced, hold, newRow, grownCap]

theorem append_ownZ (hx : CxOK cx) (hh : HeapOK cx B w m H) {slot b ver : Nat} {t ti ty e : TypeId} {te ee : TyE} (hte : cx.ty t = some te) (hty : te.ty = .sl e) (hui : cx.P.underlying ti = some (.int .i64)) (hee : cx.ty e = some ee)
    {xs : List D} {nz : Nat} (hlb : live H b (.grow ver ee.sh xs)) {d : Value} (hd : RV w m H (.sl b 0 ver) d) (hroom : (xs.length + nz) * ee.bytes ≤ room) (h63 : xs.length + nz ≤ 9223372036854775807)
    {k : V → Eff → Prop} (hk : k (.sl b 0 (ver + 1)) [(b, some (.grow (ver + 1) ee.sh (xs ++ List.replicate nz ee.zero)))]) :
    OpRes cx B w m H slot k (Builtin.append_ #[t, ti] ty #[d, .int .i64 (nz : Nat)]) := by
  have hu := ty_sl hx hte hty
  have hte' := hx.ty _ _ hee
  obtain ⟨i, hi, his, hib, _, z, hz, hzp, hzr⟩ := hte'.info
  have hzr := hzr w (Own m H)
  have hzs : z.cells.size = ee.sh.csz := by simpa using hzr.len
  have hpb := hte'.bpos
  have hnr : nz ≤ room := Nat.le_trans (Nat.le_trans (Nat.le_add_left _ _) (Nat.le_mul_of_pos_right _ hpb)) hroom
  have hnb : nz * i.bytes ≤ room := by rw [hib]; exact Nat.le_trans (Nat.mul_le_mul_right _ (Nat.le_add_left _ _)) hroom
  obtain ⟨ys, hys⟩ : ∃ ys, ys = List.replicate nz ee.zero := ⟨_, rfl⟩
  obtain ⟨dss, hds⟩ : ∃ dss, dss = List.replicate nz z.cells.toList := ⟨_, rfl⟩
  have hyl : ys.length = nz := by rw [hys]; simp
  have hl2 : dss.length = ys.length := by rw [hyl, hds]; simp
  have hrc2 : ∀ (i : Nat) x cs, ys[i]? = some x → dss[i]? = some cs → RC w (Own m H) ee.sh x cs := by rw [hys, hds]; exact rep_css hzr nz
  have hzf : (Builtin.zeroCells z.cells nz).toList = dss.flatten := by rw [hds]; exact zero_flat _ _
  have hfl2 : dss.flatten.length = nz * ee.sh.csz := by rw [← hzf, Array.length_toList, size_zeroCells, hzs]
  have hone2 : ∀ u ∈ dss.flatten, u.oneCell' = true := fun u hu' => by
    obtain ⟨l, hl', hc⟩ := List.mem_flatten.1 hu'
    rw [hds, List.mem_replicate] at hl'
    rw [hl'.2] at hc
    exact hzr.one u hc
  rw [← hys] at hk
  clear hys hds
  subst hyl
  have hlt := live_lt hlb
  have hbb := hh.born b _ hlb
  obtain ⟨cs, h, hc⟩ := hd.elim rfl
  cases h with
  | sl _ _ _ c' ho _ h =>
    have hc : d = c' := hc
    subst hc
    obtain ⟨_, h⟩ := h ver _ xs hlb
    obtain ⟨_, h⟩ := h rfl
    rcases h with ⟨hn, rfl⟩ | ⟨kk, cap, ad0, hi2, hcap, rfl, ha⟩
    · -- nothing there yet
      have hx0 : xs = [] := by
        cases hh.blk b _ hlb with
        | none => rfl
        | grow ver e xs k cap cur css h1 => rw [hn] at h1; cases h1
      subst hx0
      rcases Nat.eq_zero_or_pos ys.length with hz0 | hz0
      · have hy0 : ys = [] := List.eq_nil_of_length_eq_zero hz0
        subst hy0
        refine ⟨_, _, .slice none 0 0, w, m, hk, ?_, keep_none hlb (by omega), heap_none hh hlb (by omega) hn, ?_, Below.refl B w, fun b h => .inl h⟩
        · exact run_appendZ_same hu hui hte' (Nat.le_refl _)
        · refine .one_cell (.sl b 0 (ver + 1) _ rfl hbb fun ver' e' xs' hx' => ?_) rfl
          have := live_inj (live_set_self hlt) hx'
          cases this
          exact ⟨Nat.le_refl _, fun _ => ⟨Nat.zero_le _, .inl ⟨hn, rfl⟩⟩⟩
      · simp only [List.length_nil, Nat.zero_add] at hroom h63
        have hrun := run_appendZ_grow (ty := ty) (w := w) hu hui hte' hi hz his none 0 0 [] (by simp [Builtin.firstCells]) hz0 hnr hnb (by omega) (by omega) (growslice_fits (by omega) (by rw [hib, Nat.zero_add]; exact hroom))
        rw [hzf] at hrun
        obtain ⟨g1, g2, g3, g4⟩ := grown_row (w := w) hte' hzs (olds := []) (news := dss.flatten) (n := ys.length) (old := 0) (by simpa using hfl2) (by unfold maxLen; omega)
        simp only [Nat.zero_add] at hrun
        simp only [List.nil_append] at hk g4
        exact append_re hh hlb hk hrun hl2 hrc2 g1 g2 g3 g4
    · cases hh.blk b _ hlb with
      | none ver e h1 => rw [hi2] at h1; cases h1
      | grow _ _ _ k' cap' cur css h1 hr hsz hcap' hm hl1 hrc1 ht1 =>
        rw [hi2] at h1; cases h1
        obtain ⟨r1, r2, r3, r4⟩ := append_row hl1 hrc1 hl2 hrc2
        have hcl : cur.toList.length = cur.size := by simp
        have hnew : (xs ++ ys).length = xs.length + ys.length := by simp
        by_cases hin : xs.length + ys.length ≤ cap
        · -- within the room
          have ha : ad0 = some ⟨kk, 0, none⟩ ∨ cap = 0 := by
            rcases Nat.eq_zero_or_pos cap with h | h
            · exact .inr h
            · have := ha h; simp at this; exact .inl this
          rcases ha with rfl | hcap0
          · have hfit : xs.length * ee.sh.csz + dss.flatten.length ≤ cur.size := by rw [r4, hsz, ← Nat.add_mul]; exact Nat.mul_le_mul_right _ hin
            have hrun := run_appendZ_in (w := w) (ty := ty) (n := xs.length) (cap := cap) hu hui hte' hr hi hz hzs his (by rw [hzf]; exact hone2) hnb (by omega) hnr (by rw [hzf]; exact hfit)
            rw [hzf] at hrun
            have hbk : BK m m b (.grow ver ee.sh xs) (.grow (ver + 1) ee.sh (xs ++ ys)) := .later _ _ _ _ _ _ (by omega)
            refine ⟨_, _, _, _, m, hk, hrun, keep_set hlb hi2 hbk, heap_set hh hlb hi2 hbk ?_, ?_, below_row (hh.lo b _ kk cap hlb hi2), fun i hi => .inl hi⟩
            · refine .grow (ver + 1) ee.sh (xs ++ ys) kk cap _ (css ++ dss) hi2 (row_setRow_self hr) ?_ (by omega) hm r1 (fun i x cs a b' => (r2 i x cs a b').mono (keep_set hlb hi2 hbk).cell) ?_
              · rw [← hsz]; simp only [List.size_toArray, List.length_append, List.length_take, List.length_drop, hcl]; omega
              · rw [hnew, List.flatten_append, ← ht1, Nat.add_mul, ← r4]
                have e1 : (cur.toList.take (xs.length * ee.sh.csz) ++ dss.flatten).length = xs.length * ee.sh.csz + dss.flatten.length := by
                  rw [List.length_append, List.length_take, hcl, Nat.min_eq_left (by omega)]
                rw [← e1]
                exact List.take_left
            · refine .one_cell (.sl b 0 (ver + 1) _ rfl hbb fun ver' e' xs' hx => ?_) rfl
              have := live_inj (live_set_self hlt) hx
              cases this
              exact ⟨Nat.le_refl _, fun _ => ⟨Nat.zero_le _, .inr ⟨kk, cap, _, hi2, by omega, by rw [hnew]; rfl, fun _ => by simp⟩⟩⟩
          · -- no room and nothing appended
            have hx0 : xs = [] := List.eq_nil_of_length_eq_zero (by omega)
            have hy0 : ys = [] := List.eq_nil_of_length_eq_zero (by omega)
            subst hx0; subst hy0
            subst hcap0
            have hbk : BK m m b (.grow ver ee.sh []) (.grow (ver + 1) ee.sh ([] ++ [])) := .later _ _ _ _ _ _ (by omega)
            have hself : w.setRow kk cur = w := by obtain ⟨tt, hrt⟩ := hr; exact setRow_self w kk cur tt (0, 0) hrt
            have kset : Keep w m H (w.setRow kk cur) m (H.set b (some (.grow (ver + 1) ee.sh ([] ++ [])))) := keep_set hlb hi2 hbk
            have hset : HeapOK cx B (w.setRow kk cur) m (H.set b (some (.grow (ver + 1) ee.sh ([] ++ [])))) := heap_set hh hlb hi2 hbk (.grow (ver + 1) ee.sh _ kk 0 cur [] hi2 (row_setRow_self hr) hsz (by simp) (by simp) (by simp) (fun i x cs a => by simp at a) (by simp))
            rw [hself] at kset hset
            refine ⟨_, _, .slice ad0 0 0, w, m, hk, ?_, kset, hset, ?_, Below.refl B w, fun i hi => .inl hi⟩
            · exact run_appendZ_same hu hui hte' (Nat.le_refl _)
            · refine .one_cell (.sl b 0 (ver + 1) _ rfl hbb fun ver' e' xs' hx => ?_) rfl
              have := live_inj (live_set_self hlt) hx
              cases this
              exact ⟨Nat.le_refl _, fun _ => ⟨Nat.zero_le _, .inr ⟨kk, 0, _, hi2, by simp, rfl, fun h => by omega⟩⟩⟩
        · -- beyond it
          have hy0 : 0 < ys.length := by omega
          obtain ⟨g1, g2, g3, g4⟩ := grown_row (w := w) hte' hzs (olds := css.flatten) (news := dss.flatten) (n := (xs ++ ys).length) (old := cap) (by rw [r3, r4, hnew, Nat.add_mul]) (by rw [hnew]; unfold maxLen; omega)
          rw [← List.flatten_append] at g4
          have hold : (Builtin.firstCells i.size xs.length (.slice ad0 xs.length cap)).run cx.P w.drew = .ok css.flatten.toArray w.drew := by
            rcases Nat.eq_zero_or_pos cap with hcap0 | hcap0
            · have hx0 : xs = [] := List.eq_nil_of_length_eq_zero (by omega)
              subst hx0
              have hcs : css = [] := List.eq_nil_of_length_eq_zero (by simpa using hl1)
              subst hcs
              cases ad0 <;> simp [Builtin.firstCells, loadCells, loadCellsFrom]
            · have ha := ha hcap0
              subst ha
              refine run_firstCells_some (P := cx.P) w.drew i.size xs.length _ xs.length cap css.flatten (by rw [his]; exact r3) (fun j v hj => ?_)
              show w.cell? _ = _
              rw [← ht1] at hj
              rw [addr_add, hr.cell]
              rw [List.getElem?_take] at hj
              split at hj
              · simpa using hj
              · cases hj
          have hrun := run_appendZ_grow (ty := ty) (w := w) hu hui hte' hi hz his ad0 xs.length cap css.flatten hold (by omega) hnr hnb (by omega) (by omega) (growslice_fits (by omega) (by rw [hib]; exact hroom))
          rw [hzf] at hrun
          rw [← hnew] at hrun
          exact append_re hh hlb hk hrun r1 r2 g1 g2 g3 g4

theorem appendZ_sound (hx : CxOK cx) (hh : HeapOK cx B w m H) (hrd : Rd rd H) {slot : Nat} {t ti ty e : TypeId} {te ee te' : TyE} (hte : cx.ty t = some te) (hty : te.ty = .sl e) (hee : cx.ty e = some ee) (hti : cx.ty ti = some te') (hti' : te'.ty = .int .i64)
    {dst src : V} {d c : Value} {k : V → Eff → Prop} (hd : RV w m H dst d) (hc : RV w m H src c) (hg : appendZ rd ee.sh ee.bytes ee.zero dst src k) : OpRes cx B w m H slot k (Builtin.append_ #[t, ti] ty #[d, c]) := by
  have hui := (hx.ty _ _ hti).under
  rw [hti'] at hui
  cases dst with
  | sl b off ver =>
    cases src with
    | d x =>
      cases x with
      | int kk n =>
        cases kk with
        | i64 =>
          have := hc.int_inv
          subst this
          obtain ⟨blk, hbl, hg⟩ := onS_elim hg
          cases blk with
          | fix v => exact hg.elim
          | grow ver' e' xs =>
            obtain ⟨hev, hg1⟩ := onE_elim hg
            obtain ⟨hbe, hg2⟩ := onT_elim hg1
            obtain ⟨ho, hg3⟩ := onE_elim hg2
            obtain ⟨hr, hk⟩ := onT_elim hg3
            have he := Sh.beq_eq _ _ hbe
            subst he; subst ho; subst hev
            have hr := of_decide_eq_true hr
            obtain ⟨nn, rfl⟩ := Int.eq_ofNat_of_zero_le hr.1
            have h2 : (xs.length + nn) * ee.bytes ≤ room := hr.2
            have h63 : xs.length + nn ≤ 9223372036854775807 := by
              have := Nat.le_trans (Nat.le_mul_of_pos_right (xs.length + nn) (hx.ty _ _ hee).bpos) h2
              unfold room at this; omega
            exact append_ownZ hx hh hte hty hui.1 hee (hrd b _ hbl) hd h2 h63 hk
        | _ => exact hg.elim
      | _ => exact hg.elim
    | _ => exact hg.elim
  | _ => exact hg.elim

end
end Go.Fw
