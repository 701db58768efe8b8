/-
The type table agrees with the program; loads and stores of variables, and what they do to the relation. No conditions.
-/
import Derived.Test.YtcoooinjnkeokaaDoorFwF
import Derived.Laws.Cells
namespace Go.Fw
set_option linter.unusedVariables false
set_option linter.unusedSimpArgs false
open Go.RowKit

/-- What the table says of a type holds in the program. -/
structure TyP (cx : Cx) (t : TypeId) (te : TyE) : Prop where
  info : ∃ i, cx.P.info? t = some i ∧ i.size = te.sh.csz ∧ i.bytes = te.bytes ∧ te.zero.sh = te.sh ∧ ∃ z, i.zero = some z ∧ z = pack te.sh z.cells.toList ∧ ∀ w own, RC w own te.sh te.zero z.cells.toList
  under : match te.ty with
    | .int k => cx.P.underlying t = some (.int k) ∧ te.sh = .one
    | .bool => cx.P.underlying t = some .bool ∧ te.sh = .one
    | .str => cx.P.underlying t = some .string ∧ te.sh = .one
    | .sl e => cx.P.underlying t = some (.slice e) ∧ te.sh = .one
    | .ptr e => cx.P.underlying t = some (.pointer e) ∧ te.sh = .one
    | .fn => (∃ a b c, cx.P.underlying t = some (.func a b c)) ∧ te.sh = .one
    | .tup => False
    | .arr n e => cx.P.underlying t = some (.array n e) ∧ ∃ ee, cx.ty e = some ee ∧ te.sh = .arr n ee.sh
    | .st fs => ∃ fields shs, cx.P.underlying t = some (.struct fields) ∧ cx.P.stoodInHeld t = false ∧ fields.size = fs.length ∧ te.sh = .st shs ∧ shs.length = fs.length ∧
        ∀ (i : Nat) f, fields[i]? = some f → fs[i]? = some f.type ∧ f.offset = Sh.cszs (shs.take i) ∧ f.name ≠ "_" ∧ ∃ fe, cx.ty f.type = some fe ∧ shs[i]? = some fe.sh
  pos : 0 < te.sh.csz
  bpos : 0 < te.bytes

structure CxOK (cx : Cx) : Prop where
  ty : ∀ t te, cx.ty t = some te → TyP cx t te
  deep : 20 ≤ cx.P.depth
  mixed : cx.P.follows .mixedOrders = true

def Sh.agg : Sh → Bool
  | .one => false
  | _ => true

section
variable {cx : Cx} {t : TypeId} {te : TyE} (h : TyP cx t te) (w : World)
include h

theorem TyP.run_sizeOf : (sizeOf t).run cx.P w = .ok te.sh.csz w := by
  obtain ⟨i, hi, hs, _⟩ := h.info
  simp [sizeOf, typeInfo, hi, hs]

theorem TyP.run_info : ∃ i, (typeInfo t).run cx.P w = .ok i w ∧ i.size = te.sh.csz ∧ i.bytes = te.bytes := by
  obtain ⟨i, hi, hs, hb, _⟩ := h.info
  exact ⟨i, by simp [typeInfo, hi], hs, hb⟩

theorem TyP.run_isAgg : (isAgg t).run cx.P w = .ok te.sh.agg w := by
  have hu := h.under
  have hsz := h.pos
  unfold isAgg
  cases hty : te.ty <;> simp only [hty] at hu
  case int => simp [run_underlying hu.1, hu.2, Sh.agg]
  case bool => simp [run_underlying hu.1, hu.2, Sh.agg]
  case str => simp [run_underlying hu.1, hu.2, Sh.agg]
  case sl => simp [run_underlying hu.1, hu.2, Sh.agg]
  case ptr => simp [run_underlying hu.1, hu.2, Sh.agg]
  case fn => obtain ⟨⟨a, b, c, hu⟩, hs⟩ := hu; simp [run_underlying hu, hs, Sh.agg]
  case arr => obtain ⟨hu, ee, _, hs⟩ := hu; simp [run_underlying hu, hs, Sh.agg]
  case st => obtain ⟨f, s, hu, _, _, hs, _⟩ := hu; simp [run_underlying hu, hs, Sh.agg]

theorem TyP.run_zero : ∃ z, (zeroValue t).run cx.P w = .ok z w ∧ z = pack te.sh z.cells.toList ∧ ∀ w own, RC w own te.sh te.zero z.cells.toList := by
  obtain ⟨i, hi, _, _, _, z, hz, hp, hr⟩ := h.info
  exact ⟨z, by simp [zeroValue, typeInfo, hi, hz], hp, hr⟩

theorem TyP.zero_sh : te.zero.sh = te.sh := by
  obtain ⟨i, _, _, _, hz, _⟩ := h.info
  exact hz

theorem run_load_pack {a : Addr} {cs : List Value} (hl : cs.length = te.sh.csz) (hc : ∀ (j : Nat) c, cs[j]? = some c → w.cell? (a.add j) = some c) :
    (loadVar t a).run cx.P w = .ok (pack te.sh cs) w := by
  unfold loadVar
  simp only [Sem.run_bind, h.run_isAgg w, Result.andThen_ok]
  cases hsh : te.sh with
  | one =>
    rw [hsh] at hl
    match cs, hl with
    | [c], _ =>
      have := hc 0 c rfl
      have e : a.add 0 = a := rfl
      rw [e] at this
      simp [Sh.agg, pack, load, Sem.run, this]
  | arr n e => simp only [Sh.agg, if_true, Sem.run_bind, h.run_sizeOf w, Result.andThen_ok, pack]; rw [hsh] at hl; rw [hsh, ← hl, run_loadCells_list w a cs hc]; rfl
  | st l => simp only [Sh.agg, if_true, Sem.run_bind, h.run_sizeOf w, Result.andThen_ok, pack]; rw [hsh] at hl; rw [hsh, ← hl, run_loadCells_list w a cs hc]; rfl
end

theorem pack_cells {sh : Sh} {cs : List Value} (hl : cs.length = sh.csz) (h1 : ∀ c ∈ cs, c.oneCell' = true) : (pack sh cs).cells = cs.toArray := by
  cases sh with
  | one =>
    match cs, hl with
    | [c], _ =>
      have := h1 c (by simp)
      cases c <;> first | rfl | cases this
  | arr n e => cases cs <;> rfl
  | st l => cases cs <;> rfl

theorem addr_add (k o j : Nat) : (⟨k, o, none⟩ : Addr).add j = ⟨k, o + j, none⟩ := by
  unfold Addr.add; split
  · rename_i e; subst e; rfl
  · rfl

theorem row_slice {w : World} {k o n : Nat} {cur : Array Value} (hr : Row w k cur) (j : Nat) (c : Value) (hc : ((cur.toList.drop o).take n)[j]? = some c) : w.cell? ((⟨k, o, none⟩ : Addr).add j) = some c := by
  rw [addr_add, hr.cell]
  rw [List.getElem?_take] at hc
  split at hc
  · rw [List.getElem?_drop] at hc; simpa using hc
  · cases hc

section
variable {cx : Cx} {B : Nat} {w : World} {m : M} {H : Heap} {rd : Nat → Option Blk}

/-- What an operation may read is there. -/
def Rd (rd : Nat → Option Blk) (H : Heap) : Prop := ∀ b x, rd b = some x → live H b x

theorem RCV.one_of {v : V} {c : Value} {cs : List Value} (h : RCV w m H v.sh v cs) (hc : c = pack v.sh cs) : RV w m H v c := by subst hc; exact .one v cs h

theorem RV.elim {v : V} {c : Value} (h : RV w m H v c) (hv : cellV v = true) : ∃ cs, RCV w m H v.sh v cs ∧ c = pack v.sh cs := by
  cases h with
  | one v cs h => exact ⟨cs, h, rfl⟩
  | _ => cases hv

/-- The growing blocks' first cells, as an array's. -/
theorem grow_arr {b : Nat} {ver : Nat} {e : Sh} {xs : List D} {k cap : Nat} (h : BlkOK w m H b (.grow ver e xs)) (hi : m.ι b = some (k, cap)) :
    ∃ cur, Row w k cur ∧ cur.size = cap * e.csz ∧ xs.length ≤ cap ∧ cap ≤ maxLen ∧ RC w (Own m H) (.arr xs.length e) (.arr xs.length e xs) (cur.toList.take (xs.length * e.csz)) := by
  cases h with
  | none ver e h1 => rw [hi] at h1; cases h1
  | grow ver e xs k' cap' cur css h1 h2 h3 h4 h5 h6 h7 h8 =>
    rw [hi] at h1; cases h1
    refine ⟨cur, h2, h3, h4, h5, ?_⟩
    rw [h8]
    exact .arr _ e xs css h6 rfl h7

theorem loadV_sound (hx : CxOK cx) (hh : HeapOK cx B w m H) (hrd : Rd rd H) {t : TypeId} {p : V} {c : Value} {k : V → Prop} (hp : RV w m H p c) (hg : loadV cx rd t p k) :
    ∃ u c', k u ∧ (Instr.loadAt t c).run cx.P w = .ok c' w ∧ RV w m H u c' := by
  obtain ⟨te, hte, hg⟩ := onS_elim hg
  have ht := hx.ty t te hte
  have fin : ∀ (u : V) (a : Addr) (cs : List Value), te.sh.beq u.sh = true → RCV w m H u.sh u cs → c = .pointer (some a) → (∀ (j : Nat) x, cs[j]? = some x → w.cell? (a.add j) = some x) → k u →
      ∃ u c', k u ∧ (Instr.loadAt t c).run cx.P w = .ok c' w ∧ RV w m H u c' := by
    intro u a cs hb hr hc hcs hk
    have e := Sh.beq_eq _ _ hb
    refine ⟨u, pack u.sh cs, hk, ?_, .one u cs hr⟩
    subst hc
    simp only [Instr.loadAt, Instr.sureAddr, Sem.run_bind, Sem.run_pure, Result.andThen_ok]
    rw [run_load_pack ht w (a := a) (cs := cs) (by rw [hr.len, e]) hcs, e]
  cases p with
  | rop x =>
    obtain ⟨cs, h, hc⟩ := hp.elim rfl
    cases h with
    | rop _ a cs' h hm =>
      obtain ⟨hb, hk⟩ := onT_elim hg
      exact fin (.d x) a cs' hb (.d _ _ _ h) hc (fun j c hc => (hm j c hc).1) hk
  | ptr b ver path sh =>
    obtain ⟨cs, h, hc'⟩ := hp.elim rfl
    cases h with
    | ptr _ _ _ _ a' hb h =>
      obtain ⟨hb1, hg⟩ := onT_elim hg
      obtain ⟨blk, hblk, hg⟩ := onS_elim hg
      have hl := hrd b blk hblk
      obtain ⟨hver, h⟩ := h blk hl
      have hbo := hh.blk b blk hl
      cases blk with
      | fix v =>
        obtain ⟨kk, cap, o, hi, hpo, hc⟩ := h (by simp only [Blk.ver] at hver ⊢; omega)
        cases hbo with
        | fix v k' cap' cur h1 h2 h3 =>
          rw [hi] at h1; cases h1
          obtain ⟨u, o', s', hk, hp', hu, hle⟩ := getV_sound path h3 hg
          simp only [Blk.bsh] at hpo
          rw [hpo] at hp'; cases hp'
          have he := hu.sh_eq
          subst he
          exact fin u _ _ hb1 hu (hc'.trans (by rw [hc]; rfl)) (row_slice h2) hk
      | grow ver' e xs =>
        obtain ⟨hev, hg⟩ := onE_elim hg
        obtain ⟨kk, cap, o, hi, hpo, hc⟩ := h hev
        obtain ⟨cur, hr, hs, hcap, hm, hra⟩ := grow_arr hbo hi
        cases path with
        | nil => exact hg.elim
        | cons i p =>
          obtain ⟨y, o', s', hk, hp', hy, hle⟩ := getD_sound (k := fun y => k (.d y)) (i :: p) hra hg
          simp only [Blk.bsh] at hpo
          rw [hpo] at hp'; cases hp'
          have he := hy.sh_eq
          subst he
          rw [List.length_take] at hle
          refine fin (.d y) _ _ hb1 (.d _ _ _ hy) (hc'.trans (by rw [hc]; rfl)) (fun j x hx => ?_) hk
          rw [List.drop_take, List.take_take] at hx
          exact row_slice hr j x hx
  | parr b off n ver =>
    obtain ⟨cs, h, hc'⟩ := hp.elim rfl
    cases h with
    | parr _ _ _ _ c' ho hb h =>
      obtain ⟨blk, hblk, hg⟩ := onS_elim hg
      have hl := hrd b blk hblk
      cases blk with
      | fix v => exact hg.elim
      | grow ver' e xs =>
        obtain ⟨hev, hg⟩ := onE_elim hg
        obtain ⟨hb1, hk⟩ := onT_elim hg
        obtain ⟨hle, h⟩ := (h ver' e xs hl).2 hev
        have hbo := hh.blk b _ hl
        have hn : 0 < n := by
          rcases Nat.eq_zero_or_pos n with e0 | e0
          · have e1 := Sh.beq_eq _ _ hb1
            have := ht.pos
            rw [e1, e0] at this; simp [Sh.csz] at this
          · exact e0
        obtain ⟨kk, cap, hi, hc⟩ := h hn
        obtain ⟨cur, hr, hs, hcap, hm, hra⟩ := grow_arr hbo hi
        refine fin (.d (.arr n e ((xs.drop off).take n))) _ _ hb1 (.d _ _ _ (hra.sub hle)) (hc'.trans hc) (fun j x hx => ?_) hk
        rw [List.drop_take, List.take_take] at hx
        exact row_slice hr j x hx
  | _ => exact hg.elim

theorem below_row {k : Nat} {c : Array Value} (h : B ≤ k) : Below B w (w.setRow k c) :=
  ⟨rfl, rfl, rfl, by simp [World.setRow], fun i hi => setRow_other w k i c (by omega)⟩

theorem run_store_pack {t : TypeId} {te : TyE} (ht : TyP cx t te) {sh : Sh} (he : te.sh = sh) {kk o : Nat} {cur : Array Value} {ys : List Value} (hr : Row w kk cur) (hl : ys.length = sh.csz) (h1 : ∀ c ∈ ys, c.oneCell' = true) (hle : o + ys.length ≤ cur.size) :
    (Instr.storeAt t (.pointer (some ⟨kk, o, none⟩)) (pack sh ys)).run cx.P w = .ok () (w.setRow kk (cur.toList.take o ++ ys ++ cur.toList.drop (o + ys.length)).toArray) := by
  obtain ⟨tt, hr⟩ := hr
  have hs := run_storeCells_at cx.P kk o tt ys 0 cur w hr (by simpa using hle) h1
  simp only [Nat.add_zero] at hs
  simp only [Instr.storeAt, Instr.sureAddr, storeVar, Sem.run_bind, Sem.run_pure, Result.andThen_ok, ht.run_sizeOf w, pack_cells hl h1]
  rw [if_neg (by simp [hl, he])]
  simpa using hs

theorem storeV_sound (hx : CxOK cx) (hh : HeapOK cx B w m H) (hrd : Rd rd H) {t : TypeId} {p u : V} {c cu : Value} {k : Eff → Prop} (hp : RV w m H p c) (hu : RV w m H u cu) (hg : storeV cx rd t p u k) :
    ∃ b x' w', k [(b, some x')] ∧ (Instr.storeAt t c cu).run cx.P w = .ok () w' ∧ Keep w m H w' m (H.set b (some x')) ∧ HeapOK cx B w' m (H.set b (some x')) ∧ Below B w w' := by
  obtain ⟨te, hte, hg⟩ := onS_elim hg
  have ht := hx.ty t te hte
  obtain ⟨hcv, hg⟩ := onT_elim hg
  obtain ⟨hb1, hg⟩ := onT_elim hg
  have he := Sh.beq_eq _ _ hb1
  obtain ⟨ys, hys, hcu⟩ := hu.elim hcv
  cases p with
  | ptr b ver path sh =>
    obtain ⟨cs, h, hc'⟩ := hp.elim rfl
    cases h with
    | ptr _ _ _ _ a' hb h =>
      obtain ⟨blk, hblk, hg⟩ := onS_elim hg
      have hl := hrd b blk hblk
      obtain ⟨hver, h⟩ := h blk hl
      have hbo := hh.blk b blk hl
      cases blk with
      | fix v =>
        obtain ⟨kk, cap, o, hi, hpo, hc⟩ := h (by simp only [Blk.ver] at hver ⊢; omega)
        cases hbo with
        | fix v k' cap' cur h1 h2 h3 =>
          rw [hi] at h1; cases h1
          obtain ⟨z, o', hk, hp', hz, hle⟩ := setV_sound hys path h3 hg
          simp only [Blk.bsh] at hpo
          rw [hpo] at hp'; cases hp'
          have hsh : z.sh = v.sh := hz.sh_eq
          have hbk : BK m m b (.fix v) (.fix z) := .fix _ _ hsh rfl
          refine ⟨b, .fix z, w.setRow kk (cur.toList.take o ++ ys ++ cur.toList.drop (o + ys.length)).toArray, hk, ?_, keep_set hl hi hbk, heap_set hh hl hi hbk ?_, below_row (hh.lo b _ kk cap hl hi)⟩
          · rw [hc', hcu, hc]
            exact run_store_pack ht he h2 hys.len hys.one hle
          · refine .fix z kk cap _ hi (row_setRow_self h2) ?_
            rw [hsh]
            exact RCV.keep (keep_set hl hi hbk) (by simpa using hz)
      | grow ver' e xs =>
        obtain ⟨hev, hg⟩ := onE_elim hg
        obtain ⟨kk, cap, o, hi, hpo, hc⟩ := h hev
        obtain ⟨cur, hr, hs, hcap, hm, hra⟩ := grow_arr hbo hi
        cases path with
        | nil => exact hg.elim
        | cons i p =>
          cases u with
          | d y =>
            obtain ⟨z, o', hk, hp', hz, hle⟩ := setD_sound hys.of_d (i :: p) hra hg
            simp only [Blk.bsh] at hpo
            rw [show V.sh (.d y) = y.sh from rfl] at *
            rw [hpo] at hp'; cases hp'
            generalize hq : (cur.toList.take (xs.length * e.csz)).take o ++ ys ++ (cur.toList.take (xs.length * e.csz)).drop (o + ys.length) = q at hz
            cases hz with
            | arr _ _ xs' css hl2 hn2 h2 =>
              have hbk : BK m m b (.grow ver' e xs) (.grow ver' e xs') := .grow _ _ _ _ hn2 rfl
              have hcl : cur.toList.length = cur.size := by simp
              have hle' : o + ys.length ≤ cur.size := by rw [List.length_take] at hle; omega
              refine ⟨b, .grow ver' e xs', w.setRow kk (cur.toList.take o ++ ys ++ cur.toList.drop (o + ys.length)).toArray, hk, ?_, keep_set hl hi hbk, heap_set hh hl hi hbk ?_, below_row (hh.lo b _ kk cap hl hi)⟩
              · rw [hc', hcu, hc]
                exact run_store_pack ht he hr hys.len hys.one hle'
              · refine .grow ver' e xs' kk cap _ css hi (row_setRow_self hr) ?_ (by omega) hm hl2 (fun i x cs a b' => (h2 i x cs a b').mono (keep_set hl hi hbk).cell) ?_
                · rw [← hs]; simp; omega
                · have hxe : xs.length * e.csz ≤ cur.size := by rw [hs]; exact Nat.mul_le_mul_right _ hcap
                  rw [List.length_take, hcl] at hle
                  rw [hn2, ← hq]
                  rw [take_splice _ _ _ _ (by omega) (by omega)]
            | _ => exact hk.elim
          | _ => exact hg.elim
  | _ => exact hg.elim
end

end Go.Fw
