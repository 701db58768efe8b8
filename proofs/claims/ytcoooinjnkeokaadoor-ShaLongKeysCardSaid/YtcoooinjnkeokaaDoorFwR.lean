/-
Reads of parts, slices as arrays, function values: what each operation comes to. No conditions.
-/
import Derived.Test.YtcoooinjnkeokaaDoorFwQ
namespace Go.Fw
set_option linter.unusedVariables false
set_option linter.unusedSimpArgs false
open Go.RowKit

section
variable {cx : Cx} {B : Nat} {w : World} {m : M} {H : Heap} {rd : Nat → Option Blk}

theorem ro_flat {own : Nat → Prop} {e : Sh} {xs : List D} {a : Option Addr} {css : List (List Value)} (hl : css.length = xs.length)
    (h : ∀ (i : Nat) x cs, xs[i]? = some x → css[i]? = some cs → RC w own e x cs) (hpos : 0 < e.csz)
    (hm : ∀ (i : Nat) cs (j : Nat) c, css[i]? = some cs → cs[j]? = some c → ∃ ad, a = some ad ∧ w.cell? (ad.add (i * e.csz + j)) = some c ∧ ¬ own ad.block) :
    ∀ (j : Nat) c, css.flatten[j]? = some c → ∃ ad, a = some ad ∧ w.cell? (ad.add j) = some c ∧ ¬ own ad.block := by
  have hlen := arr_lens hl h
  intro j cc hj
  have hjl := (List.getElem?_eq_some_iff.1 hj).1
  rw [len_flat, sum_const hlen] at hjl
  have hi : j / e.csz < css.length := Nat.div_lt_of_lt_mul (by rw [Nat.mul_comm]; exact hjl)
  have hc : css[j / e.csz]? = some css[j / e.csz] := List.getElem?_eq_getElem hi
  obtain ⟨f1, f2⟩ := flat_get hc
  have hll := hlen _ (List.getElem_mem hi)
  rw [sum_take_const hlen (by omega), hll] at f1 f2
  have hmod := Nat.mod_lt j hpos
  have he : j / e.csz * e.csz + j % e.csz = j := by rw [Nat.mul_comm]; exact Nat.div_add_mod j e.csz
  have h3 : (css[j / e.csz])[j % e.csz]? = some cc := by
    rw [← f1, List.getElem?_take, if_pos hmod, List.getElem?_drop, he]
    exact hj
  have := hm _ _ _ _ hc h3
  rw [he] at this
  exact this

theorem run_arrayAt {arr e : TypeId} {n : Nat} (hu : cx.P.underlying arr = some (.array n e)) {a : Option Addr} {len cap : Nat} (hn : n ≤ len) :
    (Instr.arrayAt arr (.slice a len cap)).run cx.P w = .ok (.pointer a) w := by
  have : ¬ len < n := by omega
  simp [Instr.arrayAt, run_underlying hu, this]

/-- Slices as pointers at arrays. -/
theorem arrV_sound (hx : CxOK cx) (hh : HeapOK cx B w m H) (hrd : Rd rd H) {t : TypeId} {x : V} {c : Value} {k : V → Prop} (hv : RV w m H x c)
    (hg : arrV cx rd t x k) : POK cx w m H k (Instr.arrayAt t c) := by
  obtain ⟨te, hte, hg⟩ := onS_elim hg
  cases hty : te.ty with
  | arr n e0 =>
    obtain ⟨hu, ee, hee, hsh⟩ := ty_arr hx hte hty
    rw [hty] at hg
    cases x with
    | d y =>
      cases y with
      | ro e t xs =>
        obtain ⟨hb, hg⟩ := onT_elim hg
        obtain ⟨hn, hk⟩ := onT_elim hg
        have hn : 0 < n ∧ n ≤ xs.length := by simpa using hn
        have he := Sh.beq_eq _ _ hb
        rw [hsh] at he
        cases he
        have hpos : 0 < ee.sh.csz := (hx.ty _ _ hee).pos
        obtain ⟨cs, h, hc⟩ := hv.elim rfl
        have h := h.of_d
        cases h with
        | ro _ _ _ a cap css hl hcap ht h0 hm =>
          have hc : c = .slice a xs.length cap := hc
          subst hc
          have hrun := fun a => run_arrayAt (w := w) (cx := cx) hu (a := a) (cap := cap) hn.2
          have hf := ro_flat hl h0 hpos hm
          have hlen := arr_lens hl h0
          have h00 : css[0]? = some (css[0]'(by omega)) := List.getElem?_eq_getElem (by omega)
          have hp0 : 0 < (css[0]'(by omega)).length := by rw [hlen _ (List.getElem_mem _)]; exact hpos
          obtain ⟨ad, ha, _⟩ := hm 0 _ 0 _ h00 (List.getElem?_eq_getElem hp0)
          subst ha
          refine ⟨_, .pointer (some ad), hk, hrun _, .rop_of (cs := (css.take n).flatten) ?_ fun j c hj => ?_⟩
          · refine .arr n _ _ _ (by simp [hl]) (by simp; omega) fun i x c h1 h2 => ?_
            rw [List.getElem?_take] at h1 h2
            split at h1
            · rename_i hi
              rw [if_pos hi] at h2
              exact h0 _ x c h1 h2
            · cases h1
          · rw [flat_take n hlen (by omega)] at hj
            rw [List.getElem?_take] at hj
            split at hj
            · obtain ⟨ad', ha', q⟩ := hf j c hj
              cases ha'
              exact q
            · cases hj
      | _ => exact hg.elim
    | sl b off ver =>
      obtain ⟨bk, hb, hg2⟩ := onS_elim hg
      have hl := hrd b bk hb
      cases bk with
      | fix v => exact hg2.elim
      | grow ver' e xs =>
        obtain ⟨he, hg3⟩ := onE_elim hg2
        obtain ⟨hn, hk⟩ := onT_elim hg3
        have hn : n ≤ xs.length - off := by simpa using hn
        obtain ⟨cs, h, hc⟩ := hv.elim rfl
        cases h with
        | sl _ _ _ c' ho hb' h =>
          have hc : c = c' := hc
          subst hc
          obtain ⟨hle, hor⟩ := (h ver' e xs hl).2 he
          have hmk : ∀ (q : Value), q.oneCell' = true → (0 < n → ∃ k cap, m.ι b = some (k, cap) ∧ q = .pointer (some ⟨k, off * e.csz, none⟩)) → RV w m H (.parr b off n ver) q := fun q hq h1 => by
            refine .one (.parr b off n ver) [q] (.parr b off n ver q hq hb' fun ver2 e2 xs2 hl2 => ?_)
            have := live_inj hl hl2
            cases this
            exact ⟨by omega, fun _ => ⟨by omega, h1⟩⟩
          rcases hor with ⟨hn0, rfl⟩ | ⟨kk, cap, a, hi, hcap, rfl, ha⟩
          · have hx0 : xs = [] := by
              cases hh.blk b _ hl with
              | none => rfl
              | grow ver e xs k cap cur css h1 => rw [hn0] at h1; cases h1
            subst hx0
            have : n = 0 := by simpa using hn
            exact ⟨_, _, hk, run_arrayAt hu (by omega), hmk _ rfl (fun h => by omega)⟩
          · refine ⟨_, _, hk, run_arrayAt hu hn, hmk _ rfl fun hp => ⟨kk, cap, hi, by rw [ha (by omega)]⟩⟩
    | sub b off len ver =>
      obtain ⟨bk, hb, hg2⟩ := onS_elim hg
      have hl := hrd b bk hb
      cases bk with
      | fix v => exact hg2.elim
      | grow ver' e xs =>
        obtain ⟨he, hg3⟩ := onE_elim hg2
        obtain ⟨hn, hk⟩ := onT_elim hg3
        have hn : n ≤ len := by simpa using hn
        obtain ⟨cs, h, hc⟩ := hv.elim rfl
        cases h with
        | sub _ _ _ _ c' ho hb' h =>
          have hc : c = c' := hc
          subst hc
          obtain ⟨hle, cap, a, rfl, hcl, ha⟩ := (h ver' e xs hl).2 he
          refine ⟨_, _, hk, run_arrayAt hu hn, .one (.parr b off n ver) [.pointer a] (.parr b off n ver _ rfl hb' fun ver2 e2 xs2 hl2 => ?_)⟩
          have := live_inj hl hl2
          cases this
          refine ⟨by omega, fun _ => ⟨by omega, fun hp => ?_⟩⟩
          obtain ⟨kk, cap', hi, rfl⟩ := ha (by omega)
          exact ⟨kk, cap', hi, rfl⟩
    | _ => exact hg.elim
  | _ => rw [hty] at hg; exact hg.elim

theorem nilCheck_sound {x : V} {c : Value} {k : V → Prop}
    (hg : match x with
      | .ptr b v p s => k (.ptr b v p s)
      | .rop x => k (.rop x)
      | _ => False) (hv : RV w m H x c) : ∃ a, c = .pointer (some a) ∧ k x := by
  cases x with
  | ptr b ver path s => obtain ⟨a, rfl⟩ := hv.ptr_inv; exact ⟨a, rfl, hg⟩
  | rop y => obtain ⟨a, cs, rfl, _⟩ := hv.rop_inv; exact ⟨a, rfl, hg⟩
  | _ => exact hg.elim

theorem fieldAtV_sound (hx : CxOK cx) {t : TypeId} {x : V} {c : Value} {f : Nat} {k : V → Prop} (hv : RV w m H x c) (hg : fieldAtV cx t x f k) : POK cx w m H k (Instr.fieldAt t c f) := by
  obtain ⟨te, hte, hg⟩ := onS_elim hg
  cases hty : te.ty with
  | st fs =>
    rw [hty] at hg
    cases x with
    | ptr b ver path s =>
      cases s with
      | st l =>
        obtain ⟨hb, hg⟩ := onT_elim hg
        obtain ⟨s, hs, hk⟩ := onS_elim hg
        obtain ⟨fields, fd, fe, hu, hf, ho, hfe, rfl⟩ := field_at hx hte hty (Sh.beq_eq _ _ hb) hs
        obtain ⟨a, rfl⟩ := hv.ptr_inv
        exact ⟨_, _, hk, run_fieldAt hu hf (hx.ty _ _ hfe), hv.ptr_part (q := [f]) (by simp [poff, hs, ho])⟩
      | _ => exact hg.elim
    | rop y =>
      cases y with
      | st xs =>
        obtain ⟨hb, hg⟩ := onT_elim hg
        obtain ⟨y, hy, hk⟩ := onS_elim hg
        obtain ⟨a, cs, rfl, hr, hm⟩ := hv.rop_inv
        obtain ⟨o, s, hp, hrv⟩ := rop_part (p := [f]) (y := y) hv (onS_intro hy rfl)
        simp only [D.sh, poff] at hp
        cases hs : (D.shs xs)[f]? with
        | none => rw [hs] at hp; cases hp
        | some s' =>
          rw [hs] at hp
          simp at hp
          obtain ⟨rfl, rfl⟩ := hp
          obtain ⟨fields, fd, fe, hu, hf, ho, hfe, rfl⟩ := field_at hx hte hty (Sh.beq_eq _ _ hb) hs
          exact ⟨_, _, hk, run_fieldAt hu hf (hx.ty _ _ hfe), by rw [ho]; exact hrv⟩
      | _ => exact hg.elim
    | _ => exact hg.elim
  | _ => rw [hty] at hg; exact hg.elim

theorem fieldV_sound (hx : CxOK cx) {t : TypeId} {x : V} {c : Value} {f : Nat} {k : V → Prop} (hv : RV w m H x c) (hg : fieldV cx t x f k) : POK cx w m H k (Instr.field t c f) := by
  obtain ⟨te, hte, hg⟩ := onS_elim hg
  cases hty : te.ty with
  | st fs =>
    rw [hty] at hg
    have main : ∀ {l : List Sh} {x : V} {k' : V → Prop} (hv : RV w m H x c), cellV x = true → x.sh = .st l → te.sh = .st l → getV [f] x k' → ∃ u c', k' u ∧ (Instr.field t c f).run cx.P w = .ok c' w ∧ RV w m H u c' := by
      intro l x k' hv hcv hxs hts hgv
      obtain ⟨cs, hr, rfl⟩ := hv.elim hcv
      obtain ⟨u, o, s, hk, hp, hru, hle⟩ := getV_sound [f] hr hgv
      rw [hxs] at hp
      simp only [poff] at hp
      cases hs : l[f]? with
      | none => rw [hs] at hp; cases hp
      | some s' =>
        rw [hs] at hp
        simp at hp
        obtain ⟨rfl, rfl⟩ := hp
        obtain ⟨fields, fd, fe, hu, hf, ho, hfe, rfl⟩ := field_at hx hte hty hts hs
        have hag : x.sh.agg = true := by rw [hxs]; rfl
        have hus := hru.sh_eq
        refine ⟨u, pack fe.sh ((cs.drop (Sh.cszs (l.take f))).take fe.sh.csz), hk, ?_, RCV.one_of (by rw [hus]; exact hru) (by rw [hus])⟩
        rw [pack_agg hag, run_field hu hf (hx.ty _ _ hfe) (by rw [ho]; exact hle), ho]
    cases x with
    | d y =>
      cases y with
      | st xs =>
        obtain ⟨hb, hg⟩ := onT_elim hg
        exact main (k' := k) hv rfl rfl (Sh.beq_eq _ _ hb) hg
      | _ => exact hg.elim
    | st xs =>
      obtain ⟨hb, hg⟩ := onT_elim hg
      exact main (k' := k) hv rfl rfl (Sh.beq_eq _ _ hb) hg
    | _ => exact hg.elim
  | _ => rw [hty] at hg; exact hg.elim

theorem indexV_sound (hx : CxOK cx) {t : TypeId} {x : V} {c : Value} {kd : IntKind} {i : Int} {k : V → Prop} (hv : RV w m H x c) (hg : indexV cx t x i k) : POK cx w m H k (Instr.index t c (.int kd i)) := by
  obtain ⟨te, hte, hg⟩ := onS_elim hg
  cases hty : te.ty with
  | arr n0 e0 =>
    rw [hty] at hg
    obtain ⟨hu, ee, hee, hsh⟩ := ty_arr hx hte hty
    cases x with
    | d y =>
      cases y with
      | arr n e xs =>
        obtain ⟨hb, hg⟩ := onT_elim hg
        obtain ⟨hi, hgg⟩ := onT_elim hg
        have he := Sh.beq_eq _ _ hb
        rw [hsh] at he
        cases he
        have hi : 0 ≤ i ∧ i < n0 := by simpa using hi
        obtain ⟨cs, hr, rfl⟩ := hv.elim rfl
        obtain ⟨u, o, s, hk, hp, hru, hle⟩ := getV_sound (k := k) [i.toNat] hr hgg
        simp only [V.sh, D.sh, poff] at hp
        rw [if_pos (by omega)] at hp
        simp at hp
        obtain ⟨rfl, rfl⟩ := hp
        have hus := hru.sh_eq
        refine ⟨u, pack ee.sh ((cs.drop (i.toNat * ee.sh.csz)).take ee.sh.csz), hk, ?_, RCV.one_of (by rw [hus]; exact hru) (by rw [hus])⟩
        rw [pack_agg (by rfl)]
        simp [Instr.index, asIntOf, run_underlying hu, hi.1, hi.2, (hx.ty _ _ hee).run_sizeOf w, run_part (hx.ty _ _ hee) hle]
      | _ => exact hg.elim
    | _ => exact hg.elim
  | str =>
    rw [hty] at hg
    have hu : cx.P.underlying t = some .string := by have := (hx.ty _ _ hte).under; rw [hty] at this; exact this.1
    cases x with
    | d y =>
      cases y with
      | str s =>
        obtain ⟨hi, hg⟩ := onT_elim hg
        obtain ⟨b, hb, hk⟩ := onS_elim hg
        have hi : 0 ≤ i ∧ i < s.length := by simpa using hi
        have := hv.str_inv
        subst this
        refine ⟨_, .int .u8 b.toNat, hk, ?_, .int _ _⟩
        have e : (ByteArray.mk s.toArray)[i.toNat]? = some b := by
          have h1 : i.toNat < (ByteArray.mk s.toArray).size := by simp [ByteArray.size]; omega
          rw [getElem?_pos (ByteArray.mk s.toArray) i.toNat h1]
          have := (List.getElem?_eq_some_iff.1 hb).2
          rw [← this]
          rfl
        simp [Instr.index, asIntOf, run_underlying hu, hi.1, e]
      | _ => exact hg.elim
    | _ => exact hg.elim
  | _ => rw [hty] at hg; exact hg.elim

theorem extract_sound {x : V} {c : Value} {i : Nat} {k : V → Prop}
    (hg : match x with
      | .d (.tup xs) => onS xs[i]? fun y => k (.d y)
      | .tup xs => onS xs[i]? fun y => k y
      | _ => False) (hv : RV w m H x c) : POK cx w m H k (Instr.extract c i) := by
  cases x with
  | d y =>
    cases y with
    | tup xs =>
      obtain ⟨y, hy, hk⟩ := onS_elim hg
      cases hv with
      | one _ cs h => have h := h.of_d; cases h
      | dtup _ cs hl h =>
        have hi := (List.getElem?_eq_some_iff.1 hy).1
        have hc : cs[i]? = some (cs[i]'(by omega)) := List.getElem?_eq_getElem (by omega)
        obtain ⟨cells, h1, h2⟩ := h i y _ hy hc
        refine ⟨_, _, hk, ?_, RCV.one_of (.d _ _ _ h1) h2⟩
        simp [Instr.extract, hc]
    | _ => exact hg.elim
  | tup xs =>
    obtain ⟨y, hy, hk⟩ := onS_elim hg
    cases hv with
    | one _ cs h => cases h
    | tup _ cs hl h =>
      have hi := (List.getElem?_eq_some_iff.1 hy).1
      have hc : cs[i]? = some (cs[i]'(by omega)) := List.getElem?_eq_getElem (by omega)
      refine ⟨_, _, hk, ?_, h i y _ hy hc⟩
      simp [Instr.extract, hc]
  | _ => exact hg.elim

theorem makeFunc_sound (hh : HeapOK cx B w m H) {f : FuncId} {l : List V} {cl : List Value} {k : V → Prop} (hl : cl.length = l.length) (hr : ∀ (i : Nat) v c, l[i]? = some v → cl[i]? = some c → RV w m H v c)
    (hg : onS (allD l) fun ds => onT (ds.all fun x => cellV (.d x)) (k (.d (.fn f ds)))) : POK cx w m H k (Instr.makeFunc (.func f) #[] cl.toArray) := by
  obtain ⟨ds, hd, hg⟩ := onS_elim hg
  obtain ⟨hc, hk⟩ := onT_elim hg
  rw [List.all_eq_true] at hc
  obtain ⟨css, h1, h2, rfl⟩ := allD_rc hh l cl ds hl hr hd hc
  exact ⟨_, _, hk, rfl, RV.d1 (.fn f ds css h1 h2) rfl⟩
end
end Go.Fw
