/-
Operations that compute a value and change nothing: addresses, parts, slices, lengths, arithmetic. No conditions.
-/
import Derived.Test.YtcoooinjnkeokaaDoorFwH
namespace Go.Fw
set_option linter.unusedVariables false
set_option linter.unusedSimpArgs false
open Go.RowKit

/-- The operation yields a value that our predicate lets in, and leaves the world alone. -/
def POK (cx : Cx) (w : World) (m : M) (H : Heap) (k : V → Prop) (S : Sem Value) : Prop := ∃ v c, k v ∧ S.run cx.P w = .ok c w ∧ RV w m H v c

section
variable {cx : Cx} {B : Nat} {w : World} {m : M} {H : Heap} {rd : Nat → Option Blk}

theorem RV.d1 {x : D} {c : Value} (h : RC w (Own m H) .one x [c]) (hs : x.sh = .one) : RV w m H (.d x) c := by
  have := RV.one (m := m) (H := H) (.d x) [c] (by rw [show V.sh (.d x) = x.sh from rfl, hs]; exact .d _ _ _ h)
  rw [show V.sh (.d x) = x.sh from rfl, hs] at this
  exact this

theorem RV.int (k : IntKind) (n : Int) : RV w m H (.d (.int k n)) (.int k n) := .d1 (.int k n) rfl
theorem RV.bool (b : Bool) : RV w m H (.d (.bool b)) (.bool b) := .d1 (.bool b) rfl
theorem RV.str (l : List UInt8) : RV w m H (.d (.str l)) (.string ⟨l.toArray⟩) := .d1 (.str l) rfl

theorem RV.int_inv {k : IntKind} {n : Int} {c : Value} (h : RV w m H (.d (.int k n)) c) : c = .int k n := by
  obtain ⟨cs, h, hc⟩ := h.elim rfl
  have h := h.of_d
  cases h; exact hc
theorem RV.bool_inv {b : Bool} {c : Value} (h : RV w m H (.d (.bool b)) c) : c = .bool b := by
  obtain ⟨cs, h, hc⟩ := h.elim rfl
  have h := h.of_d
  cases h; exact hc
theorem RV.str_inv {l : List UInt8} {c : Value} (h : RV w m H (.d (.str l)) c) : c = .string ⟨l.toArray⟩ := by
  obtain ⟨cs, h, hc⟩ := h.elim rfl
  have h := h.of_d
  cases h; exact hc
theorem RV.nils_inv {c : Value} (h : RV w m H (.d .nils) c) : c = .slice none 0 0 := by
  obtain ⟨cs, h, hc⟩ := h.elim rfl
  have h := h.of_d
  cases h; exact hc

theorem asI_elim {v : V} {c : Value} {k : IntKind → Int → Prop} (hv : RV w m H v c) (h : asI v k) : ∃ a n, v = .d (.int a n) ∧ c = .int a n ∧ k a n := by
  unfold asI at h
  split at h
  · rename_i a n; exact ⟨a, n, rfl, hv.int_inv, h⟩
  · exact h.elim

theorem asB_elim {v : V} {c : Value} {k : Bool → Prop} (hv : RV w m H v c) (h : asB v k) : ∃ b, v = .d (.bool b) ∧ c = .bool b ∧ k b := by
  unfold asB at h
  split at h
  · rename_i b; exact ⟨b, rfl, hv.bool_inv, h⟩
  · exact h.elim

theorem RV.rop_of {x : D} {a : Addr} {cs : List Value} (h : RC w (Own m H) x.sh x cs) (hm : ∀ (j : Nat) c, cs[j]? = some c → w.cell? (a.add j) = some c ∧ ¬ Own m H a.block) : RV w m H (.rop x) (.pointer (some a)) :=
  .one (.rop x) [.pointer (some a)] (.rop x a cs h hm)

theorem poff_append : ∀ (p q : List Nat) (s : Sh) {o : Nat} {s1 : Sh} {o2 : Nat} {s2 : Sh}, poff s p = some (o, s1) → poff s1 q = some (o2, s2) → poff s (p ++ q) = some (o + o2, s2)
  | [], q, s, o, s1, o2, s2, h, h2 => by simp [poff] at h; obtain ⟨rfl, rfl⟩ := h; simpa using h2
  | i :: p, q, .one, o, s1, o2, s2, h, h2 => by simp [poff] at h
  | i :: p, q, .arr n e, o, s1, o2, s2, h, h2 => by
    simp only [poff] at h
    split at h
    · rename_i hi
      simp only [Option.map_eq_some_iff, Prod.mk.injEq] at h
      obtain ⟨⟨o', s'⟩, hp, rfl, rfl⟩ := h
      simp only [List.cons_append, poff, if_pos hi, poff_append p q e hp h2, Option.map_some, Option.some.injEq, Prod.mk.injEq, and_true]
      omega
    · cases h
  | i :: p, q, .st l, o, s1, o2, s2, h, h2 => by
    simp only [poff] at h
    split at h
    · rename_i s hs
      simp only [Option.map_eq_some_iff, Prod.mk.injEq] at h
      obtain ⟨⟨o', s'⟩, hp, rfl, rfl⟩ := h
      simp only [List.cons_append, poff, hs, poff_append p q s hp h2, Option.map_some, Option.some.injEq, Prod.mk.injEq, and_true]
      omega
    · cases h

/-- The address of a part of what a pointer points at. -/
theorem RV.ptr_part {b ver : Nat} {path : List Nat} {s : Sh} {a : Addr} (hv : RV w m H (.ptr b ver path s) (.pointer (some a))) {q : List Nat} {o2 : Nat} {s2 : Sh} (h : poff s q = some (o2, s2)) :
    RV w m H (.ptr b ver (path ++ q) s2) (.pointer (some (a.add o2))) := by
  obtain ⟨cs, hr, hc⟩ := hv.elim rfl
  cases hr with
  | ptr _ _ _ _ a1 hb h1 =>
    have hc2 : Value.pointer (some a) = .pointer (some a1) := hc
    cases hc2
    refine .one (.ptr b ver (path ++ q) s2) [.pointer (some (a.add o2))] (.ptr b ver _ _ _ hb fun x hx => ⟨(h1 x hx).1, fun e => ?_⟩)
    obtain ⟨k, cap, o, hi, hp, rfl⟩ := (h1 x hx).2 e
    exact ⟨k, cap, o + o2, hi, poff_append _ _ _ hp h, by rw [addr_add]⟩

theorem RV.ptr_inv {b ver : Nat} {path : List Nat} {s : Sh} {c : Value} (hv : RV w m H (.ptr b ver path s) c) : ∃ a, c = .pointer (some a) := by
  obtain ⟨cs, hr, hc⟩ := hv.elim rfl
  cases hr with
  | ptr _ _ _ _ a1 hb h1 => exact ⟨a1, hc⟩

theorem RV.rop_inv {x : D} {c : Value} (hv : RV w m H (.rop x) c) : ∃ a cs, c = .pointer (some a) ∧ RC w (Own m H) x.sh x cs ∧ ∀ (j : Nat) c, cs[j]? = some c → w.cell? (a.add j) = some c ∧ ¬ Own m H a.block := by
  obtain ⟨cs, hr, hc⟩ := hv.elim rfl
  cases hr with
  | rop _ a cs h hm => exact ⟨a, cs, hc, h, hm⟩

theorem ty_arr (hx : CxOK cx) {t : TypeId} {te : TyE} {n : Nat} {e : TypeId} (h : cx.ty t = some te) (hty : te.ty = .arr n e) :
    cx.P.underlying t = some (.array n e) ∧ ∃ ee, cx.ty e = some ee ∧ te.sh = .arr n ee.sh := by
  have := (hx.ty t te h).under; rw [hty] at this; exact this
theorem ty_sl (hx : CxOK cx) {t : TypeId} {te : TyE} {e : TypeId} (h : cx.ty t = some te) (hty : te.ty = .sl e) : cx.P.underlying t = some (.slice e) := by
  have := (hx.ty t te h).under; rw [hty] at this; exact this.1

theorem rop_part {x y : D} {p : List Nat} {a : Addr} (hv : RV w m H (.rop x) (.pointer (some a))) (hg : getD p x fun z => z = y) :
    ∃ o s, poff x.sh p = some (o, s) ∧ RV w m H (.rop y) (.pointer (some (a.add o))) := by
  obtain ⟨a', cs, hc, h, hm⟩ := hv.rop_inv
  cases hc
  obtain ⟨z, o, s, rfl, hp, hy, hle⟩ := getD_sound p h hg
  have e := hy.sh_eq
  subst e
  refine ⟨o, _, hp, .rop_of hy fun j c hj => ?_⟩
  rw [List.getElem?_take] at hj
  split at hj
  · rw [List.getElem?_drop] at hj
    obtain ⟨h1, h2⟩ := hm (o + j) c hj
    have e : (a.add o).add j = a.add (o + j) := by
      unfold Addr.add
      by_cases h0 : o = 0 <;> by_cases h1 : j = 0 <;> simp [h0, h1]
      omega
    rw [e]
    exact ⟨h1, by unfold Addr.add; split <;> exact h2⟩
  · cases hj

theorem add_add (ad : Addr) (o j : Nat) : (ad.add o).add j = ad.add (o + j) := by
  unfold Addr.add
  by_cases h0 : o = 0 <;> by_cases h1 : j = 0 <;> simp [h0, h1]
  omega

theorem add_block (ad : Addr) (o : Nat) : (ad.add o).block = ad.block := by unfold Addr.add; split <;> rfl

/-- An element behind a slice that is data. -/
theorem ro_elem {e : Sh} {t : Bool} {xs : List D} {c : Value} (hv : RV w m H (.d (.ro e t xs)) c) (hpos : 0 < e.csz) :
    ∃ a cap, c = .slice a xs.length cap ∧ xs.length ≤ cap ∧ (t = true → cap = xs.length) ∧ ∀ (i : Nat) y, xs[i]? = some y → ∃ ad, a = some ad ∧ RV w m H (.rop y) (.pointer (some (ad.add (i * e.csz)))) := by
  obtain ⟨cs, h, hc⟩ := hv.elim rfl
  have h := h.of_d
  cases h with
  | ro _ _ _ a cap css hl hcap ht h0 hm =>
    refine ⟨a, cap, hc, hcap, ht, fun i y hy => ?_⟩
    have hi := (List.getElem?_eq_some_iff.1 hy).1
    have hci : css[i]? = some css[i] := List.getElem?_eq_getElem (by omega)
    have hr := h0 i y _ hy hci
    have e1 := hr.sh_eq
    subst e1
    have h0 : 0 < css[i].length := by rw [hr.len]; exact hpos
    obtain ⟨ad, ha, _, _⟩ := hm i _ 0 css[i][0] hci (List.getElem?_eq_getElem h0)
    refine ⟨ad, ha, .rop_of hr fun j c hj => ?_⟩
    obtain ⟨ad', ha', h1, h2⟩ := hm i _ j c hci hj
    rw [ha] at ha'; cases ha'
    rw [add_add, add_block]
    exact ⟨h1, h2⟩

theorem run_indexAt_slice {t e : TypeId} {ee : TyE} (hu : cx.P.underlying t = some (.slice e)) (hee : TyP cx e ee) {ad : Addr} {len cap : Nat} {kd : IntKind} {i : Int} (h0 : 0 ≤ i) (h1 : i < len) :
    (Instr.indexAt t (.slice (some ad) len cap) (.int kd i)).run cx.P w = .ok (.pointer (some (ad.add (i.toNat * ee.sh.csz)))) w := by
  simp [Instr.indexAt, asIntOf, run_underlying hu, h0, h1, hee.run_sizeOf w]

theorem run_indexAt_arr {t e : TypeId} {n : Nat} {ee : TyE} (hu : cx.P.underlying t = some (.array n e)) (hee : TyP cx e ee) {ad : Addr} {kd : IntKind} {i : Int} (h0 : 0 ≤ i) (h1 : i < n) :
    (Instr.indexAt t (.pointer (some ad)) (.int kd i)).run cx.P w = .ok (.pointer (some (ad.add (i.toNat * ee.sh.csz)))) w := by
  simp [Instr.indexAt, Instr.sureAddr, asIntOf, run_underlying hu, h0, h1, hee.run_sizeOf w]

theorem idxV_sound (hx : CxOK cx) (hh : HeapOK cx B w m H) (hrd : Rd rd H) {t : TypeId} {x : V} {c : Value} {kd : IntKind} {i : Int} {k : V → Prop} (hv : RV w m H x c) (hg : idxV cx rd t x i k) :
    POK cx w m H k (Instr.indexAt t c (.int kd i)) := by
  obtain ⟨te, hte, hg⟩ := onS_elim hg
  have ht := hx.ty t te hte
  cases hty : te.ty with
  | arr n0 e0 =>
    rw [hty] at hg
    obtain ⟨hu, ee, hee, hsh⟩ := ty_arr hx hte hty
    cases x with
    | ptr b ver path s =>
      cases s with
      | arr n e =>
        obtain ⟨hb, hg⟩ := onT_elim hg
        obtain ⟨hi, hk⟩ := onT_elim hg
        have he := Sh.beq_eq _ _ hb
        rw [hsh] at he
        cases he
        have hi : 0 ≤ i ∧ i < n0 := by simpa using hi
        obtain ⟨a, rfl⟩ := hv.ptr_inv
        exact ⟨_, _, hk, run_indexAt_arr hu (hx.ty _ _ hee) hi.1 hi.2, hv.ptr_part (q := [i.toNat]) (by simp [poff]; omega)⟩
      | _ => exact hg.elim
    | rop y =>
      cases y with
      | arr n e xs =>
        obtain ⟨hb, hg⟩ := onT_elim hg
        obtain ⟨hi, hg⟩ := onT_elim hg
        obtain ⟨y, hy, hk⟩ := onS_elim hg
        have he := Sh.beq_eq _ _ hb
        rw [hsh] at he
        cases he
        have hi : 0 ≤ i ∧ i < n0 := by simpa using hi
        obtain ⟨a, cs, rfl, hr, hm⟩ := hv.rop_inv
        obtain ⟨o, s, hp, hrv⟩ := rop_part (p := [i.toNat]) (y := y) hv (onS_intro hy rfl)
        simp only [D.sh, poff] at hp
        rw [if_pos (by omega)] at hp
        simp at hp
        obtain ⟨rfl, rfl⟩ := hp
        exact ⟨_, _, hk, run_indexAt_arr hu (hx.ty _ _ hee) hi.1 hi.2, hrv⟩
      | _ => exact hg.elim
    | _ => exact hg.elim
  | sl e0 =>
    rw [hty] at hg
    obtain ⟨ee, hee, hg⟩ := onS_elim hg
    have hu := ty_sl hx hte hty
    have hte' := hx.ty _ _ hee
    cases x with
    | d y =>
      cases y with
      | ro e tt xs =>
        obtain ⟨hb, hg⟩ := onT_elim hg
        obtain ⟨hi, hg⟩ := onT_elim hg
        obtain ⟨y, hy, hk⟩ := onS_elim hg
        have hi : 0 ≤ i ∧ i < xs.length := by simpa using hi
        have he := Sh.beq_eq _ _ hb
        subst he
        obtain ⟨a, cap, rfl, hcap, _, hel⟩ := ro_elem hv hte'.pos
        obtain ⟨ad, rfl, hrv⟩ := hel i.toNat y hy
        exact ⟨_, _, hk, run_indexAt_slice hu hte' hi.1 hi.2, hrv⟩
      | _ => exact hg.elim
    | sl b off ver =>
      obtain ⟨blk, hb, hg⟩ := onS_elim hg
      cases blk with
      | fix v => exact hg.elim
      | grow ver' e xs =>
        obtain ⟨hev, hg⟩ := onE_elim hg
        obtain ⟨hbe, hg⟩ := onT_elim hg
        obtain ⟨hi, hk⟩ := onT_elim hg
        have hi : 0 ≤ i ∧ i < (xs.length - off : Nat) := by simpa using hi
        have he := Sh.beq_eq _ _ hbe
        subst he
        have hl := hrd b _ hb
        obtain ⟨cs, h, hc⟩ := hv.elim rfl
        cases h with
        | sl _ _ _ c' ho hbb h =>
          obtain ⟨hle, h⟩ := h ver' _ xs hl
          obtain ⟨hof, h⟩ := h hev
          rcases h with ⟨hn, _⟩ | ⟨kk, cap, a, hi2, hcap, hc2, ha⟩
          · have hx0 : xs = [] := by
              cases hh.blk b _ hl with
              | none => rfl
              | grow ver e xs k cap cur css h1 => rw [hn] at h1; cases h1
            subst hx0; simp at hi; omega
          · have ha := ha (by omega)
            subst ha
            rw [hc, show pack (V.sl b off ver).sh [c'] = c' from rfl, hc2]
            refine ⟨_, _, hk, run_indexAt_slice hu hte' hi.1 hi.2, .one (.ptr b ver [off + i.toNat] ee.sh) [_] (.ptr _ _ _ _ _ hbb fun x hx => ?_)⟩
            have := live_inj hl hx
            subst this
            refine ⟨hle, fun _ => ⟨kk, cap, (off + i.toNat) * ee.sh.csz, hi2, ?_, ?_⟩⟩
            · simp [Blk.bsh, poff]; omega
            · rw [addr_add, Nat.add_mul]
    | sub b off len ver =>
      obtain ⟨blk, hb, hg⟩ := onS_elim hg
      cases blk with
      | fix v => exact hg.elim
      | grow ver' e xs =>
        obtain ⟨hev, hg⟩ := onE_elim hg
        obtain ⟨hbe, hg⟩ := onT_elim hg
        obtain ⟨hi, hk⟩ := onT_elim hg
        have hi : 0 ≤ i ∧ i < (len : Nat) := by simpa using hi
        have he := Sh.beq_eq _ _ hbe
        subst he
        have hl := hrd b _ hb
        obtain ⟨cs, h, hc⟩ := hv.elim rfl
        cases h with
        | sub _ _ _ _ c' ho hbb h =>
          obtain ⟨hle, h⟩ := h ver' _ xs hl
          obtain ⟨hof, cap, a, hc2, hcap, h⟩ := h hev
          obtain ⟨kk, cap', hi2, ha⟩ := h (by omega)
          subst ha
          rw [hc, show pack (V.sub b off len ver).sh [c'] = c' from rfl, hc2]
          refine ⟨_, _, hk, run_indexAt_slice hu hte' hi.1 hi.2, .one (.ptr b ver [off + i.toNat] ee.sh) [_] (.ptr _ _ _ _ _ hbb fun x hx => ?_)⟩
          have := live_inj hl hx
          subst this
          refine ⟨hle, fun _ => ⟨kk, cap', (off + i.toNat) * ee.sh.csz, hi2, ?_, ?_⟩⟩
          · simp [Blk.bsh, poff]; omega
          · rw [addr_add, Nat.add_mul]
    | _ => exact hg.elim
  | _ => rw [hty] at hg; exact hg.elim

end

end Go.Fw
