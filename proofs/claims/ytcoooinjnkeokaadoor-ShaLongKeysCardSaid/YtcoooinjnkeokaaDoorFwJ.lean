/-
Slice expressions, fields, elements of values, lengths. No conditions.
-/
import Derived.Test.YtcoooinjnkeokaaDoorFwI
namespace Go.Fw
set_option linter.unusedVariables false
set_option linter.unusedSimpArgs false
open Go.RowKit

section
variable {cx : Cx} {B : Nat} {w : World} {m : M} {H : Heap} {rd : Nat → Option Blk}

/-- Operands of ours and of the program's. -/
def RO (w : World) (m : M) (H : Heap) (ρ : Operand → V) (ρc : Operand → Value) : Prop := ∀ x, RV w m H (ρ x) (ρc x)

/-- An optional bound: what it comes to. -/
def OB (o : Option Value) (d hi n : Nat) : Prop := (o = none ∧ n = d) ∨ ∃ kd, o = some (.int kd n) ∧ n ≤ hi

theorem optI_elim {ρ : Operand → V} {ρc : Operand → Value} (hρ : RO w m H ρ ρc) {o : Option Operand} {d hi : Nat} {k : Nat → Prop} (h : optI ρ o d hi k) : ∃ n, k n ∧ OB (o.map ρc) d hi n := by
  cases o with
  | none => exact ⟨d, h, .inl ⟨rfl, rfl⟩⟩
  | some x =>
    obtain ⟨a, n, _, hc, h⟩ := asI_elim (hρ x) h
    obtain ⟨h1, h2⟩ := onT_elim h
    have h1 : 0 ≤ n ∧ n ≤ hi := by simpa using h1
    refine ⟨n.toNat, h2, .inr ⟨a, ?_, by omega⟩⟩
    simp only [Option.map_some, hc]
    congr 2
    omega

theorem run_sliceBounds {isS : Bool} {len cap : Nat} {low high : Option Value} {l h : Nat} (hh : OB high len cap h) (hl : OB low 0 h l) :
    (Instr.sliceBounds isS len cap low high none).run cx.P w = .ok (l, h, cap) w := by
  unfold Instr.sliceBounds
  rcases hh with ⟨rfl, rfl⟩ | ⟨k1, rfl, h1⟩ <;> rcases hl with ⟨rfl, rfl⟩ | ⟨k2, rfl, h2⟩ <;>
    simp [Instr.sliceBound, asIntOf, *]

theorem run_sliceBounds3 {isS : Bool} {len cap : Nat} {low high : Option Value} {v : Value} {l h mm : Nat} (hm : OB (some v) 0 cap mm) (hh : OB high 0 mm h) (hne : high ≠ none) (hl : OB low 0 h l) :
    (Instr.sliceBounds isS len cap low high (some v)).run cx.P w = .ok (l, h, mm) w := by
  unfold Instr.sliceBounds
  rcases hm with ⟨e, _⟩ | ⟨k0, e, h0⟩
  · cases e
  · cases e
    rcases hh with ⟨rfl, rfl⟩ | ⟨k1, rfl, h1⟩
    · exact absurd rfl hne
    · rcases hl with ⟨rfl, rfl⟩ | ⟨k2, rfl, h2⟩ <;> simp [Instr.sliceBound, asIntOf, *]

theorem OB.le {o : Option Value} {d hi n : Nat} (h : OB o d hi n) (hd : d ≤ hi) : n ≤ hi := by
  rcases h with ⟨_, rfl⟩ | ⟨_, _, h⟩ <;> omega

theorem OB.mono {o : Option Value} {d hi hi' n : Nat} (h : OB o d hi n) (hd : hi ≤ hi') : OB o d hi' n := by
  rcases h with h | ⟨k, e, h⟩
  · exact .inl h
  · exact .inr ⟨k, e, by omega⟩

theorem run_sliceAt_slice {t e : TypeId} {ee : TyE} (hu : cx.P.underlying t = some (.slice e)) (hee : TyP cx e ee) {a : Option Addr} {len cap : Nat} {lo hi mx : Option Value} {l h mm : Nat}
    (hb : (Instr.sliceBounds true len cap lo hi mx).run cx.P w = .ok (l, h, mm) w) :
    (Instr.sliceAt t (.slice a len cap) lo hi mx).run cx.P w = .ok (.slice (if mm = l then a else a.map (·.add (l * ee.sh.csz))) (h - l) (mm - l)) w := by
  simp [Instr.sliceAt, Instr.slice, run_underlying hu, hb, hee.run_sizeOf w]

theorem run_sliceAt_arr {t e : TypeId} {n : Nat} {ee : TyE} (hu : cx.P.underlying t = some (.array n e)) (hee : TyP cx e ee) {a : Addr} {lo hi : Option Value} {l h : Nat}
    (hb : (Instr.sliceBounds false n n lo hi none).run cx.P w = .ok (l, h, n) w) :
    (Instr.sliceAt t (.pointer (some a)) lo hi none).run cx.P w = .ok (.slice (some (if n = l then a else a.add (l * ee.sh.csz))) (h - l) (n - l)) w := by
  simp [Instr.sliceAt, Instr.sureAddr, run_underlying hu, hb, hee.run_sizeOf w]

theorem run_sliceAt_str {t : TypeId} (hu : cx.P.underlying t = some .string) {s : ByteArray} {lo hi : Option Value} {l h : Nat}
    (hb : (Instr.sliceBounds false s.size s.size lo hi none).run cx.P w = .ok (l, h, s.size) w) :
    (Instr.sliceAt t (.string s) lo hi none).run cx.P w = .ok (.string (s.extract l h)) w := by
  simp [Instr.sliceAt, Instr.slice, run_underlying hu, hb]

theorem bytes_extract (l : List UInt8) (a b : Nat) : (⟨l.toArray⟩ : ByteArray).extract a b = ⟨((l.take b).drop a).toArray⟩ := by
  apply ByteArray.ext
  rw [ByteArray.data_extract]
  simp [List.extract, List.drop_take]

/-- Data behind part of a slice of data. -/
theorem ro_cut {e : Sh} {t : Bool} {xs : List D} {a : Option Addr} {cap : Nat} (hv : RV w m H (.d (.ro e t xs)) (.slice a xs.length cap)) {l h mm : Nat} {tt : Bool} (hl : l ≤ h) (hh : h ≤ xs.length) (hm : h ≤ mm)
    (ht : tt = true → mm = h) : RV w m H (.d (.ro e tt ((xs.take h).drop l))) (.slice (if mm = l then a else a.map (·.add (l * e.csz))) (h - l) (mm - l)) := by
  obtain ⟨cs, h0, hc⟩ := hv.elim rfl
  have h0 := h0.of_d
  cases h0 with
  | ro _ _ _ a' cap' css hl' hcap ht' h1 hm' =>
    cases hc
    have hlen : ((xs.take h).drop l).length = h - l := by simp; omega
    have key : RC w (Own m H) .one (.ro e tt ((xs.take h).drop l)) [.slice (if mm = l then a else a.map (·.add (l * e.csz))) ((xs.take h).drop l).length (mm - l)] := by
      refine .ro e tt _ _ _ ((css.take h).drop l) (by simp [hl']) (by omega) (fun e => by have := ht e; omega) (fun i x cs h2 h3 => ?_) (fun i cs j c h2 h3 => ?_)
      · rw [List.getElem?_drop, List.getElem?_take] at h2 h3
        split at h2
        · rename_i hi
          rw [if_pos hi] at h3
          exact h1 _ x cs h2 h3
        · cases h2
      · rw [List.getElem?_drop, List.getElem?_take] at h2
        split at h2
        · rename_i hi
          obtain ⟨ad, ha, h4, h5⟩ := hm' _ cs j c h2 h3
          rw [if_neg (by omega)]
          refine ⟨ad.add (l * e.csz), by rw [ha]; rfl, ?_, by rw [add_block]; exact h5⟩
          rw [add_add, ← Nat.add_assoc, ← Nat.add_mul]; exact h4
        · cases h2
    rw [hlen] at key
    exact .d1 key rfl

theorem RV.one_cell {v : V} {c : Value} (h : RCV w m H .one v [c]) (hv : v.sh = .one) : RV w m H v c := by
  have := RV.one v [c] (by rw [hv]; exact h)
  rw [hv] at this; exact this

theorem sliceV_sound (hx : CxOK cx) (hh : HeapOK cx B w m H) (hrd : Rd rd H) {ρ : Operand → V} {ρc : Operand → Value} (hρ : RO w m H ρ ρc) {t : TypeId} {x : V} {c : Value} {lo hi mx : Option Operand} {k : V → Prop}
    (hv : RV w m H x c) (hg : sliceV cx ρ rd t x lo hi mx k) : POK cx w m H k (Instr.sliceAt t c (lo.map ρc) (hi.map ρc) (mx.map ρc)) := by
  obtain ⟨te, hte, hg'⟩ := onS_elim hg; clear hg; have hg := hg'; clear hg'
  have ht := hx.ty t te hte
  cases hty : te.ty with
  | arr n0 e0 =>
    rw [hty] at hg
    obtain ⟨hu, ee, hee, hsh⟩ := ty_arr hx hte hty
    cases x with
    | ptr b ver path s =>
      cases s with
      | arr n e =>
        obtain ⟨hb, hg'⟩ := onT_elim hg; clear hg; have hg := hg'; clear hg'
        have he := Sh.beq_eq _ _ hb
        rw [hsh] at he
        cases he
        cases mx with
        | some _ => exact hg.elim
        | none =>
          obtain ⟨h, hg, o1⟩ := optI_elim hρ hg
          obtain ⟨l, hk, o2⟩ := optI_elim hρ hg
          obtain ⟨cs, hr, hc⟩ := hv.elim rfl
          cases hr with
          | ptr _ _ _ _ a hbb h1 =>
            have hc : c = .pointer (some a) := hc
            subst hc
            have l1 := o1.le (Nat.le_refl _)
            have l2 := o2.le (Nat.zero_le _)
            refine ⟨_, _, hk, run_sliceAt_arr hu (hx.ty _ _ hee) (run_sliceBounds o1 o2), .one_cell (.sa b path l (h - l) _ rfl hbb fun v hl => ?_) rfl⟩
            obtain ⟨hver, h1⟩ := h1 _ hl
            obtain ⟨kk, cap, o, hi2, hp, rfl⟩ := h1 (by simp only [Blk.ver] at hver ⊢; omega)
            refine ⟨kk, cap, o, n0, ee.sh, _, hi2, hp, by omega, rfl, fun hlt => ?_⟩
            rw [if_neg (by omega), addr_add]
      | _ => exact hg.elim
    | _ => exact hg.elim
  | str =>
    rw [hty] at hg
    have hu : cx.P.underlying t = some .string := by have := ht.under; rw [hty] at this; exact this.1
    cases x with
    | d y =>
      cases y with
      | str s =>
        cases mx with
        | some _ => exact hg.elim
        | none =>
          obtain ⟨h, hg, o1⟩ := optI_elim hρ hg
          obtain ⟨l, hk, o2⟩ := optI_elim hρ hg
          have hc := hv.str_inv
          subst hc
          have e : (⟨s.toArray⟩ : ByteArray).size = s.length := by simp [ByteArray.size]
          have hb := run_sliceBounds (cx := cx) (w := w) (isS := false) (len := s.length) (cap := s.length) o1 o2
          rw [← e] at hb
          refine ⟨_, _, hk, run_sliceAt_str hu hb, ?_⟩
          rw [bytes_extract]
          exact .str _
      | _ => exact hg.elim
    | _ => exact hg.elim
  | sl e0 =>
    rw [hty] at hg
    obtain ⟨ee, hee, hg'⟩ := onS_elim hg; clear hg; have hg := hg'; clear hg'
    have hu := ty_sl hx hte hty
    have hte' := hx.ty _ _ hee
    cases x with
    | d y =>
      cases y with
      | ro e tt xs =>
        obtain ⟨hb, hg'⟩ := onT_elim hg; clear hg; have hg := hg'; clear hg'
        have he := Sh.beq_eq _ _ hb
        subst he
        obtain ⟨a, cap, rfl, hcap, htt, _⟩ := ro_elem hv hte'.pos
        cases mx with
        | none =>
          cases hi with
          | none =>
            obtain ⟨l, hk, o2⟩ := optI_elim hρ hg
            have l2 := o2.le (Nat.zero_le _)
            refine ⟨_, _, hk, run_sliceAt_slice hu hte' (run_sliceBounds (.inl ⟨rfl, rfl⟩) o2), ?_⟩
            have := ro_cut (mm := cap) (tt := tt) hv l2 (Nat.le_refl _) hcap htt
            rw [List.take_length] at this; exact this
          | some hi =>
            obtain ⟨h, hg, o1⟩ := optI_elim hρ hg
            obtain ⟨l, hk, o2⟩ := optI_elim hρ hg
            have l1 := o1.le (Nat.zero_le _)
            have l2 := o2.le (Nat.zero_le _)
            have o1' : OB ((some hi).map ρc) xs.length cap h := by
              rcases o1 with ⟨e, _⟩ | ⟨kd, e, hle⟩
              · cases e
              · exact .inr ⟨kd, e, by omega⟩
            exact ⟨_, _, hk, run_sliceAt_slice hu hte' (run_sliceBounds o1' o2), ro_cut (mm := cap) hv l2 l1 (by omega) (fun e => by cases e)⟩
        | some mx =>
          cases hi with
          | none => exact hg.elim
          | some hi =>
            obtain ⟨mm, hg, o0⟩ := optI_elim hρ hg
            obtain ⟨h, hg, o1⟩ := optI_elim hρ hg
            obtain ⟨l, hk, o2⟩ := optI_elim hρ hg
            have l0 := o0.le (Nat.zero_le _)
            have l1 := o1.le (Nat.zero_le _)
            have l2 := o2.le (Nat.zero_le _)
            exact ⟨_, _, hk, run_sliceAt_slice hu hte' (run_sliceBounds3 (o0.mono hcap) o1 (by simp) o2), ro_cut (mm := mm) hv l2 (by omega) l1 (fun e => Nat.eq_of_beq_eq_true e)⟩
      | nils =>
        cases mx with
        | some _ => exact hg.elim
        | none =>
          obtain ⟨h, hg, o1⟩ := optI_elim hρ hg
          obtain ⟨l, hk, o2⟩ := optI_elim hρ hg
          have hc := hv.nils_inv
          subst hc
          have l1 := o1.le (Nat.le_refl _)
          have l2 := o2.le (Nat.zero_le _)
          have : h = 0 ∧ l = 0 := by omega
          obtain ⟨rfl, rfl⟩ := this
          exact ⟨_, _, hk, run_sliceAt_slice hu hte' (run_sliceBounds o1 o2), by simpa using hv⟩
      | _ => exact hg.elim
    | sl b off ver =>
      obtain ⟨blk, hb, hg'⟩ := onS_elim hg; clear hg; have hg := hg'; clear hg'
      cases blk with
      | fix v => exact hg.elim
      | grow ver' e xs =>
        obtain ⟨hev, hg'⟩ := onE_elim hg; clear hg; have hg := hg'; clear hg'
        obtain ⟨hbe, hg'⟩ := onT_elim hg; clear hg; have hg := hg'; clear hg'
        have he := Sh.beq_eq _ _ hbe
        subst he
        have hl := hrd b _ hb
        cases mx with
        | some _ => cases hi <;> exact hg.elim
        | none =>
          obtain ⟨cs, h, hc⟩ := hv.elim rfl
          cases h with
          | sl _ _ _ c' ho hbb h =>
            have hc : c = c' := hc
            subst hc
            obtain ⟨hle, h⟩ := h ver' _ xs hl
            obtain ⟨hof, h⟩ := h hev
            cases hi with
            | none =>
              obtain ⟨l, hk, o2⟩ := optI_elim hρ hg
              have l2 := o2.le (Nat.zero_le _)
              rcases h with ⟨hn, rfl⟩ | ⟨kk, cap, a, hi2, hcap, rfl, ha⟩
              · have hx0 : xs = [] := by
                  cases hh.blk b _ hl with
                  | none => rfl
                  | grow ver e xs k cap cur css h1 => rw [hn] at h1; cases h1
                subst hx0
                simp at l2
                subst l2
                refine ⟨_, _, hk, run_sliceAt_slice hu hte' (run_sliceBounds (.inl ⟨rfl, rfl⟩) (by rcases o2 with ⟨a, b⟩ | ⟨kd, a, b⟩; exact .inl ⟨a, b⟩; exact .inr ⟨kd, a, by omega⟩)), .one_cell (.sl b _ ver _ rfl hbb fun v2 e2 xs2 hl2 => ?_) rfl⟩
                have := live_inj hl hl2
                cases this
                exact ⟨hle, fun _ => ⟨by simpa using hof, .inl ⟨hn, by simp⟩⟩⟩
              · refine ⟨_, _, hk, run_sliceAt_slice hu hte' (run_sliceBounds (.inl ⟨rfl, rfl⟩) o2), .one_cell (.sl b _ ver _ rfl hbb fun v2 e2 xs2 hl2 => ?_) rfl⟩
                have := live_inj hl hl2
                cases this
                refine ⟨hle, fun _ => ⟨by omega, .inr ⟨kk, cap, _, hi2, hcap, by rw [Nat.sub_sub, Nat.sub_sub], fun hlt => ?_⟩⟩⟩
                rw [if_neg (by omega), ha (by omega)]
                simp [addr_add, Nat.add_mul]
            | some hi =>
              obtain ⟨h', hg, o1⟩ := optI_elim hρ hg
              obtain ⟨l, hk, o2⟩ := optI_elim hρ hg
              have l1 := o1.le (Nat.zero_le _)
              have l2 := o2.le (Nat.zero_le _)
              rcases h with ⟨hn, rfl⟩ | ⟨kk, cap, a, hi2, hcap, rfl, ha⟩
              · have hx0 : xs = [] := by
                  cases hh.blk b _ hl with
                  | none => rfl
                  | grow ver e xs k cap cur css h1 => rw [hn] at h1; cases h1
                subst hx0
                simp at l1
                subst l1
                simp at l2
                subst l2
                have o1' : OB ((some hi).map ρc) 0 0 0 := by rcases o1 with ⟨a, b⟩ | ⟨kd, a, b⟩; exact .inl ⟨a, b⟩; exact .inr ⟨kd, a, by omega⟩
                refine ⟨_, _, hk, run_sliceAt_slice hu hte' (run_sliceBounds o1' o2), .one_cell (.sub b _ _ ver _ rfl hbb fun v2 e2 xs2 hl2 => ?_) rfl⟩
                have := live_inj hl hl2
                cases this
                exact ⟨hle, fun _ => ⟨by simpa using hof, 0, none, by simp, by simp, by simp⟩⟩
              · have o1' : OB ((some hi).map ρc) (xs.length - off) (cap - off) h' := by
                  rcases o1 with ⟨e, _⟩ | ⟨kd, e, hle⟩
                  · cases e
                  · exact .inr ⟨kd, e, by omega⟩
                refine ⟨_, _, hk, run_sliceAt_slice hu hte' (run_sliceBounds o1' o2), .one_cell (.sub b _ _ ver _ rfl hbb fun v2 e2 xs2 hl2 => ?_) rfl⟩
                have := live_inj hl hl2
                cases this
                refine ⟨hle, fun _ => ⟨by omega, _, _, rfl, by omega, fun hp => ⟨kk, cap, hi2, ?_⟩⟩⟩
                rw [if_neg (by omega), ha (by omega)]
                simp [addr_add, Nat.add_mul]
    | sub b off len ver =>
      obtain ⟨blk, hb, hg'⟩ := onS_elim hg; clear hg; have hg := hg'; clear hg'
      cases blk with
      | fix v => exact hg.elim
      | grow ver' e xs =>
        obtain ⟨hev, hg'⟩ := onE_elim hg; clear hg; have hg := hg'; clear hg'
        obtain ⟨hbe, hg'⟩ := onT_elim hg; clear hg; have hg := hg'; clear hg'
        have he := Sh.beq_eq _ _ hbe
        subst he
        have hl := hrd b _ hb
        cases mx with
        | some _ => exact hg.elim
        | none =>
          obtain ⟨cs, h, hc⟩ := hv.elim rfl
          cases h with
          | sub _ _ _ _ c' ho hbb h =>
            have hc : c = c' := hc
            subst hc
            obtain ⟨hle, h⟩ := h ver' _ xs hl
            obtain ⟨hof, cap, a, rfl, hcap, ha⟩ := h hev
            obtain ⟨h', hg, o1⟩ := optI_elim hρ hg
            obtain ⟨l, hk, o2⟩ := optI_elim hρ hg
            have l1 := o1.le (Nat.le_refl _)
            have l2 := o2.le (Nat.zero_le _)
            refine ⟨_, _, hk, run_sliceAt_slice hu hte' (run_sliceBounds (o1.mono hcap) o2), .one_cell (.sub b _ _ ver _ rfl hbb fun v2 e2 xs2 hl2 => ?_) rfl⟩
            have := live_inj hl hl2
            cases this
            have hlc : h' - l ≤ cap - l := by omega
            refine ⟨hle, fun _ => ⟨by omega, _, _, rfl, hlc, fun hp => ?_⟩⟩
            have hp0 : 0 < len := by omega
            obtain ⟨kk, cap', hi2, hae⟩ := ha hp0
            refine ⟨kk, cap', hi2, ?_⟩
            rw [if_neg (by omega), hae]
            simp [addr_add, Nat.add_mul]
    | sa b path off len =>
      obtain ⟨blk, hb, hg'⟩ := onS_elim hg; clear hg; have hg := hg'; clear hg'
      cases blk with
      | grow ver' e xs => exact hg.elim
      | fix v =>
        have hl := hrd b _ hb
        obtain ⟨⟨o0, s0⟩, hp0, hg2⟩ := onS_elim hg
        clear hg
        obtain ⟨cs, h, hc⟩ := hv.elim rfl
        cases h with
        | sa _ _ _ _ c' ho hbb h =>
          obtain ⟨kk, cap, o, n, e, a, hi2, hp, hle, rfl, ha⟩ := h v hl
          rw [hp] at hp0
          cases hp0
          obtain ⟨hbe, hg3⟩ := onT_elim hg2
          clear hg2
          have he := Sh.beq_eq _ _ hbe
          subst he
          have hc : c = .slice a len (n - off) := hc
          subst hc
          cases mx with
          | some _ => exact hg3.elim
          | none =>
            obtain ⟨h', hg4, o1⟩ := optI_elim hρ hg3
            obtain ⟨l, hk, o2⟩ := optI_elim hρ hg4
            have l1 := o1.le (Nat.le_refl _)
            have l2 := o2.le (Nat.zero_le _)
            have hln : len ≤ n - off := by omega
            refine ⟨_, _, hk, run_sliceAt_slice hu hte' (run_sliceBounds (o1.mono hln) o2), .one_cell (.sa b path _ _ _ rfl hbb fun v2 hl2 => ?_) rfl⟩
            have := live_inj hl hl2
            cases this
            refine ⟨kk, cap, o0, n, ee.sh, _, hi2, hp, by omega, by rw [Nat.sub_sub], fun hlt => ?_⟩
            rw [if_neg (by omega), ha (by omega)]
            simp [addr_add, Nat.add_mul, Nat.add_assoc]
    | _ => exact hg.elim
  | _ => rw [hty] at hg; exact hg.elim
end

end Go.Fw
