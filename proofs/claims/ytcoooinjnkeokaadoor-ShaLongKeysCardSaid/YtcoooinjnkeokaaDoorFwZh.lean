/-
From a row's inputs to data: what a law's arguments read as, and a law's call out of what it returns. No conditions.
-/
import Derived.Test.YtcoooinjnkeokaaDoorFwZg
import Derived.ProofKit
import Derived.Carry
import Derived.OpenVars
import Derived.DataElems
import Derived.OpenShut
namespace Go.Fw
set_option linter.unusedVariables false
set_option linter.unusedSimpArgs false
open Go.RowKit Go.WideShapes Go.ChangeShapes

/-- Data of a type. -/
inductive Fits (cx : Cx) : TypeId → D → Prop
  | int (t : TypeId) (te : TyE) (k : IntKind) (n : Int) (h : cx.ty t = some te) (ht : te.ty = .int k) (hn : inK k n) : Fits cx t (.int k n)
  | bool (t : TypeId) (te : TyE) (b : Bool) (h : cx.ty t = some te) (ht : te.ty = .bool) : Fits cx t (.bool b)
  | str (t : TypeId) (te : TyE) (l : List UInt8) (h : cx.ty t = some te) (ht : te.ty = .str) (hl : l.length ≤ 9223372036854775807) : Fits cx t (.str l)
  | sl (t e : TypeId) (te ee : TyE) (xs : List D) (h : cx.ty t = some te) (ht : te.ty = .sl e) (he : cx.ty e = some ee) (hl : xs.length ≤ 9223372036854775807) (hx : ∀ x ∈ xs, Fits cx e x) : Fits cx t (.ro ee.sh false xs)
  | arr (t e : TypeId) (n : Nat) (te ee : TyE) (xs : List D) (h : cx.ty t = some te) (ht : te.ty = .arr n e) (he : cx.ty e = some ee) (hl : xs.length = n) (hx : ∀ x ∈ xs, Fits cx e x) : Fits cx t (.arr n ee.sh xs)
  | st (t : TypeId) (fs : List TypeId) (te : TyE) (xs : List D) (h : cx.ty t = some te) (ht : te.ty = .st fs) (hl : xs.length = fs.length) (hx : ∀ (i : Nat) f x, fs[i]? = some f → xs[i]? = some x → Fits cx f x) : Fits cx t (.st xs)

/-- A type of numbers, bools, strings, and slices, arrays and structs of these. -/
def plainB (cx : Cx) : Nat → TypeId → Bool
  | 0, _ => false
  | n + 1, t => match cx.ty t with
    | none => false
    | some te => match te.ty with
      | .int _ | .bool | .str => true
      | .sl e => plainB cx n e
      | .arr _ e => plainB cx n e
      | .st fs => fs.all (plainB cx n)
      | _ => false

theorem chunks {c : Nat} : ∀ (n : Nat) (cs : List Value), cs.length = n * c → ((List.range n).map fun i => (cs.drop (i * c)).take c).flatten = cs
  | 0, cs, h => by simp at h; simp [h]
  | n + 1, cs, h => by
    rw [List.range_succ_eq_map, List.map_cons, List.map_map, List.flatten_cons]
    have ih := chunks (c := c) n (cs.drop c) (by rw [List.length_drop, h, Nat.succ_mul]; omega)
    have e : ((fun i => (cs.drop (i * c)).take c) ∘ Nat.succ) = fun i => ((cs.drop c).drop (i * c)).take c := by
      funext i
      show (cs.drop ((i + 1) * c)).take c = _
      rw [List.drop_drop, Nat.succ_mul, Nat.add_comm]
    rw [e, ih, Nat.zero_mul, List.drop_zero, List.take_append_drop]

theorem parts : ∀ (shs : List Sh) (cs : List Value), cs.length = Sh.cszs shs → ((List.range shs.length).map fun i => (cs.drop (Sh.cszs (shs.take i))).take (shs.getD i .one).csz).flatten = cs
  | [], cs, h => by simp [Sh.cszs] at h; simp [h]
  | s :: shs, cs, h => by
    rw [List.length_cons, List.range_succ_eq_map, List.map_cons, List.map_map, List.flatten_cons]
    have hs : Sh.cszs (s :: shs) = s.csz + Sh.cszs shs := by simp [Sh.cszs]
    have ih := parts shs (cs.drop s.csz) (by rw [List.length_drop, h, hs]; omega)
    have e : ((fun i => (cs.drop (Sh.cszs ((s :: shs).take i))).take ((s :: shs).getD i .one).csz) ∘ Nat.succ) = fun i => ((cs.drop s.csz).drop (Sh.cszs (shs.take i))).take (shs.getD i .one).csz := by
      funext i
      show (cs.drop (Sh.cszs ((s :: shs).take (i + 1)))).take ((s :: shs).getD (i + 1) .one).csz = _
      rw [List.drop_drop, List.take_succ_cons, show Sh.cszs (s :: shs.take i) = s.csz + Sh.cszs (shs.take i) by simp [Sh.cszs]]
      rfl
    rw [e, ih]
    show (cs.drop (Sh.cszs [])).take s.csz ++ cs.drop s.csz = cs
    rw [show Sh.cszs [] = 0 by simp [Sh.cszs], List.drop_zero, List.take_append_drop]

theorem listChoice {α : Type} {p : Nat → α → Prop} : ∀ (n : Nat), (∀ i, i < n → ∃ x, p i x) → ∃ xs : List α, xs.length = n ∧ ∀ i x, xs[i]? = some x → p i x
  | 0, _ => ⟨[], rfl, fun i x h => by simp at h⟩
  | n + 1, h => by
    obtain ⟨xs, h1, h2⟩ := listChoice n fun i hi => h i (by omega)
    obtain ⟨x, hx⟩ := h n (by omega)
    refine ⟨xs ++ [x], by simp [h1], fun i y hy => ?_⟩
    rcases Nat.lt_or_ge i xs.length with hi | hi
    · rw [List.getElem?_append_left hi] at hy; exact h2 i y hy
    · rw [List.getElem?_append_right hi] at hy
      have : i = n := by
        have := (List.getElem?_eq_some_iff.1 hy).1
        simp at this; omega
      subst this
      rw [← h1] at hy
      simp at hy
      subst hy; exact hx

theorem inK_wf {k : IntKind} {n : Int} (h : (Lit.int k n).wf = true) : inK k n := by
  simp only [Lit.wf, Bool.and_eq_true, decide_eq_true_eq] at h
  cases k <;> simp [inK, loK, hiK, IntKind.min, IntKind.max, IntKind.signed, IntKind.bits] at h ⊢ <;> omega

section
variable {cx : Cx} {H : Type} {enc : TypeId × Value → H} {W : World}

theorem TyP.cells {t : TypeId} {te : TyE} (h : TyP cx t te) : cx.P.cellsOf t = te.sh.csz := by
  obtain ⟨i, hi, hs, _⟩ := h.info
  simp [Program.cellsOf, hi, hs]

/-- What reads by a plain type is data of it. -/
theorem open_rc (hx : CxOK cx) {base : Nat} {sp : Nat → Bool} {held : Bool} : ∀ (fuel n : Nat) (t : TypeId) (te : TyE) (cs : List Value) (d : DataW H × List MemPlace), plainB cx n t = true → cx.ty t = some te →
    DataW.trod enc cx.P W base sp held fuel t cs = some d → ∃ x, RC W noOwn te.sh x cs ∧ Fits cx t x
  | 0, n, t, te, cs, d, _, _, h => by simp [DataW.trod] at h
  | fuel + 1, 0, t, te, cs, d, hp, _, _ => by simp [plainB] at hp
  | fuel + 1, n + 1, t, te, cs, d, hp, hte, h => by
    have hT := hx.ty t te hte
    have hu := hT.under
    simp only [plainB, hte] at hp
    cases hty : te.ty with
    | int k =>
      rw [hty] at hu
      obtain ⟨m, rfl, _, hw⟩ := DataW.trod_int hu.1 h
      rw [hu.2]
      exact ⟨.int k m, .int k m, .int t te k m hte hty (inK_wf hw)⟩
    | bool =>
      rw [hty] at hu
      obtain ⟨b, rfl, _⟩ := DataW.trod_bool hu.1 h
      rw [hu.2]
      exact ⟨.bool b, .bool b, .bool t te b hte hty⟩
    | str =>
      rw [hty] at hu
      obtain ⟨s, rfl, _, hl⟩ := DataW.trod_string hu.1 h
      rw [hu.2]
      refine ⟨.str s.data.toList, ?_, .str t te _ hte hty ?_⟩
      · have := RC.str (w := W) (own := noOwn) s.data.toList
        simpa using this
      · have : s.size ≤ 9223372036854775807 := hl
        show s.data.toList.length ≤ _
        rw [Array.length_toList]
        exact this
    | sl e =>
      rw [hty] at hu
      simp only [hty] at hp
      cases he : cx.ty e with
      | none => cases n <;> simp [plainB, he] at hp
      | some ee =>
        have hE := hx.ty e ee he
        rw [hu.2]
        rcases DataW.trod_slice hu.1 h with ⟨rfl, _⟩ | ⟨a, len, cap, elems, rest, m, hm, rfl, _, _, hle, hcap, hel, hget, _⟩
        · exact ⟨.ro ee.sh false [], .ro ee.sh false [] none 0 [] rfl (Nat.le_refl _) (by intro h; cases h) (fun i x cs h => by simp at h) (fun i cs j c h => by simp at h), .sl t e te ee [] hte hty he (by simp) (by simp)⟩
        · have hfm : fuel = m := by omega
          subst hfm
          have key : ∀ i, i < len → ∃ p : List Value × D, W.cells? base (a.add (i * ee.sh.csz)) ee.sh.csz = some p.1 ∧ RC W noOwn ee.sh p.2 p.1 ∧ Fits cx e p.2 := fun i hi => by
            have h1 := hget i hi
            have hi' : i < elems.length := by omega
            rw [List.getElem?_eq_getElem hi', hE.cells] at h1
            obtain ⟨cs', h2, h3⟩ := Option.bind_eq_some_iff.1 h1
            obtain ⟨x, h4, h5⟩ := open_rc hx fuel n e ee cs' _ hp he h3
            exact ⟨(cs', x), h2, h4, h5⟩
          obtain ⟨ps, hl, hps⟩ := listChoice len key
          have hgetp : ∀ (i : Nat) x, (ps.map (·.2))[i]? = some x → ∃ p, ps[i]? = some p ∧ p.2 = x := fun i x h => by
            rw [List.getElem?_map] at h
            cases hp : ps[i]? with
            | none => rw [hp] at h; cases h
            | some p => rw [hp] at h; exact ⟨p, rfl, by simpa using h⟩
          have hgetc : ∀ (i : Nat) x, (ps.map (·.1))[i]? = some x → ∃ p, ps[i]? = some p ∧ p.1 = x := fun i x h => by
            rw [List.getElem?_map] at h
            cases hp : ps[i]? with
            | none => rw [hp] at h; cases h
            | some p => rw [hp] at h; exact ⟨p, rfl, by simpa using h⟩
          refine ⟨.ro ee.sh false (ps.map (·.2)), ?_, .sl t e te ee _ hte hty he (by simp [hl]; unfold maxLen at hcap; omega) fun x hx => ?_⟩
          · have := RC.ro (w := W) (own := noOwn) ee.sh false (ps.map (·.2)) (some a) cap (ps.map (·.1)) (by simp) (by simp [hl]; omega) (by intro h; cases h) (fun i x cs h1 h2 => by
              obtain ⟨p, q1, q2⟩ := hgetp i x h1
              obtain ⟨p', q3, q4⟩ := hgetc i cs h2
              rw [q1] at q3
              cases q3
              subst q2; subst q4
              exact (hps i p q1).2.1) (fun i cs j c h1 h2 => by
              obtain ⟨p, q3, q4⟩ := hgetc i cs h1
              subst q4
              have hc := World.cells?_some (hps i p q3).1
              refine ⟨a, rfl, ?_, fun h => h⟩
              have hj := (List.getElem?_eq_some_iff.1 h2).1
              have := hc.2.2 j (by omega)
              rw [Addr.add_add] at this
              rw [this, h2])
            simpa [hl] using this
          · obtain ⟨p, h1, rfl⟩ := List.mem_map.1 hx
            obtain ⟨i, hi⟩ := List.mem_iff_getElem?.1 h1
            exact (hps i p hi).2.2
    | arr k e =>
      rw [hty] at hu
      simp only [hty] at hp
      obtain ⟨hu, ee, he, hsh⟩ := hu
      have hE := hx.ty e ee he
      obtain ⟨xs, m, hm, _, hlen, hxl, hget⟩ := DataW.trod_array hu h
      have hfm : fuel = m := by omega
      subst hfm
      have key : ∀ i, i < k → ∃ x, RC W noOwn ee.sh x ((cs.drop (i * ee.sh.csz)).take ee.sh.csz) ∧ Fits cx e x := fun i hi => by
        have h1 := hget i hi
        have hi' : i < xs.length := by omega
        rw [List.getElem?_eq_getElem hi', hE.cells] at h1
        exact open_rc hx fuel n e ee _ _ hp he h1
      obtain ⟨ys, hl, hys⟩ := listChoice k key
      have hcl : cs.length = k * ee.sh.csz := by rw [hlen, hT.cells, hsh]; simp [Sh.csz]
      rw [hsh]
      refine ⟨.arr k ee.sh ys, ?_, .arr t e k te ee ys hte hty he hl fun x hx => ?_⟩
      · have := RC.arr (w := W) (own := noOwn) k ee.sh ys ((List.range k).map fun i => (cs.drop (i * ee.sh.csz)).take ee.sh.csz) (by simp [hl]) hl (fun i x cs' h1 h2 => by
          rw [List.getElem?_map] at h2
          have hi := (List.getElem?_eq_some_iff.1 h1).1
          rw [List.getElem?_range (by omega)] at h2
          simp at h2
          subst h2
          exact (hys i x h1).1)
        rw [chunks k cs hcl] at this
        exact this
      · obtain ⟨i, hi⟩ := List.mem_iff_getElem?.1 hx
        exact (hys i x hi).2
    | st fs =>
      rw [hty] at hu
      simp only [hty] at hp
      obtain ⟨fields, shs, hu, _, hfl, hsh, hsl, hf⟩ := hu
      obtain ⟨xs, m, hm, _, hlen, hxl, hget⟩ := DataW.trod_struct hu h
      have hfm : fuel = m := by omega
      subst hfm
      have key : ∀ i, i < shs.length → ∃ x, RC W noOwn (shs.getD i .one) x ((cs.drop (Sh.cszs (shs.take i))).take (shs.getD i .one).csz) ∧ ∀ f, fs[i]? = some f → Fits cx f x := fun i hi => by
        have hfi : i < fields.size := by omega
        have h1 := hget i fields[i] (Array.getElem?_eq_getElem hfi)
        obtain ⟨h2, h3, _, fe, h5, h6⟩ := hf i fields[i] (Array.getElem?_eq_getElem hfi)
        have hi' : i < xs.length := by omega
        have hd : shs.getD i .one = fe.sh := by rw [List.getD_eq_getElem?_getD, h6]; rfl
        rw [List.getElem?_eq_getElem hi', h3, (hx.ty _ _ h5).cells] at h1
        have hpf : plainB cx n fields[i].type = true := List.all_eq_true.1 hp _ (List.mem_of_getElem? h2)
        obtain ⟨x, h7, h8⟩ := open_rc hx fuel n _ fe _ _ hpf h5 h1
        rw [hd]
        exact ⟨x, h7, fun f hff => by rw [h2] at hff; cases hff; exact h8⟩
      obtain ⟨ys, hl, hys⟩ := listChoice shs.length key
      have hcl : cs.length = Sh.cszs shs := by rw [hlen, hT.cells, hsh]; simp [Sh.csz]
      rw [hsh]
      refine ⟨.st ys, ?_, .st t fs te ys hte hty (by omega) fun i f x h1 h2 => (hys i x h2).2 f h1⟩
      have := RC.st (w := W) (own := noOwn) shs ys ((List.range shs.length).map fun i => (cs.drop (Sh.cszs (shs.take i))).take (shs.getD i .one).csz) (by simp [hl]) hl.symm (fun i s x cs' h0 h1 h2 => by
        rw [List.getElem?_map] at h2
        have hi := (List.getElem?_eq_some_iff.1 h1).1
        rw [List.getElem?_range (by omega)] at h2
        simp at h2
        subst h2
        have := (hys i x h1).1
        rw [show shs.getD i .one = s by rw [List.getD_eq_getElem?_getD, h0]; rfl] at this
        simpa [h0] using this)
      rw [parts shs cs hcl] at this
      exact this
    | ptr e => simp [hty] at hp
    | fn => simp [hty] at hp
    | tup => simp [hty] at hp
end
end Go.Fw
