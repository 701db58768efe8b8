/-
From a row's inputs of bounded bulk to data of bounded length, and a law's call out of what it returns on such. No conditions.
-/
import Derived.Test.YtbkoenhfcdlahaaDoorFwZi
namespace Go.Fw
set_option linter.unusedVariables false
set_option linter.unusedSimpArgs false
open Go.RowKit Go.WideShapes Go.ChangeShapes

/-- No string and no slice of it is longer. -/
inductive Small (B : Nat) : D → Prop
  | int (k : IntKind) (n : Int) : Small B (.int k n)
  | bool (b : Bool) : Small B (.bool b)
  | str (l : List UInt8) (h : l.length ≤ B) : Small B (.str l)
  | ro (sh : Sh) (f : Bool) (xs : List D) (h : xs.length ≤ B) (hx : ∀ x ∈ xs, Small B x) : Small B (.ro sh f xs)
  | arr (n : Nat) (sh : Sh) (xs : List D) (hx : ∀ x ∈ xs, Small B x) : Small B (.arr n sh xs)
  | st (xs : List D) (hx : ∀ x ∈ xs, Small B x) : Small B (.st xs)

theorem Small.mono {B B' : Nat} {x : D} (h : Small B x) (hb : B ≤ B') : Small B' x := by
  induction h with
  | int k n => exact .int k n
  | bool b => exact .bool b
  | str l h => exact .str l (by omega)
  | ro sh f xs h _ ih => exact .ro sh f xs (by omega) ih
  | arr n sh xs _ ih => exact .arr n sh xs ih
  | st xs _ ih => exact .st xs ih

theorem Small.ro_le {B : Nat} {sh : Sh} {f : Bool} {xs : List D} (h : Small B (.ro sh f xs)) : xs.length ≤ B ∧ ∀ x ∈ xs, Small B x := by
  cases h with
  | ro _ _ _ h hx => exact ⟨h, hx⟩
theorem Small.str_le {B : Nat} {l : List UInt8} (h : Small B (.str l)) : l.length ≤ B := by
  cases h with
  | str _ h => exact h
theorem Small.st_le {B : Nat} {xs : List D} (h : Small B (.st xs)) : ∀ x ∈ xs, Small B x := by
  cases h with
  | st _ hx => exact hx
theorem Small.arr_le {B n : Nat} {sh : Sh} {xs : List D} (h : Small B (.arr n sh xs)) : ∀ x ∈ xs, Small B x := by
  cases h with
  | arr _ _ _ hx => exact hx

/-- A measure that counts letters and elements. -/
structure Bulk {H : Type} (b : DataW H → Nat) : Prop where
  str : ∀ l, l.length ≤ b (.lit (.string l))
  sl : ∀ es sp, es.length ≤ b (.slice es sp)
  el : ∀ es sp x, x ∈ es → b x ≤ b (.slice es sp)
  ag : ∀ ps x, x ∈ ps → b x ≤ b (.agg ps)

section
variable {cx : Cx} {H : Type} {enc : TypeId × Value → H} {W : World}

/-- What reads by a plain type is data of it. -/
theorem open_rcS (hx : CxOK cx) {bk : DataW H → Nat} (hk : Bulk bk) {base : Nat} {sp : Nat → Bool} {held : Bool} : ∀ (fuel n : Nat) (t : TypeId) (te : TyE) (cs : List Value) (d : DataW H × List MemPlace), plainB cx n t = true → cx.ty t = some te →
    DataW.trod enc cx.P W base sp held fuel t cs = some d → ∃ x, RC W noOwn te.sh x cs ∧ Fits cx t x ∧ Small (bk d.1) x
  | 0, n, t, te, cs, d, _, _, h => by simp [DataW.trod] at h
  | fuel + 1, 0, t, te, cs, d, hp, _, _ => by simp [plainB] at hp
  | fuel + 1, n + 1, t, te, cs, d, hp, hte, h => by
    have hT := hx.ty t te hte
    have hu := hT.under
    simp only [plainB, hte] at hp
    cases hty : te.ty with
    | int k =>
      rw [hty] at hu
      obtain ⟨m, rfl, _, hw⟩ := DataW.trod_int hu.1 h
      rw [hu.2]
      exact ⟨.int k m, .int k m, .int t te k m hte hty (inK_wf hw), .int k m⟩
    | bool =>
      rw [hty] at hu
      obtain ⟨b, rfl, -⟩ := DataW.trod_bool hu.1 h
      rw [hu.2]
      exact ⟨.bool b, .bool b, .bool t te b hte hty, .bool b⟩
    | str =>
      rw [hty] at hu
      obtain ⟨s, rfl, rfl, hl⟩ := DataW.trod_string hu.1 h
      rw [hu.2]
      refine ⟨.str s.data.toList, ?_, .str t te _ hte hty ?_, .str _ ?_⟩
      · have := RC.str (w := W) (own := noOwn) s.data.toList
        simpa using this
      · have : s.size ≤ 9223372036854775807 := hl
        show s.data.toList.length ≤ _
        rw [Array.length_toList]
        exact this
      · exact hk.str _
    | sl e =>
      rw [hty] at hu
      simp only [hty] at hp
      cases he : cx.ty e with
      | none => cases n <;> simp [plainB, he] at hp
      | some ee =>
        have hE := hx.ty e ee he
        rw [hu.2]
        rcases DataW.trod_slice hu.1 h with ⟨rfl, _⟩ | ⟨a, len, cap, elems, rest, m, hm, rfl, rfl, _, hle, hcap, hel, hget, _⟩
        · exact ⟨.ro ee.sh false [], .ro ee.sh false [] none 0 [] rfl (Nat.le_refl _) (by intro h; cases h) (fun i x cs h => by simp at h) (fun i cs j c h => by simp at h), .sl t e te ee [] hte hty he (by simp) (by simp), .ro _ _ _ (by simp) (by simp)⟩
        · have hfm : fuel = m := by omega
          subst hfm
          have key : ∀ i, i < len → ∃ p : List Value × D, W.cells? base (a.add (i * ee.sh.csz)) ee.sh.csz = some p.1 ∧ RC W noOwn ee.sh p.2 p.1 ∧ Fits cx e p.2 ∧ Small (bk (.slice (elems.map (·.1)) (rest.map (·.1)))) p.2 := fun i hi => by
            have h1 := hget i hi
            have hi' : i < elems.length := by omega
            rw [List.getElem?_eq_getElem hi', hE.cells] at h1
            obtain ⟨cs', h2, h3⟩ := Option.bind_eq_some_iff.1 h1
            obtain ⟨x, h4, h5, h6⟩ := open_rcS hx hk fuel n e ee cs' _ hp he h3
            exact ⟨(cs', x), h2, h4, h5, h6.mono (hk.el _ _ _ (List.mem_map_of_mem (List.getElem_mem hi')))⟩
          obtain ⟨ps, hl, hps⟩ := listChoice len key
          have hgetp : ∀ (i : Nat) x, (ps.map (·.2))[i]? = some x → ∃ p, ps[i]? = some p ∧ p.2 = x := fun i x h => by
            rw [List.getElem?_map] at h
            cases hp : ps[i]? with
            | none => rw [hp] at h; cases h
            | some p => rw [hp] at h; exact ⟨p, rfl, by simpa using h⟩
          have hgetc : ∀ (i : Nat) x, (ps.map (·.1))[i]? = some x → ∃ p, ps[i]? = some p ∧ p.1 = x := fun i x h => by
            rw [List.getElem?_map] at h
            cases hp : ps[i]? with
            | none => rw [hp] at h; cases h
            | some p => rw [hp] at h; exact ⟨p, rfl, by simpa using h⟩
          refine ⟨.ro ee.sh false (ps.map (·.2)), ?_, .sl t e te ee _ hte hty he (by simp [hl]; unfold maxLen at hcap; omega) (fun x hx => ?_), .ro _ _ _ (by have := hk.sl (elems.map (·.1)) (rest.map (·.1)); simp [hl] at this ⊢; omega) (fun x hx => ?_)⟩
          · have := RC.ro (w := W) (own := noOwn) ee.sh false (ps.map (·.2)) (some a) cap (ps.map (·.1)) (by simp) (by simp [hl]; omega) (by intro h; cases h) (fun i x cs h1 h2 => by
              obtain ⟨p, q1, q2⟩ := hgetp i x h1
              obtain ⟨p', q3, q4⟩ := hgetc i cs h2
              rw [q1] at q3
              cases q3
              subst q2; subst q4
              exact (hps i p q1).2.1) (fun i cs j c h1 h2 => by
              obtain ⟨p, q3, q4⟩ := hgetc i cs h1
              subst q4
              have hc := World.cells?_some (hps i p q3).1
              refine ⟨a, rfl, ?_, fun h => h⟩
              have hj := (List.getElem?_eq_some_iff.1 h2).1
              have := hc.2.2 j (by omega)
              rw [Addr.add_add] at this
              rw [this, h2])
            simpa [hl] using this
          · obtain ⟨p, h1, rfl⟩ := List.mem_map.1 hx
            obtain ⟨i, hi⟩ := List.mem_iff_getElem?.1 h1
            exact (hps i p hi).2.2.1
          · obtain ⟨p, h1, rfl⟩ := List.mem_map.1 hx
            obtain ⟨i, hi⟩ := List.mem_iff_getElem?.1 h1
            exact (hps i p hi).2.2.2
    | arr k e =>
      rw [hty] at hu
      simp only [hty] at hp
      obtain ⟨hu, ee, he, hsh⟩ := hu
      have hE := hx.ty e ee he
      obtain ⟨xs, m, hm, rfl, hlen, hxl, hget⟩ := DataW.trod_array hu h
      have hfm : fuel = m := by omega
      subst hfm
      have key : ∀ i, i < k → ∃ x, RC W noOwn ee.sh x ((cs.drop (i * ee.sh.csz)).take ee.sh.csz) ∧ Fits cx e x ∧ Small (bk (.agg (xs.map (·.1)))) x := fun i hi => by
        have h1 := hget i hi
        have hi' : i < xs.length := by omega
        rw [List.getElem?_eq_getElem hi', hE.cells] at h1
        obtain ⟨x, h4, h5, h6⟩ := open_rcS hx hk fuel n e ee _ _ hp he h1
        exact ⟨x, h4, h5, h6.mono (hk.ag _ _ (List.mem_map_of_mem (List.getElem_mem hi')))⟩
      obtain ⟨ys, hl, hys⟩ := listChoice k key
      have hcl : cs.length = k * ee.sh.csz := by rw [hlen, hT.cells, hsh]; simp [Sh.csz]
      rw [hsh]
      refine ⟨.arr k ee.sh ys, ?_, .arr t e k te ee ys hte hty he hl (fun x hx => ?_), .arr _ _ _ fun x hx => ?_⟩
      · have := RC.arr (w := W) (own := noOwn) k ee.sh ys ((List.range k).map fun i => (cs.drop (i * ee.sh.csz)).take ee.sh.csz) (by simp [hl]) hl (fun i x cs' h1 h2 => by
          rw [List.getElem?_map] at h2
          have hi := (List.getElem?_eq_some_iff.1 h1).1
          rw [List.getElem?_range (by omega)] at h2
          simp at h2
          subst h2
          exact (hys i x h1).1)
        rw [chunks k cs hcl] at this
        exact this
      · obtain ⟨i, hi⟩ := List.mem_iff_getElem?.1 hx
        exact (hys i x hi).2.1
      · obtain ⟨i, hi⟩ := List.mem_iff_getElem?.1 hx
        exact (hys i x hi).2.2
    | st fs =>
      rw [hty] at hu
      simp only [hty] at hp
      obtain ⟨fields, shs, hu, _, hfl, hsh, hsl, hf⟩ := hu
      obtain ⟨xs, m, hm, rfl, hlen, hxl, hget⟩ := DataW.trod_struct hu h
      have hfm : fuel = m := by omega
      subst hfm
      have key : ∀ i, i < shs.length → ∃ x, RC W noOwn (shs.getD i .one) x ((cs.drop (Sh.cszs (shs.take i))).take (shs.getD i .one).csz) ∧ (∀ f, fs[i]? = some f → Fits cx f x) ∧ Small (bk (.agg (xs.map (·.1)))) x := fun i hi => by
        have hfi : i < fields.size := by omega
        have h1 := hget i fields[i] (Array.getElem?_eq_getElem hfi)
        obtain ⟨h2, h3, _, fe, h5, h6⟩ := hf i fields[i] (Array.getElem?_eq_getElem hfi)
        have hi' : i < xs.length := by omega
        have hd : shs.getD i .one = fe.sh := by rw [List.getD_eq_getElem?_getD, h6]; rfl
        rw [List.getElem?_eq_getElem hi', h3, (hx.ty _ _ h5).cells] at h1
        have hpf : plainB cx n fields[i].type = true := List.all_eq_true.1 hp _ (List.mem_of_getElem? h2)
        obtain ⟨x, h7, h8, h9⟩ := open_rcS hx hk fuel n _ fe _ _ hpf h5 h1
        rw [hd]
        exact ⟨x, h7, fun f hff => by rw [h2] at hff; cases hff; exact h8, h9.mono (hk.ag _ _ (List.mem_map_of_mem (List.getElem_mem hi')))⟩
      obtain ⟨ys, hl, hys⟩ := listChoice shs.length key
      have hcl : cs.length = Sh.cszs shs := by rw [hlen, hT.cells, hsh]; simp [Sh.csz]
      rw [hsh]
      refine ⟨.st ys, ?_, .st t fs te ys hte hty (by omega) (fun i f x h1 h2 => (hys i x h2).2.1 f h1), .st _ fun x hx => by
        obtain ⟨i, hi⟩ := List.mem_iff_getElem?.1 hx
        exact (hys i x hi).2.2⟩
      have := RC.st (w := W) (own := noOwn) shs ys ((List.range shs.length).map fun i => (cs.drop (Sh.cszs (shs.take i))).take (shs.getD i .one).csz) (by simp [hl]) hl.symm (fun i s x cs' h0 h1 h2 => by
        rw [List.getElem?_map] at h2
        have hi := (List.getElem?_eq_some_iff.1 h1).1
        rw [List.getElem?_range (by omega)] at h2
        simp at h2
        subst h2
        have := (hys i x h1).1
        rw [show shs.getD i .one = s by rw [List.getD_eq_getElem?_getD, h0]; rfl] at this
        simpa [h0] using this)
      rw [parts shs cs hcl] at this
      exact this
    | ptr e => simp [hty] at hp
    | fn => simp [hty] at hp
    | tup => simp [hty] at hp
/-- The arguments as data. -/
theorem open_argsS (hx : CxOK cx) {bk : DataW H → Nat} (hk : Bulk bk) {base : Nat} {sp : Nat → Bool} {b : Nat} {held : Bool} : ∀ (ts : List TypeId) (vs : List Value) (ds : List (DataW H)) (ps : List MemPlace), ts.all (plainB cx 20) = true →
    (∀ (j : Nat) t v, ts[j]? = some t → vs[j]? = some v → Value.okWide cx.P W .any b t v) → DataW.TrodAll enc cx.P W base sp held ts vs ds ps →
    ∃ xs : List D, xs.length = ts.length ∧ (∀ (i : Nat) x c, xs[i]? = some x → vs[i]? = some c → RD1 W noOwn x c) ∧ ∀ (i : Nat) t x, ts[i]? = some t → xs[i]? = some x → Fits cx t x ∧ ∃ d ∈ ds, Small (bk d) x
  | [], vs, ds, ps, _, _, h => ⟨[], rfl, fun i x c h => by simp at h, fun i t x h => by simp at h⟩
  | t :: ts, [], ds, ps, _, _, h => h.elim
  | t :: ts, v :: vs, [], ps, _, _, h => h.elim
  | t :: ts, v :: vs, d :: ds, ps, hp, hv, h => by
    obtain ⟨p, q, ⟨fuel, h1⟩, h2, _⟩ := h
    simp only [List.all_cons, Bool.and_eq_true] at hp
    obtain ⟨te, ht⟩ := plainB_ty hp.1
    obtain ⟨x, hr, hf, hs⟩ := open_rcS hx hk fuel 20 t te _ _ hp.1 ht h1
    have hpk := okWide_pack hx hp.1 ht (hv 0 t v rfl rfl)
    obtain ⟨xs, hl, h3, h4⟩ := open_argsS hx hk ts vs ds q hp.2 (fun j t v h1 h2 => hv (j + 1) t v (by simpa using h1) (by simpa using h2)) h2
    refine ⟨x :: xs, by simp [hl], fun i y c h1 h2 => ?_, fun i t' y h1 h2 => ?_⟩
    · cases i with
      | zero =>
        simp at h1 h2
        subst h1; subst h2
        exact ⟨v.cells.toList, by rw [hr.sh_eq]; exact hr, by rw [hr.sh_eq]; exact hpk⟩
      | succ i => exact h3 i y c (by simpa using h1) (by simpa using h2)
    · cases i with
      | zero =>
        simp at h1 h2
        subst h1; subst h2
        exact ⟨hf, d, by simp, hs⟩
      | succ i =>
        obtain ⟨q1, d', q2, q3⟩ := h4 i t' y (by simpa using h1) (by simpa using h2)
        exact ⟨q1, d', by simp [q2], q3⟩

theorem law_callsS (hx : CxOK cx) {bk : DataW H → Nat} (hk : Bulk bk) {B : Nat} {f : FuncId} {fn : Func} {s : ChangeSpec} {n : Nat} {tb : TypeId} (hpar : fn.params.toList.all (plainB cx 20) = true) (hread : fn.params.toList.all (fun t => cx.P.readableRec t && Nat.blt t cx.P.types.size) = true)
    (hlo : laidOutB cx.P = true) (hn : fn.params.toList.length = n) (hres : fn.resultTypes = #[tb]) (hub : cx.P.underlying tb = some .bool) (hsv : s.vars = [])
    (hfn : ∀ ds : List (DataW H), ds.length = n → s.fn H ds = { results := [.lit (.bool true)], args := ds })
    (hret : ∀ xs : List D, xs.length = fn.params.toList.length → (∀ (i : Nat) t x, fn.params.toList[i]? = some t → xs[i]? = some x → Fits cx t x ∧ Small B x) → Returns cx f xs (.bool true))
    {base : Nat} {args : Array Value} {ds gs : List (DataW H)} {before : List MemPlace} {apart fresh handsOn again : Bool} (ha : again = false)
    (hval : ∀ (j : Nat) t v, fn.params[j]? = some t → args[j]? = some v → Value.okWide cx.P W .any base t v)
    (hW : DataW.Whole enc cx.P fn.params.toList s.vars apart W args.toList ds gs before) (hg : GOK cx W noOwn) (hB : ∀ d ∈ ds ++ gs, bk d ≤ B) :
    Calls cx.P f args W fun e W' => ∃ v, e = .returned v ∧ s.post enc cx.P fn apart fresh handsOn again W args v W' := by
  have hW' := hW
  obtain ⟨p, q, hA, hV, rfl, hfz, hnd⟩ := hW
  have hgs : gs = [] ∧ q = [] := by rw [hsv] at hV; exact trodVars_none hV
  obtain ⟨rfl, rfl⟩ := hgs
  obtain ⟨xs, hl, hxs, hfit⟩ := open_argsS (b := base) hx hk _ _ _ _ hpar (fun j t v h1 h2 => hval j t v (by simpa using h1) (by simpa using h2)) hA
  have hlen := trodAll_length hA
  have hr := (hret xs hl fun i t x h1 h2 => by
    obtain ⟨q1, d, q2, q3⟩ := hfit i t x h1 h2
    exact ⟨q1, q3.mono (hB d (by simp [q2]))⟩).2 W args.toList noOwn (fun k h => h.elim) hg (by omega) hxs
  simp only [Array.toArray_toList] at hr
  refine hr.mono fun e W' ⟨c, he, hrd, hb⟩ => ?_
  subst he
  obtain ⟨cells, hc1, hc2⟩ := (show RD1 W' noOwn (.bool true) c from hrd)
  cases hc1
  have hc : c = .bool true := hc2
  subst hc
  have hlt : ∀ x ∈ p, x.block < W.heap.size := fun x hx => by
    have := hW'.lt x (by simpa using hx)
    exact this
  have hds : s.fn H (ds ++ []) = { results := [.lit (.bool true)], args := ds } := by
    rw [List.append_nil]
    exact hfn ds (by omega)
  refine ⟨_, rfl, post_below (pa := p) (pv := []) hW' (fun b sp hd => ?_) ?_ ?_ rfl hb ha⟩
  · rw [hds, hres]
    exact trodAll_mk1 (shut_bool hub true)
  · rw [hds]
    exact args_stay hlo hb hread hlt hA
  · rw [hds, hsv]
    rfl

end
end Go.Fw
