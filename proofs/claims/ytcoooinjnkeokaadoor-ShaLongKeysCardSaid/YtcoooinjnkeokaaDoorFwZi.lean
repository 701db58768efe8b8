/-
A law's call, out of what the law returns on data. No conditions.
-/
import Derived.Test.YtcoooinjnkeokaaDoorFwZh
import Derived.ChangeSame
import Derived.ChangeCalls
import Derived.Handed
import Derived.LaidLaws
import Derived.LaidMore
import Derived.Stop.Joined
import Derived.SevenTiedAt
namespace Go.Fw
set_option linter.unusedVariables false
set_option linter.unusedSimpArgs false
open Go.RowKit Go.WideShapes Go.ChangeShapes

section
variable {H : Type} {enc : TypeId × Value → H} {P : Program}

/-- A law's last step where nothing that was there has turned. -/
theorem post_below {f : Func} {s : ChangeSpec} {apart fresh handsOn again : Bool} {W W' : World} {args : Array Value} {v : Value} {ds gs : List (DataW H)} {before pa pv : List MemPlace}
    (hW : DataW.Whole enc P f.params.toList s.vars apart W args.toList ds gs before)
    (hres : ∀ (b : Nat) (sp : Nat → Bool) (hd : Bool), DataW.TrodAll enc P W' b sp hd f.resultTypes.toList (v.resultList f.resultTypes.size) (s.fn H (ds ++ gs)).results [])
    (hargs : DataW.TrodAll enc P W' 0 (fun b => decide (b < W.heap.size)) true f.params.toList args.toList (s.fn H (ds ++ gs)).args pa)
    (hvars : DataW.TrodVars enc P W' (fun b => decide (b < W.heap.size)) s.vars (s.fn H (ds ++ gs)).vars pv)
    (hps : before = pa ++ pv) (hb : Below W.heap.size W W') (ha : again = false) :
    s.post enc P f apart fresh handsOn again W args v W' := by
  refine ⟨ds, gs, before, [], pa, pv, hW, hres _ _ _, hargs, hvars, World.keptBut_mono (fun p hp => ⟨hp, ?_⟩) (hb.frame (· ∈ before)), fun h => ?_⟩
  · rw [hps, List.mem_append] at hp
    exact Or.inr hp
  · rw [ha] at h; cases h
end

section
variable {cx : Cx} {H : Type} {enc : TypeId × Value → H} {W : World}

theorem okWide_pack (hx : CxOK cx) {base n : Nat} {t : TypeId} {te : TyE} {v : Value} (hp : plainB cx n t = true) (ht : cx.ty t = some te) (h : Value.okWide cx.P W .any base t v) : v = pack te.sh v.cells.toList := by
  have hT := hx.ty t te ht
  have hu := hT.under
  have one : ∀ {v : Value}, (∀ cs, v ≠ .agg cs) → v = pack .one v.cells.toList := fun {v} hv => by
    cases v <;> first | rfl | exact absurd rfl (hv _)
  have agg : ∀ {cs : Array Value} {sh : Sh}, sh ≠ .one → Value.agg cs = pack sh (Value.agg cs).cells.toList := fun {cs sh} hs => by
    cases sh <;> first | exact absurd rfl hs | (simp [pack, Value.cells])
  cases n with
  | zero => simp [plainB] at hp
  | succ n =>
    simp only [plainB, ht] at hp
    cases hty : te.ty with
    | int k =>
      rw [hty] at hu
      rw [hu.2]
      refine one fun cs hv => ?_
      subst hv
      simp [Value.okWide, hu.1, Cell.okWide, Cell.ok] at h
    | bool =>
      rw [hty] at hu
      rw [hu.2]
      refine one fun cs hv => ?_
      subst hv
      simp [Value.okWide, hu.1, Cell.okWide, Cell.ok] at h
    | str =>
      rw [hty] at hu
      rw [hu.2]
      refine one fun cs hv => ?_
      subst hv
      simp [Value.okWide, hu.1, Cell.okWide, Cell.ok] at h
    | sl e =>
      rw [hty] at hu
      rw [hu.2]
      refine one fun cs hv => ?_
      subst hv
      simp [Value.okWide, hu.1, Cell.okWide, Cell.ok] at h
    | arr k e =>
      rw [hty] at hu
      obtain ⟨hu, ee, he, hsh⟩ := hu
      simp only [Value.okWide, hu] at h
      obtain ⟨cs, rfl, _⟩ := h
      exact agg (by rw [hsh]; intro h; cases h)
    | st fs =>
      rw [hty] at hu
      obtain ⟨fields, shs, hu, _, hfl, hsh, _⟩ := hu
      simp only [Value.okWide, hu] at h
      obtain ⟨cs, rfl, _⟩ := h
      exact agg (by rw [hsh]; intro h; cases h)
    | ptr e => simp [hty] at hp
    | fn => simp [hty] at hp
    | tup => simp [hty] at hp

theorem plainB_ty {cx : Cx} {n : Nat} {t : TypeId} (h : plainB cx n t = true) : ∃ te, cx.ty t = some te := by
  cases n with
  | zero => simp [plainB] at h
  | succ n =>
    simp only [plainB] at h
    cases ht : cx.ty t with
    | none => simp [ht] at h
    | some te => exact ⟨te, rfl⟩

/-- The arguments as data. -/
theorem open_args (hx : CxOK cx) {base : Nat} {sp : Nat → Bool} {b : Nat} {held : Bool} : ∀ (ts : List TypeId) (vs : List Value) (ds : List (DataW H)) (ps : List MemPlace), ts.all (plainB cx 20) = true →
    (∀ (j : Nat) t v, ts[j]? = some t → vs[j]? = some v → Value.okWide cx.P W .any b t v) → DataW.TrodAll enc cx.P W base sp held ts vs ds ps →
    ∃ xs : List D, xs.length = ts.length ∧ (∀ (i : Nat) x c, xs[i]? = some x → vs[i]? = some c → RD1 W noOwn x c) ∧ ∀ (i : Nat) t x, ts[i]? = some t → xs[i]? = some x → Fits cx t x
  | [], vs, ds, ps, _, _, h => ⟨[], rfl, fun i x c h => by simp at h, fun i t x h => by simp at h⟩
  | t :: ts, [], ds, ps, _, _, h => h.elim
  | t :: ts, v :: vs, [], ps, _, _, h => h.elim
  | t :: ts, v :: vs, d :: ds, ps, hp, hv, h => by
    obtain ⟨p, q, ⟨fuel, h1⟩, h2, _⟩ := h
    simp only [List.all_cons, Bool.and_eq_true] at hp
    obtain ⟨te, ht⟩ := plainB_ty hp.1
    obtain ⟨x, hr, hf⟩ := open_rc hx fuel 20 t te _ _ hp.1 ht h1
    have hpk := okWide_pack hx hp.1 ht (hv 0 t v rfl rfl)
    obtain ⟨xs, hl, h3, h4⟩ := open_args hx ts vs ds q hp.2 (fun j t v h1 h2 => hv (j + 1) t v (by simpa using h1) (by simpa using h2)) h2
    refine ⟨x :: xs, by simp [hl], fun i y c h1 h2 => ?_, fun i t' y h1 h2 => ?_⟩
    · cases i with
      | zero =>
        simp at h1 h2
        subst h1; subst h2
        exact ⟨v.cells.toList, by rw [hr.sh_eq]; exact hr, by rw [hr.sh_eq]; exact hpk⟩
      | succ i => exact h3 i y c (by simpa using h1) (by simpa using h2)
    · cases i with
      | zero =>
        simp at h1 h2
        subst h1; subst h2
        exact hf
      | succ i => exact h4 i t' y (by simpa using h1) (by simpa using h2)

/-- The arguments read behind the call as they did before. -/
theorem args_stay (hl : laidOutB cx.P = true) {W' : World} (hb : Below W.heap.size W W') : ∀ {ts : List TypeId} {vs : List Value} {ds : List (DataW H)} {ps : List MemPlace}, ts.all (fun t => cx.P.readableRec t && Nat.blt t cx.P.types.size) = true →
    (∀ p ∈ ps, p.block < W.heap.size) → DataW.TrodAll enc cx.P W 0 (fun _ => true) true ts vs ds ps → DataW.TrodAll enc cx.P W' 0 (fun b => decide (b < W.heap.size)) true ts vs ds ps
  | [], [], [], ps, _, _, h => h
  | [], _ :: _, _, ps, _, _, h => h.elim
  | [], [], _ :: _, ps, _, _, h => h.elim
  | t :: ts, [], ds, ps, _, _, h => h.elim
  | t :: ts, v :: vs, [], ps, _, _, h => h.elim
  | t :: ts, v :: vs, d :: ds, ps, ht, hp, h => by
    obtain ⟨p, q, h1, h2, rfl⟩ := h
    simp only [List.all_cons, Bool.and_eq_true] at ht
    exact ⟨p, q, Below.trod hl ht.1.1 (blt_lt ht.1.2) h1 hb (fun x hx => hp x (by simp [hx])), args_stay hl hb ht.2 (fun x hx => hp x (by simp [hx])) h2, rfl⟩

theorem law_calls (hx : CxOK cx) {f : FuncId} {fn : Func} {s : ChangeSpec} {n : Nat} {tb : TypeId} (hpar : fn.params.toList.all (plainB cx 20) = true) (hread : fn.params.toList.all (fun t => cx.P.readableRec t && Nat.blt t cx.P.types.size) = true)
    (hlo : laidOutB cx.P = true) (hn : fn.params.toList.length = n) (hres : fn.resultTypes = #[tb]) (hub : cx.P.underlying tb = some .bool) (hsv : s.vars = [])
    (hfn : ∀ ds : List (DataW H), ds.length = n → s.fn H ds = { results := [.lit (.bool true)], args := ds })
    (hret : ∀ xs : List D, xs.length = fn.params.toList.length → (∀ (i : Nat) t x, fn.params.toList[i]? = some t → xs[i]? = some x → Fits cx t x) → Returns cx f xs (.bool true))
    {base : Nat} {args : Array Value} {ds gs : List (DataW H)} {before : List MemPlace} {apart fresh handsOn again : Bool} (ha : again = false)
    (hval : ∀ (j : Nat) t v, fn.params[j]? = some t → args[j]? = some v → Value.okWide cx.P W .any base t v)
    (hW : DataW.Whole enc cx.P fn.params.toList s.vars apart W args.toList ds gs before) (hg : GOK cx W noOwn) :
    Calls cx.P f args W fun e W' => ∃ v, e = .returned v ∧ s.post enc cx.P fn apart fresh handsOn again W args v W' := by
  have hW' := hW
  obtain ⟨p, q, hA, hV, rfl, hfz, hnd⟩ := hW
  have hgs : gs = [] ∧ q = [] := by rw [hsv] at hV; exact trodVars_none hV
  obtain ⟨rfl, rfl⟩ := hgs
  obtain ⟨xs, hl, hxs, hfit⟩ := open_args (b := base) hx _ _ _ _ hpar (fun j t v h1 h2 => hval j t v (by simpa using h1) (by simpa using h2)) hA
  have hlen := trodAll_length hA
  have hr := (hret xs hl hfit).2 W args.toList noOwn (fun k h => h.elim) hg (by omega) hxs
  simp only [Array.toArray_toList] at hr
  refine hr.mono fun e W' ⟨c, he, hrd, hb⟩ => ?_
  subst he
  obtain ⟨cells, hc1, hc2⟩ := (show RD1 W' noOwn (.bool true) c from hrd)
  cases hc1
  have hc : c = .bool true := hc2
  subst hc
  have hlt : ∀ x ∈ p, x.block < W.heap.size := fun x hx => by
    have := hW'.lt x (by simpa using hx)
    exact this
  have hds : s.fn H (ds ++ []) = { results := [.lit (.bool true)], args := ds } := by
    rw [List.append_nil]
    exact hfn ds (by omega)
  refine ⟨_, rfl, post_below (pa := p) (pv := []) hW' (fun b sp hd => ?_) ?_ ?_ rfl hb ha⟩
  · rw [hds, hres]
    exact trodAll_mk1 (shut_bool hub true)
  · rw [hds]
    exact args_stay hlo hb hread hlt hA
  · rw [hds, hsv]
    rfl

/-- A listed variable: an array of numbers. -/
theorem glob_ints {P : Program} {W : World} {nm : String} {g m : Nat} {t e : TypeId} {cs : Array Value} {fuel : Nat} {sp : Nat → Bool} {held : Bool} {d : DataW H} {p : List MemPlace} {k : IntKind} {own : Nat → Prop}
    (hg : P.globalNamed nm = some g) (hv : W.var? P nm = some cs) (ht : P.underlying t = some (.array m e)) (he : P.underlying e = some (.int k)) (hce : P.cellsOf e = 1) (hct : P.cellsOf t = m)
    (hd : DataW.trod enc P W 0 sp held fuel t cs.toList = some (d, p)) (l : List Int) (hl : d = .agg (l.map fun v => .lit (.int k v))) :
    ∃ cells, RC W own (.arr m .one) (.arr m .one (l.map (.int k))) cells ∧ ∀ (j : Nat) c, cells[j]? = some c → W.cell? ⟨g, j, none⟩ = some c := by
  obtain ⟨xs, f, _, hx, hlen, hxl, hget⟩ := DataW.trod_array ht hd
  rw [hce] at hget
  rw [hct] at hlen
  have hml : l.length = m := by
    have : (xs.map (·.1)) = l.map fun v => (.lit (.int k v) : DataW H) := by
      have := (Prod.mk.inj hx).1
      rw [hl] at this
      exact (DataW.agg.inj this).symm
    have := congrArg List.length this
    simp at this
    omega
  have hcell : ∀ i, i < m → cs.toList[i]? = some (.int k (l.getD i 0)) := fun i hi => by
    have h1 := hget i hi
    have hi' : i < xs.length := by omega
    rw [List.getElem?_eq_getElem hi'] at h1
    obtain ⟨n, h2, h3, _⟩ := DataW.trod_int he h1
    have h4 : (xs.map (·.1))[i]? = some (.lit (.int k n)) := by rw [List.getElem?_map, List.getElem?_eq_getElem hi', h3]; rfl
    have h5 : (xs.map (·.1)) = l.map fun v => (.lit (.int k v) : DataW H) := by
      have := (Prod.mk.inj hx).1
      rw [hl] at this
      exact (DataW.agg.inj this).symm
    rw [h5, List.getElem?_map, List.getElem?_eq_getElem (by omega)] at h4
    have h6 : l.getD i 0 = n := by
      rw [getD_get _ _ _ (by omega)]
      simpa using h4
    rw [h6]
    have h7 : (cs.toList.drop (i * 1)).take 1 = [.int k n] := h2
    rw [Nat.mul_one] at h7
    have h8 : ((cs.toList.drop i).take 1)[0]? = some (.int k n) := by rw [h7]; rfl
    rw [List.getElem?_take, if_pos (by omega), List.getElem?_drop, Nat.add_zero] at h8
    exact h8
  have hcs : cs.toList = l.map (.int k) := by
    refine List.ext_getElem? fun i => ?_
    rcases Nat.lt_or_ge i m with hi | hi
    · rw [hcell i hi, List.getElem?_map, List.getElem?_eq_getElem (by omega), getD_get _ _ _ (by omega)]; rfl
    · rw [List.getElem?_eq_none (by omega), List.getElem?_eq_none (by simp; omega)]
  refine ⟨cs.toList, ?_, fun j c hj => ?_⟩
  · have := RC.arr (w := W) (own := own) m .one (l.map (.int k)) ((l.map fun n => [.int k n])) (by simp) (by simp [hml]) (fun i x c h1 h2 => by
      rw [List.getElem?_map] at h1 h2
      cases hi : l[i]? with
      | none => rw [hi] at h1; cases h1
      | some n =>
        rw [hi] at h1 h2
        simp at h1 h2
        subst h1; subst h2
        exact .int k n)
    rw [hcs]
    have e : (l.map fun n => [Value.int k n]).flatten = l.map (.int k) := by
      clear hcs hcell hml hl this
      induction l with
      | nil => rfl
      | cons a r ih => simp [ih]
    rw [e] at this
    exact this
  · rw [World.var?_cell hg hv j]
    simpa using hj
end
section
variable {cx : Cx}
theorem ty_same {t : TypeId} {a b : TyE} (h : cx.ty t = some a) (h' : cx.ty t = some b) : a = b := Option.some.inj (h.symm.trans h')

theorem Fits.int_inv {t : TypeId} {te : TyE} {k : IntKind} {x : D} (h : Fits cx t x) (ht : cx.ty t = some te) (hk : te.ty = .int k) : ∃ n, x = .int k n ∧ inK k n := by
  cases h with
  | int _ te' k' n h1 h2 h3 => have := ty_same ht h1; subst this; rw [hk] at h2; cases h2; exact ⟨n, rfl, h3⟩
  | bool _ te' b h1 h2 => have := ty_same ht h1; subst this; rw [hk] at h2; cases h2
  | str _ te' l h1 h2 => have := ty_same ht h1; subst this; rw [hk] at h2; cases h2
  | sl _ e te' ee xs h1 h2 => have := ty_same ht h1; subst this; rw [hk] at h2; cases h2
  | arr _ e n te' ee xs h1 h2 => have := ty_same ht h1; subst this; rw [hk] at h2; cases h2
  | st _ fs te' xs h1 h2 => have := ty_same ht h1; subst this; rw [hk] at h2; cases h2

theorem Fits.bool_inv {t : TypeId} {te : TyE} {x : D} (h : Fits cx t x) (ht : cx.ty t = some te) (hk : te.ty = .bool) : ∃ b, x = .bool b := by
  cases h with
  | bool _ te' b h1 h2 => exact ⟨b, rfl⟩
  | int _ te' k' n h1 h2 h3 => have := ty_same ht h1; subst this; rw [hk] at h2; cases h2
  | str _ te' l h1 h2 => have := ty_same ht h1; subst this; rw [hk] at h2; cases h2
  | sl _ e te' ee xs h1 h2 => have := ty_same ht h1; subst this; rw [hk] at h2; cases h2
  | arr _ e n te' ee xs h1 h2 => have := ty_same ht h1; subst this; rw [hk] at h2; cases h2
  | st _ fs te' xs h1 h2 => have := ty_same ht h1; subst this; rw [hk] at h2; cases h2

theorem Fits.str_inv {t : TypeId} {te : TyE} {x : D} (h : Fits cx t x) (ht : cx.ty t = some te) (hk : te.ty = .str) : ∃ l, x = .str l ∧ l.length ≤ 9223372036854775807 := by
  cases h with
  | str _ te' l h1 h2 h3 => exact ⟨l, rfl, h3⟩
  | bool _ te' b h1 h2 => have := ty_same ht h1; subst this; rw [hk] at h2; cases h2
  | int _ te' k' n h1 h2 h3 => have := ty_same ht h1; subst this; rw [hk] at h2; cases h2
  | sl _ e te' ee xs h1 h2 => have := ty_same ht h1; subst this; rw [hk] at h2; cases h2
  | arr _ e n te' ee xs h1 h2 => have := ty_same ht h1; subst this; rw [hk] at h2; cases h2
  | st _ fs te' xs h1 h2 => have := ty_same ht h1; subst this; rw [hk] at h2; cases h2

theorem Fits.sl_inv {t e : TypeId} {te ee : TyE} {x : D} (h : Fits cx t x) (ht : cx.ty t = some te) (hk : te.ty = .sl e) (he : cx.ty e = some ee) : ∃ xs, x = .ro ee.sh false xs ∧ xs.length ≤ 9223372036854775807 ∧ ∀ y ∈ xs, Fits cx e y := by
  cases h with
  | sl _ e' te' ee' xs h1 h2 h3 h4 h5 =>
    have := ty_same ht h1; subst this; rw [hk] at h2; cases h2
    have := ty_same he h3; subst this
    exact ⟨xs, rfl, h4, h5⟩
  | str _ te' l h1 h2 h3 => have := ty_same ht h1; subst this; rw [hk] at h2; cases h2
  | bool _ te' b h1 h2 => have := ty_same ht h1; subst this; rw [hk] at h2; cases h2
  | int _ te' k' n h1 h2 h3 => have := ty_same ht h1; subst this; rw [hk] at h2; cases h2
  | arr _ e n te' ee xs h1 h2 => have := ty_same ht h1; subst this; rw [hk] at h2; cases h2
  | st _ fs te' xs h1 h2 => have := ty_same ht h1; subst this; rw [hk] at h2; cases h2

theorem Fits.arr_inv {t e : TypeId} {n : Nat} {te ee : TyE} {x : D} (h : Fits cx t x) (ht : cx.ty t = some te) (hk : te.ty = .arr n e) (he : cx.ty e = some ee) : ∃ xs, x = .arr n ee.sh xs ∧ xs.length = n ∧ ∀ y ∈ xs, Fits cx e y := by
  cases h with
  | arr _ e' n' te' ee' xs h1 h2 h3 h4 h5 =>
    have := ty_same ht h1; subst this; rw [hk] at h2; cases h2
    have := ty_same he h3; subst this
    exact ⟨xs, rfl, h4, h5⟩
  | str _ te' l h1 h2 h3 => have := ty_same ht h1; subst this; rw [hk] at h2; cases h2
  | bool _ te' b h1 h2 => have := ty_same ht h1; subst this; rw [hk] at h2; cases h2
  | int _ te' k' n h1 h2 h3 => have := ty_same ht h1; subst this; rw [hk] at h2; cases h2
  | sl _ e te' ee xs h1 h2 => have := ty_same ht h1; subst this; rw [hk] at h2; cases h2
  | st _ fs te' xs h1 h2 => have := ty_same ht h1; subst this; rw [hk] at h2; cases h2

theorem Fits.st_inv {t : TypeId} {fs : List TypeId} {te : TyE} {x : D} (h : Fits cx t x) (ht : cx.ty t = some te) (hk : te.ty = .st fs) : ∃ xs, x = .st xs ∧ xs.length = fs.length ∧ ∀ (i : Nat) f y, fs[i]? = some f → xs[i]? = some y → Fits cx f y := by
  cases h with
  | st _ fs' te' xs h1 h2 h3 h4 =>
    have := ty_same ht h1; subst this; rw [hk] at h2; cases h2
    exact ⟨xs, rfl, h3, h4⟩
  | str _ te' l h1 h2 h3 => have := ty_same ht h1; subst this; rw [hk] at h2; cases h2
  | bool _ te' b h1 h2 => have := ty_same ht h1; subst this; rw [hk] at h2; cases h2
  | int _ te' k' n h1 h2 h3 => have := ty_same ht h1; subst this; rw [hk] at h2; cases h2
  | sl _ e te' ee xs h1 h2 => have := ty_same ht h1; subst this; rw [hk] at h2; cases h2
  | arr _ e n te' ee xs h1 h2 => have := ty_same ht h1; subst this; rw [hk] at h2; cases h2

theorem fits_ints {e : TypeId} {ee : TyE} {k : IntKind} (he : cx.ty e = some ee) (hk : ee.ty = .int k) : ∀ {xs : List D}, (∀ y ∈ xs, Fits cx e y) → ∃ l : List Int, xs = l.map (.int k) ∧ l.length = xs.length ∧ ∀ v ∈ l, inK k v
  | [], _ => ⟨[], rfl, rfl, fun v h => by simp at h⟩
  | x :: xs, h => by
    obtain ⟨n, rfl, hn⟩ := (h x (by simp)).int_inv he hk
    obtain ⟨l, h1, h2, h3⟩ := fits_ints he hk (xs := xs) fun y hy => h y (by simp [hy])
    refine ⟨n :: l, by simp [h1], by simp [h2], fun v hv => ?_⟩
    rcases List.mem_cons.1 hv with rfl | hv
    · exact hn
    · exact h3 v hv

theorem Fits.ints_inv {t e : TypeId} {n : Nat} {te ee : TyE} {k : IntKind} {x : D} (h : Fits cx t x) (ht : cx.ty t = some te) (hk : te.ty = .arr n e) (he : cx.ty e = some ee) (hke : ee.ty = .int k) (hs : ee.sh = .one) :
    ∃ l : List Int, x = .arr n .one (l.map (.int k)) ∧ l.length = n ∧ ∀ v ∈ l, inK k v := by
  obtain ⟨xs, rfl, h1, h2⟩ := h.arr_inv ht hk he
  obtain ⟨l, rfl, h3, h4⟩ := fits_ints he hke h2
  exact ⟨l, by rw [hs], by omega, h4⟩
theorem Fits.slice_inv {t e : TypeId} {te ee : TyE} {k : IntKind} {x : D} (h : Fits cx t x) (ht : cx.ty t = some te) (hk : te.ty = .sl e) (he : cx.ty e = some ee) (hke : ee.ty = .int k) (hs : ee.sh = .one) :
    ∃ l : List Int, x = .ro .one false (l.map (.int k)) ∧ l.length ≤ 9223372036854775807 ∧ ∀ v ∈ l, inK k v := by
  obtain ⟨xs, rfl, h1, h2⟩ := h.sl_inv ht hk he
  obtain ⟨l, rfl, h3, h4⟩ := fits_ints he hke h2
  exact ⟨l, by rw [hs], by omega, h4⟩
end
end Go.Fw
