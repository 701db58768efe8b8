/-
What a call returns, out of W. No conditions.
-/
import Derived.Test.YtcoooinjnkeokaaDoorFwZb
namespace Go.Fw
set_option linter.unusedVariables false
set_option linter.unusedSimpArgs false
open Go.RowKit

section
variable {cx : Cx} {B n : Nat} {w0 : World} {far : Nat → Prop} {w : World} {m : M} {H : Heap} {rd : Nat → Option Blk}

/-- The memory behind an own slice is not the callers'. -/
theorem slice_far (hh : HeapOK cx B w m H) (hrd : Rd rd H) {v : V} {ad : Addr} {len cap : Nat} (hv : RV w m H v (.slice (some ad) len cap)) (hlen : 0 < len) {k : Bool → D → Prop} (hg : vslice rd v k) (hd : ∀ x, v ≠ .d x) : ¬ m.far ad.block := by
  have key : ∀ {b x k cap}, live H b x → m.ι b = some (k, cap) → ¬ m.far k := fun hl hi hf => by
    have h1 := hh.far _ hf
    have h2 := hh.lo _ _ _ _ hl hi
    omega
  cases v with
  | d x => exact absurd rfl (hd x)
  | sl b off ver =>
    obtain ⟨blk, hb, hg⟩ := onS_elim hg
    cases blk with
    | fix v => exact hg.elim
    | grow ver' e xs =>
      obtain ⟨he, hk⟩ := onE_elim hg
      have hl := hrd b _ hb
      obtain ⟨cs, hr, hc⟩ := hv.elim rfl
      cases hr with
      | sl _ _ _ c' ho hb' h =>
        have hc : Value.slice (some ad) len cap = c' := hc
        obtain ⟨hle, hor⟩ := (h ver' e xs hl).2 he
        rcases hor with ⟨_, h2⟩ | ⟨kk, cap', a, hi, hcap, h2, ha⟩
        · rw [h2] at hc; simp at hc
        · rw [h2] at hc
          simp only [Value.slice.injEq] at hc
          have := ha (by omega)
          rw [this] at hc
          have he := hc.1
          cases he
          exact key hl hi
  | sub b off len' ver =>
    obtain ⟨blk, hb, hg⟩ := onS_elim hg
    cases blk with
    | fix v => exact hg.elim
    | grow ver' e xs =>
      obtain ⟨he, hk⟩ := onE_elim hg
      have hl := hrd b _ hb
      obtain ⟨cs, hr, hc⟩ := hv.elim rfl
      cases hr with
      | sub _ _ _ _ c' ho hb' h =>
        have hc : Value.slice (some ad) len cap = c' := hc
        obtain ⟨hle, cap', a, h2, hcl, ha⟩ := (h ver' e xs hl).2 he
        rw [h2] at hc
        simp only [Value.slice.injEq] at hc
        obtain ⟨kk, cp, hi, ha⟩ := ha (by omega)
        rw [ha] at hc
        have he := hc.1
        cases he
        exact key hl hi
  | sa b path off len' =>
    obtain ⟨blk, hb, hg⟩ := onS_elim hg
    cases blk with
    | grow ver' e xs => exact hg.elim
    | fix v =>
      have hl := hrd b _ hb
      obtain ⟨cs, hr, hc⟩ := hv.elim rfl
      cases hr with
      | sa _ _ _ _ c' ho hb' h =>
        have hc : Value.slice (some ad) len cap = c' := hc
        obtain ⟨kk, cp, o, nn, e, a, hi, hp, hle, h2, ha⟩ := h v hl
        rw [h2] at hc
        simp only [Value.slice.injEq] at hc
        have := ha (by omega)
        rw [this] at hc
        have he := hc.1
        cases he
        exact key hl hi
  | _ => exact hg.elim

theorem slice_rc (hh : HeapOK cx B w m H) (hrd : Rd rd H) {v : V} {c : Value} (hv : RV w m H v c) {e : Sh} {xs : List D} (hs : SlAt w m H e xs c) {k : Bool → D → Prop} (hg : vslice rd v k) (hd : ∀ x, v ≠ .d x) : RC w m.far .one (.ro e false xs) [c] := by
  obtain ⟨a, cap, css, rfl, hc, hl, h1, h2⟩ := hs
  refine .ro e false xs a cap css hl hc (by intro h; cases h) (fun i x cs a b => (h1 i x cs a b).mono fun _ _ h hn => ⟨h, fun h => hn (.inl h)⟩) (fun i cs j c a b => ?_)
  obtain ⟨ad, rfl, h4⟩ := h2 i cs j c a b
  refine ⟨ad, rfl, h4, slice_far hh hrd hv ?_ hg hd⟩
  have := (List.getElem?_eq_some_iff.1 a).1
  omega

theorem views_far {shs : List Sh} {k : Bool → List D → Prop} : ∀ (xs : List V) (i : Nat) (css : List (List Value)),
    (∀ (j : Nat) s x cs, shs[i + j]? = some s → xs[j]? = some x → css[j]? = some cs → ∀ k : Bool → D → Prop, view rd x k → ∃ b y, k b y ∧ RC w m.far s y cs) →
    css.length = xs.length → i + xs.length = shs.length → views rd xs k →
    ∃ b ys, k b ys ∧ ys.length = xs.length ∧ (∀ (j : Nat) s y cs, shs[i + j]? = some s → ys[j]? = some y → css[j]? = some cs → RC w m.far s y cs)
  | [], i, css, _, _, _, hg => ⟨false, [], hg, rfl, fun j s y cs _ h => by simp at h⟩
  | x :: xs, i, css, h, hl, hs, hg => by
    cases css with
    | nil => simp at hl
    | cons c0 cr =>
      simp only [List.length_cons] at hl hs
      have hs0 : shs[i + 0]? = some (shs[i]'(by omega)) := by rw [Nat.add_zero]; exact List.getElem?_eq_getElem (by omega)
      obtain ⟨b, y, hk, r1⟩ := h 0 _ x c0 hs0 rfl rfl _ hg
      obtain ⟨b', ys, hk, hyl, hr⟩ := views_far xs (i + 1) cr (fun j s x cs a b c => h (j + 1) s x cs (by rw [← a]; congr 1; omega) (by simpa using b) (by simpa using c)) (by omega) (by omega) hk
      refine ⟨b || b', y :: ys, hk, by simp [hyl], fun j s z cs a p q => ?_⟩
      cases j with
      | zero =>
        rw [hs0] at a
        simp at p q
        cases a; subst p; subst q
        exact r1
      | succ j => exact hr j s z cs (by rw [← a]; congr 1; omega) (by simpa using p) (by simpa using q)

theorem view_far (hh : HeapOK cx B w m H) (hrd : Rd rd H) {sh : Sh} {v : V} {cs : List Value} (h : RCV w m H sh v cs) : ∀ k : Bool → D → Prop, view rd v k → ∃ b x, k b x ∧ RC w m.far sh x cs := by
  have slice : ∀ {v : V} {c : Value}, (∀ x, v ≠ .d x) → RCV w m H .one v [c] → v.sh = .one → ∀ k : Bool → D → Prop, vslice rd v k → ∃ b x, k b x ∧ RC w m.far .one x [c] := by
    intro v c hv hr hs k hg
    obtain ⟨b, x, hk, hor⟩ := vslice_sound hh hrd (RV.one_cell hr hs) hg
    rcases hor with ⟨_, rfl⟩ | ⟨rfl, e, xs, rfl, hsl⟩
    · exact absurd rfl (hv x)
    · exact ⟨true, _, hk, slice_rc hh hrd (RV.one_cell hr hs) hsl hg hv⟩
  induction h with
  | d sh x cs h => intro k hg; exact ⟨false, x, hg, h.mono fun _ _ h hn => ⟨h, fun h => hn (.inl h)⟩⟩
  | st shs xs css hl hs h ih =>
    intro k hg
    obtain ⟨b, ys, hk, hyl, hr⟩ := views_far (shs := shs) xs 0 css (fun j s x cs a b c => ih j s x cs (by simpa using a) b c) hl (by omega) hg
    exact ⟨b, .st ys, hk, .st shs ys css (by omega) (by omega) (fun i s x cs a b c => hr i s x cs (by simpa using a) b c)⟩
  | any c h => intro k hg; exact hg.elim
  | ptr b ver path sh a hb h => intro k hg; exact hg.elim
  | parr b off n ver c ho hb h => intro k hg; exact hg.elim
  | rop x a cs h hm => intro k hg; exact hg.elim
  | sl b off ver c ho hb h => exact slice (by intro x h; cases h) (.sl b off ver c ho hb h) rfl
  | sub b off len ver c ho hb h => exact slice (by intro x h; cases h) (.sub b off len ver c ho hb h) rfl
  | sa b path off len c ho hb h => exact slice (by intro x h; cases h) (.sa b path off len c ho hb h) rfl

theorem rdH_rd (H : Heap) : Rd (rdH H) H := by
  intro b x h
  unfold rdH at h
  unfold live
  rw [List.getD_eq_getElem?_getD] at h
  cases hg : H[b]? with
  | none => rw [hg] at h; cases h
  | some y => rw [hg] at h; simpa using h

/-- One result. -/
def resVar (P : Program) (tmps : Array Value) : ResultVar → Sem Value
  | .tmp t => pure (tmps.getD t undef)
  | .cell a t => do loadVar t (← asAddr (tmps.getD a undef))

theorem view_rd1 (hh : HeapOK cx B w m H) {v : V} {c : Value} (hv : RV w m H v c) (hcv : cellV v = true) {k : D → Prop} (hg : view (rdH H) v fun _ d => k d) : ∃ d, k d ∧ RD1 w m.far d c := by
  obtain ⟨cs, hr, rfl⟩ := hv.elim hcv
  obtain ⟨b, x, hk, h1⟩ := view_far hh (rdH_rd H) hr _ hg
  have hsh := h1.sh_eq
  exact ⟨x, hk, cs, by rw [hsh]; exact h1, by rw [hsh]⟩

theorem resV_sound (hx : CxOK cx) {e : Env} {a : Act} (hr : RelS cx B n w0 far e H a w m) {r : ResultVar} {k : D → Prop} (hg : resV cx e H r k) :
    ∃ d c, k d ∧ (resVar cx.P a.tmps r).run cx.P w = .ok c w ∧ RD1 w m.far d c := by
  cases r with
  | tmp t =>
    obtain ⟨hcv, hg⟩ := onT_elim (show onT (cellV (e t)) (view (rdH H) (e t) fun _ d => k d) from hg)
    obtain ⟨d, hk, hd⟩ := view_rd1 hr.heap (hr.env t) hcv hg
    exact ⟨d, _, hk, by simp [resVar], hd⟩
  | cell ad t =>
    have hg : loadV cx (rdH H) t (e ad) fun v => onT (cellV v) (view (rdH H) v fun _ d => k d) := hg
    obtain ⟨u, c, hk, hrun, hv⟩ := loadV_sound hx hr.heap (rdH_rd H) (hr.env ad) hg
    obtain ⟨hcv, hk⟩ := onT_elim hk
    obtain ⟨d, hk, hd⟩ := view_rd1 hr.heap hv hcv hk
    refine ⟨d, c, hk, ?_, hd⟩
    simp only [Instr.loadAt, Sem.run_bind] at hrun
    have hs : (Instr.sureAddr (a.tmps.getD ad undef)).run cx.P w = (asAddr (a.tmps.getD ad undef)).run cx.P w ∨ ∃ x w', (Instr.sureAddr (a.tmps.getD ad undef)).run cx.P w = .halt x w' := by
      generalize a.tmps.getD ad undef = q
      cases q with
      | pointer p => cases p with
        | some p => left; rfl
        | none => right; exact ⟨_, _, rfl⟩
      | _ => right; exact ⟨_, _, rfl⟩
    rcases hs with hs | ⟨x, w', hs⟩
    · simp only [resVar, Sem.run_bind]
      rw [← hs]; exact hrun
    · rw [hs] at hrun
      cases hrun

theorem resVs_sound (hx : CxOK cx) {e : Env} {a : Act} (hr : RelS cx B n w0 far e H a w m) : ∀ {rs : List ResultVar} {k : List D → Prop}, resVs cx e H rs k →
    ∃ ds cs, k ds ∧ (rs.mapM (resVar cx.P a.tmps)).run cx.P w = .ok cs w ∧ cs.length = ds.length ∧ cs.length = rs.length ∧ ∀ (i : Nat) d c, ds[i]? = some d → cs[i]? = some c → RD1 w m.far d c
  | [], k, hg => ⟨[], [], hg, by simp, rfl, rfl, fun i d c h => by simp at h⟩
  | r :: rs, k, hg => by
    obtain ⟨d, c, hk, hrun, hd⟩ := resV_sound hx hr (show resV cx e H r fun x => resVs cx e H rs fun l => k (x :: l) from hg)
    obtain ⟨ds, cs, hk, hrun2, hl, hl2, hds⟩ := resVs_sound hx hr hk
    refine ⟨d :: ds, c :: cs, hk, ?_, by simp [hl], by simp [hl2], fun i d' c' h1 h2 => ?_⟩
    · simp [List.mapM_cons, hrun, hrun2]
    · cases i with
      | zero => simp at h1 h2; subst h1; subst h2; exact hd
      | succ i => exact hds i d' c' (by simpa using h1) (by simpa using h2)
end

theorem resK_sound {cx : Cx} {B n : Nat} {w0 : World} {far : Nat → Prop} {w : World} {m : M} {H : Heap} (hx : CxOK cx) {e : Env} {a : Act} (hr : RelS cx B n w0 far e H a w m) {fn : Func} {k : D → Prop} (hg : resK cx e H fn.results.toList k) :
    ∃ d c, k d ∧ (results fn a.tmps).run cx.P w = .ok c w ∧ RD w m.far d c := by
  have hres : ∀ vs : List Value, (fn.results.toList.mapM (resVar cx.P a.tmps)).run cx.P w = .ok vs w → (results fn a.tmps).run cx.P w = .ok (if h : vs.length = 1 then vs[0] else .tuple vs.toArray) w := fun vs h => by
    unfold results
    have e1 : (fn.results.mapM fun
      | .tmp t => pure (a.tmps.getD t undef)
      | .cell ad t => do loadVar t (← asAddr (a.tmps.getD ad undef)) : Sem (Array Value)) = fn.results.mapM (resVar cx.P a.tmps) := by
      congr 1


    have e2 : fn.results.mapM (resVar cx.P a.tmps) = (do return (← fn.results.toList.mapM (resVar cx.P a.tmps)).toArray) := by
      rw [Array.mapM_eq_mapM_toList]
      simp
    erw [e1, e2]
    simp only [Sem.run_bind, h, Result.andThen_ok, Sem.run_pure]
    split <;> rename_i hq <;> simp at hq <;> simp [hq]
  have many : ∀ {k' : List D → Prop}, fn.results.toList.length ≠ 1 → (∀ l, k' l → k (.tup l)) → resVs cx e H fn.results.toList k' → ∃ d c, k d ∧ (results fn a.tmps).run cx.P w = .ok c w ∧ RD w m.far d c := by
    intro k' hne hkk h
    obtain ⟨ds, cs, hk, hrun, hl, hl2, hds⟩ := resVs_sound hx hr h
    refine ⟨.tup ds, .tuple cs.toArray, hkk _ hk, ?_, cs, rfl, hl, hds⟩
    rw [hres cs hrun]
    rw [dif_neg (by omega)]
  generalize hq : fn.results.toList = rs at *
  match rs, hg with
  | [], hg => exact many (k' := fun l => k (.tup l)) (by simp) (fun _ h => h) hg
  | [r], hg =>
    obtain ⟨d, c, hk, hrun, hd⟩ := resV_sound hx hr hg
    refine ⟨d, c, hk, ?_, ?_⟩
    · rw [hres [c] (by simp [List.mapM_cons, hrun])]
      simp
    · cases d with
      | tup xs => obtain ⟨cells, h1, _⟩ := hd; cases h1
      | _ => exact hd
  | r1 :: r2 :: rs, hg => exact many (k' := fun l => k (.tup l)) (by simp) (fun _ h => h) hg

theorem RD.le {w : World} {own : Nat → Prop} {x y : D} {c : Value} (h : RD w own x c) (hl : D.le x y) : RD w own y c := by
  cases hl with
  | refl x => exact h
  | nils e => exact RD1.le (.nils e) h
  | loose e xs => exact RD1.le (.loose e xs) h
  | st xs ys hl h1 hs => exact RD1.le (.st xs ys hl h1 hs) h

theorem RD.anti {w : World} {own own' : Nat → Prop} {x : D} {c : Value} (h : RD w own x c) (hs : ∀ k, own' k → own k) : RD w own' x c := by
  have key : ∀ {x c}, RD1 w own x c → RD1 w own' x c := fun h => h.mono fun _ _ h hn => ⟨h, fun q => hn (hs _ q)⟩
  cases x with
  | tup xs =>
    obtain ⟨cs, h1, h2, h3⟩ := h
    exact ⟨cs, h1, h2, fun i x c a b => key (h3 i x c a b)⟩
  | _ => exact key h

theorem envArgs_get : ∀ (args : List D) (t : Nat), (∃ x, args[t]? = some x ∧ envArgs args t = .d x) ∨ (args[t]? = none ∧ envArgs args t = .any)
  | [], t => .inr ⟨by simp, by cases t <;> rfl⟩
  | x :: r, 0 => .inl ⟨x, rfl, rfl⟩
  | x :: r, t + 1 => by
    rcases envArgs_get r t with ⟨y, h1, h2⟩ | ⟨h1, h2⟩
    · exact .inl ⟨y, by simpa using h1, h2⟩
    · exact .inr ⟨by simpa using h1, h2⟩

/-- **What a function returns**, by W over its body. -/
theorem Returns.of_W {cx : Cx} (hx : CxOK cx) {f : FuncId} {fn : Func} {c : Code} (hf : cx.P.funcs[f]? = some fn) (hb : fn.body = some c) (hname : (fn.name == "runtime.NumGoroutine") = false)
    (hs : Hints) {args : List D} {v : D} (hok : okCode cx hs fn.ntmps c = true) (hn : args.length ≤ fn.ntmps) (h : W cx hs c (envArgs args) [] (postK cx fn.results.toList fun d => D.le d v)) : Returns cx f args v := by
  refine ⟨⟨fn, hf, hname, by rw [hb]; rfl⟩, fun w cargs far hfar hg hl hargs => ?_⟩
  refine calls_of_wp hf hb ?_
  have hnone : ∀ b x, ¬ live ([] : Heap) b x := fun b x h => by unfold live at h; simp at h
  have hown : ∀ k, Own ⟨fun _ => none, fun _ => False, far⟩ [] k → far k := fun k h => by
    rcases h with h | ⟨b, x, cap, hl, _⟩
    · exact h
    · exact absurd hl (hnone b x)
  have hr : RelS cx w.heap.size fn.ntmps w far (envArgs args) [] { tmps := cargs.toArray ++ Array.replicate (fn.ntmps - cargs.toArray.size) undef, defers := [] } w ⟨fun _ => none, fun _ => False, far⟩ := by
    refine ⟨⟨fun b x h => absurd h (hnone b x), fun b b' x x' k c c' h => absurd h (hnone b x), fun b x k c h => absurd h (hnone b x), fun b h => h.elim, fun b x h => absurd h (hnone b x), ?_, hfar, Nat.le_refl _⟩, fun t => ?_, ?_, rfl, .refl _ _, fun k h => h⟩
    · exact hg.mono (fun a c h hn => ⟨h, fun q => hn (hown _ q)⟩) (fun g x _ hn q => hn (hown _ q))
    · rcases envArgs_get args t with ⟨x, h1, h2⟩ | ⟨h1, h2⟩
      · rw [h2]
        have ht := (List.getElem?_eq_some_iff.1 h1).1
        have hc : cargs[t]? = some (cargs[t]'(by omega)) := List.getElem?_eq_getElem (by omega)
        obtain ⟨cells, q1, q2⟩ := hargs t x _ h1 hc
        have hv : (cargs.toArray ++ Array.replicate (fn.ntmps - cargs.toArray.size) undef).getD t undef = cargs[t]'(by omega) := by
          rw [Array.getD_eq_getD_getElem?, Array.getElem?_append_left (by simp; omega)]
          simp [hc]
        rw [hv]
        exact RCV.one_of (.d _ _ _ (q1.mono fun a c h hn => ⟨h, fun q => hn (hown _ q)⟩)) q2
      · rw [h2]; exact .any _
    · simp; omega
  refine W_sound hx c _ _ _ w _ _ _ hok hr ?_ h
  intro ex e H a w' m hp hs
  have fin : resK cx e H fn.results.toList (fun d => D.le d v) → a.defers = [] ∧ ∃ u, (results fn a.tmps).run cx.P w' = .ok u w' ∧ ∃ c, Ending.returned u = .returned c ∧ RD w' far v c ∧ Below w.heap.size w w' := fun h => by
    obtain ⟨d, u, hd, hrun, hrd⟩ := resK_sound hx hs h
    exact ⟨hs.defers, u, hrun, u, rfl, (hrd.le hd).anti hs.far, hs.below⟩
  cases ex with
  | normal => exact fin hp
  | ret => exact fin hp
  | exit id => exact hp.elim

theorem Returns.le {cx : Cx} {f : FuncId} {args : List D} {d v : D} (h : Returns cx f args d) (hl : D.le d v) : Returns cx f args v :=
  ⟨h.1, fun w cargs far h1 h2 h3 h4 => (h.2 w cargs far h1 h2 h3 h4).mono fun e w' ⟨c, he, hd, hb⟩ => ⟨c, he, hd.le hl, hb⟩⟩
end Go.Fw
