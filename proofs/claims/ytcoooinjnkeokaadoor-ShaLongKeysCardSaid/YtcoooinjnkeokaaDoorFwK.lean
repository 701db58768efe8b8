/-
Fields and elements of values, lengths, arithmetic, comparisons, conversions. No conditions.
-/
import Derived.Test.YtcoooinjnkeokaaDoorFwJ
import Derived.Laws.StructEq
import Derived.ChangeKeysEq
namespace Go.Fw
set_option linter.unusedVariables false
set_option linter.unusedSimpArgs false
open Go.RowKit

section
variable {cx : Cx} {B : Nat} {w : World} {m : M} {H : Heap} {rd : Nat → Option Blk}

theorem ty_st (hx : CxOK cx) {t : TypeId} {te : TyE} {fs : List TypeId} (h : cx.ty t = some te) (hty : te.ty = .st fs) :
    ∃ fields shs, cx.P.underlying t = some (.struct fields) ∧ cx.P.stoodInHeld t = false ∧ fields.size = fs.length ∧ te.sh = .st shs ∧ shs.length = fs.length ∧
        ∀ (i : Nat) f, fields[i]? = some f → fs[i]? = some f.type ∧ f.offset = Sh.cszs (shs.take i) ∧ f.name ≠ "_" ∧ ∃ fe, cx.ty f.type = some fe ∧ shs[i]? = some fe.sh := by
  have := (hx.ty t te h).under; rw [hty] at this; exact this

theorem run_part {t : TypeId} {te : TyE} (ht : TyP cx t te) {cs : List Value} {off : Nat} (hle : off + te.sh.csz ≤ cs.length) :
    (part t cs.toArray off).run cx.P w = .ok (pack te.sh ((cs.drop off).take te.sh.csz)) w := by
  unfold part
  simp only [Sem.run_bind, ht.run_isAgg w, Result.andThen_ok]
  cases hsh : te.sh with
  | one =>
    rw [hsh] at hle
    simp only [Sh.csz] at hle ⊢
    simp only [Sh.agg, Bool.false_eq_true, if_false]
    have h1 : cs[off]? = some (cs[off]'(by omega)) := List.getElem?_eq_getElem (by omega)
    rw [List.drop_eq_getElem_cons (by omega), List.getElem?_toArray, h1]
    rfl
  | arr n e => simp only [Sh.agg, if_true, Sem.run_bind, ht.run_sizeOf w, Result.andThen_ok, pack, hsh]; simp
  | st l => simp only [Sh.agg, if_true, Sem.run_bind, ht.run_sizeOf w, Result.andThen_ok, pack, hsh]; simp

theorem pack_agg {sh : Sh} {cs : List Value} (h : sh.agg = true) : pack sh cs = .agg cs.toArray := by
  cases sh with
  | one => cases h
  | arr n e => cases cs <;> rfl
  | st l => cases cs <;> rfl

/-- The type of a field, by its place. -/
theorem field_at (hx : CxOK cx) {t : TypeId} {te : TyE} {fs : List TypeId} (h : cx.ty t = some te) (hty : te.ty = .st fs) {l : List Sh} (hsh : te.sh = .st l) {f : Nat} {s : Sh} (hf : l[f]? = some s) :
    ∃ fields fd fe, cx.P.underlying t = some (.struct fields) ∧ fields[f]? = some fd ∧ fd.offset = Sh.cszs (l.take f) ∧ cx.ty fd.type = some fe ∧ fe.sh = s := by
  obtain ⟨fields, shs, hu, _, hsz, hs, hl, hfd⟩ := ty_st hx h hty
  rw [hsh] at hs
  cases hs
  have hlt : f < l.length := (List.getElem?_eq_some_iff.1 hf).1
  have h1 : fields[f]? = some (fields[f]'(by omega)) := Array.getElem?_eq_getElem (by omega)
  obtain ⟨_, ho, _, fe, hfe, hs⟩ := hfd f _ h1
  rw [hf] at hs
  cases hs
  exact ⟨fields, _, fe, hu, h1, ho, hfe, rfl⟩

theorem run_fieldAt {t : TypeId} {fields : Array Field} (hu : cx.P.underlying t = some (.struct fields)) {f : Nat} {fd : Field} (hf : fields[f]? = some fd) {fe : TyE} (hfe : TyP cx fd.type fe) {a : Addr} :
    (Instr.fieldAt t (.pointer (some a)) f).run cx.P w = .ok (.pointer (some (a.add fd.offset))) w := by
  have := hfe.pos
  have h0 : fe.sh.csz ≠ 0 := by omega
  simp [Instr.fieldAt, Instr.sureAddr, run_underlying hu, hf, fieldPlace, hfe.run_sizeOf w, h0]

/-- A part of a struct's value. -/
theorem run_field {t : TypeId} {fields : Array Field} (hu : cx.P.underlying t = some (.struct fields)) {f : Nat} {fd : Field} (hf : fields[f]? = some fd) {fe : TyE} (hfe : TyP cx fd.type fe) {cs : List Value}
    (hle : fd.offset + fe.sh.csz ≤ cs.length) : (Instr.field t (.agg cs.toArray) f).run cx.P w = .ok (pack fe.sh ((cs.drop fd.offset).take fe.sh.csz)) w := by
  simp [Instr.field, asAgg, run_underlying hu, hf, run_part hfe hle]

theorem run_len_slice {t ty e : TypeId} (hu : cx.P.underlying t = some (.slice e)) (a : Option Addr) (n cap : Nat) : (Builtin.len_ #[t] ty #[.slice a n cap]).run cx.P w = .ok (.int .i64 n) w := by
  show _ = Result.ok (goInt n) w
  simp [Builtin.len_, run_underlying hu]

theorem run_len_array {t ty e : TypeId} {n : Nat} (hu : cx.P.underlying t = some (.array n e)) (c : Value) : (Builtin.len_ #[t] ty #[c]).run cx.P w = .ok (.int .i64 n) w := by
  show _ = Result.ok (goInt n) w
  simp [Builtin.len_, run_underlying hu]

theorem lenV_sound (hx : CxOK cx) (hh : HeapOK cx B w m H) (hrd : Rd rd H) {t : TypeId} {x : V} {c : Value} {k : Nat → Prop} {ty : TypeId} (hv : RV w m H x c) (hg : lenV cx rd t x k) :
    ∃ n : Nat, k n ∧ (Builtin.len_ #[t] ty #[c]).run cx.P w = .ok (.int .i64 n) w := by
  obtain ⟨te, hte, hg⟩ := onS_elim hg
  have ht := hx.ty t te hte
  cases hty : te.ty with
  | str =>
    rw [hty] at hg
    have hu : cx.P.underlying t = some .string := by have := ht.under; rw [hty] at this; exact this.1
    cases x with
    | d y =>
      cases y with
      | str l =>
        have := hv.str_inv
        subst this
        refine ⟨l.length, hg, ?_⟩
        have e : (⟨l.toArray⟩ : ByteArray).size = l.length := by simp [ByteArray.size]
        rw [← e]
        exact run_len_string w t ty _ hu
      | _ => exact hg.elim
    | _ => exact hg.elim
  | arr n e =>
    rw [hty] at hg
    obtain ⟨hu, _⟩ := ty_arr hx hte hty
    cases x with
    | d y =>
      cases y with
      | arr n' e' xs =>
        exact ⟨n, hg, run_len_array hu _⟩
      | _ => exact hg.elim
    | _ => exact hg.elim
  | sl e =>
    rw [hty] at hg
    have hu := ty_sl hx hte hty
    cases x with
    | d y =>
      cases y with
      | nils => have := hv.nils_inv; subst this; exact ⟨0, hg, run_len_slice hu _ _ _⟩
      | ro e' t' xs =>
        obtain ⟨cs, h, hc⟩ := hv.elim rfl
        have h := h.of_d
        cases h with
        | ro _ _ _ a cap css hl hcap ht h0 hm =>
          have hc : c = .slice a xs.length cap := hc
          subst hc
          exact ⟨xs.length, hg, run_len_slice hu _ _ _⟩
      | _ => exact hg.elim
    | sl b off ver =>
      obtain ⟨blk, hb, hg⟩ := onS_elim hg
      cases blk with
      | fix v => exact hg.elim
      | grow ver' e xs =>
        obtain ⟨he, hk⟩ := onE_elim hg
        obtain ⟨_, a, cap, css, hc, _, hl, _⟩ := slAt_sl hh (hrd b _ hb) hv he
        subst hc
        exact ⟨_, hk, by rw [List.length_drop]; exact run_len_slice hu _ _ _⟩
    | sub b off len ver =>
      obtain ⟨blk, hb, hg⟩ := onS_elim hg
      cases blk with
      | fix v => exact hg.elim
      | grow ver' e xs =>
        obtain ⟨he, hk⟩ := onE_elim hg
        obtain ⟨hle, a, cap, css, hc, _, hl, _⟩ := slAt_sub hh (hrd b _ hb) hv he
        subst hc
        have : ((xs.drop off).take len).length = len := by simp; omega
        exact ⟨_, hk, by rw [this]; exact run_len_slice hu _ _ _⟩
    | sa b path off len =>
      obtain ⟨blk, hb, hg⟩ := onS_elim hg
      cases blk with
      | grow ver' e xs => exact hg.elim
      | fix v =>
        obtain ⟨cs, h, hc⟩ := hv.elim rfl
        cases h with
        | sa _ _ _ _ c' ho hbb h =>
          obtain ⟨kk, cap, o, n, e, a, _, _, _, hc2, _⟩ := h v (hrd b _ hb)
          have hc : c = c' := hc
          rw [hc, hc2]
          exact ⟨_, hg, run_len_slice hu _ _ _⟩
    | _ => exact hg.elim
  | _ => rw [hty] at hg; cases x <;> exact hg.elim

theorem minI_sound {op : Builtin} {l : List V} {cl : List Value} {k : V → Prop} {tt : Array TypeId} {ty : TypeId} (hl : cl.length = l.length) (hv : ∀ (i : Nat) x c, l[i]? = some x → cl[i]? = some c → RV w m H x c) (hg : minI op l k) :
    ∃ v c, k v ∧ RV w m H v c ∧ ((op = .min ∧ (Builtin.min_ tt ty cl.toArray).run cx.P w = .ok c w) ∨ (op = .max ∧ (Builtin.max_ tt ty cl.toArray).run cx.P w = .ok c w)) := by
  unfold minI at hg
  split at hg
  · rename_i a x b y
    obtain ⟨he, hk⟩ := onT_elim hg
    have he : a = b := by simpa using he
    subst he
    match cl, hl with
    | [c1, c2], _ =>
      have h1 := (hv 0 _ c1 rfl rfl).int_inv
      have h2 := (hv 1 _ c2 rfl rfl).int_inv
      subst h1; subst h2
      exact ⟨_, _, hk, .int a _, .inl ⟨rfl, by simp [Builtin.min_, Builtin.min2, List.foldlM]⟩⟩
  · rename_i a x b y
    obtain ⟨he, hk⟩ := onT_elim hg
    have he : a = b := by simpa using he
    subst he
    match cl, hl with
    | [c1, c2], _ =>
      have h1 := (hv 0 _ c1 rfl rfl).int_inv
      have h2 := (hv 1 _ c2 rfl rfl).int_inv
      subst h1; subst h2
      exact ⟨_, _, hk, .int a _, .inr ⟨rfl, by simp [Builtin.max_, Builtin.max2, List.foldlM]⟩⟩
  · exact hg.elim

theorem unV_sound {op : UnOp} {x : V} {c : Value} {k : V → Prop} (hv : RV w m H x c) (hg : unV op x k) : POK cx w m H k (Op.unary op c) := by
  unfold unV at hg
  split at hg
  · have := hv.int_inv; subst this; exact ⟨_, _, hg, by simp [Op.unary, Op.intArith], .int _ _⟩
  · have := hv.int_inv; subst this; exact ⟨_, _, hg, by simp [Op.unary, Op.intBits], .int _ _⟩
  · have := hv.bool_inv; subst this; exact ⟨_, _, hg, by simp [Op.unary], .bool _⟩
  · exact hg.elim

theorem eqGuard_int (op : BinOp) (t : TypeId) (x y : Operand) (ka kb : IntKind) (a b : Int) : (eqGuard op t x y (.int ka a) (.int kb b)).run cx.P w = .ok () w := by
  cases op <;> simp [eqGuard]
theorem eqGuard_str (op : BinOp) (t : TypeId) (x y : Operand) (a b : ByteArray) : (eqGuard op t x y (.string a) (.string b)).run cx.P w = .ok () w := by
  cases op <;> simp [eqGuard]
theorem eqGuard_bool (op : BinOp) (t : TypeId) (x y : Operand) (a b : Bool) : (eqGuard op t x y (.bool a) (.bool b)).run cx.P w = .ok () w := by
  cases op <;> simp [eqGuard]

theorem bytes_toList (l : List UInt8) : (⟨l.toArray⟩ : ByteArray).toList = l := by rw [ByteArray.toList_eq]

/-! Equality of plain data -/

theorem plain_guard (hx : CxOK cx) : ∀ (n : Nat) (t : TypeId), plainT cx n t = true → ∀ d, n ≤ d → cx.P.eqGuardType d t = false
  | 0, t, h, _, _ => by simp [plainT] at h
  | n + 1, t, h, d, hd => by
    obtain ⟨d, rfl⟩ : ∃ e, d = e + 1 := ⟨d - 1, by omega⟩
    simp only [plainT] at h
    cases hte : cx.ty t with
    | none => rw [hte] at h; cases h
    | some te =>
      rw [hte] at h
      have ht := (hx.ty t te hte).under
      cases hty : te.ty <;> simp only [hty] at h ht
      case int => simp [Program.eqGuardType, ht.1]
      case bool => simp [Program.eqGuardType, ht.1]
      case str => simp [Program.eqGuardType, ht.1]
      case arr k e =>
        simp only [Program.eqGuardType, ht.1]
        exact plain_guard hx n e h d (by omega)
      case st fs =>
        obtain ⟨fields, shs, hu, _, hsz, hs, hl, hfd⟩ := ht
        simp only [Program.eqGuardType, hu]
        rw [Array.any_eq_false]
        intro i hi
        obtain ⟨h1, _, _, fe, _, _⟩ := hfd i _ (Array.getElem?_eq_getElem hi)
        have hm : fields[i].type ∈ fs := List.mem_of_getElem? h1
        rw [List.all_eq_true] at h
        simp [plain_guard hx n _ (h _ hm) d (by omega)]
      all_goals cases h

theorem eqL_cons {f : D → D → Option Bool} {x y : D} {xs ys : List D} {b : Bool} (h : eqL f (x :: xs) (y :: ys) = some b) : ∃ p q, f x y = some p ∧ eqL f xs ys = some q ∧ b = (p && q) := by
  simp only [eqL] at h
  split at h
  · rename_i p q h1 h2; cases h; exact ⟨p, q, h1, h2, rfl⟩
  · cases h

theorem eqF_cons {f : TypeId → D → D → Option Bool} {t : TypeId} {ts : List TypeId} {x y : D} {xs ys : List D} {b : Bool} (h : eqF f (t :: ts) (x :: xs) (y :: ys) = some b) :
    ∃ p q, f t x y = some p ∧ eqF f ts xs ys = some q ∧ b = (p && q) := by
  simp only [eqF] at h
  split at h
  · rename_i p q h1 h2; cases h; exact ⟨p, q, h1, h2, rfl⟩
  · cases h

theorem cellsOf_eq {t : TypeId} {te : TyE} (ht : TyP cx t te) : cx.P.cellsOf t = te.sh.csz := by
  obtain ⟨i, hi, hs, _⟩ := ht.info
  simp [Program.cellsOf, hi, hs]

/-- Elements of two arrays, one after the other. -/
theorem run_items {own : Nat → Prop} {e : TypeId} {ee : TyE} (hee : TyP cx e ee) {d : Nat} {f : D → D → Option Bool} {css dss : List (List Value)}
    (hf : ∀ x y p q b, f x y = some b → RC w own ee.sh x p → RC w own ee.sh y q → (Op.equalIn d e (pack ee.sh p) (pack ee.sh q)).run cx.P w = .ok b w)
    (hc : ∀ cs ∈ css, cs.length = ee.sh.csz) (hd : ∀ cs ∈ dss, cs.length = ee.sh.csz) : ∀ (xs ys : List D) (i : Nat) (b : Bool), eqL f xs ys = some b → i + xs.length = css.length → i + ys.length = dss.length →
    (∀ (j : Nat) x cs, xs[j]? = some x → css[i + j]? = some cs → RC w own ee.sh x cs) → (∀ (j : Nat) x cs, ys[j]? = some x → dss[i + j]? = some cs → RC w own ee.sh x cs) →
    (Op.eqItems d e (cx.P.cellsOf e) css.flatten.toArray dss.flatten.toArray (List.range' i xs.length)).run cx.P w = .ok b w
  | [], [], i, b, h, _, _, _, _ => by simp [eqL] at h; subst h; simp [Op.eqItems]
  | x :: xs, y :: ys, i, b, h, h1, h2, h3, h4 => by
    obtain ⟨p, q, hp, hq, rfl⟩ := eqL_cons h
    simp only [List.length_cons] at h1 h2
    have c1 : css[i]? = some (css[i]'(by omega)) := List.getElem?_eq_getElem (by omega)
    have c2 : dss[i]? = some (dss[i]'(by omega)) := List.getElem?_eq_getElem (by omega)
    have r1 := h3 0 x _ rfl c1
    have r2 := h4 0 y _ rfl c2
    obtain ⟨f1, f2⟩ := flat_get c1
    obtain ⟨g1, g2⟩ := flat_get c2
    rw [sum_take_const hc (by omega)] at f1 f2
    rw [sum_take_const hd (by omega)] at g1 g2
    rw [r1.len] at f1 f2
    rw [r2.len] at g1 g2
    have p1 := run_part (w := w) hee (cs := css.flatten) (off := i * ee.sh.csz) f2
    have p2 := run_part (w := w) hee (cs := dss.flatten) (off := i * ee.sh.csz) g2
    rw [f1] at p1
    rw [g1] at p2
    have ih := run_items hee hf hc hd xs ys (i + 1) q hq (by omega) (by omega) (fun j z cs a b => h3 (j + 1) z cs (by simpa using a) (by rw [← b]; congr 1; omega)) (fun j z cs a b => h4 (j + 1) z cs (by simpa using a) (by rw [← b]; congr 1; omega))
    simp only [List.length_cons, List.range'_succ, Op.eqItems, Sem.run_bind, cellsOf_eq hee, p1, p2, Result.andThen_ok, hf x y _ _ p hp r1 r2]
    cases p
    · simp
    · simpa [cellsOf_eq hee] using ih
  | [], y :: ys, i, b, h, _, _, _, _ => by simp [eqL] at h
  | x :: xs, [], i, b, h, _, _, _, _ => by simp [eqL] at h

/-- Fields of two structs, one after the other. -/
theorem run_fields {own : Nat → Prop} {d : Nat} {f : TypeId → D → D → Option Bool} {shs : List Sh} {css dss : List (List Value)} (hx : CxOK cx)
    (hf : ∀ t te x y p q b, cx.ty t = some te → f t x y = some b → RC w own te.sh x p → RC w own te.sh y q → (Op.equalIn d t (pack te.sh p) (pack te.sh q)).run cx.P w = .ok b w)
    (hc : ∀ (j : Nat) s cs, shs[j]? = some s → css[j]? = some cs → cs.length = s.csz) (hd : ∀ (j : Nat) s cs, shs[j]? = some s → dss[j]? = some cs → cs.length = s.csz) (hcl : css.length = shs.length) (hdl : dss.length = shs.length) :
    ∀ (fl : List Field) (fs : List TypeId) (xs ys : List D) (i : Nat) (b : Bool), eqF f fs xs ys = some b → fl.length = fs.length → i + fl.length = shs.length →
    (∀ (j : Nat) g, fl[j]? = some g → fs[j]? = some g.type ∧ g.offset = Sh.cszs (shs.take (i + j)) ∧ g.name ≠ "_" ∧ ∃ fe, cx.ty g.type = some fe ∧ shs[i + j]? = some fe.sh) →
    (∀ (j : Nat) s x cs, shs[i + j]? = some s → xs[j]? = some x → css[i + j]? = some cs → RC w own s x cs) → (∀ (j : Nat) s x cs, shs[i + j]? = some s → ys[j]? = some x → dss[i + j]? = some cs → RC w own s x cs) →
    (Op.eqFields d css.flatten.toArray dss.flatten.toArray fl).run cx.P w = .ok b w
  | [], [], [], [], i, b, h, _, _, _, _, _ => by simp [eqF] at h; subst h; simp [Op.eqFields]
  | g :: fl, t :: fs, x :: xs, y :: ys, i, b, h, h1, h2, h3, h4, h5 => by
    obtain ⟨p, q, hp, hq, rfl⟩ := eqF_cons h
    simp only [List.length_cons] at h1 h2
    obtain ⟨k1, k2, k3, fe, k4, k5⟩ := h3 0 g rfl
    simp at k1
    subst k1
    simp only [Nat.add_zero] at k2 k5
    have hfe := hx.ty _ _ k4
    have c1 : css[i]? = some (css[i]'(by omega)) := List.getElem?_eq_getElem (by omega)
    have c2 : dss[i]? = some (dss[i]'(by omega)) := List.getElem?_eq_getElem (by omega)
    have r1 := h4 0 _ x _ k5 rfl c1
    have r2 := h5 0 _ y _ k5 rfl c2
    obtain ⟨f1, f2⟩ := flat_get c1
    obtain ⟨g1, g2⟩ := flat_get c2
    rw [st_sum hcl hc] at f1 f2
    rw [st_sum hdl hd] at g1 g2
    rw [r1.len] at f1 f2
    rw [r2.len] at g1 g2
    have p1 := run_part (w := w) hfe (cs := css.flatten) (off := g.offset) (by rw [k2]; exact f2)
    have p2 := run_part (w := w) hfe (cs := dss.flatten) (off := g.offset) (by rw [k2]; exact g2)
    rw [k2, f1] at p1
    rw [k2, g1] at p2
    have ih := run_fields hx hf hc hd hcl hdl fl fs xs ys (i + 1) q hq (by omega) (by omega)
      (fun j z a => by have := h3 (j + 1) z (by simpa using a); rw [show i + 1 + j = i + (j + 1) from by omega]; simpa using this)
      (fun j s z cs a b c => h4 (j + 1) s z cs (by rw [← a]; congr 1; omega) (by simpa using b) (by rw [← c]; congr 1; omega))
      (fun j s z cs a b c => h5 (j + 1) s z cs (by rw [← a]; congr 1; omega) (by simpa using b) (by rw [← c]; congr 1; omega))
    simp only [Op.eqFields, k3, ne_eq, not_false_eq_true, if_true, Sem.run_bind, k2, p1, p2, Result.andThen_ok, hf _ fe x y _ _ p k4 hp r1 r2]
    cases p
    · simp
    · simpa using ih
  | [], [], [], _ :: _, i, b, h, _, _, _, _, _ => by simp [eqF] at h
  | [], [], _ :: _, _, i, b, h, _, _, _, _, _ => by simp [eqF] at h
  | [], _ :: _, _, _, i, b, h, h1, _, _, _, _ => by simp at h1
  | _ :: _, [], _, _, i, b, h, h1, _, _, _, _ => by simp at h1
  | _ :: _, _ :: _, [], _, i, b, h, _, _, _, _, _ => by simp [eqF] at h
  | _ :: _, _ :: _, _ :: _, [], i, b, h, _, _, _, _, _ => by simp [eqF] at h

theorem eqT_sound (hx : CxOK cx) {own : Nat → Prop} : ∀ (n : Nat) (t : TypeId) (te : TyE) (x y : D) (p q : List Value) (b : Bool) (d : Nat), cx.ty t = some te → eqT cx n t x y = some b →
    RC w own te.sh x p → RC w own te.sh y q → n ≤ d → (Op.equalIn d t (pack te.sh p) (pack te.sh q)).run cx.P w = .ok b w
  | 0, t, te, x, y, p, q, b, d, _, h, _, _, _ => by simp [eqT] at h
  | n + 1, t, te, x, y, p, q, b, d, hte, h, r1, r2, hd => by
    obtain ⟨d, rfl⟩ : ∃ e, d = e + 1 := ⟨d - 1, by omega⟩
    simp only [eqT, hte] at h
    have ht := (hx.ty t te hte).under
    cases hty : te.ty <;> simp only [hty] at h ht
    case int k =>
      obtain ⟨hu, hs⟩ := ht
      rw [hs] at r1 r2 ⊢
      cases x <;> cases y <;> simp at h
      rename_i a u a' u'
      split at h
      · rename_i he
        have he : a = a' := by simpa using he
        cases h
        cases r1; cases r2
        subst he
        exact run_equalIn_int w d t a k u u' hu
      · cases h
    case bool =>
      obtain ⟨hu, hs⟩ := ht
      rw [hs] at r1 r2 ⊢
      cases x <;> cases y <;> simp at h
      cases r1; cases r2
      rw [← h]
      exact run_equalIn_bool' w d t _ _ hu
    case str =>
      obtain ⟨hu, hs⟩ := ht
      rw [hs] at r1 r2 ⊢
      cases x <;> cases y <;> simp at h
      rename_i l l'
      cases r1; cases r2
      rw [← h]
      have := run_equalIn_string w d t ⟨l.toArray⟩ ⟨l'.toArray⟩ hu
      rw [bytes_toList, bytes_toList] at this
      exact this
    case arr N e =>
      obtain ⟨hu, ee, hee, hs⟩ := ht
      rw [hs] at r1 r2 ⊢
      cases x <;> cases y <;> simp at h
      rename_i n1 e1 xl n2 e2 yl
      cases r1 with
      | arr _ _ _ css hl hn h1 =>
        cases r2 with
        | arr _ _ _ dss hl2 hn2 h2 =>
          have hte' := hx.ty _ _ hee
          obtain ⟨i0, hi0, _⟩ := hte'.info
          rw [pack_agg rfl, pack_agg rfl, run_equalIn_array w d _ _ hu hi0, List.range_eq_range']
          have := run_items (w := w) (own := own) hte' (d := d) (f := eqT cx n e) (css := css) (dss := dss) (fun x y p q b hb a1 a2 => eqT_sound hx n e ee x y p q b d hee hb a1 a2 (by omega)) (arr_lens hl h1) (arr_lens hl2 h2) xl yl 0 b h (by omega) (by omega)
            (fun j x cs a b => h1 j x cs a (by simpa using b)) (fun j x cs a b => h2 j x cs a (by simpa using b))
          rw [hn] at this
          exact this
    case st fs =>
      obtain ⟨fields, shs, hu, hso, hsz, hs, hsl, hfd⟩ := ht
      rw [hs] at r1 r2 ⊢
      cases x <;> cases y <;> simp at h
      rename_i xl yl
      cases r1 with
      | st _ _ css hl hl' h1 =>
        cases r2 with
        | st _ _ dss hl2 hl2' h2 =>
          have hfo : cx.P.fieldsOf t = fields := by simp [Program.fieldsOf, hu]
          rw [pack_agg rfl, pack_agg rfl, run_equalIn_struct w d t _ _ (by rw [hfo]; exact hu) hso, hfo]
          refine run_fields (w := w) (own := own) hx (d := d) (f := eqT cx n) (shs := shs) (css := css) (dss := dss) (fun t te x y p q b a1 a2 a3 a4 => eqT_sound hx n t te x y p q b d a1 a2 a3 a4 (by omega)) (st_lens hl h1) (st_lens hl2 h2) (by omega) (by omega)
            fields.toList fs xl yl 0 b h (by simp; omega) (by simp; omega) (fun j g hg => ?_) (fun j s x cs a b c => h1 j s x cs (by simpa using a) b (by simpa using c)) (fun j s x cs a b c => h2 j s x cs (by simpa using a) b (by simpa using c))
          have := hfd j g (by simpa using hg)
          simpa using this
    all_goals cases h

theorem eqV_sound (hx : CxOK cx) {t : TypeId} {op : BinOp} {ox oy : Operand} {x y : D} {c1 c2 : Value} {k : V → Prop} (ha : x.sh.agg = true) (h1 : RV w m H (.d x) c1) (h2 : RV w m H (.d y) c2) (hg : eqV cx t op x y k) :
    POK cx w m H k (do eqGuard op t ox oy c1 c2; binOp op t c1 c2) := by
  obtain ⟨te, hte, hg⟩ := onS_elim hg
  obtain ⟨hb1, hg⟩ := onT_elim hg
  obtain ⟨hb2, hg⟩ := onT_elim hg
  obtain ⟨hp, hg⟩ := onT_elim hg
  obtain ⟨b, hb, hg⟩ := onS_elim hg
  have e1 := Sh.beq_eq _ _ hb1
  have e2 := Sh.beq_eq _ _ hb2
  have hc1 : cellV (.d x) = true := by cases x <;> first | rfl | cases ha
  have ha2 : y.sh.agg = true := by rw [← e2, e1]; exact ha
  have hc2 : cellV (.d y) = true := by cases y <;> first | rfl | cases ha2
  obtain ⟨p, hp1, rfl⟩ := h1.elim hc1
  obtain ⟨q, hp2, rfl⟩ := h2.elim hc2
  have r1 := hp1.of_d
  have r2 := hp2.of_d
  rw [show V.sh (.d x) = x.sh from rfl, ← e1] at *
  rw [show V.sh (.d y) = y.sh from rfl, ← e2] at *
  have hrun := eqT_sound hx 20 t te x y p q b 10000 hte hb r1 r2 (by omega)
  rw [pack_agg ha2, pack_agg ha2] at hrun ⊢
  have hgd := run_eqGuard_agg (P := cx.P) w op t ox oy p.toArray q.toArray (plain_guard hx 20 t hp _ hx.deep)
  split at hg
  · exact ⟨_, .bool b, hg, by simp only [Sem.run_bind, hgd, Result.andThen_ok, run_eql_struct, hrun], .bool b⟩
  · exact ⟨_, .bool (!b), hg, by simp only [Sem.run_bind, hgd, Result.andThen_ok, run_neq_struct, hrun], .bool _⟩
  · exact hg.elim

theorem byteArray_beq (a b : List UInt8) : ((⟨a.toArray⟩ : ByteArray).toList == (⟨b.toArray⟩ : ByteArray).toList) = (a == b) := by rw [bytes_toList, bytes_toList]

theorem bytes_append (a b : List UInt8) : (⟨a.toArray⟩ : ByteArray) ++ ⟨b.toArray⟩ = ⟨(a ++ b).toArray⟩ := by
  apply ByteArray.ext
  simp [ByteArray.data_append]

theorem binV_sound (hx : CxOK cx) {t : TypeId} {op : BinOp} {ox oy : Operand} {x y : V} {c1 c2 : Value} {k : V → Prop} (h1 : RV w m H x c1) (h2 : RV w m H y c2) (hg : binV cx t op x y k) :
    POK cx w m H k (do eqGuard op t ox oy c1 c2; binOp op t c1 c2) := by
  unfold binV at hg
  split at hg
  · rename_i ka a kb b
    have e1 := h1.int_inv
    have e2 := h2.int_inv
    subst e1; subst e2
    have hgd := eqGuard_int (cx := cx) (w := w) op t ox oy ka kb a b
    cases op <;> simp only at hg
    case shl =>
      obtain ⟨h, hk⟩ := onT_elim hg
      have h : 0 ≤ b := by simpa using h
      exact ⟨_, _, hk, by simp only [Sem.run_bind, hgd, Result.andThen_ok, binOp, Op.shift]; rw [if_neg (by omega)]; rfl, .int _ _⟩
    case shr =>
      obtain ⟨h, hk⟩ := onT_elim hg
      have h : 0 ≤ b := by simpa using h
      exact ⟨_, _, hk, by simp only [Sem.run_bind, hgd, Result.andThen_ok, binOp, Op.shift]; rw [if_neg (by omega)]; rfl, .int _ _⟩
    case quo =>
      obtain ⟨h, hg⟩ := onT_elim hg
      obtain ⟨h0, hk⟩ := onT_elim hg
      have h : ka = kb := by simpa using h
      have h0 : b ≠ 0 := by simpa using h0
      subst h
      exact ⟨_, _, hk, by simp only [Sem.run_bind, hgd, Result.andThen_ok, binOp, Op.intDiv]; simp [h0], .int _ _⟩
    case rem =>
      obtain ⟨h, hg⟩ := onT_elim hg
      obtain ⟨h0, hk⟩ := onT_elim hg
      have h : ka = kb := by simpa using h
      have h0 : b ≠ 0 := by simpa using h0
      subst h
      exact ⟨_, _, hk, by simp only [Sem.run_bind, hgd, Result.andThen_ok, binOp, Op.intDiv]; simp [h0], .int _ _⟩
    all_goals
      obtain ⟨h, hk⟩ := onT_elim hg
      have h : ka = kb := by simpa using h
      subst h
      first
        | exact ⟨_, _, hk, by simp only [Sem.run_bind, hgd, Result.andThen_ok, binOp]; simp [Op.intArith, Op.intBits, Op.intCmp], .int _ _⟩
        | exact ⟨_, _, hk, by simp only [Sem.run_bind, hgd, Result.andThen_ok, binOp]; simp [Op.intCmp], .bool _⟩
  · rename_i a b
    have e1 := h1.str_inv
    have e2 := h2.str_inv
    subst e1; subst e2
    have hgd := eqGuard_str (cx := cx) (w := w) op t ox oy ⟨a.toArray⟩ ⟨b.toArray⟩
    cases op <;> simp only at hg
    case eql => exact ⟨_, _, hg, by simp only [Sem.run_bind, hgd, Result.andThen_ok, binOp, Op.stringOp, byteArray_beq]; rfl, .bool _⟩
    case neq => exact ⟨_, _, hg, by simp only [Sem.run_bind, hgd, Result.andThen_ok, binOp, Op.stringOp, byteArray_beq]; rfl, .bool _⟩
    case add =>
      obtain ⟨h, hk⟩ := onT_elim hg
      have h : a.length + b.length ≤ 9223372036854775807 := by simpa using h
      refine ⟨_, _, hk, ?_, .str _⟩
      simp only [Sem.run_bind, hgd, Result.andThen_ok, binOp, Op.stringOp]
      rw [if_neg (by simp [ByteArray.size, IntKind.max, IntKind.signed, IntKind.bits]; omega), bytes_append]
      rfl
  · rename_i a b
    have e1 := h1.bool_inv
    have e2 := h2.bool_inv
    subst e1; subst e2
    have hgd := eqGuard_bool (cx := cx) (w := w) op t ox oy a b
    obtain ⟨te, hte, hg⟩ := onS_elim hg
    have ht := (hx.ty t te hte).under
    cases hty : te.ty <;> simp only [hty] at hg ht <;> first | exact hg.elim | skip
    have hr := run_equalIn_bool' (P := cx.P) w 9999 t a b ht.1
    cases op <;> simp only at hg
    case eql => exact ⟨_, _, hg, by simp only [Sem.run_bind, hgd, Result.andThen_ok, binOp]; simp [Op.equal, Op.maxDepth, hr], .bool _⟩
    case neq => exact ⟨_, _, hg, by simp only [Sem.run_bind, hgd, Result.andThen_ok, binOp]; simp [Op.equal, Op.maxDepth, hr], .bool _⟩
  · exact eqV_sound hx rfl h1 h2 hg
  · exact eqV_sound hx rfl h1 h2 hg
  · exact hg.elim

end

end Go.Fw
