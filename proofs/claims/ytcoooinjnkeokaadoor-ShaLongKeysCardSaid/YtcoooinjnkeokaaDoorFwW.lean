/-
One step of a region, and its soundness. No conditions.
-/
import Derived.Test.YtcoooinjnkeokaaDoorFwVb
namespace Go.Fw
set_option linter.unusedVariables false
set_option linter.unusedSimpArgs false
open Go.RowKit

def slotAt (ops : List Oper) (base j : Nat) : Nat := base + news (ops.take j)

/-- Does the operation's guard let it in. -/
def gd (ops : List Oper) (e : Env) (o : Oper) : Option Bool :=
  match o.guard with
  | none => some true
  | some (i, want) => match (ops[i]?).bind (·.dst) with
    | some t => match e t with
      | .d (.bool g) => some (g == want)
      | .tup [] => some false
      | _ => none
    | none => none

/-- Operation j yields v, with effect ef. -/
def YW (cx : Cx) (vis : Vis) (ops : List Oper) (base : Nat) (e : Env) (H : Heap) (j : Nat) (o : Oper) (v : V) (ef : Eff) : Prop :=
  (gd ops e o = some true ∧ ∀ k : V → Eff → Prop, k v ef → Wop cx (evO cx e) (rdAt vis ops base H j) (slotAt ops base j) o k) ∨ (gd ops e o = some false ∧ v = .tup [] ∧ ef = [])

def LexW (cx : Cx) (vis : Vis) (ops : List Oper) (base : Nat) (K : Env → Heap → Prop) : List Oper → Nat → Env → Heap → Prop
  | [], _, e, H => K e H
  | o :: r, j, e, H => ∃ v ef, YW cx vis ops base e H j o v ef ∧ LexW cx vis ops base K r (j + 1) (put e o.dst v) (happ H ef)

theorem news_append : ∀ (l r : List Oper), news (l ++ r) = news l + news r
  | [], r => by simp [news]
  | o :: l, r => by
    simp only [List.cons_append, news, news_append l r]
    cases newOp o <;> simp; omega

theorem slotAt_succ {ops : List Oper} {base j : Nat} {o : Oper} (h : ops[j]? = some o) : slotAt ops base (j + 1) = bif newOp o then slotAt ops base j + 1 else slotAt ops base j := by
  unfold slotAt
  rw [List.take_add_one, h, news_append]
  simp only [Option.toList, news]
  cases newOp o <;> simp; omega

theorem setK_eq (x : Option Blk) : ∀ (H : Heap) (b : Nat) (k : Heap → Prop), setK H b x k = k (H.set b x)
  | [], b, k => by cases b <;> rfl
  | _ :: r, 0, k => rfl
  | y :: r, n + 1, k => by simp only [setK, setK_eq x r n, List.set_cons_succ]

theorem appK_eq : ∀ (e : Eff) (H : Heap) (k : Heap → Prop), appK H e k = k (happ H e)
  | [], H, k => rfl
  | (b, x) :: r, H, k => by simp only [appK, happ, setK_eq, appK_eq r]

theorem moreK_eq : ∀ (H : Heap) (n : Nat) (k : Heap → Prop), moreK H n k = k (H ++ List.replicate n none)
  | [], n, k => rfl
  | y :: r, n, k => by simp only [moreK, moreK_eq r n, List.cons_append]

theorem upd_self {e : Env} {t : Nat} {v : V} (h : e t = v) : upd e t v = e := by
  funext i
  unfold upd
  cases hi : Nat.beq i t with
  | true => have := Nat.eq_of_beq_eq_true hi; subst this; exact h.symm
  | false => rfl

theorem asG_inv {v : V} {u : Prop} {k : Bool → Prop} (h : asG v u k) : (v = .tup [] ∧ u) ∨ ∃ b, v = .d (.bool b) ∧ k b := by
  unfold asG at h
  split at h
  · rename_i b; exact .inr ⟨b, rfl, h⟩
  · exact .inl ⟨rfl, h⟩
  · exact h.elim

theorem asB_inv {v : V} {k : Bool → Prop} (h : asB v k) : ∃ b, v = .d (.bool b) ∧ k b := by
  unfold asB at h
  split at h
  · rename_i b; exact ⟨b, rfl, h⟩
  · exact h.elim

theorem happ_length : ∀ (e : Eff) (H : Heap), (happ H e).length = H.length
  | [], H => rfl
  | (b, x) :: r, H => by simp only [happ, happ_length r, List.length_set]

section
variable {cx : Cx} {vis : Vis}

theorem lex_of_wops {ops : List Oper} {base : Nat} {K : Env → Heap → Prop} : ∀ (l : List Oper) (j slot : Nat) (e : Env) (H : Heap), slot = slotAt ops base j → (∀ i, l[i]? = ops[j + i]?) →
    Wops cx vis ops base K l j slot e H → LexW cx vis ops base K l j e H
  | [], j, slot, e, H, hs, hl, h => h
  | o :: rest, j, slot, e, H, hs, hl, h => by
    have h0 : ops[j]? = some o := by simpa using (hl 0).symm
    have hl' : ∀ i, rest[i]? = ops[j + 1 + i]? := fun i => by have := hl (i + 1); simpa [Nat.add_assoc, Nat.add_comm 1 i] using this
    have hs' : (bif newOp o then slot + 1 else slot) = slotAt ops base (j + 1) := by rw [slotAt_succ h0, hs]
    have run : gd ops e o = some true → Wop cx (evO cx e) (rdAt vis ops base H j) slot o (fun v ef => appK H ef fun H' => Wops cx vis ops base K rest (j + 1) (bif newOp o then slot + 1 else slot) (put e o.dst v) H') →
        LexW cx vis ops base K (o :: rest) j e H := fun hg h => by
      obtain ⟨⟨v, ef⟩, hk, hy⟩ := Wop_lin cx (evO cx e) (rdAt vis ops base H j) slot o (fun p => appK H p.2 fun H' => Wops cx vis ops base K rest (j + 1) (bif newOp o then slot + 1 else slot) (put e o.dst p.1) H') h
      have hk' : appK H ef fun H' => Wops cx vis ops base K rest (j + 1) (bif newOp o then slot + 1 else slot) (put e o.dst v) H' := hk
      rw [appK_eq] at hk'
      exact ⟨v, ef, .inl ⟨hg, fun k hk => by rw [← hs]; exact hy (fun p => k p.1 p.2) hk⟩, lex_of_wops rest (j + 1) _ _ _ hs' hl' hk'⟩
    have skip : gd ops e o = some false → Wops cx vis ops base K rest (j + 1) (bif newOp o then slot + 1 else slot) (put e o.dst (.tup [])) H → LexW cx vis ops base K (o :: rest) j e H := fun hg h =>
      ⟨.tup [], [], .inr ⟨hg, rfl, rfl⟩, lex_of_wops rest (j + 1) _ _ _ hs' hl' h⟩
    unfold Wops at h
    cases hgd : o.guard with
    | none =>
      rw [hgd] at h
      exact run (by simp [gd, hgd]) h
    | some p =>
      obtain ⟨i, want⟩ := p
      rw [hgd] at h
      cases hd : (ops[i]?).bind (·.dst) with
      | none => simp only [hd] at h
      | some t =>
        simp only [hd] at h
        rcases asG_inv h with ⟨hg, h⟩ | ⟨g, hg, h⟩
        · exact skip (by simp [gd, hgd, hd, hg]) h
        have hgd' : gd ops e o = some (g == want) := by simp [gd, hgd, hd, hg]
        cases g with
        | true =>
          rw [upd_self hg] at h
          cases want with
          | true => exact run (by simpa using hgd') h
          | false => exact skip (by simpa using hgd') h
        | false =>
          rw [upd_self hg] at h
          cases want with
          | true => exact skip (by simpa using hgd') h
          | false => exact run (by simpa using hgd') h

theorem Wop_slot {ρ : Operand → V} {rd : Nat → Option Blk} {slot slot' : Nat} {o : Oper} (hn : newOp o = false) {k : V → Eff → Prop} (h : Wop cx ρ rd slot o k) : Wop cx ρ rd slot' o k := by
  obtain ⟨dst, op, ty, pos, after, guard⟩ := o
  cases op with
  | call c =>
    obtain ⟨callee, cargs, catys⟩ := c
    cases callee with
    | builtin b => cases b <;> first | exact h | cases hn
    | _ => exact h
  | makeFunc fn first captured => cases fn <;> exact h
  | _ => first | exact h | cases hn

/-- What is known of a state while a region runs: 'L' says which operations have run. -/
structure RelR (cx : Cx) (B n : Nat) (w0 : World) (far : Nat → Prop) (ops : List Oper) (base : Nat) (L : Nat → Prop) (e : Env) (H : Heap) (a : Act) (w : World) (m : M) : Prop where
  heap : HeapOK cx B w m H
  env : ∀ t, RV w m H (e t) (a.tmps.getD t undef)
  size : a.tmps.size = n
  defers : a.defers = []
  below : Below B w0 w
  far : ∀ k, far k → m.far k
  len : H.length = base + news ops
  born : ∀ b, m.born b → b < base ∨ ∃ j o, ops[j]? = some o ∧ newOp o = true ∧ L j ∧ b = slotAt ops base j

theorem rdAt_rd (vis : Vis) (ops : List Oper) (base : Nat) (H : Heap) (j : Nat) : Rd (rdAt vis ops base H j) H := by
  intro b x hb
  have key : H.getD b none = some x → live H b x := fun h => by
    unfold live
    rw [List.getD_eq_getElem?_getD] at h
    cases hg : H[b]? with
    | none => rw [hg] at h; cases h
    | some y => rw [hg] at h; simpa using h
  unfold rdAt at hb
  split at hb
  · cases hb
  · split at hb
    · exact key hb
    · split at hb
      · split at hb
        · exact key hb
        · cases hb
      · cases hb

theorem litV_sound {w : World} {m : M} {H : Heap} (v : Value) : RV w m H (litV v) v := by
  unfold litV
  split
  · exact .int _ _
  · exact .bool _
  · rename_i s
    have := RV.str (w := w) (m := m) (H := H) s.data.toList
    simpa using this
  · exact .d1 .nils rfl
  · exact .d1 .nilp rfl
  · exact .any _

theorem evO_sound {B : Nat} {w : World} {m : M} {H : Heap} {e : Env} {a : Act} (hh : HeapOK cx B w m H) (he : ∀ t, RV w m H (e t) (a.tmps.getD t undef)) : RO w m H (evO cx e) a.eval := by
  intro x
  cases x with
  | tmp t => exact he t
  | const v => exact litV_sound v
  | global g =>
    show RV w m H (match cx.G g with
      | some x => .rop x
      | none => .any) (.pointer (some ⟨g, 0, none⟩))
    cases hg : cx.G g with
    | none => exact .any _
    | some x =>
      obtain ⟨h1, h2, cells, h3, h4⟩ := hh.glob g x hg
      exact .rop_of h3 fun j c hc => ⟨by rw [addr_add]; simpa using h4 j c hc, h1⟩
  | func f =>
    have := RV.d1 (w := w) (m := m) (H := H) (RC.fn f [] [] rfl fun i x cs h => by simp at h) rfl
    show RV w m H (.d (.fn f [])) (.func (.func f) #[] #[])
    simpa using this

theorem gd_wanted {ops : List Oper} {e : Env} {a : Act} {w : World} {m : M} {H : Heap} (he : ∀ t, RV w m H (e t) (a.tmps.getD t undef)) {o : Oper} {g : Bool} (h : gd ops e o = some g) :
    Region.wanted o (yielded ops.toArray a.tmps) = g := by
  unfold gd at h
  unfold Region.wanted
  cases hg : o.guard with
  | none => rw [hg] at h; simpa using h
  | some p =>
    obtain ⟨i, want⟩ := p
    rw [hg] at h
    simp only at h ⊢
    cases hd : (ops[i]?).bind (·.dst) with
    | none => rw [hd] at h; cases h
    | some t =>
      rw [hd] at h
      simp only at h
      split at h
      · rename_i b hb
        have hv := he t
        rw [hb] at hv
        have hv := hv.bool_inv
        have ht : a.tmps[t]? = some (.bool b) := by
          rw [Array.getD_eq_getD_getElem?] at hv
          cases hq : a.tmps[t]? with
          | none => rw [hq] at hv; cases hv
          | some y => rw [hq] at hv; simpa using hv
        have : yielded ops.toArray a.tmps i = some b := by
          unfold yielded
          simp [hd, ht]
        rw [this]
        cases h
        cases b <;> cases want <;> rfl
      · rename_i hb
        cases h
        have hv := he t
        rw [hb] at hv
        have hu : a.tmps.getD t undef = .tuple #[] := by
          generalize a.tmps.getD t undef = c at hv
          cases hv with
          | one v cs h => cases h
          | tup xs cs hl h =>
            simp at hl
            subst hl
            rfl
        have : yielded ops.toArray a.tmps i = none := by
          unfold yielded
          simp only [List.getElem?_toArray, hd, Option.bind_some]
          rw [Array.getD_eq_getD_getElem?] at hu
          cases hq : a.tmps[t]? with
          | none => rfl
          | some y => rw [hq] at hu; simp at hu; rw [hu]
        rw [this]
        rfl
      · cases h

theorem news_take_lt {ops : List Oper} {j : Nat} {o : Oper} (h : ops[j]? = some o) (hn : newOp o = true) : news (ops.take j) + 1 ≤ news ops := by
  have hj := (List.getElem?_eq_some_iff.1 h).1
  have h1 : ops = ops.take (j + 1) ++ ops.drop (j + 1) := (List.take_append_drop _ _).symm
  have h2 : news ops = news (ops.take (j + 1)) + news (ops.drop (j + 1)) := by rw [← news_append, ← h1]
  rw [List.take_add_one, h, news_append] at h2
  simp only [Option.toList, news, hn, cond_true] at h2
  omega

theorem news_mono {ops : List Oper} {i j : Nat} (h : i ≤ j) : news (ops.take i) ≤ news (ops.take j) := by
  have h1 : ops.take i = (ops.take j).take i := by rw [List.take_take, Nat.min_eq_left h]
  have h2 : ops.take j = (ops.take j).take i ++ (ops.take j).drop i := (List.take_append_drop _ _).symm
  rw [h2, news_append, ← h1]
  omega

theorem slotAt_lt {ops : List Oper} {base i j : Nat} {o : Oper} (hi : ops[i]? = some o) (hn : newOp o = true) (h : i < j) : slotAt ops base i < slotAt ops base j := by
  have := slotAt_succ (base := base) hi
  rw [hn] at this
  have h2 := news_mono (ops := ops) (show i + 1 ≤ j from h)
  unfold slotAt at *
  simp at this
  omega

theorem slotAt_inj {ops : List Oper} {base i j : Nat} {o o' : Oper} (hi : ops[i]? = some o) (hn : newOp o = true) (hj : ops[j]? = some o') (hn' : newOp o' = true) (h : slotAt ops base i = slotAt ops base j) : i = j := by
  rcases Nat.lt_trichotomy i j with hl | rfl | hl
  · have := slotAt_lt (base := base) hi hn hl; omega
  · rfl
  · have := slotAt_lt (base := base) hj hn' hl; omega

theorem env_put {n : Nat} {w : World} {m : M} {H : Heap} {e : Env} {a : Act} (he : ∀ t, RV w m H (e t) (a.tmps.getD t undef)) (hs : a.tmps.size = n) {dst : Option Tmp} (hd : ∀ d, dst = some d → d < n) {v : V} {c : Value} (hv : RV w m H v c) :
    ∀ t, RV w m H (put e dst v t) ((a.put dst c).tmps.getD t undef) := by
  intro t
  cases dst with
  | none => exact he t
  | some d =>
    have hdn := hd d rfl
    show RV w m H (upd e d v t) ((a.tmps.setIfInBounds d c).getD t undef)
    unfold upd
    cases hi : Nat.beq t d with
    | true =>
      have := Nat.eq_of_beq_eq_true hi
      subst this
      simp [Array.getElem?_setIfInBounds, hs, hdn]
      exact hv
    | false =>
      have hne : d ≠ t := fun h => by subst h; simp at hi
      have := he t
      simpa [Array.getElem?_setIfInBounds_ne hne] using this

/-- One operation of a region: the state behind it. -/
theorem step_sound (hx : CxOK cx) {B n : Nat} {w0 : World} {far : Nat → Prop} {ops : List Oper} {base : Nat} {L : Nat → Prop} {e : Env} {H : Heap} {a : Act} {w : World} {m : M}
    (hr : RelR cx B n w0 far ops base L e H a w m) {j : Nat} {o : Oper} (hj : ops[j]? = some o) (hd : ∀ d, o.dst = some d → d < n) (hL : ¬ L j) {v : V} {ef : Eff} (hy : YW cx vis ops base e H j o v ef)
    {K : Act → World → Prop} {Q : Exit → Act → World → Prop} (hK : ∀ a' w' m', RelR cx B n w0 far ops base (fun i => i = j ∨ L i) (put e o.dst v) (happ H ef) a' w' m' → K a' w') :
    if Region.wanted o (yielded ops.toArray a.tmps) then o.wp cx.P a w K Q else K (a.put o.dst undef) w := by
  have put_size : ∀ c, (a.put o.dst c).tmps.size = n := fun c => by
    cases h : o.dst <;> simp [Act.put, hr.size]
  have put_def : ∀ c, (a.put o.dst c).defers = [] := fun c => by
    cases h : o.dst <;> simp [Act.put, hr.defers]
  rcases hy with ⟨hg, hW⟩ | ⟨hg, rfl, rfl⟩
  · rw [if_pos (gd_wanted hr.env hg)]
    have hW := hW (fun v' e' => v' = v ∧ e' = ef) ⟨rfl, rfl⟩
    have hrd := rdAt_rd vis ops base H j
    have hρ : RO w m H (evO cx e) a.eval := evO_sound hr.heap hr.env
    cases hn : newOp o with
    | true =>
      have hs : ¬ m.born (slotAt ops base j) ∧ slotAt ops base j < H.length := by
        constructor
        · intro hb
          rcases hr.born _ hb with h | ⟨i, o', hi, hn', hLi, he⟩
          · unfold slotAt at h; omega
          · have := slotAt_inj hj hn hi hn' he
            subst this
            exact hL hLi
        · rw [hr.len]
          have := news_take_lt hj hn
          unfold slotAt
          omega
      obtain ⟨v', e', ⟨rfl, rfl⟩, hok⟩ := Wop_sound hx hr.heap hrd hρ (fun _ => hs) hW
      refine hok K Q fun c w' m' h => hK _ w' m' ⟨h.heap, ?_, put_size c, put_def c, hr.below.trans h.below, fun k hk => h.keep.far k (hr.far k hk), by rw [happ_length]; exact hr.len, fun b hb => ?_⟩
      · exact env_put (fun t => (hr.env t).keep h.keep) hr.size hd h.val
      · rcases h.born b hb with h1 | h1
        · rcases hr.born b h1 with h2 | ⟨i, o', q1, q2, q3, q4⟩
          · exact .inl h2
          · exact .inr ⟨i, o', q1, q2, .inr q3, q4⟩
        · exact .inr ⟨j, o, hj, hn, .inl rfl, h1⟩
    | false =>
      obtain ⟨v', e', ⟨rfl, rfl⟩, hok⟩ := Wop_sound hx hr.heap hrd hρ (slot := H.length) (fun h => by rw [hn] at h; cases h) (Wop_slot hn hW)
      refine hok K Q fun c w' m' h => hK _ w' m' ⟨h.heap, ?_, put_size c, put_def c, hr.below.trans h.below, fun k hk => h.keep.far k (hr.far k hk), by rw [happ_length]; exact hr.len, fun b hb => ?_⟩
      · exact env_put (fun t => (hr.env t).keep h.keep) hr.size hd h.val
      · rcases h.born b hb with h1 | h1
        · rcases hr.born b h1 with h2 | ⟨i, o', q1, q2, q3, q4⟩
          · exact .inl h2
          · exact .inr ⟨i, o', q1, q2, .inr q3, q4⟩
        · have := h.heap.lt b hb
          rw [happ_length] at this
          omega
  · have hw := gd_wanted hr.env hg
    rw [hw]
    simp only [Bool.false_eq_true, if_false]
    refine hK _ w m ⟨hr.heap, env_put hr.env hr.size hd (.tup [] [] rfl (fun i x c h => by simp at h)), put_size _, put_def _, hr.below, hr.far, hr.len, fun b hb => ?_⟩
    rcases hr.born b hb with h2 | ⟨i, o', q1, q2, q3, q4⟩
    · exact .inl h2
    · exact .inr ⟨i, o', q1, q2, .inr q3, q4⟩
end
end Go.Fw
