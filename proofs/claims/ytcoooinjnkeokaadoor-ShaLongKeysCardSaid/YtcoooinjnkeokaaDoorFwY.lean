/-
The text's order stands for every order of a region. No conditions.
-/
import Derived.Test.YtcoooinjnkeokaaDoorFwX
namespace Go.Fw
set_option linter.unusedVariables false
set_option linter.unusedSimpArgs false
open Go.RowKit

theorem newAt_news (l : List Oper) : ∀ (k i : Nat) o, l[i]? = some o → newOp o = true → newAt l k (news (l.take i)) = some (k + i) := by
  induction l with
  | nil => intro k i o h; simp at h
  | cons x r ih =>
    intro k i o h hn
    cases i with
    | zero =>
      simp at h; subst h
      simp [news, newAt, hn]
    | succ i =>
      have := ih (k + 1) i o (by simpa using h) hn
      rw [List.take_succ_cons]
      unfold news
      cases hx : newOp x with
      | true => simp only [cond_true, newAt, hx]; rw [this]; congr 1; omega
      | false => simp only [cond_false, newAt, hx]; rw [this]; congr 1; omega

theorem put_other {e : Env} {dst : Option Tmp} {v : V} {t : Nat} (h : ∀ d, dst = some d → d ≠ t) : put e dst v t = e t := by
  cases dst with
  | none => rfl
  | some d =>
    show upd e d v t = e t
    unfold upd
    cases hi : Nat.beq t d with
    | true => exact absurd (Nat.eq_of_beq_eq_true hi).symm (h d rfl)
    | false => rfl

theorem put_comm {e : Env} {x y : Option Tmp} {v u : V} (h : ∀ d, x = some d → y ≠ some d) : put (put e y u) x v = put (put e x v) y u := by
  funext t
  cases x with
  | none => rfl
  | some d =>
    cases y with
    | none => rfl
    | some d' =>
      have hne : d ≠ d' := fun e => h d rfl (by rw [e])
      show upd (upd e d' u) d v t = upd (upd e d v) d' u t
      unfold upd
      cases h1 : Nat.beq t d with
      | true =>
        cases h2 : Nat.beq t d' with
        | true => exact absurd ((Nat.eq_of_beq_eq_true h1).symm.trans (Nat.eq_of_beq_eq_true h2)) hne
        | false => rfl
      | false => cases h2 : Nat.beq t d' <;> rfl

section
variable {cx : Cx} {vis : Vis} {ops : List Oper} {base : Nat}

theorem YW.env {e e' : Env} {H : Heap} {j : Nat} {o : Oper} {v : V} {ef : Eff} (h : ∀ t ∈ o.looksAt ops.toArray, e' t = e t) (hy : YW cx vis ops base e H j o v ef) : YW cx vis ops base e' H j o v ef := by
  have hg : gd ops e' o = gd ops e o := by
    unfold gd
    cases hgd : o.guard with
    | none => rfl
    | some p =>
      obtain ⟨i, want⟩ := p
      simp only
      cases hd : (ops[i]?).bind (·.dst) with
      | none => rfl
      | some t =>
        simp only
        rw [h t]
        unfold Oper.looksAt
        refine List.mem_append_right _ ?_
        simp [hgd, hd]
  have hW : ∀ rd slot, Wop cx (evO cx e') rd slot o = Wop cx (evO cx e) rd slot o := fun rd slot => Wop_congr fun x hx => by
    cases x with
    | tmp t =>
      refine h t (List.mem_append_left _ (List.mem_filterMap.2 ⟨.tmp t, by simpa using hx, rfl⟩))
    | _ => rfl
  unfold YW at *
  rw [hg]
  simp only [hW]
  exact hy

theorem YW.one {e : Env} {H : Heap} {j : Nat} {o : Oper} {v : V} {ef : Eff} {p : V → Eff → Prop} (hy : YW cx vis ops base e H j o v ef)
    (hp : ∀ k, Wop cx (evO cx e) (rdAt vis ops base H j) (slotAt ops base j) o k → Wop cx (evO cx e) (rdAt vis ops base H j) (slotAt ops base j) o fun v e => p v e ∧ k v e) (h0 : p (.tup []) []) : p v ef := by
  rcases hy with ⟨_, hW⟩ | ⟨_, rfl, rfl⟩
  · have := hp _ (hW (fun v' e' => v' = v ∧ e' = ef) ⟨rfl, rfl⟩)
    obtain ⟨⟨v', e'⟩, ⟨h1, rfl, rfl⟩, _⟩ := Wop_lin cx _ _ _ o (fun q => p q.1 q.2 ∧ q.1 = v ∧ q.2 = ef) this
    exact h1
  · exact h0

theorem YW.eff {e : Env} {H : Heap} {j : Nat} {o : Oper} {v : V} {ef : Eff} (hy : YW cx vis ops base e H j o v ef) (hw : writeOp o = false) : effOK o (slotAt ops base j) ef :=
  hy.one (p := fun _ e => effOK o (slotAt ops base j) e) (fun k h => Wop_eff rfl hw h) (.inl rfl)

theorem YW.dom {e : Env} {H : Heap} {j : Nat} {o : Oper} {v : V} {ef : Eff} (hy : YW cx vis ops base e H j o v ef) : domOK (rdAt vis ops base H j) o (slotAt ops base j) ef :=
  hy.one (p := fun _ e => domOK (rdAt vis ops base H j) o (slotAt ops base j) e) (fun k h => Wop_dom rfl h) (fun b x hx => by simp at hx)

theorem frame_facts {o : Oper} (h : frameOp o = true) : writeOp o = false ∧ newOp o = false := by
  obtain ⟨dst, op, ty, pos, after, guard⟩ := o
  cases op with
  | indexAddr t x i => exact ⟨rfl, rfl⟩
  | slice t x lo hi mx => exact ⟨rfl, rfl⟩
  | sliceToArrayPointer arr x => exact ⟨rfl, rfl⟩
  | call c =>
    obtain ⟨callee, cargs, catys⟩ := c
    cases callee with
    | builtin b => cases b <;> first | exact ⟨rfl, rfl⟩ | cases h
    | _ => cases h
  | _ => cases h

/-- An operation that sees frames only: it has no effect, and yields the same where frames are the same. -/
theorem YW.frame {e : Env} {H : Heap} {j : Nat} {o : Oper} {v : V} {ef : Eff} (hy : YW cx vis ops base e H j o v ef) (hp : frameOp o = true) :
    ef = [] ∧ ∀ H', (∀ b, frO (rdAt vis ops base H j b) (rdAt vis ops base H' j b)) → YW cx vis ops base e H' j o v ef := by
  obtain ⟨f1, f2⟩ := frame_facts hp
  refine ⟨?_, fun H' hf => ?_⟩
  · rcases hy.eff f1 with h | ⟨h, _⟩
    · exact h
    · rw [f2] at h; cases h
  · rcases hy with ⟨hg, hW⟩ | hy
    · exact .inl ⟨hg, fun k hk => Wop_frame hp hf (hW k hk)⟩
    · exact .inr hy

theorem YW.pure {e : Env} {H : Heap} {j : Nat} {o : Oper} {v : V} {ef : Eff} (hy : YW cx vis ops base e H j o v ef) (hp : pureOp cx o = true) : ef = [] ∧ ∀ H', YW cx vis ops base e H' j o v ef := by
  have h1 := hy.one (p := fun _ e => e = []) (fun k h => Wop_pure hp h) rfl
  refine ⟨h1, fun H' => ?_⟩
  rcases hy with ⟨hg, hW⟩ | hy
  · refine .inl ⟨hg, fun k hk => ?_⟩
    have := Wop_pure (rd' := rdAt vis ops base H' j) (slot' := slotAt ops base j) hp (hW k hk)
    exact (Wop_lin cx _ _ _ o).mono (fun v e h => h.2) this
  · exact .inr hy

theorem happ_getD : ∀ (ef : Eff) (H : Heap) (b : Nat), (∀ x, (b, x) ∉ ef) → (happ H ef).getD b none = H.getD b none
  | [], H, b, h => rfl
  | (b', y) :: r, H, b, h => by
    have hne : b' ≠ b := fun e => h y (by simp [e])
    rw [happ, happ_getD r _ b fun x hx => h x (by simp [hx])]
    rw [List.getD_eq_getElem?_getD, List.getD_eq_getElem?_getD, List.getElem?_set, if_neg hne]

theorem happ_set : ∀ (ef : Eff) (H : Heap) (b : Nat) (y : Option Blk), (∀ x, (b, x) ∉ ef) → happ (H.set b y) ef = (happ H ef).set b y
  | [], H, b, y, h => rfl
  | (b', z) :: r, H, b, y, h => by
    have hne : b ≠ b' := fun e => h z (by simp [e])
    simp only [happ]
    rw [List.set_comm _ _ hne, happ_set r _ b y fun x hx => h x (by simp [hx])]

theorem happ_comm : ∀ (ef ef' : Eff) (H : Heap), (∀ b x y, (b, x) ∈ ef → (b, y) ∉ ef') → happ (happ H ef') ef = happ (happ H ef) ef'
  | [], ef', H, h => rfl
  | (b, x) :: r, ef', H, h => by
    simp only [happ]
    rw [← happ_comm r ef' (H.set b x) fun b' x' y hx => h b' x' y (by simp [hx])]
    rw [happ_set ef' H b x fun y => h b x y (by simp)]

theorem rdAt_hide {H : Heap} {i j : Nat} {oi : Oper} (hi : ops[i]? = some oi) {ef : Eff} (he : ∀ b x, (b, x) ∈ ef → (newOp oi = true ∧ b = slotAt ops base i) ∨ seen (vis j) b = false) (hb : before3 ops i j 4 = false) :
    rdAt vis ops base (happ H ef) j = rdAt vis ops base H j ∧ ∀ b x, (b, x) ∈ ef → ∀ H', rdAt vis ops base H' j b = none := by
  have hid : ∀ b x, (b, x) ∈ ef → ∀ H', rdAt vis ops base H' j b = none := fun b x hx H' => by
    rcases he b x hx with ⟨hn, hbs⟩ | hs
    · have h1 : Nat.blt b base = false := by
        cases hq : Nat.blt b base with
        | false => rfl
        | true =>
          have : b < base := of_eq_true (by rw [← Nat.blt_eq]; exact eq_true hq)
          unfold slotAt at hbs
          omega
      have h2 : newAt ops 0 (b - base) = some i := by
        have := newAt_news ops 0 i oi hi hn
        rw [hbs]
        unfold slotAt
        rw [Nat.add_sub_cancel_left, this, Nat.zero_add]
      unfold rdAt
      cases seen (vis j) b with
      | false => rfl
      | true => simp only [h1, h2, hb]
    · unfold rdAt
      rw [hs]
  refine ⟨?_, hid⟩
  funext b
  by_cases hbm : ∃ x, (b, x) ∈ ef
  · obtain ⟨x, hx⟩ := hbm
    rw [hid b x hx, hid b x hx]
  · unfold rdAt
    rw [happ_getD ef H b fun x hx => hbm ⟨x, hx⟩]

theorem hid_seen {i j : Nat} {o : Oper} (h : hid vis i j o = true) (hw : writeOp o = true) {b : Nat} (hb : seen (vis i) b = true) : seen (vis j) b = false := by
  unfold hid at h
  rw [hw] at h
  simp only [Bool.not_true, Bool.false_or] at h
  split at h
  · rename_i l hl
    rw [hl] at hb
    rw [List.all_eq_true] at h
    have mem : ∀ l : List Nat, elemN b l = true → b ∈ l := by
      intro l
      induction l with
      | nil => intro h; cases h
      | cons m l ih =>
        intro h
        unfold elemN at h
        cases hm : Nat.beq b m with
        | true => rw [Nat.eq_of_beq_eq_true hm]; simp
        | false => rw [hm] at h; exact List.mem_cons_of_mem _ (ih h)
    simpa using h b (mem l hb)
  · cases h

theorem rdAt_seen {H : Heap} {j b : Nat} (h : rdAt vis ops base H j b ≠ none) : seen (vis j) b = true := by
  unfold rdAt at h
  cases hs : seen (vis j) b with
  | true => rfl
  | false => rw [hs] at h; exact absurd rfl h

theorem rdAt_frame {H : Heap} {i j : Nat} {ef : Eff} (hs : softEff (rdAt vis ops base H j) ef) : ∀ b, frO (rdAt vis ops base H i b) (rdAt vis ops base (happ H ef) i b) := by
  obtain ⟨b0, x, x', hb0, hf, rfl⟩ := hs
  have hx : H.getD b0 none = some x := by
    unfold rdAt at hb0
    split at hb0
    · cases hb0
    · split at hb0
      · exact hb0
      · split at hb0
        · split at hb0
          · exact hb0
          · cases hb0
        · cases hb0
  have hD : ∀ b, frO (H.getD b none) ((happ H [(b0, some x')]).getD b none) := fun b => by
    by_cases hb : b = b0
    · subst hb
      rw [hx]
      have : (happ H [(b, some x')]).getD b none = some x' := by
        simp only [happ]
        rw [List.getD_eq_getElem?_getD, List.getElem?_set]
        have hl : b < H.length := by
          rw [List.getD_eq_getElem?_getD] at hx
          cases hg : H[b]? with
          | none => rw [hg] at hx; cases hx
          | some y => exact (List.getElem?_eq_some_iff.1 hg).1
        simp [hl]
      rw [this]
      exact .some _ _ hf
    · rw [happ_getD _ _ b fun y hy => by simp at hy; exact hb hy.1]
      exact .refl _
  intro b
  unfold rdAt
  cases seen (vis i) b with
  | false => exact .none
  | true =>
    cases Nat.blt b base with
    | true => exact hD b
    | false =>
      simp only
      cases newAt ops 0 (b - base) with
      | none => exact .none
      | some q =>
        simp only
        cases before3 ops q i 4 with
        | true => exact hD b
        | false => exact .none

theorem softEff_of {e : Env} {H : Heap} {j : Nat} {o : Oper} {v : V} {ef : Eff} (hy : YW cx vis ops base e H j o v ef) (hs : softOp o = true) : ef = [] ∨ softEff (rdAt vis ops base H j) ef :=
  hy.one (p := fun _ ef => ef = [] ∨ softEff (rdAt vis ops base H j) ef) (fun k h => (Wop_lin cx _ _ _ o).mono (fun v e h => ⟨.inr h.1, h.2⟩) (Wop_soft hs h)) (.inl rfl)

theorem swap {i j : Nat} {oi oj : Oper} (hi : ops[i]? = some oi) (hj : ops[j]? = some oj) (hij : i ≠ j) (hc : compat cx vis ops.toArray i j oi oj = true) (b1 : before3 ops i j 4 = false) (b2 : before3 ops j i 4 = false)
    {e : Env} {H : Heap} {v vj : V} {ef efj : Eff} (hy : YW cx vis ops base e H i oi v ef) (hyj : YW cx vis ops base (put e oi.dst v) (happ H ef) j oj vj efj) :
    YW cx vis ops base e H j oj vj efj ∧ YW cx vis ops base (put e oj.dst vj) (happ H efj) i oi v ef ∧ put (put e oj.dst vj) oi.dst v = put (put e oi.dst v) oj.dst vj ∧ happ (happ H efj) ef = happ (happ H ef) efj := by
  unfold compat at hc
  rw [Bool.and_eq_true] at hc
  obtain ⟨hap, hkind⟩ := hc
  obtain ⟨a1, a2, a3⟩ := Oper.apart_spec hap
  have ej : ∀ {H' ef}, YW cx vis ops base (put e oi.dst v) H' j oj vj ef → YW cx vis ops base e H' j oj vj ef := fun h =>
    h.env fun t ht => (put_other fun d hd heq => a1 d hd (heq ▸ ht)).symm
  have ei : ∀ {H'}, YW cx vis ops base e H' i oi v ef → YW cx vis ops base (put e oj.dst vj) H' i oi v ef := fun h =>
    h.env fun t ht => put_other fun d hd heq => a3 d hd (heq ▸ ht)
  have hput : put (put e oj.dst vj) oi.dst v = put (put e oi.dst v) oj.dst vj := put_comm a2
  by_cases hpi : pureOp cx oi = true
  · obtain ⟨rfl, hall⟩ := hy.pure hpi
    exact ⟨ej hyj, ei (hall _), hput, rfl⟩
  by_cases hpj : pureOp cx oj = true
  · obtain ⟨rfl, hall⟩ := hyj.pure hpj
    exact ⟨ej (hall _), ei hy, hput, rfl⟩
  by_cases hfs : frameOp oi = true ∧ softOp oj = true
  · obtain ⟨rfl, hall⟩ := hy.frame hfs.1
    refine ⟨ej hyj, ei (hall _ ?_), hput, rfl⟩
    rcases softEff_of hyj hfs.2 with rfl | hs
    · exact fun b => .refl _
    · exact rdAt_frame hs
  by_cases hsf : softOp oi = true ∧ frameOp oj = true
  · obtain ⟨rfl, hall⟩ := hyj.frame hsf.2
    refine ⟨ej (hall _ ?_), ei hy, hput, rfl⟩
    rcases softEff_of hy hsf.1 with rfl | hs
    · exact fun b => .refl _
    · exact fun b => (rdAt_frame hs b).symm
  · have hw : hid vis i j oi = true ∧ hid vis j i oj = true := by
      simp only [Bool.or_eq_true, Bool.and_eq_true, Bool.not_eq_true'] at hkind
      rcases hkind with ((((h | h) | h) | h) | h) | h
      · exact absurd h hpi
      · exact absurd h hpj
      · exact ⟨by simp [hid, h.1], by simp [hid, h.2]⟩
      · exact absurd h hfs
      · exact absurd h hsf
      · exact h
    have dom : ∀ {q r : Nat} {oq : Oper} {e : Env} {H : Heap} {v : V} {ef : Eff}, ops[q]? = some oq → YW cx vis ops base e H q oq v ef → hid vis q r oq = true → ∀ b x, (b, x) ∈ ef → (newOp oq = true ∧ b = slotAt ops base q) ∨ seen (vis r) b = false := fun hq hy hh b x hx => by
      rcases hy.dom b x hx with h | h
      · exact .inl h
      · cases hwr : writeOp _ with
        | true => exact .inr (hid_seen hh hwr (rdAt_seen h))
        | false =>
          rcases hy.eff hwr with rfl | ⟨hn, y, rfl⟩
          · simp at hx
          · simp at hx; exact .inl ⟨hn, hx.1⟩
    obtain ⟨r1, n1⟩ := rdAt_hide (H := H) (j := j) hi (dom hi hy hw.1) b1
    have hyj' : YW cx vis ops base (put e oi.dst v) H j oj vj efj := by
      unfold YW at hyj ⊢
      rw [r1] at hyj
      exact hyj
    obtain ⟨r2, n2⟩ := rdAt_hide (H := H) (j := i) hj (dom hj hyj' hw.2) b2
    refine ⟨ej hyj', ei ?_, hput, ?_⟩
    · unfold YW at hy ⊢
      rw [r2]
      exact hy
    · refine happ_comm ef efj H fun b x y hx hyb => ?_
      rcases hyj'.dom b y hyb with ⟨hn, hb⟩ | h
      · rcases hy.dom b x hx with ⟨hn', hb'⟩ | h'
        · exact hij (slotAt_inj hi hn' hj hn (hb'.symm.trans hb))
        · exact h' (n2 b y hyb _)
      · exact h (n1 b x hx _)

/-- **An operation that may come up now may be taken first.** -/
theorem any_first {K : Env → Heap → Prop} {i : Nat} {oi : Oper} (hi : ops[i]? = some oi)
    (hb : ∀ listed, Closed ops listed → ∀ j oj, ops[j]? = some oj → j ≠ i → listed.getD j true = false → listed.getD i true = false → j ∈ Region.ready .any ops.toArray listed → i ∈ Region.ready .any ops.toArray listed → (∀ k, k < i → listed.getD k false = true) →
      compat cx vis ops.toArray i j oi oj = true ∧ before3 ops i j 4 = false ∧ before3 ops j i 4 = false) :
    ∀ (fuel : Nat) (listed : Array Bool) (e : Env) (H : Heap) (v : V) (ef : Eff), Closed ops listed → (∀ k, k < i → listed.getD k false = true) → i ∈ Region.ready .any ops.toArray listed → YW cx vis ops base e H i oi v ef →
      AnyW cx vis ops base K fuel (listed.setIfInBounds i true) (put e oi.dst v) (happ H ef) → AnyW cx vis ops base K (fuel + 1) listed e H := by
  have closed_set : ∀ listed k, Closed ops listed → k ∈ Region.ready .any ops.toArray listed → Closed ops (listed.setIfInBounds k true) := fun listed k hc hk q o hq ho e he hbind => by
    by_cases hkq : k = q
    · subst hkq
      obtain ⟨_, o', ho', hall⟩ := mem_ready.1 hk
      have : o' = o := by rw [List.getElem?_toArray, ho] at ho'; exact (Option.some.inj ho').symm
      subst this
      exact getD_set_true (hall e he hbind)
    · rw [getD_set_ne false hkq] at hq
      exact getD_set_true (hc q o hq ho e he hbind)
  intro fuel
  induction fuel with
  | zero =>
    intro listed e H v ef hc hbel hr hy hA
    refine ⟨fun h => (by rw [h] at hr; cases hr), fun j hj o ho => ?_⟩
    by_cases hji : j = i
    · subst hji
      rw [hi] at ho; cases ho
      exact ⟨v, ef, hy, hA⟩
    · have := ready_mono hj hji
      rw [hA.1] at this
      cases this
  | succ fuel ih =>
    intro listed e H v ef hc hbel hr hy hA
    refine ⟨fun h => (by rw [h] at hr; cases hr), fun j hj oj ho => ?_⟩
    by_cases hji : j = i
    · subst hji
      rw [hi] at ho; cases ho
      exact ⟨v, ef, hy, hA⟩
    · obtain ⟨vj, efj, hyj, hrest⟩ := hA.2 j (ready_mono hj hji) oj ho
      obtain ⟨hcp, b1, b2⟩ := hb listed hc j oj ho hji (mem_ready.1 hj).1 (mem_ready.1 hr).1 hj hr hbel
      obtain ⟨s1, s2, s3, s4⟩ := swap hi ho (Ne.symm hji) hcp b1 b2 hy hyj
      refine ⟨vj, efj, s1, ih (listed.setIfInBounds j true) _ _ v ef (closed_set listed j hc hj) (fun k hk => getD_set_true (hbel k hk)) (ready_mono hr (Ne.symm hji)) s2 ?_⟩
      rw [Array.setIfInBounds_comm _ _ hji, s3, s4]
      exact hrest

theorem getD_false_of_true {listed : Array Bool} {i : Nat} (h : listed.getD i true = false) : listed.getD i false = false := by
  rcases Nat.lt_or_ge i listed.size with h' | h'
  · simp [h'] at h ⊢; exact h
  · simp [Array.getElem?_eq_none h'] at h

theorem any_of_lex (hfree : regionFree cx vis ops = true) {K : Env → Heap → Prop} : ∀ (l : List Oper) (j : Nat) (listed : Array Bool) (e : Env) (H : Heap), (∀ i, l[i]? = ops[j + i]?) → listed.size = ops.length →
    (∀ k, listed.getD k false = decide (k < j)) → j + l.length = ops.length → LexW cx vis ops base K l j e H → AnyW cx vis ops base K l.length listed e H := by
  unfold regionFree at hfree
  rw [Bool.and_eq_true] at hfree
  obtain ⟨hear, hpairs⟩ := hfree
  have hE := fun i o ho e he hb => by simpa using earlier_spec ops 0 hear i o ho e he hb
  have hM := masks_spec (ops := ops) hE ops [] (fun i => by simp) (fun k hk => by simp at hk)
  have hP := fun i j x y hx hy hij => by simpa using pairsOK_spec ops 0 hpairs i j x y hx hy hij
  intro l
  induction l with
  | nil =>
    intro j listed e H hl hs hL hlen h
    refine ⟨?_, h⟩
    cases hr : Region.ready .any ops.toArray listed with
    | nil => rfl
    | cons x xs =>
      have hx : x ∈ Region.ready .any ops.toArray listed := by rw [hr]; simp
      obtain ⟨h1, o, ho, _⟩ := mem_ready.1 hx
      have h2 := getD_false_of_true h1
      rw [hL] at h2
      have : x < ops.length := by
        have := (Array.getElem?_eq_some_iff.1 ho).1
        simpa using this
      simp at h2 hlen
      omega
  | cons o rest ih =>
    intro j listed e H hl hs hL hlen h
    obtain ⟨v, ef, hy, hrest⟩ := h
    have h0 : ops[j]? = some o := by simpa using (hl 0).symm
    have hl' : ∀ i, rest[i]? = ops[j + 1 + i]? := fun i => by have := hl (i + 1); simpa [Nat.add_assoc, Nat.add_comm 1 i] using this
    have hjl := (List.getElem?_eq_some_iff.1 h0).1
    have hun : listed.getD j true = false := by
      have := hL j
      have h1 : j < listed.size := by omega
      simp [h1] at this ⊢
      exact this
    have hready : j ∈ Region.ready .any ops.toArray listed := mem_ready.2 ⟨hun, o, by simpa using h0, fun e he hb => by
      rw [hL]
      have := hE j o h0 e he hb
      simpa using this⟩
    have hclosed : Closed ops listed := fun k o' hk ho' e he hb => by
      rw [hL] at hk ⊢
      have h1 : k < j := by simpa using hk
      have := hE k o' ho' e he hb
      simp
      omega
    refine any_first h0 (fun listed hc q oq hq hqj hun1 hun2 hr1 hr2 hbel => ?_) rest.length listed e H v ef hclosed (fun k hk => by rw [hL]; simpa using hk) hready hy ?_
    · have hr1' : ∀ o', ops[q]? = some o' → ∀ e ∈ o'.after, Region.binds .any e = true → listed.getD e.on false = true := fun o' ho' e he hb => by
        obtain ⟨_, o2, ho2, hall⟩ := mem_ready.1 hr1
        have : o2 = o' := by rw [List.getElem?_toArray, ho'] at ho2; exact (Option.some.inj ho2).symm
        subst this
        exact hall e he hb
      have hr2' : ∀ o', ops[j]? = some o' → ∀ e ∈ o'.after, Region.binds .any e = true → listed.getD e.on false = true := fun o' ho' e he hb => by
        obtain ⟨_, o2, ho2, hall⟩ := mem_ready.1 hr2
        have : o2 = o' := by rw [List.getElem?_toArray, ho'] at ho2; exact (Option.some.inj ho2).symm
        subst this
        exact hall e he hb
      have n1 := getD_false_of_true hun1
      have n2 := getD_false_of_true hun2
      have hlt : j < q := by
        rcases Nat.lt_trichotomy q j with h | h | h
        · have := hbel q h
          rw [n1] at this; cases this
        · exact absurd h hqj
        · exact h
      refine ⟨?_, ?_, ?_⟩
      · rcases hP j q o oq h0 hq hlt with h | h
        · have := hM q listed hc hr1' j h
          rw [n2] at this; cases this
        · exact h
      · cases hq4 : before3 ops j q 4 with
        | false => rfl
        | true =>
          have := before3_listed hc 4 q hr1' hq4
          rw [n2] at this; cases this
      · cases hq4 : before3 ops q j 4 with
        | false => rfl
        | true =>
          have := before3_listed hc 4 j hr2' hq4
          rw [n1] at this; cases this
    · refine ih (j + 1) _ _ _ hl' (by simpa using hs) (fun k => ?_) (by simp at hlen; omega) hrest
      by_cases hkj : j = k
      · subst hkj
        have h1 : j < listed.size := by omega
        simp [h1]
      · rw [getD_set_ne false hkj, hL]
        have : k < j ↔ k < j + 1 := by omega
        simp [this]
end
end Go.Fw
