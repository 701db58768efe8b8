/-
Copies into slices. No conditions.
-/
import Derived.Test.YtcoooinjnkeokaaDoorFwNb
namespace Go.Fw
set_option linter.unusedVariables false
set_option linter.unusedSimpArgs false
open Go.RowKit

theorem copyL_eq {α : Type} (xs ys : List α) (off len : Nat) (h : off + len ≤ xs.length) :
    xs.take off ++ (copyL ((xs.drop off).take len) ys ++ xs.drop (off + len)) = xs.take off ++ ys.take (Nat.min ys.length len) ++ xs.drop (off + Nat.min ys.length len) := by
  unfold copyL
  have hl : ((xs.drop off).take len).length = len := by simp; omega
  rw [hl, List.append_assoc, List.append_assoc]
  congr 1
  rcases Nat.le_total ys.length len with h1 | h1
  · rw [show Nat.min ys.length len = ys.length from Nat.min_eq_left h1, List.take_of_length_le h1, List.take_length]
    congr 1
    rw [List.drop_take, List.drop_drop]
    have e : xs.drop (off + ys.length) = (xs.drop (off + ys.length)).take (len - ys.length) ++ xs.drop (off + len) := by
      conv => lhs; rw [← List.take_append_drop (len - ys.length) (xs.drop (off + ys.length))]
      rw [List.drop_drop]
      congr 2
      omega
    rw [← e]
  · rw [show Nat.min ys.length len = len from Nat.min_eq_right h1]
    congr 1
    rw [List.drop_eq_nil_of_le (by omega), List.nil_append]

section
variable {cx : Cx} {B : Nat} {w : World} {m : M} {H : Heap} {rd : Nat → Option Blk}

theorem copy_arr {own : Nat → Prop} {N : Nat} {e : Sh} {xs ys : List D} {cells : List Value} {dss : List (List Value)} (h : RC w own (.arr N e) (.arr N e xs) cells) (hl2 : dss.length = ys.length)
    (h2 : ∀ (i : Nat) x cs, ys[i]? = some x → dss[i]? = some cs → RC w own e x cs) {off n : Nat} (hn : n ≤ ys.length) (hle : off + n ≤ N) :
    RC w own (.arr N e) (.arr N e (xs.take off ++ ys.take n ++ xs.drop (off + n))) (cells.take (off * e.csz) ++ dss.flatten.take (n * e.csz) ++ cells.drop (off * e.csz + n * e.csz)) := by
  cases h with
  | arr _ _ _ css hl hN h =>
    have l1 := arr_lens hl h
    have l2 := arr_lens hl2 h2
    rw [← flat_take off l1 (by omega), ← flat_take n l2 (by omega), ← Nat.add_mul, ← flat_drop (off + n) l1 (by omega), ← List.flatten_append, ← List.flatten_append]
    refine .arr N e _ _ (by simp [hl, hl2]) (by simp; omega) fun i x cs a b => ?_
    rw [List.getElem?_append] at a b
    have e1 : (xs.take off ++ ys.take n).length = off + n := by simp; omega
    have e2 : (css.take off ++ dss.take n).length = off + n := by simp; omega
    rw [e1] at a
    rw [e2] at b
    split at a
    · rename_i hi
      rw [if_pos hi] at b
      rw [List.getElem?_append] at a b
      have e3 : (xs.take off).length = off := by simp; omega
      have e4 : (css.take off).length = off := by simp; omega
      rw [e3] at a
      rw [e4] at b
      split at a
      · rename_i hi2
        rw [if_pos hi2] at b
        rw [List.getElem?_take, if_pos hi2] at a b
        exact h _ x cs a b
      · rename_i hi2
        rw [if_neg hi2] at b
        rw [List.getElem?_take] at a b
        split at a
        · rename_i hi3
          rw [if_pos hi3] at b
          exact h2 _ x cs a b
        · cases a
    · rename_i hi
      rw [if_neg hi] at b
      rw [List.getElem?_drop] at a b
      exact h _ x cs a b

/-- The built-in copy. -/
theorem run_copy {t t2 ty e : TypeId} {ee : TyE} (hu : cx.P.underlying t = some (.slice e)) (hee : TyP cx e ee) {kk o len cap : Nat} {cur : Array Value} (hr : Row w kk cur) {a : Option Addr} {mm c2 : Nat} {ao : Option Addr}
    {news : List Value} (hl : news.length = mm * ee.sh.csz) (hcell : ∀ (j : Nat) u, news[j]? = some u → ∃ ad, a = some ad ∧ w.cell? (ad.add j) = some u) (h1 : ∀ u ∈ news, u.oneCell' = true)
    (hao : 0 < len → ao = some ⟨kk, o, none⟩) (hfit : o + Nat.min mm len * ee.sh.csz ≤ cur.size) :
    (Builtin.copy_ #[t, t2] ty #[.slice ao len cap, .slice a mm c2]).run cx.P w =
      .ok (goInt (Nat.min mm len)) (w.setRow kk (cur.toList.take o ++ news.take (Nat.min mm len * ee.sh.csz) ++ cur.toList.drop (o + Nat.min mm len * ee.sh.csz)).toArray) := by
  obtain ⟨tt, hr⟩ := hr
  have hnl : (news.take (Nat.min mm len * ee.sh.csz)).length = Nat.min mm len * ee.sh.csz := by
    rw [List.length_take, hl]; exact Nat.min_eq_left (Nat.mul_le_mul_right _ (Nat.min_le_left _ _))
  have hst := run_storeCells_at cx.P kk o tt (news.take (Nat.min mm len * ee.sh.csz)) 0 cur w hr (by rw [hnl]; simpa using hfit) (fun v hv => h1 v (List.mem_of_mem_take hv))
  simp only [Nat.add_zero, hnl] at hst
  have hf : (Builtin.firstCells ee.sh.csz (Nat.min mm len) (.slice a mm c2)).run cx.P w = .ok (news.take (Nat.min mm len * ee.sh.csz)).toArray w := by
    cases a with
    | some a =>
      exact run_firstCells_some (P := cx.P) w ee.sh.csz (Nat.min mm len) a mm c2 _ hnl (fun j u hj => by
        rw [List.getElem?_take] at hj
        split at hj
        · obtain ⟨ad, ha, h⟩ := hcell j u hj; cases ha; exact h
        · cases hj)
    | none =>
      have : news = [] := by
        cases news with
        | nil => rfl
        | cons x r => obtain ⟨ad, ha, _⟩ := hcell 0 x rfl; cases ha
      subst this
      simp
      rfl
  rcases Nat.eq_zero_or_pos len with h0 | h0
  · subst h0
    have hm : Nat.min mm 0 = 0 := Nat.min_zero _
    rw [hm] at hst hf ⊢
    simp only [Nat.zero_mul, List.take_zero, List.append_nil, Nat.add_zero, List.take_append_drop, Array.toArray_toList] at hst hf ⊢
    rw [setRow_self w kk cur tt (0, 0) hr]
    have hm' : min mm 0 = 0 := Nat.min_zero _
    cases ao <;> simp [Builtin.copy_, run_underlying hu, hee.run_sizeOf w, Builtin.lenOf, hf, storeCells, hm']
  · have := hao h0
    subst this
    simp [Builtin.copy_, run_underlying hu, hee.run_sizeOf w, Builtin.lenOf, hf, hst]

theorem run_copy0 {t t2 ty e : TypeId} {ee : TyE} (hu : cx.P.underlying t = some (.slice e)) (hee : TyP cx e ee) {ao a : Option Addr} {cap mm c2 : Nat} :
    (Builtin.copy_ #[t, t2] ty #[.slice ao 0 cap, .slice a mm c2]).run cx.P w = .ok (goInt 0) w := by
  have hf : (Builtin.firstCells ee.sh.csz 0 (.slice a mm c2)).run cx.P w = .ok #[] w := by
    cases a with
    | none => rfl
    | some a => simp [Builtin.firstCells, loadCells, loadCellsFrom]
  cases ao <;> simp [Builtin.copy_, run_underlying hu, hee.run_sizeOf w, Builtin.lenOf, hf, storeCells]

theorem set_live {b : Nat} {x : Blk} (h : live H b x) : H.set b (some x) = H := by
  apply List.ext_getElem?
  intro i
  rw [List.getElem?_set]
  split
  · rename_i e
    subst e
    rw [if_pos (live_lt h)]
    exact h.symm
  · rfl

theorem copy_fin (hh : HeapOK cx B w m H) {slot b kk cap : Nat} {x x' : Blk} {cur' : Array Value} (hl : live H b x) (hi : m.ι b = some (kk, cap)) (hbk : BK m m b x x') {k : V → Eff → Prop} {n : Nat} {S : Sem Value}
    (hk : k (.d (.int .i64 n)) [(b, some x')]) (hrun : S.run cx.P w = .ok (goInt n) (w.setRow kk cur')) (hx : BlkOK (w.setRow kk cur') m (H.set b (some x')) b x') : OpRes cx B w m H slot k S :=
  ⟨_, _, _, _, m, hk, hrun, keep_set hl hi hbk, heap_set hh hl hi hbk hx, .int _ _, below_row (hh.lo b x kk cap hl hi), fun i hi => .inl hi⟩

theorem copyV_sound (hx : CxOK cx) (hh : HeapOK cx B w m H) (hrd : Rd rd H) {slot : Nat} {t t2 ty e : TypeId} {te ee : TyE} (hte : cx.ty t = some te) (hty : te.ty = .sl e) (hee : cx.ty e = some ee)
    {dst src : V} {d c : Value} {k : V → Eff → Prop} (hd : RV w m H dst d) (hc : RV w m H src c) (hg : copyV rd ee.sh dst src k) : OpRes cx B w m H slot k (Builtin.copy_ #[t, t2] ty #[d, c]) := by
  have hu := ty_sl hx hte hty
  have hte' := hx.ty _ _ hee
  have grows : ∀ {b ver off len : Nat} {xs ys : List D}, live H b (.grow ver ee.sh xs) → off + len ≤ xs.length → SlAt w m H ee.sh ys c → (∃ ao cp, d = .slice ao len cp ∧ (0 < len → ∃ kk cap, m.ι b = some (kk, cap) ∧ ao = some ⟨kk, off * ee.sh.csz, none⟩)) →
      k (.d (.int .i64 (Nat.min ys.length len))) [(b, some (.grow ver ee.sh (xs.take off ++ ys.take (Nat.min ys.length len) ++ xs.drop (off + Nat.min ys.length len))))] → OpRes cx B w m H slot k (Builtin.copy_ #[t, t2] ty #[d, c]) := by
    intro b ver off len xs ys hl hle hs hdd hk
    obtain ⟨ao, cp, rfl, hao⟩ := hdd
    obtain ⟨a, c2, dss, rfl, hl2, hrc2, hfl2, hone2, hcell2⟩ := hs.flat hte'.pos
    cases hbo : hh.blk b _ hl with
    | none _ _ hn =>
      have hlen : len = 0 := by simp at hle; omega
      subst hlen
      refine ⟨_, _, .int .i64 0, w, m, hk, run_copy0 hu hte', ?_⟩
      have e0 : ([] : List D).take off ++ ys.take (Nat.min ys.length 0) ++ ([] : List D).drop (off + Nat.min ys.length 0) = [] := by simp [show Nat.min ys.length 0 = 0 from Nat.min_zero _]
      rw [e0]
      have e1 : happ H [(b, some (.grow ver ee.sh []))] = H := set_live hl
      rw [e1]
      exact ⟨Keep.refl w m H, hh, by rw [show Nat.min ys.length 0 = 0 from Nat.min_zero _]; exact .int _ _, Below.refl B w, fun i hi => .inl hi⟩
    | grow _ _ _ kk cap cur css hi hr hsz hcap hm hl1 hrc1 ht1 =>
      have hmin : Nat.min ys.length len ≤ len := Nat.min_le_right _ _
      have hmin2 : Nat.min ys.length len ≤ ys.length := Nat.min_le_left _ _
      have hfit : off * ee.sh.csz + Nat.min ys.length len * ee.sh.csz ≤ xs.length * ee.sh.csz := by rw [← Nat.add_mul]; exact Nat.mul_le_mul_right _ (by omega)
      have hfit2 : xs.length * ee.sh.csz ≤ cur.size := by rw [hsz]; exact Nat.mul_le_mul_right _ hcap
      have hrun := run_copy (cx := cx) (t2 := t2) (ty := ty) (cap := cp) (c2 := c2) hu hte' hr hfl2 hcell2 hone2 (ao := ao) (o := off * ee.sh.csz) (len := len) (fun h => by
        obtain ⟨kk', cap', hi', ha⟩ := hao h
        rw [hi] at hi'; cases hi'; exact ha) (by omega)
      have hlen : (xs.take off ++ ys.take (Nat.min ys.length len) ++ xs.drop (off + Nat.min ys.length len)).length = xs.length := by
        simp only [List.length_append, List.length_take, List.length_drop]; omega
      have hbk : BK m m b (.grow ver ee.sh xs) (.grow ver ee.sh (xs.take off ++ ys.take (Nat.min ys.length len) ++ xs.drop (off + Nat.min ys.length len))) := .grow _ _ _ _ hlen rfl
      have harr : RC w (Own m H) (.arr xs.length ee.sh) (.arr xs.length ee.sh xs) (cur.toList.take (xs.length * ee.sh.csz)) := by rw [ht1]; exact .arr _ _ xs css hl1 rfl hrc1
      have hnew := copy_arr harr hl2 hrc2 (off := off) (n := Nat.min ys.length len) hmin2 (by omega)
      have hnl : (dss.flatten.take (Nat.min ys.length len * ee.sh.csz)).length = Nat.min ys.length len * ee.sh.csz := by
        rw [List.length_take, hfl2]; exact Nat.min_eq_left (Nat.mul_le_mul_right _ hmin2)
      have hcl : cur.toList.length = cur.size := by simp
      have hts := take_splice cur.toList (dss.flatten.take (Nat.min ys.length len * ee.sh.csz)) (xs.length * ee.sh.csz) (off * ee.sh.csz) (by rw [hnl]; exact hfit) (by omega)
      rw [hnl] at hts
      rw [← hts] at hnew
      generalize hq : (cur.toList.take (off * ee.sh.csz) ++ dss.flatten.take (Nat.min ys.length len * ee.sh.csz) ++ cur.toList.drop (off * ee.sh.csz + Nat.min ys.length len * ee.sh.csz)) = q at *
      have hql : q.length = cur.size := by rw [← hq]; simp only [List.length_append, List.length_take, List.length_drop, hcl, hfl2]; rw [show min (Nat.min ys.length len * ee.sh.csz) (ys.length * ee.sh.csz) = Nat.min ys.length len * ee.sh.csz from Nat.min_eq_left (Nat.mul_le_mul_right _ hmin2)]; omega
      generalize hq2 : q.take (xs.length * ee.sh.csz) = q2 at hnew
      cases hnew with
      | arr _ _ _ css' hl' hn' hrc' =>
        refine copy_fin hh hl hi hbk hk hrun (.grow ver ee.sh _ kk cap _ css' hi (row_setRow_self hr) (by rw [← hsz]; simpa using hql) (by rw [hlen]; exact hcap) hm hl' (fun i x cs p r => (hrc' i x cs p r).mono (keep_set hl hi hbk).cell) ?_)
        rw [hlen]
        simpa using hq2
  cases dst with
  | sl b off ver =>
    obtain ⟨blk, hbl, hg⟩ := onS_elim hg
    cases blk with
    | fix v => exact hg.elim
    | grow ver' e' xs =>
      obtain ⟨hev, hg1⟩ := onE_elim hg
      obtain ⟨hbe, hg2⟩ := onT_elim hg1
      clear hg hg1
      have he := Sh.beq_eq _ _ hbe
      subst he; subst hev
      have hl := hrd b _ hbl
      obtain ⟨ys, hk, hs⟩ := elems_sound hh hrd hc hg2
      obtain ⟨cs, h, hcc⟩ := hd.elim rfl
      cases h with
      | sl _ _ _ c' ho _ h =>
        have hcc : d = c' := hcc
        subst hcc
        obtain ⟨_, h⟩ := h ver _ xs hl
        obtain ⟨hof, h⟩ := h rfl
        have hcl := copyL_eq xs ys off (xs.length - off) (by omega)
        rw [List.take_of_length_le (l := xs.drop off) (by simp), List.drop_eq_nil_of_le (as := xs) (i := off + (xs.length - off)) (by omega), List.append_nil] at hcl
        rw [hcl] at hk
        refine grows (len := xs.length - off) hl (by omega) hs ?_ hk
        rcases h with ⟨hn, rfl⟩ | ⟨kk, cap, a, hi, hcap, rfl, ha⟩
        · have hx0 : xs = [] := by
            cases hh.blk b _ hl with
            | none => rfl
            | grow ver e xs k cap cur css h1 => rw [hn] at h1; cases h1
          subst hx0
          exact ⟨none, 0, by simp, fun h => by simp at h⟩
        · exact ⟨a, _, rfl, fun h => ⟨kk, cap, hi, ha (by omega)⟩⟩
  | sub b off len ver =>
    obtain ⟨blk, hbl, hg⟩ := onS_elim hg
    cases blk with
    | fix v => exact hg.elim
    | grow ver' e' xs =>
      obtain ⟨hev, hg1⟩ := onE_elim hg
      obtain ⟨hbe, hg2⟩ := onT_elim hg1
      clear hg hg1
      have he := Sh.beq_eq _ _ hbe
      subst he; subst hev
      have hl := hrd b _ hbl
      obtain ⟨ys, hk, hs⟩ := elems_sound hh hrd hc hg2
      obtain ⟨cs, h, hcc⟩ := hd.elim rfl
      cases h with
      | sub _ _ _ _ c' ho _ h =>
        have hcc : d = c' := hcc
        subst hcc
        obtain ⟨_, h⟩ := h ver _ xs hl
        obtain ⟨hle, cap, a, rfl, hcap, ha⟩ := h rfl
        rw [copyL_eq xs ys off len hle] at hk
        exact grows hl hle hs ⟨a, cap, rfl, ha⟩ hk
  | sa b path off len =>
    obtain ⟨blk, hbl, hg⟩ := onS_elim hg
    cases blk with
    | grow ver' e' xs => exact hg.elim
    | fix v =>
      have hl := hrd b _ hbl
      obtain ⟨u, hk', hg2⟩ := getV_lin path v hg
      cases u with
      | d y =>
        cases y with
        | arr n e' xs =>
          obtain ⟨kk, cap, cur, o, a, hi2, hr, hrv, hp, hle, hxl, hsz, hra, rfl, ha, hsd⟩ := slAt_sa hh hl hd hg2 (fun u hu => hu)
          obtain ⟨hbe, hg3⟩ := onT_elim hk'
          clear hk' hg
          have he := Sh.beq_eq _ _ hbe
          subst he
          obtain ⟨ys, hg4, hs⟩ := elems_sound hh hrd hc hg3
          obtain ⟨ac, c2, dss, rfl, hl2, hrc2, hfl2, hone2, hcell2⟩ := hs.flat hte'.pos
          have hmin : Nat.min ys.length len ≤ len := Nat.min_le_right _ _
          have hmin2 : Nat.min ys.length len ≤ ys.length := Nat.min_le_left _ _
          have hnl : (dss.flatten.take (Nat.min ys.length len * ee.sh.csz)).length = Nat.min ys.length len * ee.sh.csz := by
            rw [List.length_take, hfl2]; exact Nat.min_eq_left (Nat.mul_le_mul_right _ hmin2)
          have hfit : off * ee.sh.csz + Nat.min ys.length len * ee.sh.csz ≤ n * ee.sh.csz := by rw [← Nat.add_mul]; exact Nat.mul_le_mul_right _ (by omega)
          rw [copyL_eq xs ys off len (by omega)] at hg4
          have hnew := copy_arr hra hl2 hrc2 (off := off) (n := Nat.min ys.length len) hmin2 (by omega)
          obtain ⟨z, o', hk, hp', hz, hle'⟩ := setV_sound (u := .d (.arr n ee.sh (xs.take off ++ ys.take (Nat.min ys.length len) ++ xs.drop (off + Nat.min ys.length len)))) (.d _ _ _ hnew) path hrv hg4
          rw [show V.sh (.d (.arr n ee.sh (xs.take off ++ ys.take (Nat.min ys.length len) ++ xs.drop (off + Nat.min ys.length len)))) = .arr n ee.sh from rfl, hp] at hp'
          cases hp'
          have hcl : cur.toList.length = cur.size := by simp
          have hrun := run_copy (cx := cx) (t2 := t2) (ty := ty) (cap := n - off) (c2 := c2) hu hte' hr hfl2 hcell2 hone2 (ao := a) (o := o + off * ee.sh.csz) (len := len) (fun h => ha (by omega)) (by omega)
          have hsh : z.sh = v.sh := hz.sh_eq
          have hbk : BK m m b (.fix v) (.fix z) := .fix _ _ hsh rfl
          refine copy_fin hh hl hi2 hbk hk hrun (.fix z kk cap _ hi2 (row_setRow_self hr) ?_)
          rw [hsh]
          refine RCV.keep (keep_set hl hi2 hbk) ?_
          have hss := splice_splice cur.toList (dss.flatten.take (Nat.min ys.length len * ee.sh.csz)) o (n * ee.sh.csz) (off * ee.sh.csz) (by rw [hnl]; exact hfit)
          have hlen2 : (((cur.toList.drop o).take (n * ee.sh.csz)).take (off * ee.sh.csz) ++ dss.flatten.take (Nat.min ys.length len * ee.sh.csz) ++ ((cur.toList.drop o).take (n * ee.sh.csz)).drop (off * ee.sh.csz + Nat.min ys.length len * ee.sh.csz)).length = n * ee.sh.csz := by
            simp only [List.length_append, hnl, List.length_take, List.length_drop, hcl]; omega
          rw [hlen2] at hz
          rw [hnl] at hss
          rw [hss] at hz
          simpa using hz
        | _ => exact hk'.elim
      | _ => exact hk'.elim
  | _ => exact hg.elim
end

end Go.Fw
