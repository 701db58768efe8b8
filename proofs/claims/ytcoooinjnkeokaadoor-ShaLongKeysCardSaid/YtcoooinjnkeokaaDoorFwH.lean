/-
Slices of the call's own read as data; addresses, parts and slices of values. No conditions.
-/
import Derived.Test.YtcoooinjnkeokaaDoorFwG
namespace Go.Fw
set_option linter.unusedVariables false
set_option linter.unusedSimpArgs false
open Go.RowKit

section
variable {cx : Cx} {B : Nat} {w : World} {m : M} {H : Heap} {rd : Nat → Option Blk}

/-- These elements lie behind this slice value. -/
def SlAt (w : World) (m : M) (H : Heap) (e : Sh) (xs : List D) (c : Value) : Prop :=
  ∃ (a : Option Addr) (cap : Nat) (css : List (List Value)), c = .slice a xs.length cap ∧ xs.length ≤ cap ∧ css.length = xs.length ∧ (∀ (i : Nat) x cs, xs[i]? = some x → css[i]? = some cs → RC w (Own m H) e x cs) ∧
    (∀ (i : Nat) cs (j : Nat) cc, css[i]? = some cs → cs[j]? = some cc → ∃ ad, a = some ad ∧ w.cell? (ad.add (i * e.csz + j)) = some cc)

theorem RC.unown {own : Nat → Prop} {sh : Sh} {x : D} {cs : List Value} (h : RC w own sh x cs) : RC w noOwn sh x cs := h.mono fun _ _ h _ => ⟨h, fun h => h⟩

theorem SlAt.rd1 {e : Sh} {xs : List D} {c : Value} (h : SlAt w m H e xs c) : RD1 w noOwn (.ro e false xs) c := by
  obtain ⟨a, cap, css, rfl, hc, hl, h1, h2⟩ := h
  refine ⟨_, .ro e false xs a cap css hl hc (by intro h; cases h) (fun i x cs a b => (h1 i x cs a b).unown) (fun i cs j c a b => ?_), rfl⟩
  obtain ⟨ad, h3, h4⟩ := h2 i cs j c a b
  exact ⟨ad, h3, h4, fun h => h⟩

/-- A run of cells that reads as an array reads as the elements behind a slice. -/
theorem SlAt.of_arr {N : Nat} {e : Sh} {xs : List D} {cells : List Value} {a : Addr} {cap : Nat} {ao : Option Addr} (h : RC w (Own m H) (.arr N e) (.arr N e xs) cells)
    (hc : ∀ (j : Nat) c, cells[j]? = some c → w.cell? (a.add j) = some c) (hcap : xs.length ≤ cap) (ha : 0 < xs.length → ao = some a) : SlAt w m H e xs (.slice ao xs.length cap) := by
  cases h with
  | arr _ _ _ css hl hn h =>
    refine ⟨ao, cap, css, rfl, hcap, hl, h, fun i cs j cc h1 h2 => ⟨a, ha ?_, hc _ _ ?_⟩⟩
    · have := (List.getElem?_eq_some_iff.1 h1).1; omega
    · obtain ⟨f1, f2⟩ := flat_get h1
      have hi := (List.getElem?_eq_some_iff.1 h1).1
      rw [sum_take_const (arr_lens hl h) (by omega)] at f1 f2
      have hj := (List.getElem?_eq_some_iff.1 h2).1
      rw [← f1, List.getElem?_take, if_pos hj, List.getElem?_drop] at h2
      exact h2

theorem slAt_sl (hh : HeapOK cx B w m H) {b off ver : Nat} {ver' : Nat} {e : Sh} {xs : List D} {c : Value} (hl : live H b (.grow ver' e xs)) (hv : RV w m H (.sl b off ver) c) (he : ver = ver') :
    off ≤ xs.length ∧ SlAt w m H e (xs.drop off) c := by
  obtain ⟨cs, h, hc⟩ := hv.elim rfl
  cases h with
  | sl _ _ _ c' ho hb h =>
    obtain ⟨hle, h⟩ := (h ver' e xs hl).2 he
    rw [show pack (V.sl b off ver).sh [c'] = c' from rfl] at hc
    subst hc
    refine ⟨hle, ?_⟩
    rcases h with ⟨hn, rfl⟩ | ⟨k, cap, a, hi, hcap, rfl, ha⟩
    · have hx : xs = [] := by
        cases hh.blk b _ hl with
        | none => rfl
        | grow ver e xs k cap cur css h1 => rw [hn] at h1; cases h1
      subst hx
      refine ⟨none, 0, [], by simp, by simp, by simp, fun i x cs h1 => by simp at h1, fun i cs j cc h1 => by simp at h1⟩
    · obtain ⟨cur, hr, hs, hcap', hm, hra⟩ := grow_arr (hh.blk b _ hl) hi
      have hsub := hra.sub (off := off) (n := xs.length - off) (by omega)
      have hd : (xs.drop off).take (xs.length - off) = xs.drop off := List.take_of_length_le (by simp)
      rw [hd] at hsub
      have := SlAt.of_arr (a := ⟨k, off * e.csz, none⟩) (cap := cap - off) (ao := a) hsub (fun j c hc => ?_) (by simp; omega) (fun hp => ha (by simp at hp; omega))
      · simpa using this
      · rw [List.drop_take, List.take_take] at hc
        exact row_slice hr j c hc

theorem slAt_sub (hh : HeapOK cx B w m H) {b off len ver : Nat} {ver' : Nat} {e : Sh} {xs : List D} {c : Value} (hl : live H b (.grow ver' e xs)) (hv : RV w m H (.sub b off len ver) c) (he : ver = ver') :
    off + len ≤ xs.length ∧ SlAt w m H e ((xs.drop off).take len) c := by
  obtain ⟨cs, h, hc⟩ := hv.elim rfl
  cases h with
  | sub _ _ _ _ c' ho hb h =>
    obtain ⟨hle, cap, a, hc2, hcap, ha⟩ := (h ver' e xs hl).2 he
    rw [show pack (V.sub b off len ver).sh [c'] = c' from rfl] at hc
    subst hc; subst hc2
    refine ⟨hle, ?_⟩
    have hlen : ((xs.drop off).take len).length = len := by simp; omega
    rcases Nat.eq_zero_or_pos len with h0 | h0
    · subst h0
      exact ⟨a, cap, [], by simp, by simp, by simp, fun i x cs h1 => by simp at h1, fun i cs j cc h1 => by simp at h1⟩
    · obtain ⟨k, cap', hi, ha⟩ := ha h0
      obtain ⟨cur, hr, hs, hcap', hm, hra⟩ := grow_arr (hh.blk b _ hl) hi
      have hsub := hra.sub (off := off) (n := len) hle
      have := SlAt.of_arr (a := ⟨k, off * e.csz, none⟩) (cap := cap) (ao := a) hsub (fun j c hc => ?_) (by omega) (fun _ => ha)
      · rw [hlen] at this; exact this
      · rw [List.drop_take, List.take_take] at hc
        exact row_slice hr j c hc

theorem cutL_eq {α : Type} {off len n : Nat} {xs : List α} (hn : xs.length = n) : cutL off len n xs = (xs.drop off).take len := by
  unfold cutL
  split
  · rename_i h
    simp only [Bool.and_eq_true, beq_iff_eq] at h
    obtain ⟨rfl, rfl⟩ := h
    simp [← hn]
  · rfl

/-- The array behind an array's slice: where it lies. -/
theorem slAt_sa (hh : HeapOK cx B w m H) {b off len : Nat} {path : List Nat} {v : V} {c : Value} (hl : live H b (.fix v)) (hv : RV w m H (.sa b path off len) c) {n : Nat} {e : Sh} {xs : List D} {k : V → Prop}
    (hg : getV path v k) (hk : ∀ u, k u → u = .d (.arr n e xs)) :
    ∃ kk cap cur o a, m.ι b = some (kk, cap) ∧ Row w kk cur ∧ RCV w m H v.sh v cur.toList ∧ poff v.sh path = some (o, .arr n e) ∧ off + len ≤ n ∧ xs.length = n ∧ o + n * e.csz ≤ cur.size ∧
      RC w (Own m H) (.arr n e) (.arr n e xs) ((cur.toList.drop o).take (n * e.csz)) ∧ c = .slice a len (n - off) ∧ (off < n → a = some ⟨kk, o + off * e.csz, none⟩) ∧ SlAt w m H e (cutL off len n xs) c := by
  obtain ⟨cs, h, hc⟩ := hv.elim rfl
  cases h with
  | sa _ _ _ _ c' ho hb h =>
    obtain ⟨kk, cap, o, n', e', a, hi, hp, hle, hc2, ha⟩ := h v hl
    rw [show pack (V.sa b path off len).sh [c'] = c' from rfl] at hc
    subst hc; subst hc2
    cases hh.blk b _ hl with
    | fix v k' cap' cur h1 h2 h3 =>
      rw [hi] at h1; cases h1
      obtain ⟨u, o', s', hk', hp', hu, hle'⟩ := getV_sound path h3 hg
      have hue := hk u hk'
      subst hue
      rw [hp] at hp'; cases hp'
      have hra := hu.of_d
      have hn : n' = n ∧ e' = e := by have := hra.sh_eq; simp [D.sh] at this; exact ⟨this.1.symm, this.2.symm⟩
      obtain ⟨rfl, rfl⟩ := hn
      have hxl : xs.length = n' := hra.arr_inv.1
      have hcl : cur.toList.length = cur.size := by simp
      rw [hcl] at hle'
      refine ⟨kk, cap, cur, o, a, hi, h2, h3, hp, hle, hxl, hle', hra, rfl, ha, ?_⟩
      rw [cutL_eq hxl]
      have hsub := hra.sub (off := off) (n := len) hle
      have hlen : ((xs.drop off).take len).length = len := by simp; omega
      have := SlAt.of_arr (a := ⟨kk, o + off * e'.csz, none⟩) (cap := n' - off) (ao := a) hsub (fun j c hc => ?_) (by omega) (fun hp => ha (by omega))
      · rw [hlen] at this; exact this
      · rw [List.drop_take, List.take_take, List.drop_drop] at hc
        exact row_slice h2 j c hc

theorem RV.rd1 {x : D} {c : Value} (h : RV w m H (.d x) c) (hx : cellV (.d x) = true) : RD1 w (Own m H) x c := by
  obtain ⟨cs, h, hc⟩ := h.elim hx
  exact ⟨cs, h.of_d, hc⟩

theorem RD1.unown {own : Nat → Prop} {x : D} {c : Value} (h : RD1 w own x c) : RD1 w noOwn x c := h.mono fun _ _ h _ => ⟨h, fun h => h⟩

/-- What a value that is handed on as data reads as: as it stands, or what lies behind a slice of the call's own. -/
theorem vslice_sound (hh : HeapOK cx B w m H) (hrd : Rd rd H) {v : V} {c : Value} {k : Bool → D → Prop} (hv : RV w m H v c) (hg : vslice rd v k) :
    ∃ b x, k b x ∧ ((b = false ∧ v = .d x) ∨ (b = true ∧ ∃ e xs, x = .ro e false xs ∧ SlAt w m H e xs c)) := by
  cases v with
  | d x => exact ⟨false, x, hg, .inl ⟨rfl, rfl⟩⟩
  | sl b off ver =>
    obtain ⟨blk, hb, hg⟩ := onS_elim hg
    cases blk with
    | fix v => exact hg.elim
    | grow ver' e xs =>
      obtain ⟨he, hk⟩ := onE_elim hg
      exact ⟨true, _, hk, .inr ⟨rfl, e, _, rfl, (slAt_sl hh (hrd b _ hb) hv he).2⟩⟩
  | sub b off len ver =>
    obtain ⟨blk, hb, hg⟩ := onS_elim hg
    cases blk with
    | fix v => exact hg.elim
    | grow ver' e xs =>
      obtain ⟨he, hk⟩ := onE_elim hg
      exact ⟨true, _, hk, .inr ⟨rfl, e, _, rfl, (slAt_sub hh (hrd b _ hb) hv he).2⟩⟩
  | sa b path off len =>
    obtain ⟨blk, hb, hg⟩ := onS_elim hg
    cases blk with
    | grow ver' e xs => exact hg.elim
    | fix v =>
      have hl := hrd b _ hb
      obtain ⟨u, hk', hg2⟩ := getV_lin path v hg
      cases u with
      | d y =>
        cases y with
        | arr n e xs =>
          obtain ⟨kk, cap, cur, o, a, _, _, _, _, _, _, _, _, _, _, hs⟩ := slAt_sa hh hl hv hg2 (fun u hu => hu)
          exact ⟨true, _, hk', .inr ⟨rfl, e, _, rfl, hs⟩⟩
        | _ => exact hk'.elim
      | _ => exact hk'.elim
  | _ => exact hg.elim
end

end Go.Fw
