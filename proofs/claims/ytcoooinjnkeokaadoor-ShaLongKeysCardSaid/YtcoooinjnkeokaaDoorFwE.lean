/-
Reading and setting parts of data and values is reading and setting their cells. No conditions.
-/
import Derived.Test.YtcoooinjnkeokaaDoorFwD
namespace Go.Fw
set_option linter.unusedVariables false
set_option linter.unusedSimpArgs false
open Go.RowKit

theorem onS_elim {α : Type} {o : Option α} {k : α → Prop} (h : onS o k) : ∃ a, o = some a ∧ k a := by
  cases o with
  | none => exact h.elim
  | some a => exact ⟨a, rfl, h⟩
theorem onT_elim {b : Bool} {k : Prop} (h : onT b k) : b = true ∧ k := by
  cases b with
  | false => exact h.elim
  | true => exact ⟨rfl, h⟩
theorem onE_elim {a b : Nat} {k : Prop} (h : onE a b k) : a = b ∧ k := by
  unfold onE at h
  split at h
  · rename_i he; exact ⟨Nat.eq_of_beq_eq_true he, h⟩
  · exact h.elim

theorem slice_slice {α : Type} (l : List α) (a n b m : Nat) (h : b + m ≤ n) : (((l.drop a).take n).drop b).take m = (l.drop (a + b)).take m := by
  rw [List.drop_take, List.drop_drop, List.take_take]
  congr 1
  omega

theorem splice_splice {α : Type} (l ys : List α) (a n b : Nat) (h : b + ys.length ≤ n) :
    l.take a ++ (((l.drop a).take n).take b ++ ys ++ ((l.drop a).take n).drop (b + ys.length)) ++ l.drop (a + n) = l.take (a + b) ++ ys ++ l.drop (a + b + ys.length) := by
  rw [List.take_take, Nat.min_eq_left (by omega : b ≤ n), List.take_add, List.drop_take, List.drop_drop]
  simp only [List.append_assoc]
  congr 3
  have : l.drop (a + b + ys.length) = (l.drop (a + b + ys.length)).take (n - (b + ys.length)) ++ l.drop (a + n) := by
    conv => lhs; rw [← List.take_append_drop (n - (b + ys.length)) (l.drop (a + b + ys.length))]
    rw [List.drop_drop]
    congr 2
    omega
  rw [this, show a + (b + ys.length) = a + b + ys.length from by omega]

theorem take_splice {α : Type} (l ys : List α) (N o : Nat) (h : o + ys.length ≤ N) (hN : N ≤ l.length) :
    (l.take o ++ ys ++ l.drop (o + ys.length)).take N = (l.take N).take o ++ ys ++ (l.take N).drop (o + ys.length) := by
  rw [List.take_take, Nat.min_eq_left (by omega : o ≤ N), List.drop_take, List.take_append, List.take_of_length_le (by simp; omega)]
  congr 2
  simp; omega

section
variable {w : World} {own : Nat → Prop}

theorem sum_take_const {css : List (List Value)} {m i : Nat} (h : ∀ cs ∈ css, cs.length = m) (hi : i ≤ css.length) : ((css.take i).map List.length).sum = i * m := by
  rw [sum_const (m := m) (fun cs hc => h cs (List.mem_of_mem_take hc)), List.length_take, Nat.min_eq_left hi]

theorem arr_lens {e : Sh} {xs : List D} {css : List (List Value)} (hl : css.length = xs.length)
    (h : ∀ (i : Nat) x cs, xs[i]? = some x → css[i]? = some cs → RC w own e x cs) : ∀ cs ∈ css, cs.length = e.csz := by
  intro cs hcs
  obtain ⟨i, hi, he⟩ := List.getElem_of_mem hcs
  exact (h i xs[i] cs (List.getElem?_eq_getElem (by omega)) (by rw [← he]; exact List.getElem?_eq_getElem hi)).len

theorem st_sum {shs : List Sh} {css : List (List Value)} {i : Nat} (hl : css.length = shs.length)
    (h : ∀ (j : Nat) s cs, shs[j]? = some s → css[j]? = some cs → cs.length = s.csz) : ((css.take i).map List.length).sum = Sh.cszs (shs.take i) := by
  rw [Sh.cszs_eq]
  congr 1
  apply List.ext_getElem?
  intro j
  rw [List.getElem?_map, List.getElem?_map, List.getElem?_take, List.getElem?_take]
  split
  · rcases hx : css[j]? with _ | x
    · rw [List.getElem?_eq_none_iff] at hx; rw [List.getElem?_eq_none (l := shs) (by omega)]; rfl
    · have hi : j < css.length := (List.getElem?_eq_some_iff.1 hx).1
      have h1 : shs[j]? = some shs[j] := List.getElem?_eq_getElem (by omega)
      rw [h1]; simp [h j _ x h1 hx]
  · rfl

theorem flat_drop {m : Nat} : ∀ {css : List (List Value)} (i : Nat), (∀ cs ∈ css, cs.length = m) → i ≤ css.length → (css.drop i).flatten = css.flatten.drop (i * m)
  | css, 0, _, _ => by simp
  | [], i + 1, _, hi => by simp at hi
  | c :: r, i + 1, h, hi => by
    rw [List.drop_succ_cons, flat_drop i (fun cs hc => h cs (by simp [hc])) (by simpa using hi), List.flatten_cons, Nat.succ_mul, Nat.add_comm, ← h c (by simp), List.drop_length_add_append]

theorem flat_take {m : Nat} : ∀ {css : List (List Value)} (i : Nat), (∀ cs ∈ css, cs.length = m) → i ≤ css.length → (css.take i).flatten = css.flatten.take (i * m)
  | css, 0, _, _ => by simp
  | [], i + 1, _, hi => by simp at hi
  | c :: r, i + 1, h, hi => by
    rw [List.take_succ_cons, List.flatten_cons, flat_take i (fun cs hc => h cs (by simp [hc])) (by simpa using hi), List.flatten_cons, Nat.succ_mul, Nat.add_comm, ← h c (by simp), List.take_length_add_append]

theorem RC.sub {N : Nat} {e : Sh} {xs : List D} {cs : List Value} (h : RC w own (.arr N e) (.arr N e xs) cs) {off n : Nat} (hle : off + n ≤ N) :
    RC w own (.arr n e) (.arr n e ((xs.drop off).take n)) ((cs.drop (off * e.csz)).take (n * e.csz)) := by
  cases h with
  | arr _ _ _ css hl hn h =>
    have hlen := arr_lens hl h
    rw [← flat_drop off hlen (by omega), ← flat_take n (fun c hc => hlen c (List.mem_of_mem_drop hc)) (by simp; omega)]
    refine .arr n e _ _ (by simp [hl]) (by simp; omega) fun i x c h1 h2 => ?_
    rw [List.getElem?_take, List.getElem?_drop] at h1 h2
    split at h1
    · rename_i hi
      rw [if_pos hi] at h2
      exact h _ x c h1 h2
    · cases h1

theorem st_lens {shs : List Sh} {xs : List D} {css : List (List Value)} (hl : css.length = xs.length)
    (h : ∀ (i : Nat) s x cs, shs[i]? = some s → xs[i]? = some x → css[i]? = some cs → RC w own s x cs) (j : Nat) (s : Sh) (cs : List Value) (h1 : shs[j]? = some s) (h2 : css[j]? = some cs) : cs.length = s.csz := by
  have hj := (List.getElem?_eq_some_iff.1 h2).1
  exact (h j s (xs[j]'(by omega)) cs h1 (List.getElem?_eq_getElem (by omega)) h2).len

theorem getD_sound {k : D → Prop} : ∀ (p : List Nat) {sh : Sh} {x : D} {cs : List Value}, RC w own sh x cs → getD p x k →
    ∃ y o s, k y ∧ poff sh p = some (o, s) ∧ RC w own s y ((cs.drop o).take s.csz) ∧ o + s.csz ≤ cs.length
  | [], sh, x, cs, hr, hg => by
    refine ⟨x, 0, sh, hg, rfl, ?_, ?_⟩
    · rw [List.drop_zero, ← hr.len, List.take_length]; exact hr
    · rw [hr.len]; omega
  | i :: p, sh, x, cs, hr, hg => by
    cases hr with
    | arr n e xs css hl hn h =>
      obtain ⟨y, hy, hg⟩ := onS_elim hg
      have hi : i < xs.length := (List.getElem?_eq_some_iff.1 hy).1
      have hc : css[i]? = some css[i] := List.getElem?_eq_getElem (by omega)
      obtain ⟨z, o, s, hk, hp, hz, hle⟩ := getD_sound p (h i y _ hy hc) hg
      obtain ⟨f1, f2⟩ := flat_get hc
      have hci := (h i y _ hy hc).len
      rw [sum_take_const (arr_lens hl h) (by omega)] at f1 f2
      refine ⟨z, i * e.csz + o, s, hk, ?_, ?_, ?_⟩
      · simp [poff, hp]; omega
      · rw [← slice_slice css.flatten (i * e.csz) css[i].length o s.csz hle, f1]; exact hz
      · omega
    | st shs xs css hl hs h =>
      obtain ⟨y, hy, hg⟩ := onS_elim hg
      have hi : i < xs.length := (List.getElem?_eq_some_iff.1 hy).1
      have hc : css[i]? = some css[i] := List.getElem?_eq_getElem (by omega)
      have hsi : shs[i]? = some shs[i] := List.getElem?_eq_getElem (by omega)
      obtain ⟨z, o, s, hk, hp, hz, hle⟩ := getD_sound p (h i _ y _ hsi hy hc) hg
      obtain ⟨f1, f2⟩ := flat_get hc
      rw [st_sum (shs := shs) (by omega) (st_lens hl h)] at f1 f2
      refine ⟨z, Sh.cszs (shs.take i) + o, s, hk, ?_, ?_, ?_⟩
      · simp [poff, hsi, hp]
      · rw [← slice_slice css.flatten _ css[i].length o s.csz hle, f1]; exact hz
      · omega
    | _ => exact hg.elim

theorem arr_set {n : Nat} {e : Sh} {xs : List D} {css : List (List Value)} {i : Nat} {y : D} {ys : List Value} (hl : css.length = xs.length) (hn : xs.length = n)
    (h : ∀ (i : Nat) x cs, xs[i]? = some x → css[i]? = some cs → RC w own e x cs) (hi : i < n) (hy : RC w own e y ys) :
    RC w own (.arr n e) (.arr n e (xs.set i y)) (css.flatten.take (i * e.csz) ++ ys ++ css.flatten.drop (i * e.csz + ys.length)) ∧ i * e.csz + ys.length ≤ css.flatten.length := by
  have hc : css[i]? = some css[i] := List.getElem?_eq_getElem (by omega)
  have hx : xs[i]? = some xs[i] := List.getElem?_eq_getElem (by omega)
  have hlen : css[i].length = ys.length := by rw [(h i _ _ hx hc).len, hy.len]
  have f := flat_set (ds := ys) hc
  have g := (flat_get hc).2
  rw [sum_take_const (arr_lens hl h) (by omega), hlen] at f g
  refine ⟨?_, g⟩
  rw [← f]
  refine .arr n e _ _ (by simp [hl]) (by simp [hn]) fun j x cs h1 h2 => ?_
  rw [List.getElem?_set] at h1 h2
  split at h1
  · rename_i hij
    rw [if_pos hij] at h2
    split at h1 <;> cases h1
    split at h2 <;> cases h2
    exact hy
  · rename_i hij
    rw [if_neg hij] at h2
    exact h j x cs h1 h2

theorem st_set {shs : List Sh} {xs : List D} {css : List (List Value)} {i : Nat} {s : Sh} {y : D} {ys : List Value} (hl : css.length = xs.length) (hs : shs.length = xs.length)
    (h : ∀ (i : Nat) s x cs, shs[i]? = some s → xs[i]? = some x → css[i]? = some cs → RC w own s x cs) (hi : shs[i]? = some s) (hy : RC w own s y ys) :
    RC w own (.st shs) (.st (xs.set i y)) (css.flatten.take (Sh.cszs (shs.take i)) ++ ys ++ css.flatten.drop (Sh.cszs (shs.take i) + ys.length)) ∧ Sh.cszs (shs.take i) + ys.length ≤ css.flatten.length := by
  have hil := (List.getElem?_eq_some_iff.1 hi).1
  have hc : css[i]? = some css[i] := List.getElem?_eq_getElem (by omega)
  have hx : xs[i]? = some xs[i] := List.getElem?_eq_getElem (by omega)
  have hlen : css[i].length = ys.length := by rw [(h i _ _ _ hi hx hc).len, hy.len]
  have f := flat_set (ds := ys) hc
  have g := (flat_get hc).2
  rw [st_sum (shs := shs) (by omega) (st_lens hl h), hlen] at f g
  refine ⟨?_, g⟩
  rw [← f]
  refine .st shs _ _ (by simp [hl]) (by simp [hs]) fun j s' x cs h0 h1 h2 => ?_
  rw [List.getElem?_set] at h1 h2
  split at h1
  · rename_i hij
    rw [if_pos hij] at h2
    split at h1 <;> cases h1
    split at h2 <;> cases h2
    subst hij; rw [hi] at h0; cases h0
    exact hy
  · rename_i hij
    rw [if_neg hij] at h2
    exact h j s' x cs h0 h1 h2

theorem setD_sound {k : D → Prop} {y : D} {ys : List Value} (hy : RC w own y.sh y ys) : ∀ (p : List Nat) {sh : Sh} {x : D} {cs : List Value}, RC w own sh x cs → setD p y x k →
    ∃ z o, k z ∧ poff sh p = some (o, y.sh) ∧ RC w own sh z (cs.take o ++ ys ++ cs.drop (o + ys.length)) ∧ o + ys.length ≤ cs.length
  | [], sh, x, cs, hr, hg => by
    obtain ⟨he, hk⟩ := onT_elim hg
    have e1 := Sh.beq_eq _ _ he
    rw [hr.sh_eq] at e1
    subst e1
    refine ⟨y, 0, hk, rfl, ?_, ?_⟩
    · rw [List.take_zero, List.nil_append, Nat.zero_add, hy.len, ← hr.len, List.drop_length, List.append_nil]; exact hy
    · rw [hr.len, hy.len]; omega
  | [i], sh, x, cs, hr, hg => by
    cases hr with
    | arr n e xs css hl hn h =>
      obtain ⟨h1, hg⟩ := onT_elim hg
      obtain ⟨he, hk⟩ := onT_elim hg
      have e1 := Sh.beq_eq _ _ he
      subst e1
      have hi : i < n := by simpa using h1
      obtain ⟨r1, r2⟩ := arr_set hl hn h hi hy
      exact ⟨_, i * y.sh.csz, hk, by simp [poff, hi], r1, r2⟩
    | st shs xs css hl hs h =>
      obtain ⟨z, hz, hg⟩ := onS_elim hg
      have hi : i < xs.length := (List.getElem?_eq_some_iff.1 hz).1
      have hc : css[i]? = some css[i] := List.getElem?_eq_getElem (by omega)
      have hsi : shs[i]? = some shs[i] := List.getElem?_eq_getElem (by omega)
      obtain ⟨u, o, hk, hp, hu, hle⟩ := setD_sound hy [] (h i _ z _ hsi hz hc) hg
      simp only [poff, Option.some.injEq, Prod.mk.injEq] at hp
      obtain ⟨rfl, hp⟩ := hp
      have hl2 : css[i].length = ys.length := by rw [(h i _ z _ hsi hz hc).len, hp, hy.len]
      rw [List.take_zero, List.nil_append, Nat.zero_add, ← hl2, List.drop_length, List.append_nil] at hu
      obtain ⟨r1, r2⟩ := st_set hl hs h hsi hu
      exact ⟨_, Sh.cszs (shs.take i), hk, by simp [poff, hsi, hp], r1, r2⟩
    | _ => exact hg.elim
  | i :: j :: p, sh, x, cs, hr, hg => by
    cases hr with
    | arr n e xs css hl hn h =>
      obtain ⟨z, hz, hg⟩ := onS_elim hg
      have hi : i < xs.length := (List.getElem?_eq_some_iff.1 hz).1
      have hc : css[i]? = some css[i] := List.getElem?_eq_getElem (by omega)
      obtain ⟨u, o, hk, hp, hu, hle⟩ := setD_sound hy (j :: p) (h i z _ hz hc) hg
      obtain ⟨r1, r2⟩ := arr_set (i := i) hl hn h (by omega) hu
      obtain ⟨f1, f2⟩ := flat_get hc
      rw [sum_take_const (arr_lens hl h) (by omega)] at f1 f2
      refine ⟨_, i * e.csz + o, hk, ?_, ?_, by omega⟩
      · simp [poff] at hp ⊢; exact ⟨by omega, by rw [hp]⟩
      · have hlen : (css[i].take o ++ ys ++ css[i].drop (o + ys.length)).length = css[i].length := by simp only [List.length_append, List.length_take, List.length_drop]; omega
        rw [hlen] at r1
        have := splice_splice css.flatten ys (i * e.csz) css[i].length o hle
        rw [f1] at this
        rw [← this]; exact r1
    | st shs xs css hl hs h =>
      obtain ⟨z, hz, hg⟩ := onS_elim hg
      have hi : i < xs.length := (List.getElem?_eq_some_iff.1 hz).1
      have hc : css[i]? = some css[i] := List.getElem?_eq_getElem (by omega)
      have hsi : shs[i]? = some shs[i] := List.getElem?_eq_getElem (by omega)
      obtain ⟨u, o, hk, hp, hu, hle⟩ := setD_sound hy (j :: p) (h i _ z _ hsi hz hc) hg
      obtain ⟨r1, r2⟩ := st_set hl hs h hsi hu
      obtain ⟨f1, f2⟩ := flat_get hc
      rw [st_sum (shs := shs) (by omega) (st_lens hl h)] at f1 f2
      refine ⟨_, Sh.cszs (shs.take i) + o, hk, ?_, ?_, by omega⟩
      · simp [poff, hsi] at hp ⊢; rw [hp]
      · have hlen : (css[i].take o ++ ys ++ css[i].drop (o + ys.length)).length = css[i].length := by simp only [List.length_append, List.length_take, List.length_drop]; omega
        rw [hlen] at r1
        have := splice_splice css.flatten ys (Sh.cszs (shs.take i)) css[i].length o hle
        rw [f1] at this
        rw [← this]; exact r1
    | _ => exact hg.elim
end

theorem RC.arr_inv {w : World} {own : Nat → Prop} {sh : Sh} {n : Nat} {e : Sh} {xs : List D} {cs : List Value} (h : RC w own sh (.arr n e xs) cs) : xs.length = n ∧ sh = .arr n e := by
  cases h with
  | arr _ _ _ css hl hn h => exact ⟨hn, rfl⟩

theorem getD_lin {k : D → Prop} : ∀ (p : List Nat) (x : D), getD p x k → ∃ y, k y ∧ getD p x fun z => z = y
  | [], x, h => ⟨x, h, rfl⟩
  | i :: p, x, h => by
    cases x with
    | arr n e xs =>
      obtain ⟨y, hy, h⟩ := onS_elim h
      obtain ⟨z, hz, h'⟩ := getD_lin p y h
      exact ⟨z, hz, onS_intro hy h'⟩
    | st xs =>
      obtain ⟨y, hy, h⟩ := onS_elim h
      obtain ⟨z, hz, h'⟩ := getD_lin p y h
      exact ⟨z, hz, onS_intro hy h'⟩
    | _ => exact h.elim

theorem getD_mono {k k' : D → Prop} : ∀ (p : List Nat) (x : D), (∀ y, k y → k' y) → getD p x k → getD p x k'
  | [], x, hk, h => hk x h
  | i :: p, x, hk, h => by
    cases x with
    | arr n e xs => obtain ⟨y, hy, h⟩ := onS_elim h; exact onS_intro hy (getD_mono p y hk h)
    | st xs => obtain ⟨y, hy, h⟩ := onS_elim h; exact onS_intro hy (getD_mono p y hk h)
    | _ => exact h.elim

theorem getV_lin {k : V → Prop} : ∀ (p : List Nat) (v : V), getV p v k → ∃ y, k y ∧ getV p v fun z => z = y
  | [], v, h => ⟨v, h, rfl⟩
  | i :: p, v, h => by
    cases v with
    | d x =>
      obtain ⟨y, hy, h'⟩ := getD_lin (i :: p) x h
      refine ⟨.d y, hy, ?_⟩
      clear h hy
      exact getD_mono (i :: p) x (fun z hz => by rw [hz]) h'
    | st xs =>
      obtain ⟨y, hy, h⟩ := onS_elim h
      obtain ⟨z, hz, h'⟩ := getV_lin p y h
      exact ⟨z, hz, onS_intro hy h'⟩
    | _ => exact h.elim

section
variable {w : World} {m : M} {H : Heap}

theorem RCV.of_d {sh : Sh} {x : D} {cs : List Value} (h : RCV w m H sh (.d x) cs) : RC w (Own m H) sh x cs := by cases h; assumption

theorem RCV.st_lens {shs : List Sh} {xs : List V} {css : List (List Value)} (hl : css.length = xs.length)
    (h : ∀ (i : Nat) s x cs, shs[i]? = some s → xs[i]? = some x → css[i]? = some cs → RCV w m H s x cs) (j : Nat) (s : Sh) (cs : List Value) (h1 : shs[j]? = some s) (h2 : css[j]? = some cs) : cs.length = s.csz := by
  have hj := (List.getElem?_eq_some_iff.1 h2).1
  exact (h j s (xs[j]'(by omega)) cs h1 (List.getElem?_eq_getElem (by omega)) h2).len

theorem getV_sound {k : V → Prop} : ∀ (p : List Nat) {sh : Sh} {v : V} {cs : List Value}, RCV w m H sh v cs → getV p v k →
    ∃ u o s, k u ∧ poff sh p = some (o, s) ∧ RCV w m H s u ((cs.drop o).take s.csz) ∧ o + s.csz ≤ cs.length
  | [], sh, v, cs, hr, hg => by
    refine ⟨v, 0, sh, hg, rfl, ?_, ?_⟩
    · rw [List.drop_zero, ← hr.len, List.take_length]; exact hr
    · rw [hr.len]; omega
  | i :: p, sh, v, cs, hr, hg => by
    cases hr with
    | d sh x cs h =>
      obtain ⟨y, o, s, hk, hp, hy, hle⟩ := getD_sound (i :: p) h hg
      exact ⟨.d y, o, s, hk, hp, .d _ _ _ hy, hle⟩
    | st shs xs css hl hs h =>
      obtain ⟨y, hy, hg⟩ := onS_elim hg
      have hi : i < xs.length := (List.getElem?_eq_some_iff.1 hy).1
      have hc : css[i]? = some css[i] := List.getElem?_eq_getElem (by omega)
      have hsi : shs[i]? = some shs[i] := List.getElem?_eq_getElem (by omega)
      obtain ⟨z, o, s, hk, hp, hz, hle⟩ := getV_sound p (h i _ y _ hsi hy hc) hg
      obtain ⟨f1, f2⟩ := flat_get hc
      rw [st_sum (shs := shs) (by omega) (RCV.st_lens hl h)] at f1 f2
      refine ⟨z, Sh.cszs (shs.take i) + o, s, hk, ?_, ?_, ?_⟩
      · simp [poff, hsi, hp]
      · rw [← slice_slice css.flatten _ css[i].length o s.csz hle, f1]; exact hz
      · omega
    | _ => exact hg.elim

theorem allD_some : ∀ {l : List V} {ds : List D}, allD l = some ds → l = ds.map V.d
  | [], ds, h => by simp [allD] at h; subst h; rfl
  | .d x :: l, ds, h => by
    simp only [allD, Option.map_eq_some_iff] at h
    obtain ⟨e, he, rfl⟩ := h
    rw [allD_some he]; rfl
  | .st _ :: l, ds, h => by simp [allD] at h
  | .tup _ :: l, ds, h => by simp [allD] at h
  | .sl .. :: l, ds, h => by simp [allD] at h
  | .sub .. :: l, ds, h => by simp [allD] at h
  | .sa .. :: l, ds, h => by simp [allD] at h
  | .ptr .. :: l, ds, h => by simp [allD] at h
  | .parr .. :: l, ds, h => by simp [allD] at h
  | .rop _ :: l, ds, h => by simp [allD] at h
  | .any :: l, ds, h => by simp [allD] at h

theorem RCV.mkSt {shs : List Sh} {l : List V} {cs : List Value} (h : RCV w m H (.st shs) (.st l) cs) : RCV w m H (.st shs) (Fw.mkSt l) cs := by
  unfold Fw.mkSt
  split
  · rename_i ds hd
    have := allD_some hd
    subst this
    cases h with
    | st _ _ css hl hs h =>
      refine .d _ _ _ (.st shs ds css (by simpa using hl) (by simpa using hs) fun i s x cs h1 h2 h3 => ?_)
      exact (h i s (.d x) cs h1 (by simp [h2]) h3).of_d
  · exact h

theorem mkSt_sh (l : List V) : (mkSt l).sh = .st (V.shs l) := by
  unfold mkSt
  split
  · rename_i ds hd
    rw [allD_some hd]
    simp [V.sh, D.sh, D.shs_eq, V.shs_eq, Function.comp_def]
  · rfl

theorem stV_set {shs : List Sh} {xs : List V} {css : List (List Value)} {i : Nat} {s : Sh} {y : V} {ys : List Value} (hl : css.length = xs.length) (hs : shs.length = xs.length)
    (h : ∀ (i : Nat) s x cs, shs[i]? = some s → xs[i]? = some x → css[i]? = some cs → RCV w m H s x cs) (hi : shs[i]? = some s) (hy : RCV w m H s y ys) :
    RCV w m H (.st shs) (.st (xs.set i y)) (css.flatten.take (Sh.cszs (shs.take i)) ++ ys ++ css.flatten.drop (Sh.cszs (shs.take i) + ys.length)) ∧ Sh.cszs (shs.take i) + ys.length ≤ css.flatten.length := by
  have hil := (List.getElem?_eq_some_iff.1 hi).1
  have hc : css[i]? = some css[i] := List.getElem?_eq_getElem (by omega)
  have hx : xs[i]? = some xs[i] := List.getElem?_eq_getElem (by omega)
  have hlen : css[i].length = ys.length := by rw [(h i _ _ _ hi hx hc).len, hy.len]
  have f := flat_set (ds := ys) hc
  have g := (flat_get hc).2
  rw [st_sum (shs := shs) (by omega) (RCV.st_lens hl h), hlen] at f g
  refine ⟨?_, g⟩
  rw [← f]
  refine .st shs _ _ (by simp [hl]) (by simp [hs]) fun j s' x cs h0 h1 h2 => ?_
  rw [List.getElem?_set] at h1 h2
  split at h1
  · rename_i hij
    rw [if_pos hij] at h2
    split at h1 <;> cases h1
    split at h2 <;> cases h2
    subst hij; rw [hi] at h0; cases h0
    exact hy
  · rename_i hij
    rw [if_neg hij] at h2
    exact h j s' x cs h0 h1 h2

/-- The struct case of setV, for parts that are values. -/
theorem setV_st {k : V → Prop} {u : V} {ys : List Value} {i : Nat} {p : List Nat} {shs : List Sh} {xs : List V} {css : List (List Value)} {z z' : V} {o : Nat} (hl : css.length = xs.length) (hs : shs.length = xs.length)
    (h : ∀ (i : Nat) s x cs, shs[i]? = some s → xs[i]? = some x → css[i]? = some cs → RCV w m H s x cs) (hz : xs[i]? = some z)
    (hk : k (mkSt (xs.set i z'))) (hp : ∀ s c, shs[i]? = some s → css[i]? = some c → poff s p = some (o, u.sh) ∧ RCV w m H s z' (c.take o ++ ys ++ c.drop (o + ys.length)) ∧ o + ys.length ≤ c.length) :
    ∃ z o, k z ∧ poff (.st shs) (i :: p) = some (o, u.sh) ∧ RCV w m H (.st shs) z (css.flatten.take o ++ ys ++ css.flatten.drop (o + ys.length)) ∧ o + ys.length ≤ css.flatten.length := by
  have hi : i < xs.length := (List.getElem?_eq_some_iff.1 hz).1
  have hc : css[i]? = some css[i] := List.getElem?_eq_getElem (by omega)
  have hsi : shs[i]? = some shs[i] := List.getElem?_eq_getElem (by omega)
  obtain ⟨hp, hu, hle⟩ := hp _ _ hsi hc
  obtain ⟨r1, r2⟩ := stV_set hl hs h hsi hu
  obtain ⟨f1, f2⟩ := flat_get hc
  rw [st_sum (shs := shs) (by omega) (RCV.st_lens hl h)] at f1 f2
  refine ⟨_, Sh.cszs (shs.take i) + o, hk, ?_, ?_, by omega⟩
  · simp [poff, hsi, hp]
  · have hlen : (css[i].take o ++ ys ++ css[i].drop (o + ys.length)).length = css[i].length := by simp only [List.length_append, List.length_take, List.length_drop]; omega
    rw [hlen] at r1
    have := splice_splice css.flatten ys (Sh.cszs (shs.take i)) css[i].length o hle
    rw [f1] at this
    rw [← this]; exact r1.mkSt

theorem setV_ds {k : V → Prop} {u : V} {i : Nat} {p : List Nat} {xs : List D} (hu : ∀ y, u ≠ .d y) :
    setV (i :: p) u (.d (.st xs)) k = onS xs[i]? fun x => setV p u (.d x) fun z => k (mkSt ((xs.map V.d).set i z)) := by
  cases u <;> first | rfl | exact absurd rfl (hu _)

theorem setV_s {k : V → Prop} {u : V} {i : Nat} {p : List Nat} {xs : List V} :
    setV (i :: p) u (.st xs) k = onS xs[i]? fun x => setV p u x fun z => k (mkSt (xs.set i z)) := by
  cases u <;> rfl

theorem setV_d {k : V → Prop} {u : V} {i : Nat} {p : List Nat} {x : D} (hu : ∀ y, u ≠ .d y) (hx : ∀ xs, x ≠ .st xs) : setV (i :: p) u (.d x) k = False := by
  cases u <;> first | exact absurd rfl (hu _) | (cases x <;> first | rfl | exact absurd rfl (hx _))

theorem setV_sound {k : V → Prop} {u : V} {ys : List Value} (hu : RCV w m H u.sh u ys) : ∀ (p : List Nat) {sh : Sh} {v : V} {cs : List Value}, RCV w m H sh v cs → setV p u v k →
    ∃ z o, k z ∧ poff sh p = some (o, u.sh) ∧ RCV w m H sh z (cs.take o ++ ys ++ cs.drop (o + ys.length)) ∧ o + ys.length ≤ cs.length
  | [], sh, v, cs, hr, hg => by
    obtain ⟨he, hk⟩ := onT_elim hg
    have e1 := Sh.beq_eq _ _ he
    rw [hr.sh_eq] at e1
    subst e1
    refine ⟨u, 0, hk, rfl, ?_, ?_⟩
    · rw [List.take_zero, List.nil_append, Nat.zero_add, hu.len, ← hr.len, List.drop_length, List.append_nil]; exact hu
    · rw [hr.len, hu.len]; omega
  | i :: p, sh, v, cs, hr, hg => by
    cases hr with
    | d sh x cs h =>
      by_cases hy : ∃ y, u = .d y
      · obtain ⟨y, rfl⟩ := hy
        obtain ⟨z, o, hk, hp, hz, hle⟩ := setD_sound hu.of_d (i :: p) h hg
        exact ⟨.d z, o, hk, hp, .d _ _ _ hz, hle⟩
      · have hu' : ∀ y, u ≠ .d y := fun y e => hy ⟨y, e⟩
        by_cases hx : ∃ xs, x = .st xs
        · obtain ⟨xs, rfl⟩ := hx
          rw [setV_ds hu'] at hg
          cases h with
          | st shs xs css hl hs h =>
            obtain ⟨x, hx, hg⟩ := onS_elim hg
            have hi : i < xs.length := (List.getElem?_eq_some_iff.1 hx).1
            have hc : css[i]? = some css[i] := List.getElem?_eq_getElem (by omega)
            have hsi : shs[i]? = some shs[i] := List.getElem?_eq_getElem (by omega)
            obtain ⟨z, o, hk, hp, hz, hle⟩ := setV_sound hu p (RCV.d _ _ _ (h i _ x _ hsi hx hc)) hg
            refine setV_st (o := o) (xs := xs.map V.d) (by simpa using hl) (by simpa using hs) (fun i s x cs h1 h2 h3 => ?_) (by rw [List.getElem?_map, hx]; rfl) hk (fun s c h1 h2 => ?_)
            · rw [List.getElem?_map, Option.map_eq_some_iff] at h2
              obtain ⟨y, hy, rfl⟩ := h2
              exact .d _ _ _ (h i s y cs h1 hy h3)
            · rw [hsi] at h1; rw [hc] at h2; cases h1; cases h2; exact ⟨hp, hz, hle⟩
        · rw [setV_d hu' (fun xs e => hx ⟨xs, e⟩)] at hg; exact hg.elim
    | st shs xs css hl hs h =>
      rw [setV_s] at hg
      obtain ⟨x, hx, hg⟩ := onS_elim hg
      have hi : i < xs.length := (List.getElem?_eq_some_iff.1 hx).1
      have hc : css[i]? = some css[i] := List.getElem?_eq_getElem (by omega)
      have hsi : shs[i]? = some shs[i] := List.getElem?_eq_getElem (by omega)
      obtain ⟨z, o, hk, hp, hz, hle⟩ := setV_sound hu p (h i _ x _ hsi hx hc) hg
      refine setV_st (o := o) hl hs h hx hk (fun s c h1 h2 => ?_)
      rw [hsi] at h1; rw [hc] at h2; cases h1; cases h2; exact ⟨hp, hz, hle⟩
    | _ => exact False.elim (by cases u <;> exact hg)
end

end Go.Fw
