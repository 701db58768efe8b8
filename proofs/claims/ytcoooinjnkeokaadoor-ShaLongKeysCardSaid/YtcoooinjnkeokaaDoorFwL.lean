/-
Conversions, parts put together, slices as arrays. No conditions.
-/
import Derived.Test.YtcoooinjnkeokaaDoorFwK
import Derived.Laws.BytesString
import Derived.Lib.ConvBytes
namespace Go.Fw
set_option linter.unusedVariables false
set_option linter.unusedSimpArgs false
open Go.RowKit

section
variable {cx : Cx} {B : Nat} {w : World} {m : M} {H : Heap} {rd : Nat → Option Blk}

theorem ro_slAt {e : Sh} {t : Bool} {xs : List D} {c : Value} (hv : RV w m H (.d (.ro e t xs)) c) : SlAt w m H e xs c := by
  obtain ⟨cs, h, hc⟩ := hv.elim rfl
  have h := h.of_d
  cases h with
  | ro _ _ _ a cap css hl hcap ht h0 hm =>
    refine ⟨a, cap, css, hc, hcap, hl, h0, fun i cs j cc a b => ?_⟩
    obtain ⟨ad, h1, h2, _⟩ := hm i cs j cc a b
    exact ⟨ad, h1, h2⟩

theorem slAt_nil (e : Sh) (cap : Nat) : SlAt w m H e [] (.slice none 0 cap) :=
  ⟨none, cap, [], rfl, by simp, by simp, fun i x cs h1 => by simp at h1, fun i cs j cc h1 => by simp at h1⟩

theorem elems_sound (hh : HeapOK cx B w m H) (hrd : Rd rd H) {e : Sh} {v : V} {c : Value} {k : List D → Prop} (hv : RV w m H v c) (hg : elems rd e v k) : ∃ ys, k ys ∧ SlAt w m H e ys c := by
  unfold elems at hg
  split at hg
  · have := hv.nils_inv
    subst this
    exact ⟨[], hg, slAt_nil e 0⟩
  · obtain ⟨b, x, hk, hor⟩ := vslice_sound hh hrd hv hg
    rcases hor with ⟨_, rfl⟩ | ⟨_, e', xs, rfl, hs⟩
    · cases x with
      | ro e' t xs =>
        obtain ⟨hb, hk2⟩ := onT_elim hk
        clear hk
        have := Sh.beq_eq _ _ hb
        subst this
        exact ⟨xs, hk2, ro_slAt hv⟩
      | _ => exact hk.elim
    · obtain ⟨hb, hk2⟩ := onT_elim hk
      clear hk
      have := Sh.beq_eq _ _ hb
      subst this
      exact ⟨xs, hk2, hs⟩

theorem bytes_cells {xs : List D} {l : List UInt8} {css : List (List Value)} {e : Sh} {own : Nat → Prop} (hl : css.length = xs.length)
    (h1 : ∀ (i : Nat) x cs, xs[i]? = some x → css[i]? = some cs → RC w own e x cs)
    (hm : xs.mapM asByte = some l) :
    ∃ ns : List Int, css.flatten = ns.map (Value.int .u8) ∧ l = ns.map (fun n => UInt8.ofNat n.toNat) := by
  induction xs generalizing css l with
  | nil =>
    cases css with
    | nil => simp at hm; subst hm; exact ⟨[], rfl, rfl⟩
    | cons c r => simp at hl
  | cons x xs ih =>
    cases css with
    | nil => simp at hl
    | cons c r =>
      rw [List.mapM_cons] at hm
      cases x with
      | int k n =>
        cases k <;> simp only [asByte, Option.bind_eq_bind, Option.bind_none, Option.bind_some, reduceCtorEq, Option.pure_def, Option.bind_eq_some_iff, Option.some.injEq] at hm
        obtain ⟨l', hl', rfl⟩ := hm
        have r1 := h1 0 _ c rfl rfl
        cases r1
        obtain ⟨ns, e1, e2⟩ := ih (by simpa using hl) (fun i x cs a b => h1 (i + 1) x cs (by simpa using a) (by simpa using b)) hl'
        exact ⟨n :: ns, by simp [e1], by simp [e2]⟩
      | _ => simp [asByte] at hm

theorem foldl_push : ∀ (ns : List Int) (s : List UInt8), ns.foldl (fun r n => r.push (UInt8.ofNat n.toNat)) (⟨s.toArray⟩ : ByteArray) = ⟨(s ++ ns.map fun n => UInt8.ofNat n.toNat).toArray⟩
  | [], s => by simp
  | n :: r, s => by
    have e : (⟨s.toArray⟩ : ByteArray).push (UInt8.ofNat n.toNat) = ⟨(s ++ [UInt8.ofNat n.toNat]).toArray⟩ := by
      apply ByteArray.ext; simp [ByteArray.push]
    rw [List.foldl_cons, e, foldl_push r]
    simp

theorem str_of_bytes {xs : List D} {l : List UInt8} {e : Sh} {c : Value} (hs : SlAt w m H e xs c)
    (hm : xs.mapM asByte = some l) :
    (Conv.bytesToString c).run cx.P w = .ok (.string ⟨l.toArray⟩) w := by
  obtain ⟨a, cap, css, rfl, hcap, hl, h1, h2⟩ := hs
  obtain ⟨ns, e1, e2⟩ := bytes_cells hl h1 hm
  cases xs with
  | nil =>
    simp at hm
    subst hm
    cases a with
    | none => rfl
    | some a =>
      have := run_bytesToString (P := cx.P) w a 0 cap [] (by simpa using run_loadCells_list (P := cx.P) w a [] (by simp))
      exact this
  | cons x xs =>
    have he : e.csz = 1 := by
      cases css with
      | nil => simp at hl
      | cons c0 cr =>
        have r0 := (h1 0 x c0 rfl rfl).sh_eq
        cases x with
        | int k n => rw [← r0]; rfl
        | _ => rw [List.mapM_cons] at hm; simp [asByte] at hm
    have hlen := arr_lens hl h1
    cases css with
    | nil => simp at hl
    | cons c0 cr =>
      have h0 : c0.length = 1 := by rw [hlen c0 (by simp), he]
      obtain ⟨ad, rfl, _⟩ := h2 0 c0 0 (c0[0]'(by omega)) rfl (List.getElem?_eq_getElem (by omega))
      have hcells : ∀ (j : Nat) c, (ns.map (Value.int .u8))[j]? = some c → w.cell? (ad.add j) = some c := by
        intro j c hj
        rw [← e1] at hj
        have hjl : j < ((c0 :: cr).flatten).length := (List.getElem?_eq_some_iff.1 hj).1
        rw [len_flat, sum_const hlen, he, Nat.mul_one] at hjl
        have hc : (c0 :: cr)[j]? = some ((c0 :: cr)[j]) := List.getElem?_eq_getElem hjl
        obtain ⟨f1, f2⟩ := flat_get hc
        rw [sum_take_const hlen (by omega), he, Nat.mul_one] at f1 f2
        have hl1 : ((c0 :: cr)[j]).length = 1 := by rw [hlen _ (List.getElem_mem hjl), he]
        have h3 : ((c0 :: cr)[j])[0]? = some c := by
          rw [← f1, List.getElem?_take, if_pos (by omega), List.getElem?_drop]; exact hj
        obtain ⟨ad', ha', h4⟩ := h2 j _ 0 c hc h3
        cases ha'
        rw [he] at h4
        simpa using h4
      have hlc := run_loadCells_list (P := cx.P) w ad (ns.map (Value.int .u8)) hcells
      have hnl : (ns.map (Value.int .u8)).length = (x :: xs).length := by
        rw [← e1, len_flat, sum_const hlen, he, hl, Nat.mul_one]
      rw [hnl] at hlc
      have := run_bytesToString (P := cx.P) w ad (x :: xs).length cap ns hlc
      rw [this, e2]
      have := foldl_push ns []
      simp only [List.nil_append] at this
      congr 2

/-- What an operation does: its value, and what becomes of the own blocks. -/
def OpRes (cx : Cx) (B : Nat) (w : World) (m : M) (H : Heap) (slot : Nat) (k : V → Eff → Prop) (S : Sem Value) : Prop :=
  ∃ v e c w' m', k v e ∧ S.run cx.P w = .ok c w' ∧ Keep w m H w' m' (happ H e) ∧ HeapOK cx B w' m' (happ H e) ∧ RV w' m' (happ H e) v c ∧ Below B w w' ∧ (∀ b, m'.born b → m.born b ∨ b = slot)

theorem POK.res (hh : HeapOK cx B w m H) {slot : Nat} {k : V → Eff → Prop} {S : Sem Value} (h : POK cx w m H (fun v => k v []) S) : OpRes cx B w m H slot k S := by
  obtain ⟨v, c, h1, h2, h3⟩ := h
  exact ⟨v, [], c, w, m, h1, h2, Keep.refl w m H, hh, h3, Below.refl B w, fun b hb => .inl hb⟩

theorem convV_sound (hx : CxOK cx) (hh : HeapOK cx B w m H) (hrd : Rd rd H) {src dst : TypeId} {slot : Nat} {x : V} {c : Value} {k : V → Eff → Prop} (hv : RV w m H x c) (hg : convV cx rd src dst x fun v => k v []) :
    OpRes cx B w m H slot k (convert src dst c) := by
  obtain ⟨ts, hts, hg⟩ := onS_elim hg
  obtain ⟨te, hte, hg⟩ := onS_elim hg
  have hs := (hx.ty _ _ hts).under
  have hd := (hx.ty _ _ hte).under
  have hsu : ∃ d, cx.P.underlying src = some d := by
    cases hty : ts.ty <;> simp only [hty] at hs
    case fn => obtain ⟨⟨a, b, c, h⟩, _⟩ := hs; exact ⟨_, h⟩
    case st => obtain ⟨f, s, h, _⟩ := hs; exact ⟨_, h⟩
    all_goals exact ⟨_, hs.1⟩
  obtain ⟨d, hsu⟩ := hsu
  cases hty : te.ty <;> simp only [hty] at hg hd <;> first | exact hg.elim | skip
  case int kd =>
    split at hg
    · have := hv.int_inv
      subst this
      exact POK.res hh ⟨_, _, hg, by simp [convert, run_underlying hsu, run_underlying hd.1, Conv.intToInt], .int _ _⟩
    · exact hg.elim
  case str =>
    cases hty3 : ts.ty <;> simp only [hty3] at hg hs <;> first | exact hg.elim | skip
    case str =>
      split at hg
      · have := hv.str_inv
        subst this
        exact POK.res hh ⟨_, _, hg, by simp [convert, run_underlying hsu, run_underlying hd.1], .str _⟩
      · exact hg.elim
    case sl e =>
      obtain ⟨ee, hee, hg⟩ := onS_elim hg
      have he := (hx.ty _ _ hee).under
      split at hg
      · rename_i hty2
        rw [hty2] at he
        unfold bytesV at hg
        split at hg
        · have := hv.nils_inv
          subst this
          exact POK.res hh ⟨_, _, hg, by rw [run_convert_bytes_string w src dst e none 0 0 hs.1 he.1 hd.1]; rfl, .str _⟩
        · obtain ⟨b, y, hk, hor⟩ := vslice_sound hh hrd hv hg
          have fin : ∀ e' xs, SlAt w m H e' xs c → y = .ro e' false xs ∨ (∃ t, y = .ro e' t xs) → OpRes cx B w m H slot k (convert src dst c) := by
            intro e' xs hsl hy
            have hk : onS (xs.mapM asByte) fun l => k (.d (.str l)) [] := by
              rcases hy with rfl | ⟨t, rfl⟩ <;> exact hk
            obtain ⟨l, hl, hk⟩ := onS_elim hk
            have hr := str_of_bytes (cx := cx) hsl hl
            obtain ⟨a, cap, css, rfl, _⟩ := hsl
            refine POK.res hh ⟨_, _, hk, ?_, .str _⟩
            rw [run_convert_bytes_string w src dst e a _ cap hs.1 he.1 hd.1]
            exact hr
          rcases hor with ⟨_, rfl⟩ | ⟨_, e', xs, rfl, hsl⟩
          · cases y with
            | ro e' t xs => exact fin e' xs (ro_slAt hv) (.inr ⟨t, rfl⟩)
            | _ => exact hk.elim
          · exact fin e' xs hsl (.inl rfl)
      · exact hg.elim
  case sl e =>
    obtain ⟨s, rfl⟩ : ∃ s, x = .d (.str s) := by
      split at hg
      · exact ⟨_, rfl⟩
      · exact hg.elim
    obtain ⟨ee, hee, hg⟩ := onS_elim hg
    have he := (hx.ty _ _ hee).under
    split at hg
    · rename_i hty2
      rw [hty2] at he
      have := hv.str_inv
      subst this
      have hr := Lib.run_convert_string_bytes (P := cx.P) w src dst e ⟨s.toArray⟩ hsu hd.1 he.1
      have hold : ∀ a c, w.cell? a = some c → (Lib.bytesWorld w e ⟨s.toArray⟩).cell? a = some c := fun a c hc => by rw [Lib.bytesWorld_old w e _ a (cell_lt hc)]; exact hc
      have hk : Keep w m H (Lib.bytesWorld w e ⟨s.toArray⟩) m H := ⟨fun a c h1 h2 => ⟨hold a c h1, h2⟩, fun _ h => h, fun b _ x hx => ⟨x, hx, BK.refl m b x⟩, fun _ h => h⟩
      have hhe : ∀ j, j < w.heap.size → (Lib.bytesWorld w e ⟨s.toArray⟩).heap[j]? = w.heap[j]? := fun j hj => Lib.bytesWorld_at_old w e _ j hj
      have hno : ¬ Own m H w.heap.size := by
        rintro (hfar | ⟨b, x, cap, hl, hi⟩)
        · have := hh.far _ hfar; have := hh.size; omega
        cases hh.blk b x hl with
        | fix v k' cap' cur h1 h2 h3 => rw [hi] at h1; cases h1; exact absurd h2.lt (by omega)
        | none ver e h1 => rw [hi] at h1; cases h1
        | grow ver e xs k' cap' cur css h1 h2 => rw [hi] at h1; cases h1; exact absurd h2.lt (by omega)
      refine ⟨_, [], _, _, m, hg, hr, hk, ?_, ?_, ?_, fun b hb => .inl hb⟩
      · refine ⟨fun i y hy => (hh.blk i y hy).keep hk rfl fun kk cap cur _ ⟨t, hr⟩ => ⟨t, by rw [hhe kk (Array.getElem?_eq_some_iff.1 hr).1]; exact hr⟩, hh.inj, hh.lo, hh.lt, hh.born, hh.glob.keep hk, hh.far, ?_⟩
        rw [Lib.bytesWorld_size]; have := hh.size; omega
      · have hsz : (⟨s.toArray⟩ : ByteArray).size = s.length := by simp [ByteArray.size]
        have hlen : (s.map fun c => D.int .u8 c.toNat).length = s.length := by simp
        have key : RC (Lib.bytesWorld w e ⟨s.toArray⟩) (Own m H) .one (.ro .one false (s.map fun c => .int .u8 c.toNat)) [.slice (some ⟨w.heap.size, 0, none⟩) (s.map fun c => D.int .u8 c.toNat).length (grownCap w s.length 0 e)] := by
          refine .ro .one false _ _ _ (s.map fun c => [Value.int .u8 c.toNat]) (by simp) (by rw [hlen]; exact grownCap_ge w _ _ _) (by intro h; cases h) (fun i x cs h1 h2 => ?_) (fun i cs j c h1 h2 => ?_)
          · rw [List.getElem?_map, Option.map_eq_some_iff] at h1 h2
            obtain ⟨a, ha, rfl⟩ := h1
            obtain ⟨b, hb, rfl⟩ := h2
            rw [ha] at hb; cases hb
            exact .int _ _
          · rw [List.getElem?_map, Option.map_eq_some_iff] at h1
            obtain ⟨a, ha, rfl⟩ := h1
            cases j with
            | succ j => simp at h2
            | zero =>
              simp at h2
              subst h2
              have hi := (List.getElem?_eq_some_iff.1 ha).1
              refine ⟨_, rfl, ?_, hno⟩
              rw [addr_add]
              have := Lib.bytesWorld_cell w e ⟨s.toArray⟩ i (by rw [hsz]; exact hi)
              simp only [Sh.csz, Nat.mul_one, Nat.add_zero, Nat.zero_add]
              rw [this]
              simp [List.getD, ha]
        rw [hlen] at key
        rw [hsz]
        exact .d1 key rfl
      · refine ⟨rfl, rfl, rfl, by rw [Lib.bytesWorld_size]; omega, fun j hj => hhe j (by have := hh.size; omega)⟩
    · exact hg.elim

theorem freeze_heap (w : World) (a : Addr) (n j : Nat) (h : j ≠ a.block) : (w.freeze a n).heap[j]? = w.heap[j]? := by
  unfold World.freeze
  split
  · rfl
  · simp only [Array.getElem?_modify]
    rw [if_neg (fun e => h e.symm)]

theorem freeze_cell (w : World) (a : Addr) (n : Nat) (p : Addr) : (w.freeze a n).cell? p = w.cell? p := by
  by_cases hp : p.block = a.block
  · unfold World.freeze
    split
    · rfl
    · unfold World.cell?
      simp only [Array.getElem?_modify, hp, if_true]
      cases w.heap[a.block]? with
      | none => rfl
      | some o => cases o <;> rfl
  · unfold World.cell?
    rw [freeze_heap w a n _ hp]

theorem convS_sound (hx : CxOK cx) (hh : HeapOK cx B w m H) (hrd : Rd rd H) {src dst : TypeId} (hsd : src = dst) {slot : Nat} {x : V} {c : Value} {k : V → Eff → Prop} (hv : RV w m H x c) (hg : convS cx rd dst x k) :
    OpRes cx B w m H slot k (convert src dst c) := by
  subst hsd
  obtain ⟨te, hte, hg⟩ := onS_elim hg
  have hd := (hx.ty _ _ hte).under
  cases hty : te.ty <;> simp only [hty] at hg hd <;> first | exact hg.elim | skip
  case int kd =>
    cases x with
    | d y => cases y with
      | int k1 n =>
        have := hv.int_inv
        subst this
        exact POK.res hh (k := k) ⟨_, _, hg, by simp [convert, run_underlying hd.1, Conv.intToInt], .int _ _⟩
      | _ => exact hg.elim
    | _ => exact hg.elim
  case str =>
    cases x with
    | d y => cases y with
      | str s =>
        have := hv.str_inv
        subst this
        exact POK.res hh (k := k) ⟨_, _, hg, by simp [convert, run_underlying hd.1], .str _⟩
      | _ => exact hg.elim
    | _ => exact hg.elim
  case sl e =>
    cases x with
    | sl b off ver =>
      obtain ⟨ee, hee, hg⟩ := onS_elim hg
      have he := (hx.ty _ _ hee).under
      split at hg
      · rename_i hty2
        rw [hty2] at he
        obtain ⟨blk, hb, hg⟩ := onS_elim hg
        cases blk with
        | fix v => exact hg.elim
        | grow ver' e' xs =>
          obtain ⟨hver, hg⟩ := onE_elim hg
          obtain ⟨hoff, hk⟩ := onT_elim hg
          have hoff : off < xs.length := of_decide_eq_true hoff
          have hl := hrd b _ hb
          obtain ⟨hle, ao, cap, css, hc, hcap, hcl, hrc, hm⟩ := slAt_sl hh hl hv hver
          obtain ⟨cs', hq, hc'⟩ := hv.elim rfl
          cases hq with
          | sl _ _ _ c' ho hb' hq =>
            have hc' : c = c' := hc'
            subst hc'
            obtain ⟨_, hor⟩ := (hq ver' e' xs hl).2 hver
            rcases hor with ⟨hn, hcn⟩ | ⟨kk, cap', a', hi, hcap', hcs, ha'⟩
            · rw [hcn] at hc
              simp only [Value.slice.injEq, List.length_drop] at hc
              omega
            · have ha2 := ha' (by omega)
              rw [hc] at hcs
              simp only [Value.slice.injEq] at hcs
              rw [hcs.1] at hc hm
              subst ha2
              rw [hc]
              have hrow : ∃ cur, Row w kk cur := by
                cases hh.blk b _ hl with
                | none _ _ h1 => rw [hi] at h1; cases h1
                | grow _ _ _ k2 cap2 cur _ h1 h2 => rw [hi] at h1; cases h1; exact ⟨cur, h2⟩
              obtain ⟨cur, t, hcur⟩ := hrow
              have hBk := hh.lo b _ kk cap' hl hi
              have hkk : kk < w.heap.size := (Array.getElem?_eq_some_iff.1 hcur).1
              have hrun : ∀ (l cp o : Nat), (convert src src (.slice (some ⟨kk, o, none⟩) l cp)).run cx.P w = .ok (.slice (some ⟨kk, o, none⟩) l cp) (w.freeze ⟨kk, cur.size, none⟩ 1) := fun l cp o => by
                simp [convert, run_underlying hd.1, run_underlying he.1, markStringish, World.shape?, hcur]
              refine ⟨_, _, _, w.freeze ⟨kk, cur.size, none⟩ 1, m, hk, hrun _ _ _, ?_, ?_, ?_, ?_, fun b h => .inl h⟩
              · have hkw : Keep w m H (w.freeze ⟨kk, cur.size, none⟩ 1) m H := ⟨fun a c h1 h2 => ⟨by rw [freeze_cell]; exact h1, h2⟩, fun _ h => h, fun b _ x hx => ⟨x, hx, BK.refl m b x⟩, fun _ h => h⟩
                exact hkw.trans keep_kill
              · have hkill := heap_kill (b := b) hh
                have hkw : Keep w m (H.set b none) (w.freeze ⟨kk, cur.size, none⟩ 1) m (H.set b none) := ⟨fun a c h1 h2 => ⟨by rw [freeze_cell]; exact h1, h2⟩, fun _ h => h, fun b _ x hx => ⟨x, hx, BK.refl m b x⟩, fun _ h => h⟩
                refine ⟨fun i y hy => (hkill.blk i y hy).keep hkw rfl fun k2 cap2 cur2 hi2 ⟨t2, hr2⟩ => ⟨t2, ?_⟩, hkill.inj, hkill.lo, hkill.lt, hkill.born, hkill.glob.keep hkw, hkill.far, ?_⟩
                · rw [freeze_heap]
                  · exact hr2
                  · show k2 ≠ kk
                    rintro rfl
                    rcases live_set hy with ⟨_, he⟩ | ⟨hne, hly⟩
                    · cases he
                    · exact hne (hh.inj i b y _ k2 cap2 cap' hly hl hi2 hi)
                · have := hh.size
                  simp [World.freeze]; omega
              · have hkm : ∀ {sh x cs}, RC w (Own m H) sh x cs → RC (w.freeze ⟨kk, cur.size, none⟩ 1) (Own m (H.set b none)) sh x cs := fun h => h.mono fun a c h1 h2 => ⟨by rw [freeze_cell]; exact h1, fun h => by
                  rcases h with hfar | ⟨b2, x2, c2, hl2, hi2⟩
                  · exact h2 (.inl hfar)
                  · rcases live_set hl2 with ⟨_, he⟩ | ⟨hne, hl2⟩
                    · cases he
                    · exact h2 (.inr ⟨b2, x2, c2, hl2, hi2⟩)⟩
                refine RV.d1 (.ro e' false (xs.drop off) _ cap css hcl hcap (fun h => by cases h) (fun i x cs h1 h2 => hkm (hrc i x cs h1 h2)) fun i cs j cc h1 h2 => ?_) rfl
                obtain ⟨ad, ha, hcell⟩ := hm i cs j cc h1 h2
                cases ha
                refine ⟨_, rfl, by rw [freeze_cell]; exact hcell, ?_⟩
                rintro (hfar | ⟨b2, x2, c2, hl2, hi2⟩)
                · have h1 := hh.far _ hfar
                  have h1 : kk < B := h1
                  omega
                · rcases live_set hl2 with ⟨_, he⟩ | ⟨hne, hl2⟩
                  · cases he
                  · exact hne (hh.inj b2 b x2 _ kk c2 cap' hl2 hl hi2 hi)
              · refine ⟨rfl, rfl, rfl, by simp [World.freeze], fun j hj => freeze_heap _ _ _ _ ?_⟩
                show j ≠ kk
                omega
      · exact hg.elim
    | _ => exact hg.elim

end

end Go.Fw
