/-
The two ways to a digest are one, for bytes. No conditions.
-/
import Derived.Test.YtcoooinjnkeokaaDoorSha0
import Derived.KernelRfl
namespace Go.Fw
set_option linter.unusedVariables false
set_option linter.unusedSimpArgs false
set_option maxRecDepth 10000

def ByteL (l : List Int) : Prop := ∀ x ∈ l, 0 ≤ x ∧ x < 256

theorem ByteL.getD {l : List Int} (h : ByteL l) (i : Nat) : 0 ≤ l.getD i 0 ∧ l.getD i 0 < 256 := by
  rcases Nat.lt_or_ge i l.length with hi | hi
  · rw [getD_get _ _ _ hi]; exact h _ (List.getElem_mem hi)
  · rw [List.getD_eq_getElem?_getD, List.getElem?_eq_none hi]; exact ⟨by decide, by decide⟩
theorem ByteL.app {a b : List Int} (ha : ByteL a) (hb : ByteL b) : ByteL (a ++ b) := fun x hx => by
  rcases List.mem_append.1 hx with h | h
  · exact ha x h
  · exact hb x h
theorem ByteL.take {a : List Int} (ha : ByteL a) (n : Nat) : ByteL (a.take n) := fun x hx => ha x (List.mem_of_mem_take hx)
theorem ByteL.drop {a : List Int} (ha : ByteL a) (n : Nat) : ByteL (a.drop n) := fun x hx => ha x (List.mem_of_mem_drop hx)
theorem wrap8_byte (n : Int) : 0 ≤ IntKind.u8.wrap n ∧ IntKind.u8.wrap n < 256 := by rw [wrap_u8]; omega
theorem be_byte (n i : Nat) : 0 ≤ be n i ∧ be n i < 256 := wrap8_byte _
theorem padL_byte (n : Nat) : ∀ j, ByteL (padL n j)
  | 0 => fun x hx => by
    simp only [padL, List.mem_cons, List.mem_replicate] at hx
    rcases hx with rfl | ⟨_, rfl⟩ <;> decide
  | j + 1 => (padL_byte n j).app fun x hx => by
    simp only [List.mem_singleton] at hx
    rw [hx]; exact be_byte _ _
theorem set_byte {l : List Int} (h : ByteL l) (i : Nat) {x : Int} (hx : 0 ≤ x ∧ x < 256) : ByteL (l.set i x) := fun y hy => by
  rcases List.mem_or_eq_of_mem_set hy with h1 | h1
  · exact h y h1
  · rw [h1]; exact hx
theorem hL_byte (s : List Int) : ∀ i, ByteL (hL s i)
  | 0 => fun x hx => by rw [(List.mem_replicate.1 hx).2]; decide
  | i + 1 => set_byte (hL_byte s i) _ (wrap8_byte _)
theorem sum_byte (b : List Int) : ByteL (sum b) := by rw [sum_eq]; exact hL_byte _ _
theorem strB_byte (s : List UInt8) : ByteL (strB s) := fun x hx => by
  obtain ⟨c, _, rfl⟩ := List.mem_map.1 hx
  have := c.toNat_lt
  omega

theorem pad_same (n : Nat) : padL n 8 = refR n 8 := by
  simp [padL, refR, refL]
theorem msg_same (b : List Int) : msg b = msgR b := by unfold msg msgR; rw [pad_same]

/-! Words -/
theorem or_add (x b : Nat) (k : Nat) (hb : b < 2 ^ k) : (x * 2 ^ k) ||| b = x * 2 ^ k + b := by
  have := Nat.two_pow_add_eq_or_of_lt hb x
  rw [Nat.mul_comm] at this
  omega
theorem orW_nat {a b : Nat} (ha : a < 2 ^ 32) (hb : b < 2 ^ 32) : orW .u32 (a : Int) (b : Int) = ((a ||| b : Nat) : Int) := by
  have h := Nat.or_lt_two_pow ha hb
  unfold orW
  rw [wrap_u32]
  show ((BitVec.ofInt 32 (a : Int) ||| BitVec.ofInt 32 (b : Int) : BitVec 32).toNat : Int) % 4294967296 = _
  rw [BitVec.toNat_or, BitVec.ofInt_natCast, BitVec.ofInt_natCast, BitVec.toNat_ofNat, BitVec.toNat_ofNat, Nat.mod_eq_of_lt ha, Nat.mod_eq_of_lt hb]
  omega
theorem orW_add {x b : Nat} (k : Nat) (hb : b < 2 ^ k) (h : x * 2 ^ k + b < 2 ^ 32) : orW .u32 ((x * 2 ^ k : Nat) : Int) (b : Int) = ((x * 2 ^ k + b : Nat) : Int) := by
  rw [orW_nat (by omega) (by omega), or_add x b k hb]
theorem shlW_nat {a : Nat} {n : Nat} (hn : n ≤ 32) (h : a * 2 ^ n < 2 ^ 32) : shlW .u32 (a : Int) n = ((a * 2 ^ n : Nat) : Int) := by
  unfold shlW
  rw [wrap_u32]
  simp only [IntKind.bits]
  rw [Nat.min_eq_left hn]
  have e : (a : Int) * 2 ^ n = ((a * 2 ^ n : Nat) : Int) := by push_cast; rfl
  rw [e]
  omega
theorem up8_nat {x c : Nat} (hc : c < 256) (h : x * 256 + c < 4294967296) : up8 (x : Int) (c : Int) = ((x * 256 + c : Nat) : Int) := by
  unfold up8
  rw [shlW_nat (n := 8) (by omega) (by omega), wrap_u32, Int.emod_eq_of_lt (by omega) (by omega), orW_add (x := x) (b := c) 8 (by omega) (by omega)]

theorem word4_nat (b : List Int) (hb : ByteL b) (i : Nat) :
    word4 b i = up8 (up8 (up8 (up8 0 (b.getD (4 * i) 0)) (b.getD (4 * i + 1) 0)) (b.getD (4 * i + 2) 0)) (b.getD (4 * i + 3) 0) := by
  unfold word4
  have h0 := hb.getD (4 * i)
  have h1 := hb.getD (4 * i + 1)
  have h2 := hb.getD (4 * i + 2)
  have h3 := hb.getD (4 * i + 3)
  generalize b.getD (4 * i) 0 = c0 at *
  generalize b.getD (4 * i + 1) 0 = c1 at *
  generalize b.getD (4 * i + 2) 0 = c2 at *
  generalize b.getD (4 * i + 3) 0 = c3 at *
  obtain ⟨n0, rfl⟩ := Int.eq_ofNat_of_zero_le h0.1
  obtain ⟨n1, rfl⟩ := Int.eq_ofNat_of_zero_le h1.1
  obtain ⟨n2, rfl⟩ := Int.eq_ofNat_of_zero_le h2.1
  obtain ⟨n3, rfl⟩ := Int.eq_ofNat_of_zero_le h3.1
  have e0 : up8 0 (n0 : Int) = ((0 * 256 + n0 : Nat) : Int) := up8_nat (x := 0) (by omega) (by omega)
  rw [e0, up8_nat (by omega) (by omega), up8_nat (by omega) (by omega), up8_nat (by omega) (by omega)]
  have w : ∀ n : Nat, n < 256 → IntKind.u32.wrap (n : Int) = (n : Int) := fun n hn => by rw [wrap_u32]; omega
  rw [w n0 (by omega), w n1 (by omega), w n2 (by omega), w n3 (by omega), shlW_nat (by omega) (by omega), shlW_nat (by omega) (by omega), shlW_nat (by omega) (by omega)]
  have o1 : n0 * 2 ^ 24 ||| n1 * 2 ^ 16 = n0 * 2 ^ 24 + n1 * 2 ^ 16 := or_add n0 (n1 * 2 ^ 16) 24 (by omega)
  rw [orW_nat (by omega) (by omega), o1]
  have o2 : (n0 * 2 ^ 24 + n1 * 2 ^ 16) ||| n2 * 2 ^ 8 = n0 * 2 ^ 24 + n1 * 2 ^ 16 + n2 * 2 ^ 8 := by
    have := or_add (n0 * 2 ^ 8 + n1) (n2 * 2 ^ 8) 16 (by omega)
    rw [show (n0 * 2 ^ 8 + n1) * 2 ^ 16 = n0 * 2 ^ 24 + n1 * 2 ^ 16 by omega] at this
    exact this
  rw [orW_nat (by omega) (by omega), o2]
  have o3 : (n0 * 2 ^ 24 + n1 * 2 ^ 16 + n2 * 2 ^ 8) ||| n3 = n0 * 2 ^ 24 + n1 * 2 ^ 16 + n2 * 2 ^ 8 + n3 := by
    have := or_add ((n0 * 2 ^ 8 + n1) * 2 ^ 8 + n2) n3 8 (by omega)
    rw [show ((n0 * 2 ^ 8 + n1) * 2 ^ 8 + n2) * 2 ^ 8 = n0 * 2 ^ 24 + n1 * 2 ^ 16 + n2 * 2 ^ 8 by omega] at this
    exact this
  rw [orW_nat (by omega) (by omega), o3]
  congr 1
  omega

/-- Four steps of the first way make a word. -/
theorem sch1_four (b : List Int) (i : Nat) (h : i < 16) : sch1 b (4 * (i + 1)) = (sch1 b (4 * i)).set i (up8 (up8 (up8 (up8 ((sch1 b (4 * i)).getD i 0) (b.getD (4 * i) 0)) (b.getD (4 * i + 1) 0)) (b.getD (4 * i + 2) 0)) (b.getD (4 * i + 3) 0)) := by
  have hl := sch1_len b (4 * i)
  rw [show 4 * (i + 1) = 4 * i + 1 + 1 + 1 + 1 by omega]
  simp only [sch1]
  rw [show (4 * i) / 4 = i by omega, show (4 * i + 1) / 4 = i by omega, show (4 * i + 1 + 1) / 4 = i by omega, show (4 * i + 1 + 1 + 1) / 4 = i by omega]
  generalize sch1 b (4 * i) = w at *
  have g : ∀ (w : List Int) x, w.length = 64 → (w.set i x).getD i 0 = x := fun w x hw => by
    rw [getD_get _ _ _ (by simp; omega), List.getElem_set_self]
  simp only [List.set_set, g w _ hl]
theorem sch1_zero (b : List Int) : ∀ (i k : Nat), i ≤ 4 * k → (sch1 b i).getD k 0 = 0
  | 0, k, _ => by
    simp only [sch1]
    rcases Nat.lt_or_ge k 64 with h | h
    · rw [getD_get _ _ _ (by simpa using h), List.getElem_replicate]
    · rw [List.getD_eq_getElem?_getD, List.getElem?_eq_none (by simpa using h)]; rfl
  | i + 1, k, h => by
    have ih := sch1_zero b i k (by omega)
    simp only [sch1]
    rw [List.getD_eq_getElem?_getD, List.getElem?_set_ne (by omega), ← List.getD_eq_getElem?_getD]
    exact ih
theorem sch1_same (b : List Int) (hb : ByteL b) : ∀ i, i ≤ 16 → sch1 b (4 * i) = sch1r b i
  | 0, _ => rfl
  | i + 1, h => by
    rw [sch1_four b i (by omega), sch1_zero b (4 * i) i (Nat.le_refl _), ← word4_nat b hb i, sch1_same b hb i (by omega)]
    rfl
theorem sched_same (b : List Int) (hb : ByteL b) : sched b = schedR b := by
  unfold sched schedR
  rw [← sch1_same b hb 16 (Nat.le_refl _)]

theorem addW_comm (k : IntKind) (a b : Int) : addW k a b = addW k b a := by unfold addW; rw [Int.add_comm]
theorem eight (l : List Int) (h : l.length = 8) : ∃ a b c d e f g i, l = [a, b, c, d, e, f, g, i] := by
  match l, h with
  | [a, b, c, d, e, f, g, i], _ => exact ⟨a, b, c, d, e, f, g, i, rfl⟩
theorem addN_same (x s : List Int) (hx : x.length = 8) (hs : s.length = 8) : addN x s 8 = addR x s := by
  obtain ⟨a, b, c, d, e, f, g, i, rfl⟩ := eight x hx
  obtain ⟨a', b', c', d', e', f', g', i', rfl⟩ := eight s hs
  unfold addR
  simp only [List.getD_cons_zero, List.getD_cons_succ]
  rw [addW_comm .u32 a', addW_comm .u32 b', addW_comm .u32 c', addW_comm .u32 d', addW_comm .u32 e', addW_comm .u32 f', addW_comm .u32 g', addW_comm .u32 i']
  rfl
theorem compress_same (s b : List Int) (hs : s.length = 8) (hb : ByteL b) : compress s b = compressR s b := by
  unfold compress compressR
  rw [sched_same b hb, addN_same _ _ (rnds_len s _ hs 64) hs]
theorem stN_same (s m : List Int) (hs : s.length = 8) (hm : ByteL m) : ∀ k, stN s m k = stR s m k
  | 0 => rfl
  | k + 1 => by
    simp only [stN, stR]
    rw [stN_same s m hs hm k, compress_same _ _ (by rw [← stN_same s m hs hm k]; exact stN_len s m hs k) ((hm.drop _).take _)]
theorem hL_same (s : List Int) (hs : s.length = 8) : hL s 32 = hR s 8 := by
  obtain ⟨a, b, c, d, e, f, g, i, rfl⟩ := eight s hs
  simp [hL, hR, hbyte]
theorem msg_byte (b : List Int) (hb : ByteL b) : ByteL (msg b) := hb.app (padL_byte _ _)
/-- THE TWO DIGESTS ARE ONE. -/
theorem sum_same (b : List Int) (hb : ByteL b) : sum b = sumR b := by
  rw [sum_eq, sumR_eq]
  rw [← msg_same, stN_same H0 _ rfl (msg_byte b hb), hL_same _ (stR_len H0 _ rfl _)]
theorem sumR_byte (b : List Int) (hb : ByteL b) : ByteL (sumR b) := by rw [← sum_same b hb]; exact sum_byte b

theorem keyPad_byte (l : List Int) (h : ByteL l) : ByteL (keyPad l) := h.app fun x hx => by rw [(List.mem_replicate.1 hx).2]; decide
theorem xorW_byte (a b : Int) : 0 ≤ xorW .u8 a b ∧ xorW .u8 a b < 256 := wrap8_byte _
theorem xorL_byte (k : Int) (l : List Int) : ByteL (xorL k l) := fun x hx => by
  obtain ⟨y, _, rfl⟩ := List.mem_map.1 hx
  exact xorW_byte _ _
theorem hmac_same (key b : List Int) (hb : ByteL b) : hmac key b = hmacR key b := by
  unfold hmac hmacR
  rw [sum_same _ ((xorL_byte _ _).app hb), sum_same _ ((xorL_byte _ _).app (sumR_byte _ ((xorL_byte _ _).app hb)))]

/-! Two digests by number -/
def sumNil : List Int := [227, 176, 196, 66, 152, 252, 28, 20, 154, 251, 244, 200, 153, 111, 185, 36, 39, 174, 65, 228, 100, 155, 147, 76, 164, 149, 153, 27, 120, 82, 184, 85]
def sumAbc : List Int := [186, 120, 22, 191, 143, 1, 207, 234, 65, 65, 64, 222, 93, 174, 34, 35, 176, 3, 97, 163, 150, 23, 122, 156, 180, 16, 255, 97, 242, 0, 21, 173]
theorem sum_nil : sum [] = sumNil := by rw [sum_eq]; kernel_rfl
theorem sum_abc : sum [97, 98, 99] = sumAbc := by rw [sum_eq]; kernel_rfl
end Go.Fw
