/-
The table of types and the numbers of the functions of one seat, printed by gen.py. No conditions.
-/
import Derived.Test.YtlcigfcffmfckaaFc
import Derived.Test.YtlcigfcffmfckaaProg
import Derived.KernelRfl
import Derived.Shelf.Spec.BitsCarry
namespace Go.Fw
set_option linter.unusedVariables false
set_option linter.unusedSimpArgs false
set_option maxRecDepth 10000
open Go.Proofs
def tyTab : List (Nat × TyE) := [
  (2, ⟨.int .i64, .one, 8, .int .i64 0⟩),
  (3, ⟨.int .i64, .one, 8, .int .i64 0⟩),
  (4, ⟨.bool, .one, 1, .bool false⟩),
  (5, ⟨.int .u8, .one, 1, .int .u8 0⟩),
  (9, ⟨.str, .one, 16, .str []⟩),
  (12, ⟨.int .u64, .one, 8, .int .u64 0⟩),
  (15, ⟨.ptr 67, .one, 8, .nilp⟩),
  (16, ⟨.ptr 70, .one, 8, .nilp⟩),
  (17, ⟨.ptr 80, .one, 8, .nilp⟩),
  (21, ⟨.int .i32, .one, 4, .int .i32 0⟩),
  (22, ⟨.int .u64, .one, 8, .int .u64 0⟩),
  (23, ⟨.arr 4 22, .arr 4 (.one), 32, .arr 4 (.one) (List.replicate 4 (.int .u64 0))⟩),
  (24, ⟨.arr 4 22, .arr 4 (.one), 32, .arr 4 (.one) (List.replicate 4 (.int .u64 0))⟩),
  (25, ⟨.arr 32 5, .arr 32 (.one), 32, .arr 32 (.one) (List.replicate 32 (.int .u8 0))⟩),
  (26, ⟨.arr 32 5, .arr 32 (.one), 32, .arr 32 (.one) (List.replicate 32 (.int .u8 0))⟩),
  (52, ⟨.int .u64, .one, 8, .int .u64 0⟩),
  (54, ⟨.arr 8 22, .arr 8 (.one), 64, .arr 8 (.one) (List.replicate 8 (.int .u64 0))⟩),
  (56, ⟨.sl 22, .one, 24, .nils⟩),
  (59, ⟨.arr 78 5, .arr 78 (.one), 78, .arr 78 (.one) (List.replicate 78 (.int .u8 0))⟩),
  (62, ⟨.sl 5, .one, 24, .nils⟩),
  (72, ⟨.int .u32, .one, 4, .int .u32 0⟩),
  (76, ⟨.ptr 5, .one, 8, .nilp⟩)]
abbrev p_lightclientlaw02_WideOrder : List Nat := [24, 24]
abbrev n_lightclientlaw02_WideOrder : Nat := 3
noncomputable abbrev f_lightclientlaw02_WideOrder : Func := Try.f3
abbrev p_lightclientlaw02_WideDivides : List Nat := [24, 24, 24]
abbrev n_lightclientlaw02_WideDivides : Nat := 4
noncomputable abbrev f_lightclientlaw02_WideDivides : Func := Try.f4
abbrev p_lightclientlaw02_WideBasics : List Nat := [22, 26, 24, 24]
abbrev n_lightclientlaw02_WideBasics : Nat := 5
noncomputable abbrev f_lightclientlaw02_WideBasics : Func := Try.f5
abbrev p_lightclientlaw02_WideShifts : List Nat := [24, 3]
abbrev n_lightclientlaw02_WideShifts : Nat := 6
noncomputable abbrev f_lightclientlaw02_WideShifts : Func := Try.f6
abbrev p_lightclientlaw02_WideSums : List Nat := [24, 24]
abbrev n_lightclientlaw02_WideSums : Nat := 7
noncomputable abbrev f_lightclientlaw02_WideSums : Func := Try.f7
abbrev p_lightclientlaw02_WideUndo : List Nat := [24, 24, 24, 5]
abbrev n_lightclientlaw02_WideUndo : Nat := 8
noncomputable abbrev f_lightclientlaw02_WideUndo : Func := Try.f8
abbrev p_lightclientlaw02_WidePowers : List Nat := [24, 24, 24]
abbrev n_lightclientlaw02_WidePowers : Nat := 9
noncomputable abbrev f_lightclientlaw02_WidePowers : Func := Try.f9
abbrev p_lightclientlaw02_WideExponents : List Nat := [24, 24, 22, 22]
abbrev n_lightclientlaw02_WideExponents : Nat := 10
noncomputable abbrev f_lightclientlaw02_WideExponents : Func := Try.f10
abbrev p_lightclientlaw02_WideModular : List Nat := [24, 24, 24]
abbrev n_lightclientlaw02_WideModular : Nat := 11
noncomputable abbrev f_lightclientlaw02_WideModular : Func := Try.f11
abbrev p_lightclientlaw02_WideRing : List Nat := [24, 24, 24, 24]
abbrev n_lightclientlaw02_WideRing : Nat := 12
noncomputable abbrev f_lightclientlaw02_WideRing : Func := Try.f12
abbrev p_wide_Bytes : List Nat := [24]
abbrev n_wide_Bytes : Nat := 13
noncomputable abbrev f_wide_Bytes : Func := Try.f13
abbrev p_wide_Sub : List Nat := [24, 24]
abbrev n_wide_Sub : Nat := 14
noncomputable abbrev f_wide_Sub : Func := Try.f14
abbrev p_wide_Cmp : List Nat := [24, 24]
abbrev n_wide_Cmp : Nat := 15
noncomputable abbrev f_wide_Cmp : Func := Try.f15
abbrev p_lightclientlaw02_sane : List Nat := []
abbrev n_lightclientlaw02_sane : Nat := 16
noncomputable abbrev f_lightclientlaw02_sane : Func := Try.f16
abbrev p_wide_Div : List Nat := [24, 24, 24]
abbrev n_wide_Div : Nat := 17
noncomputable abbrev f_wide_Div : Func := Try.f17
abbrev p_lightclientref02_Div : List Nat := [24, 24, 24]
abbrev n_lightclientref02_Div : Nat := 18
noncomputable abbrev f_lightclientref02_Div : Func := Try.f18
abbrev p_wide_FromUint : List Nat := [22]
abbrev n_wide_FromUint : Nat := 19
noncomputable abbrev f_wide_FromUint : Func := Try.f19
abbrev p_lightclientref02_FromUint : List Nat := [22]
abbrev n_lightclientref02_FromUint : Nat := 20
noncomputable abbrev f_lightclientref02_FromUint : Func := Try.f20
abbrev p_wide_FromBytes : List Nat := [26]
abbrev n_wide_FromBytes : Nat := 21
noncomputable abbrev f_wide_FromBytes : Func := Try.f21
abbrev p_lightclientref02_FromBytes : List Nat := [26]
abbrev n_lightclientref02_FromBytes : Nat := 22
noncomputable abbrev f_lightclientref02_FromBytes : Func := Try.f22
abbrev p_lightclientref02_Bytes : List Nat := [24]
abbrev n_lightclientref02_Bytes : Nat := 23
noncomputable abbrev f_lightclientref02_Bytes : Func := Try.f23
abbrev p_lightclientref02_Cmp : List Nat := [24, 24]
abbrev n_lightclientref02_Cmp : Nat := 24
noncomputable abbrev f_lightclientref02_Cmp : Func := Try.f24
abbrev p_wide_Len : List Nat := [24]
abbrev n_wide_Len : Nat := 25
noncomputable abbrev f_wide_Len : Func := Try.f25
abbrev p_lightclientref02_Len : List Nat := [24]
abbrev n_lightclientref02_Len : Nat := 26
noncomputable abbrev f_lightclientref02_Len : Func := Try.f26
abbrev p_wide_Shl : List Nat := [24, 3]
abbrev n_wide_Shl : Nat := 27
noncomputable abbrev f_wide_Shl : Func := Try.f27
abbrev p_lightclientref02_Shl : List Nat := [24, 3]
abbrev n_lightclientref02_Shl : Nat := 28
noncomputable abbrev f_lightclientref02_Shl : Func := Try.f28
abbrev p_wide_Shr : List Nat := [24, 3]
abbrev n_wide_Shr : Nat := 29
noncomputable abbrev f_wide_Shr : Func := Try.f29
abbrev p_lightclientref02_Shr : List Nat := [24, 3]
abbrev n_lightclientref02_Shr : Nat := 30
noncomputable abbrev f_lightclientref02_Shr : Func := Try.f30
abbrev p_wide_Add : List Nat := [24, 24]
abbrev n_wide_Add : Nat := 31
noncomputable abbrev f_wide_Add : Func := Try.f31
abbrev p_lightclientref02_Add : List Nat := [24, 24]
abbrev n_lightclientref02_Add : Nat := 32
noncomputable abbrev f_lightclientref02_Add : Func := Try.f32
abbrev p_lightclientref02_Sub : List Nat := [24, 24]
abbrev n_lightclientref02_Sub : Nat := 33
noncomputable abbrev f_lightclientref02_Sub : Func := Try.f33
abbrev p_wide_Mul : List Nat := [24, 24]
abbrev n_wide_Mul : Nat := 34
noncomputable abbrev f_wide_Mul : Func := Try.f34
abbrev p_lightclientref02_Mul : List Nat := [24, 24]
abbrev n_lightclientref02_Mul : Nat := 35
noncomputable abbrev f_lightclientref02_Mul : Func := Try.f35
abbrev p_wide_Not : List Nat := [24]
abbrev n_wide_Not : Nat := 36
noncomputable abbrev f_wide_Not : Func := Try.f36
abbrev p_lightclientref02_Not : List Nat := [24]
abbrev n_lightclientref02_Not : Nat := 37
noncomputable abbrev f_lightclientref02_Not : Func := Try.f37
abbrev p_wide_ExpMod : List Nat := [24, 24, 24]
abbrev n_wide_ExpMod : Nat := 38
noncomputable abbrev f_wide_ExpMod : Func := Try.f38
abbrev p_lightclientref02_ExpMod : List Nat := [24, 24, 24]
abbrev n_lightclientref02_ExpMod : Nat := 39
noncomputable abbrev f_lightclientref02_ExpMod : Func := Try.f39
abbrev p_wide_MulMod : List Nat := [24, 24, 24]
abbrev n_wide_MulMod : Nat := 40
noncomputable abbrev f_wide_MulMod : Func := Try.f40
abbrev p_wide_AddMod : List Nat := [24, 24, 24]
abbrev n_wide_AddMod : Nat := 41
noncomputable abbrev f_wide_AddMod : Func := Try.f41
abbrev p_lightclientref02_AddMod : List Nat := [24, 24, 24]
abbrev n_lightclientref02_AddMod : Nat := 42
noncomputable abbrev f_lightclientref02_AddMod : Func := Try.f42
abbrev p_wide_SubMod : List Nat := [24, 24, 24]
abbrev n_wide_SubMod : Nat := 43
noncomputable abbrev f_wide_SubMod : Func := Try.f43
abbrev p_lightclientref02_SubMod : List Nat := [24, 24, 24]
abbrev n_lightclientref02_SubMod : Nat := 44
noncomputable abbrev f_lightclientref02_SubMod : Func := Try.f44
abbrev p_lightclientref02_MulMod : List Nat := [24, 24, 24]
abbrev n_lightclientref02_MulMod : Nat := 45
noncomputable abbrev f_lightclientref02_MulMod : Func := Try.f45
abbrev p_bits_Sub64 : List Nat := [22, 22, 22]
abbrev n_bits_Sub64 : Nat := 46
noncomputable abbrev f_bits_Sub64 : Func := Try.f46
abbrev p_wide_Text : List Nat := [24]
abbrev n_wide_Text : Nat := 47
noncomputable abbrev f_wide_Text : Func := Try.f47
abbrev p_lightclientref02_Bit : List Nat := [24, 3]
abbrev n_lightclientref02_Bit : Nat := 48
noncomputable abbrev f_lightclientref02_Bit : Func := Try.f48
abbrev p_bits_Len64 : List Nat := [22]
abbrev n_bits_Len64 : Nat := 49
noncomputable abbrev f_bits_Len64 : Func := Try.f49
abbrev p_bits_Add64 : List Nat := [22, 22, 22]
abbrev n_bits_Add64 : Nat := 50
noncomputable abbrev f_bits_Add64 : Func := Try.f50
abbrev p_bits_Mul64 : List Nat := [22, 22]
abbrev n_bits_Mul64 : Nat := 51
noncomputable abbrev f_bits_Mul64 : Func := Try.f51
abbrev p_wide_mod : List Nat := [24, 24]
abbrev n_wide_mod : Nat := 52
noncomputable abbrev f_wide_mod : Func := Try.f52
abbrev p_lightclientref02_Zero : List Nat := [24]
abbrev n_lightclientref02_Zero : Nat := 53
noncomputable abbrev f_lightclientref02_Zero : Func := Try.f53
abbrev p_lightclientref02_reduce : List Nat := [24, 24]
abbrev n_lightclientref02_reduce : Nat := 54
noncomputable abbrev f_lightclientref02_reduce : Func := Try.f54
abbrev p_wide_tenth : List Nat := [24]
abbrev n_wide_tenth : Nat := 55
noncomputable abbrev f_wide_tenth : Func := Try.f55
abbrev p_bits_Div64 : List Nat := [22, 22, 22]
abbrev n_bits_Div64 : Nat := 56
noncomputable abbrev f_bits_Div64 : Func := Try.f56
abbrev p_bits_LeadingZeros64 : List Nat := [22]
abbrev n_bits_LeadingZeros64 : Nat := 57
noncomputable abbrev f_bits_LeadingZeros64 : Func := Try.f57
abbrev g_bits_divideError : Nat := 0
abbrev t_bits_divideError : Nat := 64
abbrev g_bits_overflowError : Nat := 1
abbrev t_bits_overflowError : Nat := 64
def glob : List (Nat × D) := []
noncomputable def cx : Cx := mkCx Try.prog tyTab glob
theorem cxOK : CxOK cx := CxOK.of_tab (by kernel_rfl) (by kernel_rfl) (by kernel_rfl)
end Go.Fw

/-
The context of this seat, and the rule for contracts. No conditions.
-/
namespace Go.Fw
set_option linter.unusedVariables false
set_option linter.unusedSimpArgs false
set_option maxRecDepth 10000
open Go.Proofs
theorem of_W2 {f : FuncId} {fn : Func} (hs : Hints) {args : List D} {v : D} (hf : cx.P.funcs[f]? = some fn) (hb : fn.body = some (fn.body.getD .skip)) (hname : (fn.name == "runtime.NumGoroutine") = false)
    (hok : okCode cx hs fn.ntmps (fn.body.getD .skip) = true) (hn : Nat.ble args.length fn.ntmps = true) (h : startK args fn.ntmps fun l => W2 cx hs (fn.body.getD .skip) l [] (post2 cx fn.results.toList fun d => D.le d v)) : Returns cx f args v :=
  Returns.of_W2 cxOK hf hb hname hs hok (Nat.le_of_ble_eq_true hn) h
end Go.Fw

/-
Bits of 64-bit numbers, plain: sums with carries, differences with borrows. No conditions.
-/
namespace Go.Fw
set_option linter.unusedVariables false
set_option linter.unusedSimpArgs false
set_option maxRecDepth 10000

theorem ofInt64 (a : Nat) : BitVec.ofInt 64 (a : Int) = BitVec.ofNat 64 a := BitVec.ofInt_natCast 64 a
theorem wrap_u64_nat {n : Nat} (h : n < 18446744073709551616) : IntKind.u64.wrap (n : Int) = n := by
  rw [wrap_u64]; omega
theorem and64 {a b : Nat} (ha : a < 18446744073709551616) (hb : b < 18446744073709551616) : andW .u64 (a : Int) (b : Int) = ((a &&& b : Nat) : Int) := by
  show IntKind.u64.wrap (((BitVec.ofInt 64 (a : Int) &&& BitVec.ofInt 64 (b : Int)).toNat : Nat) : Int) = _
  rw [ofInt64, ofInt64, BitVec.toNat_and, BitVec.toNat_ofNat, BitVec.toNat_ofNat, Nat.mod_eq_of_lt ha, Nat.mod_eq_of_lt hb]
  exact wrap_u64_nat (Nat.lt_of_le_of_lt Nat.and_le_left ha)
theorem or64 {a b : Nat} (ha : a < 18446744073709551616) (hb : b < 18446744073709551616) : orW .u64 (a : Int) (b : Int) = ((a ||| b : Nat) : Int) := by
  show IntKind.u64.wrap (((BitVec.ofInt 64 (a : Int) ||| BitVec.ofInt 64 (b : Int)).toNat : Nat) : Int) = _
  rw [ofInt64, ofInt64, BitVec.toNat_or, BitVec.toNat_ofNat, BitVec.toNat_ofNat, Nat.mod_eq_of_lt ha, Nat.mod_eq_of_lt hb]
  exact wrap_u64_nat (Nat.or_lt_two_pow (n := 64) ha hb)
theorem xor64 {a b : Nat} (ha : a < 18446744073709551616) (hb : b < 18446744073709551616) : xorW .u64 (a : Int) (b : Int) = ((a ^^^ b : Nat) : Int) := by
  show IntKind.u64.wrap (((BitVec.ofInt 64 (a : Int) ^^^ BitVec.ofInt 64 (b : Int)).toNat : Nat) : Int) = _
  rw [ofInt64, ofInt64, BitVec.toNat_xor, BitVec.toNat_ofNat, BitVec.toNat_ofNat, Nat.mod_eq_of_lt ha, Nat.mod_eq_of_lt hb]
  exact wrap_u64_nat (Nat.xor_lt_two_pow (n := 64) ha hb)
theorem andNot64 {a b : Nat} (ha : a < 18446744073709551616) (hb : b < 18446744073709551616) : andNotW .u64 (a : Int) (b : Int) = ((a &&& (18446744073709551615 - b) : Nat) : Int) := by
  show IntKind.u64.wrap (((BitVec.ofInt 64 (a : Int) &&& ~~~ BitVec.ofInt 64 (b : Int)).toNat : Nat) : Int) = _
  rw [ofInt64, ofInt64, BitVec.toNat_and, BitVec.toNat_not, BitVec.toNat_ofNat, BitVec.toNat_ofNat, Nat.mod_eq_of_lt ha, Nat.mod_eq_of_lt hb]
  exact wrap_u64_nat (Nat.lt_of_le_of_lt Nat.and_le_left ha)
theorem not64 {a : Nat} (ha : a < 18446744073709551616) : notW .u64 (a : Int) = ((18446744073709551615 - a : Nat) : Int) := by
  have e : notW .u64 (a : Int) = IntKind.u64.wrap (((BitVec.ofInt 64 (18446744073709551615 : Int) ^^^ BitVec.ofInt 64 (a : Int)).toNat : Nat) : Int) := rfl
  have e2 : BitVec.ofInt 64 (18446744073709551615 : Int) = BitVec.allOnes 64 := by decide
  rw [e, e2, ofInt64, BitVec.allOnes_xor, BitVec.toNat_not, BitVec.toNat_ofNat, Nat.mod_eq_of_lt ha]
  exact wrap_u64_nat (by omega)
theorem shr64 (a n : Nat) (hn : n ≤ 64) : shrW .u64 (a : Int) n = ((a / 2 ^ n : Nat) : Int) := by
  show (a : Int).fdiv (2 ^ min n 64) = _
  rw [Nat.min_eq_left hn, Int.fdiv_eq_ediv_of_nonneg _ (Int.pow_nonneg (by decide))]
  simp

theorem top_bit {z : Nat} (h : z < 18446744073709551616) : z / 9223372036854775808 = (z.testBit 63).toNat := by
  have := Nat.toNat_testBit z 63
  rw [this]
  show z / 9223372036854775808 = z / 9223372036854775808 % 2
  omega
theorem carry64 {x y c : Nat} (hx : x < 18446744073709551616) (hy : y < 18446744073709551616) (hc : c ≤ 1) :
    ((x &&& y) ||| ((x ||| y) &&& (18446744073709551615 - (x + y + c) % 18446744073709551616))) / 9223372036854775808 = (x + y + c) / 18446744073709551616 := by
  have hs : (x + y + c) % 18446744073709551616 < 18446744073709551616 := Nat.mod_lt _ (by decide)
  have h1 : (x &&& y) < 2 ^ 64 := Nat.lt_of_le_of_lt Nat.and_le_left hx
  have h2 : (x ||| y) < 2 ^ 64 := Nat.or_lt_two_pow (n := 64) hx hy
  have h3 : ((x ||| y) &&& (18446744073709551615 - (x + y + c) % 18446744073709551616)) < 2 ^ 64 := Nat.lt_of_le_of_lt Nat.and_le_left h2
  have h4 := Nat.or_lt_two_pow h1 h3
  rw [top_bit h4]
  have hn : (18446744073709551615 - (x + y + c) % 18446744073709551616).testBit 63 = !((x + y + c) % 18446744073709551616).testBit 63 := by
    have := Nat.testBit_two_pow_sub_succ (n := 64) (x := (x + y + c) % 18446744073709551616) hs 63
    rw [show (2 : Nat) ^ 64 - ((x + y + c) % 18446744073709551616 + 1) = 18446744073709551615 - (x + y + c) % 18446744073709551616 by omega] at this
    rw [this]; simp
  rw [Nat.testBit_or, Nat.testBit_and, Nat.testBit_and, Nat.testBit_or, hn]
  have tx := top_bit hx
  have ty := top_bit hy
  have ts := top_bit hs
  cases hX : x.testBit 63 <;> cases hY : y.testBit 63 <;> cases hS : ((x + y + c) % 18446744073709551616).testBit 63 <;> rw [hX] at tx <;> rw [hY] at ty <;> rw [hS] at ts <;> simp at tx ty ts ⊢ <;> omega
theorem borrow64 {x y c : Nat} (hx : x < 18446744073709551616) (hy : y < 18446744073709551616) (hc : c ≤ 1) :
    (((18446744073709551615 - x) &&& y) ||| ((18446744073709551615 - (x ^^^ y)) &&& ((x + 36893488147419103232 - y - c) % 18446744073709551616))) / 9223372036854775808 = if x < y + c then 1 else 0 := by
  have hs : (x + 36893488147419103232 - y - c) % 18446744073709551616 < 18446744073709551616 := Nat.mod_lt _ (by decide)
  have h1 : ((18446744073709551615 - x) &&& y) < 2 ^ 64 := Nat.lt_of_le_of_lt Nat.and_le_right hy
  have h3 : ((18446744073709551615 - (x ^^^ y)) &&& ((x + 36893488147419103232 - y - c) % 18446744073709551616)) < 2 ^ 64 := Nat.lt_of_le_of_lt Nat.and_le_right hs
  have hxy : (x ^^^ y) < 2 ^ 64 := Nat.xor_lt_two_pow hx hy
  have h4 := Nat.or_lt_two_pow h1 h3
  rw [top_bit h4]
  have hn : (18446744073709551615 - x).testBit 63 = !x.testBit 63 := by
    have := Nat.testBit_two_pow_sub_succ (n := 64) (x := x) hx 63
    rw [show (2 : Nat) ^ 64 - (x + 1) = 18446744073709551615 - x by omega] at this
    rw [this]; simp
  have hn2 : (18446744073709551615 - (x ^^^ y)).testBit 63 = !(x ^^^ y).testBit 63 := by
    have := Nat.testBit_two_pow_sub_succ (n := 64) (x := x ^^^ y) hxy 63
    rw [show (2 : Nat) ^ 64 - ((x ^^^ y) + 1) = 18446744073709551615 - (x ^^^ y) by omega] at this
    rw [this]; simp
  rw [Nat.testBit_or, Nat.testBit_and, Nat.testBit_and, hn, hn2, Nat.testBit_xor]
  have tx := top_bit hx
  have ty := top_bit hy
  have ts := top_bit hs
  cases hX : x.testBit 63 <;> cases hY : y.testBit 63 <;> cases hS : ((x + 36893488147419103232 - y - c) % 18446744073709551616).testBit 63 <;> rw [hX] at tx <;> rw [hY] at ty <;> rw [hS] at ts <;> simp at tx ty ts ⊢ <;> omega
end Go.Fw

/-
Numbers of 256 bits as four parts of 64 bits, plain. No conditions.
-/
namespace Go.Fw
set_option linter.unusedVariables false
set_option linter.unusedSimpArgs false
set_option maxRecDepth 10000
set_option exponentiation.threshold 600

def n64 (x : Nat) : D := .int .u64 (x : Nat)
/-- A number of 256 bits, by its four parts. -/
def u4 (a b c d : Nat) : D := .arr 4 .one [n64 a, n64 b, n64 c, n64 d]
/-- Part j of a number. -/
def wd (n j : Nat) : Nat := n / 2 ^ (64 * j) % 18446744073709551616
theorem wd_lt (n j : Nat) : wd n j < 18446744073709551616 := Nat.mod_lt _ (by decide)
theorem wd0 (n : Nat) : wd n 0 = n % 18446744073709551616 := by unfold wd; simp
theorem wd1 (n : Nat) : wd n 1 = n / 18446744073709551616 % 18446744073709551616 := rfl
theorem wd2 (n : Nat) : wd n 2 = n / 340282366920938463463374607431768211456 % 18446744073709551616 := rfl
theorem wd3 (n : Nat) : wd n 3 = n / 6277101735386680763835789423207666416102355444464034512896 % 18446744073709551616 := rfl
theorem wd_bit (n j i : Nat) : (wd n j).testBit i = (decide (i < 64) && n.testBit (64 * j + i)) := by
  unfold wd
  rw [show (18446744073709551616 : Nat) = 2 ^ 64 from rfl, Nat.testBit_mod_two_pow, Nat.testBit_div_two_pow, Nat.add_comm]
/-- The parts of a number. -/
def parts (n : Nat) : List Int := [(wd n 0 : Int), (wd n 1 : Int), (wd n 2 : Int), (wd n 3 : Int)]
theorem parts_len (n : Nat) : (parts n).length = 4 := rfl
/-- A number of 256 bits as the machine has it. -/
def U (n : Nat) : D := .arr 4 .one ((parts n).map (.int .u64))
theorem U_u4 (n : Nat) : U n = u4 (wd n 0) (wd n 1) (wd n 2) (wd n 3) := rfl
theorem u4_U {a b c d : Nat} (ha : a < 18446744073709551616) (hb : b < 18446744073709551616) (hc : c < 18446744073709551616) (hd : d < 18446744073709551616) : u4 a b c d = U (a + b * 18446744073709551616 + c * 340282366920938463463374607431768211456 + d * 6277101735386680763835789423207666416102355444464034512896) := by
  rw [U_u4, wd0, wd1, wd2, wd3]
  have h0 : (a + b * 18446744073709551616 + c * 340282366920938463463374607431768211456 + d * 6277101735386680763835789423207666416102355444464034512896) % 18446744073709551616 = a := by omega
  have h1 : (a + b * 18446744073709551616 + c * 340282366920938463463374607431768211456 + d * 6277101735386680763835789423207666416102355444464034512896) / 18446744073709551616 % 18446744073709551616 = b := by omega
  have h2 : (a + b * 18446744073709551616 + c * 340282366920938463463374607431768211456 + d * 6277101735386680763835789423207666416102355444464034512896) / 340282366920938463463374607431768211456 % 18446744073709551616 = c := by omega
  have h3 : (a + b * 18446744073709551616 + c * 340282366920938463463374607431768211456 + d * 6277101735386680763835789423207666416102355444464034512896) / 6277101735386680763835789423207666416102355444464034512896 % 18446744073709551616 = d := by omega
  rw [h0, h1, h2, h3]
theorem wd_sum {n : Nat} (h : n < 115792089237316195423570985008687907853269984665640564039457584007913129639936) : n = wd n 0 + wd n 1 * 18446744073709551616 + wd n 2 * 340282366920938463463374607431768211456 + wd n 3 * 6277101735386680763835789423207666416102355444464034512896 := by
  rw [wd0, wd1, wd2, wd3]; omega
/-- The four parts of a number. -/
theorem U_split {n : Nat} (h : n < 115792089237316195423570985008687907853269984665640564039457584007913129639936) : ∃ a b c d, a < 18446744073709551616 ∧ b < 18446744073709551616 ∧ c < 18446744073709551616 ∧ d < 18446744073709551616 ∧ n = a + b * 18446744073709551616 + c * 340282366920938463463374607431768211456 + d * 6277101735386680763835789423207666416102355444464034512896 ∧ U n = u4 a b c d :=
  ⟨_, _, _, _, wd_lt n 0, wd_lt n 1, wd_lt n 2, wd_lt n 3, wd_sum h, U_u4 n⟩
theorem U_inj {a b : Nat} (ha : a < 115792089237316195423570985008687907853269984665640564039457584007913129639936) (hb : b < 115792089237316195423570985008687907853269984665640564039457584007913129639936) (h : parts a = parts b) : a = b := by
  unfold parts at h
  simp only [List.cons.injEq, Int.ofNat_inj] at h
  rw [wd_sum ha, wd_sum hb, h.1, h.2.1, h.2.2.1, h.2.2.2.1]
theorem parts_iff {a b : Nat} (ha : a < 115792089237316195423570985008687907853269984665640564039457584007913129639936) (hb : b < 115792089237316195423570985008687907853269984665640564039457584007913129639936) : parts a = parts b ↔ a = b := ⟨U_inj ha hb, fun h => by rw [h]⟩
theorem eqTC_U {cx : Cx} {t e : TypeId} {te ee : TyE} {n m m' : Nat} {s s' : Sh} {a b : Nat} (ht : cx.ty t = some te) (hty : te.ty = .arr n e) (he : cx.ty e = some ee) (hey : ee.ty = .int .u64) (ha : a < 115792089237316195423570985008687907853269984665640564039457584007913129639936) (hb : b < 115792089237316195423570985008687907853269984665640564039457584007913129639936) :
    eqTC cx t (.arr m s ((parts a).map (.int .u64))) (.arr m' s' ((parts b).map (.int .u64))) = some (chk (a = b)) := by
  rw [eqTC_ints (l := parts a) (l' := parts b) ht hty he hey rfl, chk_eq, chk_eq]
  congr 1
  rw [Bool.eq_iff_iff, decide_eq_true_iff, decide_eq_true_iff]
  exact parts_iff ha hb
theorem parts_zero : (parts 0).map (D.int .u64) = List.replicate 4 (.int .u64 0) := rfl
theorem eqTC_U0 {cx : Cx} {t e : TypeId} {te ee : TyE} {n m m' : Nat} {s s' : Sh} {a : Nat} (ht : cx.ty t = some te) (hty : te.ty = .arr n e) (he : cx.ty e = some ee) (hey : ee.ty = .int .u64) (ha : a < 115792089237316195423570985008687907853269984665640564039457584007913129639936) :
    eqTC cx t (.arr m s ((parts a).map (.int .u64))) (.arr m' s' (List.replicate 4 (.int .u64 0))) = some (chk (a = 0)) := by
  rw [← parts_zero]
  exact eqTC_U ht hty he hey ha (by omega)
/-- A number out of its parts' bits. -/
theorem wd_ext {n j w : Nat} (hw : w < 18446744073709551616) (h : ∀ i, i < 64 → w.testBit i = n.testBit (64 * j + i)) : w = wd n j := by
  refine Nat.eq_of_testBit_eq fun i => ?_
  rw [wd_bit]
  by_cases hi : i < 64
  · rw [h i hi, decide_eq_true hi]; rfl
  · rw [decide_eq_false hi]
    simp only [Bool.false_and]
    exact Nat.testBit_lt_two_pow (Nat.lt_of_lt_of_le hw (show (2:Nat) ^ 64 ≤ 2 ^ i from Nat.pow_le_pow_right (by decide) (by omega)))
theorem u4_wd {n a b c d : Nat} (h0 : a = wd n 0) (h1 : b = wd n 1) (h2 : c = wd n 2) (h3 : d = wd n 3) : u4 a b c d = U n := by
  rw [h0, h1, h2, h3]; rfl
theorem wd_mod (n : Nat) {j : Nat} (h : j < 4) : wd (n % 115792089237316195423570985008687907853269984665640564039457584007913129639936) j = wd n j := by
  match j, h with
  | 0, _ => rw [wd0, wd0]; omega
  | 1, _ => rw [wd1, wd1]; omega
  | 2, _ => rw [wd2, wd2]; omega
  | 3, _ => rw [wd3, wd3]; omega
theorem U_mod (n : Nat) : U (n % 115792089237316195423570985008687907853269984665640564039457584007913129639936) = U n := by
  rw [U_u4, U_u4, wd_mod n (by decide), wd_mod n (by decide), wd_mod n (by decide), wd_mod n (by decide)]
end Go.Fw

/-
Shifts, products and lengths of numbers in parts of 64 bits, plain. No conditions.
-/
namespace Go.Fw
set_option linter.unusedVariables false
set_option linter.unusedSimpArgs false
set_option maxRecDepth 10000
set_option exponentiation.threshold 600

/-! Words with bits -/
theorem bit_lt {w i : Nat} (h : w < 18446744073709551616) (hi : 64 ≤ i) : w.testBit i = false :=
  Nat.testBit_lt_two_pow (Nat.lt_of_lt_of_le h (show (2:Nat) ^ 64 ≤ 2 ^ i from Nat.pow_le_pow_right (by decide) hi))
theorem shlW64 {a : Nat} {n : Nat} (hn : n < 64) : shlW .u64 (a : Int) n = ((a * 2 ^ n % 18446744073709551616 : Nat) : Int) := by
  show IntKind.u64.wrap ((a : Int) * 2 ^ min n 64) = _
  rw [Nat.min_eq_left (by omega), wrap_u64, show (a : Int) * 2 ^ n = ((a * 2 ^ n : Nat) : Int) by push_cast; rfl]
  omega
theorem shlW64_big {a : Nat} {n : Nat} (hn : 64 ≤ n) : shlW .u64 (a : Int) n = 0 := by
  show IntKind.u64.wrap ((a : Int) * 2 ^ min n 64) = _
  rw [Nat.min_eq_right hn, wrap_u64]
  show (a : Int) * 18446744073709551616 % 18446744073709551616 = 0
  omega
/-- A part of a number shifted to the left by less than 64. -/
theorem wd_shl0 (n r : Nat) (hr : r < 64) (hn : 0 < 1) : wd (n * 2 ^ r) 0 = wd n 0 * 2 ^ r % 18446744073709551616 := by
  symm
  refine wd_ext (Nat.mod_lt _ (by decide)) fun i hi => ?_
  rw [show (18446744073709551616 : Nat) = 2 ^ 64 from rfl, Nat.testBit_mod_two_pow, Nat.testBit_mul_two_pow, Nat.testBit_mul_two_pow, wd_bit]
  by_cases h : r ≤ i
  · simp [h, hi, show i - r < 64 by omega]
  · simp [h]
theorem wd_shl (n r j : Nat) (hr : r < 64) (h0 : 0 < r) : wd (n * 2 ^ r) (j + 1) = wd n (j + 1) * 2 ^ r % 18446744073709551616 ||| wd n j / 2 ^ (64 - r) := by
  symm
  have hb : wd n j / 2 ^ (64 - r) < 18446744073709551616 := Nat.lt_of_le_of_lt (Nat.div_le_self _ _) (wd_lt n j)
  refine wd_ext (Nat.or_lt_two_pow (n := 64) (Nat.mod_lt _ (by decide)) hb) fun i hi => ?_
  rw [show (18446744073709551616 : Nat) = 2 ^ 64 from rfl, Nat.testBit_or, Nat.testBit_mod_two_pow, Nat.testBit_mul_two_pow, Nat.testBit_mul_two_pow, Nat.testBit_div_two_pow, wd_bit, wd_bit]
  by_cases h : r ≤ i
  · have h1 : ¬ (i + (64 - r) < 64) := by omega
    have h2 : r ≤ 64 * (j + 1) + i := by omega
    have h3 : i - r < 64 := by omega
    have h4 : 64 * (j + 1) + (i - r) = 64 * (j + 1) + i - r := by omega
    simp [h, hi, h1, h2, h3, h4]
  · have h1 : i + (64 - r) < 64 := by omega
    have h2 : r ≤ 64 * (j + 1) + i := by omega
    have h4 : 64 * j + (i + (64 - r)) = 64 * (j + 1) + i - r := by omega
    simp [h, h1, h2, h4]
theorem wd_up (n q j : Nat) : wd (n * 2 ^ (64 * q)) (j + q) = wd n j := by
  unfold wd
  rw [show 64 * (j + q) = 64 * j + 64 * q by omega, Nat.pow_add, Nat.mul_div_mul_right _ _ (Nat.two_pow_pos _)]
theorem wd_low (n q j : Nat) (h : j < q) : wd (n * 2 ^ (64 * q)) j = 0 := by
  unfold wd
  rw [show 64 * q = 64 * (q - j) + 64 * j by omega, Nat.pow_add, ← Nat.mul_assoc, Nat.mul_div_cancel _ (Nat.two_pow_pos _), show 64 * (q - j) = 64 * (q - j - 1) + 64 by omega, Nat.pow_add, ← Nat.mul_assoc]
  exact Nat.mul_mod_left _ _
/-- A part of a number shifted to the right by less than 64. -/
theorem wd_shr (n r j : Nat) (hr : r < 64) (h0 : 0 < r) : wd (n / 2 ^ r) j = wd n j / 2 ^ r ||| wd n (j + 1) * 2 ^ (64 - r) % 18446744073709551616 := by
  symm
  have hb : wd n j / 2 ^ r < 18446744073709551616 := Nat.lt_of_le_of_lt (Nat.div_le_self _ _) (wd_lt n j)
  refine wd_ext (Nat.or_lt_two_pow (n := 64) hb (Nat.mod_lt _ (by decide))) fun i hi => ?_
  rw [show (18446744073709551616 : Nat) = 2 ^ 64 from rfl, Nat.testBit_or, Nat.testBit_mod_two_pow, Nat.testBit_mul_two_pow, Nat.testBit_div_two_pow, Nat.testBit_div_two_pow, wd_bit, wd_bit]
  by_cases h : 64 - r ≤ i
  · have h1 : ¬ (i + r < 64) := by omega
    have h3 : i - (64 - r) < 64 := by omega
    have h4 : 64 * (j + 1) + (i - (64 - r)) = 64 * j + i + r := by omega
    simp [h, hi, h1, h3, h4]
  · have h1 : i + r < 64 := by omega
    have h4 : 64 * j + (i + r) = 64 * j + i + r := by omega
    simp [h, h1, h4]
theorem wd_down (n q j : Nat) : wd (n / 2 ^ (64 * q)) j = wd n (j + q) := by
  unfold wd
  rw [Nat.div_div_eq_div_mul, ← Nat.pow_add]
  congr 3; omega
theorem wd_big {n : Nat} (h : n < 115792089237316195423570985008687907853269984665640564039457584007913129639936) {j : Nat} (hj : 4 ≤ j) : wd n j = 0 := by
  unfold wd
  rw [Nat.div_eq_of_lt (Nat.lt_of_lt_of_le h (show (2:Nat) ^ 256 ≤ 2 ^ (64 * j) from Nat.pow_le_pow_right (by decide) (by omega)))]

/-! The number of bits -/
def nlen (n : Nat) : Nat := if n = 0 then 0 else Nat.log2 n + 1
theorem nlen_zero : nlen 0 = 0 := rfl
theorem nlen_iff {n k : Nat} : nlen n ≤ k ↔ n < 2 ^ k := by
  unfold nlen
  by_cases h : n = 0
  · subst h; simp [Nat.two_pow_pos]
  · rw [if_neg h, Nat.succ_le_iff, Nat.log2_lt h]
theorem nlen_lt (n : Nat) : n < 2 ^ nlen n := nlen_iff.1 (Nat.le_refl _)
theorem nlen_le {n : Nat} (h : n ≠ 0) : 2 ^ (nlen n - 1) ≤ n := by
  have : nlen n ≠ 0 := by unfold nlen; rw [if_neg h]; omega
  have h2 : ¬ (n < 2 ^ (nlen n - 1)) := fun h3 => by have := nlen_iff.2 h3; omega
  omega
theorem nlen_eq {n k : Nat} (h1 : 2 ^ k ≤ n) (h2 : n < 2 ^ (k + 1)) : nlen n = k + 1 := by
  have a : nlen n ≤ k + 1 := nlen_iff.2 h2
  have b : ¬ (nlen n ≤ k) := fun h => by have := nlen_iff.1 h; omega
  omega
theorem nlen_mono {a b : Nat} (h : a ≤ b) : nlen a ≤ nlen b := nlen_iff.2 (Nat.lt_of_le_of_lt h (nlen_lt b))
/-- The length of a number with more bits above. -/
theorem nlen_add {a b k : Nat} (hb : b < 2 ^ k) (ha : a ≠ 0) : nlen (b + a * 2 ^ k) = nlen a + k := by
  have h1 := nlen_lt a
  have h2 := nlen_le ha
  have h3 : nlen a ≠ 0 := by unfold nlen; rw [if_neg ha]; omega
  have e : nlen a + k = (nlen a - 1 + k) + 1 := by omega
  rw [e]
  refine nlen_eq ?_ ?_
  · rw [Nat.pow_add]
    exact Nat.le_trans (Nat.mul_le_mul_right _ h2) (Nat.le_add_left _ _)
  · rw [show nlen a - 1 + k + 1 = nlen a + k by omega, Nat.pow_add]
    have : (a + 1) * 2 ^ k ≤ 2 ^ nlen a * 2 ^ k := Nat.mul_le_mul_right _ h1
    rw [Nat.add_mul] at this
    omega

/-! Products row by row -/
theorem mul_row {a b0 b1 b2 b3 p0 p1 p2 p3 l0 l1 l2 l3 h0 h1 h2 h3 : Nat} (e0 : l0 + h0 * 18446744073709551616 = a * b0 + p0 + 0) (e1 : l1 + h1 * 18446744073709551616 = a * b1 + p1 + h0) (e2 : l2 + h2 * 18446744073709551616 = a * b2 + p2 + h1) (e3 : l3 + h3 * 18446744073709551616 = a * b3 + p3 + h2) :
    l0 + l1 * 18446744073709551616 + l2 * 340282366920938463463374607431768211456 + l3 * 6277101735386680763835789423207666416102355444464034512896 + h3 * 115792089237316195423570985008687907853269984665640564039457584007913129639936 = a * (b0 + b1 * 18446744073709551616 + b2 * 340282366920938463463374607431768211456 + b3 * 6277101735386680763835789423207666416102355444464034512896) + (p0 + p1 * 18446744073709551616 + p2 * 340282366920938463463374607431768211456 + p3 * 6277101735386680763835789423207666416102355444464034512896) := by
  rw [Nat.mul_add, Nat.mul_add, Nat.mul_add, ← Nat.mul_assoc, ← Nat.mul_assoc, ← Nat.mul_assoc]
  generalize a * b0 = x0 at *
  generalize a * b1 = x1 at *
  generalize a * b2 = x2 at *
  generalize a * b3 = x3 at *
  omega
theorem mul_rows {a0 a1 a2 a3 b : Nat} {r0 r1 r2 r3 s0 s1 s2 s3 : Nat} {x1 x2 x3 : Nat} (e0 : s0 = a0 * b + 0) (h0 : s0 = r0 + x1 * 18446744073709551616) (e1 : s1 = a1 * b + x1) (h1 : s1 = r1 + x2 * 18446744073709551616) (e2 : s2 = a2 * b + x2) (h2 : s2 = r2 + x3 * 18446744073709551616) (e3 : s3 = a3 * b + x3) :
    (a0 + a1 * 18446744073709551616 + a2 * 340282366920938463463374607431768211456 + a3 * 6277101735386680763835789423207666416102355444464034512896) * b = r0 + r1 * 18446744073709551616 + r2 * 340282366920938463463374607431768211456 + s3 * 6277101735386680763835789423207666416102355444464034512896 := by
  rw [Nat.add_mul, Nat.add_mul, Nat.add_mul, Nat.mul_right_comm, Nat.mul_right_comm a2, Nat.mul_right_comm a3]
  generalize a0 * b = y0 at *
  generalize a1 * b = y1 at *
  generalize a2 * b = y2 at *
  generalize a3 * b = y3 at *
  omega
theorem mac_lt {x y p c : Nat} (hx : x < 18446744073709551616) (hy : y < 18446744073709551616) (hp : p < 18446744073709551616) (hc : c < 18446744073709551616) : x * y + p + c < 340282366920938463463374607431768211456 := by
  have : x * y ≤ 18446744073709551615 * 18446744073709551615 := Nat.mul_le_mul (by omega) (by omega)
  omega

/-! Long division, bit by bit -/
theorem div_step {Y b q r t : Nat} (hb : 0 < b) (ht : t < 2) (hq : q = Y / b) (hr : r = Y % b) :
    (2 * Y + t) / b = 2 * q + (if b ≤ 2 * r + t then 1 else 0) ∧ (2 * Y + t) % b = if b ≤ 2 * r + t then 2 * r + t - b else 2 * r + t := by
  have h1 := Nat.div_add_mod Y b
  have h2 := Nat.mod_lt Y hb
  rw [← hq, ← hr] at h1
  rw [← hr] at h2
  have e : 2 * Y + t = b * (2 * q) + (2 * r + t) := by rw [← h1, ← Nat.mul_assoc, Nat.mul_comm b 2, Nat.mul_assoc, ]; omega
  by_cases h : b ≤ 2 * r + t
  · rw [if_pos h, if_pos h]
    have e2 : 2 * Y + t = (2 * r + t - b) + b * (2 * q + 1) := by rw [e, Nat.mul_add, Nat.mul_one]; omega
    rw [e2]
    exact ⟨by rw [Nat.add_mul_div_left _ _ hb, Nat.div_eq_of_lt (by omega)]; omega, by rw [Nat.add_mul_mod_self_left, Nat.mod_eq_of_lt (by omega)]⟩
  · rw [if_neg h, if_neg h, e, Nat.add_comm]
    exact ⟨by rw [Nat.add_mul_div_left _ _ hb, Nat.div_eq_of_lt (by omega)]; omega, by rw [Nat.add_mul_mod_self_left, Nat.mod_eq_of_lt (by omega)]⟩
theorem div_next (X i : Nat) : X / 2 ^ i = 2 * (X / 2 ^ (i + 1)) + (X.testBit i).toNat := by
  have h := Nat.toNat_testBit X i
  rw [h, Nat.pow_succ, ← Nat.div_div_eq_div_mul]
  omega
end Go.Fw

/-
Contracts of sums with carries and differences with borrows: the model answers these calls itself. No conditions.
-/
namespace Go.Fw
set_option linter.unusedVariables false
set_option linter.unusedSimpArgs false
open Go.Proofs
set_option maxRecDepth 10000
theorem rd1_int {w : World} {far : Nat → Prop} {k : IntKind} {n : Int} {c : Value} (h : RD1 w far (.int k n) c) : c = .int k n := by
  obtain ⟨cells, hr, rfl⟩ := h
  cases hr
  rfl
theorem int_rd1 (w : World) (far : Nat → Prop) (k : IntKind) (n : Int) : RD1 w far (.int k n) (.int k n) := ⟨[.int k n], .int k n, rfl⟩
theorem rd_two (w : World) (far : Nat → Prop) (k l : IntKind) (n m : Int) : RD w far (.tup [.int k n, .int l m]) (.tuple #[.int k n, .int l m]) := by
  refine ⟨[.int k n, .int l m], rfl, rfl, fun i x c h1 h2 => ?_⟩
  match i, h1, h2 with
  | 0, h1, h2 => cases h1; cases h2; exact int_rd1 _ _ _ _
  | 1, h1, h2 => cases h1; cases h2; exact int_rd1 _ _ _ _
  | i + 2, h1, h2 => simp at h1
theorem ret_Add64 (x y c : Nat) (hc : c ≤ 1) :
    Returns cx n_bits_Add64 [n64 x, n64 y, n64 c] (.tup [n64 ((x + y + c) % 18446744073709551616), n64 ((x + y + c) / 18446744073709551616)]) := by
  have hf : cx.P.funcs[n_bits_Add64]? = some f_bits_Add64 := by kernel_rfl
  refine .inr ⟨fun fn h => ?_, fun w cargs far hl hargs => ?_⟩
  · rw [hf] at h; cases h; kernel_rfl
  · match cargs, hl with
    | [a, b, d], _ =>
      obtain rfl := rd1_int (hargs 0 _ a rfl rfl)
      obtain rfl := rd1_int (hargs 1 _ b rfl rfl)
      obtain rfl := rd1_int (hargs 2 _ d rfl rfl)
      refine ⟨.tuple #[.int .u64 (((x + y + c) % 18446744073709551616 : Nat) : Int), .int .u64 (((x + y + c) / 18446744073709551616 : Nat) : Int)], ?_, ?_⟩
      · rw [run_callFunc_extern hf (by kernel_rfl) (by kernel_rfl) (by kernel_rfl) (e := add64Entry) (by kernel_rfl)]
        have : c = 0 ∨ c = 1 := by omega
        rcases this with rfl | rfl <;> rfl
      · exact rd_two _ _ _ _ _ _
theorem ret_Sub64 (x y c : Nat) (hc : c ≤ 1) :
    Returns cx n_bits_Sub64 [n64 x, n64 y, n64 c] (.tup [n64 ((x + 18446744073709551616 - y - c) % 18446744073709551616), n64 (if x < y + c then 1 else 0)]) := by
  have hf : cx.P.funcs[n_bits_Sub64]? = some f_bits_Sub64 := by kernel_rfl
  refine .inr ⟨fun fn h => ?_, fun w cargs far hl hargs => ?_⟩
  · rw [hf] at h; cases h; kernel_rfl
  · match cargs, hl with
    | [a, b, d], _ =>
      obtain rfl := rd1_int (hargs 0 _ a rfl rfl)
      obtain rfl := rd1_int (hargs 1 _ b rfl rfl)
      obtain rfl := rd1_int (hargs 2 _ d rfl rfl)
      refine ⟨.tuple #[.int .u64 (((x + 18446744073709551616 - y - c) % 18446744073709551616 : Nat) : Int), .int .u64 ((if x < y + c then 1 else 0 : Nat) : Int)], ?_, ?_⟩
      · rw [run_callFunc_extern hf (by kernel_rfl) (by kernel_rfl) (by kernel_rfl) (e := sub64Entry) (by kernel_rfl)]
        have : c = 0 ∨ c = 1 := by omega
        rcases this with rfl | rfl <;> rfl
      · exact rd_two _ _ _ _ _ _

theorem iter_go {F : Tr2} {n : Nat} {l : List V} {H : Heap} (h : F l H (iterW2 F n)) : iterW2 F (n + 1) l H := ⟨l, H, rfl, .refl _ _, h⟩
def sm (x y c : Nat) : Nat := (x + y + c) % 18446744073709551616
def cr (x y c : Nat) : Nat := (x + y + c) / 18446744073709551616
theorem cr_le {x y c : Nat} (hx : x < 18446744073709551616) (hy : y < 18446744073709551616) (hc : c ≤ 1) : cr x y c ≤ 1 := by unfold cr; omega
theorem ret_Add64' (x y c : Nat) (hc : c ≤ 1) : Returns cx n_bits_Add64 [n64 x, n64 y, n64 c] (.tup [n64 (sm x y c), n64 (cr x y c)]) := ret_Add64 x y c hc
def ad4 (a0 a1 a2 a3 b0 b1 b2 b3 : Nat) : D := u4 (sm a0 b0 0) (sm a1 b1 (cr a0 b0 0)) (sm a2 b2 (cr a1 b1 (cr a0 b0 0))) (sm a3 b3 (cr a2 b2 (cr a1 b1 (cr a0 b0 0))))
def ac4 (a0 a1 a2 a3 b0 b1 b2 b3 : Nat) : Nat := cr a3 b3 (cr a2 b2 (cr a1 b1 (cr a0 b0 0)))
theorem ret_Add (a0 a1 a2 a3 b0 b1 b2 b3 : Nat) (ha0 : a0 < 18446744073709551616) (ha1 : a1 < 18446744073709551616) (ha2 : a2 < 18446744073709551616)
    (hb0 : b0 < 18446744073709551616) (hb1 : b1 < 18446744073709551616) (hb2 : b2 < 18446744073709551616) :
    Returns cx n_wide_Add [u4 a0 a1 a2 a3, u4 b0 b1 b2 b3] (.tup [ad4 a0 a1 a2 a3 b0 b1 b2 b3, .bool (decide (ac4 a0 a1 a2 a3 b0 b1 b2 b3 ≠ 0))]) := by
  have h1 : cr a0 b0 0 ≤ 1 := cr_le ha0 hb0 (by omega)
  have h2 := cr_le ha1 hb1 h1
  have h3 := cr_le ha2 hb2 h2
  unfold ad4 ac4
  (refine of_W2 (fn := f_wide_Add) {} (by kernel_rfl) (by kernel_rfl) (by kernel_rfl) (by kernel_rfl) (by kernel_rfl) ?_)
  ((try (conv => whnf)); (repeat ((first | (refine br_true ?_ ?_; (focus (exact yesA))) | (refine br_false ?_ ?_; (focus (exact noA))) | (refine onS_map ?_ ?_; (focus (exact numA))) | (refine onS_intro (eqTC_ints rfl rfl rfl rfl ?_) ?_; (focus (exact numA))) | refine onS_intro (mapB_u8s _) ?_ | (refine And.intro ?_ ?_; (focus (exact flatA)))); (try (conv => whnf)))))
  refine LoopW2_n 5 (iter_go ?_)
  ((try (conv => whnf)); (repeat ((first | (refine br_true ?_ ?_; (focus (exact yesA))) | (refine br_false ?_ ?_; (focus (exact noA))) | (refine onS_map ?_ ?_; (focus (exact numA))) | (refine onS_intro (eqTC_ints rfl rfl rfl rfl ?_) ?_; (focus (exact numA))) | refine onS_intro (mapB_u8s _) ?_ | (refine And.intro ?_ ?_; (focus (exact flatA)))); (try (conv => whnf)))))
  ((first | refine call_intro (ret_Add64' a0 b0 0 (by omega)) (les_refl _) ?_ | refine call_intro (ret_Add64' a0 b0 0 (by omega)) lesA ?_); (try (conv => whnf)))
  generalize sm a0 b0 0 = s0
  generalize cr a0 b0 0 = c0 at *
  ((try (conv => whnf)); (repeat ((first | (refine br_true ?_ ?_; (focus (exact yesA))) | (refine br_false ?_ ?_; (focus (exact noA))) | (refine onS_map ?_ ?_; (focus (exact numA))) | (refine onS_intro (eqTC_ints rfl rfl rfl rfl ?_) ?_; (focus (exact numA))) | refine onS_intro (mapB_u8s _) ?_ | (refine And.intro ?_ ?_; (focus (exact flatA)))); (try (conv => whnf)))))
  refine ⟨_, _, rfl, .refl _ _, ?_⟩
  ((try (conv => whnf)); (repeat ((first | (refine br_true ?_ ?_; (focus (exact yesA))) | (refine br_false ?_ ?_; (focus (exact noA))) | (refine onS_map ?_ ?_; (focus (exact numA))) | (refine onS_intro (eqTC_ints rfl rfl rfl rfl ?_) ?_; (focus (exact numA))) | refine onS_intro (mapB_u8s _) ?_ | (refine And.intro ?_ ?_; (focus (exact flatA)))); (try (conv => whnf)))))
  ((first | refine call_intro (ret_Add64' a1 b1 c0 h1) (les_refl _) ?_ | refine call_intro (ret_Add64' a1 b1 c0 h1) lesA ?_); (try (conv => whnf)))
  generalize sm a1 b1 c0 = s1
  generalize cr a1 b1 c0 = c1 at *
  ((try (conv => whnf)); (repeat ((first | (refine br_true ?_ ?_; (focus (exact yesA))) | (refine br_false ?_ ?_; (focus (exact noA))) | (refine onS_map ?_ ?_; (focus (exact numA))) | (refine onS_intro (eqTC_ints rfl rfl rfl rfl ?_) ?_; (focus (exact numA))) | refine onS_intro (mapB_u8s _) ?_ | (refine And.intro ?_ ?_; (focus (exact flatA)))); (try (conv => whnf)))))
  refine ⟨_, _, rfl, .refl _ _, ?_⟩
  ((try (conv => whnf)); (repeat ((first | (refine br_true ?_ ?_; (focus (exact yesA))) | (refine br_false ?_ ?_; (focus (exact noA))) | (refine onS_map ?_ ?_; (focus (exact numA))) | (refine onS_intro (eqTC_ints rfl rfl rfl rfl ?_) ?_; (focus (exact numA))) | refine onS_intro (mapB_u8s _) ?_ | (refine And.intro ?_ ?_; (focus (exact flatA)))); (try (conv => whnf)))))
  ((first | refine call_intro (ret_Add64' a2 b2 c1 h2) (les_refl _) ?_ | refine call_intro (ret_Add64' a2 b2 c1 h2) lesA ?_); (try (conv => whnf)))
  generalize sm a2 b2 c1 = s2
  generalize cr a2 b2 c1 = c2 at *
  ((try (conv => whnf)); (repeat ((first | (refine br_true ?_ ?_; (focus (exact yesA))) | (refine br_false ?_ ?_; (focus (exact noA))) | (refine onS_map ?_ ?_; (focus (exact numA))) | (refine onS_intro (eqTC_ints rfl rfl rfl rfl ?_) ?_; (focus (exact numA))) | refine onS_intro (mapB_u8s _) ?_ | (refine And.intro ?_ ?_; (focus (exact flatA)))); (try (conv => whnf)))))
  refine ⟨_, _, rfl, .refl _ _, ?_⟩
  ((try (conv => whnf)); (repeat ((first | (refine br_true ?_ ?_; (focus (exact yesA))) | (refine br_false ?_ ?_; (focus (exact noA))) | (refine onS_map ?_ ?_; (focus (exact numA))) | (refine onS_intro (eqTC_ints rfl rfl rfl rfl ?_) ?_; (focus (exact numA))) | refine onS_intro (mapB_u8s _) ?_ | (refine And.intro ?_ ?_; (focus (exact flatA)))); (try (conv => whnf)))))
  ((first | refine call_intro (ret_Add64' a3 b3 c2 h3) (les_refl _) ?_ | refine call_intro (ret_Add64' a3 b3 c2 h3) lesA ?_); (try (conv => whnf)))
  generalize sm a3 b3 c2 = s3
  generalize cr a3 b3 c2 = c3 at *
  ((try (conv => whnf)); (repeat ((first | (refine br_true ?_ ?_; (focus (exact yesA))) | (refine br_false ?_ ?_; (focus (exact noA))) | (refine onS_map ?_ ?_; (focus (exact numA))) | (refine onS_intro (eqTC_ints rfl rfl rfl rfl ?_) ?_; (focus (exact numA))) | refine onS_intro (mapB_u8s _) ?_ | (refine And.intro ?_ ?_; (focus (exact flatA)))); (try (conv => whnf)))))
  refine ⟨_, _, rfl, .refl _ _, ?_⟩
  ((try (conv => whnf)); (repeat ((first | (refine br_true ?_ ?_; (focus (exact yesA))) | (refine br_false ?_ ?_; (focus (exact noA))) | (refine onS_map ?_ ?_; (focus (exact numA))) | (refine onS_intro (eqTC_ints rfl rfl rfl rfl ?_) ?_; (focus (exact numA))) | refine onS_intro (mapB_u8s _) ?_ | (refine And.intro ?_ ?_; (focus (exact flatA)))); (try (conv => whnf)))))
  rw [show chk ((c3 : Int) ≠ 0) = decide (c3 ≠ 0) by rw [chk_eq, Bool.eq_iff_iff]; simp]
  exact D.le.refl _
def df (x y c : Nat) : Nat := (x + 18446744073709551616 - y - c) % 18446744073709551616
def bw (x y c : Nat) : Nat := if x < y + c then 1 else 0
theorem bw_le {x y c : Nat} (hx : x < 18446744073709551616) (hy : y < 18446744073709551616) (hc : c ≤ 1) : bw x y c ≤ 1 := by unfold bw; split <;> omega
theorem ret_Sub64' (x y c : Nat) (hc : c ≤ 1) : Returns cx n_bits_Sub64 [n64 x, n64 y, n64 c] (.tup [n64 (df x y c), n64 (bw x y c)]) := ret_Sub64 x y c hc
def sb4 (a0 a1 a2 a3 b0 b1 b2 b3 : Nat) : D := u4 (df a0 b0 0) (df a1 b1 (bw a0 b0 0)) (df a2 b2 (bw a1 b1 (bw a0 b0 0))) (df a3 b3 (bw a2 b2 (bw a1 b1 (bw a0 b0 0))))
def bc4 (a0 a1 a2 a3 b0 b1 b2 b3 : Nat) : Nat := bw a3 b3 (bw a2 b2 (bw a1 b1 (bw a0 b0 0)))
theorem ret_Sub (a0 a1 a2 a3 b0 b1 b2 b3 : Nat) (ha0 : a0 < 18446744073709551616) (ha1 : a1 < 18446744073709551616) (ha2 : a2 < 18446744073709551616)
    (hb0 : b0 < 18446744073709551616) (hb1 : b1 < 18446744073709551616) (hb2 : b2 < 18446744073709551616) :
    Returns cx n_wide_Sub [u4 a0 a1 a2 a3, u4 b0 b1 b2 b3] (.tup [sb4 a0 a1 a2 a3 b0 b1 b2 b3, .bool (decide (bc4 a0 a1 a2 a3 b0 b1 b2 b3 ≠ 0))]) := by
  have h1 : bw a0 b0 0 ≤ 1 := bw_le ha0 hb0 (by omega)
  have h2 := bw_le ha1 hb1 h1
  have h3 := bw_le ha2 hb2 h2
  unfold sb4 bc4
  (refine of_W2 (fn := f_wide_Sub) {} (by kernel_rfl) (by kernel_rfl) (by kernel_rfl) (by kernel_rfl) (by kernel_rfl) ?_)
  ((try (conv => whnf)); (repeat ((first | (refine br_true ?_ ?_; (focus (exact yesA))) | (refine br_false ?_ ?_; (focus (exact noA))) | (refine onS_map ?_ ?_; (focus (exact numA))) | (refine onS_intro (eqTC_ints rfl rfl rfl rfl ?_) ?_; (focus (exact numA))) | refine onS_intro (mapB_u8s _) ?_ | (refine And.intro ?_ ?_; (focus (exact flatA)))); (try (conv => whnf)))))
  refine LoopW2_n 5 (iter_go ?_)
  ((try (conv => whnf)); (repeat ((first | (refine br_true ?_ ?_; (focus (exact yesA))) | (refine br_false ?_ ?_; (focus (exact noA))) | (refine onS_map ?_ ?_; (focus (exact numA))) | (refine onS_intro (eqTC_ints rfl rfl rfl rfl ?_) ?_; (focus (exact numA))) | refine onS_intro (mapB_u8s _) ?_ | (refine And.intro ?_ ?_; (focus (exact flatA)))); (try (conv => whnf)))))
  ((first | refine call_intro (ret_Sub64' a0 b0 0 (by omega)) (les_refl _) ?_ | refine call_intro (ret_Sub64' a0 b0 0 (by omega)) lesA ?_); (try (conv => whnf)))
  generalize df a0 b0 0 = s0
  generalize bw a0 b0 0 = c0 at *
  ((try (conv => whnf)); (repeat ((first | (refine br_true ?_ ?_; (focus (exact yesA))) | (refine br_false ?_ ?_; (focus (exact noA))) | (refine onS_map ?_ ?_; (focus (exact numA))) | (refine onS_intro (eqTC_ints rfl rfl rfl rfl ?_) ?_; (focus (exact numA))) | refine onS_intro (mapB_u8s _) ?_ | (refine And.intro ?_ ?_; (focus (exact flatA)))); (try (conv => whnf)))))
  refine ⟨_, _, rfl, .refl _ _, ?_⟩
  ((try (conv => whnf)); (repeat ((first | (refine br_true ?_ ?_; (focus (exact yesA))) | (refine br_false ?_ ?_; (focus (exact noA))) | (refine onS_map ?_ ?_; (focus (exact numA))) | (refine onS_intro (eqTC_ints rfl rfl rfl rfl ?_) ?_; (focus (exact numA))) | refine onS_intro (mapB_u8s _) ?_ | (refine And.intro ?_ ?_; (focus (exact flatA)))); (try (conv => whnf)))))
  ((first | refine call_intro (ret_Sub64' a1 b1 c0 h1) (les_refl _) ?_ | refine call_intro (ret_Sub64' a1 b1 c0 h1) lesA ?_); (try (conv => whnf)))
  generalize df a1 b1 c0 = s1
  generalize bw a1 b1 c0 = c1 at *
  ((try (conv => whnf)); (repeat ((first | (refine br_true ?_ ?_; (focus (exact yesA))) | (refine br_false ?_ ?_; (focus (exact noA))) | (refine onS_map ?_ ?_; (focus (exact numA))) | (refine onS_intro (eqTC_ints rfl rfl rfl rfl ?_) ?_; (focus (exact numA))) | refine onS_intro (mapB_u8s _) ?_ | (refine And.intro ?_ ?_; (focus (exact flatA)))); (try (conv => whnf)))))
  refine ⟨_, _, rfl, .refl _ _, ?_⟩
  ((try (conv => whnf)); (repeat ((first | (refine br_true ?_ ?_; (focus (exact yesA))) | (refine br_false ?_ ?_; (focus (exact noA))) | (refine onS_map ?_ ?_; (focus (exact numA))) | (refine onS_intro (eqTC_ints rfl rfl rfl rfl ?_) ?_; (focus (exact numA))) | refine onS_intro (mapB_u8s _) ?_ | (refine And.intro ?_ ?_; (focus (exact flatA)))); (try (conv => whnf)))))
  ((first | refine call_intro (ret_Sub64' a2 b2 c1 h2) (les_refl _) ?_ | refine call_intro (ret_Sub64' a2 b2 c1 h2) lesA ?_); (try (conv => whnf)))
  generalize df a2 b2 c1 = s2
  generalize bw a2 b2 c1 = c2 at *
  ((try (conv => whnf)); (repeat ((first | (refine br_true ?_ ?_; (focus (exact yesA))) | (refine br_false ?_ ?_; (focus (exact noA))) | (refine onS_map ?_ ?_; (focus (exact numA))) | (refine onS_intro (eqTC_ints rfl rfl rfl rfl ?_) ?_; (focus (exact numA))) | refine onS_intro (mapB_u8s _) ?_ | (refine And.intro ?_ ?_; (focus (exact flatA)))); (try (conv => whnf)))))
  refine ⟨_, _, rfl, .refl _ _, ?_⟩
  ((try (conv => whnf)); (repeat ((first | (refine br_true ?_ ?_; (focus (exact yesA))) | (refine br_false ?_ ?_; (focus (exact noA))) | (refine onS_map ?_ ?_; (focus (exact numA))) | (refine onS_intro (eqTC_ints rfl rfl rfl rfl ?_) ?_; (focus (exact numA))) | refine onS_intro (mapB_u8s _) ?_ | (refine And.intro ?_ ?_; (focus (exact flatA)))); (try (conv => whnf)))))
  ((first | refine call_intro (ret_Sub64' a3 b3 c2 h3) (les_refl _) ?_ | refine call_intro (ret_Sub64' a3 b3 c2 h3) lesA ?_); (try (conv => whnf)))
  generalize df a3 b3 c2 = s3
  generalize bw a3 b3 c2 = c3 at *
  ((try (conv => whnf)); (repeat ((first | (refine br_true ?_ ?_; (focus (exact yesA))) | (refine br_false ?_ ?_; (focus (exact noA))) | (refine onS_map ?_ ?_; (focus (exact numA))) | (refine onS_intro (eqTC_ints rfl rfl rfl rfl ?_) ?_; (focus (exact numA))) | refine onS_intro (mapB_u8s _) ?_ | (refine And.intro ?_ ?_; (focus (exact flatA)))); (try (conv => whnf)))))
  refine ⟨_, _, rfl, .refl _ _, ?_⟩
  ((try (conv => whnf)); (repeat ((first | (refine br_true ?_ ?_; (focus (exact yesA))) | (refine br_false ?_ ?_; (focus (exact noA))) | (refine onS_map ?_ ?_; (focus (exact numA))) | (refine onS_intro (eqTC_ints rfl rfl rfl rfl ?_) ?_; (focus (exact numA))) | refine onS_intro (mapB_u8s _) ?_ | (refine And.intro ?_ ?_; (focus (exact flatA)))); (try (conv => whnf)))))
  rw [show chk ((c3 : Int) ≠ 0) = decide (c3 ≠ 0) by rw [chk_eq, Bool.eq_iff_iff]; simp]
  exact D.le.refl _

/-- What a comparison answers. -/
def cm (a b : Nat) (r : Int) : Int := if a < b then -1 else if b < a then 1 else r
theorem ret_Cmp (a0 a1 a2 a3 b0 b1 b2 b3 : Nat) : Returns cx n_wide_Cmp [u4 a0 a1 a2 a3, u4 b0 b1 b2 b3] (.int .i64 (cm a3 b3 (cm a2 b2 (cm a1 b1 (cm a0 b0 0))))) := by
  (refine of_W2 (fn := f_wide_Cmp) {} (by kernel_rfl) (by kernel_rfl) (by kernel_rfl) (by kernel_rfl) (by kernel_rfl) ?_)
  unfold cm
  ((try (conv => whnf)); (repeat ((first | (refine br_true ?_ ?_; (focus (exact yesA))) | (refine br_false ?_ ?_; (focus (exact noA))) | (refine onS_map ?_ ?_; (focus (exact numA))) | (refine onS_intro (eqTC_ints rfl rfl rfl rfl ?_) ?_; (focus (exact numA))) | refine onS_intro (mapB_u8s _) ?_ | (refine And.intro ?_ ?_; (focus (exact flatA)))); (try (conv => whnf)))))
  refine LoopW2_n 5 (iter_go ?_)
  by_cases l3 : a3 < b3
  · rw [if_pos l3]
    ((try (conv => whnf)); (repeat ((first | (refine br_true ?_ ?_; (focus (exact yesA))) | (refine br_false ?_ ?_; (focus (exact noA))) | (refine onS_map ?_ ?_; (focus (exact numA))) | (refine onS_intro (eqTC_ints rfl rfl rfl rfl ?_) ?_; (focus (exact numA))) | refine onS_intro (mapB_u8s _) ?_ | (refine And.intro ?_ ?_; (focus (exact flatA)))); (try (conv => whnf)))))
    exact D.le.refl _
  rw [if_neg l3]
  by_cases g3 : b3 < a3
  · rw [if_pos g3]
    ((try (conv => whnf)); (repeat ((first | (refine br_true ?_ ?_; (focus (exact yesA))) | (refine br_false ?_ ?_; (focus (exact noA))) | (refine onS_map ?_ ?_; (focus (exact numA))) | (refine onS_intro (eqTC_ints rfl rfl rfl rfl ?_) ?_; (focus (exact numA))) | refine onS_intro (mapB_u8s _) ?_ | (refine And.intro ?_ ?_; (focus (exact flatA)))); (try (conv => whnf)))))
    exact D.le.refl _
  rw [if_neg g3]
  ((try (conv => whnf)); (repeat ((first | (refine br_true ?_ ?_; (focus (exact yesA))) | (refine br_false ?_ ?_; (focus (exact noA))) | (refine onS_map ?_ ?_; (focus (exact numA))) | (refine onS_intro (eqTC_ints rfl rfl rfl rfl ?_) ?_; (focus (exact numA))) | refine onS_intro (mapB_u8s _) ?_ | (refine And.intro ?_ ?_; (focus (exact flatA)))); (try (conv => whnf)))))
  refine ⟨_, _, rfl, .refl _ _, ?_⟩
  by_cases l2 : a2 < b2
  · rw [if_pos l2]
    ((try (conv => whnf)); (repeat ((first | (refine br_true ?_ ?_; (focus (exact yesA))) | (refine br_false ?_ ?_; (focus (exact noA))) | (refine onS_map ?_ ?_; (focus (exact numA))) | (refine onS_intro (eqTC_ints rfl rfl rfl rfl ?_) ?_; (focus (exact numA))) | refine onS_intro (mapB_u8s _) ?_ | (refine And.intro ?_ ?_; (focus (exact flatA)))); (try (conv => whnf)))))
    exact D.le.refl _
  rw [if_neg l2]
  by_cases g2 : b2 < a2
  · rw [if_pos g2]
    ((try (conv => whnf)); (repeat ((first | (refine br_true ?_ ?_; (focus (exact yesA))) | (refine br_false ?_ ?_; (focus (exact noA))) | (refine onS_map ?_ ?_; (focus (exact numA))) | (refine onS_intro (eqTC_ints rfl rfl rfl rfl ?_) ?_; (focus (exact numA))) | refine onS_intro (mapB_u8s _) ?_ | (refine And.intro ?_ ?_; (focus (exact flatA)))); (try (conv => whnf)))))
    exact D.le.refl _
  rw [if_neg g2]
  ((try (conv => whnf)); (repeat ((first | (refine br_true ?_ ?_; (focus (exact yesA))) | (refine br_false ?_ ?_; (focus (exact noA))) | (refine onS_map ?_ ?_; (focus (exact numA))) | (refine onS_intro (eqTC_ints rfl rfl rfl rfl ?_) ?_; (focus (exact numA))) | refine onS_intro (mapB_u8s _) ?_ | (refine And.intro ?_ ?_; (focus (exact flatA)))); (try (conv => whnf)))))
  refine ⟨_, _, rfl, .refl _ _, ?_⟩
  by_cases l1 : a1 < b1
  · rw [if_pos l1]
    ((try (conv => whnf)); (repeat ((first | (refine br_true ?_ ?_; (focus (exact yesA))) | (refine br_false ?_ ?_; (focus (exact noA))) | (refine onS_map ?_ ?_; (focus (exact numA))) | (refine onS_intro (eqTC_ints rfl rfl rfl rfl ?_) ?_; (focus (exact numA))) | refine onS_intro (mapB_u8s _) ?_ | (refine And.intro ?_ ?_; (focus (exact flatA)))); (try (conv => whnf)))))
    exact D.le.refl _
  rw [if_neg l1]
  by_cases g1 : b1 < a1
  · rw [if_pos g1]
    ((try (conv => whnf)); (repeat ((first | (refine br_true ?_ ?_; (focus (exact yesA))) | (refine br_false ?_ ?_; (focus (exact noA))) | (refine onS_map ?_ ?_; (focus (exact numA))) | (refine onS_intro (eqTC_ints rfl rfl rfl rfl ?_) ?_; (focus (exact numA))) | refine onS_intro (mapB_u8s _) ?_ | (refine And.intro ?_ ?_; (focus (exact flatA)))); (try (conv => whnf)))))
    exact D.le.refl _
  rw [if_neg g1]
  ((try (conv => whnf)); (repeat ((first | (refine br_true ?_ ?_; (focus (exact yesA))) | (refine br_false ?_ ?_; (focus (exact noA))) | (refine onS_map ?_ ?_; (focus (exact numA))) | (refine onS_intro (eqTC_ints rfl rfl rfl rfl ?_) ?_; (focus (exact numA))) | refine onS_intro (mapB_u8s _) ?_ | (refine And.intro ?_ ?_; (focus (exact flatA)))); (try (conv => whnf)))))
  refine ⟨_, _, rfl, .refl _ _, ?_⟩
  by_cases l0 : a0 < b0
  · rw [if_pos l0]
    ((try (conv => whnf)); (repeat ((first | (refine br_true ?_ ?_; (focus (exact yesA))) | (refine br_false ?_ ?_; (focus (exact noA))) | (refine onS_map ?_ ?_; (focus (exact numA))) | (refine onS_intro (eqTC_ints rfl rfl rfl rfl ?_) ?_; (focus (exact numA))) | refine onS_intro (mapB_u8s _) ?_ | (refine And.intro ?_ ?_; (focus (exact flatA)))); (try (conv => whnf)))))
    exact D.le.refl _
  rw [if_neg l0]
  by_cases g0 : b0 < a0
  · rw [if_pos g0]
    ((try (conv => whnf)); (repeat ((first | (refine br_true ?_ ?_; (focus (exact yesA))) | (refine br_false ?_ ?_; (focus (exact noA))) | (refine onS_map ?_ ?_; (focus (exact numA))) | (refine onS_intro (eqTC_ints rfl rfl rfl rfl ?_) ?_; (focus (exact numA))) | refine onS_intro (mapB_u8s _) ?_ | (refine And.intro ?_ ?_; (focus (exact flatA)))); (try (conv => whnf)))))
    exact D.le.refl _
  rw [if_neg g0]
  ((try (conv => whnf)); (repeat ((first | (refine br_true ?_ ?_; (focus (exact yesA))) | (refine br_false ?_ ?_; (focus (exact noA))) | (refine onS_map ?_ ?_; (focus (exact numA))) | (refine onS_intro (eqTC_ints rfl rfl rfl rfl ?_) ?_; (focus (exact numA))) | refine onS_intro (mapB_u8s _) ?_ | (refine And.intro ?_ ?_; (focus (exact flatA)))); (try (conv => whnf)))))
  refine ⟨_, _, rfl, .refl _ _, ?_⟩
  ((try (conv => whnf)); (repeat ((first | (refine br_true ?_ ?_; (focus (exact yesA))) | (refine br_false ?_ ?_; (focus (exact noA))) | (refine onS_map ?_ ?_; (focus (exact numA))) | (refine onS_intro (eqTC_ints rfl rfl rfl rfl ?_) ?_; (focus (exact numA))) | refine onS_intro (mapB_u8s _) ?_ | (refine And.intro ?_ ?_; (focus (exact flatA)))); (try (conv => whnf)))))
  exact D.le.refl _
end Go.Fw

/-
Contracts of sums, differences and comparisons over numbers of 256 bits, of the program and of the reference. No conditions.
-/
namespace Go.Fw
set_option linter.unusedVariables false
set_option linter.unusedSimpArgs false
open Go.Proofs
set_option maxRecDepth 10000
theorem sm_eq (x y c : Nat) : sm x y c + cr x y c * 18446744073709551616 = x + y + c := by unfold sm cr; omega
theorem sm_lt (x y c : Nat) : sm x y c < 18446744073709551616 := Nat.mod_lt _ (by decide)
theorem df_lt (x y c : Nat) : df x y c < 18446744073709551616 := Nat.mod_lt _ (by decide)
theorem df_eq {x y c : Nat} (hx : x < 18446744073709551616) (hy : y < 18446744073709551616) (hc : c ≤ 1) : df x y c + y + c = x + bw x y c * 18446744073709551616 := by unfold df bw; split <;> omega
theorem add_parts {a0 a1 a2 a3 b0 b1 b2 b3 : Nat} (ha0 : a0 < 18446744073709551616) (ha1 : a1 < 18446744073709551616) (ha2 : a2 < 18446744073709551616) (ha3 : a3 < 18446744073709551616) (hb0 : b0 < 18446744073709551616) (hb1 : b1 < 18446744073709551616) (hb2 : b2 < 18446744073709551616) (hb3 : b3 < 18446744073709551616) :
    ad4 a0 a1 a2 a3 b0 b1 b2 b3 = U ((a0 + a1 * 18446744073709551616 + a2 * 340282366920938463463374607431768211456 + a3 * 6277101735386680763835789423207666416102355444464034512896 + (b0 + b1 * 18446744073709551616 + b2 * 340282366920938463463374607431768211456 + b3 * 6277101735386680763835789423207666416102355444464034512896)) % 115792089237316195423570985008687907853269984665640564039457584007913129639936) ∧
    ac4 a0 a1 a2 a3 b0 b1 b2 b3 = (a0 + a1 * 18446744073709551616 + a2 * 340282366920938463463374607431768211456 + a3 * 6277101735386680763835789423207666416102355444464034512896 + (b0 + b1 * 18446744073709551616 + b2 * 340282366920938463463374607431768211456 + b3 * 6277101735386680763835789423207666416102355444464034512896)) / 115792089237316195423570985008687907853269984665640564039457584007913129639936 := by
  have h1 : cr a0 b0 0 ≤ 1 := cr_le ha0 hb0 (by omega)
  have h2 := cr_le ha1 hb1 h1
  have h3 := cr_le ha2 hb2 h2
  have h4 := cr_le ha3 hb3 h3
  unfold ad4 ac4
  have e0 := sm_eq a0 b0 0
  have l0 := sm_lt a0 b0 0
  generalize sm a0 b0 0 = s0 at *
  generalize cr a0 b0 0 = c0 at *
  have e1 := sm_eq a1 b1 c0
  have l1 := sm_lt a1 b1 c0
  generalize sm a1 b1 c0 = s1 at *
  generalize cr a1 b1 c0 = c1 at *
  have e2 := sm_eq a2 b2 c1
  have l2 := sm_lt a2 b2 c1
  generalize sm a2 b2 c1 = s2 at *
  generalize cr a2 b2 c1 = c2 at *
  have e3 := sm_eq a3 b3 c2
  have l3 := sm_lt a3 b3 c2
  generalize sm a3 b3 c2 = s3 at *
  generalize cr a3 b3 c2 = c3 at *
  rw [u4_U l0 l1 l2 l3]
  exact ⟨congrArg U (by omega), by omega⟩
theorem sub_parts {a0 a1 a2 a3 b0 b1 b2 b3 : Nat} (ha0 : a0 < 18446744073709551616) (ha1 : a1 < 18446744073709551616) (ha2 : a2 < 18446744073709551616) (ha3 : a3 < 18446744073709551616) (hb0 : b0 < 18446744073709551616) (hb1 : b1 < 18446744073709551616) (hb2 : b2 < 18446744073709551616) (hb3 : b3 < 18446744073709551616) :
    sb4 a0 a1 a2 a3 b0 b1 b2 b3 = U ((a0 + a1 * 18446744073709551616 + a2 * 340282366920938463463374607431768211456 + a3 * 6277101735386680763835789423207666416102355444464034512896 + 115792089237316195423570985008687907853269984665640564039457584007913129639936 - (b0 + b1 * 18446744073709551616 + b2 * 340282366920938463463374607431768211456 + b3 * 6277101735386680763835789423207666416102355444464034512896)) % 115792089237316195423570985008687907853269984665640564039457584007913129639936) ∧
    bc4 a0 a1 a2 a3 b0 b1 b2 b3 = if a0 + a1 * 18446744073709551616 + a2 * 340282366920938463463374607431768211456 + a3 * 6277101735386680763835789423207666416102355444464034512896 < b0 + b1 * 18446744073709551616 + b2 * 340282366920938463463374607431768211456 + b3 * 6277101735386680763835789423207666416102355444464034512896 then 1 else 0 := by
  have h1 : bw a0 b0 0 ≤ 1 := bw_le ha0 hb0 (by omega)
  have h2 := bw_le ha1 hb1 h1
  have h3 := bw_le ha2 hb2 h2
  have h4 := bw_le ha3 hb3 h3
  unfold sb4 bc4
  have e0 := df_eq ha0 hb0 (show 0 ≤ 1 by decide)
  have l0 := df_lt a0 b0 0
  generalize df a0 b0 0 = s0 at *
  generalize bw a0 b0 0 = c0 at *
  have e1 := df_eq ha1 hb1 h1
  have l1 := df_lt a1 b1 c0
  generalize df a1 b1 c0 = s1 at *
  generalize bw a1 b1 c0 = c1 at *
  have e2 := df_eq ha2 hb2 h2
  have l2 := df_lt a2 b2 c1
  generalize df a2 b2 c1 = s2 at *
  generalize bw a2 b2 c1 = c2 at *
  have e3 := df_eq ha3 hb3 h3
  have l3 := df_lt a3 b3 c2
  generalize df a3 b3 c2 = s3 at *
  generalize bw a3 b3 c2 = c3 at *
  rw [u4_U l0 l1 l2 l3]
  refine ⟨congrArg U (by omega), ?_⟩
  split <;> omega
theorem ret_AddU (a b : Nat) (ha : a < 115792089237316195423570985008687907853269984665640564039457584007913129639936) (hb : b < 115792089237316195423570985008687907853269984665640564039457584007913129639936) : Returns cx n_wide_Add [U a, U b] (.tup [U ((a + b) % 115792089237316195423570985008687907853269984665640564039457584007913129639936), .bool (chk (115792089237316195423570985008687907853269984665640564039457584007913129639936 ≤ a + b))]) := by
  obtain ⟨a0, a1, a2, a3, h0, h1, h2, h3, ea, ua⟩ := U_split ha
  obtain ⟨b0, b1, b2, b3, g0, g1, g2, g3, eb, ub⟩ := U_split hb
  obtain ⟨e1, e2⟩ := add_parts h0 h1 h2 h3 g0 g1 g2 g3
  have h := ret_Add a0 a1 a2 a3 b0 b1 b2 b3 h0 h1 h2 g0 g1 g2
  rw [e1, e2, ← ea, ← eb] at h
  rw [ua, ub, show chk (115792089237316195423570985008687907853269984665640564039457584007913129639936 ≤ a + b) = decide ((a + b) / 115792089237316195423570985008687907853269984665640564039457584007913129639936 ≠ 0) by rw [chk_eq, Bool.eq_iff_iff]; simp <;> omega]
  exact h
theorem ret_SubU (a b : Nat) (ha : a < 115792089237316195423570985008687907853269984665640564039457584007913129639936) (hb : b < 115792089237316195423570985008687907853269984665640564039457584007913129639936) : Returns cx n_wide_Sub [U a, U b] (.tup [U ((a + 115792089237316195423570985008687907853269984665640564039457584007913129639936 - b) % 115792089237316195423570985008687907853269984665640564039457584007913129639936), .bool (chk (a < b))]) := by
  obtain ⟨a0, a1, a2, a3, h0, h1, h2, h3, ea, ua⟩ := U_split ha
  obtain ⟨b0, b1, b2, b3, g0, g1, g2, g3, eb, ub⟩ := U_split hb
  obtain ⟨e1, e2⟩ := sub_parts h0 h1 h2 h3 g0 g1 g2 g3
  have h := ret_Sub a0 a1 a2 a3 b0 b1 b2 b3 h0 h1 h2 g0 g1 g2
  rw [e1, e2, ← ea, ← eb] at h
  rw [ua, ub, show chk (a < b) = decide ((if a < b then 1 else 0) ≠ 0) by rw [chk_eq, Bool.eq_iff_iff]; by_cases h : a < b <;> simp [h]]
  exact h
/-- A comparison of numbers. -/
def cmpN (a b : Nat) : Int := if a < b then -1 else if b < a then 1 else 0
theorem cm_parts {a0 a1 a2 a3 b0 b1 b2 b3 : Nat} (ha0 : a0 < 18446744073709551616) (ha1 : a1 < 18446744073709551616) (ha2 : a2 < 18446744073709551616) (hb0 : b0 < 18446744073709551616) (hb1 : b1 < 18446744073709551616) (hb2 : b2 < 18446744073709551616) :
    cm a3 b3 (cm a2 b2 (cm a1 b1 (cm a0 b0 0))) = cmpN (a0 + a1 * 18446744073709551616 + a2 * 340282366920938463463374607431768211456 + a3 * 6277101735386680763835789423207666416102355444464034512896) (b0 + b1 * 18446744073709551616 + b2 * 340282366920938463463374607431768211456 + b3 * 6277101735386680763835789423207666416102355444464034512896) := by
  unfold cm cmpN
  repeat' split
  all_goals first | rfl | omega
theorem ret_CmpU (a b : Nat) (ha : a < 115792089237316195423570985008687907853269984665640564039457584007913129639936) (hb : b < 115792089237316195423570985008687907853269984665640564039457584007913129639936) : Returns cx n_wide_Cmp [U a, U b] (.int .i64 (cmpN a b)) := by
  obtain ⟨a0, a1, a2, a3, h0, h1, h2, h3, ea, ua⟩ := U_split ha
  obtain ⟨b0, b1, b2, b3, g0, g1, g2, g3, eb, ub⟩ := U_split hb
  have h := ret_Cmp a0 a1 a2 a3 b0 b1 b2 b3
  rw [cm_parts h0 h1 h2 g0 g1 g2, ← ea, ← eb] at h
  rw [ua, ub]
  exact h
end Go.Fw

/-
Single bits of numbers in parts of 64 bits, plain. No conditions.
-/
namespace Go.Fw
set_option linter.unusedVariables false
set_option linter.unusedSimpArgs false
set_option maxRecDepth 10000
set_option exponentiation.threshold 600

theorem onS_parts {n k : Nat} {K : D → Prop} (hk : k < 4) (h : K (.int .u64 (wd n k : Nat))) : onS ((parts n).map (D.int .u64))[k]? K := by
  match k, hk with
  | 0, _ => exact h
  | 1, _ => exact h
  | 2, _ => exact h
  | 3, _ => exact h
theorem wd_or_bit (n i j : Nat) (hi : i < 256) : wd (n ||| 2 ^ i) j = if j = i / 64 then wd n j ||| 2 ^ (i % 64) else wd n j := by
  symm
  have hp : 2 ^ (i % 64) < 18446744073709551616 := Nat.pow_lt_pow_right (by decide) (show i % 64 < 64 by omega)
  refine wd_ext ?_ fun k hk => ?_
  · split
    · exact Nat.or_lt_two_pow (n := 64) (wd_lt n j) hp
    · exact wd_lt n j
  · by_cases h : j = i / 64
    · rw [if_pos h, Nat.testBit_or, Nat.testBit_or, wd_bit, Nat.testBit_two_pow, Nat.testBit_two_pow, decide_eq_true hk]
      congr 1
      rw [Bool.eq_iff_iff, decide_eq_true_iff, decide_eq_true_iff]
      omega
    · rw [if_neg h, Nat.testBit_or, wd_bit, Nat.testBit_two_pow, decide_eq_true hk, decide_eq_false (by omega)]
      simp
theorem set_parts_eq {n k v : Nat} {m : Nat} (h : ∀ j, j < 4 → wd m j = if j = k then v else wd n j) : (parts n).set k (v : Int) = parts m := by
  have h0 := h 0 (by decide)
  have h1 := h 1 (by decide)
  have h2 := h 2 (by decide)
  have h3 := h 3 (by decide)
  unfold parts
  rw [h0, h1, h2, h3]
  match k with
  | 0 => rfl
  | 1 => rfl
  | 2 => rfl
  | 3 => rfl
  | k + 4 => simp
theorem set_U {n k : Nat} {v : Int} {m : Nat} (h : (parts n).set k v = parts m) : D.arr 4 .one (((parts n).map (D.int .u64)).set k (.int .u64 v)) = U m := by
  unfold U
  rw [← h, List.map_set]
/-- Bit i of a part, set. -/
theorem shl1 {j : Nat} (hj : j < 64) : shlW .u64 1 j = ((2 ^ j : Nat) : Int) := by
  have := shlW64 (a := 1) hj
  rw [Nat.one_mul, Nat.mod_eq_of_lt (Nat.pow_lt_pow_right (by decide) hj : 2 ^ j < 2 ^ 64)] at this
  exact this
theorem set_bit_U {n i : Nat} (hi : i < 256) : D.arr 4 .one (((parts n).map (D.int .u64)).set (i / 64) (.int .u64 (orW .u64 (wd n (i / 64) : Nat) (shlW .u64 1 (i % 64))))) = U (n ||| 2 ^ i) := by
  have hp : 2 ^ (i % 64) < 18446744073709551616 := Nat.pow_lt_pow_right (by decide) (show i % 64 < 64 by omega)
  refine set_U ?_
  rw [shl1 (by omega), or64 (wd_lt _ _) hp]
  refine set_parts_eq fun j hj => ?_
  rw [wd_or_bit n i j hi]
  by_cases h : j = i / 64
  · rw [if_pos h, if_pos h, h]
  · rw [if_neg h, if_neg h]
/-- Bit i of a number, out of its part. -/
theorem bit_of {n i : Nat} (hi : i < 256) : andW .u64 (((wd n (i / 64) : Nat) : Int) / 2 ^ (i % 64)) 1 = ((n.testBit i).toNat : Int) := by
  have e : (((wd n (i / 64) : Nat) : Int) / 2 ^ (i % 64)) = ((wd n (i / 64) / 2 ^ (i % 64) : Nat) : Int) := by push_cast; rfl
  rw [e]
  have hl : wd n (i / 64) / 2 ^ (i % 64) < 18446744073709551616 := Nat.lt_of_le_of_lt (Nat.div_le_self _ _) (wd_lt _ _)
  refine (and64 hl (show 1 < 18446744073709551616 by decide)).trans ?_
  rw [Nat.and_one_is_mod, ← Nat.toNat_testBit, wd_bit, decide_eq_true (show i % 64 < 64 by omega), Bool.true_and, show 64 * (i / 64) + i % 64 = i by omega]
theorem toNat_one {b : Bool} : ((b.toNat : Nat) : Int) = 1 ↔ b = true := by cases b <;> simp
theorem or_bit_add {Q i : Nat} : Q * 2 ^ (i + 1) ||| 2 ^ i = Q * 2 ^ (i + 1) + 2 ^ i := by
  have := Nat.two_pow_add_eq_or_of_lt (i := i + 1) (b := 2 ^ i) (Nat.pow_lt_pow_right (by decide) (by omega)) Q
  rw [Nat.mul_comm, this]
theorem or_low {a b : Nat} (h : a < 2 ^ b) : a ||| 2 ^ b = a + 2 ^ b := by
  have := Nat.two_pow_add_eq_or_of_lt (i := b) (b := a) h 1
  rw [Nat.mul_one] at this
  rw [Nat.or_comm, ← this, Nat.add_comm]
theorem or_one {a t : Nat} (h : a % 2 = 0) (ht : t < 2) : a ||| t = a + t := by
  have := Nat.two_pow_add_eq_or_of_lt (i := 1) (b := t) ht (a / 2)
  rw [show 2 ^ 1 * (a / 2) = a by omega] at this
  exact this.symm
theorem mod_next (n i : Nat) : n % 2 ^ (i + 1) = n % 2 ^ i + (n.testBit i).toNat * 2 ^ i := by
  rw [Nat.pow_succ, Nat.mod_mul, Nat.toNat_testBit, Nat.mul_comm (2 ^ i)]
end Go.Fw

/-
Contracts of the reference's sums, differences and comparisons, and of single bits. No conditions.
-/
namespace Go.Fw
set_option linter.unusedVariables false
set_option linter.unusedSimpArgs false
open Go.Proofs
set_option maxRecDepth 10000
theorem rer_Add (a0 a1 a2 a3 b0 b1 b2 b3 : Nat) (ha0 : a0 < 18446744073709551616) (ha1 : a1 < 18446744073709551616) (ha2 : a2 < 18446744073709551616)
    (hb0 : b0 < 18446744073709551616) (hb1 : b1 < 18446744073709551616) (hb2 : b2 < 18446744073709551616) :
    Returns cx n_lightclientref02_Add [u4 a0 a1 a2 a3, u4 b0 b1 b2 b3] (.tup [ad4 a0 a1 a2 a3 b0 b1 b2 b3, .bool (decide (ac4 a0 a1 a2 a3 b0 b1 b2 b3 = 1))]) := by
  have h1 : cr a0 b0 0 ≤ 1 := cr_le ha0 hb0 (by omega)
  have h2 := cr_le ha1 hb1 h1
  have h3 := cr_le ha2 hb2 h2
  unfold ad4 ac4
  (refine of_W2 (fn := f_lightclientref02_Add) {} (by kernel_rfl) (by kernel_rfl) (by kernel_rfl) (by kernel_rfl) (by kernel_rfl) ?_)
  ((try (conv => whnf)); (repeat ((first | (refine br_true ?_ ?_; (focus (exact yesA))) | (refine br_false ?_ ?_; (focus (exact noA))) | (refine onS_map ?_ ?_; (focus (exact numA))) | (refine onS_intro (eqTC_ints rfl rfl rfl rfl ?_) ?_; (focus (exact numA))) | refine onS_intro (mapB_u8s _) ?_ | (refine And.intro ?_ ?_; (focus (exact flatA)))); (try (conv => whnf)))))
  refine LoopW2_n 5 (iter_go ?_)
  ((try (conv => whnf)); (repeat ((first | (refine br_true ?_ ?_; (focus (exact yesA))) | (refine br_false ?_ ?_; (focus (exact noA))) | (refine onS_map ?_ ?_; (focus (exact numA))) | (refine onS_intro (eqTC_ints rfl rfl rfl rfl ?_) ?_; (focus (exact numA))) | refine onS_intro (mapB_u8s _) ?_ | (refine And.intro ?_ ?_; (focus (exact flatA)))); (try (conv => whnf)))))
  ((first | refine call_intro (ret_Add64' a0 b0 0 (by omega)) (les_refl _) ?_ | refine call_intro (ret_Add64' a0 b0 0 (by omega)) lesA ?_); (try (conv => whnf)))
  generalize sm a0 b0 0 = s0
  generalize cr a0 b0 0 = c0 at *
  ((try (conv => whnf)); (repeat ((first | (refine br_true ?_ ?_; (focus (exact yesA))) | (refine br_false ?_ ?_; (focus (exact noA))) | (refine onS_map ?_ ?_; (focus (exact numA))) | (refine onS_intro (eqTC_ints rfl rfl rfl rfl ?_) ?_; (focus (exact numA))) | refine onS_intro (mapB_u8s _) ?_ | (refine And.intro ?_ ?_; (focus (exact flatA)))); (try (conv => whnf)))))
  refine ⟨_, _, rfl, .refl _ _, ?_⟩
  ((try (conv => whnf)); (repeat ((first | (refine br_true ?_ ?_; (focus (exact yesA))) | (refine br_false ?_ ?_; (focus (exact noA))) | (refine onS_map ?_ ?_; (focus (exact numA))) | (refine onS_intro (eqTC_ints rfl rfl rfl rfl ?_) ?_; (focus (exact numA))) | refine onS_intro (mapB_u8s _) ?_ | (refine And.intro ?_ ?_; (focus (exact flatA)))); (try (conv => whnf)))))
  ((first | refine call_intro (ret_Add64' a1 b1 c0 h1) (les_refl _) ?_ | refine call_intro (ret_Add64' a1 b1 c0 h1) lesA ?_); (try (conv => whnf)))
  generalize sm a1 b1 c0 = s1
  generalize cr a1 b1 c0 = c1 at *
  ((try (conv => whnf)); (repeat ((first | (refine br_true ?_ ?_; (focus (exact yesA))) | (refine br_false ?_ ?_; (focus (exact noA))) | (refine onS_map ?_ ?_; (focus (exact numA))) | (refine onS_intro (eqTC_ints rfl rfl rfl rfl ?_) ?_; (focus (exact numA))) | refine onS_intro (mapB_u8s _) ?_ | (refine And.intro ?_ ?_; (focus (exact flatA)))); (try (conv => whnf)))))
  refine ⟨_, _, rfl, .refl _ _, ?_⟩
  ((try (conv => whnf)); (repeat ((first | (refine br_true ?_ ?_; (focus (exact yesA))) | (refine br_false ?_ ?_; (focus (exact noA))) | (refine onS_map ?_ ?_; (focus (exact numA))) | (refine onS_intro (eqTC_ints rfl rfl rfl rfl ?_) ?_; (focus (exact numA))) | refine onS_intro (mapB_u8s _) ?_ | (refine And.intro ?_ ?_; (focus (exact flatA)))); (try (conv => whnf)))))
  ((first | refine call_intro (ret_Add64' a2 b2 c1 h2) (les_refl _) ?_ | refine call_intro (ret_Add64' a2 b2 c1 h2) lesA ?_); (try (conv => whnf)))
  generalize sm a2 b2 c1 = s2
  generalize cr a2 b2 c1 = c2 at *
  ((try (conv => whnf)); (repeat ((first | (refine br_true ?_ ?_; (focus (exact yesA))) | (refine br_false ?_ ?_; (focus (exact noA))) | (refine onS_map ?_ ?_; (focus (exact numA))) | (refine onS_intro (eqTC_ints rfl rfl rfl rfl ?_) ?_; (focus (exact numA))) | refine onS_intro (mapB_u8s _) ?_ | (refine And.intro ?_ ?_; (focus (exact flatA)))); (try (conv => whnf)))))
  refine ⟨_, _, rfl, .refl _ _, ?_⟩
  ((try (conv => whnf)); (repeat ((first | (refine br_true ?_ ?_; (focus (exact yesA))) | (refine br_false ?_ ?_; (focus (exact noA))) | (refine onS_map ?_ ?_; (focus (exact numA))) | (refine onS_intro (eqTC_ints rfl rfl rfl rfl ?_) ?_; (focus (exact numA))) | refine onS_intro (mapB_u8s _) ?_ | (refine And.intro ?_ ?_; (focus (exact flatA)))); (try (conv => whnf)))))
  ((first | refine call_intro (ret_Add64' a3 b3 c2 h3) (les_refl _) ?_ | refine call_intro (ret_Add64' a3 b3 c2 h3) lesA ?_); (try (conv => whnf)))
  generalize sm a3 b3 c2 = s3
  generalize cr a3 b3 c2 = c3 at *
  ((try (conv => whnf)); (repeat ((first | (refine br_true ?_ ?_; (focus (exact yesA))) | (refine br_false ?_ ?_; (focus (exact noA))) | (refine onS_map ?_ ?_; (focus (exact numA))) | (refine onS_intro (eqTC_ints rfl rfl rfl rfl ?_) ?_; (focus (exact numA))) | refine onS_intro (mapB_u8s _) ?_ | (refine And.intro ?_ ?_; (focus (exact flatA)))); (try (conv => whnf)))))
  refine ⟨_, _, rfl, .refl _ _, ?_⟩
  ((try (conv => whnf)); (repeat ((first | (refine br_true ?_ ?_; (focus (exact yesA))) | (refine br_false ?_ ?_; (focus (exact noA))) | (refine onS_map ?_ ?_; (focus (exact numA))) | (refine onS_intro (eqTC_ints rfl rfl rfl rfl ?_) ?_; (focus (exact numA))) | refine onS_intro (mapB_u8s _) ?_ | (refine And.intro ?_ ?_; (focus (exact flatA)))); (try (conv => whnf)))))
  rw [show chk ((c3 : Int) = 1) = decide (c3 = 1) by rw [chk_eq, Bool.eq_iff_iff]; simp <;> omega]
  exact D.le.refl _
theorem rer_Sub (a0 a1 a2 a3 b0 b1 b2 b3 : Nat) (ha0 : a0 < 18446744073709551616) (ha1 : a1 < 18446744073709551616) (ha2 : a2 < 18446744073709551616)
    (hb0 : b0 < 18446744073709551616) (hb1 : b1 < 18446744073709551616) (hb2 : b2 < 18446744073709551616) :
    Returns cx n_lightclientref02_Sub [u4 a0 a1 a2 a3, u4 b0 b1 b2 b3] (.tup [sb4 a0 a1 a2 a3 b0 b1 b2 b3, .bool (decide (bc4 a0 a1 a2 a3 b0 b1 b2 b3 = 1))]) := by
  have h1 : bw a0 b0 0 ≤ 1 := bw_le ha0 hb0 (by omega)
  have h2 := bw_le ha1 hb1 h1
  have h3 := bw_le ha2 hb2 h2
  unfold sb4 bc4
  (refine of_W2 (fn := f_lightclientref02_Sub) {} (by kernel_rfl) (by kernel_rfl) (by kernel_rfl) (by kernel_rfl) (by kernel_rfl) ?_)
  ((try (conv => whnf)); (repeat ((first | (refine br_true ?_ ?_; (focus (exact yesA))) | (refine br_false ?_ ?_; (focus (exact noA))) | (refine onS_map ?_ ?_; (focus (exact numA))) | (refine onS_intro (eqTC_ints rfl rfl rfl rfl ?_) ?_; (focus (exact numA))) | refine onS_intro (mapB_u8s _) ?_ | (refine And.intro ?_ ?_; (focus (exact flatA)))); (try (conv => whnf)))))
  refine LoopW2_n 5 (iter_go ?_)
  ((try (conv => whnf)); (repeat ((first | (refine br_true ?_ ?_; (focus (exact yesA))) | (refine br_false ?_ ?_; (focus (exact noA))) | (refine onS_map ?_ ?_; (focus (exact numA))) | (refine onS_intro (eqTC_ints rfl rfl rfl rfl ?_) ?_; (focus (exact numA))) | refine onS_intro (mapB_u8s _) ?_ | (refine And.intro ?_ ?_; (focus (exact flatA)))); (try (conv => whnf)))))
  ((first | refine call_intro (ret_Sub64' a0 b0 0 (by omega)) (les_refl _) ?_ | refine call_intro (ret_Sub64' a0 b0 0 (by omega)) lesA ?_); (try (conv => whnf)))
  generalize df a0 b0 0 = s0
  generalize bw a0 b0 0 = c0 at *
  ((try (conv => whnf)); (repeat ((first | (refine br_true ?_ ?_; (focus (exact yesA))) | (refine br_false ?_ ?_; (focus (exact noA))) | (refine onS_map ?_ ?_; (focus (exact numA))) | (refine onS_intro (eqTC_ints rfl rfl rfl rfl ?_) ?_; (focus (exact numA))) | refine onS_intro (mapB_u8s _) ?_ | (refine And.intro ?_ ?_; (focus (exact flatA)))); (try (conv => whnf)))))
  refine ⟨_, _, rfl, .refl _ _, ?_⟩
  ((try (conv => whnf)); (repeat ((first | (refine br_true ?_ ?_; (focus (exact yesA))) | (refine br_false ?_ ?_; (focus (exact noA))) | (refine onS_map ?_ ?_; (focus (exact numA))) | (refine onS_intro (eqTC_ints rfl rfl rfl rfl ?_) ?_; (focus (exact numA))) | refine onS_intro (mapB_u8s _) ?_ | (refine And.intro ?_ ?_; (focus (exact flatA)))); (try (conv => whnf)))))
  ((first | refine call_intro (ret_Sub64' a1 b1 c0 h1) (les_refl _) ?_ | refine call_intro (ret_Sub64' a1 b1 c0 h1) lesA ?_); (try (conv => whnf)))
  generalize df a1 b1 c0 = s1
  generalize bw a1 b1 c0 = c1 at *
  ((try (conv => whnf)); (repeat ((first | (refine br_true ?_ ?_; (focus (exact yesA))) | (refine br_false ?_ ?_; (focus (exact noA))) | (refine onS_map ?_ ?_; (focus (exact numA))) | (refine onS_intro (eqTC_ints rfl rfl rfl rfl ?_) ?_; (focus (exact numA))) | refine onS_intro (mapB_u8s _) ?_ | (refine And.intro ?_ ?_; (focus (exact flatA)))); (try (conv => whnf)))))
  refine ⟨_, _, rfl, .refl _ _, ?_⟩
  ((try (conv => whnf)); (repeat ((first | (refine br_true ?_ ?_; (focus (exact yesA))) | (refine br_false ?_ ?_; (focus (exact noA))) | (refine onS_map ?_ ?_; (focus (exact numA))) | (refine onS_intro (eqTC_ints rfl rfl rfl rfl ?_) ?_; (focus (exact numA))) | refine onS_intro (mapB_u8s _) ?_ | (refine And.intro ?_ ?_; (focus (exact flatA)))); (try (conv => whnf)))))
  ((first | refine call_intro (ret_Sub64' a2 b2 c1 h2) (les_refl _) ?_ | refine call_intro (ret_Sub64' a2 b2 c1 h2) lesA ?_); (try (conv => whnf)))
  generalize df a2 b2 c1 = s2
  generalize bw a2 b2 c1 = c2 at *
  ((try (conv => whnf)); (repeat ((first | (refine br_true ?_ ?_; (focus (exact yesA))) | (refine br_false ?_ ?_; (focus (exact noA))) | (refine onS_map ?_ ?_; (focus (exact numA))) | (refine onS_intro (eqTC_ints rfl rfl rfl rfl ?_) ?_; (focus (exact numA))) | refine onS_intro (mapB_u8s _) ?_ | (refine And.intro ?_ ?_; (focus (exact flatA)))); (try (conv => whnf)))))
  refine ⟨_, _, rfl, .refl _ _, ?_⟩
  ((try (conv => whnf)); (repeat ((first | (refine br_true ?_ ?_; (focus (exact yesA))) | (refine br_false ?_ ?_; (focus (exact noA))) | (refine onS_map ?_ ?_; (focus (exact numA))) | (refine onS_intro (eqTC_ints rfl rfl rfl rfl ?_) ?_; (focus (exact numA))) | refine onS_intro (mapB_u8s _) ?_ | (refine And.intro ?_ ?_; (focus (exact flatA)))); (try (conv => whnf)))))
  ((first | refine call_intro (ret_Sub64' a3 b3 c2 h3) (les_refl _) ?_ | refine call_intro (ret_Sub64' a3 b3 c2 h3) lesA ?_); (try (conv => whnf)))
  generalize df a3 b3 c2 = s3
  generalize bw a3 b3 c2 = c3 at *
  ((try (conv => whnf)); (repeat ((first | (refine br_true ?_ ?_; (focus (exact yesA))) | (refine br_false ?_ ?_; (focus (exact noA))) | (refine onS_map ?_ ?_; (focus (exact numA))) | (refine onS_intro (eqTC_ints rfl rfl rfl rfl ?_) ?_; (focus (exact numA))) | refine onS_intro (mapB_u8s _) ?_ | (refine And.intro ?_ ?_; (focus (exact flatA)))); (try (conv => whnf)))))
  refine ⟨_, _, rfl, .refl _ _, ?_⟩
  ((try (conv => whnf)); (repeat ((first | (refine br_true ?_ ?_; (focus (exact yesA))) | (refine br_false ?_ ?_; (focus (exact noA))) | (refine onS_map ?_ ?_; (focus (exact numA))) | (refine onS_intro (eqTC_ints rfl rfl rfl rfl ?_) ?_; (focus (exact numA))) | refine onS_intro (mapB_u8s _) ?_ | (refine And.intro ?_ ?_; (focus (exact flatA)))); (try (conv => whnf)))))
  rw [show chk ((c3 : Int) = 1) = decide (c3 = 1) by rw [chk_eq, Bool.eq_iff_iff]; simp <;> omega]
  exact D.le.refl _

theorem rer_Cmp (a0 a1 a2 a3 b0 b1 b2 b3 : Nat) : Returns cx n_lightclientref02_Cmp [u4 a0 a1 a2 a3, u4 b0 b1 b2 b3] (.int .i64 (cm a3 b3 (cm a2 b2 (cm a1 b1 (cm a0 b0 0))))) := by
  (refine of_W2 (fn := f_lightclientref02_Cmp) {} (by kernel_rfl) (by kernel_rfl) (by kernel_rfl) (by kernel_rfl) (by kernel_rfl) ?_)
  unfold cm
  ((try (conv => whnf)); (repeat ((first | (refine br_true ?_ ?_; (focus (exact yesA))) | (refine br_false ?_ ?_; (focus (exact noA))) | (refine onS_map ?_ ?_; (focus (exact numA))) | (refine onS_intro (eqTC_ints rfl rfl rfl rfl ?_) ?_; (focus (exact numA))) | refine onS_intro (mapB_u8s _) ?_ | (refine And.intro ?_ ?_; (focus (exact flatA)))); (try (conv => whnf)))))
  refine LoopW2_n 5 (iter_go ?_)
  by_cases l3 : a3 < b3
  · rw [if_pos l3]
    ((try (conv => whnf)); (repeat ((first | (refine br_true ?_ ?_; (focus (exact yesA))) | (refine br_false ?_ ?_; (focus (exact noA))) | (refine onS_map ?_ ?_; (focus (exact numA))) | (refine onS_intro (eqTC_ints rfl rfl rfl rfl ?_) ?_; (focus (exact numA))) | refine onS_intro (mapB_u8s _) ?_ | (refine And.intro ?_ ?_; (focus (exact flatA)))); (try (conv => whnf)))))
    exact D.le.refl _
  rw [if_neg l3]
  by_cases g3 : b3 < a3
  · rw [if_pos g3]
    ((try (conv => whnf)); (repeat ((first | (refine br_true ?_ ?_; (focus (exact yesA))) | (refine br_false ?_ ?_; (focus (exact noA))) | (refine onS_map ?_ ?_; (focus (exact numA))) | (refine onS_intro (eqTC_ints rfl rfl rfl rfl ?_) ?_; (focus (exact numA))) | refine onS_intro (mapB_u8s _) ?_ | (refine And.intro ?_ ?_; (focus (exact flatA)))); (try (conv => whnf)))))
    exact D.le.refl _
  rw [if_neg g3]
  ((try (conv => whnf)); (repeat ((first | (refine br_true ?_ ?_; (focus (exact yesA))) | (refine br_false ?_ ?_; (focus (exact noA))) | (refine onS_map ?_ ?_; (focus (exact numA))) | (refine onS_intro (eqTC_ints rfl rfl rfl rfl ?_) ?_; (focus (exact numA))) | refine onS_intro (mapB_u8s _) ?_ | (refine And.intro ?_ ?_; (focus (exact flatA)))); (try (conv => whnf)))))
  refine ⟨_, _, rfl, .refl _ _, ?_⟩
  by_cases l2 : a2 < b2
  · rw [if_pos l2]
    ((try (conv => whnf)); (repeat ((first | (refine br_true ?_ ?_; (focus (exact yesA))) | (refine br_false ?_ ?_; (focus (exact noA))) | (refine onS_map ?_ ?_; (focus (exact numA))) | (refine onS_intro (eqTC_ints rfl rfl rfl rfl ?_) ?_; (focus (exact numA))) | refine onS_intro (mapB_u8s _) ?_ | (refine And.intro ?_ ?_; (focus (exact flatA)))); (try (conv => whnf)))))
    exact D.le.refl _
  rw [if_neg l2]
  by_cases g2 : b2 < a2
  · rw [if_pos g2]
    ((try (conv => whnf)); (repeat ((first | (refine br_true ?_ ?_; (focus (exact yesA))) | (refine br_false ?_ ?_; (focus (exact noA))) | (refine onS_map ?_ ?_; (focus (exact numA))) | (refine onS_intro (eqTC_ints rfl rfl rfl rfl ?_) ?_; (focus (exact numA))) | refine onS_intro (mapB_u8s _) ?_ | (refine And.intro ?_ ?_; (focus (exact flatA)))); (try (conv => whnf)))))
    exact D.le.refl _
  rw [if_neg g2]
  ((try (conv => whnf)); (repeat ((first | (refine br_true ?_ ?_; (focus (exact yesA))) | (refine br_false ?_ ?_; (focus (exact noA))) | (refine onS_map ?_ ?_; (focus (exact numA))) | (refine onS_intro (eqTC_ints rfl rfl rfl rfl ?_) ?_; (focus (exact numA))) | refine onS_intro (mapB_u8s _) ?_ | (refine And.intro ?_ ?_; (focus (exact flatA)))); (try (conv => whnf)))))
  refine ⟨_, _, rfl, .refl _ _, ?_⟩
  by_cases l1 : a1 < b1
  · rw [if_pos l1]
    ((try (conv => whnf)); (repeat ((first | (refine br_true ?_ ?_; (focus (exact yesA))) | (refine br_false ?_ ?_; (focus (exact noA))) | (refine onS_map ?_ ?_; (focus (exact numA))) | (refine onS_intro (eqTC_ints rfl rfl rfl rfl ?_) ?_; (focus (exact numA))) | refine onS_intro (mapB_u8s _) ?_ | (refine And.intro ?_ ?_; (focus (exact flatA)))); (try (conv => whnf)))))
    exact D.le.refl _
  rw [if_neg l1]
  by_cases g1 : b1 < a1
  · rw [if_pos g1]
    ((try (conv => whnf)); (repeat ((first | (refine br_true ?_ ?_; (focus (exact yesA))) | (refine br_false ?_ ?_; (focus (exact noA))) | (refine onS_map ?_ ?_; (focus (exact numA))) | (refine onS_intro (eqTC_ints rfl rfl rfl rfl ?_) ?_; (focus (exact numA))) | refine onS_intro (mapB_u8s _) ?_ | (refine And.intro ?_ ?_; (focus (exact flatA)))); (try (conv => whnf)))))
    exact D.le.refl _
  rw [if_neg g1]
  ((try (conv => whnf)); (repeat ((first | (refine br_true ?_ ?_; (focus (exact yesA))) | (refine br_false ?_ ?_; (focus (exact noA))) | (refine onS_map ?_ ?_; (focus (exact numA))) | (refine onS_intro (eqTC_ints rfl rfl rfl rfl ?_) ?_; (focus (exact numA))) | refine onS_intro (mapB_u8s _) ?_ | (refine And.intro ?_ ?_; (focus (exact flatA)))); (try (conv => whnf)))))
  refine ⟨_, _, rfl, .refl _ _, ?_⟩
  by_cases l0 : a0 < b0
  · rw [if_pos l0]
    ((try (conv => whnf)); (repeat ((first | (refine br_true ?_ ?_; (focus (exact yesA))) | (refine br_false ?_ ?_; (focus (exact noA))) | (refine onS_map ?_ ?_; (focus (exact numA))) | (refine onS_intro (eqTC_ints rfl rfl rfl rfl ?_) ?_; (focus (exact numA))) | refine onS_intro (mapB_u8s _) ?_ | (refine And.intro ?_ ?_; (focus (exact flatA)))); (try (conv => whnf)))))
    exact D.le.refl _
  rw [if_neg l0]
  by_cases g0 : b0 < a0
  · rw [if_pos g0]
    ((try (conv => whnf)); (repeat ((first | (refine br_true ?_ ?_; (focus (exact yesA))) | (refine br_false ?_ ?_; (focus (exact noA))) | (refine onS_map ?_ ?_; (focus (exact numA))) | (refine onS_intro (eqTC_ints rfl rfl rfl rfl ?_) ?_; (focus (exact numA))) | refine onS_intro (mapB_u8s _) ?_ | (refine And.intro ?_ ?_; (focus (exact flatA)))); (try (conv => whnf)))))
    exact D.le.refl _
  rw [if_neg g0]
  ((try (conv => whnf)); (repeat ((first | (refine br_true ?_ ?_; (focus (exact yesA))) | (refine br_false ?_ ?_; (focus (exact noA))) | (refine onS_map ?_ ?_; (focus (exact numA))) | (refine onS_intro (eqTC_ints rfl rfl rfl rfl ?_) ?_; (focus (exact numA))) | refine onS_intro (mapB_u8s _) ?_ | (refine And.intro ?_ ?_; (focus (exact flatA)))); (try (conv => whnf)))))
  refine ⟨_, _, rfl, .refl _ _, ?_⟩
  ((try (conv => whnf)); (repeat ((first | (refine br_true ?_ ?_; (focus (exact yesA))) | (refine br_false ?_ ?_; (focus (exact noA))) | (refine onS_map ?_ ?_; (focus (exact numA))) | (refine onS_intro (eqTC_ints rfl rfl rfl rfl ?_) ?_; (focus (exact numA))) | refine onS_intro (mapB_u8s _) ?_ | (refine And.intro ?_ ?_; (focus (exact flatA)))); (try (conv => whnf)))))
  exact D.le.refl _
theorem rer_AddU (a b : Nat) (ha : a < 115792089237316195423570985008687907853269984665640564039457584007913129639936) (hb : b < 115792089237316195423570985008687907853269984665640564039457584007913129639936) : Returns cx n_lightclientref02_Add [U a, U b] (.tup [U ((a + b) % 115792089237316195423570985008687907853269984665640564039457584007913129639936), .bool (chk (115792089237316195423570985008687907853269984665640564039457584007913129639936 ≤ a + b))]) := by
  obtain ⟨a0, a1, a2, a3, h0, h1, h2, h3, ea, ua⟩ := U_split ha
  obtain ⟨b0, b1, b2, b3, g0, g1, g2, g3, eb, ub⟩ := U_split hb
  obtain ⟨e1, e2⟩ := add_parts h0 h1 h2 h3 g0 g1 g2 g3
  have h := rer_Add a0 a1 a2 a3 b0 b1 b2 b3 h0 h1 h2 g0 g1 g2
  rw [e1, e2, ← ea, ← eb] at h
  rw [ua, ub, show chk (115792089237316195423570985008687907853269984665640564039457584007913129639936 ≤ a + b) = decide ((a + b) / 115792089237316195423570985008687907853269984665640564039457584007913129639936 = 1) by rw [chk_eq, Bool.eq_iff_iff]; simp <;> omega]
  exact h
theorem rer_SubU (a b : Nat) (ha : a < 115792089237316195423570985008687907853269984665640564039457584007913129639936) (hb : b < 115792089237316195423570985008687907853269984665640564039457584007913129639936) : Returns cx n_lightclientref02_Sub [U a, U b] (.tup [U ((a + 115792089237316195423570985008687907853269984665640564039457584007913129639936 - b) % 115792089237316195423570985008687907853269984665640564039457584007913129639936), .bool (chk (a < b))]) := by
  obtain ⟨a0, a1, a2, a3, h0, h1, h2, h3, ea, ua⟩ := U_split ha
  obtain ⟨b0, b1, b2, b3, g0, g1, g2, g3, eb, ub⟩ := U_split hb
  obtain ⟨e1, e2⟩ := sub_parts h0 h1 h2 h3 g0 g1 g2 g3
  have h := rer_Sub a0 a1 a2 a3 b0 b1 b2 b3 h0 h1 h2 g0 g1 g2
  rw [e1, e2, ← ea, ← eb] at h
  rw [ua, ub, show chk (a < b) = decide ((if a < b then 1 else 0) = 1) by rw [chk_eq, Bool.eq_iff_iff]; by_cases h : a < b <;> simp [h]]
  exact h
theorem rer_CmpU (a b : Nat) (ha : a < 115792089237316195423570985008687907853269984665640564039457584007913129639936) (hb : b < 115792089237316195423570985008687907853269984665640564039457584007913129639936) : Returns cx n_lightclientref02_Cmp [U a, U b] (.int .i64 (cmpN a b)) := by
  obtain ⟨a0, a1, a2, a3, h0, h1, h2, h3, ea, ua⟩ := U_split ha
  obtain ⟨b0, b1, b2, b3, g0, g1, g2, g3, eb, ub⟩ := U_split hb
  have h := rer_Cmp a0 a1 a2 a3 b0 b1 b2 b3
  rw [cm_parts h0 h1 h2 g0 g1 g2, ← ea, ← eb] at h
  rw [ua, ub]
  exact h
theorem rer_Bit (a i : Nat) (hi : i < 256) : Returns cx n_lightclientref02_Bit [U a, .int .i64 i] (.bool (a.testBit i)) := by
  (refine of_W2 (fn := f_lightclientref02_Bit) {} (by kernel_rfl) (by kernel_rfl) (by kernel_rfl) (by kernel_rfl) (by kernel_rfl) ?_)
  ((try (conv => whnf)); (repeat ((first | (refine br_true ?_ ?_; (focus (exact yesA))) | (refine br_false ?_ ?_; (focus (exact noA))) | (refine onS_map ?_ ?_; (focus (exact numA))) | (refine onS_intro (eqTC_ints rfl rfl rfl rfl ?_) ?_; (focus (exact numA))) | refine onS_intro (mapB_u8s _) ?_ | (refine And.intro ?_ ?_; (focus (exact flatA)))); (try (conv => whnf)))))
  refine onS_parts (by omega) ?_
  ((try (conv => whnf)); (repeat ((first | (refine br_true ?_ ?_; (focus (exact yesA))) | (refine br_false ?_ ?_; (focus (exact noA))) | (refine onS_map ?_ ?_; (focus (exact numA))) | (refine onS_intro (eqTC_ints rfl rfl rfl rfl ?_) ?_; (focus (exact numA))) | refine onS_intro (mapB_u8s _) ?_ | (refine And.intro ?_ ?_; (focus (exact flatA)))); (try (conv => whnf)))))
  have e : ((i : Int) / 64).toNat = i / 64 := by omega
  have e2 : ((i : Int) % 64).toNat = i % 64 := by omega
  rw [e, e2, bit_of hi]
  rw [show chk (((a.testBit i).toNat : Int) = 1) = a.testBit i by rw [chk_eq, Bool.eq_iff_iff, decide_eq_true_iff, toNat_one]]
  exact D.le.refl _
theorem rer_Zero (a : Nat) (ha : a < 115792089237316195423570985008687907853269984665640564039457584007913129639936) : Returns cx n_lightclientref02_Zero [U a] (.bool (chk (a = 0))) := by
  (refine of_W2 (fn := f_lightclientref02_Zero) {} (by kernel_rfl) (by kernel_rfl) (by kernel_rfl) (by kernel_rfl) (by kernel_rfl) ?_)
  ((try (conv => whnf)); (repeat ((first | (refine br_true ?_ ?_; (focus (exact yesA))) | (refine br_false ?_ ?_; (focus (exact noA))) | (refine onS_map ?_ ?_; (focus (exact numA))) | (refine onS_intro (eqTC_ints rfl rfl rfl rfl ?_) ?_; (focus (exact numA))) | refine onS_intro (mapB_u8s _) ?_ | (refine And.intro ?_ ?_; (focus (exact flatA)))); (try (conv => whnf)))))
  refine onS_intro (eqTC_U0 rfl rfl rfl rfl ha) ?_
  ((try (conv => whnf)); (repeat ((first | (refine br_true ?_ ?_; (focus (exact yesA))) | (refine br_false ?_ ?_; (focus (exact noA))) | (refine onS_map ?_ ?_; (focus (exact numA))) | (refine onS_intro (eqTC_ints rfl rfl rfl rfl ?_) ?_; (focus (exact numA))) | refine onS_intro (mapB_u8s _) ?_ | (refine And.intro ?_ ?_; (focus (exact flatA)))); (try (conv => whnf)))))
  exact D.le.refl _
end Go.Fw

/-
Contracts of small numbers and complements. No conditions.
-/
namespace Go.Fw
set_option linter.unusedVariables false
set_option linter.unusedSimpArgs false
open Go.Proofs
set_option maxRecDepth 10000
theorem ret_FromUint (n : Nat) : Returns cx n_wide_FromUint [n64 n] (u4 n 0 0 0) := by
  (refine of_W2 (fn := f_wide_FromUint) {} (by kernel_rfl) (by kernel_rfl) (by kernel_rfl) (by kernel_rfl) (by kernel_rfl) ?_)
  ((try (conv => whnf)); (repeat ((first | (refine br_true ?_ ?_; (focus (exact yesA))) | (refine br_false ?_ ?_; (focus (exact noA))) | (refine onS_map ?_ ?_; (focus (exact numA))) | (refine onS_intro (eqTC_ints rfl rfl rfl rfl ?_) ?_; (focus (exact numA))) | refine onS_intro (mapB_u8s _) ?_ | (refine And.intro ?_ ?_; (focus (exact flatA)))); (try (conv => whnf)))))
  exact D.le.refl _
theorem ret_Not (a0 a1 a2 a3 : Nat) (h0 : a0 < 18446744073709551616) (h1 : a1 < 18446744073709551616) (h2 : a2 < 18446744073709551616) (h3 : a3 < 18446744073709551616) :
    Returns cx n_wide_Not [u4 a0 a1 a2 a3] (u4 (18446744073709551615 - a0) (18446744073709551615 - a1) (18446744073709551615 - a2) (18446744073709551615 - a3)) := by
  have e : u4 (18446744073709551615 - a0) (18446744073709551615 - a1) (18446744073709551615 - a2) (18446744073709551615 - a3) = .arr 4 .one [.int .u64 (notW .u64 a0), .int .u64 (notW .u64 a1), .int .u64 (notW .u64 a2), .int .u64 (notW .u64 a3)] := by
    rw [not64 h0, not64 h1, not64 h2, not64 h3]; rfl
  rw [e]
  (refine of_W2 (fn := f_wide_Not) {} (by kernel_rfl) (by kernel_rfl) (by kernel_rfl) (by kernel_rfl) (by kernel_rfl) ?_)
  ((try (conv => whnf)); (repeat ((first | (refine br_true ?_ ?_; (focus (exact yesA))) | (refine br_false ?_ ?_; (focus (exact noA))) | (refine onS_map ?_ ?_; (focus (exact numA))) | (refine onS_intro (eqTC_ints rfl rfl rfl rfl ?_) ?_; (focus (exact numA))) | refine onS_intro (mapB_u8s _) ?_ | (refine And.intro ?_ ?_; (focus (exact flatA)))); (try (conv => whnf)))))
  refine LoopW2_n 5 (iter_go ?_)
  ((try (conv => whnf)); (repeat ((first | (refine br_true ?_ ?_; (focus (exact yesA))) | (refine br_false ?_ ?_; (focus (exact noA))) | (refine onS_map ?_ ?_; (focus (exact numA))) | (refine onS_intro (eqTC_ints rfl rfl rfl rfl ?_) ?_; (focus (exact numA))) | refine onS_intro (mapB_u8s _) ?_ | (refine And.intro ?_ ?_; (focus (exact flatA)))); (try (conv => whnf)))))
  iterate 4 (refine ⟨_, _, rfl, .refl _ _, ?_⟩; ((try (conv => whnf)); (repeat ((first | (refine br_true ?_ ?_; (focus (exact yesA))) | (refine br_false ?_ ?_; (focus (exact noA))) | (refine onS_map ?_ ?_; (focus (exact numA))) | (refine onS_intro (eqTC_ints rfl rfl rfl rfl ?_) ?_; (focus (exact numA))) | refine onS_intro (mapB_u8s _) ?_ | (refine And.intro ?_ ?_; (focus (exact flatA)))); (try (conv => whnf))))))
  exact D.le.refl _
end Go.Fw

/-
Contract of big-endian forms. No conditions.
-/
namespace Go.Fw
set_option linter.unusedVariables false
set_option linter.unusedSimpArgs false
open Go.Proofs
set_option maxRecDepth 100000
set_option maxHeartbeats 4000000
def h32 (l : List Int) : D := .arr 32 .one (l.map (.int .u8))
theorem le_same {x y : D} (h : x = y) : D.le x y := h ▸ .refl _
def byteAt (x : Nat) (j : Nat) : Int := IntKind.u8.wrap ((x : Int) / 2 ^ (56 - 8 * j))
def bytes8 (x : Nat) : List Int := [byteAt x 0, byteAt x 1, byteAt x 2, byteAt x 3, byteAt x 4, byteAt x 5, byteAt x 6, byteAt x 7]
def bytes4 (a0 a1 a2 a3 : Nat) : List Int := bytes8 a3 ++ bytes8 a2 ++ bytes8 a1 ++ bytes8 a0
theorem ret_Bytes (a0 a1 a2 a3 : Nat) : Returns cx n_wide_Bytes [u4 a0 a1 a2 a3] (h32 (bytes4 a0 a1 a2 a3)) := by
  (refine of_W2 (fn := f_wide_Bytes) {} (by kernel_rfl) (by kernel_rfl) (by kernel_rfl) (by kernel_rfl) (by kernel_rfl) ?_)
  ((try (conv => whnf)); (repeat ((first | (refine br_true ?_ ?_; (focus (exact yesA))) | (refine br_false ?_ ?_; (focus (exact noA))) | (refine onS_map ?_ ?_; (focus (exact numA))) | (refine onS_intro (eqTC_ints rfl rfl rfl rfl ?_) ?_; (focus (exact numA))) | refine onS_intro (mapB_u8s _) ?_ | (refine And.intro ?_ ?_; (focus (exact flatA)))); (try (conv => whnf)))))
  refine LoopW2_n 33 (iter_go ?_)
  ((try (conv => whnf)); (repeat ((first | (refine br_true ?_ ?_; (focus (exact yesA))) | (refine br_false ?_ ?_; (focus (exact noA))) | (refine onS_map ?_ ?_; (focus (exact numA))) | (refine onS_intro (eqTC_ints rfl rfl rfl rfl ?_) ?_; (focus (exact numA))) | refine onS_intro (mapB_u8s _) ?_ | (refine And.intro ?_ ?_; (focus (exact flatA)))); (try (conv => whnf)))))
  iterate 32 (refine ⟨_, _, rfl, .refl _ _, ?_⟩; ((try (conv => whnf)); (repeat ((first | (refine br_true ?_ ?_; (focus (exact yesA))) | (refine br_false ?_ ?_; (focus (exact noA))) | (refine onS_map ?_ ?_; (focus (exact numA))) | (refine onS_intro (eqTC_ints rfl rfl rfl rfl ?_) ?_; (focus (exact numA))) | refine onS_intro (mapB_u8s _) ?_ | (refine And.intro ?_ ?_; (focus (exact flatA)))); (try (conv => whnf))))))
  refine le_same ?_
  kernel_rfl
end Go.Fw

/-
Digests, plain: the words' functions. No conditions.
-/
namespace Go.Fw
set_option linter.unusedVariables false
set_option linter.unusedSimpArgs false
set_option maxRecDepth 10000

def rotlS (n : Int) : Int := andW .u64 (IntKind.u64.wrap n) 31
def rotlI (x n : Int) : Int := orW .u32 (shlW .u32 x (rotlS n).toNat) (shrW .u32 x (subW .u64 32 (rotlS n)).toNat)
def rotrI (x n : Int) : Int := rotlI x (0 - n)
def blockD (b : List Int) : D := .arr 64 .one (u8s b)
def wordsD (w : List Int) : D := .arr 64 .one (u32s w)

def up8 (x c : Int) : Int := orW .u32 (shlW .u32 x 8) (IntKind.u32.wrap c)
def sch1 (b : List Int) : Nat → List Int
  | 0 => List.replicate 64 0
  | i + 1 => (sch1 b i).set (i / 4) (up8 ((sch1 b i).getD (i / 4) 0) (b.getD i 0))
theorem sch1_len (b : List Int) : ∀ i, (sch1 b i).length = 64
  | 0 => by simp [sch1]
  | i + 1 => by simp [sch1, sch1_len b i]
def wnext (w : List Int) (i : Nat) : Int :=
  addW .u32 (addW .u32 (addW .u32 (w.getD (i - 16) 0) (xorW .u32 (xorW .u32 (rotrI (w.getD (i - 15) 0) 7) (rotrI (w.getD (i - 15) 0) 18)) (w.getD (i - 15) 0 / 2 ^ 3))) (w.getD (i - 7) 0))
    (xorW .u32 (xorW .u32 (rotrI (w.getD (i - 2) 0) 17) (rotrI (w.getD (i - 2) 0) 19)) (w.getD (i - 2) 0 / 2 ^ 10))
def sch2 (w : List Int) : Nat → List Int
  | 0 => w
  | j + 1 => (sch2 w j).set (16 + j) (wnext (sch2 w j) (16 + j))
theorem sch2_len (w : List Int) (h : w.length = 64) : ∀ j, (sch2 w j).length = 64
  | 0 => h
  | j + 1 => by simp [sch2, sch2_len w h j]
def word4 (b : List Int) (i : Nat) : Int := orW .u32 (orW .u32 (orW .u32 (shlW .u32 (IntKind.u32.wrap (b.getD (4 * i) 0)) 24) (shlW .u32 (IntKind.u32.wrap (b.getD (4 * i + 1) 0)) 16)) (shlW .u32 (IntKind.u32.wrap (b.getD (4 * i + 2) 0)) 8)) (IntKind.u32.wrap (b.getD (4 * i + 3) 0))
def sch1r (b : List Int) : Nat → List Int
  | 0 => List.replicate 64 0
  | i + 1 => (sch1r b i).set i (word4 b i)
theorem sch1r_len (b : List Int) : ∀ i, (sch1r b i).length = 64
  | 0 => by simp [sch1r]
  | i + 1 => by simp [sch1r, sch1r_len b i]
theorem set_words {l : List Int} {n i : Nat} {x y : Int} (hn : n = i) (hx : x = y) : D.arr 64 .one ((u32s l).set n (.int .u32 x)) = wordsD (l.set i y) := by
  subst hn; subst hx; simp [wordsD, u32s, List.map_set]
def stD (s : List Int) : D := .arr 8 .one (u32s s)
def t1 (s : List Int) (k w : Int) : Int := addW .u32 (addW .u32 (addW .u32 (addW .u32 (s.getD 7 0) (xorW .u32 (xorW .u32 (rotrI (s.getD 4 0) 6) (rotrI (s.getD 4 0) 11)) (rotrI (s.getD 4 0) 25))) (xorW .u32 (andW .u32 (s.getD 4 0) (s.getD 5 0)) (andW .u32 (notW .u32 (s.getD 4 0)) (s.getD 6 0)))) k) w
def t2 (s : List Int) : Int := addW .u32 (xorW .u32 (xorW .u32 (rotrI (s.getD 0 0) 2) (rotrI (s.getD 0 0) 13)) (rotrI (s.getD 0 0) 22)) (xorW .u32 (xorW .u32 (andW .u32 (s.getD 0 0) (s.getD 1 0)) (andW .u32 (s.getD 0 0) (s.getD 2 0))) (andW .u32 (s.getD 1 0) (s.getD 2 0)))
def rnd (s : List Int) (k w : Int) : List Int := [addW .u32 (t1 s k w) (t2 s), s.getD 0 0, s.getD 1 0, s.getD 2 0, addW .u32 (s.getD 3 0) (t1 s k w), s.getD 4 0, s.getD 5 0, s.getD 6 0]
def rnds (s : List Int) (ws : List Int) : Nat → List Int
  | 0 => s
  | i + 1 => rnd (rnds s ws i) (Kc.getD i 0) (ws.getD i 0)
theorem rnds_len (s ws : List Int) (h : s.length = 8) : ∀ i, (rnds s ws i).length = 8
  | 0 => h
  | i + 1 => rfl
def addN (s st : List Int) : Nat → List Int
  | 0 => s
  | i + 1 => (addN s st i).set i (addW .u32 ((addN s st i).getD i 0) (st.getD i 0))
theorem addN_len (s st : List Int) (h : s.length = 8) : ∀ i, (addN s st i).length = 8
  | 0 => h
  | i + 1 => by simp [addN, addN_len s st h i]
def addR (x s : List Int) : List Int := [addW .u32 (s.getD 0 0) (x.getD 0 0), addW .u32 (s.getD 1 0) (x.getD 1 0), addW .u32 (s.getD 2 0) (x.getD 2 0), addW .u32 (s.getD 3 0) (x.getD 3 0), addW .u32 (s.getD 4 0) (x.getD 4 0), addW .u32 (s.getD 5 0) (x.getD 5 0), addW .u32 (s.getD 6 0) (x.getD 6 0), addW .u32 (s.getD 7 0) (x.getD 7 0)]
def sched (b : List Int) : List Int := sch2 (sch1 b 64) 48
theorem sched_len (b : List Int) : (sched b).length = 64 := sch2_len _ (sch1_len _ _) _
def schedR (b : List Int) : List Int := sch2 (sch1r b 16) 48
theorem schedR_len (b : List Int) : (schedR b).length = 64 := sch2_len _ (sch1r_len _ _) _
def compressR (s b : List Int) : List Int := addR (rnds s (schedR b) 64) s
def compress (s b : List Int) : List Int := addN (rnds s (sched b) 64) s 8
theorem compress_len (s b : List Int) (h : s.length = 8) : (compress s b).length = 8 := addN_len _ _ (rnds_len s _ h 64) 8
theorem andW_nonneg (a b : Int) : 0 ≤ andW .u64 a b := by
  unfold andW IntKind.wrap
  simp only [IntKind.signed, IntKind.bits]
  exact Int.emod_nonneg _ (by decide)
theorem subW_nonneg (a b : Int) : 0 ≤ subW .u64 a b := by
  unfold subW IntKind.wrap
  simp only [IntKind.signed, IntKind.bits]
  exact Int.emod_nonneg _ (by decide)

def be (n : Nat) (i : Nat) : Int := IntKind.u8.wrap (mulW .u64 8 n / 2 ^ i)
def padZ (n : Nat) : Nat := (64 - (n + 9) % 64) % 64
def padL (n : Nat) : Nat → List Int
  | 0 => 128 :: List.replicate (padZ n) 0
  | j + 1 => padL n j ++ [be n (56 - 8 * j)]
theorem padL_len (n : Nat) : ∀ j, (padL n j).length = padZ n + 1 + j
  | 0 => by simp [padL]
  | j + 1 => by simp [padL, padL_len n j]; omega
theorem padZ_lt (n : Nat) : padZ n < 64 := Nat.mod_lt _ (by decide)
theorem padZ_eq (n : Nat) : (addW .u64 1 (subW .u64 64 (addW .u64 (n : Int) 9 % 64) % 64)).toNat = padZ n + 1 := by
  unfold padZ
  rw [addW_u64, addW_u64, subW_u64]
  omega
/-- The reference's padding: k zeros so far. -/
def refL (k : Nat) : List Int := 128 :: List.replicate k 0
def refR (n : Nat) : Nat → List Int
  | 0 => refL (padZ n)
  | j + 1 => refR n j ++ [be n (8 * (7 - j))]
theorem refR_len (n : Nat) : ∀ j, (refR n j).length = padZ n + 1 + j
  | 0 => by simp [refR, refL]
  | j + 1 => by simp [refR, refR_len n j]; omega
def hashD (l : List Int) : D := .arr 32 .one (u8s l)
def stN (s : List Int) (m : List Int) : Nat → List Int
  | 0 => s
  | k + 1 => compress (stN s m k) ((m.drop (64 * k)).take 64)
theorem stN_len (s m : List Int) (h : s.length = 8) : ∀ k, (stN s m k).length = 8
  | 0 => h
  | k + 1 => compress_len _ _ (stN_len s m h k)
def hbyte (s : List Int) (i : Nat) : Int := IntKind.u8.wrap (s.getD (i / 4) 0 / 2 ^ (24 - 8 * (i % 4)))
def hL (s : List Int) : Nat → List Int
  | 0 => List.replicate 32 0
  | i + 1 => (hL s i).set i (hbyte s i)
theorem hL_len (s : List Int) : ∀ i, (hL s i).length = 32
  | 0 => by simp [hL]
  | i + 1 => by simp [hL, hL_len s i]
def msg (b : List Int) : List Int := b ++ padL b.length 8
theorem msg_len (b : List Int) : (msg b).length % 64 = 0 := by
  simp only [msg, List.length_append, padL_len, padZ]
  omega
theorem msg_le (b : List Int) : (msg b).length ≤ b.length + 72 := by
  simp only [msg, List.length_append, padL_len]
  have := padZ_lt b.length
  omega
theorem sum_ex : ∃ f : List Int → List Int, f = fun b => hL (stN H0 (msg b) ((msg b).length / 64)) 32 := ⟨_, rfl⟩
/-- The digest, not run by itself. -/
noncomputable def sum : List Int → List Int := Classical.choose sum_ex
theorem sum_eq (b : List Int) : sum b = hL (stN H0 (msg b) ((msg b).length / 64)) 32 := by rw [show sum = _ from Classical.choose_spec sum_ex]
theorem sum_len (b : List Int) : (sum b).length = 32 := by rw [sum_eq]; exact hL_len _ _
/-- The reference's. -/
def stR (s : List Int) (m : List Int) : Nat → List Int
  | 0 => s
  | k + 1 => compressR (stR s m k) ((m.drop (64 * k)).take 64)
theorem stR_len (s m : List Int) (h : s.length = 8) : ∀ k, (stR s m k).length = 8
  | 0 => h
  | k + 1 => rfl
def hR (s : List Int) : Nat → List Int
  | 0 => List.replicate 32 0
  | i + 1 => ((((hR s i).set (4 * i) (IntKind.u8.wrap (s.getD i 0 / 2 ^ 24))).set (4 * i + 1) (IntKind.u8.wrap (s.getD i 0 / 2 ^ 16))).set (4 * i + 2) (IntKind.u8.wrap (s.getD i 0 / 2 ^ 8))).set (4 * i + 3) (IntKind.u8.wrap (s.getD i 0))
theorem hR_len (s : List Int) : ∀ i, (hR s i).length = 32
  | 0 => by simp [hR]
  | i + 1 => by simp [hR, hR_len s i]
def msgR (b : List Int) : List Int := b ++ refR b.length 8
theorem msgR_len (b : List Int) : (msgR b).length % 64 = 0 := by
  simp only [msgR, List.length_append, refR_len, padZ]
  omega
theorem msgR_le (b : List Int) : (msgR b).length ≤ b.length + 72 := by
  simp only [msgR, List.length_append, refR_len]
  have := padZ_lt b.length
  omega
theorem sumR_ex : ∃ f : List Int → List Int, f = fun b => hR (stR H0 (msgR b) ((msgR b).length / 64)) 8 := ⟨_, rfl⟩
noncomputable def sumR : List Int → List Int := Classical.choose sumR_ex
theorem sumR_eq (b : List Int) : sumR b = hR (stR H0 (msgR b) ((msgR b).length / 64)) 8 := by rw [show sumR = _ from Classical.choose_spec sumR_ex]
theorem sumR_len (b : List Int) : (sumR b).length = 32 := by rw [sumR_eq]; exact hR_len _ _
def keyPad (key : List Int) : List Int := key ++ List.replicate (64 - key.length) 0
def xorL (k : Int) (l : List Int) : List Int := l.map fun x => xorW .u8 x k
noncomputable def hmac (key b : List Int) : List Int := sum (xorL 92 (keyPad key) ++ sum (xorL 54 (keyPad key) ++ b))
noncomputable def hmacR (key b : List Int) : List Int := sumR (xorL 92 (keyPad key) ++ sumR (xorL 54 (keyPad key) ++ b))
def xorN (k : Int) (l : List Int) (i : Nat) : List Int := (l.take i).map (fun x => xorW .u8 x k) ++ l.drop i
def xorZ (k : Int) (l : List Int) (i : Nat) : List Int := (l.take i).map (fun x => xorW .u8 x k) ++ List.replicate (l.length - i) 0
theorem xorN_len (k : Int) (l : List Int) (i : Nat) : (xorN k l i).length = l.length := by simp [xorN]; omega
theorem xorZ_len (k : Int) (l : List Int) (i : Nat) (h : i ≤ l.length) : (xorZ k l i).length = l.length := by simp [xorZ]; omega
theorem xorN_set (k : Int) (l : List Int) (i : Nat) (h : i < l.length) : (xorN k l i).set i (xorW .u8 (l.getD i 0) k) = xorN k l (i + 1) := by
  unfold xorN
  rw [set_append_right _ _ _ _ (by simp; omega), List.drop_eq_getElem_cons h, List.set_cons_zero, List.take_succ_eq_append_getElem h, List.map_append, List.append_assoc, getD_get _ _ _ h]
  rfl
theorem xorZ_set (k : Int) (l : List Int) (i : Nat) (h : i < l.length) : (xorZ k l i).set i (xorW .u8 (l.getD i 0) k) = xorZ k l (i + 1) := by
  unfold xorZ
  rw [set_append_right _ _ _ _ (by simp; omega), show l.length - i = (l.length - (i + 1)) + 1 by omega, List.replicate_succ, List.set_cons_zero, List.take_succ_eq_append_getElem h, List.map_append, List.append_assoc, getD_get _ _ _ h]
  rfl
theorem xorN_zero (k : Int) (l : List Int) : xorN k l 0 = l := by simp [xorN]
theorem xorZ_zero (k : Int) (l : List Int) : xorZ k l 0 = List.replicate l.length 0 := by simp [xorZ]
theorem xorN_all (k : Int) (l : List Int) (n : Nat) (h : l.length = n) : xorN k l n = xorL k l := by subst h; simp [xorN, xorL]
theorem xorZ_all (k : Int) (l : List Int) (n : Nat) (h : l.length = n) : xorZ k l n = xorL k l := by subst h; simp [xorZ, xorL]
theorem xorL_len (k : Int) (l : List Int) : (xorL k l).length = l.length := by simp [xorL]
theorem keyPad_len (key : List Int) (h : key.length ≤ 64) : (keyPad key).length = 64 := by simp [keyPad]; omega
end Go.Fw

/-
Contracts of lengths, small numbers and complements, of the program and of the reference. No conditions.
-/
namespace Go.Fw
set_option linter.unusedVariables false
set_option linter.unusedSimpArgs false
open Go.Proofs
set_option maxRecDepth 10000
theorem nlen_div {x k : Nat} (h : x / 2 ^ k ≠ 0) : nlen x = nlen (x / 2 ^ k) + k := by
  have e : x = x % 2 ^ k + x / 2 ^ k * 2 ^ k := by rw [Nat.mul_comm]; exact (Nat.mod_add_div x (2 ^ k)).symm
  conv => lhs; rw [e]
  exact nlen_add (Nat.mod_lt _ (Nat.two_pow_pos k)) h
def lenTab : List UInt8 := (List.range 256).map fun k => UInt8.ofNat (nlen k)
theorem onS_lenTab {L : List UInt8} {k : Nat} {K : UInt8 → Prop} (hL : L = lenTab) (hk : k < 256) (h : K (UInt8.ofNat (nlen k))) : onS L[k]? K := by
  subst hL
  unfold lenTab
  rw [List.getElem?_map, List.getElem?_range hk]
  exact h
theorem lenTab_intro {L : List UInt8} {i : Int} {k : Nat} {K : UInt8 → Prop} (hL : L = lenTab) (hi : i = k) (hk : k < 256) (h : K (UInt8.ofNat (nlen k))) : onT (chk (0 ≤ i ∧ i < (L.length : Nat))) (onS L[i.toNat]? K) := by
  subst hi
  have hl : L.length = 256 := by rw [hL]; simp [lenTab]
  exact onT_intro (chk_true (by omega)) (onS_lenTab hL (by simpa using hk) (by simpa using h))
theorem len8 {k : Nat} (hk : k < 256) : (UInt8.ofNat (nlen k)).toNat = nlen k := by
  have : nlen k ≤ 8 := nlen_iff.2 hk
  show nlen k % 256 = nlen k
  omega
theorem ret_Len64 (x : Nat) (hx : x < 18446744073709551616) : Returns cx n_bits_Len64 [n64 x] (.int .i64 (nlen x : Nat)) := by
  (refine of_W2 (fn := f_bits_Len64) {} (by kernel_rfl) (by kernel_rfl) (by kernel_rfl) (by kernel_rfl) (by kernel_rfl) ?_)
  by_cases h1 : 4294967296 ≤ x
  · obtain ⟨y1, hy, hl1, hn⟩ : ∃ y : Nat, (x : Int) / 2 ^ Int.toNat 32 = (y : Nat) ∧ y < 4294967296 ∧ nlen x = nlen y + 32 := ⟨x / 4294967296, by show (x : Int) / 4294967296 = _; omega, by omega, nlen_div (k := 32) (by show x / 4294967296 ≠ 0; omega)⟩
    rw [hn]
    ((try (conv => whnf)); (repeat ((first | (refine br_true ?_ ?_; (focus (exact yesA))) | (refine br_false ?_ ?_; (focus (exact noA))) | (refine onS_map ?_ ?_; (focus (exact numA))) | (refine onS_intro (eqTC_ints rfl rfl rfl rfl ?_) ?_; (focus (exact numA))) | refine onS_intro (mapB_u8s _) ?_ | (refine And.intro ?_ ?_; (focus (exact flatA)))); (try (conv => whnf)))))
    rw [hy]
    clear hy hn h1
    by_cases h2 : 65536 ≤ y1
    · obtain ⟨y2, hy, hl2, hn⟩ : ∃ y : Nat, (y1 : Int) / 2 ^ Int.toNat 16 = (y : Nat) ∧ y < 65536 ∧ nlen y1 = nlen y + 16 := ⟨y1 / 65536, by show (y1 : Int) / 65536 = _; omega, by omega, nlen_div (k := 16) (by show y1 / 65536 ≠ 0; omega)⟩
      rw [hn]
      ((try (conv => whnf)); (repeat ((first | (refine br_true ?_ ?_; (focus (exact yesA))) | (refine br_false ?_ ?_; (focus (exact noA))) | (refine onS_map ?_ ?_; (focus (exact numA))) | (refine onS_intro (eqTC_ints rfl rfl rfl rfl ?_) ?_; (focus (exact numA))) | refine onS_intro (mapB_u8s _) ?_ | (refine And.intro ?_ ?_; (focus (exact flatA)))); (try (conv => whnf)))))
      rw [hy]
      clear hy hn h2
      by_cases h3 : 256 ≤ y2
      · obtain ⟨y3, hy, hl3, hn⟩ : ∃ y : Nat, (y2 : Int) / 2 ^ Int.toNat 8 = (y : Nat) ∧ y < 256 ∧ nlen y2 = nlen y + 8 := ⟨y2 / 256, by show (y2 : Int) / 256 = _; omega, by omega, nlen_div (k := 8) (by show y2 / 256 ≠ 0; omega)⟩
        rw [hn]
        ((try (conv => whnf)); (repeat ((first | (refine br_true ?_ ?_; (focus (exact yesA))) | (refine br_false ?_ ?_; (focus (exact noA))) | (refine onS_map ?_ ?_; (focus (exact numA))) | (refine onS_intro (eqTC_ints rfl rfl rfl rfl ?_) ?_; (focus (exact numA))) | refine onS_intro (mapB_u8s _) ?_ | (refine And.intro ?_ ?_; (focus (exact flatA)))); (try (conv => whnf)))))
        rw [hy]
        clear hy hn h3
        ((try (conv => whnf)); (repeat ((first | (refine br_true ?_ ?_; (focus (exact yesA))) | (refine br_false ?_ ?_; (focus (exact noA))) | (refine onS_map ?_ ?_; (focus (exact numA))) | (refine onS_intro (eqTC_ints rfl rfl rfl rfl ?_) ?_; (focus (exact numA))) | refine onS_intro (mapB_u8s _) ?_ | (refine And.intro ?_ ?_; (focus (exact flatA)))); (try (conv => whnf)))))
        have h9 : nlen y3 ≤ 8 := nlen_iff.2 (show y3 < 2 ^ 8 by omega)
        refine lenTab_intro (k := y3) (by kernel_rfl) (by rw [wrap_u8]; omega) (by omega) ?_
        rw [len8 (by omega)]
        ((try (conv => whnf)); (repeat ((first | (refine br_true ?_ ?_; (focus (exact yesA))) | (refine br_false ?_ ?_; (focus (exact noA))) | (refine onS_map ?_ ?_; (focus (exact numA))) | (refine onS_intro (eqTC_ints rfl rfl rfl rfl ?_) ?_; (focus (exact numA))) | refine onS_intro (mapB_u8s _) ?_ | (refine And.intro ?_ ?_; (focus (exact flatA)))); (try (conv => whnf)))))
        refine le_same (congrArg (D.int .i64) ?_)
        push_cast; omega
      · have hl3 : y2 < 256 := by omega
        clear h3
        ((try (conv => whnf)); (repeat ((first | (refine br_true ?_ ?_; (focus (exact yesA))) | (refine br_false ?_ ?_; (focus (exact noA))) | (refine onS_map ?_ ?_; (focus (exact numA))) | (refine onS_intro (eqTC_ints rfl rfl rfl rfl ?_) ?_; (focus (exact numA))) | refine onS_intro (mapB_u8s _) ?_ | (refine And.intro ?_ ?_; (focus (exact flatA)))); (try (conv => whnf)))))
        have h9 : nlen y2 ≤ 8 := nlen_iff.2 (show y2 < 2 ^ 8 by omega)
        refine lenTab_intro (k := y2) (by kernel_rfl) (by rw [wrap_u8]; omega) (by omega) ?_
        rw [len8 (by omega)]
        ((try (conv => whnf)); (repeat ((first | (refine br_true ?_ ?_; (focus (exact yesA))) | (refine br_false ?_ ?_; (focus (exact noA))) | (refine onS_map ?_ ?_; (focus (exact numA))) | (refine onS_intro (eqTC_ints rfl rfl rfl rfl ?_) ?_; (focus (exact numA))) | refine onS_intro (mapB_u8s _) ?_ | (refine And.intro ?_ ?_; (focus (exact flatA)))); (try (conv => whnf)))))
        refine le_same (congrArg (D.int .i64) ?_)
        push_cast; omega
    · have hl2 : y1 < 65536 := by omega
      clear h2
      by_cases h3 : 256 ≤ y1
      · obtain ⟨y3, hy, hl3, hn⟩ : ∃ y : Nat, (y1 : Int) / 2 ^ Int.toNat 8 = (y : Nat) ∧ y < 256 ∧ nlen y1 = nlen y + 8 := ⟨y1 / 256, by show (y1 : Int) / 256 = _; omega, by omega, nlen_div (k := 8) (by show y1 / 256 ≠ 0; omega)⟩
        rw [hn]
        ((try (conv => whnf)); (repeat ((first | (refine br_true ?_ ?_; (focus (exact yesA))) | (refine br_false ?_ ?_; (focus (exact noA))) | (refine onS_map ?_ ?_; (focus (exact numA))) | (refine onS_intro (eqTC_ints rfl rfl rfl rfl ?_) ?_; (focus (exact numA))) | refine onS_intro (mapB_u8s _) ?_ | (refine And.intro ?_ ?_; (focus (exact flatA)))); (try (conv => whnf)))))
        rw [hy]
        clear hy hn h3
        ((try (conv => whnf)); (repeat ((first | (refine br_true ?_ ?_; (focus (exact yesA))) | (refine br_false ?_ ?_; (focus (exact noA))) | (refine onS_map ?_ ?_; (focus (exact numA))) | (refine onS_intro (eqTC_ints rfl rfl rfl rfl ?_) ?_; (focus (exact numA))) | refine onS_intro (mapB_u8s _) ?_ | (refine And.intro ?_ ?_; (focus (exact flatA)))); (try (conv => whnf)))))
        have h9 : nlen y3 ≤ 8 := nlen_iff.2 (show y3 < 2 ^ 8 by omega)
        refine lenTab_intro (k := y3) (by kernel_rfl) (by rw [wrap_u8]; omega) (by omega) ?_
        rw [len8 (by omega)]
        ((try (conv => whnf)); (repeat ((first | (refine br_true ?_ ?_; (focus (exact yesA))) | (refine br_false ?_ ?_; (focus (exact noA))) | (refine onS_map ?_ ?_; (focus (exact numA))) | (refine onS_intro (eqTC_ints rfl rfl rfl rfl ?_) ?_; (focus (exact numA))) | refine onS_intro (mapB_u8s _) ?_ | (refine And.intro ?_ ?_; (focus (exact flatA)))); (try (conv => whnf)))))
        refine le_same (congrArg (D.int .i64) ?_)
        push_cast; omega
      · have hl3 : y1 < 256 := by omega
        clear h3
        ((try (conv => whnf)); (repeat ((first | (refine br_true ?_ ?_; (focus (exact yesA))) | (refine br_false ?_ ?_; (focus (exact noA))) | (refine onS_map ?_ ?_; (focus (exact numA))) | (refine onS_intro (eqTC_ints rfl rfl rfl rfl ?_) ?_; (focus (exact numA))) | refine onS_intro (mapB_u8s _) ?_ | (refine And.intro ?_ ?_; (focus (exact flatA)))); (try (conv => whnf)))))
        have h9 : nlen y1 ≤ 8 := nlen_iff.2 (show y1 < 2 ^ 8 by omega)
        refine lenTab_intro (k := y1) (by kernel_rfl) (by rw [wrap_u8]; omega) (by omega) ?_
        rw [len8 (by omega)]
        ((try (conv => whnf)); (repeat ((first | (refine br_true ?_ ?_; (focus (exact yesA))) | (refine br_false ?_ ?_; (focus (exact noA))) | (refine onS_map ?_ ?_; (focus (exact numA))) | (refine onS_intro (eqTC_ints rfl rfl rfl rfl ?_) ?_; (focus (exact numA))) | refine onS_intro (mapB_u8s _) ?_ | (refine And.intro ?_ ?_; (focus (exact flatA)))); (try (conv => whnf)))))
        refine le_same (congrArg (D.int .i64) ?_)
        push_cast; omega
  · have hl1 : x < 4294967296 := by omega
    clear h1
    by_cases h2 : 65536 ≤ x
    · obtain ⟨y2, hy, hl2, hn⟩ : ∃ y : Nat, (x : Int) / 2 ^ Int.toNat 16 = (y : Nat) ∧ y < 65536 ∧ nlen x = nlen y + 16 := ⟨x / 65536, by show (x : Int) / 65536 = _; omega, by omega, nlen_div (k := 16) (by show x / 65536 ≠ 0; omega)⟩
      rw [hn]
      ((try (conv => whnf)); (repeat ((first | (refine br_true ?_ ?_; (focus (exact yesA))) | (refine br_false ?_ ?_; (focus (exact noA))) | (refine onS_map ?_ ?_; (focus (exact numA))) | (refine onS_intro (eqTC_ints rfl rfl rfl rfl ?_) ?_; (focus (exact numA))) | refine onS_intro (mapB_u8s _) ?_ | (refine And.intro ?_ ?_; (focus (exact flatA)))); (try (conv => whnf)))))
      rw [hy]
      clear hy hn h2
      by_cases h3 : 256 ≤ y2
      · obtain ⟨y3, hy, hl3, hn⟩ : ∃ y : Nat, (y2 : Int) / 2 ^ Int.toNat 8 = (y : Nat) ∧ y < 256 ∧ nlen y2 = nlen y + 8 := ⟨y2 / 256, by show (y2 : Int) / 256 = _; omega, by omega, nlen_div (k := 8) (by show y2 / 256 ≠ 0; omega)⟩
        rw [hn]
        ((try (conv => whnf)); (repeat ((first | (refine br_true ?_ ?_; (focus (exact yesA))) | (refine br_false ?_ ?_; (focus (exact noA))) | (refine onS_map ?_ ?_; (focus (exact numA))) | (refine onS_intro (eqTC_ints rfl rfl rfl rfl ?_) ?_; (focus (exact numA))) | refine onS_intro (mapB_u8s _) ?_ | (refine And.intro ?_ ?_; (focus (exact flatA)))); (try (conv => whnf)))))
        rw [hy]
        clear hy hn h3
        ((try (conv => whnf)); (repeat ((first | (refine br_true ?_ ?_; (focus (exact yesA))) | (refine br_false ?_ ?_; (focus (exact noA))) | (refine onS_map ?_ ?_; (focus (exact numA))) | (refine onS_intro (eqTC_ints rfl rfl rfl rfl ?_) ?_; (focus (exact numA))) | refine onS_intro (mapB_u8s _) ?_ | (refine And.intro ?_ ?_; (focus (exact flatA)))); (try (conv => whnf)))))
        have h9 : nlen y3 ≤ 8 := nlen_iff.2 (show y3 < 2 ^ 8 by omega)
        refine lenTab_intro (k := y3) (by kernel_rfl) (by rw [wrap_u8]; omega) (by omega) ?_
        rw [len8 (by omega)]
        ((try (conv => whnf)); (repeat ((first | (refine br_true ?_ ?_; (focus (exact yesA))) | (refine br_false ?_ ?_; (focus (exact noA))) | (refine onS_map ?_ ?_; (focus (exact numA))) | (refine onS_intro (eqTC_ints rfl rfl rfl rfl ?_) ?_; (focus (exact numA))) | refine onS_intro (mapB_u8s _) ?_ | (refine And.intro ?_ ?_; (focus (exact flatA)))); (try (conv => whnf)))))
        refine le_same (congrArg (D.int .i64) ?_)
        push_cast; omega
      · have hl3 : y2 < 256 := by omega
        clear h3
        ((try (conv => whnf)); (repeat ((first | (refine br_true ?_ ?_; (focus (exact yesA))) | (refine br_false ?_ ?_; (focus (exact noA))) | (refine onS_map ?_ ?_; (focus (exact numA))) | (refine onS_intro (eqTC_ints rfl rfl rfl rfl ?_) ?_; (focus (exact numA))) | refine onS_intro (mapB_u8s _) ?_ | (refine And.intro ?_ ?_; (focus (exact flatA)))); (try (conv => whnf)))))
        have h9 : nlen y2 ≤ 8 := nlen_iff.2 (show y2 < 2 ^ 8 by omega)
        refine lenTab_intro (k := y2) (by kernel_rfl) (by rw [wrap_u8]; omega) (by omega) ?_
        rw [len8 (by omega)]
        ((try (conv => whnf)); (repeat ((first | (refine br_true ?_ ?_; (focus (exact yesA))) | (refine br_false ?_ ?_; (focus (exact noA))) | (refine onS_map ?_ ?_; (focus (exact numA))) | (refine onS_intro (eqTC_ints rfl rfl rfl rfl ?_) ?_; (focus (exact numA))) | refine onS_intro (mapB_u8s _) ?_ | (refine And.intro ?_ ?_; (focus (exact flatA)))); (try (conv => whnf)))))
        refine le_same (congrArg (D.int .i64) ?_)
        push_cast; omega
    · have hl2 : x < 65536 := by omega
      clear h2
      by_cases h3 : 256 ≤ x
      · obtain ⟨y3, hy, hl3, hn⟩ : ∃ y : Nat, (x : Int) / 2 ^ Int.toNat 8 = (y : Nat) ∧ y < 256 ∧ nlen x = nlen y + 8 := ⟨x / 256, by show (x : Int) / 256 = _; omega, by omega, nlen_div (k := 8) (by show x / 256 ≠ 0; omega)⟩
        rw [hn]
        ((try (conv => whnf)); (repeat ((first | (refine br_true ?_ ?_; (focus (exact yesA))) | (refine br_false ?_ ?_; (focus (exact noA))) | (refine onS_map ?_ ?_; (focus (exact numA))) | (refine onS_intro (eqTC_ints rfl rfl rfl rfl ?_) ?_; (focus (exact numA))) | refine onS_intro (mapB_u8s _) ?_ | (refine And.intro ?_ ?_; (focus (exact flatA)))); (try (conv => whnf)))))
        rw [hy]
        clear hy hn h3
        ((try (conv => whnf)); (repeat ((first | (refine br_true ?_ ?_; (focus (exact yesA))) | (refine br_false ?_ ?_; (focus (exact noA))) | (refine onS_map ?_ ?_; (focus (exact numA))) | (refine onS_intro (eqTC_ints rfl rfl rfl rfl ?_) ?_; (focus (exact numA))) | refine onS_intro (mapB_u8s _) ?_ | (refine And.intro ?_ ?_; (focus (exact flatA)))); (try (conv => whnf)))))
        have h9 : nlen y3 ≤ 8 := nlen_iff.2 (show y3 < 2 ^ 8 by omega)
        refine lenTab_intro (k := y3) (by kernel_rfl) (by rw [wrap_u8]; omega) (by omega) ?_
        rw [len8 (by omega)]
        ((try (conv => whnf)); (repeat ((first | (refine br_true ?_ ?_; (focus (exact yesA))) | (refine br_false ?_ ?_; (focus (exact noA))) | (refine onS_map ?_ ?_; (focus (exact numA))) | (refine onS_intro (eqTC_ints rfl rfl rfl rfl ?_) ?_; (focus (exact numA))) | refine onS_intro (mapB_u8s _) ?_ | (refine And.intro ?_ ?_; (focus (exact flatA)))); (try (conv => whnf)))))
        refine le_same (congrArg (D.int .i64) ?_)
        push_cast; omega
      · have hl3 : x < 256 := by omega
        clear h3
        ((try (conv => whnf)); (repeat ((first | (refine br_true ?_ ?_; (focus (exact yesA))) | (refine br_false ?_ ?_; (focus (exact noA))) | (refine onS_map ?_ ?_; (focus (exact numA))) | (refine onS_intro (eqTC_ints rfl rfl rfl rfl ?_) ?_; (focus (exact numA))) | refine onS_intro (mapB_u8s _) ?_ | (refine And.intro ?_ ?_; (focus (exact flatA)))); (try (conv => whnf)))))
        have h9 : nlen x ≤ 8 := nlen_iff.2 (show x < 2 ^ 8 by omega)
        refine lenTab_intro (k := x) (by kernel_rfl) (by rw [wrap_u8]; omega) (by omega) ?_
        rw [len8 (by omega)]
        ((try (conv => whnf)); (repeat ((first | (refine br_true ?_ ?_; (focus (exact yesA))) | (refine br_false ?_ ?_; (focus (exact noA))) | (refine onS_map ?_ ?_; (focus (exact numA))) | (refine onS_intro (eqTC_ints rfl rfl rfl rfl ?_) ?_; (focus (exact numA))) | refine onS_intro (mapB_u8s _) ?_ | (refine And.intro ?_ ?_; (focus (exact flatA)))); (try (conv => whnf)))))
        refine le_same (congrArg (D.int .i64) ?_)
        push_cast; omega
end Go.Fw

/-
Contracts of lengths, small numbers and complements, of the program and of the reference. No conditions.
-/
namespace Go.Fw
set_option linter.unusedVariables false
set_option linter.unusedSimpArgs false
open Go.Proofs
set_option maxRecDepth 10000
theorem p64 : (2 : Nat) ^ 64 = 18446744073709551616 := by decide
theorem p128 : (2 : Nat) ^ 128 = 340282366920938463463374607431768211456 := by decide
theorem p192 : (2 : Nat) ^ 192 = 6277101735386680763835789423207666416102355444464034512896 := by decide
theorem len_parts3 {a0 a1 a2 a3 : Nat} (h0 : a0 < 18446744073709551616) (h1 : a1 < 18446744073709551616) (h2 : a2 < 18446744073709551616) (h : a3 ≠ 0) : nlen (a0 + a1 * 18446744073709551616 + a2 * 340282366920938463463374607431768211456 + a3 * 6277101735386680763835789423207666416102355444464034512896) = nlen a3 + 192 := by
  have := nlen_add (k := 192) (b := a0 + a1 * 18446744073709551616 + a2 * 340282366920938463463374607431768211456) (by rw [p192]; omega) h
  rw [p192] at this
  exact this
theorem len_parts2 {a0 a1 a2 : Nat} (h0 : a0 < 18446744073709551616) (h1 : a1 < 18446744073709551616) (h : a2 ≠ 0) : nlen (a0 + a1 * 18446744073709551616 + a2 * 340282366920938463463374607431768211456 + 0 * 6277101735386680763835789423207666416102355444464034512896) = nlen a2 + 128 := by
  have := nlen_add (k := 128) (b := a0 + a1 * 18446744073709551616) (by rw [p128]; omega) h
  rw [p128] at this
  rw [show a0 + a1 * 18446744073709551616 + a2 * 340282366920938463463374607431768211456 + 0 * 6277101735386680763835789423207666416102355444464034512896 = a0 + a1 * 18446744073709551616 + a2 * 340282366920938463463374607431768211456 by omega]
  exact this
theorem len_parts1 {a0 a1 : Nat} (h0 : a0 < 18446744073709551616) (h : a1 ≠ 0) : nlen (a0 + a1 * 18446744073709551616 + 0 * 340282366920938463463374607431768211456 + 0 * 6277101735386680763835789423207666416102355444464034512896) = nlen a1 + 64 := by
  have := nlen_add (k := 64) (b := a0) (by rw [p64]; omega) h
  rw [p64] at this
  rw [show a0 + a1 * 18446744073709551616 + 0 * 340282366920938463463374607431768211456 + 0 * 6277101735386680763835789423207666416102355444464034512896 = a0 + a1 * 18446744073709551616 by omega]
  exact this
theorem ret_LenU (a : Nat) (ha : a < 115792089237316195423570985008687907853269984665640564039457584007913129639936) : Returns cx n_wide_Len [U a] (.int .i64 (nlen a : Nat)) := by
  obtain ⟨a0, a1, a2, a3, h0, h1, h2, h3, ea, ua⟩ := U_split ha
  rw [ua]
  (refine of_W2 (fn := f_wide_Len) {} (by kernel_rfl) (by kernel_rfl) (by kernel_rfl) (by kernel_rfl) (by kernel_rfl) ?_)
  ((try (conv => whnf)); (repeat ((first | (refine br_true ?_ ?_; (focus (exact yesA))) | (refine br_false ?_ ?_; (focus (exact noA))) | (refine onS_map ?_ ?_; (focus (exact numA))) | (refine onS_intro (eqTC_ints rfl rfl rfl rfl ?_) ?_; (focus (exact numA))) | refine onS_intro (mapB_u8s _) ?_ | (refine And.intro ?_ ?_; (focus (exact flatA)))); (try (conv => whnf)))))
  refine LoopW2_n 5 (iter_go ?_)
  by_cases g3 : a3 ≠ 0
  · rw [ea, len_parts3 h0 h1 h2 g3]
    have hl : nlen a3 ≤ 64 := nlen_iff.2 h3
    ((try (conv => whnf)); (repeat ((first | (refine br_true ?_ ?_; (focus (exact yesA))) | (refine br_false ?_ ?_; (focus (exact noA))) | (refine onS_map ?_ ?_; (focus (exact numA))) | (refine onS_intro (eqTC_ints rfl rfl rfl rfl ?_) ?_; (focus (exact numA))) | refine onS_intro (mapB_u8s _) ?_ | (refine And.intro ?_ ?_; (focus (exact flatA)))); (try (conv => whnf)))))
    ((first | refine call_intro (ret_Len64 a3 h3) (les_refl _) ?_ | refine call_intro (ret_Len64 a3 h3) lesA ?_); (try (conv => whnf)))
    ((try (conv => whnf)); (repeat ((first | (refine br_true ?_ ?_; (focus (exact yesA))) | (refine br_false ?_ ?_; (focus (exact noA))) | (refine onS_map ?_ ?_; (focus (exact numA))) | (refine onS_intro (eqTC_ints rfl rfl rfl rfl ?_) ?_; (focus (exact numA))) | refine onS_intro (mapB_u8s _) ?_ | (refine And.intro ?_ ?_; (focus (exact flatA)))); (try (conv => whnf)))))
    exact le_same (congrArg (D.int .i64) (by push_cast; omega))
  obtain rfl : a3 = 0 := by omega
  ((try (conv => whnf)); (repeat ((first | (refine br_true ?_ ?_; (focus (exact yesA))) | (refine br_false ?_ ?_; (focus (exact noA))) | (refine onS_map ?_ ?_; (focus (exact numA))) | (refine onS_intro (eqTC_ints rfl rfl rfl rfl ?_) ?_; (focus (exact numA))) | refine onS_intro (mapB_u8s _) ?_ | (refine And.intro ?_ ?_; (focus (exact flatA)))); (try (conv => whnf)))))
  refine ⟨_, _, rfl, .refl _ _, ?_⟩
  by_cases g2 : a2 ≠ 0
  · rw [ea, len_parts2 h0 h1 g2]
    have hl : nlen a2 ≤ 64 := nlen_iff.2 h2
    ((try (conv => whnf)); (repeat ((first | (refine br_true ?_ ?_; (focus (exact yesA))) | (refine br_false ?_ ?_; (focus (exact noA))) | (refine onS_map ?_ ?_; (focus (exact numA))) | (refine onS_intro (eqTC_ints rfl rfl rfl rfl ?_) ?_; (focus (exact numA))) | refine onS_intro (mapB_u8s _) ?_ | (refine And.intro ?_ ?_; (focus (exact flatA)))); (try (conv => whnf)))))
    ((first | refine call_intro (ret_Len64 a2 h2) (les_refl _) ?_ | refine call_intro (ret_Len64 a2 h2) lesA ?_); (try (conv => whnf)))
    ((try (conv => whnf)); (repeat ((first | (refine br_true ?_ ?_; (focus (exact yesA))) | (refine br_false ?_ ?_; (focus (exact noA))) | (refine onS_map ?_ ?_; (focus (exact numA))) | (refine onS_intro (eqTC_ints rfl rfl rfl rfl ?_) ?_; (focus (exact numA))) | refine onS_intro (mapB_u8s _) ?_ | (refine And.intro ?_ ?_; (focus (exact flatA)))); (try (conv => whnf)))))
    exact le_same (congrArg (D.int .i64) (by push_cast; omega))
  obtain rfl : a2 = 0 := by omega
  ((try (conv => whnf)); (repeat ((first | (refine br_true ?_ ?_; (focus (exact yesA))) | (refine br_false ?_ ?_; (focus (exact noA))) | (refine onS_map ?_ ?_; (focus (exact numA))) | (refine onS_intro (eqTC_ints rfl rfl rfl rfl ?_) ?_; (focus (exact numA))) | refine onS_intro (mapB_u8s _) ?_ | (refine And.intro ?_ ?_; (focus (exact flatA)))); (try (conv => whnf)))))
  refine ⟨_, _, rfl, .refl _ _, ?_⟩
  by_cases g1 : a1 ≠ 0
  · rw [ea, len_parts1 h0 g1]
    have hl : nlen a1 ≤ 64 := nlen_iff.2 h1
    ((try (conv => whnf)); (repeat ((first | (refine br_true ?_ ?_; (focus (exact yesA))) | (refine br_false ?_ ?_; (focus (exact noA))) | (refine onS_map ?_ ?_; (focus (exact numA))) | (refine onS_intro (eqTC_ints rfl rfl rfl rfl ?_) ?_; (focus (exact numA))) | refine onS_intro (mapB_u8s _) ?_ | (refine And.intro ?_ ?_; (focus (exact flatA)))); (try (conv => whnf)))))
    ((first | refine call_intro (ret_Len64 a1 h1) (les_refl _) ?_ | refine call_intro (ret_Len64 a1 h1) lesA ?_); (try (conv => whnf)))
    ((try (conv => whnf)); (repeat ((first | (refine br_true ?_ ?_; (focus (exact yesA))) | (refine br_false ?_ ?_; (focus (exact noA))) | (refine onS_map ?_ ?_; (focus (exact numA))) | (refine onS_intro (eqTC_ints rfl rfl rfl rfl ?_) ?_; (focus (exact numA))) | refine onS_intro (mapB_u8s _) ?_ | (refine And.intro ?_ ?_; (focus (exact flatA)))); (try (conv => whnf)))))
    exact le_same (congrArg (D.int .i64) (by push_cast; omega))
  obtain rfl : a1 = 0 := by omega
  ((try (conv => whnf)); (repeat ((first | (refine br_true ?_ ?_; (focus (exact yesA))) | (refine br_false ?_ ?_; (focus (exact noA))) | (refine onS_map ?_ ?_; (focus (exact numA))) | (refine onS_intro (eqTC_ints rfl rfl rfl rfl ?_) ?_; (focus (exact numA))) | refine onS_intro (mapB_u8s _) ?_ | (refine And.intro ?_ ?_; (focus (exact flatA)))); (try (conv => whnf)))))
  refine ⟨_, _, rfl, .refl _ _, ?_⟩
  obtain rfl : a = a0 := by omega
  by_cases g0 : a ≠ 0
  · have hl : nlen a ≤ 64 := nlen_iff.2 h0
    ((try (conv => whnf)); (repeat ((first | (refine br_true ?_ ?_; (focus (exact yesA))) | (refine br_false ?_ ?_; (focus (exact noA))) | (refine onS_map ?_ ?_; (focus (exact numA))) | (refine onS_intro (eqTC_ints rfl rfl rfl rfl ?_) ?_; (focus (exact numA))) | refine onS_intro (mapB_u8s _) ?_ | (refine And.intro ?_ ?_; (focus (exact flatA)))); (try (conv => whnf)))))
    ((first | refine call_intro (ret_Len64 a h0) (les_refl _) ?_ | refine call_intro (ret_Len64 a h0) lesA ?_); (try (conv => whnf)))
    ((try (conv => whnf)); (repeat ((first | (refine br_true ?_ ?_; (focus (exact yesA))) | (refine br_false ?_ ?_; (focus (exact noA))) | (refine onS_map ?_ ?_; (focus (exact numA))) | (refine onS_intro (eqTC_ints rfl rfl rfl rfl ?_) ?_; (focus (exact numA))) | refine onS_intro (mapB_u8s _) ?_ | (refine And.intro ?_ ?_; (focus (exact flatA)))); (try (conv => whnf)))))
    exact le_same (congrArg (D.int .i64) (by omega))
  obtain rfl : a = 0 := by omega
  rw [nlen_zero]
  ((try (conv => whnf)); (repeat ((first | (refine br_true ?_ ?_; (focus (exact yesA))) | (refine br_false ?_ ?_; (focus (exact noA))) | (refine onS_map ?_ ?_; (focus (exact numA))) | (refine onS_intro (eqTC_ints rfl rfl rfl rfl ?_) ?_; (focus (exact numA))) | refine onS_intro (mapB_u8s _) ?_ | (refine And.intro ?_ ?_; (focus (exact flatA)))); (try (conv => whnf)))))
  refine ⟨_, _, rfl, .refl _ _, ?_⟩
  ((try (conv => whnf)); (repeat ((first | (refine br_true ?_ ?_; (focus (exact yesA))) | (refine br_false ?_ ?_; (focus (exact noA))) | (refine onS_map ?_ ?_; (focus (exact numA))) | (refine onS_intro (eqTC_ints rfl rfl rfl rfl ?_) ?_; (focus (exact numA))) | refine onS_intro (mapB_u8s _) ?_ | (refine And.intro ?_ ?_; (focus (exact flatA)))); (try (conv => whnf)))))
  exact D.le.refl _
theorem lt_of_bit {a j : Nat} (h : a < 2 ^ (j + 1)) (hb : a.testBit j = false) : a < 2 ^ j := by
  have := mod_next a j
  rw [Nat.mod_eq_of_lt h, hb] at this
  simp at this
  rw [this]
  exact Nat.mod_lt _ (Nat.two_pow_pos j)
theorem rer_LenU (a : Nat) (ha : a < 115792089237316195423570985008687907853269984665640564039457584007913129639936) : Returns cx n_lightclientref02_Len [U a] (.int .i64 (nlen a : Nat)) := by
  (refine of_W2 (fn := f_lightclientref02_Len) {} (by kernel_rfl) (by kernel_rfl) (by kernel_rfl) (by kernel_rfl) (by kernel_rfl) ?_)
  ((try (conv => whnf)); (repeat ((first | (refine br_true ?_ ?_; (focus (exact yesA))) | (refine br_false ?_ ?_; (focus (exact noA))) | (refine onS_map ?_ ?_; (focus (exact numA))) | (refine onS_intro (eqTC_ints rfl rfl rfl rfl ?_) ?_; (focus (exact numA))) | refine onS_intro (mapB_u8s _) ?_ | (refine And.intro ?_ ?_; (focus (exact flatA)))); (try (conv => whnf)))))
  refine LoopW2_rule (fun k : Nat => [(1, .ptr 0 0 [] (.arr 4 .one)), (3, .d (.int .i64 ((k : Int) - 1)))]) (fun _ => [some (.fix (.d (U a)))]) (fun k => k ≤ 256 ∧ a < 2 ^ k) (fun k => k) _ rfl 256 (Wk.go ?_ rfl ?_ rfl) ⟨Nat.le_refl _, ha⟩ ?_
  rotate_left 2
  · rintro k K ⟨hk, hl⟩ hK
    simp only at hk hl hK ⊢
    cases k with
    | zero =>
      obtain rfl : a = 0 := by omega
      rw [nlen_zero]
      ((try (conv => whnf)); (repeat ((first | (refine br_true ?_ ?_; (focus (exact yesA))) | (refine br_false ?_ ?_; (focus (exact noA))) | (refine onS_map ?_ ?_; (focus (exact numA))) | (refine onS_intro (eqTC_ints rfl rfl rfl rfl ?_) ?_; (focus (exact numA))) | refine onS_intro (mapB_u8s _) ?_ | (refine And.intro ?_ ?_; (focus (exact flatA)))); (try (conv => whnf)))))
      exact D.le.refl _
    | succ j =>
      have e : ((j + 1 : Nat) : Int) - 1 = (j : Int) := by omega
      rw [e]
      ((try (conv => whnf)); (repeat ((first | (refine br_true ?_ ?_; (focus (exact yesA))) | (refine br_false ?_ ?_; (focus (exact noA))) | (refine onS_map ?_ ?_; (focus (exact numA))) | (refine onS_intro (eqTC_ints rfl rfl rfl rfl ?_) ?_; (focus (exact numA))) | refine onS_intro (mapB_u8s _) ?_ | (refine And.intro ?_ ?_; (focus (exact flatA)))); (try (conv => whnf)))))
      ((first | refine call_intro (rer_Bit a j (by omega)) (les_refl _) ?_ | refine call_intro (rer_Bit a j (by omega)) lesA ?_); (try (conv => whnf)))
      cases hb : a.testBit j with
      | true =>
        rw [nlen_eq (Nat.ge_two_pow_of_testBit hb) hl]
        ((try (conv => whnf)); (repeat ((first | (refine br_true ?_ ?_; (focus (exact yesA))) | (refine br_false ?_ ?_; (focus (exact noA))) | (refine onS_map ?_ ?_; (focus (exact numA))) | (refine onS_intro (eqTC_ints rfl rfl rfl rfl ?_) ?_; (focus (exact numA))) | refine onS_intro (mapB_u8s _) ?_ | (refine And.intro ?_ ?_; (focus (exact flatA)))); (try (conv => whnf)))))
        exact D.le.refl _
      | false =>
        ((try (conv => whnf)); (repeat ((first | (refine br_true ?_ ?_; (focus (exact yesA))) | (refine br_false ?_ ?_; (focus (exact noA))) | (refine onS_map ?_ ?_; (focus (exact numA))) | (refine onS_intro (eqTC_ints rfl rfl rfl rfl ?_) ?_; (focus (exact numA))) | refine onS_intro (mapB_u8s _) ?_ | (refine And.intro ?_ ?_; (focus (exact flatA)))); (try (conv => whnf)))))
        refine hK j _ _ rfl (Wk.go ?_ rfl ?_ rfl) ⟨by omega, lt_of_bit hl hb⟩ (by omega)
        all_goals (try (repeat' (first | exact trivial | rfl | exact .inl rfl | exact .inr rfl | refine ⟨?_, ?_⟩)))
  all_goals (try (repeat' (first | exact trivial | rfl | exact .inl rfl | exact .inr rfl | refine ⟨?_, ?_⟩)))
theorem U_small {n : Nat} (h : n < 18446744073709551616) : u4 n 0 0 0 = U n := by
  rw [u4_U h (by decide) (by decide) (by decide)]
  simp
theorem ret_FromUintU (n : Nat) (h : n < 18446744073709551616) : Returns cx n_wide_FromUint [n64 n] (U n) := by
  rw [← U_small h]
  exact ret_FromUint n
theorem rer_FromUintU (n : Nat) (h : n < 18446744073709551616) : Returns cx n_lightclientref02_FromUint [n64 n] (U n) := by
  rw [← U_small h]
  (refine of_W2 (fn := f_lightclientref02_FromUint) {} (by kernel_rfl) (by kernel_rfl) (by kernel_rfl) (by kernel_rfl) (by kernel_rfl) ?_)
  ((try (conv => whnf)); (repeat ((first | (refine br_true ?_ ?_; (focus (exact yesA))) | (refine br_false ?_ ?_; (focus (exact noA))) | (refine onS_map ?_ ?_; (focus (exact numA))) | (refine onS_intro (eqTC_ints rfl rfl rfl rfl ?_) ?_; (focus (exact numA))) | refine onS_intro (mapB_u8s _) ?_ | (refine And.intro ?_ ?_; (focus (exact flatA)))); (try (conv => whnf)))))
  exact D.le.refl _
theorem ret_NotU (a : Nat) (ha : a < 115792089237316195423570985008687907853269984665640564039457584007913129639936) : Returns cx n_wide_Not [U a] (U (115792089237316195423570985008687907853269984665640564039457584007913129639935 - a)) := by
  obtain ⟨a0, a1, a2, a3, h0, h1, h2, h3, ea, ua⟩ := U_split ha
  rw [ua]
  have h := ret_Not a0 a1 a2 a3 h0 h1 h2 h3
  rw [u4_U (a := 18446744073709551615 - a0) (by omega) (by omega) (by omega) (by omega)] at h
  rw [show 115792089237316195423570985008687907853269984665640564039457584007913129639935 - a = 18446744073709551615 - a0 + (18446744073709551615 - a1) * 18446744073709551616 + (18446744073709551615 - a2) * 340282366920938463463374607431768211456 + (18446744073709551615 - a3) * 6277101735386680763835789423207666416102355444464034512896 by omega]
  exact h
theorem rer_NotU (a : Nat) (ha : a < 115792089237316195423570985008687907853269984665640564039457584007913129639936) : Returns cx n_lightclientref02_Not [U a] (U (115792089237316195423570985008687907853269984665640564039457584007913129639935 - a)) := by
  obtain ⟨a0, a1, a2, a3, h0, h1, h2, h3, ea, ua⟩ := U_split ha
  rw [ua]
  rw [show 115792089237316195423570985008687907853269984665640564039457584007913129639935 - a = 18446744073709551615 - a0 + (18446744073709551615 - a1) * 18446744073709551616 + (18446744073709551615 - a2) * 340282366920938463463374607431768211456 + (18446744073709551615 - a3) * 6277101735386680763835789423207666416102355444464034512896 by omega]
  rw [← u4_U (a := 18446744073709551615 - a0) (by omega) (by omega) (by omega) (by omega)]
  have e : u4 (18446744073709551615 - a0) (18446744073709551615 - a1) (18446744073709551615 - a2) (18446744073709551615 - a3) = .arr 4 .one [.int .u64 (notW .u64 a0), .int .u64 (notW .u64 a1), .int .u64 (notW .u64 a2), .int .u64 (notW .u64 a3)] := by
    rw [not64 h0, not64 h1, not64 h2, not64 h3]; rfl
  rw [e]
  (refine of_W2 (fn := f_lightclientref02_Not) {} (by kernel_rfl) (by kernel_rfl) (by kernel_rfl) (by kernel_rfl) (by kernel_rfl) ?_)
  ((try (conv => whnf)); (repeat ((first | (refine br_true ?_ ?_; (focus (exact yesA))) | (refine br_false ?_ ?_; (focus (exact noA))) | (refine onS_map ?_ ?_; (focus (exact numA))) | (refine onS_intro (eqTC_ints rfl rfl rfl rfl ?_) ?_; (focus (exact numA))) | refine onS_intro (mapB_u8s _) ?_ | (refine And.intro ?_ ?_; (focus (exact flatA)))); (try (conv => whnf)))))
  exact D.le.refl _
end Go.Fw

/-
Contracts of shifts, of the program and of the reference. No conditions.
-/
namespace Go.Fw
set_option linter.unusedVariables false
set_option linter.unusedSimpArgs false
open Go.Proofs
set_option maxRecDepth 10000
set_option maxHeartbeats 1000000
/-- A number's parts from part k on. -/
def upP (X k : Nat) : List Int := [if 0 < k then 0 else (wd X 0 : Int), if 1 < k then 0 else (wd X 1 : Int), if 2 < k then 0 else (wd X 2 : Int), if 3 < k then 0 else (wd X 3 : Int)]
def upU (X k : Nat) : D := .arr 4 .one ((upP X k).map (.int .u64))
theorem upU_zero (X : Nat) : upU X 4 = U 0 := rfl
theorem upP_set {X i : Nat} (hi : i < 4) : (upP X (i + 1)).set i (wd X i : Int) = upP X i := by
  match i, hi with
  | 0, _ => rfl
  | 1, _ => rfl
  | 2, _ => rfl
  | 3, _ => rfl
theorem upU_set {X i : Nat} {v : Int} (hi : i < 4) (hv : v = (wd X i : Nat)) : D.arr 4 .one (((upP X (i + 1)).map (D.int .u64)).set i (.int .u64 v)) = upU X i := by
  subst hv
  unfold upU
  rw [← upP_set hi, List.map_set]
theorem upU_set2 {X i : Nat} {v u : Int} (hi : i < 4) (hv : v = (wd X i : Nat)) : D.arr 4 .one ((((upP X (i + 1)).map (D.int .u64)).set i (.int .u64 u)).set i (.int .u64 v)) = upU X i := by
  rw [List.set_set]
  exact upU_set hi hv
theorem upU_end {X q : Nat} (h : ∀ j, j < q → wd X j = 0) (hq : q < 4) : upU X q = U X := by
  unfold upU U upP parts
  match q, hq with
  | 0, _ => rfl
  | 1, _ => simp [h 0 (by decide)]
  | 2, _ => simp [h 0 (by decide), h 1 (by decide)]
  | 3, _ => simp [h 0 (by decide), h 1 (by decide), h 2 (by decide)]
theorem onS_set {xs : List D} {k j : Nat} {v : D} {K : D → Prop} (hk : k < xs.length) (hj : j = k) (h : K v) : onS (xs.set k v)[j]? K := by
  subst hj
  rw [List.getElem?_set_self hk]
  exact h
theorem shl_parts (a q r : Nat) : a * 2 ^ (64 * q + r) = a * 2 ^ r * 2 ^ (64 * q) := by
  rw [Nat.add_comm, Nat.pow_add, Nat.mul_assoc]
theorem shl_valA {a q r i n : Nat} (hn : n = 64 * q + r) (hi : q ≤ i) (hr : r = 0) : wd a (i - q) * 2 ^ r % 18446744073709551616 = wd (a * 2 ^ n) i := by
  subst hn hr
  rw [shl_parts, Nat.pow_zero, Nat.mul_one, Nat.mul_one, show wd (a * 2 ^ (64 * q)) i = wd (a * 2 ^ (64 * q)) (i - q + q) by congr 1; omega, wd_up]
  exact Nat.mod_eq_of_lt (wd_lt _ _)
theorem shl_valB {a q r i n : Nat} (hn : n = 64 * q + r) (hi : q = i) (hr : r < 64) : wd a (i - q) * 2 ^ r % 18446744073709551616 = wd (a * 2 ^ n) i := by
  subst hn hi
  rw [shl_parts, show wd (a * 2 ^ r * 2 ^ (64 * q)) q = wd (a * 2 ^ r * 2 ^ (64 * q)) (0 + q) by congr 1; omega, wd_up, wd_shl0 a r hr (by decide), Nat.sub_self]
theorem shl_valC {a q r i n : Nat} (hn : n = 64 * q + r) (hi : q < i) (hr : r < 64) (h0 : 0 < r) : wd a (i - q) * 2 ^ r % 18446744073709551616 ||| wd a (i - q - 1) / 2 ^ (64 - r) = wd (a * 2 ^ n) i := by
  subst hn
  rw [shl_parts, show wd (a * 2 ^ r * 2 ^ (64 * q)) i = wd (a * 2 ^ r * 2 ^ (64 * q)) (i - q - 1 + 1 + q) by congr 1; omega, wd_up, wd_shl a r _ hr h0, show i - q - 1 + 1 = i - q by omega]
theorem d64 (a k : Nat) : (a : Int) / 2 ^ k = ((a / 2 ^ k : Nat) : Int) := by push_cast; rfl
theorem ret_Shl_in (a n : Nat) (ha : a < 115792089237316195423570985008687907853269984665640564039457584007913129639936) (h0 : 0 < n) (hn : n < 256) : Returns cx n_wide_Shl [U a, .int .i64 n] (U (a * 2 ^ n)) := by
  obtain ⟨q, r, hq, hr, e⟩ : ∃ q r, q < 4 ∧ r < 64 ∧ n = 64 * q + r := ⟨n / 64, n % 64, by omega, by omega, by omega⟩
  have e1 : (n : Int) / 64 = q := by omega
  have e2 : (n : Int) % 64 = r := by omega
  (refine of_W2 (fn := f_wide_Shl) {} (by kernel_rfl) (by kernel_rfl) (by kernel_rfl) (by kernel_rfl) (by kernel_rfl) ?_)
  ((try (conv => whnf)); (repeat ((first | (refine br_true ?_ ?_; (focus (exact yesA))) | (refine br_false ?_ ?_; (focus (exact noA))) | (refine onS_map ?_ ?_; (focus (exact numA))) | (refine onS_intro (eqTC_ints rfl rfl rfl rfl ?_) ?_; (focus (exact numA))) | refine onS_intro (mapB_u8s _) ?_ | (refine And.intro ?_ ?_; (focus (exact flatA)))); (try (conv => whnf)))))
  refine LoopW2_rule (fun k : Nat => [(1, .d (.int .i64 n)), (2, .ptr 0 0 [] (.arr 4 .one)), (4, .ptr 1 0 [] (.arr 4 .one)), (5, .ptr 2 0 [] (.arr 4 .one)), (6, .d (.int .i64 ((k : Int) - 1)))])
    (fun k => [some (.fix (.d (U a))), some (.fix (.d (U 0))), some (.fix (.d (upU (a * 2 ^ n) k)))]) (fun k => k ≤ 4 ∧ q ≤ k) (fun k => k) _ rfl 4 (Wk.go ?_ rfl ?_ rfl) ⟨Nat.le_refl _, by omega⟩ ?_
  rotate_left 2
  · rintro k K ⟨hk, hqk⟩ hK
    simp only at hk hqk hK ⊢
    by_cases hb : k = q
    · subst hb
      rw [upU_end (fun j hj => by rw [e, shl_parts]; exact wd_low _ _ _ hj) hq]
      ((try (conv => whnf)); (repeat ((first | (refine br_true ?_ ?_; (focus (exact yesA))) | (refine br_false ?_ ?_; (focus (exact noA))) | (refine onS_map ?_ ?_; (focus (exact numA))) | (refine onS_intro (eqTC_ints rfl rfl rfl rfl ?_) ?_; (focus (exact numA))) | refine onS_intro (mapB_u8s _) ?_ | (refine And.intro ?_ ?_; (focus (exact flatA)))); (try (conv => whnf)))))
      exact D.le.refl _
    · obtain ⟨i, rfl⟩ : ∃ i, k = i + 1 := ⟨k - 1, by omega⟩
      have ei : ((i + 1 : Nat) : Int) - 1 = (i : Int) := by omega
      rw [ei]
      ((try (conv => whnf)); (repeat ((first | (refine br_true ?_ ?_; (focus (exact yesA))) | (refine br_false ?_ ?_; (focus (exact noA))) | (refine onS_map ?_ ?_; (focus (exact numA))) | (refine onS_intro (eqTC_ints rfl rfl rfl rfl ?_) ?_; (focus (exact numA))) | refine onS_intro (mapB_u8s _) ?_ | (refine And.intro ?_ ?_; (focus (exact flatA)))); (try (conv => whnf)))))
      refine onS_parts (by omega) ?_
      have e3 : ((i : Int) - (n : Int) / 64).toNat = i - q := by omega
      have e4 : ((n : Int) % 64).toNat = r := by omega
      rw [e3]
      by_cases c1 : i = q
      · ((try (conv => whnf)); (repeat ((first | (refine br_true ?_ ?_; (focus (exact yesA))) | (refine br_false ?_ ?_; (focus (exact noA))) | (refine onS_map ?_ ?_; (focus (exact numA))) | (refine onS_intro (eqTC_ints rfl rfl rfl rfl ?_) ?_; (focus (exact numA))) | refine onS_intro (mapB_u8s _) ?_ | (refine And.intro ?_ ?_; (focus (exact flatA)))); (try (conv => whnf)))))
        rw [e4, shlW64 hr, shl_valB e c1.symm hr]
        refine hK i _ _ rfl (Wk.go ?_ rfl ?_ rfl) ⟨by omega, by omega⟩ (by omega)
        all_goals (try (repeat' (first | exact trivial | rfl | exact .inl rfl | exact .inr rfl | refine ⟨?_, ?_⟩)))
        exact .inr (congrArg (fun x => some (Blk.fix (V.d x))) (upU_set (by omega) rfl))
      · by_cases c2 : r = 0
        · ((try (conv => whnf)); (repeat ((first | (refine br_true ?_ ?_; (focus (exact yesA))) | (refine br_false ?_ ?_; (focus (exact noA))) | (refine onS_map ?_ ?_; (focus (exact numA))) | (refine onS_intro (eqTC_ints rfl rfl rfl rfl ?_) ?_; (focus (exact numA))) | refine onS_intro (mapB_u8s _) ?_ | (refine And.intro ?_ ?_; (focus (exact flatA)))); (try (conv => whnf)))))
          rw [e4, shlW64 hr, shl_valA e (by omega) c2]
          refine hK i _ _ rfl (Wk.go ?_ rfl ?_ rfl) ⟨by omega, by omega⟩ (by omega)
          all_goals (try (repeat' (first | exact trivial | rfl | exact .inl rfl | exact .inr rfl | refine ⟨?_, ?_⟩)))
          exact .inr (congrArg (fun x => some (Blk.fix (V.d x))) (upU_set (by omega) rfl))
        · ((try (conv => whnf)); (repeat ((first | (refine br_true ?_ ?_; (focus (exact yesA))) | (refine br_false ?_ ?_; (focus (exact noA))) | (refine onS_map ?_ ?_; (focus (exact numA))) | (refine onS_intro (eqTC_ints rfl rfl rfl rfl ?_) ?_; (focus (exact numA))) | refine onS_intro (mapB_u8s _) ?_ | (refine And.intro ?_ ?_; (focus (exact flatA)))); (try (conv => whnf)))))
          refine onS_set (show i < 4 by omega) rfl ?_
          ((try (conv => whnf)); (repeat ((first | (refine br_true ?_ ?_; (focus (exact yesA))) | (refine br_false ?_ ?_; (focus (exact noA))) | (refine onS_map ?_ ?_; (focus (exact numA))) | (refine onS_intro (eqTC_ints rfl rfl rfl rfl ?_) ?_; (focus (exact numA))) | refine onS_intro (mapB_u8s _) ?_ | (refine And.intro ?_ ?_; (focus (exact flatA)))); (try (conv => whnf)))))
          refine onS_parts (by omega) ?_
          have e5 : ((i : Int) - (n : Int) / 64 - 1).toNat = i - q - 1 := by omega
          have e6 : (64 - (n : Int) % 64).toNat = 64 - r := by omega
          rw [e5]
          ((try (conv => whnf)); (repeat ((first | (refine br_true ?_ ?_; (focus (exact yesA))) | (refine br_false ?_ ?_; (focus (exact noA))) | (refine onS_map ?_ ?_; (focus (exact numA))) | (refine onS_intro (eqTC_ints rfl rfl rfl rfl ?_) ?_; (focus (exact numA))) | refine onS_intro (mapB_u8s _) ?_ | (refine And.intro ?_ ?_; (focus (exact flatA)))); (try (conv => whnf)))))
          rw [e4, e6, shlW64 hr, d64, or64 (Nat.mod_lt _ (by decide)) (Nat.lt_of_le_of_lt (Nat.div_le_self _ _) (wd_lt _ _)), shl_valC e (by omega) hr (by omega)]
          refine hK i _ _ rfl (Wk.go ?_ rfl ?_ rfl) ⟨by omega, by omega⟩ (by omega)
          all_goals (try (repeat' (first | exact trivial | rfl | exact .inl rfl | exact .inr rfl | refine ⟨?_, ?_⟩)))
          exact .inr (congrArg (fun x => some (Blk.fix (V.d x))) (upU_set2 (by omega) rfl))
  all_goals (try (repeat' (first | exact trivial | rfl | exact .inl rfl | exact .inr rfl | refine ⟨?_, ?_⟩)))
theorem ret_ShlU (a : Nat) (n : Int) (ha : a < 115792089237316195423570985008687907853269984665640564039457584007913129639936) (hn : inK .i64 n) : Returns cx n_wide_Shl [U a, .int .i64 n] (U (a * 2 ^ n.toNat % 115792089237316195423570985008687907853269984665640564039457584007913129639936)) := by
  by_cases h0 : n ≤ 0
  · rw [show n.toNat = 0 by omega, Nat.pow_zero, Nat.mul_one, Nat.mod_eq_of_lt ha]
    (refine of_W2 (fn := f_wide_Shl) {} (by kernel_rfl) (by kernel_rfl) (by kernel_rfl) (by kernel_rfl) (by kernel_rfl) ?_)
    ((try (conv => whnf)); (repeat ((first | (refine br_true ?_ ?_; (focus (exact yesA))) | (refine br_false ?_ ?_; (focus (exact noA))) | (refine onS_map ?_ ?_; (focus (exact numA))) | (refine onS_intro (eqTC_ints rfl rfl rfl rfl ?_) ?_; (focus (exact numA))) | refine onS_intro (mapB_u8s _) ?_ | (refine And.intro ?_ ?_; (focus (exact flatA)))); (try (conv => whnf)))))
    exact D.le.refl _
  · obtain ⟨m, rfl⟩ := Int.eq_ofNat_of_zero_le (show 0 ≤ n by omega)
    rw [Int.toNat_natCast]
    by_cases h1 : m < 256
    · rw [U_mod]
      exact ret_Shl_in a m ha (by omega) h1
    · obtain ⟨k, rfl⟩ : ∃ k, m = k + 256 := ⟨m - 256, by omega⟩
      have e : a * 2 ^ (k + 256) % 115792089237316195423570985008687907853269984665640564039457584007913129639936 = 0 := by
        rw [Nat.pow_add, ← Nat.mul_assoc]
        exact Nat.mul_mod_left _ _
      rw [e]
      (refine of_W2 (fn := f_wide_Shl) {} (by kernel_rfl) (by kernel_rfl) (by kernel_rfl) (by kernel_rfl) (by kernel_rfl) ?_)
      ((try (conv => whnf)); (repeat ((first | (refine br_true ?_ ?_; (focus (exact yesA))) | (refine br_false ?_ ?_; (focus (exact noA))) | (refine onS_map ?_ ?_; (focus (exact numA))) | (refine onS_intro (eqTC_ints rfl rfl rfl rfl ?_) ?_; (focus (exact numA))) | refine onS_intro (mapB_u8s _) ?_ | (refine And.intro ?_ ?_; (focus (exact flatA)))); (try (conv => whnf)))))
      refine LoopW2_n 1 (iter_go ?_)
      ((try (conv => whnf)); (repeat ((first | (refine br_true ?_ ?_; (focus (exact yesA))) | (refine br_false ?_ ?_; (focus (exact noA))) | (refine onS_map ?_ ?_; (focus (exact numA))) | (refine onS_intro (eqTC_ints rfl rfl rfl rfl ?_) ?_; (focus (exact numA))) | refine onS_intro (mapB_u8s _) ?_ | (refine And.intro ?_ ?_; (focus (exact flatA)))); (try (conv => whnf)))))
      exact D.le.refl _
theorem rer_ShlU (a : Nat) (n : Int) (ha : a < 115792089237316195423570985008687907853269984665640564039457584007913129639936) (hn : inK .i64 n) : Returns cx n_lightclientref02_Shl [U a, .int .i64 n] (U (a * 2 ^ n.toNat % 115792089237316195423570985008687907853269984665640564039457584007913129639936)) := by
  (refine of_W2 (fn := f_lightclientref02_Shl) {} (by kernel_rfl) (by kernel_rfl) (by kernel_rfl) (by kernel_rfl) (by kernel_rfl) ?_)
  by_cases h1 : 256 ≤ n
  · obtain ⟨k, rfl⟩ : ∃ k : Nat, n = ((k + 256 : Nat) : Int) := ⟨(n - 256).toNat, by omega⟩
    rw [Int.toNat_natCast]
    have e : a * 2 ^ (k + 256) % 115792089237316195423570985008687907853269984665640564039457584007913129639936 = 0 := by
      rw [Nat.pow_add, ← Nat.mul_assoc]
      exact Nat.mul_mod_left _ _
    rw [e]
    ((try (conv => whnf)); (repeat ((first | (refine br_true ?_ ?_; (focus (exact yesA))) | (refine br_false ?_ ?_; (focus (exact noA))) | (refine onS_map ?_ ?_; (focus (exact numA))) | (refine onS_intro (eqTC_ints rfl rfl rfl rfl ?_) ?_; (focus (exact numA))) | refine onS_intro (mapB_u8s _) ?_ | (refine And.intro ?_ ?_; (focus (exact flatA)))); (try (conv => whnf)))))
    exact D.le.refl _
  · ((try (conv => whnf)); (repeat ((first | (refine br_true ?_ ?_; (focus (exact yesA))) | (refine br_false ?_ ?_; (focus (exact noA))) | (refine onS_map ?_ ?_; (focus (exact numA))) | (refine onS_intro (eqTC_ints rfl rfl rfl rfl ?_) ?_; (focus (exact numA))) | refine onS_intro (mapB_u8s _) ?_ | (refine And.intro ?_ ?_; (focus (exact flatA)))); (try (conv => whnf)))))
    refine LoopW2_rule (fun k : Int × Nat => [(1, .d (.int .i64 k.1)), (2, .ptr 0 0 [] (.arr 4 .one)), (4, .ptr 1 0 [] (.arr 4 .one))])
      (fun k => [some (.fix (.d (U k.2))), some (.fix (.d (U 0)))]) (fun k => k.1 < 256 ∧ -9223372036854775808 ≤ k.1 ∧ k.2 < 115792089237316195423570985008687907853269984665640564039457584007913129639936 ∧ k.2 * 2 ^ k.1.toNat % 115792089237316195423570985008687907853269984665640564039457584007913129639936 = a * 2 ^ n.toNat % 115792089237316195423570985008687907853269984665640564039457584007913129639936) (fun k => k.1.toNat) _ rfl (n, a) (Wk.go ?_ rfl ?_ rfl) ⟨by omega, hn.1, ha, rfl⟩ ?_
    rotate_left 2
    · rintro ⟨k, b⟩ K ⟨hk, hk0, hb, he⟩ hK
      simp only at hk hk0 hb he hK ⊢
      rw [← he]
      by_cases h : 0 < k
      · ((try (conv => whnf)); (repeat ((first | (refine br_true ?_ ?_; (focus (exact yesA))) | (refine br_false ?_ ?_; (focus (exact noA))) | (refine onS_map ?_ ?_; (focus (exact numA))) | (refine onS_intro (eqTC_ints rfl rfl rfl rfl ?_) ?_; (focus (exact numA))) | refine onS_intro (mapB_u8s _) ?_ | (refine And.intro ?_ ?_; (focus (exact flatA)))); (try (conv => whnf)))))
        ((first | refine call_intro (rer_AddU b b hb hb) (les_refl _) ?_ | refine call_intro (rer_AddU b b hb hb) lesA ?_); (try (conv => whnf)))
        ((try (conv => whnf)); (repeat ((first | (refine br_true ?_ ?_; (focus (exact yesA))) | (refine br_false ?_ ?_; (focus (exact noA))) | (refine onS_map ?_ ?_; (focus (exact numA))) | (refine onS_intro (eqTC_ints rfl rfl rfl rfl ?_) ?_; (focus (exact numA))) | refine onS_intro (mapB_u8s _) ?_ | (refine And.intro ?_ ?_; (focus (exact flatA)))); (try (conv => whnf)))))
        refine hK (k - 1, (b + b) % 115792089237316195423570985008687907853269984665640564039457584007913129639936) _ _ rfl (Wk.go ?_ rfl ?_ rfl) ⟨by simp only; omega, by simp only; omega, Nat.mod_lt _ (by decide), ?_⟩ (by simp only; omega)
        all_goals (try (repeat' (first | exact trivial | rfl | exact .inl rfl | exact .inr rfl | refine ⟨?_, ?_⟩)))
        simp only
        rw [← he, show k.toNat = (k - 1).toNat + 1 by omega, Nat.pow_succ, Nat.mod_mul_mod]
        congr 1
        rw [Nat.add_mul, ← Nat.mul_assoc]
        generalize b * 2 ^ (k - 1).toNat = z
        omega
      · rw [show k.toNat = 0 by omega, Nat.pow_zero, Nat.mul_one, Nat.mod_eq_of_lt hb]
        ((try (conv => whnf)); (repeat ((first | (refine br_true ?_ ?_; (focus (exact yesA))) | (refine br_false ?_ ?_; (focus (exact noA))) | (refine onS_map ?_ ?_; (focus (exact numA))) | (refine onS_intro (eqTC_ints rfl rfl rfl rfl ?_) ?_; (focus (exact numA))) | refine onS_intro (mapB_u8s _) ?_ | (refine And.intro ?_ ?_; (focus (exact flatA)))); (try (conv => whnf)))))
        exact D.le.refl _
    all_goals (try (repeat' (first | exact trivial | rfl | exact .inl rfl | exact .inr rfl | refine ⟨?_, ?_⟩)))
end Go.Fw

/-
Contracts of shifts to the right, of the program and of the reference. No conditions.
-/
namespace Go.Fw
set_option linter.unusedVariables false
set_option linter.unusedSimpArgs false
open Go.Proofs
set_option maxRecDepth 10000
set_option maxHeartbeats 1000000
/-- A number's parts below part k. -/
def dnP (X k : Nat) : List Int := [if 0 < k then (wd X 0 : Int) else 0, if 1 < k then (wd X 1 : Int) else 0, if 2 < k then (wd X 2 : Int) else 0, if 3 < k then (wd X 3 : Int) else 0]
def dnU (X k : Nat) : D := .arr 4 .one ((dnP X k).map (.int .u64))
theorem dnP_set {X i : Nat} (hi : i < 4) : (dnP X i).set i (wd X i : Int) = dnP X (i + 1) := by
  match i, hi with
  | 0, _ => rfl
  | 1, _ => rfl
  | 2, _ => rfl
  | 3, _ => rfl
theorem dnU_set {X i : Nat} {v : Int} (hi : i < 4) (hv : v = (wd X i : Nat)) : D.arr 4 .one (((dnP X i).map (D.int .u64)).set i (.int .u64 v)) = dnU X (i + 1) := by
  subst hv
  unfold dnU
  rw [← dnP_set hi, List.map_set]
theorem dnU_set2 {X i : Nat} {v u : Int} (hi : i < 4) (hv : v = (wd X i : Nat)) : D.arr 4 .one ((((dnP X i).map (D.int .u64)).set i (.int .u64 u)).set i (.int .u64 v)) = dnU X (i + 1) := by
  rw [List.set_set]
  exact dnU_set hi hv
theorem dnU_end {X k : Nat} (h : ∀ j, k ≤ j → wd X j = 0) : dnU X k = U X := by
  unfold dnU U dnP parts
  match k with
  | 0 => simp [h 0 (by decide), h 1 (by decide), h 2 (by decide), h 3 (by decide)]
  | 1 => simp [h 1 (by decide), h 2 (by decide), h 3 (by decide)]
  | 2 => simp [h 2 (by decide), h 3 (by decide)]
  | 3 => simp [h 3 (by decide)]
  | k + 4 => simp
theorem shr_parts (a q r : Nat) : a / 2 ^ (64 * q + r) = a / 2 ^ r / 2 ^ (64 * q) := by
  rw [Nat.add_comm, Nat.pow_add, Nat.div_div_eq_div_mul]
theorem shr_val {a q r i n : Nat} (hn : n = 64 * q + r) : wd (a / 2 ^ n) i = wd (a / 2 ^ r) (i + q) := by
  subst hn
  rw [shr_parts, wd_down]
theorem ret_Shr_in (a n : Nat) (ha : a < 115792089237316195423570985008687907853269984665640564039457584007913129639936) (h0 : 0 < n) (hn : n < 256) : Returns cx n_wide_Shr [U a, .int .i64 n] (U (a / 2 ^ n)) := by
  obtain ⟨q, r, hq, hr, e⟩ : ∃ q r, q < 4 ∧ r < 64 ∧ n = 64 * q + r := ⟨n / 64, n % 64, by omega, by omega, by omega⟩
  have e1 : (n : Int) / 64 = q := by omega
  have e2 : (n : Int) % 64 = r := by omega
  have e4 : ((n : Int) % 64).toNat = r := by omega
  have e6 : (64 - (n : Int) % 64).toNat = 64 - r := by omega
  (refine of_W2 (fn := f_wide_Shr) {} (by kernel_rfl) (by kernel_rfl) (by kernel_rfl) (by kernel_rfl) (by kernel_rfl) ?_)
  ((try (conv => whnf)); (repeat ((first | (refine br_true ?_ ?_; (focus (exact yesA))) | (refine br_false ?_ ?_; (focus (exact noA))) | (refine onS_map ?_ ?_; (focus (exact numA))) | (refine onS_intro (eqTC_ints rfl rfl rfl rfl ?_) ?_; (focus (exact numA))) | refine onS_intro (mapB_u8s _) ?_ | (refine And.intro ?_ ?_; (focus (exact flatA)))); (try (conv => whnf)))))
  refine LoopW2_rule (fun k : Nat => [(1, .d (.int .i64 n)), (2, .ptr 0 0 [] (.arr 4 .one)), (4, .ptr 1 0 [] (.arr 4 .one)), (5, .ptr 2 0 [] (.arr 4 .one)), (6, .d (.int .i64 (k : Nat)))])
    (fun k => [some (.fix (.d (U a))), some (.fix (.d (U 0))), some (.fix (.d (dnU (a / 2 ^ n) k)))]) (fun k => k + q ≤ 4) (fun k => 4 - k) _ rfl 0 (Wk.go ?_ rfl ?_ rfl) (by omega) ?_
  rotate_left 2
  · rintro i K hk hK
    simp only at hk hK ⊢
    by_cases hb : i + q = 4
    · rw [dnU_end (fun j hj => by rw [shr_val e]; exact wd_big (Nat.lt_of_le_of_lt (Nat.div_le_self _ _) ha) (by omega))]
      ((try (conv => whnf)); (repeat ((first | (refine br_true ?_ ?_; (focus (exact yesA))) | (refine br_false ?_ ?_; (focus (exact noA))) | (refine onS_map ?_ ?_; (focus (exact numA))) | (refine onS_intro (eqTC_ints rfl rfl rfl rfl ?_) ?_; (focus (exact numA))) | refine onS_intro (mapB_u8s _) ?_ | (refine And.intro ?_ ?_; (focus (exact flatA)))); (try (conv => whnf)))))
      exact D.le.refl _
    · ((try (conv => whnf)); (repeat ((first | (refine br_true ?_ ?_; (focus (exact yesA))) | (refine br_false ?_ ?_; (focus (exact noA))) | (refine onS_map ?_ ?_; (focus (exact numA))) | (refine onS_intro (eqTC_ints rfl rfl rfl rfl ?_) ?_; (focus (exact numA))) | refine onS_intro (mapB_u8s _) ?_ | (refine And.intro ?_ ?_; (focus (exact flatA)))); (try (conv => whnf)))))
      refine onS_parts (by omega) ?_
      have e3 : ((i : Int) + (n : Int) / 64).toNat = i + q := by omega
      rw [e3]
      by_cases c1 : i + q = 3
      · by_cases c2 : r = 0
        · ((try (conv => whnf)); (repeat ((first | (refine br_true ?_ ?_; (focus (exact yesA))) | (refine br_false ?_ ?_; (focus (exact noA))) | (refine onS_map ?_ ?_; (focus (exact numA))) | (refine onS_intro (eqTC_ints rfl rfl rfl rfl ?_) ?_; (focus (exact numA))) | refine onS_intro (mapB_u8s _) ?_ | (refine And.intro ?_ ?_; (focus (exact flatA)))); (try (conv => whnf)))))
          rw [e4, d64, show wd a (i + q) / 2 ^ r = wd (a / 2 ^ n) i by rw [shr_val e, c2, Nat.pow_zero, Nat.div_one, Nat.div_one]]
          refine hK (i + 1) _ _ rfl (Wk.go ?_ rfl ?_ rfl) (by omega) (by omega)
          all_goals (try (repeat' (first | exact trivial | rfl | exact .inl rfl | exact .inr rfl | refine ⟨?_, ?_⟩)))
          exact .inr (congrArg (fun x => some (Blk.fix (V.d x))) (dnU_set (by omega) rfl))
        · ((try (conv => whnf)); (repeat ((first | (refine br_true ?_ ?_; (focus (exact yesA))) | (refine br_false ?_ ?_; (focus (exact noA))) | (refine onS_map ?_ ?_; (focus (exact numA))) | (refine onS_intro (eqTC_ints rfl rfl rfl rfl ?_) ?_; (focus (exact numA))) | refine onS_intro (mapB_u8s _) ?_ | (refine And.intro ?_ ?_; (focus (exact flatA)))); (try (conv => whnf)))))
          rw [e4, d64, show wd a (i + q) / 2 ^ r = wd (a / 2 ^ n) i by rw [shr_val e, wd_shr a r _ hr (by omega), wd_big ha (show 4 ≤ i + q + 1 by omega), Nat.zero_mul, Nat.zero_mod, Nat.or_zero]]
          refine hK (i + 1) _ _ rfl (Wk.go ?_ rfl ?_ rfl) (by omega) (by omega)
          all_goals (try (repeat' (first | exact trivial | rfl | exact .inl rfl | exact .inr rfl | refine ⟨?_, ?_⟩)))
          exact .inr (congrArg (fun x => some (Blk.fix (V.d x))) (dnU_set (by omega) rfl))
      · by_cases c2 : r = 0
        · ((try (conv => whnf)); (repeat ((first | (refine br_true ?_ ?_; (focus (exact yesA))) | (refine br_false ?_ ?_; (focus (exact noA))) | (refine onS_map ?_ ?_; (focus (exact numA))) | (refine onS_intro (eqTC_ints rfl rfl rfl rfl ?_) ?_; (focus (exact numA))) | refine onS_intro (mapB_u8s _) ?_ | (refine And.intro ?_ ?_; (focus (exact flatA)))); (try (conv => whnf)))))
          rw [e4, d64, show wd a (i + q) / 2 ^ r = wd (a / 2 ^ n) i by rw [shr_val e, c2, Nat.pow_zero, Nat.div_one, Nat.div_one]]
          refine hK (i + 1) _ _ rfl (Wk.go ?_ rfl ?_ rfl) (by omega) (by omega)
          all_goals (try (repeat' (first | exact trivial | rfl | exact .inl rfl | exact .inr rfl | refine ⟨?_, ?_⟩)))
          exact .inr (congrArg (fun x => some (Blk.fix (V.d x))) (dnU_set (by omega) rfl))
        · ((try (conv => whnf)); (repeat ((first | (refine br_true ?_ ?_; (focus (exact yesA))) | (refine br_false ?_ ?_; (focus (exact noA))) | (refine onS_map ?_ ?_; (focus (exact numA))) | (refine onS_intro (eqTC_ints rfl rfl rfl rfl ?_) ?_; (focus (exact numA))) | refine onS_intro (mapB_u8s _) ?_ | (refine And.intro ?_ ?_; (focus (exact flatA)))); (try (conv => whnf)))))
          refine onS_set (show i < 4 by omega) rfl ?_
          ((try (conv => whnf)); (repeat ((first | (refine br_true ?_ ?_; (focus (exact yesA))) | (refine br_false ?_ ?_; (focus (exact noA))) | (refine onS_map ?_ ?_; (focus (exact numA))) | (refine onS_intro (eqTC_ints rfl rfl rfl rfl ?_) ?_; (focus (exact numA))) | refine onS_intro (mapB_u8s _) ?_ | (refine And.intro ?_ ?_; (focus (exact flatA)))); (try (conv => whnf)))))
          refine onS_parts (by omega) ?_
          have e5 : ((i : Int) + (n : Int) / 64 + 1).toNat = i + q + 1 := by omega
          rw [e5]
          ((try (conv => whnf)); (repeat ((first | (refine br_true ?_ ?_; (focus (exact yesA))) | (refine br_false ?_ ?_; (focus (exact noA))) | (refine onS_map ?_ ?_; (focus (exact numA))) | (refine onS_intro (eqTC_ints rfl rfl rfl rfl ?_) ?_; (focus (exact numA))) | refine onS_intro (mapB_u8s _) ?_ | (refine And.intro ?_ ?_; (focus (exact flatA)))); (try (conv => whnf)))))
          rw [e4, e6, d64, shlW64 (show 64 - r < 64 by omega), or64 (Nat.lt_of_le_of_lt (Nat.div_le_self _ _) (wd_lt _ _)) (Nat.mod_lt _ (by decide)), ← wd_shr a r _ hr (by omega), ← shr_val e]
          refine hK (i + 1) _ _ rfl (Wk.go ?_ rfl ?_ rfl) (by omega) (by omega)
          all_goals (try (repeat' (first | exact trivial | rfl | exact .inl rfl | exact .inr rfl | refine ⟨?_, ?_⟩)))
          exact .inr (congrArg (fun x => some (Blk.fix (V.d x))) (dnU_set2 (by omega) rfl))
  all_goals (try (repeat' (first | exact trivial | rfl | exact .inl rfl | exact .inr rfl | refine ⟨?_, ?_⟩)))
theorem div_big {a k : Nat} (ha : a < 115792089237316195423570985008687907853269984665640564039457584007913129639936) : a / 2 ^ (k + 256) = 0 :=
  Nat.div_eq_of_lt (Nat.lt_of_lt_of_le ha (show (2:Nat) ^ 256 ≤ 2 ^ (k + 256) from Nat.pow_le_pow_right (by decide) (by omega)))
theorem ret_ShrU (a : Nat) (n : Int) (ha : a < 115792089237316195423570985008687907853269984665640564039457584007913129639936) (hn : inK .i64 n) : Returns cx n_wide_Shr [U a, .int .i64 n] (U (a / 2 ^ n.toNat)) := by
  by_cases h0 : n ≤ 0
  · rw [show n.toNat = 0 by omega, Nat.pow_zero, Nat.div_one]
    (refine of_W2 (fn := f_wide_Shr) {} (by kernel_rfl) (by kernel_rfl) (by kernel_rfl) (by kernel_rfl) (by kernel_rfl) ?_)
    ((try (conv => whnf)); (repeat ((first | (refine br_true ?_ ?_; (focus (exact yesA))) | (refine br_false ?_ ?_; (focus (exact noA))) | (refine onS_map ?_ ?_; (focus (exact numA))) | (refine onS_intro (eqTC_ints rfl rfl rfl rfl ?_) ?_; (focus (exact numA))) | refine onS_intro (mapB_u8s _) ?_ | (refine And.intro ?_ ?_; (focus (exact flatA)))); (try (conv => whnf)))))
    exact D.le.refl _
  · obtain ⟨m, rfl⟩ := Int.eq_ofNat_of_zero_le (show 0 ≤ n by omega)
    rw [Int.toNat_natCast]
    by_cases h1 : m < 256
    · exact ret_Shr_in a m ha (by omega) h1
    · obtain ⟨k, rfl⟩ : ∃ k, m = k + 256 := ⟨m - 256, by omega⟩
      rw [div_big ha]
      (refine of_W2 (fn := f_wide_Shr) {} (by kernel_rfl) (by kernel_rfl) (by kernel_rfl) (by kernel_rfl) (by kernel_rfl) ?_)
      ((try (conv => whnf)); (repeat ((first | (refine br_true ?_ ?_; (focus (exact yesA))) | (refine br_false ?_ ?_; (focus (exact noA))) | (refine onS_map ?_ ?_; (focus (exact numA))) | (refine onS_intro (eqTC_ints rfl rfl rfl rfl ?_) ?_; (focus (exact numA))) | refine onS_intro (mapB_u8s _) ?_ | (refine And.intro ?_ ?_; (focus (exact flatA)))); (try (conv => whnf)))))
      refine LoopW2_n 1 (iter_go ?_)
      ((try (conv => whnf)); (repeat ((first | (refine br_true ?_ ?_; (focus (exact yesA))) | (refine br_false ?_ ?_; (focus (exact noA))) | (refine onS_map ?_ ?_; (focus (exact numA))) | (refine onS_intro (eqTC_ints rfl rfl rfl rfl ?_) ?_; (focus (exact numA))) | refine onS_intro (mapB_u8s _) ?_ | (refine And.intro ?_ ?_; (focus (exact flatA)))); (try (conv => whnf)))))
      exact D.le.refl _
theorem mod_lt_pow {x i : Nat} : x % 2 ^ i < 2 ^ i := Nat.mod_lt _ (Nat.two_pow_pos i)
theorem rer_ShrU (a : Nat) (n : Int) (ha : a < 115792089237316195423570985008687907853269984665640564039457584007913129639936) (hn : inK .i64 n) : Returns cx n_lightclientref02_Shr [U a, .int .i64 n] (U (a / 2 ^ n.toNat)) := by
  (refine of_W2 (fn := f_lightclientref02_Shr) {} (by kernel_rfl) (by kernel_rfl) (by kernel_rfl) (by kernel_rfl) (by kernel_rfl) ?_)
  by_cases h0 : n ≤ 0
  · rw [show n.toNat = 0 by omega, Nat.pow_zero, Nat.div_one]
    ((try (conv => whnf)); (repeat ((first | (refine br_true ?_ ?_; (focus (exact yesA))) | (refine br_false ?_ ?_; (focus (exact noA))) | (refine onS_map ?_ ?_; (focus (exact numA))) | (refine onS_intro (eqTC_ints rfl rfl rfl rfl ?_) ?_; (focus (exact numA))) | refine onS_intro (mapB_u8s _) ?_ | (refine And.intro ?_ ?_; (focus (exact flatA)))); (try (conv => whnf)))))
    exact D.le.refl _
  · obtain ⟨m, rfl⟩ := Int.eq_ofNat_of_zero_le (show 0 ≤ n by omega)
    rw [Int.toNat_natCast]
    by_cases h1 : m < 256
    · ((try (conv => whnf)); (repeat ((first | (refine br_true ?_ ?_; (focus (exact yesA))) | (refine br_false ?_ ?_; (focus (exact noA))) | (refine onS_map ?_ ?_; (focus (exact numA))) | (refine onS_intro (eqTC_ints rfl rfl rfl rfl ?_) ?_; (focus (exact numA))) | refine onS_intro (mapB_u8s _) ?_ | (refine And.intro ?_ ?_; (focus (exact flatA)))); (try (conv => whnf)))))
      refine LoopW2_rule (fun k : Nat => [(1, .d (.int .i64 m)), (2, .ptr 0 0 [] (.arr 4 .one)), (4, .ptr 1 0 [] (.arr 4 .one)), (5, .ptr 2 0 [] (.arr 4 .one)), (6, .d (.int .i64 (k : Nat)))])
        (fun k => [some (.fix (.d (U a))), some (.fix (.d (U 0))), some (.fix (.d (U (a / 2 ^ m % 2 ^ k))))]) (fun k => k + m ≤ 256) (fun k => 256 - k) _ rfl 0 (Wk.go ?_ rfl ?_ rfl) (by omega) ?_
      rotate_left 2
      · rintro i K hk hK
        simp only at hk hK ⊢
        by_cases hb : i + m = 256
        · have hl : a / 2 ^ m < 2 ^ i := by
            rw [Nat.div_lt_iff_lt_mul (Nat.two_pow_pos m), ← Nat.pow_add, hb]
            exact ha
          rw [Nat.mod_eq_of_lt hl]
          ((try (conv => whnf)); (repeat ((first | (refine br_true ?_ ?_; (focus (exact yesA))) | (refine br_false ?_ ?_; (focus (exact noA))) | (refine onS_map ?_ ?_; (focus (exact numA))) | (refine onS_intro (eqTC_ints rfl rfl rfl rfl ?_) ?_; (focus (exact numA))) | refine onS_intro (mapB_u8s _) ?_ | (refine And.intro ?_ ?_; (focus (exact flatA)))); (try (conv => whnf)))))
          exact D.le.refl _
        · have hm := mod_next (a / 2 ^ m) i
          rw [Nat.testBit_div_two_pow, Nat.add_comm i m, Nat.add_comm m i] at hm
          have ei : (i : Int) + (m : Int) = ((i + m : Nat) : Int) := by omega
          ((try (conv => whnf)); (repeat ((first | (refine br_true ?_ ?_; (focus (exact yesA))) | (refine br_false ?_ ?_; (focus (exact noA))) | (refine onS_map ?_ ?_; (focus (exact numA))) | (refine onS_intro (eqTC_ints rfl rfl rfl rfl ?_) ?_; (focus (exact numA))) | refine onS_intro (mapB_u8s _) ?_ | (refine And.intro ?_ ?_; (focus (exact flatA)))); (try (conv => whnf)))))
          rw [ei]
          ((first | refine call_intro (rer_Bit a (i + m) (by omega)) (les_refl _) ?_ | refine call_intro (rer_Bit a (i + m) (by omega)) lesA ?_); (try (conv => whnf)))
          cases hc : a.testBit (i + m) with
          | false =>
            rw [hc] at hm
            ((try (conv => whnf)); (repeat ((first | (refine br_true ?_ ?_; (focus (exact yesA))) | (refine br_false ?_ ?_; (focus (exact noA))) | (refine onS_map ?_ ?_; (focus (exact numA))) | (refine onS_intro (eqTC_ints rfl rfl rfl rfl ?_) ?_; (focus (exact numA))) | refine onS_intro (mapB_u8s _) ?_ | (refine And.intro ?_ ?_; (focus (exact flatA)))); (try (conv => whnf)))))
            refine hK (i + 1) _ _ rfl (Wk.go ?_ rfl ?_ rfl) (by omega) (by omega)
            all_goals (try (repeat' (first | exact trivial | rfl | exact .inl rfl | exact .inr rfl | refine ⟨?_, ?_⟩)))
            exact .inr (congrArg (fun x => some (Blk.fix (V.d (U x)))) (by rw [hm]; simp))
          | true =>
            rw [hc] at hm
            ((try (conv => whnf)); (repeat ((first | (refine br_true ?_ ?_; (focus (exact yesA))) | (refine br_false ?_ ?_; (focus (exact noA))) | (refine onS_map ?_ ?_; (focus (exact numA))) | (refine onS_intro (eqTC_ints rfl rfl rfl rfl ?_) ?_; (focus (exact numA))) | refine onS_intro (mapB_u8s _) ?_ | (refine And.intro ?_ ?_; (focus (exact flatA)))); (try (conv => whnf)))))
            refine onS_parts (by omega) ?_
            ((try (conv => whnf)); (repeat ((first | (refine br_true ?_ ?_; (focus (exact yesA))) | (refine br_false ?_ ?_; (focus (exact noA))) | (refine onS_map ?_ ?_; (focus (exact numA))) | (refine onS_intro (eqTC_ints rfl rfl rfl rfl ?_) ?_; (focus (exact numA))) | refine onS_intro (mapB_u8s _) ?_ | (refine And.intro ?_ ?_; (focus (exact flatA)))); (try (conv => whnf)))))
            have q1 : ((i : Int) / 64).toNat = i / 64 := by omega
            have q2 : ((i : Int) % 64).toNat = i % 64 := by omega
            rw [q1, q2]
            refine hK (i + 1) _ _ rfl (Wk.go ?_ rfl ?_ rfl) (by omega) (by omega)
            all_goals (try (repeat' (first | exact trivial | rfl | exact .inl rfl | exact .inr rfl | refine ⟨?_, ?_⟩)))
            refine .inr (congrArg (fun x => some (Blk.fix (V.d x))) ?_)
            refine (set_bit_U (by omega)).trans (congrArg U ?_)
            rw [or_low mod_lt_pow, hm]; simp
      all_goals (try (repeat' (first | exact trivial | rfl | exact .inl rfl | exact .inr rfl | refine ⟨?_, ?_⟩)))
      exact .inr (by rw [Nat.pow_zero, Nat.mod_one]; rfl)
    · obtain ⟨k, rfl⟩ : ∃ k, m = k + 256 := ⟨m - 256, by omega⟩
      rw [div_big ha]
      ((try (conv => whnf)); (repeat ((first | (refine br_true ?_ ?_; (focus (exact yesA))) | (refine br_false ?_ ?_; (focus (exact noA))) | (refine onS_map ?_ ?_; (focus (exact numA))) | (refine onS_intro (eqTC_ints rfl rfl rfl rfl ?_) ?_; (focus (exact numA))) | refine onS_intro (mapB_u8s _) ?_ | (refine And.intro ?_ ?_; (focus (exact flatA)))); (try (conv => whnf)))))
      exact D.le.refl _
end Go.Fw

/-
Contract of the program's division. No conditions.
-/
namespace Go.Fw
set_option linter.unusedVariables false
set_option linter.unusedSimpArgs false
open Go.Proofs
set_option maxRecDepth 10000
set_option maxHeartbeats 2000000
set_option exponentiation.threshold 600
theorem set_or0 {z t : Nat} (ht : t < 18446744073709551616) : D.arr 4 .one (((parts z).map (D.int .u64)).set 0 (.int .u64 (orW .u64 (wd z 0 : Nat) (t : Nat)))) = U (z ||| t) := by
  refine set_U ?_
  rw [or64 (wd_lt _ _) ht]
  refine set_parts_eq fun j hj => ?_
  symm
  refine wd_ext ?_ fun i hi => ?_
  · split
    · exact Nat.or_lt_two_pow (n := 64) (wd_lt z 0) ht
    · exact wd_lt z j
  · by_cases h : j = 0
    · subst h
      rw [if_pos rfl, Nat.testBit_or, Nat.testBit_or, wd_bit, decide_eq_true hi, Bool.true_and, show 64 * 0 + i = i by omega]
    · rw [if_neg h, Nat.testBit_or, wd_bit, decide_eq_true hi, Bool.true_and, bit_lt ht (show 64 ≤ 64 * j + i by omega), Bool.or_false]
theorem cmp_lt {s b k : Nat} (hs : s < 115792089237316195423570985008687907853269984665640564039457584007913129639936) (hb : b < 115792089237316195423570985008687907853269984665640564039457584007913129639936) (hk : k < 4) (h : ∀ m, k < m → m < 4 → wd s m = wd b m) (hl : wd s k < wd b k) : s < b := by
  have es := wd_sum hs
  have eb := wd_sum hb
  have s0 := wd_lt s 0
  have s1 := wd_lt s 1
  have s2 := wd_lt s 2
  have b0 := wd_lt b 0
  have b1 := wd_lt b 1
  have b2 := wd_lt b 2
  match k, hk with
  | 0, _ => have := h 1 (by decide) (by decide); have := h 2 (by decide) (by decide); have := h 3 (by decide) (by decide); omega
  | 1, _ => have := h 2 (by decide) (by decide); have := h 3 (by decide) (by decide); omega
  | 2, _ => have := h 3 (by decide) (by decide); omega
  | 3, _ => omega
theorem cmp_eq {s b : Nat} (hs : s < 115792089237316195423570985008687907853269984665640564039457584007913129639936) (hb : b < 115792089237316195423570985008687907853269984665640564039457584007913129639936) (h : ∀ m, 0 ≤ m → m < 4 → wd s m = wd b m) : s = b := by
  rw [wd_sum hs, wd_sum hb, h 0 (by decide) (by decide), h 1 (by decide) (by decide), h 2 (by decide) (by decide), h 3 (by decide) (by decide)]
theorem top_of {r : Nat} (hr : r < 115792089237316195423570985008687907853269984665640564039457584007913129639936) : wd r 3 / 9223372036854775808 = 0 ↔ r * 2 < 115792089237316195423570985008687907853269984665640564039457584007913129639936 := by
  rw [wd3]; omega
theorem big_bit {hi lo j : Nat} (hj : j < 256) : (hi * 115792089237316195423570985008687907853269984665640564039457584007913129639936 + lo).testBit j = lo.testBit j := by
  rw [Nat.testBit_eq_decide_div_mod_eq, Nat.testBit_eq_decide_div_mod_eq]
  have e : (hi * 115792089237316195423570985008687907853269984665640564039457584007913129639936 + lo) / 2 ^ j % 2 = lo / 2 ^ j % 2 := by
    have e1 : hi * 115792089237316195423570985008687907853269984665640564039457584007913129639936 + lo = lo + 2 ^ j * (2 ^ (256 - j) * hi) := by
      rw [← Nat.mul_assoc, ← Nat.pow_add, show j + (256 - j) = 256 by omega, Nat.mul_comm, Nat.add_comm]
    rw [e1, Nat.add_mul_div_left _ _ (Nat.two_pow_pos j), show 256 - j = (255 - j) + 1 by omega, Nat.pow_succ, Nat.mul_right_comm]
    omega
  rw [e]
/-- What a quotient's bits so far are. -/
theorem quo_lt {hi lo b k : Nat} (hl : lo < 115792089237316195423570985008687907853269984665640564039457584007913129639936) (hb : hi < b) : (hi * 115792089237316195423570985008687907853269984665640564039457584007913129639936 + lo) / 2 ^ k / b * 2 ^ k < 115792089237316195423570985008687907853269984665640564039457584007913129639936 := by
  have h1 : (hi * 115792089237316195423570985008687907853269984665640564039457584007913129639936 + lo) / 2 ^ k / b * 2 ^ k ≤ (hi * 115792089237316195423570985008687907853269984665640564039457584007913129639936 + lo) / b := by
    rw [Nat.div_div_eq_div_mul, Nat.mul_comm (2 ^ k) b, ← Nat.div_div_eq_div_mul]
    exact Nat.div_mul_le_self _ _
  have h2 : (hi * 115792089237316195423570985008687907853269984665640564039457584007913129639936 + lo) / b < 115792089237316195423570985008687907853269984665640564039457584007913129639936 := by
    rw [Nat.div_lt_iff_lt_mul (by omega)]
    have : (hi + 1) * 115792089237316195423570985008687907853269984665640564039457584007913129639936 ≤ b * 115792089237316195423570985008687907853269984665640564039457584007913129639936 := Nat.mul_le_mul_right _ hb
    rw [Nat.mul_comm 115792089237316195423570985008687907853269984665640564039457584007913129639936 b]
    omega
  omega
theorem quo_next {X b j : Nat} (hb : 0 < b) :
    (b ≤ 2 * (X / 2 ^ (j + 1) % b) + (X.testBit j).toNat → X / 2 ^ (j + 1) / b * 2 ^ (j + 1) ||| 2 ^ j = X / 2 ^ j / b * 2 ^ j ∧ X / 2 ^ j % b = 2 * (X / 2 ^ (j + 1) % b) + (X.testBit j).toNat - b) ∧
    (2 * (X / 2 ^ (j + 1) % b) + (X.testBit j).toNat < b → X / 2 ^ (j + 1) / b * 2 ^ (j + 1) = X / 2 ^ j / b * 2 ^ j ∧ X / 2 ^ j % b = 2 * (X / 2 ^ (j + 1) % b) + (X.testBit j).toNat) := by
  obtain ⟨h1, h2⟩ := div_step (Y := X / 2 ^ (j + 1)) (t := (X.testBit j).toNat) hb (by cases X.testBit j <;> decide) rfl rfl
  rw [← div_next] at h1 h2
  constructor
  · intro h
    rw [if_pos h] at h1 h2
    refine ⟨?_, h2⟩
    rw [or_bit_add, h1, Nat.pow_succ, Nat.add_mul, Nat.one_mul]
    congr 1
    rw [← Nat.mul_assoc, Nat.mul_right_comm, Nat.mul_comm 2]
  · intro h
    rw [if_neg (by omega)] at h1 h2
    refine ⟨?_, h2⟩
    rw [h1, Nat.pow_succ, Nat.add_zero]
    rw [← Nat.mul_assoc, Nat.mul_right_comm, Nat.mul_comm 2]
end Go.Fw

/-
Contract of the program's division: the walk. No conditions.
-/
namespace Go.Fw
set_option linter.unusedVariables false
set_option linter.unusedSimpArgs false
open Go.Proofs
set_option maxRecDepth 10000
set_option maxHeartbeats 4000000
theorem ret_Div_bad (hi lo b : Nat) (h1 : hi < 115792089237316195423570985008687907853269984665640564039457584007913129639936) (h3 : b < 115792089237316195423570985008687907853269984665640564039457584007913129639936) (h : b ≤ hi) : Returns cx n_wide_Div [U hi, U lo, U b] (.tup [U 0, U 0, .bool false]) := by
  (refine of_W2 (fn := f_wide_Div) { vis := [(2, [(0, true, [3]), (1, true, [4]), (2, true, [3]), (3, true, [4])]), (19, [(0, true, [3]), (1, true, [4]), (2, true, [3]), (3, true, [4])])] } (by kernel_rfl) (by kernel_rfl) (by kernel_rfl) (by kernel_rfl) (by kernel_rfl) ?_)
  ((try (conv => whnf)); (repeat ((first | (refine br_true ?_ ?_; (focus (exact yesA))) | (refine br_false ?_ ?_; (focus (exact noA))) | (refine onS_map ?_ ?_; (focus (exact numA))) | (refine onS_intro (eqTC_ints rfl rfl rfl rfl ?_) ?_; (focus (exact numA))) | refine onS_intro (mapB_u8s _) ?_ | (refine And.intro ?_ ?_; (focus (exact flatA)))); (try (conv => whnf)))))
  ((first | refine call_intro (ret_CmpU hi b h1 h3) (les_refl _) ?_ | refine call_intro (ret_CmpU hi b h1 h3) lesA ?_); (try (conv => whnf)))
  have hc : 0 ≤ cmpN hi b := by unfold cmpN; split <;> (try split) <;> omega
  ((try (conv => whnf)); (repeat ((first | (refine br_true ?_ ?_; (focus (exact yesA))) | (refine br_false ?_ ?_; (focus (exact noA))) | (refine onS_map ?_ ?_; (focus (exact numA))) | (refine onS_intro (eqTC_ints rfl rfl rfl rfl ?_) ?_; (focus (exact numA))) | refine onS_intro (mapB_u8s _) ?_ | (refine And.intro ?_ ?_; (focus (exact flatA)))); (try (conv => whnf)))))
  exact D.le.refl _
theorem set_or0' {z t : Nat} (ht : t < 18446744073709551616) : D.arr 4 .one (((parts z).map (D.int .u64)).set (Int.toNat 0) (.int .u64 (orW .u64 (wd z 0 : Nat) (t : Nat)))) = U (z ||| t) := set_or0 ht
theorem ret_Div_ok (hi lo b : Nat) (h1 : hi < 115792089237316195423570985008687907853269984665640564039457584007913129639936) (h2 : lo < 115792089237316195423570985008687907853269984665640564039457584007913129639936) (h3 : b < 115792089237316195423570985008687907853269984665640564039457584007913129639936) (h : hi < b) :
    Returns cx n_wide_Div [U hi, U lo, U b] (.tup [U ((hi * 115792089237316195423570985008687907853269984665640564039457584007913129639936 + lo) / b), U ((hi * 115792089237316195423570985008687907853269984665640564039457584007913129639936 + lo) % b), .bool true]) := by
  have hb0 : 0 < b := by omega
  obtain ⟨X, hX⟩ : ∃ X, X = hi * 115792089237316195423570985008687907853269984665640564039457584007913129639936 + lo := ⟨_, rfl⟩
  have hq : ∀ k, X / 2 ^ k / b * 2 ^ k < 115792089237316195423570985008687907853269984665640564039457584007913129639936 := fun k => by rw [hX]; exact quo_lt h2 h
  have hr : ∀ k, X / 2 ^ k % b < b := fun k => Nat.mod_lt _ hb0
  have hbit : ∀ j, j < 256 → X.testBit j = lo.testBit j := fun j hj => by rw [hX]; exact big_bit hj
  rw [← hX]
  (refine of_W2 (fn := f_wide_Div) { vis := [(2, [(0, true, [3]), (1, true, [4]), (2, true, [3]), (3, true, [4])]), (19, [(0, true, [3]), (1, true, [4]), (2, true, [3]), (3, true, [4])])] } (by kernel_rfl) (by kernel_rfl) (by kernel_rfl) (by kernel_rfl) (by kernel_rfl) ?_)
  ((try (conv => whnf)); (repeat ((first | (refine br_true ?_ ?_; (focus (exact yesA))) | (refine br_false ?_ ?_; (focus (exact noA))) | (refine onS_map ?_ ?_; (focus (exact numA))) | (refine onS_intro (eqTC_ints rfl rfl rfl rfl ?_) ?_; (focus (exact numA))) | refine onS_intro (mapB_u8s _) ?_ | (refine And.intro ?_ ?_; (focus (exact flatA)))); (try (conv => whnf)))))
  ((first | refine call_intro (ret_CmpU hi b h1 h3) (les_refl _) ?_ | refine call_intro (ret_CmpU hi b h1 h3) lesA ?_); (try (conv => whnf)))
  have hc : cmpN hi b < 0 := by unfold cmpN; rw [if_pos h]; decide
  ((try (conv => whnf)); (repeat ((first | (refine br_true ?_ ?_; (focus (exact yesA))) | (refine br_false ?_ ?_; (focus (exact noA))) | (refine onS_map ?_ ?_; (focus (exact numA))) | (refine onS_intro (eqTC_ints rfl rfl rfl rfl ?_) ?_; (focus (exact numA))) | refine onS_intro (mapB_u8s _) ?_ | (refine And.intro ?_ ?_; (focus (exact flatA)))); (try (conv => whnf)))))
  refine onS_intro (eqTC_U0 rfl rfl rfl rfl h1) ?_
  by_cases hz : hi = 0
  · have hl : nlen lo ≤ 256 := nlen_iff.2 h2
    have s0 : X / 2 ^ nlen lo = hi := by rw [hX, hz, Nat.zero_mul, Nat.zero_add]; exact Nat.div_eq_of_lt (nlen_lt lo)
    have s1 : X / 2 ^ nlen lo / b * 2 ^ nlen lo = 0 := by rw [s0, Nat.div_eq_of_lt h, Nat.zero_mul]
    have s2 : X / 2 ^ nlen lo % b = hi := by rw [s0, Nat.mod_eq_of_lt h]
    ((try (conv => whnf)); (repeat ((first | (refine br_true ?_ ?_; (focus (exact yesA))) | (refine br_false ?_ ?_; (focus (exact noA))) | (refine onS_map ?_ ?_; (focus (exact numA))) | (refine onS_intro (eqTC_ints rfl rfl rfl rfl ?_) ?_; (focus (exact numA))) | refine onS_intro (mapB_u8s _) ?_ | (refine And.intro ?_ ?_; (focus (exact flatA)))); (try (conv => whnf)))))
    ((first | refine call_intro (ret_LenU lo h2) (les_refl _) ?_ | refine call_intro (ret_LenU lo h2) lesA ?_); (try (conv => whnf)))
    ((try (conv => whnf)); (repeat ((first | (refine br_true ?_ ?_; (focus (exact yesA))) | (refine br_false ?_ ?_; (focus (exact noA))) | (refine onS_map ?_ ?_; (focus (exact numA))) | (refine onS_intro (eqTC_ints rfl rfl rfl rfl ?_) ?_; (focus (exact numA))) | refine onS_intro (mapB_u8s _) ?_ | (refine And.intro ?_ ?_; (focus (exact flatA)))); (try (conv => whnf)))))
    refine LoopW2_rule (fun k : Nat => [(4, .ptr 1 0 [] (.arr 4 .one)), (5, .ptr 2 0 [] (.arr 4 .one)), (6, .ptr 3 0 [] (.arr 4 .one)), (7, .ptr 4 0 [] (.arr 4 .one)), (9, .d (.int .i64 ((k : Int) - 1)))]) (fun k : Nat => [none, some (.fix (.d (U lo))), some (.fix (.d (U b))), some (.fix (.d (U (X / 2 ^ k / b * 2 ^ k)))), some (.fix (.d (U (X / 2 ^ k % b))))]) (fun k => k ≤ 256) (fun k => k) _ rfl (nlen lo) (Wk.go ?_ rfl ?_ rfl) hl ?_
    rotate_left 2
    · rintro k K hk hK
      simp only at hk hK ⊢
      cases k with
      | zero =>
        simp only [Nat.pow_zero, Nat.div_one, Nat.mul_one]
        ((try (conv => whnf)); (repeat ((first | (refine br_true ?_ ?_; (focus (exact yesA))) | (refine br_false ?_ ?_; (focus (exact noA))) | (refine onS_map ?_ ?_; (focus (exact numA))) | (refine onS_intro (eqTC_ints rfl rfl rfl rfl ?_) ?_; (focus (exact numA))) | refine onS_intro (mapB_u8s _) ?_ | (refine And.intro ?_ ?_; (focus (exact flatA)))); (try (conv => whnf)))))
        exact D.le.refl _
      | succ j =>
        have ej : ((j + 1 : Nat) : Int) - 1 = (j : Int) := by omega
        rw [ej]
        have hrb := hr (j + 1)
        have qn := quo_next (X := X) (j := j) hb0
        rw [hbit j (by omega)] at qn
        obtain ⟨t, ht⟩ : ∃ t, t = (lo.testBit j).toNat := ⟨_, rfl⟩
        have ht2 : t < 2 := by rw [ht]; cases lo.testBit j <;> decide
        have hbo := bit_of (n := lo) (show j < 256 by omega)
        rw [← ht] at qn hbo
        generalize X / 2 ^ (j + 1) % b = r at *
        generalize X / 2 ^ (j + 1) / b * 2 ^ (j + 1) = q at *
        ((try (conv => whnf)); (repeat ((first | (refine br_true ?_ ?_; (focus (exact yesA))) | (refine br_false ?_ ?_; (focus (exact noA))) | (refine onS_map ?_ ?_; (focus (exact numA))) | (refine onS_intro (eqTC_ints rfl rfl rfl rfl ?_) ?_; (focus (exact numA))) | refine onS_intro (mapB_u8s _) ?_ | (refine And.intro ?_ ?_; (focus (exact flatA)))); (try (conv => whnf)))))
        ((first | refine call_intro (ret_ShlU r 1 (by omega) (by decide)) (les_refl _) ?_ | refine call_intro (ret_ShlU r 1 (by omega) (by decide)) lesA ?_); (try (conv => whnf)))
        rw [show r * 2 ^ Int.toNat 1 % 115792089237316195423570985008687907853269984665640564039457584007913129639936 = r * 2 % 115792089237316195423570985008687907853269984665640564039457584007913129639936 from rfl]
        ((try (conv => whnf)); (repeat ((first | (refine br_true ?_ ?_; (focus (exact yesA))) | (refine br_false ?_ ?_; (focus (exact noA))) | (refine onS_map ?_ ?_; (focus (exact numA))) | (refine onS_intro (eqTC_ints rfl rfl rfl rfl ?_) ?_; (focus (exact numA))) | refine onS_intro (mapB_u8s _) ?_ | (refine And.intro ?_ ?_; (focus (exact flatA)))); (try (conv => whnf)))))
        refine onS_parts (by omega) ?_
        ((try (conv => whnf)); (repeat ((first | (refine br_true ?_ ?_; (focus (exact yesA))) | (refine br_false ?_ ?_; (focus (exact noA))) | (refine onS_map ?_ ?_; (focus (exact numA))) | (refine onS_intro (eqTC_ints rfl rfl rfl rfl ?_) ?_; (focus (exact numA))) | refine onS_intro (mapB_u8s _) ?_ | (refine And.intro ?_ ?_; (focus (exact flatA)))); (try (conv => whnf)))))
        have e1 : ((j : Int) / 64).toNat = j / 64 := by omega
        have e2 : ((j : Int) % 64).toNat = j % 64 := by omega
        rw [e1, e2, hbo]
        obtain ⟨z, hz'⟩ : ∃ z, z = r * 2 % 115792089237316195423570985008687907853269984665640564039457584007913129639936 := ⟨_, rfl⟩
        rw [← hz']
        rw [set_or0' (z := z) (t := t) (by omega)]
        have hzt : z ||| t = z + t := or_one (by omega) ht2
        rw [hzt]
        have hs256 : z + t < 115792089237316195423570985008687907853269984665640564039457584007913129639936 := by omega
        by_cases hT : r * 2 < 115792089237316195423570985008687907853269984665640564039457584007913129639936
        · have htop : wd r 3 / 9223372036854775808 = 0 := (top_of (by omega)).2 hT
          have htp : ((wd r 3 : Nat) : Int) / 2 ^ Int.toNat 63 = 0 := by show ((wd r 3 : Nat) : Int) / 9223372036854775808 = 0; omega
          rw [htp]
          have hz2 : z = r * 2 := by omega
          obtain ⟨s, hs⟩ : ∃ s, s = z + t := ⟨_, rfl⟩
          rw [← hs] at hs256 ⊢
          refine LoopW2_rule (fun k : Nat => [(4, .ptr 1 0 [] (.arr 4 .one)), (5, .ptr 2 0 [] (.arr 4 .one)), (6, .ptr 3 0 [] (.arr 4 .one)), (7, .ptr 4 0 [] (.arr 4 .one)), (9, .d (.int .i64 (j : Int))), (10, .d (.int .u64 0)), (11, .d (.int .i64 ((k : Int) - 1)))])
            (fun _ => [none, some (.fix (.d (U lo))), some (.fix (.d (U b))), some (.fix (.d (U q))), some (.fix (.d (U s)))]) (fun k => k ≤ 4 ∧ ∀ m, k ≤ m → m < 4 → wd s m = wd b m) (fun k => k) _ rfl 4 (Wk.go ?_ rfl ?_ rfl) ⟨Nat.le_refl _, fun m h1 h2 => by omega⟩ ?_
          rotate_left 2
          · rintro k K' ⟨hk4, hm⟩ hK'
            try simp only at hk4 hm hK' ⊢
            cases k with
            | zero =>
              have hsb : s = b := cmp_eq hs256 h3 hm
              ((try (conv => whnf)); (repeat ((first | (refine br_true ?_ ?_; (focus (exact yesA))) | (refine br_false ?_ ?_; (focus (exact noA))) | (refine onS_map ?_ ?_; (focus (exact numA))) | (refine onS_intro (eqTC_ints rfl rfl rfl rfl ?_) ?_; (focus (exact numA))) | refine onS_intro (mapB_u8s _) ?_ | (refine And.intro ?_ ?_; (focus (exact flatA)))); (try (conv => whnf)))))
              ((first | refine call_intro (ret_SubU s b hs256 h3) (les_refl _) ?_ | refine call_intro (ret_SubU s b hs256 h3) lesA ?_); (try (conv => whnf)))
              obtain ⟨q1, q2⟩ := qn.1 (by omega)
              ((try (conv => whnf)); (repeat ((first | (refine br_true ?_ ?_; (focus (exact yesA))) | (refine br_false ?_ ?_; (focus (exact noA))) | (refine onS_map ?_ ?_; (focus (exact numA))) | (refine onS_intro (eqTC_ints rfl rfl rfl rfl ?_) ?_; (focus (exact numA))) | refine onS_intro (mapB_u8s _) ?_ | (refine And.intro ?_ ?_; (focus (exact flatA)))); (try (conv => whnf)))))
              refine onS_parts (by omega) ?_
              ((try (conv => whnf)); (repeat ((first | (refine br_true ?_ ?_; (focus (exact yesA))) | (refine br_false ?_ ?_; (focus (exact noA))) | (refine onS_map ?_ ?_; (focus (exact numA))) | (refine onS_intro (eqTC_ints rfl rfl rfl rfl ?_) ?_; (focus (exact numA))) | refine onS_intro (mapB_u8s _) ?_ | (refine And.intro ?_ ?_; (focus (exact flatA)))); (try (conv => whnf)))))
              rw [e1, e2]
              refine hK j _ _ rfl (Wk.go ?_ rfl ?_ rfl) (by omega) (by omega)
              all_goals (try (repeat' (first | exact trivial | rfl | exact .inl rfl | exact .inr rfl | refine ⟨?_, ?_⟩)))
              · exact .inr (congrArg (fun x => some (Blk.fix (V.d x))) ((set_bit_U (by omega)).trans (congrArg U q1)))
              · exact .inr (congrArg (fun x => some (Blk.fix (V.d (U x)))) (by rw [q2]; omega))
            | succ i =>
              have ei : ((i + 1 : Nat) : Int) - 1 = (i : Int) := by omega
              rw [ei]
              ((try (conv => whnf)); (repeat ((first | (refine br_true ?_ ?_; (focus (exact yesA))) | (refine br_false ?_ ?_; (focus (exact noA))) | (refine onS_map ?_ ?_; (focus (exact numA))) | (refine onS_intro (eqTC_ints rfl rfl rfl rfl ?_) ?_; (focus (exact numA))) | refine onS_intro (mapB_u8s _) ?_ | (refine And.intro ?_ ?_; (focus (exact flatA)))); (try (conv => whnf)))))
              refine onS_parts (by omega) ?_
              ((try (conv => whnf)); (repeat ((first | (refine br_true ?_ ?_; (focus (exact yesA))) | (refine br_false ?_ ?_; (focus (exact noA))) | (refine onS_map ?_ ?_; (focus (exact numA))) | (refine onS_intro (eqTC_ints rfl rfl rfl rfl ?_) ?_; (focus (exact numA))) | refine onS_intro (mapB_u8s _) ?_ | (refine And.intro ?_ ?_; (focus (exact flatA)))); (try (conv => whnf)))))
              refine onS_parts (by omega) ?_
              rw [Int.toNat_natCast]
              by_cases hl : wd s i < wd b i
              · have hlt : s < b := cmp_lt hs256 h3 (by omega) (fun m h1 h2 => hm m (by omega) h2) hl
                obtain ⟨q1, q2⟩ := qn.2 (by omega)
                ((try (conv => whnf)); (repeat ((first | (refine br_true ?_ ?_; (focus (exact yesA))) | (refine br_false ?_ ?_; (focus (exact noA))) | (refine onS_map ?_ ?_; (focus (exact numA))) | (refine onS_intro (eqTC_ints rfl rfl rfl rfl ?_) ?_; (focus (exact numA))) | refine onS_intro (mapB_u8s _) ?_ | (refine And.intro ?_ ?_; (focus (exact flatA)))); (try (conv => whnf)))))
                refine hK j _ _ rfl (Wk.go ?_ rfl ?_ rfl) (by omega) (by omega)
                all_goals (try (repeat' (first | exact trivial | rfl | exact .inl rfl | exact .inr rfl | refine ⟨?_, ?_⟩)))
                · exact .inr (congrArg (fun x => some (Blk.fix (V.d (U x)))) q1)
                · exact .inr (congrArg (fun x => some (Blk.fix (V.d (U x)))) (by rw [q2]; omega))
              · by_cases hg : wd b i < wd s i
                · have hlt : b < s := cmp_lt h3 hs256 (by omega) (fun m h1 h2 => (hm m (by omega) h2).symm) hg
                  ((try (conv => whnf)); (repeat ((first | (refine br_true ?_ ?_; (focus (exact yesA))) | (refine br_false ?_ ?_; (focus (exact noA))) | (refine onS_map ?_ ?_; (focus (exact numA))) | (refine onS_intro (eqTC_ints rfl rfl rfl rfl ?_) ?_; (focus (exact numA))) | refine onS_intro (mapB_u8s _) ?_ | (refine And.intro ?_ ?_; (focus (exact flatA)))); (try (conv => whnf)))))
                  refine onS_parts (by omega) ?_
                  ((try (conv => whnf)); (repeat ((first | (refine br_true ?_ ?_; (focus (exact yesA))) | (refine br_false ?_ ?_; (focus (exact noA))) | (refine onS_map ?_ ?_; (focus (exact numA))) | (refine onS_intro (eqTC_ints rfl rfl rfl rfl ?_) ?_; (focus (exact numA))) | refine onS_intro (mapB_u8s _) ?_ | (refine And.intro ?_ ?_; (focus (exact flatA)))); (try (conv => whnf)))))
                  refine onS_parts (by omega) ?_
                  rw [Int.toNat_natCast]
                  ((try (conv => whnf)); (repeat ((first | (refine br_true ?_ ?_; (focus (exact yesA))) | (refine br_false ?_ ?_; (focus (exact noA))) | (refine onS_map ?_ ?_; (focus (exact numA))) | (refine onS_intro (eqTC_ints rfl rfl rfl rfl ?_) ?_; (focus (exact numA))) | refine onS_intro (mapB_u8s _) ?_ | (refine And.intro ?_ ?_; (focus (exact flatA)))); (try (conv => whnf)))))
                  ((first | refine call_intro (ret_SubU s b hs256 h3) (les_refl _) ?_ | refine call_intro (ret_SubU s b hs256 h3) lesA ?_); (try (conv => whnf)))
                  obtain ⟨q1, q2⟩ := qn.1 (by omega)
                  ((try (conv => whnf)); (repeat ((first | (refine br_true ?_ ?_; (focus (exact yesA))) | (refine br_false ?_ ?_; (focus (exact noA))) | (refine onS_map ?_ ?_; (focus (exact numA))) | (refine onS_intro (eqTC_ints rfl rfl rfl rfl ?_) ?_; (focus (exact numA))) | refine onS_intro (mapB_u8s _) ?_ | (refine And.intro ?_ ?_; (focus (exact flatA)))); (try (conv => whnf)))))
                  refine onS_parts (by omega) ?_
                  ((try (conv => whnf)); (repeat ((first | (refine br_true ?_ ?_; (focus (exact yesA))) | (refine br_false ?_ ?_; (focus (exact noA))) | (refine onS_map ?_ ?_; (focus (exact numA))) | (refine onS_intro (eqTC_ints rfl rfl rfl rfl ?_) ?_; (focus (exact numA))) | refine onS_intro (mapB_u8s _) ?_ | (refine And.intro ?_ ?_; (focus (exact flatA)))); (try (conv => whnf)))))
                  rw [e1, e2]
                  refine hK j _ _ rfl (Wk.go ?_ rfl ?_ rfl) (by omega) (by omega)
                  all_goals (try (repeat' (first | exact trivial | rfl | exact .inl rfl | exact .inr rfl | refine ⟨?_, ?_⟩)))
                  · exact .inr (congrArg (fun x => some (Blk.fix (V.d x))) ((set_bit_U (by omega)).trans (congrArg U q1)))
                  · exact .inr (congrArg (fun x => some (Blk.fix (V.d (U x)))) (by rw [q2]; omega))
                · ((try (conv => whnf)); (repeat ((first | (refine br_true ?_ ?_; (focus (exact yesA))) | (refine br_false ?_ ?_; (focus (exact noA))) | (refine onS_map ?_ ?_; (focus (exact numA))) | (refine onS_intro (eqTC_ints rfl rfl rfl rfl ?_) ?_; (focus (exact numA))) | refine onS_intro (mapB_u8s _) ?_ | (refine And.intro ?_ ?_; (focus (exact flatA)))); (try (conv => whnf)))))
                  refine onS_parts (by omega) ?_
                  ((try (conv => whnf)); (repeat ((first | (refine br_true ?_ ?_; (focus (exact yesA))) | (refine br_false ?_ ?_; (focus (exact noA))) | (refine onS_map ?_ ?_; (focus (exact numA))) | (refine onS_intro (eqTC_ints rfl rfl rfl rfl ?_) ?_; (focus (exact numA))) | refine onS_intro (mapB_u8s _) ?_ | (refine And.intro ?_ ?_; (focus (exact flatA)))); (try (conv => whnf)))))
                  refine onS_parts (by omega) ?_
                  rw [Int.toNat_natCast]
                  ((try (conv => whnf)); (repeat ((first | (refine br_true ?_ ?_; (focus (exact yesA))) | (refine br_false ?_ ?_; (focus (exact noA))) | (refine onS_map ?_ ?_; (focus (exact numA))) | (refine onS_intro (eqTC_ints rfl rfl rfl rfl ?_) ?_; (focus (exact numA))) | refine onS_intro (mapB_u8s _) ?_ | (refine And.intro ?_ ?_; (focus (exact flatA)))); (try (conv => whnf)))))
                  refine hK' i _ _ rfl (Wk.go ?_ rfl ?_ rfl) ⟨by omega, fun m h1 h2 => ?_⟩ (by omega)
                  rotate_left 2
                  · by_cases hmi : m = i
                    · subst hmi; omega
                    · exact hm m (by omega) h2
                  all_goals (try (repeat' (first | exact trivial | rfl | exact .inl rfl | exact .inr rfl | refine ⟨?_, ?_⟩)))
          all_goals (try (repeat' (first | exact trivial | rfl | exact .inl rfl | exact .inr rfl | refine ⟨?_, ?_⟩)))
        · have htop : wd r 3 / 9223372036854775808 ≠ 0 := fun h => hT ((top_of (by omega)).1 h)
          have htp : ¬ ((wd r 3 : Nat) : Int) / 2 ^ Int.toNat 63 = 0 := by show ¬ ((wd r 3 : Nat) : Int) / 9223372036854775808 = 0; omega
          obtain ⟨s, hs⟩ : ∃ s, s = z + t := ⟨_, rfl⟩
          rw [← hs] at hs256 ⊢
          refine LoopW2_n 1 (iter_go ?_)
          ((try (conv => whnf)); (repeat ((first | (refine br_true ?_ ?_; (focus (exact yesA))) | (refine br_false ?_ ?_; (focus (exact noA))) | (refine onS_map ?_ ?_; (focus (exact numA))) | (refine onS_intro (eqTC_ints rfl rfl rfl rfl ?_) ?_; (focus (exact numA))) | refine onS_intro (mapB_u8s _) ?_ | (refine And.intro ?_ ?_; (focus (exact flatA)))); (try (conv => whnf)))))
          ((first | refine call_intro (ret_SubU s b hs256 h3) (les_refl _) ?_ | refine call_intro (ret_SubU s b hs256 h3) lesA ?_); (try (conv => whnf)))
          obtain ⟨q1, q2⟩ := qn.1 (by omega)
          ((try (conv => whnf)); (repeat ((first | (refine br_true ?_ ?_; (focus (exact yesA))) | (refine br_false ?_ ?_; (focus (exact noA))) | (refine onS_map ?_ ?_; (focus (exact numA))) | (refine onS_intro (eqTC_ints rfl rfl rfl rfl ?_) ?_; (focus (exact numA))) | refine onS_intro (mapB_u8s _) ?_ | (refine And.intro ?_ ?_; (focus (exact flatA)))); (try (conv => whnf)))))
          refine onS_parts (by omega) ?_
          ((try (conv => whnf)); (repeat ((first | (refine br_true ?_ ?_; (focus (exact yesA))) | (refine br_false ?_ ?_; (focus (exact noA))) | (refine onS_map ?_ ?_; (focus (exact numA))) | (refine onS_intro (eqTC_ints rfl rfl rfl rfl ?_) ?_; (focus (exact numA))) | refine onS_intro (mapB_u8s _) ?_ | (refine And.intro ?_ ?_; (focus (exact flatA)))); (try (conv => whnf)))))
          rw [e1, e2]
          refine hK j _ _ rfl (Wk.go ?_ rfl ?_ rfl) (by omega) (by omega)
          all_goals (try (repeat' (first | exact trivial | rfl | exact .inl rfl | exact .inr rfl | refine ⟨?_, ?_⟩)))
          · exact .inr (congrArg (fun x => some (Blk.fix (V.d x))) ((set_bit_U (by omega)).trans (congrArg U q1)))
          · exact .inr (congrArg (fun x => some (Blk.fix (V.d (U x)))) (by rw [q2]; omega))
    all_goals (try (repeat' (first | exact trivial | rfl | exact .inl rfl | exact .inr rfl | refine ⟨?_, ?_⟩)))
    · exact .inr (by rw [s1]; rfl)
    · exact .inr (by rw [s2])
  · have s0 : X / 2 ^ 256 = hi := by rw [hX]; show (hi * 115792089237316195423570985008687907853269984665640564039457584007913129639936 + lo) / 115792089237316195423570985008687907853269984665640564039457584007913129639936 = hi; omega
    have s1 : X / 2 ^ 256 / b * 2 ^ 256 = 0 := by rw [s0, Nat.div_eq_of_lt h, Nat.zero_mul]
    have s2 : X / 2 ^ 256 % b = hi := by rw [s0, Nat.mod_eq_of_lt h]
    ((try (conv => whnf)); (repeat ((first | (refine br_true ?_ ?_; (focus (exact yesA))) | (refine br_false ?_ ?_; (focus (exact noA))) | (refine onS_map ?_ ?_; (focus (exact numA))) | (refine onS_intro (eqTC_ints rfl rfl rfl rfl ?_) ?_; (focus (exact numA))) | refine onS_intro (mapB_u8s _) ?_ | (refine And.intro ?_ ?_; (focus (exact flatA)))); (try (conv => whnf)))))
    refine LoopW2_rule (fun k : Nat => [(4, .ptr 1 0 [] (.arr 4 .one)), (5, .ptr 2 0 [] (.arr 4 .one)), (6, .ptr 3 0 [] (.arr 4 .one)), (7, .ptr 4 0 [] (.arr 4 .one)), (9, .d (.int .i64 ((k : Int) - 1)))]) (fun k : Nat => [none, some (.fix (.d (U lo))), some (.fix (.d (U b))), some (.fix (.d (U (X / 2 ^ k / b * 2 ^ k)))), some (.fix (.d (U (X / 2 ^ k % b))))]) (fun k => k ≤ 256) (fun k => k) _ rfl 256 (Wk.go ?_ rfl ?_ rfl) (Nat.le_refl _) ?_
    rotate_left 2
    · rintro k K hk hK
      simp only at hk hK ⊢
      cases k with
      | zero =>
        simp only [Nat.pow_zero, Nat.div_one, Nat.mul_one]
        ((try (conv => whnf)); (repeat ((first | (refine br_true ?_ ?_; (focus (exact yesA))) | (refine br_false ?_ ?_; (focus (exact noA))) | (refine onS_map ?_ ?_; (focus (exact numA))) | (refine onS_intro (eqTC_ints rfl rfl rfl rfl ?_) ?_; (focus (exact numA))) | refine onS_intro (mapB_u8s _) ?_ | (refine And.intro ?_ ?_; (focus (exact flatA)))); (try (conv => whnf)))))
        exact D.le.refl _
      | succ j =>
        have ej : ((j + 1 : Nat) : Int) - 1 = (j : Int) := by omega
        rw [ej]
        have hrb := hr (j + 1)
        have qn := quo_next (X := X) (j := j) hb0
        rw [hbit j (by omega)] at qn
        obtain ⟨t, ht⟩ : ∃ t, t = (lo.testBit j).toNat := ⟨_, rfl⟩
        have ht2 : t < 2 := by rw [ht]; cases lo.testBit j <;> decide
        have hbo := bit_of (n := lo) (show j < 256 by omega)
        rw [← ht] at qn hbo
        generalize X / 2 ^ (j + 1) % b = r at *
        generalize X / 2 ^ (j + 1) / b * 2 ^ (j + 1) = q at *
        ((try (conv => whnf)); (repeat ((first | (refine br_true ?_ ?_; (focus (exact yesA))) | (refine br_false ?_ ?_; (focus (exact noA))) | (refine onS_map ?_ ?_; (focus (exact numA))) | (refine onS_intro (eqTC_ints rfl rfl rfl rfl ?_) ?_; (focus (exact numA))) | refine onS_intro (mapB_u8s _) ?_ | (refine And.intro ?_ ?_; (focus (exact flatA)))); (try (conv => whnf)))))
        ((first | refine call_intro (ret_ShlU r 1 (by omega) (by decide)) (les_refl _) ?_ | refine call_intro (ret_ShlU r 1 (by omega) (by decide)) lesA ?_); (try (conv => whnf)))
        rw [show r * 2 ^ Int.toNat 1 % 115792089237316195423570985008687907853269984665640564039457584007913129639936 = r * 2 % 115792089237316195423570985008687907853269984665640564039457584007913129639936 from rfl]
        ((try (conv => whnf)); (repeat ((first | (refine br_true ?_ ?_; (focus (exact yesA))) | (refine br_false ?_ ?_; (focus (exact noA))) | (refine onS_map ?_ ?_; (focus (exact numA))) | (refine onS_intro (eqTC_ints rfl rfl rfl rfl ?_) ?_; (focus (exact numA))) | refine onS_intro (mapB_u8s _) ?_ | (refine And.intro ?_ ?_; (focus (exact flatA)))); (try (conv => whnf)))))
        refine onS_parts (by omega) ?_
        ((try (conv => whnf)); (repeat ((first | (refine br_true ?_ ?_; (focus (exact yesA))) | (refine br_false ?_ ?_; (focus (exact noA))) | (refine onS_map ?_ ?_; (focus (exact numA))) | (refine onS_intro (eqTC_ints rfl rfl rfl rfl ?_) ?_; (focus (exact numA))) | refine onS_intro (mapB_u8s _) ?_ | (refine And.intro ?_ ?_; (focus (exact flatA)))); (try (conv => whnf)))))
        have e1 : ((j : Int) / 64).toNat = j / 64 := by omega
        have e2 : ((j : Int) % 64).toNat = j % 64 := by omega
        rw [e1, e2, hbo]
        obtain ⟨z, hz'⟩ : ∃ z, z = r * 2 % 115792089237316195423570985008687907853269984665640564039457584007913129639936 := ⟨_, rfl⟩
        rw [← hz']
        rw [set_or0' (z := z) (t := t) (by omega)]
        have hzt : z ||| t = z + t := or_one (by omega) ht2
        rw [hzt]
        have hs256 : z + t < 115792089237316195423570985008687907853269984665640564039457584007913129639936 := by omega
        by_cases hT : r * 2 < 115792089237316195423570985008687907853269984665640564039457584007913129639936
        · have htop : wd r 3 / 9223372036854775808 = 0 := (top_of (by omega)).2 hT
          have htp : ((wd r 3 : Nat) : Int) / 2 ^ Int.toNat 63 = 0 := by show ((wd r 3 : Nat) : Int) / 9223372036854775808 = 0; omega
          rw [htp]
          have hz2 : z = r * 2 := by omega
          obtain ⟨s, hs⟩ : ∃ s, s = z + t := ⟨_, rfl⟩
          rw [← hs] at hs256 ⊢
          refine LoopW2_rule (fun k : Nat => [(4, .ptr 1 0 [] (.arr 4 .one)), (5, .ptr 2 0 [] (.arr 4 .one)), (6, .ptr 3 0 [] (.arr 4 .one)), (7, .ptr 4 0 [] (.arr 4 .one)), (9, .d (.int .i64 (j : Int))), (10, .d (.int .u64 0)), (11, .d (.int .i64 ((k : Int) - 1)))])
            (fun _ => [none, some (.fix (.d (U lo))), some (.fix (.d (U b))), some (.fix (.d (U q))), some (.fix (.d (U s)))]) (fun k => k ≤ 4 ∧ ∀ m, k ≤ m → m < 4 → wd s m = wd b m) (fun k => k) _ rfl 4 (Wk.go ?_ rfl ?_ rfl) ⟨Nat.le_refl _, fun m h1 h2 => by omega⟩ ?_
          rotate_left 2
          · rintro k K' ⟨hk4, hm⟩ hK'
            try simp only at hk4 hm hK' ⊢
            cases k with
            | zero =>
              have hsb : s = b := cmp_eq hs256 h3 hm
              ((try (conv => whnf)); (repeat ((first | (refine br_true ?_ ?_; (focus (exact yesA))) | (refine br_false ?_ ?_; (focus (exact noA))) | (refine onS_map ?_ ?_; (focus (exact numA))) | (refine onS_intro (eqTC_ints rfl rfl rfl rfl ?_) ?_; (focus (exact numA))) | refine onS_intro (mapB_u8s _) ?_ | (refine And.intro ?_ ?_; (focus (exact flatA)))); (try (conv => whnf)))))
              ((first | refine call_intro (ret_SubU s b hs256 h3) (les_refl _) ?_ | refine call_intro (ret_SubU s b hs256 h3) lesA ?_); (try (conv => whnf)))
              obtain ⟨q1, q2⟩ := qn.1 (by omega)
              ((try (conv => whnf)); (repeat ((first | (refine br_true ?_ ?_; (focus (exact yesA))) | (refine br_false ?_ ?_; (focus (exact noA))) | (refine onS_map ?_ ?_; (focus (exact numA))) | (refine onS_intro (eqTC_ints rfl rfl rfl rfl ?_) ?_; (focus (exact numA))) | refine onS_intro (mapB_u8s _) ?_ | (refine And.intro ?_ ?_; (focus (exact flatA)))); (try (conv => whnf)))))
              refine onS_parts (by omega) ?_
              ((try (conv => whnf)); (repeat ((first | (refine br_true ?_ ?_; (focus (exact yesA))) | (refine br_false ?_ ?_; (focus (exact noA))) | (refine onS_map ?_ ?_; (focus (exact numA))) | (refine onS_intro (eqTC_ints rfl rfl rfl rfl ?_) ?_; (focus (exact numA))) | refine onS_intro (mapB_u8s _) ?_ | (refine And.intro ?_ ?_; (focus (exact flatA)))); (try (conv => whnf)))))
              rw [e1, e2]
              refine hK j _ _ rfl (Wk.go ?_ rfl ?_ rfl) (by omega) (by omega)
              all_goals (try (repeat' (first | exact trivial | rfl | exact .inl rfl | exact .inr rfl | refine ⟨?_, ?_⟩)))
              · exact .inr (congrArg (fun x => some (Blk.fix (V.d x))) ((set_bit_U (by omega)).trans (congrArg U q1)))
              · exact .inr (congrArg (fun x => some (Blk.fix (V.d (U x)))) (by rw [q2]; omega))
            | succ i =>
              have ei : ((i + 1 : Nat) : Int) - 1 = (i : Int) := by omega
              rw [ei]
              ((try (conv => whnf)); (repeat ((first | (refine br_true ?_ ?_; (focus (exact yesA))) | (refine br_false ?_ ?_; (focus (exact noA))) | (refine onS_map ?_ ?_; (focus (exact numA))) | (refine onS_intro (eqTC_ints rfl rfl rfl rfl ?_) ?_; (focus (exact numA))) | refine onS_intro (mapB_u8s _) ?_ | (refine And.intro ?_ ?_; (focus (exact flatA)))); (try (conv => whnf)))))
              refine onS_parts (by omega) ?_
              ((try (conv => whnf)); (repeat ((first | (refine br_true ?_ ?_; (focus (exact yesA))) | (refine br_false ?_ ?_; (focus (exact noA))) | (refine onS_map ?_ ?_; (focus (exact numA))) | (refine onS_intro (eqTC_ints rfl rfl rfl rfl ?_) ?_; (focus (exact numA))) | refine onS_intro (mapB_u8s _) ?_ | (refine And.intro ?_ ?_; (focus (exact flatA)))); (try (conv => whnf)))))
              refine onS_parts (by omega) ?_
              rw [Int.toNat_natCast]
              by_cases hl : wd s i < wd b i
              · have hlt : s < b := cmp_lt hs256 h3 (by omega) (fun m h1 h2 => hm m (by omega) h2) hl
                obtain ⟨q1, q2⟩ := qn.2 (by omega)
                ((try (conv => whnf)); (repeat ((first | (refine br_true ?_ ?_; (focus (exact yesA))) | (refine br_false ?_ ?_; (focus (exact noA))) | (refine onS_map ?_ ?_; (focus (exact numA))) | (refine onS_intro (eqTC_ints rfl rfl rfl rfl ?_) ?_; (focus (exact numA))) | refine onS_intro (mapB_u8s _) ?_ | (refine And.intro ?_ ?_; (focus (exact flatA)))); (try (conv => whnf)))))
                refine hK j _ _ rfl (Wk.go ?_ rfl ?_ rfl) (by omega) (by omega)
                all_goals (try (repeat' (first | exact trivial | rfl | exact .inl rfl | exact .inr rfl | refine ⟨?_, ?_⟩)))
                · exact .inr (congrArg (fun x => some (Blk.fix (V.d (U x)))) q1)
                · exact .inr (congrArg (fun x => some (Blk.fix (V.d (U x)))) (by rw [q2]; omega))
              · by_cases hg : wd b i < wd s i
                · have hlt : b < s := cmp_lt h3 hs256 (by omega) (fun m h1 h2 => (hm m (by omega) h2).symm) hg
                  ((try (conv => whnf)); (repeat ((first | (refine br_true ?_ ?_; (focus (exact yesA))) | (refine br_false ?_ ?_; (focus (exact noA))) | (refine onS_map ?_ ?_; (focus (exact numA))) | (refine onS_intro (eqTC_ints rfl rfl rfl rfl ?_) ?_; (focus (exact numA))) | refine onS_intro (mapB_u8s _) ?_ | (refine And.intro ?_ ?_; (focus (exact flatA)))); (try (conv => whnf)))))
                  refine onS_parts (by omega) ?_
                  ((try (conv => whnf)); (repeat ((first | (refine br_true ?_ ?_; (focus (exact yesA))) | (refine br_false ?_ ?_; (focus (exact noA))) | (refine onS_map ?_ ?_; (focus (exact numA))) | (refine onS_intro (eqTC_ints rfl rfl rfl rfl ?_) ?_; (focus (exact numA))) | refine onS_intro (mapB_u8s _) ?_ | (refine And.intro ?_ ?_; (focus (exact flatA)))); (try (conv => whnf)))))
                  refine onS_parts (by omega) ?_
                  rw [Int.toNat_natCast]
                  ((try (conv => whnf)); (repeat ((first | (refine br_true ?_ ?_; (focus (exact yesA))) | (refine br_false ?_ ?_; (focus (exact noA))) | (refine onS_map ?_ ?_; (focus (exact numA))) | (refine onS_intro (eqTC_ints rfl rfl rfl rfl ?_) ?_; (focus (exact numA))) | refine onS_intro (mapB_u8s _) ?_ | (refine And.intro ?_ ?_; (focus (exact flatA)))); (try (conv => whnf)))))
                  ((first | refine call_intro (ret_SubU s b hs256 h3) (les_refl _) ?_ | refine call_intro (ret_SubU s b hs256 h3) lesA ?_); (try (conv => whnf)))
                  obtain ⟨q1, q2⟩ := qn.1 (by omega)
                  ((try (conv => whnf)); (repeat ((first | (refine br_true ?_ ?_; (focus (exact yesA))) | (refine br_false ?_ ?_; (focus (exact noA))) | (refine onS_map ?_ ?_; (focus (exact numA))) | (refine onS_intro (eqTC_ints rfl rfl rfl rfl ?_) ?_; (focus (exact numA))) | refine onS_intro (mapB_u8s _) ?_ | (refine And.intro ?_ ?_; (focus (exact flatA)))); (try (conv => whnf)))))
                  refine onS_parts (by omega) ?_
                  ((try (conv => whnf)); (repeat ((first | (refine br_true ?_ ?_; (focus (exact yesA))) | (refine br_false ?_ ?_; (focus (exact noA))) | (refine onS_map ?_ ?_; (focus (exact numA))) | (refine onS_intro (eqTC_ints rfl rfl rfl rfl ?_) ?_; (focus (exact numA))) | refine onS_intro (mapB_u8s _) ?_ | (refine And.intro ?_ ?_; (focus (exact flatA)))); (try (conv => whnf)))))
                  rw [e1, e2]
                  refine hK j _ _ rfl (Wk.go ?_ rfl ?_ rfl) (by omega) (by omega)
                  all_goals (try (repeat' (first | exact trivial | rfl | exact .inl rfl | exact .inr rfl | refine ⟨?_, ?_⟩)))
                  · exact .inr (congrArg (fun x => some (Blk.fix (V.d x))) ((set_bit_U (by omega)).trans (congrArg U q1)))
                  · exact .inr (congrArg (fun x => some (Blk.fix (V.d (U x)))) (by rw [q2]; omega))
                · ((try (conv => whnf)); (repeat ((first | (refine br_true ?_ ?_; (focus (exact yesA))) | (refine br_false ?_ ?_; (focus (exact noA))) | (refine onS_map ?_ ?_; (focus (exact numA))) | (refine onS_intro (eqTC_ints rfl rfl rfl rfl ?_) ?_; (focus (exact numA))) | refine onS_intro (mapB_u8s _) ?_ | (refine And.intro ?_ ?_; (focus (exact flatA)))); (try (conv => whnf)))))
                  refine onS_parts (by omega) ?_
                  ((try (conv => whnf)); (repeat ((first | (refine br_true ?_ ?_; (focus (exact yesA))) | (refine br_false ?_ ?_; (focus (exact noA))) | (refine onS_map ?_ ?_; (focus (exact numA))) | (refine onS_intro (eqTC_ints rfl rfl rfl rfl ?_) ?_; (focus (exact numA))) | refine onS_intro (mapB_u8s _) ?_ | (refine And.intro ?_ ?_; (focus (exact flatA)))); (try (conv => whnf)))))
                  refine onS_parts (by omega) ?_
                  rw [Int.toNat_natCast]
                  ((try (conv => whnf)); (repeat ((first | (refine br_true ?_ ?_; (focus (exact yesA))) | (refine br_false ?_ ?_; (focus (exact noA))) | (refine onS_map ?_ ?_; (focus (exact numA))) | (refine onS_intro (eqTC_ints rfl rfl rfl rfl ?_) ?_; (focus (exact numA))) | refine onS_intro (mapB_u8s _) ?_ | (refine And.intro ?_ ?_; (focus (exact flatA)))); (try (conv => whnf)))))
                  refine hK' i _ _ rfl (Wk.go ?_ rfl ?_ rfl) ⟨by omega, fun m h1 h2 => ?_⟩ (by omega)
                  rotate_left 2
                  · by_cases hmi : m = i
                    · subst hmi; omega
                    · exact hm m (by omega) h2
                  all_goals (try (repeat' (first | exact trivial | rfl | exact .inl rfl | exact .inr rfl | refine ⟨?_, ?_⟩)))
          all_goals (try (repeat' (first | exact trivial | rfl | exact .inl rfl | exact .inr rfl | refine ⟨?_, ?_⟩)))
        · have htop : wd r 3 / 9223372036854775808 ≠ 0 := fun h => hT ((top_of (by omega)).1 h)
          have htp : ¬ ((wd r 3 : Nat) : Int) / 2 ^ Int.toNat 63 = 0 := by show ¬ ((wd r 3 : Nat) : Int) / 9223372036854775808 = 0; omega
          obtain ⟨s, hs⟩ : ∃ s, s = z + t := ⟨_, rfl⟩
          rw [← hs] at hs256 ⊢
          refine LoopW2_n 1 (iter_go ?_)
          ((try (conv => whnf)); (repeat ((first | (refine br_true ?_ ?_; (focus (exact yesA))) | (refine br_false ?_ ?_; (focus (exact noA))) | (refine onS_map ?_ ?_; (focus (exact numA))) | (refine onS_intro (eqTC_ints rfl rfl rfl rfl ?_) ?_; (focus (exact numA))) | refine onS_intro (mapB_u8s _) ?_ | (refine And.intro ?_ ?_; (focus (exact flatA)))); (try (conv => whnf)))))
          ((first | refine call_intro (ret_SubU s b hs256 h3) (les_refl _) ?_ | refine call_intro (ret_SubU s b hs256 h3) lesA ?_); (try (conv => whnf)))
          obtain ⟨q1, q2⟩ := qn.1 (by omega)
          ((try (conv => whnf)); (repeat ((first | (refine br_true ?_ ?_; (focus (exact yesA))) | (refine br_false ?_ ?_; (focus (exact noA))) | (refine onS_map ?_ ?_; (focus (exact numA))) | (refine onS_intro (eqTC_ints rfl rfl rfl rfl ?_) ?_; (focus (exact numA))) | refine onS_intro (mapB_u8s _) ?_ | (refine And.intro ?_ ?_; (focus (exact flatA)))); (try (conv => whnf)))))
          refine onS_parts (by omega) ?_
          ((try (conv => whnf)); (repeat ((first | (refine br_true ?_ ?_; (focus (exact yesA))) | (refine br_false ?_ ?_; (focus (exact noA))) | (refine onS_map ?_ ?_; (focus (exact numA))) | (refine onS_intro (eqTC_ints rfl rfl rfl rfl ?_) ?_; (focus (exact numA))) | refine onS_intro (mapB_u8s _) ?_ | (refine And.intro ?_ ?_; (focus (exact flatA)))); (try (conv => whnf)))))
          rw [e1, e2]
          refine hK j _ _ rfl (Wk.go ?_ rfl ?_ rfl) (by omega) (by omega)
          all_goals (try (repeat' (first | exact trivial | rfl | exact .inl rfl | exact .inr rfl | refine ⟨?_, ?_⟩)))
          · exact .inr (congrArg (fun x => some (Blk.fix (V.d x))) ((set_bit_U (by omega)).trans (congrArg U q1)))
          · exact .inr (congrArg (fun x => some (Blk.fix (V.d (U x)))) (by rw [q2]; omega))
    all_goals (try (repeat' (first | exact trivial | rfl | exact .inl rfl | exact .inr rfl | refine ⟨?_, ?_⟩)))
    · exact .inr (by rw [s1]; rfl)
    · exact .inr (by rw [s2])
end Go.Fw

/-
Contract of products of 64 bits. No conditions.
-/
namespace Go.Fw
set_option linter.unusedVariables false
set_option linter.unusedSimpArgs false
open Go.Proofs
set_option maxRecDepth 10000
theorem and32 {a : Nat} (ha : a < 18446744073709551616) : andW .u64 (a : Int) 4294967295 = ((a % 4294967296 : Nat) : Int) := by
  have := and64 ha (show 4294967295 < 18446744073709551616 by decide)
  refine this.trans (congrArg _ ?_)
  exact Nat.and_two_pow_sub_one_eq_mod a 32
theorem mul_parts (x1 x0 y1 y0 : Nat) (h1 : x1 < 4294967296) (h2 : x0 < 4294967296) (h3 : y1 < 4294967296) (h4 : y0 < 4294967296) :
    ((x1 * 4294967296 + x0) * (y1 * 4294967296 + y0)) / 18446744073709551616 = x1 * y1 + (x1 * y0 + x0 * y0 / 4294967296) / 4294967296 + ((x1 * y0 + x0 * y0 / 4294967296) % 4294967296 + x0 * y1) / 4294967296 := by
  have e : (x1 * 4294967296 + x0) * (y1 * 4294967296 + y0) = x1 * y1 * 18446744073709551616 + (x1 * y0 + x0 * y1) * 4294967296 + x0 * y0 := by
    simp only [Nat.add_mul, Nat.mul_add]
    have a1 : x1 * 4294967296 * (y1 * 4294967296) = x1 * y1 * 18446744073709551616 := by rw [Nat.mul_mul_mul_comm]
    have a2 : x1 * 4294967296 * y0 = x1 * y0 * 4294967296 := by rw [Nat.mul_right_comm]
    have a3 : x0 * (y1 * 4294967296) = x0 * y1 * 4294967296 := by rw [Nat.mul_assoc]
    omega
  rw [e]
  generalize x1 * y1 = p11
  generalize x1 * y0 = p10
  generalize x0 * y1 = p01
  generalize x0 * y0 = p00
  omega
theorem mulN {a b : Nat} (h : a * b < 18446744073709551616) : mulW .u64 (a : Int) (b : Int) = ((a * b : Nat) : Int) := by
  rw [mulW_u64, ← Int.natCast_mul]; omega
theorem mulM (a b : Nat) : mulW .u64 (a : Int) (b : Int) = ((a * b % 18446744073709551616 : Nat) : Int) := by
  rw [mulW_u64, ← Int.natCast_mul]; omega
theorem addW4 {a b : Nat} (h : a + b < 18446744073709551616) : addW .u64 (a : Int) (b : Int) = ((a + b : Nat) : Int) := by
  rw [addW_u64]; omega
theorem d32 (a : Nat) : (a : Int) / 2 ^ Int.toNat 32 = ((a / 4294967296 : Nat) : Int) := by
  show (a : Int) / 4294967296 = _
  omega
theorem small_mul {a b : Nat} (h1 : a < 4294967296) (h2 : b < 4294967296) : a * b ≤ 18446744065119617025 := Nat.mul_le_mul (show a ≤ 4294967295 by omega) (show b ≤ 4294967295 by omega)
theorem ret_Mul64 (x y : Nat) (hx : x < 18446744073709551616) (hy : y < 18446744073709551616) :
    Returns cx n_bits_Mul64 [n64 x, n64 y] (.tup [n64 (x * y / 18446744073709551616), n64 (x * y % 18446744073709551616)]) := by
  (refine of_W2 (fn := f_bits_Mul64) {} (by kernel_rfl) (by kernel_rfl) (by kernel_rfl) (by kernel_rfl) (by kernel_rfl) ?_)
  ((try (conv => whnf)); (repeat ((first | (refine br_true ?_ ?_; (focus (exact yesA))) | (refine br_false ?_ ?_; (focus (exact noA))) | (refine onS_map ?_ ?_; (focus (exact numA))) | (refine onS_intro (eqTC_ints rfl rfl rfl rfl ?_) ?_; (focus (exact numA))) | refine onS_intro (mapB_u8s _) ?_ | (refine And.intro ?_ ?_; (focus (exact flatA)))); (try (conv => whnf)))))
  have b1 : x / 4294967296 < 4294967296 := by omega
  have b2 : y / 4294967296 < 4294967296 := by omega
  have b3 : x % 4294967296 < 4294967296 := by omega
  have b4 : y % 4294967296 < 4294967296 := by omega
  have hm := mul_parts _ _ _ _ b1 b3 b2 b4
  rw [show x / 4294967296 * 4294967296 + x % 4294967296 = x by omega, show y / 4294967296 * 4294967296 + y % 4294967296 = y by omega] at hm
  rw [hm, and32 hx, and32 hy, d32 x, d32 y, mulM x y]
  have p1 := small_mul b1 b2
  have p2 := small_mul b1 b4
  have p3 := small_mul b3 b2
  have p4 := small_mul b3 b4
  rw [mulN (by omega), mulN (by omega), mulN (by omega), mulN (by omega), d32, addW4 (by omega), and32 (by omega), d32, addW4 (by omega), addW4 (by omega), d32, addW4 (by omega)]
  exact D.le.refl _
end Go.Fw
