/-
The table of types and the numbers of the functions of one seat, printed by gen.py. No conditions.
-/
import Derived.Test.YtcoooinjnkeokaaDoorFwZg
import Derived.Test.YtcoooinjnkeokaaDoorProg
import Derived.KernelRfl
namespace Go.Fw
open Go.Proofs
def tyTab : List (Nat × TyE) := [
  (2, ⟨.int .i64, .one, 8, .int .i64 0⟩),
  (3, ⟨.int .i64, .one, 8, .int .i64 0⟩),
  (4, ⟨.bool, .one, 1, .bool false⟩),
  (5, ⟨.int .u8, .one, 1, .int .u8 0⟩),
  (9, ⟨.str, .one, 16, .str []⟩),
  (12, ⟨.int .u64, .one, 8, .int .u64 0⟩),
  (15, ⟨.ptr 50, .one, 8, .nilp⟩),
  (16, ⟨.ptr 53, .one, 8, .nilp⟩),
  (17, ⟨.ptr 62, .one, 8, .nilp⟩),
  (21, ⟨.int .i32, .one, 4, .int .i32 0⟩),
  (22, ⟨.int .u32, .one, 4, .int .u32 0⟩),
  (23, ⟨.arr 8 22, .arr 8 (.one), 32, .arr 8 (.one) (List.replicate 8 (.int .u32 0))⟩),
  (24, ⟨.arr 64 5, .arr 64 (.one), 64, .arr 64 (.one) (List.replicate 64 (.int .u8 0))⟩),
  (28, ⟨.int .u64, .one, 8, .int .u64 0⟩),
  (29, ⟨.sl 5, .one, 24, .nils⟩),
  (33, ⟨.arr 32 5, .arr 32 (.one), 32, .arr 32 (.one) (List.replicate 32 (.int .u8 0))⟩),
  (34, ⟨.arr 32 5, .arr 32 (.one), 32, .arr 32 (.one) (List.replicate 32 (.int .u8 0))⟩),
  (36, ⟨.int .u64, .one, 8, .int .u64 0⟩),
  (44, ⟨.arr 64 22, .arr 64 (.one), 256, .arr 64 (.one) (List.replicate 64 (.int .u32 0))⟩),
  (58, ⟨.ptr 5, .one, 8, .nilp⟩)]
abbrev p_lightclientlaw03_ShaCompresses : List Nat := [23, 24]
abbrev n_lightclientlaw03_ShaCompresses : Nat := 3
noncomputable abbrev f_lightclientlaw03_ShaCompresses : Func := Tryd.f3
abbrev p_lightclientlaw03_ShaPads : List Nat := [28]
abbrev n_lightclientlaw03_ShaPads : Nat := 4
noncomputable abbrev f_lightclientlaw03_ShaPads : Func := Tryd.f4
abbrev p_lightclientlaw03_ShaChains : List Nat := [29, 5]
abbrev n_lightclientlaw03_ShaChains : Nat := 5
noncomputable abbrev f_lightclientlaw03_ShaChains : Func := Tryd.f5
abbrev p_lightclientlaw03_ShaSums : List Nat := [29]
abbrev n_lightclientlaw03_ShaSums : Nat := 6
noncomputable abbrev f_lightclientlaw03_ShaSums : Func := Tryd.f6
abbrev p_lightclientlaw03_ShaDoubles : List Nat := [9, 29]
abbrev n_lightclientlaw03_ShaDoubles : Nat := 7
noncomputable abbrev f_lightclientlaw03_ShaDoubles : Func := Tryd.f7
abbrev p_lightclientlaw03_ShaLongKeys : List Nat := [29, 29]
abbrev n_lightclientlaw03_ShaLongKeys : Nat := 8
noncomputable abbrev f_lightclientlaw03_ShaLongKeys : Func := Tryd.f8
abbrev p_lightclientlaw03_ShaKeyed : List Nat := [9, 29, 29]
abbrev n_lightclientlaw03_ShaKeyed : Nat := 9
noncomputable abbrev f_lightclientlaw03_ShaKeyed : Func := Tryd.f9
abbrev p_lightclientlaw03_sane : List Nat := []
abbrev n_lightclientlaw03_sane : Nat := 10
noncomputable abbrev f_lightclientlaw03_sane : Func := Tryd.f10
abbrev p_sha_Compress : List Nat := [23, 24]
abbrev n_sha_Compress : Nat := 11
noncomputable abbrev f_sha_Compress : Func := Tryd.f11
abbrev p_lightclientref03_Compress : List Nat := [23, 24]
abbrev n_lightclientref03_Compress : Nat := 12
noncomputable abbrev f_lightclientref03_Compress : Func := Tryd.f12
abbrev p_sha_Pad : List Nat := [28]
abbrev n_sha_Pad : Nat := 13
noncomputable abbrev f_sha_Pad : Func := Tryd.f13
abbrev p_lightclientref03_Pad : List Nat := [28]
abbrev n_lightclientref03_Pad : Nat := 14
noncomputable abbrev f_lightclientref03_Pad : Func := Tryd.f14
abbrev p_lightclientref03_Initial : List Nat := []
abbrev n_lightclientref03_Initial : Nat := 15
noncomputable abbrev f_lightclientref03_Initial : Func := Tryd.f15
abbrev p_sha_Sum : List Nat := [29]
abbrev n_sha_Sum : Nat := 16
noncomputable abbrev f_sha_Sum : Func := Tryd.f16
abbrev p_lightclientref03_Sum : List Nat := [29]
abbrev n_lightclientref03_Sum : Nat := 17
noncomputable abbrev f_lightclientref03_Sum : Func := Tryd.f17
abbrev p_sha_Double : List Nat := [29]
abbrev n_sha_Double : Nat := 18
noncomputable abbrev f_sha_Double : Func := Tryd.f18
abbrev p_lightclientref03_Double : List Nat := [29]
abbrev n_lightclientref03_Double : Nat := 19
noncomputable abbrev f_lightclientref03_Double : Func := Tryd.f19
abbrev p_sha_Tagged : List Nat := [9, 29]
abbrev n_sha_Tagged : Nat := 20
noncomputable abbrev f_sha_Tagged : Func := Tryd.f20
abbrev p_sha_Hmac : List Nat := [29, 29]
abbrev n_sha_Hmac : Nat := 21
noncomputable abbrev f_sha_Hmac : Func := Tryd.f21
abbrev p_lightclientref03_Tagged : List Nat := [9, 29]
abbrev n_lightclientref03_Tagged : Nat := 22
noncomputable abbrev f_lightclientref03_Tagged : Func := Tryd.f22
abbrev p_lightclientref03_Hmac : List Nat := [29, 29]
abbrev n_lightclientref03_Hmac : Nat := 23
noncomputable abbrev f_lightclientref03_Hmac : Func := Tryd.f23
abbrev p_sha_schedule : List Nat := [24]
abbrev n_sha_schedule : Nat := 24
noncomputable abbrev f_sha_schedule : Func := Tryd.f24
abbrev p_sha_rotr : List Nat := [22, 3]
abbrev n_sha_rotr : Nat := 25
noncomputable abbrev f_sha_rotr : Func := Tryd.f25
abbrev p_lightclientref03_schedule : List Nat := [24]
abbrev n_lightclientref03_schedule : Nat := 26
noncomputable abbrev f_lightclientref03_schedule : Func := Tryd.f26
abbrev p_lightclientref03_constants : List Nat := []
abbrev n_lightclientref03_constants : Nat := 27
noncomputable abbrev f_lightclientref03_constants : Func := Tryd.f27
abbrev p_lightclientref03_rotr : List Nat := [22, 3]
abbrev n_lightclientref03_rotr : Nat := 28
noncomputable abbrev f_lightclientref03_rotr : Func := Tryd.f28
abbrev p_bits_RotateLeft32 : List Nat := [22, 3]
abbrev n_bits_RotateLeft32 : Nat := 29
noncomputable abbrev f_bits_RotateLeft32 : Func := Tryd.f29
abbrev g_sha_constants : Nat := 0
abbrev t_sha_constants : Nat := 44
abbrev e_sha_constants : Nat := 22
abbrev g_sha_initial : Nat := 1
abbrev t_sha_initial : Nat := 23
abbrev e_sha_initial : Nat := 22
def glob : List (Nat × D) := [(g_sha_constants, .arr 64 .one (Kc.map (.int .u32))), (g_sha_initial, .arr 8 .one (H0.map (.int .u32)))]
noncomputable def cx : Cx := mkCx Tryd.prog tyTab glob
theorem cxOK : CxOK cx := CxOK.of_tab (by kernel_rfl) (by kernel_rfl) (by kernel_rfl)
end Go.Fw
