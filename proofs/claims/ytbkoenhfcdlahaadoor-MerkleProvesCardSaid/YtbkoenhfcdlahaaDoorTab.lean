/-
The table of types and the numbers of the functions of one seat, printed by gen.py. No conditions.
-/
import Derived.Test.YtbkoenhfcdlahaaDoorFwZg
import Derived.Test.YtbkoenhfcdlahaaDoorProg
import Derived.KernelRfl
namespace Go.Fw
open Go.Proofs
def tyTab : List (Nat × TyE) := [
  (2, ⟨.int .i64, .one, 8, .int .i64 0⟩),
  (3, ⟨.int .i64, .one, 8, .int .i64 0⟩),
  (4, ⟨.bool, .one, 1, .bool false⟩),
  (5, ⟨.int .u8, .one, 1, .int .u8 0⟩),
  (9, ⟨.str, .one, 16, .str []⟩),
  (12, ⟨.int .u64, .one, 8, .int .u64 0⟩),
  (15, ⟨.ptr 94, .one, 8, .nilp⟩),
  (16, ⟨.ptr 97, .one, 8, .nilp⟩),
  (17, ⟨.ptr 106, .one, 8, .nilp⟩),
  (21, ⟨.int .i32, .one, 4, .int .i32 0⟩),
  (22, ⟨.sl 24, .one, 24, .nils⟩),
  (23, ⟨.arr 32 5, .arr 32 (.one), 32, .arr 32 (.one) (List.replicate 32 (.int .u8 0))⟩),
  (24, ⟨.arr 32 5, .arr 32 (.one), 32, .arr 32 (.one) (List.replicate 32 (.int .u8 0))⟩),
  (30, ⟨.sl 5, .one, 24, .nils⟩),
  (33, ⟨.st [3, 3, 22], .st [.one, .one, .one], 40, .st [.int .i64 0, .int .i64 0, .nils]⟩),
  (34, ⟨.st [3, 3, 22], .st [.one, .one, .one], 40, .st [.int .i64 0, .int .i64 0, .nils]⟩),
  (35, ⟨.int .i64, .one, 8, .int .i64 0⟩),
  (43, ⟨.sl 45, .one, 24, .nils⟩),
  (45, ⟨.arr 2 24, .arr 2 (.arr 32 (.one)), 64, .arr 2 (.arr 32 (.one)) (List.replicate 2 (.arr 32 (.one) (List.replicate 32 (.int .u8 0))))⟩),
  (47, ⟨.sl 4, .one, 24, .nils⟩),
  (48, ⟨.st [3, 47, 22], .st [.one, .one, .one], 56, .st [.int .i64 0, .nils, .nils]⟩),
  (49, ⟨.st [3, 47, 22], .st [.one, .one, .one], 56, .st [.int .i64 0, .nils, .nils]⟩),
  (55, ⟨.sl 59, .one, 24, .nils⟩),
  (58, ⟨.st [3, 24], .st [.one, .arr 32 (.one)], 40, .st [.int .i64 0, .arr 32 (.one) (List.replicate 32 (.int .u8 0))]⟩),
  (59, ⟨.st [3, 24], .st [.one, .arr 32 (.one)], 40, .st [.int .i64 0, .arr 32 (.one) (List.replicate 32 (.int .u8 0))]⟩),
  (63, ⟨.sl 22, .one, 24, .nils⟩),
  (65, ⟨.ptr 68, .one, 8, .nilp⟩),
  (66, ⟨.sl 47, .one, 24, .nils⟩),
  (67, ⟨.st [49, 63, 66], .st [.st [.one, .one, .one], .one, .one], 104, .st [.st [.int .i64 0, .nils, .nils], .nils, .nils]⟩),
  (68, ⟨.st [49, 63, 66], .st [.st [.one, .one, .one], .one, .one], 104, .st [.st [.int .i64 0, .nils, .nils], .nils, .nils]⟩),
  (71, ⟨.ptr 74, .one, 8, .nilp⟩),
  (72, ⟨.sl 3, .one, 24, .nils⟩),
  (73, ⟨.st [47, 22, 72, 55], .st [.one, .one, .one, .one], 96, .st [.nils, .nils, .nils, .nils]⟩),
  (74, ⟨.st [47, 22, 72, 55], .st [.one, .one, .one, .one], 96, .st [.nils, .nils, .nils, .nils]⟩),
  (78, ⟨.int .u64, .one, 8, .int .u64 0⟩),
  (79, ⟨.int .u32, .one, 4, .int .u32 0⟩),
  (80, ⟨.arr 8 79, .arr 8 (.one), 32, .arr 8 (.one) (List.replicate 8 (.int .u32 0))⟩),
  (82, ⟨.arr 64 5, .arr 64 (.one), 64, .arr 64 (.one) (List.replicate 64 (.int .u8 0))⟩),
  (84, ⟨.int .u64, .one, 8, .int .u64 0⟩),
  (85, ⟨.sl 30, .one, 24, .nils⟩),
  (88, ⟨.arr 64 79, .arr 64 (.one), 256, .arr 64 (.one) (List.replicate 64 (.int .u32 0))⟩),
  (102, ⟨.ptr 5, .one, 8, .nilp⟩)]
abbrev p_lightclientlaw07_MerkleRoots : List Nat := [22, 24, 24]
abbrev n_lightclientlaw07_MerkleRoots : Nat := 3
noncomputable abbrev f_lightclientlaw07_MerkleRoots : Func := Tryd.f3
abbrev p_lightclientlaw07_MerkleGrows : List Nat := [30, 24]
abbrev n_lightclientlaw07_MerkleGrows : Nat := 4
noncomputable abbrev f_lightclientlaw07_MerkleGrows : Func := Tryd.f4
abbrev p_lightclientlaw07_MerklePaths : List Nat := [22, 3]
abbrev n_lightclientlaw07_MerklePaths : Nat := 5
noncomputable abbrev f_lightclientlaw07_MerklePaths : Func := Tryd.f5
abbrev p_lightclientlaw07_MerkleFollows : List Nat := [34, 24]
abbrev n_lightclientlaw07_MerkleFollows : Nat := 6
noncomputable abbrev f_lightclientlaw07_MerkleFollows : Func := Tryd.f6
abbrev p_lightclientlaw07_MerkleBinds : List Nat := [3, 3, 22, 22, 24, 24]
abbrev n_lightclientlaw07_MerkleBinds : Nat := 7
noncomputable abbrev f_lightclientlaw07_MerkleBinds : Func := Tryd.f7
abbrev p_lightclientlaw07_MerkleParts : List Nat := [22, 47]
abbrev n_lightclientlaw07_MerkleParts : Nat := 8
noncomputable abbrev f_lightclientlaw07_MerkleParts : Func := Tryd.f8
abbrev p_lightclientlaw07_MerkleProves : List Nat := [22, 5]
abbrev n_lightclientlaw07_MerkleProves : Nat := 9
noncomputable abbrev f_lightclientlaw07_MerkleProves : Func := Tryd.f9
abbrev p_lightclientlaw07_MerkleCovers : List Nat := [22, 47]
abbrev n_lightclientlaw07_MerkleCovers : Nat := 10
noncomputable abbrev f_lightclientlaw07_MerkleCovers : Func := Tryd.f10
abbrev p_lightclientlaw07_sane : List Nat := []
abbrev n_lightclientlaw07_sane : Nat := 11
noncomputable abbrev f_lightclientlaw07_sane : Func := Tryd.f11
abbrev p_lightclientlaw07_kept : List Nat := [22]
abbrev n_lightclientlaw07_kept : Nat := 12
noncomputable abbrev f_lightclientlaw07_kept : Func := Tryd.f12
abbrev p_merkle_Node : List Nat := [24, 24]
abbrev n_merkle_Node : Nat := 13
noncomputable abbrev f_merkle_Node : Func := Tryd.f13
abbrev p_lightclientref07_Node : List Nat := [24, 24]
abbrev n_lightclientref07_Node : Nat := 14
noncomputable abbrev f_lightclientref07_Node : Func := Tryd.f14
abbrev p_merkle_Root : List Nat := [22]
abbrev n_merkle_Root : Nat := 15
noncomputable abbrev f_merkle_Root : Func := Tryd.f15
abbrev p_lightclientref07_Root : List Nat := [22]
abbrev n_lightclientref07_Root : Nat := 16
noncomputable abbrev f_lightclientref07_Root : Func := Tryd.f16
abbrev p_lightclientmade_Hashes : List Nat := [30]
abbrev n_lightclientmade_Hashes : Nat := 17
noncomputable abbrev f_lightclientmade_Hashes : Func := Tryd.f17
abbrev p_merkle_Path : List Nat := [22, 3]
abbrev n_merkle_Path : Nat := 18
noncomputable abbrev f_merkle_Path : Func := Tryd.f18
abbrev p_lightclientref07_Path : List Nat := [22, 3]
abbrev n_lightclientref07_Path : Nat := 19
noncomputable abbrev f_lightclientref07_Path : Func := Tryd.f19
abbrev p_lightclientref07_SameHashes : List Nat := [22, 22]
abbrev n_lightclientref07_SameHashes : Nat := 20
noncomputable abbrev f_lightclientref07_SameHashes : Func := Tryd.f20
abbrev p_merkle_Follow : List Nat := [34, 24]
abbrev n_merkle_Follow : Nat := 21
noncomputable abbrev f_merkle_Follow : Func := Tryd.f21
abbrev p_lightclientref07_Follow : List Nat := [34, 24]
abbrev n_lightclientref07_Follow : Nat := 22
noncomputable abbrev f_lightclientref07_Follow : Func := Tryd.f22
abbrev p_lightclientlaw07_pairs : List Nat := [34, 24]
abbrev n_lightclientlaw07_pairs : Nat := 23
noncomputable abbrev f_lightclientlaw07_pairs : Func := Tryd.f23
abbrev p_merkle_Part : List Nat := [22, 47]
abbrev n_merkle_Part : Nat := 24
noncomputable abbrev f_merkle_Part : Func := Tryd.f24
abbrev p_lightclientref07_Part : List Nat := [22, 47]
abbrev n_lightclientref07_Part : Nat := 25
noncomputable abbrev f_lightclientref07_Part : Func := Tryd.f25
abbrev p_lightclientlaw07_same : List Nat := [49, 49]
abbrev n_lightclientlaw07_same : Nat := 26
noncomputable abbrev f_lightclientlaw07_same : Func := Tryd.f26
abbrev p_merkle_Extract : List Nat := [49]
abbrev n_merkle_Extract : Nat := 27
noncomputable abbrev f_merkle_Extract : Func := Tryd.f27
abbrev p_sha_Sum : List Nat := [30]
abbrev n_sha_Sum : Nat := 28
noncomputable abbrev f_sha_Sum : Func := Tryd.f28
abbrev p_lightclientref03_Sum : List Nat := [30]
abbrev n_lightclientref03_Sum : Nat := 29
noncomputable abbrev f_lightclientref03_Sum : Func := Tryd.f29
abbrev p_lightclientref01_Join : List Nat := [85]
abbrev n_lightclientref01_Join : Nat := 30
noncomputable abbrev f_lightclientref01_Join : Func := Tryd.f30
abbrev p_merkle_above : List Nat := [22]
abbrev n_merkle_above : Nat := 31
noncomputable abbrev f_merkle_above : Func := Tryd.f31
abbrev p_lightclientref07_levels : List Nat := [22]
abbrev n_lightclientref07_levels : Nat := 32
noncomputable abbrev f_lightclientref07_levels : Func := Tryd.f32
abbrev p_merkle_maker_visit : List Nat := [3, 3]
abbrev n_merkle_maker_visit : Nat := 33
noncomputable abbrev f_merkle_maker_visit : Func := Tryd.f33
abbrev p_lightclientref07_visit : List Nat := [49, 63, 47, 3, 3]
abbrev n_lightclientref07_visit : Nat := 34
noncomputable abbrev f_lightclientref07_visit : Func := Tryd.f34
abbrev p_merkle_cursor_visit : List Nat := [3, 3]
abbrev n_merkle_cursor_visit : Nat := 35
noncomputable abbrev f_merkle_cursor_visit : Func := Tryd.f35
abbrev p_sha_Pad : List Nat := [78]
abbrev n_sha_Pad : Nat := 36
noncomputable abbrev f_sha_Pad : Func := Tryd.f36
abbrev p_sha_Compress : List Nat := [80, 82]
abbrev n_sha_Compress : Nat := 37
noncomputable abbrev f_sha_Compress : Func := Tryd.f37
abbrev p_lightclientref03_Pad : List Nat := [78]
abbrev n_lightclientref03_Pad : Nat := 38
noncomputable abbrev f_lightclientref03_Pad : Func := Tryd.f38
abbrev p_lightclientref03_Initial : List Nat := []
abbrev n_lightclientref03_Initial : Nat := 39
noncomputable abbrev f_lightclientref03_Initial : Func := Tryd.f39
abbrev p_lightclientref03_Compress : List Nat := [80, 82]
abbrev n_lightclientref03_Compress : Nat := 40
noncomputable abbrev f_lightclientref03_Compress : Func := Tryd.f40
abbrev p_lightclientref01_joined : List Nat := [30, 30]
abbrev n_lightclientref01_joined : Nat := 41
noncomputable abbrev f_lightclientref01_joined : Func := Tryd.f41
abbrev p_lightclientref07_below : List Nat := [47, 3, 3]
abbrev n_lightclientref07_below : Nat := 42
noncomputable abbrev f_lightclientref07_below : Func := Tryd.f42
abbrev p_sha_schedule : List Nat := [82]
abbrev n_sha_schedule : Nat := 43
noncomputable abbrev f_sha_schedule : Func := Tryd.f43
abbrev p_sha_rotr : List Nat := [79, 3]
abbrev n_sha_rotr : Nat := 44
noncomputable abbrev f_sha_rotr : Func := Tryd.f44
abbrev p_lightclientref03_schedule : List Nat := [82]
abbrev n_lightclientref03_schedule : Nat := 45
noncomputable abbrev f_lightclientref03_schedule : Func := Tryd.f45
abbrev p_lightclientref03_constants : List Nat := []
abbrev n_lightclientref03_constants : Nat := 46
noncomputable abbrev f_lightclientref03_constants : Func := Tryd.f46
abbrev p_lightclientref03_rotr : List Nat := [79, 3]
abbrev n_lightclientref03_rotr : Nat := 47
noncomputable abbrev f_lightclientref03_rotr : Func := Tryd.f47
abbrev p_bits_RotateLeft32 : List Nat := [79, 3]
abbrev n_bits_RotateLeft32 : Nat := 48
noncomputable abbrev f_bits_RotateLeft32 : Func := Tryd.f48
abbrev g_sha_initial : Nat := 0
abbrev t_sha_initial : Nat := 80
abbrev e_sha_initial : Nat := 79
abbrev g_sha_constants : Nat := 1
abbrev t_sha_constants : Nat := 88
abbrev e_sha_constants : Nat := 79
def glob : List (Nat × D) := [(g_sha_constants, .arr 64 .one (Kc.map (.int .u32))), (g_sha_initial, .arr 8 .one (H0.map (.int .u32)))]
noncomputable def cx : Cx := mkCx Tryd.prog tyTab glob
theorem cxOK : CxOK cx := CxOK.of_tab (by kernel_rfl) (by kernel_rfl) (by kernel_rfl)
end Go.Fw
