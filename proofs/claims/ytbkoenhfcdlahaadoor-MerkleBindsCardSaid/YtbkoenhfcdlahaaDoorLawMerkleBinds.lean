/-
The statement MerkleBinds, proved: whatever the input, the law returns true and leaves its arguments as they were.
-/
import Derived.Test.YtbkoenhfcdlahaaDoorRow07b
import Derived.Test.YtbkoenhfcdlahaaDoorTie
import Derived.Test.YtbkoenhfcdlahaaDoorCards
namespace Go.Proofs.YtbkoenhfcdlahaaDoor
open Go Go.Fw Go.RowKit
set_option maxRecDepth 100000

theorem merkleBinds_lifted (os : Os) (started : os.Started) (H : Type) (enc : TypeId × Value → H) :
    ReturnsInHanded {} Tryd.checked os 7 .any (fun w args => (Rows.merkleBindsSpec.pre enc Tryd.prog Tryd.f7 [] false w args ∧ laidMetH Tryd.prog [("lightclient/sha.constants", Rows.laid_lightclient_sha_constants), ("lightclient/sha.initial", Rows.laid_lightclient_sha_initial)] w) ∧ sizedMet enc Tryd.prog Tryd.f7 (OpenSpec.ofChange Rows.merkleBindsSpec) false w args)
      (Rows.merkleBindsSpec.post enc Tryd.prog Tryd.f7 false true false false) := by
  refine returnsInHanded_of_change_and (C := Tryd.checked) (X := fun w _ => laidMetH Tryd.prog [("lightclient/sha.constants", Rows.laid_lightclient_sha_constants), ("lightclient/sha.initial", Rows.laid_lightclient_sha_initial)] w) (fun _ _ _ hh h => h.of_heap hh) (by kernel_rfl) started (by kernel_rfl) Tryd.func7
    (ChangeSpec.witness_shaped (enc := enc) (C := Tryd.checked) (os := os) (X := fun w _ => laidMetH Tryd.prog [("lightclient/sha.constants", Rows.laid_lightclient_sha_constants), ("lightclient/sha.initial", Rows.laid_lightclient_sha_initial)] w) false (World.doorLaid Tryd.prog 4000 os) #[.int .i64 0, .int .i64 0, .slice none 0 0, .slice none 0 0, .agg #[.int .u8 0, .int .u8 0, .int .u8 0, .int .u8 0, .int .u8 0, .int .u8 0, .int .u8 0, .int .u8 0, .int .u8 0, .int .u8 0, .int .u8 0, .int .u8 0, .int .u8 0, .int .u8 0, .int .u8 0, .int .u8 0, .int .u8 0, .int .u8 0, .int .u8 0, .int .u8 0, .int .u8 0, .int .u8 0, .int .u8 0, .int .u8 0, .int .u8 0, .int .u8 0, .int .u8 0, .int .u8 0, .int .u8 0, .int .u8 0, .int .u8 0, .int .u8 0], .agg #[.int .u8 0, .int .u8 0, .int .u8 0, .int .u8 0, .int .u8 0, .int .u8 0, .int .u8 0, .int .u8 0, .int .u8 0, .int .u8 0, .int .u8 0, .int .u8 0, .int .u8 0, .int .u8 0, .int .u8 0, .int .u8 0, .int .u8 0, .int .u8 0, .int .u8 0, .int .u8 0, .int .u8 0, .int .u8 0, .int .u8 0, .int .u8 0, .int .u8 0, .int .u8 0, .int .u8 0, .int .u8 0, .int .u8 0, .int .u8 0, .int .u8 0, .int .u8 0]] 8 rfl (World.shaped_of_RefB (by kernel_rfl) (by kernel_rfl)) (by kernel_rfl) (by kernel_rfl) (by kernel_rfl) (door_met os _)) ?_
  intro W base args ds gs before hval hW _ _ hL _
  exact law_calls (cx := cx) (f := 7) (fn := Tryd.f7) (n := 6) (tb := 4) cxOK (by kernel_rfl) (by kernel_rfl) (by kernel_rfl) rfl (by kernel_rfl) (by kernel_rfl) rfl
    (fun ds h => by match ds, h with | [_, _, _, _, _, _], _ => rfl) (fun xs hl hf => row_MerkleBinds xs hl hf) rfl hval hW (gok hL)

theorem merkleBinds_row : Rows.MerkleBindsSaid :=
  OpenClaim.holds_of_wide 7 Tryd.f7 rfl rfl rfl rfl rfl rfl rfl ⟨rfl, rfl, rfl, rfl, rfl⟩ rfl rfl rfl rfl rfl (by kernel_rfl) Tryd.func7 (by kernel_rfl)
    (of_decide_eq_true (by kernel_rfl)) (by unfold Func.isWrapper; first | (rw [if_pos (by decide +kernel)]; kernel_rfl) | (rw [if_neg (by decide +kernel)]; exact ⟨rfl, rfl⟩))
    (fun os started H enc _ => merkleBinds_lifted os started H enc)

theorem merkleBinds_holds : Rows.MerkleBindsCardSaid :=
  Claim7.holds_tied_plain_at .later [] [.data, .data] true (true, "6d969cb03f990c0c13cd459d09822c7155fecc818cf0862199b1ed6ff755b05c") false
    merkleBinds_row (fun _ h => by cases h) (by kernel_rfl) (fun _ h => by cases h) merkleBinds_row_tie rfl ⟨rfl, rfl⟩ (by kernel_rfl) rfl
    (fun f fn hf hfn => by
      obtain rfl : f = 7 := Option.some.inj ((show Tryd.prog.funcNamed "lightclient/lightclientlaw07.MerkleBinds" = some 7 by kernel_rfl).symm.trans hf) |>.symm
      obtain rfl : fn = Tryd.f7 := (Option.some.inj (Tryd.func7.symm.trans hfn)).symm
      exact ⟨by kernel_rfl, fun j t ht => by
        have hall : (Tryd.f7.params.toList.all fun u => !Tryd.prog.wantsStandIn u) = true := by kernel_rfl
        exact (show Tryd.prog.wantsStandIn t = false by simpa using List.all_eq_true.1 hall t (Array.mem_toList_iff.2 (Array.mem_of_getElem? ht)))⟩)
    (by kernel_rfl)
#print axioms merkleBinds_holds
end Go.Proofs.YtbkoenhfcdlahaaDoor
