/-
The statement ShaPads, proved: whatever the input, the law returns true and leaves its arguments as they were.
-/
import Derived.Test.YtcoooinjnkeokaaDoorRow03
import Derived.Test.YtcoooinjnkeokaaDoorTie
import Derived.Test.YtcoooinjnkeokaaDoorCards
namespace Go.Proofs.YtcoooinjnkeokaaDoor
open Go Go.Fw Go.RowKit
set_option maxRecDepth 100000

theorem shaPads_lifted (os : Os) (started : os.Started) (H : Type) (enc : TypeId × Value → H) :
    ReturnsInHanded {} Tryd.checked os 4 .any (fun w args => (Rows.shaPadsSpec.pre enc Tryd.prog Tryd.f4 [] false w args ∧ laidMetH Tryd.prog [("lightclient/sha.constants", Rows.laid_lightclient_sha_constants), ("lightclient/sha.initial", Rows.laid_lightclient_sha_initial)] w) ∧ sizedMet enc Tryd.prog Tryd.f4 (OpenSpec.ofChange Rows.shaPadsSpec) false w args)
      (Rows.shaPadsSpec.post enc Tryd.prog Tryd.f4 false true false false) := by
  refine returnsInHanded_of_change_and (C := Tryd.checked) (X := fun w _ => laidMetH Tryd.prog [("lightclient/sha.constants", Rows.laid_lightclient_sha_constants), ("lightclient/sha.initial", Rows.laid_lightclient_sha_initial)] w) (fun _ _ _ hh h => h.of_heap hh) (by kernel_rfl) started (by kernel_rfl) Tryd.func4
    (ChangeSpec.witness_shaped (enc := enc) (C := Tryd.checked) (os := os) (X := fun w _ => laidMetH Tryd.prog [("lightclient/sha.constants", Rows.laid_lightclient_sha_constants), ("lightclient/sha.initial", Rows.laid_lightclient_sha_initial)] w) false (World.doorLaid Tryd.prog 4000 os) #[.int .u64 0] 8 rfl (World.shaped_of_RefB (by kernel_rfl) (by kernel_rfl)) (by kernel_rfl) (by kernel_rfl) (by kernel_rfl) (door_met os _)) ?_
  intro W base args ds gs before hval hW _ _ hL _
  exact law_calls (cx := cx) (f := 4) (fn := Tryd.f4) (n := 1) (tb := 4) cxOK (by kernel_rfl) (by kernel_rfl) (by kernel_rfl) rfl (by kernel_rfl) (by kernel_rfl) rfl
    (fun ds h => by match ds, h with | [_], _ => rfl) (fun xs hl hf => row_ShaPads xs hl hf) rfl hval hW (gok hL)

theorem shaPads_row : Rows.ShaPadsSaid :=
  OpenClaim.holds_of_wide 4 Tryd.f4 rfl rfl rfl rfl rfl rfl rfl ⟨rfl, rfl, rfl, rfl, rfl⟩ rfl rfl rfl rfl rfl (by kernel_rfl) Tryd.func4 (by kernel_rfl)
    (of_decide_eq_true (by kernel_rfl)) (by unfold Func.isWrapper; first | (rw [if_pos (by decide +kernel)]; kernel_rfl) | (rw [if_neg (by decide +kernel)]; exact ⟨rfl, rfl⟩))
    (fun os started H enc _ => shaPads_lifted os started H enc)

theorem shaPads_holds : Rows.ShaPadsCardSaid :=
  Claim7.holds_tied_plain_at .later [] [.data, .data] true (true, "62e9e71fe89cab50170b0c2a44a39b9b82129d0c227c543ea853a4e16875cade") false
    shaPads_row (fun _ h => by cases h) (by kernel_rfl) (fun _ h => by cases h) shaPads_row_tie rfl ⟨rfl, rfl⟩ (by kernel_rfl) rfl
    (fun f fn hf hfn => by
      obtain rfl : f = 4 := Option.some.inj ((show Tryd.prog.funcNamed "lightclient/lightclientlaw03.ShaPads" = some 4 by kernel_rfl).symm.trans hf) |>.symm
      obtain rfl : fn = Tryd.f4 := (Option.some.inj (Tryd.func4.symm.trans hfn)).symm
      exact ⟨by kernel_rfl, fun j t ht => by
        have hall : (Tryd.f4.params.toList.all fun u => !Tryd.prog.wantsStandIn u) = true := by kernel_rfl
        exact (show Tryd.prog.wantsStandIn t = false by simpa using List.all_eq_true.1 hall t (Array.mem_toList_iff.2 (Array.mem_of_getElem? ht)))⟩)
    (by kernel_rfl)
#print axioms shaPads_holds
end Go.Proofs.YtcoooinjnkeokaaDoor
