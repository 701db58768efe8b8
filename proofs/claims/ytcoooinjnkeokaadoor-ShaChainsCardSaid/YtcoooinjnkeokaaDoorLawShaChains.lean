/-
The statement ShaChains, proved: whatever the input, the law returns true and leaves its arguments as they were.
-/
import Derived.Test.YtcoooinjnkeokaaDoorRow03b
import Derived.Test.YtcoooinjnkeokaaDoorTie
import Derived.Test.YtcoooinjnkeokaaDoorCards
namespace Go.Proofs.YtcoooinjnkeokaaDoor
open Go Go.Fw Go.RowKit
set_option maxRecDepth 100000

theorem shaChains_lifted (os : Os) (started : os.Started) (H : Type) (enc : TypeId × Value → H) :
    ReturnsInHanded {} Tryd.checked os 5 .any (fun w args => (Rows.shaChainsSpec.pre enc Tryd.prog Tryd.f5 [] false w args ∧ laidMetH Tryd.prog [("lightclient/sha.constants", Rows.laid_lightclient_sha_constants), ("lightclient/sha.initial", Rows.laid_lightclient_sha_initial)] w) ∧ sizedMet enc Tryd.prog Tryd.f5 (OpenSpec.ofChange Rows.shaChainsSpec) false w args)
      (Rows.shaChainsSpec.post enc Tryd.prog Tryd.f5 false true false false) := by
  refine returnsInHanded_of_change_and (C := Tryd.checked) (X := fun w _ => laidMetH Tryd.prog [("lightclient/sha.constants", Rows.laid_lightclient_sha_constants), ("lightclient/sha.initial", Rows.laid_lightclient_sha_initial)] w) (fun _ _ _ hh h => h.of_heap hh) (by kernel_rfl) started (by kernel_rfl) Tryd.func5
    (ChangeSpec.witness_shaped (enc := enc) (C := Tryd.checked) (os := os) (X := fun w _ => laidMetH Tryd.prog [("lightclient/sha.constants", Rows.laid_lightclient_sha_constants), ("lightclient/sha.initial", Rows.laid_lightclient_sha_initial)] w) false (World.doorLaid Tryd.prog 4000 os) #[.slice none 0 0, .int .u8 0] 8 rfl (World.shaped_of_RefB (by kernel_rfl) (by kernel_rfl)) (by kernel_rfl) (by kernel_rfl) (by kernel_rfl) (door_met os _)) ?_
  intro W base args ds gs before hval hW _ _ hL _
  exact law_calls (cx := cx) (f := 5) (fn := Tryd.f5) (n := 2) (tb := 4) cxOK (by kernel_rfl) (by kernel_rfl) (by kernel_rfl) rfl (by kernel_rfl) (by kernel_rfl) rfl
    (fun ds h => by match ds, h with | [_, _], _ => rfl) (fun xs hl hf => row_ShaChains xs hl hf) rfl hval hW (gok hL)

theorem shaChains_row : Rows.ShaChainsSaid :=
  OpenClaim.holds_of_wide 5 Tryd.f5 rfl rfl rfl rfl rfl rfl rfl ⟨rfl, rfl, rfl, rfl, rfl⟩ rfl rfl rfl rfl rfl (by kernel_rfl) Tryd.func5 (by kernel_rfl)
    (of_decide_eq_true (by kernel_rfl)) (by unfold Func.isWrapper; first | (rw [if_pos (by decide +kernel)]; kernel_rfl) | (rw [if_neg (by decide +kernel)]; exact ⟨rfl, rfl⟩))
    (fun os started H enc _ => shaChains_lifted os started H enc)

theorem shaChains_holds : Rows.ShaChainsCardSaid :=
  Claim7.holds_tied_plain_at .later [] [.data, .data] true (true, "62e9e71fe89cab50170b0c2a44a39b9b82129d0c227c543ea853a4e16875cade") false
    shaChains_row (fun _ h => by cases h) (by kernel_rfl) (fun _ h => by cases h) shaChains_row_tie rfl ⟨rfl, rfl⟩ (by kernel_rfl) rfl
    (fun f fn hf hfn => by
      obtain rfl : f = 5 := Option.some.inj ((show Tryd.prog.funcNamed "lightclient/lightclientlaw03.ShaChains" = some 5 by kernel_rfl).symm.trans hf) |>.symm
      obtain rfl : fn = Tryd.f5 := (Option.some.inj (Tryd.func5.symm.trans hfn)).symm
      exact ⟨by kernel_rfl, fun j t ht => by
        have hall : (Tryd.f5.params.toList.all fun u => !Tryd.prog.wantsStandIn u) = true := by kernel_rfl
        exact (show Tryd.prog.wantsStandIn t = false by simpa using List.all_eq_true.1 hall t (Array.mem_toList_iff.2 (Array.mem_of_getElem? ht)))⟩)
    (by kernel_rfl)
#print axioms shaChains_holds
end Go.Proofs.YtcoooinjnkeokaaDoor
