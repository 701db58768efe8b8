/-
The statement WideDivides, proved: whatever the input, the law returns true and leaves its arguments as they were.
-/
import Derived.Test.YtlcigfcffmfckaaKc
import Derived.ProofKit
namespace Go.Proofs.Ytlcigfcffmfckaa
open Go Go.Fw Go.RowKit
set_option maxRecDepth 100000

theorem wideDivides_lifted (os : Os) (started : os.Started) (H : Type) (enc : TypeId × Value → H) :
    ReturnsInHanded {} Try.checked os 4 .any (Rows.wideDividesSpec.pre6 enc Try.prog Try.f4 Rows.wideDividesRow.domain false)
      (Rows.wideDividesSpec.post enc Try.prog Try.f4 false true false false) := by
  refine returnsInHanded_of_change (C := Try.checked) (by kernel_rfl) started (by kernel_rfl) Try.func4
    (ChangeSpec.witness6 (enc := enc) (C := Try.checked) false ⟨#[], #[.agg #[.int .u64 0, .int .u64 0, .int .u64 0, .int .u64 0], .agg #[.int .u64 0, .int .u64 0, .int .u64 0, .int .u64 0], .agg #[.int .u64 0, .int .u64 0, .int .u64 0, .int .u64 0]], []⟩ 8 (by kernel_rfl) (by kernel_rfl) (by kernel_rfl) (by kernel_rfl)) ?_
  intro W base args ds gs before hval hW _ _
  exact law_calls (cx := cx) (f := 4) (fn := Try.f4) (n := 3) (tb := 4) cxOK (by kernel_rfl) (by kernel_rfl) (by kernel_rfl) rfl (by kernel_rfl) (by kernel_rfl) rfl
    (fun ds h => by match ds, h with | [_, _, _], _ => rfl) (fun xs hl hf => row_WideDivides xs hl hf) ⟨_, Try.func4, by kernel_rfl, by kernel_rfl⟩ rfl hval hW gok

theorem wideDivides_holds : Rows.WideDividesSaid :=
  OpenClaim.holds_of_wide 4 Try.f4 rfl rfl rfl rfl rfl rfl rfl ⟨rfl, rfl, rfl, rfl, rfl⟩ rfl rfl rfl rfl rfl (by kernel_rfl) Try.func4 (by kernel_rfl)
    (of_decide_eq_true (by kernel_rfl)) (by unfold Func.isWrapper; first | (rw [if_pos (by decide +kernel)]; kernel_rfl) | (rw [if_neg (by decide +kernel)]; exact ⟨rfl, rfl⟩))
    (fun os started H enc _ => wideDivides_lifted os started H enc)
#print axioms wideDivides_holds
end Go.Proofs.Ytlcigfcffmfckaa
