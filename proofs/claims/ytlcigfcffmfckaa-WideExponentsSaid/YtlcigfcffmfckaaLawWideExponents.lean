/-
The statement WideExponents, proved: whatever the input, the law returns true and leaves its arguments as they were.
-/
import Derived.Test.YtlcigfcffmfckaaKc
import Derived.ProofKit
namespace Go.Proofs.Ytlcigfcffmfckaa
open Go Go.Fw Go.RowKit
set_option maxRecDepth 100000

theorem wideExponents_lifted (os : Os) (started : os.Started) (H : Type) (enc : TypeId × Value → H) :
    ReturnsInHanded {} Try.checked os 10 .any (Rows.wideExponentsSpec.pre6 enc Try.prog Try.f10 Rows.wideExponentsRow.domain false)
      (Rows.wideExponentsSpec.post enc Try.prog Try.f10 false true false false) := by
  refine returnsInHanded_of_change (C := Try.checked) (by kernel_rfl) started (by kernel_rfl) Try.func10
    (ChangeSpec.witness6 (enc := enc) (C := Try.checked) false ⟨#[], #[.agg #[.int .u64 0, .int .u64 0, .int .u64 0, .int .u64 0], .agg #[.int .u64 0, .int .u64 0, .int .u64 0, .int .u64 0], .int .u64 0, .int .u64 0], []⟩ 8 (by kernel_rfl) (by kernel_rfl) (by kernel_rfl) (by kernel_rfl)) ?_
  intro W base args ds gs before hval hW _ _
  exact law_calls (cx := cx) (f := 10) (fn := Try.f10) (n := 4) (tb := 4) cxOK (by kernel_rfl) (by kernel_rfl) (by kernel_rfl) rfl (by kernel_rfl) (by kernel_rfl) rfl
    (fun ds h => by match ds, h with | [_, _, _, _], _ => rfl) (fun xs hl hf => row_WideExponents xs hl hf) ⟨_, Try.func10, by kernel_rfl, by kernel_rfl⟩ rfl hval hW gok

theorem wideExponents_holds : Rows.WideExponentsSaid :=
  OpenClaim.holds_of_wide 10 Try.f10 rfl rfl rfl rfl rfl rfl rfl ⟨rfl, rfl, rfl, rfl, rfl⟩ rfl rfl rfl rfl rfl (by kernel_rfl) Try.func10 (by kernel_rfl)
    (of_decide_eq_true (by kernel_rfl)) (by unfold Func.isWrapper; first | (rw [if_pos (by decide +kernel)]; kernel_rfl) | (rw [if_neg (by decide +kernel)]; exact ⟨rfl, rfl⟩))
    (fun os started H enc _ => wideExponents_lifted os started H enc)
#print axioms wideExponents_holds
end Go.Proofs.Ytlcigfcffmfckaa
