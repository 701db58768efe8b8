/-
The statement WideRing, proved: whatever the input, the law returns true and leaves its arguments as they were.
-/
import Derived.Test.YtlcigfcffmfckaaKc
import Derived.ProofKit
namespace Go.Proofs.Ytlcigfcffmfckaa
open Go Go.Fw Go.RowKit
set_option maxRecDepth 100000

theorem wideRing_lifted (os : Os) (started : os.Started) (H : Type) (enc : TypeId × Value → H) :
    ReturnsInHanded {} Try.checked os 12 .any (Rows.wideRingSpec.pre6 enc Try.prog Try.f12 Rows.wideRingRow.domain false)
      (Rows.wideRingSpec.post enc Try.prog Try.f12 false true false false) := by
  refine returnsInHanded_of_change (C := Try.checked) (by kernel_rfl) started (by kernel_rfl) Try.func12
    (ChangeSpec.witness6 (enc := enc) (C := Try.checked) false ⟨#[], #[.agg #[.int .u64 0, .int .u64 0, .int .u64 0, .int .u64 0], .agg #[.int .u64 0, .int .u64 0, .int .u64 0, .int .u64 0], .agg #[.int .u64 0, .int .u64 0, .int .u64 0, .int .u64 0], .agg #[.int .u64 0, .int .u64 0, .int .u64 0, .int .u64 0]], []⟩ 8 (by kernel_rfl) (by kernel_rfl) (by kernel_rfl) (by kernel_rfl)) ?_
  intro W base args ds gs before hval hW _ _
  exact law_calls (cx := cx) (f := 12) (fn := Try.f12) (n := 4) (tb := 4) cxOK (by kernel_rfl) (by kernel_rfl) (by kernel_rfl) rfl (by kernel_rfl) (by kernel_rfl) rfl
    (fun ds h => by match ds, h with | [_, _, _, _], _ => rfl) (fun xs hl hf => row_WideRing xs hl hf) ⟨_, Try.func12, by kernel_rfl, by kernel_rfl⟩ rfl hval hW gok

theorem wideRing_holds : Rows.WideRingSaid :=
  OpenClaim.holds_of_wide 12 Try.f12 rfl rfl rfl rfl rfl rfl rfl ⟨rfl, rfl, rfl, rfl, rfl⟩ rfl rfl rfl rfl rfl (by kernel_rfl) Try.func12 (by kernel_rfl)
    (of_decide_eq_true (by kernel_rfl)) (by unfold Func.isWrapper; first | (rw [if_pos (by decide +kernel)]; kernel_rfl) | (rw [if_neg (by decide +kernel)]; exact ⟨rfl, rfl⟩))
    (fun os started H enc _ => wideRing_lifted os started H enc)
#print axioms wideRing_holds
end Go.Proofs.Ytlcigfcffmfckaa
