/-
ShaLongKeys on data that fits. No conditions.
-/
import Derived.Test.YtcoooinjnkeokaaDoorRow03
import Derived.Test.YtcoooinjnkeokaaDoorLawLK
namespace Go.Fw
set_option linter.unusedVariables false
set_option linter.unusedSimpArgs false
open Go.Proofs Go.Proofs.YtcoooinjnkeokaaDoor
set_option maxRecDepth 100000
theorem row_ShaLongKeys (xs : List D) (hl : xs.length = f_lightclientlaw03_ShaLongKeys.params.toList.length) (hf : ∀ (i : Nat) t x, f_lightclientlaw03_ShaLongKeys.params.toList[i]? = some t → xs[i]? = some x → Fits cx t x) : Returns cx n_lightclientlaw03_ShaLongKeys xs (.bool true) := by
  have hp : f_lightclientlaw03_ShaLongKeys.params.toList = p_lightclientlaw03_ShaLongKeys := by kernel_rfl
  rw [hp] at hl hf
  match xs, hl with
  | [x0, x1], _ =>
    obtain ⟨k, rfl, _, _⟩ := (hf 0 _ x0 rfl rfl).slice_inv rfl rfl rfl rfl rfl
    obtain ⟨b, rfl, _, _⟩ := (hf 1 _ x1 rfl rfl).slice_inv rfl rfl rfl rfl rfl
    exact ret_ShaLongKeys k b
end Go.Fw
