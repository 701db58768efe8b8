/-
ShaChains on data that fits. No conditions.
-/
import Derived.Test.YtcoooinjnkeokaaDoorRow03
import Derived.Test.YtcoooinjnkeokaaDoorShaC
namespace Go.Fw
set_option linter.unusedVariables false
set_option linter.unusedSimpArgs false
open Go.Proofs Go.Proofs.YtcoooinjnkeokaaDoor
set_option maxRecDepth 100000
theorem row_ShaChains (xs : List D) (hl : xs.length = f_lightclientlaw03_ShaChains.params.toList.length) (hf : ∀ (i : Nat) t x, f_lightclientlaw03_ShaChains.params.toList[i]? = some t → xs[i]? = some x → Fits cx t x) : Returns cx n_lightclientlaw03_ShaChains xs (.bool true) := by
  have hp : f_lightclientlaw03_ShaChains.params.toList = p_lightclientlaw03_ShaChains := by kernel_rfl
  rw [hp] at hl hf
  match xs, hl with
  | [x0, x1], _ =>
    obtain ⟨b, rfl, hb, _⟩ := (hf 0 _ x0 rfl rfl).slice_inv rfl rfl rfl rfl rfl
    obtain ⟨n, rfl, hn⟩ := (hf 1 _ x1 rfl rfl).int_inv rfl rfl
    obtain ⟨m, rfl⟩ := Int.eq_ofNat_of_zero_le hn.1
    exact ret_ShaChains b m (by have := hn.2; simp only [hiK] at this; omega) hb
end Go.Fw
