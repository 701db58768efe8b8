/-
What the listed variables give, and the laws of chapter 3 on data that fits. No conditions.
-/
import Derived.Test.YtcoooinjnkeokaaDoorLaw03
import Derived.Test.YtcoooinjnkeokaaDoorFwZi
import Derived.Test.YtcoooinjnkeokaaDoorRows
namespace Go.Fw
set_option linter.unusedVariables false
set_option linter.unusedSimpArgs false
open Go.Proofs Go.Proofs.YtcoooinjnkeokaaDoor
set_option maxRecDepth 100000

theorem door_met (os : Os) (args : Array Value) : laidMetH Tryd.prog [("lightclient/sha.constants", Rows.laid_lightclient_sha_constants), ("lightclient/sha.initial", Rows.laid_lightclient_sha_initial)] ((World.doorLaid Tryd.prog 4000 os).forCall (fun _ _ => 0) ⟨#[], args, []⟩).memory :=
  laidMetH_of_parts3 (fuel := 8) (laidMet_of_run' 8 (by kernel_rfl) (by kernel_rfl)) (by kernel_rfl) (by kernel_rfl)

theorem gok {W : World} (h : laidMetH Tryd.prog [("lightclient/sha.constants", Rows.laid_lightclient_sha_constants), ("lightclient/sha.initial", Rows.laid_lightclient_sha_initial)] W) : GOK cx W noOwn := by
  rw [MakeChecks.laidMetH_plain _ _ _ (by kernel_rfl)] at h
  obtain ⟨ps, ⟨g0, t0, cs0, f0, p0, q0, hg0, ht0, hv0, hd0, ⟨g1, t1, cs1, f1, p1, q1, hg1, ht1, hv1, hd1, _, _⟩, _⟩, _, _⟩ := h
  have e0 : Tryd.prog.globalNamed "lightclient/sha.constants" = some g_sha_constants := by kernel_rfl
  have e1 : Tryd.prog.globalNamed "lightclient/sha.initial" = some g_sha_initial := by kernel_rfl
  obtain rfl := Option.some.inj (e0.symm.trans hg0)
  obtain rfl := Option.some.inj (e1.symm.trans hg1)
  have k0 : (Tryd.prog.globals[g_sha_constants]?).map (·.type) = some t_sha_constants := by kernel_rfl
  have k1 : (Tryd.prog.globals[g_sha_initial]?).map (·.type) = some t_sha_initial := by kernel_rfl
  obtain rfl := Option.some.inj (k0.symm.trans ht0)
  obtain rfl := Option.some.inj (k1.symm.trans ht1)
  intro g x hx
  have hx := look_mem (l := glob) hx
  simp only [glob, List.mem_cons, Prod.mk.injEq, List.not_mem_nil, or_false] at hx
  rcases hx with ⟨rfl, rfl⟩ | ⟨rfl, rfl⟩
  · exact ⟨fun h => h, by decide, glob_ints (k := .u32) (e := e_sha_constants) hg0 hv0 (by kernel_rfl) (by kernel_rfl) (by kernel_rfl) (by kernel_rfl) hd0 Kc (by kernel_rfl)⟩
  · exact ⟨fun h => h, by decide, glob_ints (k := .u32) (e := e_sha_initial) hg1 hv1 (by kernel_rfl) (by kernel_rfl) (by kernel_rfl) (by kernel_rfl) hd1 H0 (by kernel_rfl)⟩

theorem byteL_of {l : List Int} (h : ∀ v ∈ l, inK .u8 v) : ByteL l := fun x hx => by
  have := h x hx
  simp only [inK, loK, hiK] at this
  omega

theorem row_ShaPads (xs : List D) (hl : xs.length = f_lightclientlaw03_ShaPads.params.toList.length) (hf : ∀ (i : Nat) t x, f_lightclientlaw03_ShaPads.params.toList[i]? = some t → xs[i]? = some x → Fits cx t x) : Returns cx n_lightclientlaw03_ShaPads xs (.bool true) := by
  have hp : f_lightclientlaw03_ShaPads.params.toList = p_lightclientlaw03_ShaPads := by kernel_rfl
  rw [hp] at hl hf
  match xs, hl with
  | [x0], _ =>
    obtain ⟨n, rfl, hn⟩ := (hf 0 _ x0 rfl rfl).int_inv rfl rfl
    obtain ⟨m, rfl⟩ := Int.eq_ofNat_of_zero_le hn.1
    exact ret_ShaPads m (by have := hn.2; simp only [hiK] at this; omega)
theorem row_ShaCompresses (xs : List D) (hl : xs.length = f_lightclientlaw03_ShaCompresses.params.toList.length) (hf : ∀ (i : Nat) t x, f_lightclientlaw03_ShaCompresses.params.toList[i]? = some t → xs[i]? = some x → Fits cx t x) : Returns cx n_lightclientlaw03_ShaCompresses xs (.bool true) := by
  have hp : f_lightclientlaw03_ShaCompresses.params.toList = p_lightclientlaw03_ShaCompresses := by kernel_rfl
  rw [hp] at hl hf
  match xs, hl with
  | [x0, x1], _ =>
    obtain ⟨s, rfl, hs, _⟩ := (hf 0 _ x0 rfl rfl).ints_inv rfl rfl rfl rfl rfl
    obtain ⟨b, rfl, hb, hbb⟩ := (hf 1 _ x1 rfl rfl).ints_inv rfl rfl rfl rfl rfl
    exact ret_ShaCompresses s b hs hb (byteL_of hbb)
theorem row_ShaSums (xs : List D) (hl : xs.length = f_lightclientlaw03_ShaSums.params.toList.length) (hf : ∀ (i : Nat) t x, f_lightclientlaw03_ShaSums.params.toList[i]? = some t → xs[i]? = some x → Fits cx t x) : Returns cx n_lightclientlaw03_ShaSums xs (.bool true) := by
  have hp : f_lightclientlaw03_ShaSums.params.toList = p_lightclientlaw03_ShaSums := by kernel_rfl
  rw [hp] at hl hf
  match xs, hl with
  | [x0], _ =>
    obtain ⟨b, rfl, hb, hbb⟩ := (hf 0 _ x0 rfl rfl).slice_inv rfl rfl rfl rfl rfl
    exact ret_ShaSums b hb (byteL_of hbb)
theorem row_ShaKeyed (xs : List D) (hl : xs.length = f_lightclientlaw03_ShaKeyed.params.toList.length) (hf : ∀ (i : Nat) t x, f_lightclientlaw03_ShaKeyed.params.toList[i]? = some t → xs[i]? = some x → Fits cx t x) : Returns cx n_lightclientlaw03_ShaKeyed xs (.bool true) := by
  have hp : f_lightclientlaw03_ShaKeyed.params.toList = p_lightclientlaw03_ShaKeyed := by kernel_rfl
  rw [hp] at hl hf
  match xs, hl with
  | [x0, x1, x2], _ =>
    obtain ⟨t, rfl, ht⟩ := (hf 0 _ x0 rfl rfl).str_inv rfl rfl
    obtain ⟨k, rfl, hk, hkb⟩ := (hf 1 _ x1 rfl rfl).slice_inv rfl rfl rfl rfl rfl
    obtain ⟨b, rfl, hb, hbb⟩ := (hf 2 _ x2 rfl rfl).slice_inv rfl rfl rfl rfl rfl
    exact ret_ShaKeyed t k b ht hk hb (byteL_of hkb) (byteL_of hbb)
theorem row_ShaDoubles (xs : List D) (hl : xs.length = f_lightclientlaw03_ShaDoubles.params.toList.length) (hf : ∀ (i : Nat) t x, f_lightclientlaw03_ShaDoubles.params.toList[i]? = some t → xs[i]? = some x → Fits cx t x) : Returns cx n_lightclientlaw03_ShaDoubles xs (.bool true) := by
  have hp : f_lightclientlaw03_ShaDoubles.params.toList = p_lightclientlaw03_ShaDoubles := by kernel_rfl
  rw [hp] at hl hf
  match xs, hl with
  | [x0, x1], _ =>
    obtain ⟨t, rfl, ht⟩ := (hf 0 _ x0 rfl rfl).str_inv rfl rfl
    obtain ⟨b, rfl, hb, hbb⟩ := (hf 1 _ x1 rfl rfl).slice_inv rfl rfl rfl rfl rfl
    exact ret_ShaDoubles t b ht hb
end Go.Fw
