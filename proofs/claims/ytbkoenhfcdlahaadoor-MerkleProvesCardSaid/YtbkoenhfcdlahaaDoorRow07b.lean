/-
What the listed variables give, and MerkleBinds and MerkleProves on data that fits. No conditions.
-/
import Derived.Test.YtbkoenhfcdlahaaDoorMer6
import Derived.Test.YtbkoenhfcdlahaaDoorFwZi
import Derived.Test.YtbkoenhfcdlahaaDoorRows
namespace Go.Fw
set_option linter.unusedVariables false
set_option linter.unusedSimpArgs false
open Go.Proofs Go.Proofs.YtbkoenhfcdlahaaDoor
set_option maxRecDepth 100000

theorem door_met (os : Os) (args : Array Value) : laidMetH Tryd.prog [("lightclient/sha.constants", Rows.laid_lightclient_sha_constants), ("lightclient/sha.initial", Rows.laid_lightclient_sha_initial)] ((World.doorLaid Tryd.prog 4000 os).forCall (fun _ _ => 0) ⟨#[], args, []⟩).memory :=
  laidMetH_of_parts3 (fuel := 8) (laidMet_of_run' 8 (by kernel_rfl) (by kernel_rfl)) (by kernel_rfl) (by kernel_rfl)

theorem gok {W : World} (h : laidMetH Tryd.prog [("lightclient/sha.constants", Rows.laid_lightclient_sha_constants), ("lightclient/sha.initial", Rows.laid_lightclient_sha_initial)] W) : GOK cx W noOwn := by
  rw [MakeChecks.laidMetH_plain _ _ _ (by kernel_rfl)] at h
  obtain ⟨ps, ⟨g0, t0, cs0, f0, p0, q0, hg0, ht0, hv0, hd0, ⟨g1, t1, cs1, f1, p1, q1, hg1, ht1, hv1, hd1, _, _⟩, _⟩, _, _⟩ := h
  have e0 : Tryd.prog.globalNamed "lightclient/sha.constants" = some g_sha_constants := by kernel_rfl
  have e1 : Tryd.prog.globalNamed "lightclient/sha.initial" = some g_sha_initial := by kernel_rfl
  obtain rfl := Option.some.inj (e0.symm.trans hg0)
  obtain rfl := Option.some.inj (e1.symm.trans hg1)
  have k0 : (Tryd.prog.globals[g_sha_constants]?).map (·.type) = some t_sha_constants := by kernel_rfl
  have k1 : (Tryd.prog.globals[g_sha_initial]?).map (·.type) = some t_sha_initial := by kernel_rfl
  obtain rfl := Option.some.inj (k0.symm.trans ht0)
  obtain rfl := Option.some.inj (k1.symm.trans ht1)
  intro g x hx
  have hx := look_mem (l := glob) hx
  simp only [glob, List.mem_cons, Prod.mk.injEq, List.not_mem_nil, or_false] at hx
  rcases hx with ⟨rfl, rfl⟩ | ⟨rfl, rfl⟩
  · exact ⟨fun h => h, by decide, glob_ints (k := .u32) (e := e_sha_constants) hg0 hv0 (by kernel_rfl) (by kernel_rfl) (by kernel_rfl) (by kernel_rfl) hd0 Kc (by kernel_rfl)⟩
  · exact ⟨fun h => h, by decide, glob_ints (k := .u32) (e := e_sha_initial) hg1 hv1 (by kernel_rfl) (by kernel_rfl) (by kernel_rfl) (by kernel_rfl) hd1 H0 (by kernel_rfl)⟩

theorem byteL_of {l : List Int} (h : ∀ v ∈ l, inK .u8 v) : ByteL l := fun x hx => by
  have := h x hx
  simp only [inK, loK, hiK] at this
  omega

theorem fits_hashes : ∀ {xs : List D}, (∀ y ∈ xs, Fits cx 24 y) → ∃ l : List (List Int), xs = l.map hashD ∧ Hs l
  | [], _ => ⟨[], rfl, fun h hh => by simp at hh⟩
  | x :: xs, h => by
    obtain ⟨l, rfl, hl⟩ := fits_hashes (xs := xs) fun y hy => h y (by simp [hy])
    obtain ⟨b, rfl, hb, _⟩ := (h x (by simp)).ints_inv rfl rfl rfl rfl rfl
    exact ⟨b :: l, rfl, fun y hy => by
      rcases List.mem_cons.1 hy with rfl | hy
      · exact hb
      · exact hl y hy⟩
theorem Fits.hashes {x : D} (h : Fits cx 22 x) : ∃ l : List (List Int), x = hashesD l ∧ Hs l := by
  obtain ⟨xs, rfl, _, hf⟩ := h.sl_inv rfl rfl rfl
  obtain ⟨l, rfl, hl⟩ := fits_hashes hf
  exact ⟨l, rfl, hl⟩
theorem row_MerkleBinds (xs : List D) (hl : xs.length = f_lightclientlaw07_MerkleBinds.params.toList.length) (hf : ∀ (i : Nat) t x, f_lightclientlaw07_MerkleBinds.params.toList[i]? = some t → xs[i]? = some x → Fits cx t x) : Returns cx n_lightclientlaw07_MerkleBinds xs (.bool true) := by
  have hp : f_lightclientlaw07_MerkleBinds.params.toList = p_lightclientlaw07_MerkleBinds := by kernel_rfl
  rw [hp] at hl hf
  match xs, hl with
  | [x0, x1, x2, x3, x4, x5], _ =>
    obtain ⟨c, rfl, hc⟩ := (hf 0 _ x0 rfl rfl).int_inv rfl rfl
    obtain ⟨i, rfl, hi⟩ := (hf 1 _ x1 rfl rfl).int_inv rfl rfl
    obtain ⟨l, rfl, hl⟩ := (hf 2 _ x2 rfl rfl).hashes
    obtain ⟨m, rfl, hm⟩ := (hf 3 _ x3 rfl rfl).hashes
    obtain ⟨a, rfl, ha, _⟩ := (hf 4 _ x4 rfl rfl).ints_inv rfl rfl rfl rfl rfl
    obtain ⟨b, rfl, hb, _⟩ := (hf 5 _ x5 rfl rfl).ints_inv rfl rfl rfl rfl rfl
    exact ret_MerkleBinds c i l m a b hc hi hl hm ha hb
theorem row_MerkleProves (xs : List D) (hl : xs.length = f_lightclientlaw07_MerkleProves.params.toList.length) (hf : ∀ (i : Nat) t x, f_lightclientlaw07_MerkleProves.params.toList[i]? = some t → xs[i]? = some x → Fits cx t x) : Returns cx n_lightclientlaw07_MerkleProves xs (.bool true) := by
  have hp : f_lightclientlaw07_MerkleProves.params.toList = p_lightclientlaw07_MerkleProves := by kernel_rfl
  rw [hp] at hl hf
  match xs, hl with
  | [x0, x1], _ =>
    obtain ⟨l, rfl, hl⟩ := (hf 0 _ x0 rfl rfl).hashes
    obtain ⟨n, rfl, hn⟩ := (hf 1 _ x1 rfl rfl).int_inv rfl rfl
    obtain ⟨m, rfl⟩ := Int.eq_ofNat_of_zero_le hn.1
    exact ret_MerkleProves l m (by have := hn.2; simp only [hiK] at this; omega) hl
end Go.Fw
