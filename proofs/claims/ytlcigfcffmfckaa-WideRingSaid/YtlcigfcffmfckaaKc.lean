/-
The statements about numbers of 256 bits that compare with the reference. No conditions.
-/
import Derived.Test.YtlcigfcffmfckaaKb
import Derived.Test.YtlcigfcffmfckaaRows
namespace Go.Fw
set_option linter.unusedVariables false
set_option linter.unusedSimpArgs false
open Go.Proofs
set_option maxRecDepth 10000
set_option maxHeartbeats 4000000
theorem eqTC_Us {cx : Cx} {t e : TypeId} {te ee : TyE} {n m m' : Nat} {s s' : Sh} {a : Nat} (ht : cx.ty t = some te) (hty : te.ty = .arr n e) (he : cx.ty e = some ee) (hey : ee.ty = .int .u64) :
    eqTC cx t (.arr m s ((parts a).map (.int .u64))) (.arr m' s' ((parts a).map (.int .u64))) = some true := by
  rw [eqTC_ints (l := parts a) (l' := parts a) ht hty he hey rfl, chk_true rfl]
theorem ret_WidePowers (a e m : Nat) (ha : a < 115792089237316195423570985008687907853269984665640564039457584007913129639936) (he : e < 115792089237316195423570985008687907853269984665640564039457584007913129639936) (hm : m < 115792089237316195423570985008687907853269984665640564039457584007913129639936) : Returns cx n_lightclientlaw02_WidePowers [U a, U e, U m] (.bool true) := by
  (refine of_W2 (fn := f_lightclientlaw02_WidePowers) {} (by kernel_rfl) (by kernel_rfl) (by kernel_rfl) (by kernel_rfl) (by kernel_rfl) ?_)
  ((try (conv => whnf)); (repeat ((first | (refine br_true ?_ ?_; (focus (exact yesA))) | (refine br_false ?_ ?_; (focus (exact noA))) | (refine onS_map ?_ ?_; (focus (exact numA))) | (refine onS_intro (eqTC_ints rfl rfl rfl rfl ?_) ?_; (focus (exact numA))) | refine onS_intro (mapB_u8s _) ?_ | (refine And.intro ?_ ?_; (focus (exact flatA)))); (try (conv => whnf)))))
  (((first | refine call_intro (ret_sane) (les_refl _) ?_ | refine call_intro (ret_sane) lesA ?_); (try (conv => whnf))); ((try (conv => whnf)); (repeat ((first | (refine br_true ?_ ?_; (focus (exact yesA))) | (refine br_false ?_ ?_; (focus (exact noA))) | (refine onS_map ?_ ?_; (focus (exact numA))) | (refine onS_intro (eqTC_ints rfl rfl rfl rfl ?_) ?_; (focus (exact numA))) | refine onS_intro (mapB_u8s _) ?_ | (refine And.intro ?_ ?_; (focus (exact flatA)))); (try (conv => whnf))))))
  (((first | refine call_intro (ret_ExpMod a e m ha he hm) (les_refl _) ?_ | refine call_intro (ret_ExpMod a e m ha he hm) lesA ?_); (try (conv => whnf))); ((try (conv => whnf)); (repeat ((first | (refine br_true ?_ ?_; (focus (exact yesA))) | (refine br_false ?_ ?_; (focus (exact noA))) | (refine onS_map ?_ ?_; (focus (exact numA))) | (refine onS_intro (eqTC_ints rfl rfl rfl rfl ?_) ?_; (focus (exact numA))) | refine onS_intro (mapB_u8s _) ?_ | (refine And.intro ?_ ?_; (focus (exact flatA)))); (try (conv => whnf))))))
  (((first | refine call_intro (rer_ExpMod a e m ha he hm) (les_refl _) ?_ | refine call_intro (rer_ExpMod a e m ha he hm) lesA ?_); (try (conv => whnf))); ((try (conv => whnf)); (repeat ((first | (refine br_true ?_ ?_; (focus (exact yesA))) | (refine br_false ?_ ?_; (focus (exact noA))) | (refine onS_map ?_ ?_; (focus (exact numA))) | (refine onS_intro (eqTC_ints rfl rfl rfl rfl ?_) ?_; (focus (exact numA))) | refine onS_intro (mapB_u8s _) ?_ | (refine And.intro ?_ ?_; (focus (exact flatA)))); (try (conv => whnf))))))
  first | exact D.le.refl _ | exact le_true (chk_true rfl)
theorem ret_WideModular (a b m : Nat) (ha : a < 115792089237316195423570985008687907853269984665640564039457584007913129639936) (hb : b < 115792089237316195423570985008687907853269984665640564039457584007913129639936) (hm : m < 115792089237316195423570985008687907853269984665640564039457584007913129639936) : Returns cx n_lightclientlaw02_WideModular [U a, U b, U m] (.bool true) := by
  (refine of_W2 (fn := f_lightclientlaw02_WideModular) {} (by kernel_rfl) (by kernel_rfl) (by kernel_rfl) (by kernel_rfl) (by kernel_rfl) ?_)
  ((try (conv => whnf)); (repeat ((first | (refine br_true ?_ ?_; (focus (exact yesA))) | (refine br_false ?_ ?_; (focus (exact noA))) | (refine onS_map ?_ ?_; (focus (exact numA))) | (refine onS_intro (eqTC_ints rfl rfl rfl rfl ?_) ?_; (focus (exact numA))) | refine onS_intro (mapB_u8s _) ?_ | (refine And.intro ?_ ?_; (focus (exact flatA)))); (try (conv => whnf)))))
  (((first | refine call_intro (ret_sane) (les_refl _) ?_ | refine call_intro (ret_sane) lesA ?_); (try (conv => whnf))); ((try (conv => whnf)); (repeat ((first | (refine br_true ?_ ?_; (focus (exact yesA))) | (refine br_false ?_ ?_; (focus (exact noA))) | (refine onS_map ?_ ?_; (focus (exact numA))) | (refine onS_intro (eqTC_ints rfl rfl rfl rfl ?_) ?_; (focus (exact numA))) | refine onS_intro (mapB_u8s _) ?_ | (refine And.intro ?_ ?_; (focus (exact flatA)))); (try (conv => whnf))))))
  (((first | refine call_intro (ret_AddMod a b m ha hb hm) (les_refl _) ?_ | refine call_intro (ret_AddMod a b m ha hb hm) lesA ?_); (try (conv => whnf))); ((try (conv => whnf)); (repeat ((first | (refine br_true ?_ ?_; (focus (exact yesA))) | (refine br_false ?_ ?_; (focus (exact noA))) | (refine onS_map ?_ ?_; (focus (exact numA))) | (refine onS_intro (eqTC_ints rfl rfl rfl rfl ?_) ?_; (focus (exact numA))) | refine onS_intro (mapB_u8s _) ?_ | (refine And.intro ?_ ?_; (focus (exact flatA)))); (try (conv => whnf))))))
  (((first | refine call_intro (rer_AddMod a b m ha hb hm) (les_refl _) ?_ | refine call_intro (rer_AddMod a b m ha hb hm) lesA ?_); (try (conv => whnf))); ((try (conv => whnf)); (repeat ((first | (refine br_true ?_ ?_; (focus (exact yesA))) | (refine br_false ?_ ?_; (focus (exact noA))) | (refine onS_map ?_ ?_; (focus (exact numA))) | (refine onS_intro (eqTC_ints rfl rfl rfl rfl ?_) ?_; (focus (exact numA))) | refine onS_intro (mapB_u8s _) ?_ | (refine And.intro ?_ ?_; (focus (exact flatA)))); (try (conv => whnf))))))
  (((first | refine call_intro (ret_SubMod a b m ha hb hm) (les_refl _) ?_ | refine call_intro (ret_SubMod a b m ha hb hm) lesA ?_); (try (conv => whnf))); ((try (conv => whnf)); (repeat ((first | (refine br_true ?_ ?_; (focus (exact yesA))) | (refine br_false ?_ ?_; (focus (exact noA))) | (refine onS_map ?_ ?_; (focus (exact numA))) | (refine onS_intro (eqTC_ints rfl rfl rfl rfl ?_) ?_; (focus (exact numA))) | refine onS_intro (mapB_u8s _) ?_ | (refine And.intro ?_ ?_; (focus (exact flatA)))); (try (conv => whnf))))))
  (((first | refine call_intro (rer_SubMod a b m ha hb hm) (les_refl _) ?_ | refine call_intro (rer_SubMod a b m ha hb hm) lesA ?_); (try (conv => whnf))); ((try (conv => whnf)); (repeat ((first | (refine br_true ?_ ?_; (focus (exact yesA))) | (refine br_false ?_ ?_; (focus (exact noA))) | (refine onS_map ?_ ?_; (focus (exact numA))) | (refine onS_intro (eqTC_ints rfl rfl rfl rfl ?_) ?_; (focus (exact numA))) | refine onS_intro (mapB_u8s _) ?_ | (refine And.intro ?_ ?_; (focus (exact flatA)))); (try (conv => whnf))))))
  (((first | refine call_intro (ret_MulMod a b m ha hb hm) (les_refl _) ?_ | refine call_intro (ret_MulMod a b m ha hb hm) lesA ?_); (try (conv => whnf))); ((try (conv => whnf)); (repeat ((first | (refine br_true ?_ ?_; (focus (exact yesA))) | (refine br_false ?_ ?_; (focus (exact noA))) | (refine onS_map ?_ ?_; (focus (exact numA))) | (refine onS_intro (eqTC_ints rfl rfl rfl rfl ?_) ?_; (focus (exact numA))) | refine onS_intro (mapB_u8s _) ?_ | (refine And.intro ?_ ?_; (focus (exact flatA)))); (try (conv => whnf))))))
  (((first | refine call_intro (rer_MulMod a b m ha hb hm) (les_refl _) ?_ | refine call_intro (rer_MulMod a b m ha hb hm) lesA ?_); (try (conv => whnf))); ((try (conv => whnf)); (repeat ((first | (refine br_true ?_ ?_; (focus (exact yesA))) | (refine br_false ?_ ?_; (focus (exact noA))) | (refine onS_map ?_ ?_; (focus (exact numA))) | (refine onS_intro (eqTC_ints rfl rfl rfl rfl ?_) ?_; (focus (exact numA))) | refine onS_intro (mapB_u8s _) ?_ | (refine And.intro ?_ ?_; (focus (exact flatA)))); (try (conv => whnf))))))
  first | exact D.le.refl _ | exact le_true (chk_true rfl)
theorem ret_WideShifts (a : Nat) (n : Int) (ha : a < 115792089237316195423570985008687907853269984665640564039457584007913129639936) (hn : inK .i64 n) : Returns cx n_lightclientlaw02_WideShifts [U a, .int .i64 n] (.bool true) := by
  (refine of_W2 (fn := f_lightclientlaw02_WideShifts) {} (by kernel_rfl) (by kernel_rfl) (by kernel_rfl) (by kernel_rfl) (by kernel_rfl) ?_)
  ((try (conv => whnf)); (repeat ((first | (refine br_true ?_ ?_; (focus (exact yesA))) | (refine br_false ?_ ?_; (focus (exact noA))) | (refine onS_map ?_ ?_; (focus (exact numA))) | (refine onS_intro (eqTC_ints rfl rfl rfl rfl ?_) ?_; (focus (exact numA))) | refine onS_intro (mapB_u8s _) ?_ | (refine And.intro ?_ ?_; (focus (exact flatA)))); (try (conv => whnf)))))
  (((first | refine call_intro (ret_sane) (les_refl _) ?_ | refine call_intro (ret_sane) lesA ?_); (try (conv => whnf))); ((try (conv => whnf)); (repeat ((first | (refine br_true ?_ ?_; (focus (exact yesA))) | (refine br_false ?_ ?_; (focus (exact noA))) | (refine onS_map ?_ ?_; (focus (exact numA))) | (refine onS_intro (eqTC_ints rfl rfl rfl rfl ?_) ?_; (focus (exact numA))) | refine onS_intro (mapB_u8s _) ?_ | (refine And.intro ?_ ?_; (focus (exact flatA)))); (try (conv => whnf))))))
  (((first | refine call_intro (ret_ShlU a n ha hn) (les_refl _) ?_ | refine call_intro (ret_ShlU a n ha hn) lesA ?_); (try (conv => whnf))); ((try (conv => whnf)); (repeat ((first | (refine br_true ?_ ?_; (focus (exact yesA))) | (refine br_false ?_ ?_; (focus (exact noA))) | (refine onS_map ?_ ?_; (focus (exact numA))) | (refine onS_intro (eqTC_ints rfl rfl rfl rfl ?_) ?_; (focus (exact numA))) | refine onS_intro (mapB_u8s _) ?_ | (refine And.intro ?_ ?_; (focus (exact flatA)))); (try (conv => whnf))))))
  (((first | refine call_intro (rer_ShlU a n ha hn) (les_refl _) ?_ | refine call_intro (rer_ShlU a n ha hn) lesA ?_); (try (conv => whnf))); ((try (conv => whnf)); (repeat ((first | (refine br_true ?_ ?_; (focus (exact yesA))) | (refine br_false ?_ ?_; (focus (exact noA))) | (refine onS_map ?_ ?_; (focus (exact numA))) | (refine onS_intro (eqTC_ints rfl rfl rfl rfl ?_) ?_; (focus (exact numA))) | refine onS_intro (mapB_u8s _) ?_ | (refine And.intro ?_ ?_; (focus (exact flatA)))); (try (conv => whnf))))))
  (((first | refine call_intro (ret_ShrU a n ha hn) (les_refl _) ?_ | refine call_intro (ret_ShrU a n ha hn) lesA ?_); (try (conv => whnf))); ((try (conv => whnf)); (repeat ((first | (refine br_true ?_ ?_; (focus (exact yesA))) | (refine br_false ?_ ?_; (focus (exact noA))) | (refine onS_map ?_ ?_; (focus (exact numA))) | (refine onS_intro (eqTC_ints rfl rfl rfl rfl ?_) ?_; (focus (exact numA))) | refine onS_intro (mapB_u8s _) ?_ | (refine And.intro ?_ ?_; (focus (exact flatA)))); (try (conv => whnf))))))
  (((first | refine call_intro (rer_ShrU a n ha hn) (les_refl _) ?_ | refine call_intro (rer_ShrU a n ha hn) lesA ?_); (try (conv => whnf))); ((try (conv => whnf)); (repeat ((first | (refine br_true ?_ ?_; (focus (exact yesA))) | (refine br_false ?_ ?_; (focus (exact noA))) | (refine onS_map ?_ ?_; (focus (exact numA))) | (refine onS_intro (eqTC_ints rfl rfl rfl rfl ?_) ?_; (focus (exact numA))) | refine onS_intro (mapB_u8s _) ?_ | (refine And.intro ?_ ?_; (focus (exact flatA)))); (try (conv => whnf))))))
  first | exact D.le.refl _ | exact le_true (chk_true rfl)
theorem ret_WideSums (a b : Nat) (ha : a < 115792089237316195423570985008687907853269984665640564039457584007913129639936) (hb : b < 115792089237316195423570985008687907853269984665640564039457584007913129639936) : Returns cx n_lightclientlaw02_WideSums [U a, U b] (.bool true) := by
  (refine of_W2 (fn := f_lightclientlaw02_WideSums) {} (by kernel_rfl) (by kernel_rfl) (by kernel_rfl) (by kernel_rfl) (by kernel_rfl) ?_)
  ((try (conv => whnf)); (repeat ((first | (refine br_true ?_ ?_; (focus (exact yesA))) | (refine br_false ?_ ?_; (focus (exact noA))) | (refine onS_map ?_ ?_; (focus (exact numA))) | (refine onS_intro (eqTC_ints rfl rfl rfl rfl ?_) ?_; (focus (exact numA))) | refine onS_intro (mapB_u8s _) ?_ | (refine And.intro ?_ ?_; (focus (exact flatA)))); (try (conv => whnf)))))
  (((first | refine call_intro (ret_AddU a b ha hb) (les_refl _) ?_ | refine call_intro (ret_AddU a b ha hb) lesA ?_); (try (conv => whnf))); ((try (conv => whnf)); (repeat ((first | (refine br_true ?_ ?_; (focus (exact yesA))) | (refine br_false ?_ ?_; (focus (exact noA))) | (refine onS_map ?_ ?_; (focus (exact numA))) | (refine onS_intro (eqTC_ints rfl rfl rfl rfl ?_) ?_; (focus (exact numA))) | refine onS_intro (mapB_u8s _) ?_ | (refine And.intro ?_ ?_; (focus (exact flatA)))); (try (conv => whnf))))))
  (((first | refine call_intro (rer_AddU a b ha hb) (les_refl _) ?_ | refine call_intro (rer_AddU a b ha hb) lesA ?_); (try (conv => whnf))); ((try (conv => whnf)); (repeat ((first | (refine br_true ?_ ?_; (focus (exact yesA))) | (refine br_false ?_ ?_; (focus (exact noA))) | (refine onS_map ?_ ?_; (focus (exact numA))) | (refine onS_intro (eqTC_ints rfl rfl rfl rfl ?_) ?_; (focus (exact numA))) | refine onS_intro (mapB_u8s _) ?_ | (refine And.intro ?_ ?_; (focus (exact flatA)))); (try (conv => whnf))))))
  (((first | refine call_intro (ret_SubU a b ha hb) (les_refl _) ?_ | refine call_intro (ret_SubU a b ha hb) lesA ?_); (try (conv => whnf))); ((try (conv => whnf)); (repeat ((first | (refine br_true ?_ ?_; (focus (exact yesA))) | (refine br_false ?_ ?_; (focus (exact noA))) | (refine onS_map ?_ ?_; (focus (exact numA))) | (refine onS_intro (eqTC_ints rfl rfl rfl rfl ?_) ?_; (focus (exact numA))) | refine onS_intro (mapB_u8s _) ?_ | (refine And.intro ?_ ?_; (focus (exact flatA)))); (try (conv => whnf))))))
  (((first | refine call_intro (rer_SubU a b ha hb) (les_refl _) ?_ | refine call_intro (rer_SubU a b ha hb) lesA ?_); (try (conv => whnf))); ((try (conv => whnf)); (repeat ((first | (refine br_true ?_ ?_; (focus (exact yesA))) | (refine br_false ?_ ?_; (focus (exact noA))) | (refine onS_map ?_ ?_; (focus (exact numA))) | (refine onS_intro (eqTC_ints rfl rfl rfl rfl ?_) ?_; (focus (exact numA))) | refine onS_intro (mapB_u8s _) ?_ | (refine And.intro ?_ ?_; (focus (exact flatA)))); (try (conv => whnf))))))
  (((first | refine call_intro (ret_MulU a b ha hb) (les_refl _) ?_ | refine call_intro (ret_MulU a b ha hb) lesA ?_); (try (conv => whnf))); ((try (conv => whnf)); (repeat ((first | (refine br_true ?_ ?_; (focus (exact yesA))) | (refine br_false ?_ ?_; (focus (exact noA))) | (refine onS_map ?_ ?_; (focus (exact numA))) | (refine onS_intro (eqTC_ints rfl rfl rfl rfl ?_) ?_; (focus (exact numA))) | refine onS_intro (mapB_u8s _) ?_ | (refine And.intro ?_ ?_; (focus (exact flatA)))); (try (conv => whnf))))))
  (((first | refine call_intro (rer_MulU a b ha hb) (les_refl _) ?_ | refine call_intro (rer_MulU a b ha hb) lesA ?_); (try (conv => whnf))); ((try (conv => whnf)); (repeat ((first | (refine br_true ?_ ?_; (focus (exact yesA))) | (refine br_false ?_ ?_; (focus (exact noA))) | (refine onS_map ?_ ?_; (focus (exact numA))) | (refine onS_intro (eqTC_ints rfl rfl rfl rfl ?_) ?_; (focus (exact numA))) | refine onS_intro (mapB_u8s _) ?_ | (refine And.intro ?_ ?_; (focus (exact flatA)))); (try (conv => whnf))))))
  (((first | refine call_intro (ret_sane) (les_refl _) ?_ | refine call_intro (ret_sane) lesA ?_); (try (conv => whnf))); ((try (conv => whnf)); (repeat ((first | (refine br_true ?_ ?_; (focus (exact yesA))) | (refine br_false ?_ ?_; (focus (exact noA))) | (refine onS_map ?_ ?_; (focus (exact numA))) | (refine onS_intro (eqTC_ints rfl rfl rfl rfl ?_) ?_; (focus (exact numA))) | refine onS_intro (mapB_u8s _) ?_ | (refine And.intro ?_ ?_; (focus (exact flatA)))); (try (conv => whnf))))))
  (((first | refine call_intro (ret_NotU a ha) (les_refl _) ?_ | refine call_intro (ret_NotU a ha) lesA ?_); (try (conv => whnf))); ((try (conv => whnf)); (repeat ((first | (refine br_true ?_ ?_; (focus (exact yesA))) | (refine br_false ?_ ?_; (focus (exact noA))) | (refine onS_map ?_ ?_; (focus (exact numA))) | (refine onS_intro (eqTC_ints rfl rfl rfl rfl ?_) ?_; (focus (exact numA))) | refine onS_intro (mapB_u8s _) ?_ | (refine And.intro ?_ ?_; (focus (exact flatA)))); (try (conv => whnf))))))
  (((first | refine call_intro (rer_NotU a ha) (les_refl _) ?_ | refine call_intro (rer_NotU a ha) lesA ?_); (try (conv => whnf))); ((try (conv => whnf)); (repeat ((first | (refine br_true ?_ ?_; (focus (exact yesA))) | (refine br_false ?_ ?_; (focus (exact noA))) | (refine onS_map ?_ ?_; (focus (exact numA))) | (refine onS_intro (eqTC_ints rfl rfl rfl rfl ?_) ?_; (focus (exact numA))) | refine onS_intro (mapB_u8s _) ?_ | (refine And.intro ?_ ?_; (focus (exact flatA)))); (try (conv => whnf))))))
  first | exact D.le.refl _ | exact le_true (chk_true rfl)
theorem ret_WideDivides (hi lo b : Nat) (h1 : hi < 115792089237316195423570985008687907853269984665640564039457584007913129639936) (h2 : lo < 115792089237316195423570985008687907853269984665640564039457584007913129639936) (h3 : b < 115792089237316195423570985008687907853269984665640564039457584007913129639936) : Returns cx n_lightclientlaw02_WideDivides [U hi, U lo, U b] (.bool true) := by
  (refine of_W2 (fn := f_lightclientlaw02_WideDivides) {} (by kernel_rfl) (by kernel_rfl) (by kernel_rfl) (by kernel_rfl) (by kernel_rfl) ?_)
  ((try (conv => whnf)); (repeat ((first | (refine br_true ?_ ?_; (focus (exact yesA))) | (refine br_false ?_ ?_; (focus (exact noA))) | (refine onS_map ?_ ?_; (focus (exact numA))) | (refine onS_intro (eqTC_ints rfl rfl rfl rfl ?_) ?_; (focus (exact numA))) | refine onS_intro (mapB_u8s _) ?_ | (refine And.intro ?_ ?_; (focus (exact flatA)))); (try (conv => whnf)))))
  by_cases h : hi < b
  · (((first | refine call_intro (ret_Div_ok hi lo b h1 h2 h3 h) (les_refl _) ?_ | refine call_intro (ret_Div_ok hi lo b h1 h2 h3 h) lesA ?_); (try (conv => whnf))); ((try (conv => whnf)); (repeat ((first | (refine br_true ?_ ?_; (focus (exact yesA))) | (refine br_false ?_ ?_; (focus (exact noA))) | (refine onS_map ?_ ?_; (focus (exact numA))) | (refine onS_intro (eqTC_ints rfl rfl rfl rfl ?_) ?_; (focus (exact numA))) | refine onS_intro (mapB_u8s _) ?_ | (refine And.intro ?_ ?_; (focus (exact flatA)))); (try (conv => whnf))))))
    (((first | refine call_intro (rer_Div_ok hi lo b h1 h2 h3 h) (les_refl _) ?_ | refine call_intro (rer_Div_ok hi lo b h1 h2 h3 h) lesA ?_); (try (conv => whnf))); ((try (conv => whnf)); (repeat ((first | (refine br_true ?_ ?_; (focus (exact yesA))) | (refine br_false ?_ ?_; (focus (exact noA))) | (refine onS_map ?_ ?_; (focus (exact numA))) | (refine onS_intro (eqTC_ints rfl rfl rfl rfl ?_) ?_; (focus (exact numA))) | refine onS_intro (mapB_u8s _) ?_ | (refine And.intro ?_ ?_; (focus (exact flatA)))); (try (conv => whnf))))))
    (((first | refine call_intro (ret_sane) (les_refl _) ?_ | refine call_intro (ret_sane) lesA ?_); (try (conv => whnf))); ((try (conv => whnf)); (repeat ((first | (refine br_true ?_ ?_; (focus (exact yesA))) | (refine br_false ?_ ?_; (focus (exact noA))) | (refine onS_map ?_ ?_; (focus (exact numA))) | (refine onS_intro (eqTC_ints rfl rfl rfl rfl ?_) ?_; (focus (exact numA))) | refine onS_intro (mapB_u8s _) ?_ | (refine And.intro ?_ ?_; (focus (exact flatA)))); (try (conv => whnf))))))
    first | exact D.le.refl _ | exact le_true (chk_true rfl)
  · (((first | refine call_intro (ret_Div_bad hi lo b h1 h3 (by omega)) (les_refl _) ?_ | refine call_intro (ret_Div_bad hi lo b h1 h3 (by omega)) lesA ?_); (try (conv => whnf))); ((try (conv => whnf)); (repeat ((first | (refine br_true ?_ ?_; (focus (exact yesA))) | (refine br_false ?_ ?_; (focus (exact noA))) | (refine onS_map ?_ ?_; (focus (exact numA))) | (refine onS_intro (eqTC_ints rfl rfl rfl rfl ?_) ?_; (focus (exact numA))) | refine onS_intro (mapB_u8s _) ?_ | (refine And.intro ?_ ?_; (focus (exact flatA)))); (try (conv => whnf))))))
    (((first | refine call_intro (rer_Div_bad hi lo b h1 h3 (by omega)) (les_refl _) ?_ | refine call_intro (rer_Div_bad hi lo b h1 h3 (by omega)) lesA ?_); (try (conv => whnf))); ((try (conv => whnf)); (repeat ((first | (refine br_true ?_ ?_; (focus (exact yesA))) | (refine br_false ?_ ?_; (focus (exact noA))) | (refine onS_map ?_ ?_; (focus (exact numA))) | (refine onS_intro (eqTC_ints rfl rfl rfl rfl ?_) ?_; (focus (exact numA))) | refine onS_intro (mapB_u8s _) ?_ | (refine And.intro ?_ ?_; (focus (exact flatA)))); (try (conv => whnf))))))
    (((first | refine call_intro (ret_sane) (les_refl _) ?_ | refine call_intro (ret_sane) lesA ?_); (try (conv => whnf))); ((try (conv => whnf)); (repeat ((first | (refine br_true ?_ ?_; (focus (exact yesA))) | (refine br_false ?_ ?_; (focus (exact noA))) | (refine onS_map ?_ ?_; (focus (exact numA))) | (refine onS_intro (eqTC_ints rfl rfl rfl rfl ?_) ?_; (focus (exact numA))) | refine onS_intro (mapB_u8s _) ?_ | (refine And.intro ?_ ?_; (focus (exact flatA)))); (try (conv => whnf))))))
    first | exact D.le.refl _ | exact le_true (chk_true rfl)
theorem ret_WideBasics (n : Nat) (h : List Int) (a b : Nat) (hn : n < 18446744073709551616) (hl : h.length = 32) (hh : ∀ c ∈ h, Byt c) (ha : a < 115792089237316195423570985008687907853269984665640564039457584007913129639936) (hb : b < 115792089237316195423570985008687907853269984665640564039457584007913129639936) : Returns cx n_lightclientlaw02_WideBasics [n64 n, hashD h, U a, U b] (.bool true) := by
  (refine of_W2 (fn := f_lightclientlaw02_WideBasics) {} (by kernel_rfl) (by kernel_rfl) (by kernel_rfl) (by kernel_rfl) (by kernel_rfl) ?_)
  ((try (conv => whnf)); (repeat ((first | (refine br_true ?_ ?_; (focus (exact yesA))) | (refine br_false ?_ ?_; (focus (exact noA))) | (refine onS_map ?_ ?_; (focus (exact numA))) | (refine onS_intro (eqTC_ints rfl rfl rfl rfl ?_) ?_; (focus (exact numA))) | refine onS_intro (mapB_u8s _) ?_ | (refine And.intro ?_ ?_; (focus (exact flatA)))); (try (conv => whnf)))))
  (((first | refine call_intro (ret_sane) (les_refl _) ?_ | refine call_intro (ret_sane) lesA ?_); (try (conv => whnf))); ((try (conv => whnf)); (repeat ((first | (refine br_true ?_ ?_; (focus (exact yesA))) | (refine br_false ?_ ?_; (focus (exact noA))) | (refine onS_map ?_ ?_; (focus (exact numA))) | (refine onS_intro (eqTC_ints rfl rfl rfl rfl ?_) ?_; (focus (exact numA))) | refine onS_intro (mapB_u8s _) ?_ | (refine And.intro ?_ ?_; (focus (exact flatA)))); (try (conv => whnf))))))
  (((first | refine call_intro (ret_FromUintU n hn) (les_refl _) ?_ | refine call_intro (ret_FromUintU n hn) lesA ?_); (try (conv => whnf))); ((try (conv => whnf)); (repeat ((first | (refine br_true ?_ ?_; (focus (exact yesA))) | (refine br_false ?_ ?_; (focus (exact noA))) | (refine onS_map ?_ ?_; (focus (exact numA))) | (refine onS_intro (eqTC_ints rfl rfl rfl rfl ?_) ?_; (focus (exact numA))) | refine onS_intro (mapB_u8s _) ?_ | (refine And.intro ?_ ?_; (focus (exact flatA)))); (try (conv => whnf))))))
  (((first | refine call_intro (rer_FromUintU n hn) (les_refl _) ?_ | refine call_intro (rer_FromUintU n hn) lesA ?_); (try (conv => whnf))); ((try (conv => whnf)); (repeat ((first | (refine br_true ?_ ?_; (focus (exact yesA))) | (refine br_false ?_ ?_; (focus (exact noA))) | (refine onS_map ?_ ?_; (focus (exact numA))) | (refine onS_intro (eqTC_ints rfl rfl rfl rfl ?_) ?_; (focus (exact numA))) | refine onS_intro (mapB_u8s _) ?_ | (refine And.intro ?_ ?_; (focus (exact flatA)))); (try (conv => whnf))))))
  (((first | refine call_intro (ret_FromBytesU h hl hh) (les_refl _) ?_ | refine call_intro (ret_FromBytesU h hl hh) lesA ?_); (try (conv => whnf))); ((try (conv => whnf)); (repeat ((first | (refine br_true ?_ ?_; (focus (exact yesA))) | (refine br_false ?_ ?_; (focus (exact noA))) | (refine onS_map ?_ ?_; (focus (exact numA))) | (refine onS_intro (eqTC_ints rfl rfl rfl rfl ?_) ?_; (focus (exact numA))) | refine onS_intro (mapB_u8s _) ?_ | (refine And.intro ?_ ?_; (focus (exact flatA)))); (try (conv => whnf))))))
  (((first | refine call_intro (rer_FromBytesU h hl hh) (les_refl _) ?_ | refine call_intro (rer_FromBytesU h hl hh) lesA ?_); (try (conv => whnf))); ((try (conv => whnf)); (repeat ((first | (refine br_true ?_ ?_; (focus (exact yesA))) | (refine br_false ?_ ?_; (focus (exact noA))) | (refine onS_map ?_ ?_; (focus (exact numA))) | (refine onS_intro (eqTC_ints rfl rfl rfl rfl ?_) ?_; (focus (exact numA))) | refine onS_intro (mapB_u8s _) ?_ | (refine And.intro ?_ ?_; (focus (exact flatA)))); (try (conv => whnf))))))
  (((first | refine call_intro (ret_BytesU a) (les_refl _) ?_ | refine call_intro (ret_BytesU a) lesA ?_); (try (conv => whnf))); ((try (conv => whnf)); (repeat ((first | (refine br_true ?_ ?_; (focus (exact yesA))) | (refine br_false ?_ ?_; (focus (exact noA))) | (refine onS_map ?_ ?_; (focus (exact numA))) | (refine onS_intro (eqTC_ints rfl rfl rfl rfl ?_) ?_; (focus (exact numA))) | refine onS_intro (mapB_u8s _) ?_ | (refine And.intro ?_ ?_; (focus (exact flatA)))); (try (conv => whnf))))))
  (((first | refine call_intro (rer_BytesU a) (les_refl _) ?_ | refine call_intro (rer_BytesU a) lesA ?_); (try (conv => whnf))); ((try (conv => whnf)); (repeat ((first | (refine br_true ?_ ?_; (focus (exact yesA))) | (refine br_false ?_ ?_; (focus (exact noA))) | (refine onS_map ?_ ?_; (focus (exact numA))) | (refine onS_intro (eqTC_ints rfl rfl rfl rfl ?_) ?_; (focus (exact numA))) | refine onS_intro (mapB_u8s _) ?_ | (refine And.intro ?_ ?_; (focus (exact flatA)))); (try (conv => whnf))))))
  (((first | refine call_intro (ret_CmpU a b ha hb) (les_refl _) ?_ | refine call_intro (ret_CmpU a b ha hb) lesA ?_); (try (conv => whnf))); ((try (conv => whnf)); (repeat ((first | (refine br_true ?_ ?_; (focus (exact yesA))) | (refine br_false ?_ ?_; (focus (exact noA))) | (refine onS_map ?_ ?_; (focus (exact numA))) | (refine onS_intro (eqTC_ints rfl rfl rfl rfl ?_) ?_; (focus (exact numA))) | refine onS_intro (mapB_u8s _) ?_ | (refine And.intro ?_ ?_; (focus (exact flatA)))); (try (conv => whnf))))))
  (((first | refine call_intro (rer_CmpU a b ha hb) (les_refl _) ?_ | refine call_intro (rer_CmpU a b ha hb) lesA ?_); (try (conv => whnf))); ((try (conv => whnf)); (repeat ((first | (refine br_true ?_ ?_; (focus (exact yesA))) | (refine br_false ?_ ?_; (focus (exact noA))) | (refine onS_map ?_ ?_; (focus (exact numA))) | (refine onS_intro (eqTC_ints rfl rfl rfl rfl ?_) ?_; (focus (exact numA))) | refine onS_intro (mapB_u8s _) ?_ | (refine And.intro ?_ ?_; (focus (exact flatA)))); (try (conv => whnf))))))
  (((first | refine call_intro (ret_LenU a ha) (les_refl _) ?_ | refine call_intro (ret_LenU a ha) lesA ?_); (try (conv => whnf))); ((try (conv => whnf)); (repeat ((first | (refine br_true ?_ ?_; (focus (exact yesA))) | (refine br_false ?_ ?_; (focus (exact noA))) | (refine onS_map ?_ ?_; (focus (exact numA))) | (refine onS_intro (eqTC_ints rfl rfl rfl rfl ?_) ?_; (focus (exact numA))) | refine onS_intro (mapB_u8s _) ?_ | (refine And.intro ?_ ?_; (focus (exact flatA)))); (try (conv => whnf))))))
  (((first | refine call_intro (rer_LenU a ha) (les_refl _) ?_ | refine call_intro (rer_LenU a ha) lesA ?_); (try (conv => whnf))); ((try (conv => whnf)); (repeat ((first | (refine br_true ?_ ?_; (focus (exact yesA))) | (refine br_false ?_ ?_; (focus (exact noA))) | (refine onS_map ?_ ?_; (focus (exact numA))) | (refine onS_intro (eqTC_ints rfl rfl rfl rfl ?_) ?_; (focus (exact numA))) | refine onS_intro (mapB_u8s _) ?_ | (refine And.intro ?_ ?_; (focus (exact flatA)))); (try (conv => whnf))))))
  (((first | refine call_intro (ret_FromBytesU h hl hh) (les_refl _) ?_ | refine call_intro (ret_FromBytesU h hl hh) lesA ?_); (try (conv => whnf))); ((try (conv => whnf)); (repeat ((first | (refine br_true ?_ ?_; (focus (exact yesA))) | (refine br_false ?_ ?_; (focus (exact noA))) | (refine onS_map ?_ ?_; (focus (exact numA))) | (refine onS_intro (eqTC_ints rfl rfl rfl rfl ?_) ?_; (focus (exact numA))) | refine onS_intro (mapB_u8s _) ?_ | (refine And.intro ?_ ?_; (focus (exact flatA)))); (try (conv => whnf))))))
  ((first | refine call_intro (ret_BytesU (beN h)) (les_refl _) ?_ | refine call_intro (ret_BytesU (beN h)) lesA ?_); (try (conv => whnf)))
  rw [beB_beN hl hh]
  ((try (conv => whnf)); (repeat ((first | (refine br_true ?_ ?_; (focus (exact yesA))) | (refine br_false ?_ ?_; (focus (exact noA))) | (refine onS_map ?_ ?_; (focus (exact numA))) | (refine onS_intro (eqTC_ints rfl rfl rfl rfl ?_) ?_; (focus (exact numA))) | refine onS_intro (mapB_u8s _) ?_ | (refine And.intro ?_ ?_; (focus (exact flatA)))); (try (conv => whnf)))))
  (((first | refine call_intro (ret_BytesU a) (les_refl _) ?_ | refine call_intro (ret_BytesU a) lesA ?_); (try (conv => whnf))); ((try (conv => whnf)); (repeat ((first | (refine br_true ?_ ?_; (focus (exact yesA))) | (refine br_false ?_ ?_; (focus (exact noA))) | (refine onS_map ?_ ?_; (focus (exact numA))) | (refine onS_intro (eqTC_ints rfl rfl rfl rfl ?_) ?_; (focus (exact numA))) | refine onS_intro (mapB_u8s _) ?_ | (refine And.intro ?_ ?_; (focus (exact flatA)))); (try (conv => whnf))))))
  ((first | refine call_intro (ret_FromBytesU (beB a) (beB_len a) (beB_byt a)) (les_refl _) ?_ | refine call_intro (ret_FromBytesU (beB a) (beB_len a) (beB_byt a)) lesA ?_); (try (conv => whnf)))
  rw [beN_beB ha]
  ((try (conv => whnf)); (repeat ((first | (refine br_true ?_ ?_; (focus (exact yesA))) | (refine br_false ?_ ?_; (focus (exact noA))) | (refine onS_map ?_ ?_; (focus (exact numA))) | (refine onS_intro (eqTC_ints rfl rfl rfl rfl ?_) ?_; (focus (exact numA))) | refine onS_intro (mapB_u8s _) ?_ | (refine And.intro ?_ ?_; (focus (exact flatA)))); (try (conv => whnf)))))
  first | exact D.le.refl _ | exact le_true (chk_true rfl)
end Go.Fw

/-
The statements about numbers of 256 bits that stand without the reference. No conditions.
-/
namespace Go.Fw
set_option linter.unusedVariables false
set_option linter.unusedSimpArgs false
open Go.Proofs
set_option maxRecDepth 10000
set_option maxHeartbeats 4000000
theorem chk_congr {p q : Prop} (h : p ↔ q) : chk p = chk q := by rw [propext h]
theorem modN_add1 (a b m : Nat) : modN (modN a m + b) m = modN (a + b) m := by
  by_cases hm : 0 < m
  · rw [modN_pos hm, modN_pos hm, modN_pos hm, Nat.mod_add_mod]
  · obtain rfl : m = 0 := by omega
    rfl
theorem modN_add2 (a b m : Nat) : modN (a + modN b m) m = modN (a + b) m := by
  rw [Nat.add_comm, modN_add1, Nat.add_comm]
theorem modN_mul2 (a b m : Nat) : modN (a * modN b m) m = modN (a * b) m := by
  rw [Nat.mul_comm, modN_mul1, Nat.mul_comm]
theorem modN_pow (a e m : Nat) : modN ((modN a m) ^ e) m = modN (a ^ e) m := by
  by_cases hm : 0 < m
  · rw [modN_pos hm, modN_pos hm, modN_pos hm, ← Nat.pow_mod]
  · obtain rfl : m = 0 := by omega
    rfl
theorem subN_256 {a b m : Nat} (h : m < 115792089237316195423570985008687907853269984665640564039457584007913129639936) : subN a b m < 115792089237316195423570985008687907853269984665640564039457584007913129639936 := by
  unfold subN
  split
  · omega
  · have := Nat.mod_lt (a % m + (m - b % m)) (show 0 < m by omega); omega
theorem modN_sub (a b m : Nat) : modN (subN a b m + b) m = modN (a + 0) m := by
  by_cases hm : 0 < m
  · have h1 := Nat.mod_lt a hm
    have h2 := Nat.mod_lt b hm
    unfold subN
    rw [if_neg (by omega), modN_pos hm, modN_pos hm, Nat.mod_add_mod, Nat.add_mod (a % m + (m - b % m)) b, Nat.mod_add_mod, show a % m + (m - b % m) + b % m = a % m + m by omega, Nat.add_mod_right, Nat.mod_mod, Nat.add_zero]
  · obtain rfl : m = 0 := by omega
    rfl
theorem ret_WideRing (a b c m : Nat) (ha : a < 115792089237316195423570985008687907853269984665640564039457584007913129639936) (hb : b < 115792089237316195423570985008687907853269984665640564039457584007913129639936) (hc : c < 115792089237316195423570985008687907853269984665640564039457584007913129639936) (hm : m < 115792089237316195423570985008687907853269984665640564039457584007913129639936) : Returns cx n_lightclientlaw02_WideRing [U a, U b, U c, U m] (.bool true) := by
  have hx : ∀ z, modN z m < 115792089237316195423570985008687907853269984665640564039457584007913129639936 := fun z => modN_256 hm
  (refine of_W2 (fn := f_lightclientlaw02_WideRing) {} (by kernel_rfl) (by kernel_rfl) (by kernel_rfl) (by kernel_rfl) (by kernel_rfl) ?_)
  ((try (conv => whnf)); (repeat ((first | (refine br_true ?_ ?_; (focus (exact yesA))) | (refine br_false ?_ ?_; (focus (exact noA))) | (refine onS_map ?_ ?_; (focus (exact numA))) | (refine onS_intro (eqTC_ints rfl rfl rfl rfl ?_) ?_; (focus (exact numA))) | refine onS_intro (mapB_u8s _) ?_ | (refine And.intro ?_ ?_; (focus (exact flatA)))); (try (conv => whnf)))))
  (((first | refine call_intro (ret_sane) (les_refl _) ?_ | refine call_intro (ret_sane) lesA ?_); (try (conv => whnf))); ((try (conv => whnf)); (repeat ((first | (refine br_true ?_ ?_; (focus (exact yesA))) | (refine br_false ?_ ?_; (focus (exact noA))) | (refine onS_map ?_ ?_; (focus (exact numA))) | (refine onS_intro (eqTC_ints rfl rfl rfl rfl ?_) ?_; (focus (exact numA))) | refine onS_intro (mapB_u8s _) ?_ | (refine And.intro ?_ ?_; (focus (exact flatA)))); (try (conv => whnf))))))
  (((first | refine call_intro (ret_AddMod a b m ha hb hm) (les_refl _) ?_ | refine call_intro (ret_AddMod a b m ha hb hm) lesA ?_); (try (conv => whnf))); ((try (conv => whnf)); (repeat ((first | (refine br_true ?_ ?_; (focus (exact yesA))) | (refine br_false ?_ ?_; (focus (exact noA))) | (refine onS_map ?_ ?_; (focus (exact numA))) | (refine onS_intro (eqTC_ints rfl rfl rfl rfl ?_) ?_; (focus (exact numA))) | refine onS_intro (mapB_u8s _) ?_ | (refine And.intro ?_ ?_; (focus (exact flatA)))); (try (conv => whnf))))))
  ((first | refine call_intro (ret_AddMod b a m hb ha hm) (les_refl _) ?_ | refine call_intro (ret_AddMod b a m hb ha hm) lesA ?_); (try (conv => whnf)))
  rw [Nat.add_comm b a]
  ((try (conv => whnf)); (repeat ((first | (refine br_true ?_ ?_; (focus (exact yesA))) | (refine br_false ?_ ?_; (focus (exact noA))) | (refine onS_map ?_ ?_; (focus (exact numA))) | (refine onS_intro (eqTC_ints rfl rfl rfl rfl ?_) ?_; (focus (exact numA))) | refine onS_intro (mapB_u8s _) ?_ | (refine And.intro ?_ ?_; (focus (exact flatA)))); (try (conv => whnf)))))
  (((first | refine call_intro (ret_MulMod a b m ha hb hm) (les_refl _) ?_ | refine call_intro (ret_MulMod a b m ha hb hm) lesA ?_); (try (conv => whnf))); ((try (conv => whnf)); (repeat ((first | (refine br_true ?_ ?_; (focus (exact yesA))) | (refine br_false ?_ ?_; (focus (exact noA))) | (refine onS_map ?_ ?_; (focus (exact numA))) | (refine onS_intro (eqTC_ints rfl rfl rfl rfl ?_) ?_; (focus (exact numA))) | refine onS_intro (mapB_u8s _) ?_ | (refine And.intro ?_ ?_; (focus (exact flatA)))); (try (conv => whnf))))))
  ((first | refine call_intro (ret_MulMod b a m hb ha hm) (les_refl _) ?_ | refine call_intro (ret_MulMod b a m hb ha hm) lesA ?_); (try (conv => whnf)))
  rw [Nat.mul_comm b a]
  ((try (conv => whnf)); (repeat ((first | (refine br_true ?_ ?_; (focus (exact yesA))) | (refine br_false ?_ ?_; (focus (exact noA))) | (refine onS_map ?_ ?_; (focus (exact numA))) | (refine onS_intro (eqTC_ints rfl rfl rfl rfl ?_) ?_; (focus (exact numA))) | refine onS_intro (mapB_u8s _) ?_ | (refine And.intro ?_ ?_; (focus (exact flatA)))); (try (conv => whnf)))))
  (((first | refine call_intro (ret_AddMod a b m ha hb hm) (les_refl _) ?_ | refine call_intro (ret_AddMod a b m ha hb hm) lesA ?_); (try (conv => whnf))); ((try (conv => whnf)); (repeat ((first | (refine br_true ?_ ?_; (focus (exact yesA))) | (refine br_false ?_ ?_; (focus (exact noA))) | (refine onS_map ?_ ?_; (focus (exact numA))) | (refine onS_intro (eqTC_ints rfl rfl rfl rfl ?_) ?_; (focus (exact numA))) | refine onS_intro (mapB_u8s _) ?_ | (refine And.intro ?_ ?_; (focus (exact flatA)))); (try (conv => whnf))))))
  ((first | refine call_intro (ret_AddMod (modN (a + b) m) c m (hx _) hc hm) (les_refl _) ?_ | refine call_intro (ret_AddMod (modN (a + b) m) c m (hx _) hc hm) lesA ?_); (try (conv => whnf)))
  rw [modN_add1]
  ((try (conv => whnf)); (repeat ((first | (refine br_true ?_ ?_; (focus (exact yesA))) | (refine br_false ?_ ?_; (focus (exact noA))) | (refine onS_map ?_ ?_; (focus (exact numA))) | (refine onS_intro (eqTC_ints rfl rfl rfl rfl ?_) ?_; (focus (exact numA))) | refine onS_intro (mapB_u8s _) ?_ | (refine And.intro ?_ ?_; (focus (exact flatA)))); (try (conv => whnf)))))
  (((first | refine call_intro (ret_AddMod b c m hb hc hm) (les_refl _) ?_ | refine call_intro (ret_AddMod b c m hb hc hm) lesA ?_); (try (conv => whnf))); ((try (conv => whnf)); (repeat ((first | (refine br_true ?_ ?_; (focus (exact yesA))) | (refine br_false ?_ ?_; (focus (exact noA))) | (refine onS_map ?_ ?_; (focus (exact numA))) | (refine onS_intro (eqTC_ints rfl rfl rfl rfl ?_) ?_; (focus (exact numA))) | refine onS_intro (mapB_u8s _) ?_ | (refine And.intro ?_ ?_; (focus (exact flatA)))); (try (conv => whnf))))))
  ((first | refine call_intro (ret_AddMod a (modN (b + c) m) m ha (hx _) hm) (les_refl _) ?_ | refine call_intro (ret_AddMod a (modN (b + c) m) m ha (hx _) hm) lesA ?_); (try (conv => whnf)))
  rw [modN_add2, ← Nat.add_assoc]
  ((try (conv => whnf)); (repeat ((first | (refine br_true ?_ ?_; (focus (exact yesA))) | (refine br_false ?_ ?_; (focus (exact noA))) | (refine onS_map ?_ ?_; (focus (exact numA))) | (refine onS_intro (eqTC_ints rfl rfl rfl rfl ?_) ?_; (focus (exact numA))) | refine onS_intro (mapB_u8s _) ?_ | (refine And.intro ?_ ?_; (focus (exact flatA)))); (try (conv => whnf)))))
  (((first | refine call_intro (ret_MulMod a b m ha hb hm) (les_refl _) ?_ | refine call_intro (ret_MulMod a b m ha hb hm) lesA ?_); (try (conv => whnf))); ((try (conv => whnf)); (repeat ((first | (refine br_true ?_ ?_; (focus (exact yesA))) | (refine br_false ?_ ?_; (focus (exact noA))) | (refine onS_map ?_ ?_; (focus (exact numA))) | (refine onS_intro (eqTC_ints rfl rfl rfl rfl ?_) ?_; (focus (exact numA))) | refine onS_intro (mapB_u8s _) ?_ | (refine And.intro ?_ ?_; (focus (exact flatA)))); (try (conv => whnf))))))
  ((first | refine call_intro (ret_MulMod (modN (a * b) m) c m (hx _) hc hm) (les_refl _) ?_ | refine call_intro (ret_MulMod (modN (a * b) m) c m (hx _) hc hm) lesA ?_); (try (conv => whnf)))
  rw [modN_mul1]
  ((try (conv => whnf)); (repeat ((first | (refine br_true ?_ ?_; (focus (exact yesA))) | (refine br_false ?_ ?_; (focus (exact noA))) | (refine onS_map ?_ ?_; (focus (exact numA))) | (refine onS_intro (eqTC_ints rfl rfl rfl rfl ?_) ?_; (focus (exact numA))) | refine onS_intro (mapB_u8s _) ?_ | (refine And.intro ?_ ?_; (focus (exact flatA)))); (try (conv => whnf)))))
  (((first | refine call_intro (ret_MulMod b c m hb hc hm) (les_refl _) ?_ | refine call_intro (ret_MulMod b c m hb hc hm) lesA ?_); (try (conv => whnf))); ((try (conv => whnf)); (repeat ((first | (refine br_true ?_ ?_; (focus (exact yesA))) | (refine br_false ?_ ?_; (focus (exact noA))) | (refine onS_map ?_ ?_; (focus (exact numA))) | (refine onS_intro (eqTC_ints rfl rfl rfl rfl ?_) ?_; (focus (exact numA))) | refine onS_intro (mapB_u8s _) ?_ | (refine And.intro ?_ ?_; (focus (exact flatA)))); (try (conv => whnf))))))
  ((first | refine call_intro (ret_MulMod a (modN (b * c) m) m ha (hx _) hm) (les_refl _) ?_ | refine call_intro (ret_MulMod a (modN (b * c) m) m ha (hx _) hm) lesA ?_); (try (conv => whnf)))
  rw [modN_mul2, ← Nat.mul_assoc]
  ((try (conv => whnf)); (repeat ((first | (refine br_true ?_ ?_; (focus (exact yesA))) | (refine br_false ?_ ?_; (focus (exact noA))) | (refine onS_map ?_ ?_; (focus (exact numA))) | (refine onS_intro (eqTC_ints rfl rfl rfl rfl ?_) ?_; (focus (exact numA))) | refine onS_intro (mapB_u8s _) ?_ | (refine And.intro ?_ ?_; (focus (exact flatA)))); (try (conv => whnf)))))
  (((first | refine call_intro (ret_AddMod b c m hb hc hm) (les_refl _) ?_ | refine call_intro (ret_AddMod b c m hb hc hm) lesA ?_); (try (conv => whnf))); ((try (conv => whnf)); (repeat ((first | (refine br_true ?_ ?_; (focus (exact yesA))) | (refine br_false ?_ ?_; (focus (exact noA))) | (refine onS_map ?_ ?_; (focus (exact numA))) | (refine onS_intro (eqTC_ints rfl rfl rfl rfl ?_) ?_; (focus (exact numA))) | refine onS_intro (mapB_u8s _) ?_ | (refine And.intro ?_ ?_; (focus (exact flatA)))); (try (conv => whnf))))))
  ((first | refine call_intro (ret_MulMod a (modN (b + c) m) m ha (hx _) hm) (les_refl _) ?_ | refine call_intro (ret_MulMod a (modN (b + c) m) m ha (hx _) hm) lesA ?_); (try (conv => whnf)))
  rw [modN_mul2, Nat.mul_add]
  ((try (conv => whnf)); (repeat ((first | (refine br_true ?_ ?_; (focus (exact yesA))) | (refine br_false ?_ ?_; (focus (exact noA))) | (refine onS_map ?_ ?_; (focus (exact numA))) | (refine onS_intro (eqTC_ints rfl rfl rfl rfl ?_) ?_; (focus (exact numA))) | refine onS_intro (mapB_u8s _) ?_ | (refine And.intro ?_ ?_; (focus (exact flatA)))); (try (conv => whnf)))))
  (((first | refine call_intro (ret_MulMod a b m ha hb hm) (les_refl _) ?_ | refine call_intro (ret_MulMod a b m ha hb hm) lesA ?_); (try (conv => whnf))); ((try (conv => whnf)); (repeat ((first | (refine br_true ?_ ?_; (focus (exact yesA))) | (refine br_false ?_ ?_; (focus (exact noA))) | (refine onS_map ?_ ?_; (focus (exact numA))) | (refine onS_intro (eqTC_ints rfl rfl rfl rfl ?_) ?_; (focus (exact numA))) | refine onS_intro (mapB_u8s _) ?_ | (refine And.intro ?_ ?_; (focus (exact flatA)))); (try (conv => whnf))))))
  (((first | refine call_intro (ret_MulMod a c m ha hc hm) (les_refl _) ?_ | refine call_intro (ret_MulMod a c m ha hc hm) lesA ?_); (try (conv => whnf))); ((try (conv => whnf)); (repeat ((first | (refine br_true ?_ ?_; (focus (exact yesA))) | (refine br_false ?_ ?_; (focus (exact noA))) | (refine onS_map ?_ ?_; (focus (exact numA))) | (refine onS_intro (eqTC_ints rfl rfl rfl rfl ?_) ?_; (focus (exact numA))) | refine onS_intro (mapB_u8s _) ?_ | (refine And.intro ?_ ?_; (focus (exact flatA)))); (try (conv => whnf))))))
  ((first | refine call_intro (ret_AddMod (modN (a * b) m) (modN (a * c) m) m (hx _) (hx _) hm) (les_refl _) ?_ | refine call_intro (ret_AddMod (modN (a * b) m) (modN (a * c) m) m (hx _) (hx _) hm) lesA ?_); (try (conv => whnf)))
  rw [modN_add1, modN_add2]
  ((try (conv => whnf)); (repeat ((first | (refine br_true ?_ ?_; (focus (exact yesA))) | (refine br_false ?_ ?_; (focus (exact noA))) | (refine onS_map ?_ ?_; (focus (exact numA))) | (refine onS_intro (eqTC_ints rfl rfl rfl rfl ?_) ?_; (focus (exact numA))) | refine onS_intro (mapB_u8s _) ?_ | (refine And.intro ?_ ?_; (focus (exact flatA)))); (try (conv => whnf)))))
  (((first | refine call_intro (ret_SubMod a b m ha hb hm) (les_refl _) ?_ | refine call_intro (ret_SubMod a b m ha hb hm) lesA ?_); (try (conv => whnf))); ((try (conv => whnf)); (repeat ((first | (refine br_true ?_ ?_; (focus (exact yesA))) | (refine br_false ?_ ?_; (focus (exact noA))) | (refine onS_map ?_ ?_; (focus (exact numA))) | (refine onS_intro (eqTC_ints rfl rfl rfl rfl ?_) ?_; (focus (exact numA))) | refine onS_intro (mapB_u8s _) ?_ | (refine And.intro ?_ ?_; (focus (exact flatA)))); (try (conv => whnf))))))
  ((first | refine call_intro (ret_AddMod (subN a b m) b m (subN_256 hm) hb hm) (les_refl _) ?_ | refine call_intro (ret_AddMod (subN a b m) b m (subN_256 hm) hb hm) lesA ?_); (try (conv => whnf)))
  rw [modN_sub]
  ((try (conv => whnf)); (repeat ((first | (refine br_true ?_ ?_; (focus (exact yesA))) | (refine br_false ?_ ?_; (focus (exact noA))) | (refine onS_map ?_ ?_; (focus (exact numA))) | (refine onS_intro (eqTC_ints rfl rfl rfl rfl ?_) ?_; (focus (exact numA))) | refine onS_intro (mapB_u8s _) ?_ | (refine And.intro ?_ ?_; (focus (exact flatA)))); (try (conv => whnf)))))
  (((first | refine call_intro (ret_AddMod a 0 m ha (by decide) hm) (les_refl _) ?_ | refine call_intro (ret_AddMod a 0 m ha (by decide) hm) lesA ?_); (try (conv => whnf))); ((try (conv => whnf)); (repeat ((first | (refine br_true ?_ ?_; (focus (exact yesA))) | (refine br_false ?_ ?_; (focus (exact noA))) | (refine onS_map ?_ ?_; (focus (exact numA))) | (refine onS_intro (eqTC_ints rfl rfl rfl rfl ?_) ?_; (focus (exact numA))) | refine onS_intro (mapB_u8s _) ?_ | (refine And.intro ?_ ?_; (focus (exact flatA)))); (try (conv => whnf))))))
  first | exact D.le.refl _ | exact le_true (chk_true rfl)
theorem one_word {x : Nat} (hx : x < 18446744073709551616) : D.arr 4 .one [n64 x, .int .u64 0, .int .u64 0, .int .u64 0] = U x := U_small hx
theorem ret_WideExponents (a m x y : Nat) (ha : a < 115792089237316195423570985008687907853269984665640564039457584007913129639936) (hm : m < 115792089237316195423570985008687907853269984665640564039457584007913129639936) (hx : x < 18446744073709551616) (hy : y < 18446744073709551616) : Returns cx n_lightclientlaw02_WideExponents [U a, U m, n64 x, n64 y] (.bool true) := by
  have hz : ∀ z, modN z m < 115792089237316195423570985008687907853269984665640564039457584007913129639936 := fun z => modN_256 hm
  have hp : x * y ≤ 18446744073709551615 * 18446744073709551615 := Nat.mul_le_mul (by omega) (by omega)
  (refine of_W2 (fn := f_lightclientlaw02_WideExponents) {} (by kernel_rfl) (by kernel_rfl) (by kernel_rfl) (by kernel_rfl) (by kernel_rfl) ?_)
  ((try (conv => whnf)); (repeat ((first | (refine br_true ?_ ?_; (focus (exact yesA))) | (refine br_false ?_ ?_; (focus (exact noA))) | (refine onS_map ?_ ?_; (focus (exact numA))) | (refine onS_intro (eqTC_ints rfl rfl rfl rfl ?_) ?_; (focus (exact numA))) | refine onS_intro (mapB_u8s _) ?_ | (refine And.intro ?_ ?_; (focus (exact flatA)))); (try (conv => whnf)))))
  (((first | refine call_intro (ret_sane) (les_refl _) ?_ | refine call_intro (ret_sane) lesA ?_); (try (conv => whnf))); ((try (conv => whnf)); (repeat ((first | (refine br_true ?_ ?_; (focus (exact yesA))) | (refine br_false ?_ ?_; (focus (exact noA))) | (refine onS_map ?_ ?_; (focus (exact numA))) | (refine onS_intro (eqTC_ints rfl rfl rfl rfl ?_) ?_; (focus (exact numA))) | refine onS_intro (mapB_u8s _) ?_ | (refine And.intro ?_ ?_; (focus (exact flatA)))); (try (conv => whnf))))))
  rw [one_word hx, one_word hy]
  ((first | refine call_intro (ret_AddU x y (by omega) (by omega)) (les_refl _) ?_ | refine call_intro (ret_AddU x y (by omega) (by omega)) lesA ?_); (try (conv => whnf)))
  rw [Nat.mod_eq_of_lt (show x + y < 115792089237316195423570985008687907853269984665640564039457584007913129639936 by omega)]
  ((try (conv => whnf)); (repeat ((first | (refine br_true ?_ ?_; (focus (exact yesA))) | (refine br_false ?_ ?_; (focus (exact noA))) | (refine onS_map ?_ ?_; (focus (exact numA))) | (refine onS_intro (eqTC_ints rfl rfl rfl rfl ?_) ?_; (focus (exact numA))) | refine onS_intro (mapB_u8s _) ?_ | (refine And.intro ?_ ?_; (focus (exact flatA)))); (try (conv => whnf)))))
  ((first | refine call_intro (ret_MulU x y (by omega) (by omega)) (les_refl _) ?_ | refine call_intro (ret_MulU x y (by omega) (by omega)) lesA ?_); (try (conv => whnf)))
  rw [Nat.mod_eq_of_lt (show x * y < 115792089237316195423570985008687907853269984665640564039457584007913129639936 by omega)]
  ((try (conv => whnf)); (repeat ((first | (refine br_true ?_ ?_; (focus (exact yesA))) | (refine br_false ?_ ?_; (focus (exact noA))) | (refine onS_map ?_ ?_; (focus (exact numA))) | (refine onS_intro (eqTC_ints rfl rfl rfl rfl ?_) ?_; (focus (exact numA))) | refine onS_intro (mapB_u8s _) ?_ | (refine And.intro ?_ ?_; (focus (exact flatA)))); (try (conv => whnf)))))
  (((first | refine call_intro (ret_ExpMod a (x + y) m ha (by omega) hm) (les_refl _) ?_ | refine call_intro (ret_ExpMod a (x + y) m ha (by omega) hm) lesA ?_); (try (conv => whnf))); ((try (conv => whnf)); (repeat ((first | (refine br_true ?_ ?_; (focus (exact yesA))) | (refine br_false ?_ ?_; (focus (exact noA))) | (refine onS_map ?_ ?_; (focus (exact numA))) | (refine onS_intro (eqTC_ints rfl rfl rfl rfl ?_) ?_; (focus (exact numA))) | refine onS_intro (mapB_u8s _) ?_ | (refine And.intro ?_ ?_; (focus (exact flatA)))); (try (conv => whnf))))))
  (((first | refine call_intro (ret_ExpMod a x m ha (by omega) hm) (les_refl _) ?_ | refine call_intro (ret_ExpMod a x m ha (by omega) hm) lesA ?_); (try (conv => whnf))); ((try (conv => whnf)); (repeat ((first | (refine br_true ?_ ?_; (focus (exact yesA))) | (refine br_false ?_ ?_; (focus (exact noA))) | (refine onS_map ?_ ?_; (focus (exact numA))) | (refine onS_intro (eqTC_ints rfl rfl rfl rfl ?_) ?_; (focus (exact numA))) | refine onS_intro (mapB_u8s _) ?_ | (refine And.intro ?_ ?_; (focus (exact flatA)))); (try (conv => whnf))))))
  (((first | refine call_intro (ret_ExpMod a y m ha (by omega) hm) (les_refl _) ?_ | refine call_intro (ret_ExpMod a y m ha (by omega) hm) lesA ?_); (try (conv => whnf))); ((try (conv => whnf)); (repeat ((first | (refine br_true ?_ ?_; (focus (exact yesA))) | (refine br_false ?_ ?_; (focus (exact noA))) | (refine onS_map ?_ ?_; (focus (exact numA))) | (refine onS_intro (eqTC_ints rfl rfl rfl rfl ?_) ?_; (focus (exact numA))) | refine onS_intro (mapB_u8s _) ?_ | (refine And.intro ?_ ?_; (focus (exact flatA)))); (try (conv => whnf))))))
  ((first | refine call_intro (ret_MulMod (modN (a ^ x) m) (modN (a ^ y) m) m (hz _) (hz _) hm) (les_refl _) ?_ | refine call_intro (ret_MulMod (modN (a ^ x) m) (modN (a ^ y) m) m (hz _) (hz _) hm) lesA ?_); (try (conv => whnf)))
  rw [modN_mul, ← Nat.pow_add]
  ((try (conv => whnf)); (repeat ((first | (refine br_true ?_ ?_; (focus (exact yesA))) | (refine br_false ?_ ?_; (focus (exact noA))) | (refine onS_map ?_ ?_; (focus (exact numA))) | (refine onS_intro (eqTC_ints rfl rfl rfl rfl ?_) ?_; (focus (exact numA))) | refine onS_intro (mapB_u8s _) ?_ | (refine And.intro ?_ ?_; (focus (exact flatA)))); (try (conv => whnf)))))
  (((first | refine call_intro (ret_ExpMod a (x * y) m ha (by omega) hm) (les_refl _) ?_ | refine call_intro (ret_ExpMod a (x * y) m ha (by omega) hm) lesA ?_); (try (conv => whnf))); ((try (conv => whnf)); (repeat ((first | (refine br_true ?_ ?_; (focus (exact yesA))) | (refine br_false ?_ ?_; (focus (exact noA))) | (refine onS_map ?_ ?_; (focus (exact numA))) | (refine onS_intro (eqTC_ints rfl rfl rfl rfl ?_) ?_; (focus (exact numA))) | refine onS_intro (mapB_u8s _) ?_ | (refine And.intro ?_ ?_; (focus (exact flatA)))); (try (conv => whnf))))))
  (((first | refine call_intro (ret_ExpMod a x m ha (by omega) hm) (les_refl _) ?_ | refine call_intro (ret_ExpMod a x m ha (by omega) hm) lesA ?_); (try (conv => whnf))); ((try (conv => whnf)); (repeat ((first | (refine br_true ?_ ?_; (focus (exact yesA))) | (refine br_false ?_ ?_; (focus (exact noA))) | (refine onS_map ?_ ?_; (focus (exact numA))) | (refine onS_intro (eqTC_ints rfl rfl rfl rfl ?_) ?_; (focus (exact numA))) | refine onS_intro (mapB_u8s _) ?_ | (refine And.intro ?_ ?_; (focus (exact flatA)))); (try (conv => whnf))))))
  ((first | refine call_intro (ret_ExpMod (modN (a ^ x) m) y m (hz _) (by omega) hm) (les_refl _) ?_ | refine call_intro (ret_ExpMod (modN (a ^ x) m) y m (hz _) (by omega) hm) lesA ?_); (try (conv => whnf)))
  rw [modN_pow, ← Nat.pow_mul]
  ((try (conv => whnf)); (repeat ((first | (refine br_true ?_ ?_; (focus (exact yesA))) | (refine br_false ?_ ?_; (focus (exact noA))) | (refine onS_map ?_ ?_; (focus (exact numA))) | (refine onS_intro (eqTC_ints rfl rfl rfl rfl ?_) ?_; (focus (exact numA))) | refine onS_intro (mapB_u8s _) ?_ | (refine And.intro ?_ ?_; (focus (exact flatA)))); (try (conv => whnf)))))
  first | exact D.le.refl _ | exact le_true (chk_true rfl)
theorem div_mul_self {a b : Nat} (hb : 0 < b) : (a * b / 115792089237316195423570985008687907853269984665640564039457584007913129639936 * 115792089237316195423570985008687907853269984665640564039457584007913129639936 + a * b % 115792089237316195423570985008687907853269984665640564039457584007913129639936) / b = a ∧ (a * b / 115792089237316195423570985008687907853269984665640564039457584007913129639936 * 115792089237316195423570985008687907853269984665640564039457584007913129639936 + a * b % 115792089237316195423570985008687907853269984665640564039457584007913129639936) % b = 0 := by
  rw [two_halves]
  exact ⟨Nat.mul_div_cancel a hb, Nat.mul_mod_left a b⟩
theorem quo_mul {c b : Nat} (hc : c < 115792089237316195423570985008687907853269984665640564039457584007913129639936) : c / b * b / 115792089237316195423570985008687907853269984665640564039457584007913129639936 = 0 ∧ c / b * b % 115792089237316195423570985008687907853269984665640564039457584007913129639936 = c / b * b := by
  have : c / b * b ≤ c := Nat.div_mul_le_self c b
  exact ⟨Nat.div_eq_of_lt (by omega), Nat.mod_eq_of_lt (by omega)⟩
theorem shr_shl {c k : Nat} (hc : c < 115792089237316195423570985008687907853269984665640564039457584007913129639936) : c / 2 ^ k * 2 ^ k % 115792089237316195423570985008687907853269984665640564039457584007913129639936 / 2 ^ k = c / 2 ^ k := by
  have : c / 2 ^ k * 2 ^ k ≤ c := Nat.div_mul_le_self c _
  rw [Nat.mod_eq_of_lt (by omega), Nat.mul_div_cancel _ (Nat.two_pow_pos k)]
theorem ret_WideUndo (a b c n : Nat) (ha : a < 115792089237316195423570985008687907853269984665640564039457584007913129639936) (hb : b < 115792089237316195423570985008687907853269984665640564039457584007913129639936) (hc : c < 115792089237316195423570985008687907853269984665640564039457584007913129639936) (hn : n < 256) : Returns cx n_lightclientlaw02_WideUndo [U a, U b, U c, .int .u8 n] (.bool true) := by
  (refine of_W2 (fn := f_lightclientlaw02_WideUndo) {} (by kernel_rfl) (by kernel_rfl) (by kernel_rfl) (by kernel_rfl) (by kernel_rfl) ?_)
  ((try (conv => whnf)); (repeat ((first | (refine br_true ?_ ?_; (focus (exact yesA))) | (refine br_false ?_ ?_; (focus (exact noA))) | (refine onS_map ?_ ?_; (focus (exact numA))) | (refine onS_intro (eqTC_ints rfl rfl rfl rfl ?_) ?_; (focus (exact numA))) | refine onS_intro (mapB_u8s _) ?_ | (refine And.intro ?_ ?_; (focus (exact flatA)))); (try (conv => whnf)))))
  (((first | refine call_intro (ret_AddU a b ha hb) (les_refl _) ?_ | refine call_intro (ret_AddU a b ha hb) lesA ?_); (try (conv => whnf))); ((try (conv => whnf)); (repeat ((first | (refine br_true ?_ ?_; (focus (exact yesA))) | (refine br_false ?_ ?_; (focus (exact noA))) | (refine onS_map ?_ ?_; (focus (exact numA))) | (refine onS_intro (eqTC_ints rfl rfl rfl rfl ?_) ?_; (focus (exact numA))) | refine onS_intro (mapB_u8s _) ?_ | (refine And.intro ?_ ?_; (focus (exact flatA)))); (try (conv => whnf))))))
  ((first | refine call_intro (ret_SubU ((a + b) % 115792089237316195423570985008687907853269984665640564039457584007913129639936) b (Nat.mod_lt _ (by decide)) hb) (les_refl _) ?_ | refine call_intro (ret_SubU ((a + b) % 115792089237316195423570985008687907853269984665640564039457584007913129639936) b (Nat.mod_lt _ (by decide)) hb) lesA ?_); (try (conv => whnf)))
  rw [show ((a + b) % 115792089237316195423570985008687907853269984665640564039457584007913129639936 + 115792089237316195423570985008687907853269984665640564039457584007913129639936 - b) % 115792089237316195423570985008687907853269984665640564039457584007913129639936 = a by omega, chk_congr (show (a + b) % 115792089237316195423570985008687907853269984665640564039457584007913129639936 < b ↔ 115792089237316195423570985008687907853269984665640564039457584007913129639936 ≤ a + b by omega)]
  ((try (conv => whnf)); (repeat ((first | (refine br_true ?_ ?_; (focus (exact yesA))) | (refine br_false ?_ ?_; (focus (exact noA))) | (refine onS_map ?_ ?_; (focus (exact numA))) | (refine onS_intro (eqTC_ints rfl rfl rfl rfl ?_) ?_; (focus (exact numA))) | refine onS_intro (mapB_u8s _) ?_ | (refine And.intro ?_ ?_; (focus (exact flatA)))); (try (conv => whnf)))))
  (((first | refine call_intro (ret_sane) (les_refl _) ?_ | refine call_intro (ret_sane) lesA ?_); (try (conv => whnf))); ((try (conv => whnf)); (repeat ((first | (refine br_true ?_ ?_; (focus (exact yesA))) | (refine br_false ?_ ?_; (focus (exact noA))) | (refine onS_map ?_ ?_; (focus (exact numA))) | (refine onS_intro (eqTC_ints rfl rfl rfl rfl ?_) ?_; (focus (exact numA))) | refine onS_intro (mapB_u8s _) ?_ | (refine And.intro ?_ ?_; (focus (exact flatA)))); (try (conv => whnf))))))
  (((first | refine call_intro (ret_MulU a b ha hb) (les_refl _) ?_ | refine call_intro (ret_MulU a b ha hb) lesA ?_); (try (conv => whnf))); ((try (conv => whnf)); (repeat ((first | (refine br_true ?_ ?_; (focus (exact yesA))) | (refine br_false ?_ ?_; (focus (exact noA))) | (refine onS_map ?_ ?_; (focus (exact numA))) | (refine onS_intro (eqTC_ints rfl rfl rfl rfl ?_) ?_; (focus (exact numA))) | refine onS_intro (mapB_u8s _) ?_ | (refine And.intro ?_ ?_; (focus (exact flatA)))); (try (conv => whnf))))))
  by_cases h0 : b = 0
  · subst h0
    ((first | refine call_intro (ret_Div_bad (a * 0 / 115792089237316195423570985008687907853269984665640564039457584007913129639936) (a * 0 % 115792089237316195423570985008687907853269984665640564039457584007913129639936) 0 (by rw [Nat.mul_zero]; decide) (by decide) (by omega)) (les_refl _) ?_ | refine call_intro (ret_Div_bad (a * 0 / 115792089237316195423570985008687907853269984665640564039457584007913129639936) (a * 0 % 115792089237316195423570985008687907853269984665640564039457584007913129639936) 0 (by rw [Nat.mul_zero]; decide) (by decide) (by omega)) lesA ?_); (try (conv => whnf)))
    ((try (conv => whnf)); (repeat ((first | (refine br_true ?_ ?_; (focus (exact yesA))) | (refine br_false ?_ ?_; (focus (exact noA))) | (refine onS_map ?_ ?_; (focus (exact numA))) | (refine onS_intro (eqTC_ints rfl rfl rfl rfl ?_) ?_; (focus (exact numA))) | refine onS_intro (mapB_u8s _) ?_ | (refine And.intro ?_ ?_; (focus (exact flatA)))); (try (conv => whnf)))))
    ((first | refine call_intro (ret_CmpU 0 0 (by decide) (by decide)) (les_refl _) ?_ | refine call_intro (ret_CmpU 0 0 (by decide) (by decide)) lesA ?_); (try (conv => whnf)))
    rw [show cmpN 0 0 = 0 from rfl]
    ((try (conv => whnf)); (repeat ((first | (refine br_true ?_ ?_; (focus (exact yesA))) | (refine br_false ?_ ?_; (focus (exact noA))) | (refine onS_map ?_ ?_; (focus (exact numA))) | (refine onS_intro (eqTC_ints rfl rfl rfl rfl ?_) ?_; (focus (exact numA))) | refine onS_intro (mapB_u8s _) ?_ | (refine And.intro ?_ ?_; (focus (exact flatA)))); (try (conv => whnf)))))
    (((first | refine call_intro (ret_Div_bad 0 c 0 (by decide) (by decide) (by decide)) (les_refl _) ?_ | refine call_intro (ret_Div_bad 0 c 0 (by decide) (by decide) (by decide)) lesA ?_); (try (conv => whnf))); ((try (conv => whnf)); (repeat ((first | (refine br_true ?_ ?_; (focus (exact yesA))) | (refine br_false ?_ ?_; (focus (exact noA))) | (refine onS_map ?_ ?_; (focus (exact numA))) | (refine onS_intro (eqTC_ints rfl rfl rfl rfl ?_) ?_; (focus (exact numA))) | refine onS_intro (mapB_u8s _) ?_ | (refine And.intro ?_ ?_; (focus (exact flatA)))); (try (conv => whnf))))))
    refine onS_intro (eqTC_U0 rfl rfl rfl rfl (by decide)) ?_
    ((try (conv => whnf)); (repeat ((first | (refine br_true ?_ ?_; (focus (exact yesA))) | (refine br_false ?_ ?_; (focus (exact noA))) | (refine onS_map ?_ ?_; (focus (exact numA))) | (refine onS_intro (eqTC_ints rfl rfl rfl rfl ?_) ?_; (focus (exact numA))) | refine onS_intro (mapB_u8s _) ?_ | (refine And.intro ?_ ?_; (focus (exact flatA)))); (try (conv => whnf)))))
    first | exact D.le.refl _ | exact le_true (chk_true rfl)
  · have hb0 : 0 < b := by omega
    have hh : a * b / 115792089237316195423570985008687907853269984665640564039457584007913129639936 < b := by
      rw [Nat.div_lt_iff_lt_mul (by decide), Nat.mul_comm a b]
      exact Nat.mul_lt_mul_of_pos_left ha hb0
    obtain ⟨d1, d2⟩ := div_mul_self (a := a) hb0
    ((first | refine call_intro (ret_Div_ok (a * b / 115792089237316195423570985008687907853269984665640564039457584007913129639936) (a * b % 115792089237316195423570985008687907853269984665640564039457584007913129639936) b (mul_lt256 ha hb) (Nat.mod_lt _ (by decide)) hb hh) (les_refl _) ?_ | refine call_intro (ret_Div_ok (a * b / 115792089237316195423570985008687907853269984665640564039457584007913129639936) (a * b % 115792089237316195423570985008687907853269984665640564039457584007913129639936) b (mul_lt256 ha hb) (Nat.mod_lt _ (by decide)) hb hh) lesA ?_); (try (conv => whnf)))
    rw [d1, d2]
    have hcp : cmpN b 0 = 1 := by unfold cmpN; rw [if_neg (by omega), if_pos hb0]
    ((try (conv => whnf)); (repeat ((first | (refine br_true ?_ ?_; (focus (exact yesA))) | (refine br_false ?_ ?_; (focus (exact noA))) | (refine onS_map ?_ ?_; (focus (exact numA))) | (refine onS_intro (eqTC_ints rfl rfl rfl rfl ?_) ?_; (focus (exact numA))) | refine onS_intro (mapB_u8s _) ?_ | (refine And.intro ?_ ?_; (focus (exact flatA)))); (try (conv => whnf)))))
    ((first | refine call_intro (ret_CmpU b 0 hb (by decide)) (les_refl _) ?_ | refine call_intro (ret_CmpU b 0 hb (by decide)) lesA ?_); (try (conv => whnf)))
    rw [hcp]
    ((try (conv => whnf)); (repeat ((first | (refine br_true ?_ ?_; (focus (exact yesA))) | (refine br_false ?_ ?_; (focus (exact noA))) | (refine onS_map ?_ ?_; (focus (exact numA))) | (refine onS_intro (eqTC_ints rfl rfl rfl rfl ?_) ?_; (focus (exact numA))) | refine onS_intro (mapB_u8s _) ?_ | (refine And.intro ?_ ?_; (focus (exact flatA)))); (try (conv => whnf)))))
    refine onS_intro (eqTC_U0 rfl rfl rfl rfl (by decide)) ?_
    ((try (conv => whnf)); (repeat ((first | (refine br_true ?_ ?_; (focus (exact yesA))) | (refine br_false ?_ ?_; (focus (exact noA))) | (refine onS_map ?_ ?_; (focus (exact numA))) | (refine onS_intro (eqTC_ints rfl rfl rfl rfl ?_) ?_; (focus (exact numA))) | refine onS_intro (mapB_u8s _) ?_ | (refine And.intro ?_ ?_; (focus (exact flatA)))); (try (conv => whnf)))))
    ((first | refine call_intro (ret_Div_ok 0 c b (by decide) hc hb hb0) (les_refl _) ?_ | refine call_intro (ret_Div_ok 0 c b (by decide) hc hb hb0) lesA ?_); (try (conv => whnf)))
    rw [Nat.zero_mul, Nat.zero_add]
    ((try (conv => whnf)); (repeat ((first | (refine br_true ?_ ?_; (focus (exact yesA))) | (refine br_false ?_ ?_; (focus (exact noA))) | (refine onS_map ?_ ?_; (focus (exact numA))) | (refine onS_intro (eqTC_ints rfl rfl rfl rfl ?_) ?_; (focus (exact numA))) | refine onS_intro (mapB_u8s _) ?_ | (refine And.intro ?_ ?_; (focus (exact flatA)))); (try (conv => whnf)))))
    obtain ⟨q1, q2⟩ := quo_mul (b := b) hc
    have hq : c / b < 115792089237316195423570985008687907853269984665640564039457584007913129639936 := Nat.lt_of_le_of_lt (Nat.div_le_self c b) hc
    have hr : c % b < b := Nat.mod_lt c hb0
    have hs : c / b * b + c % b = c := by rw [Nat.mul_comm]; exact Nat.div_add_mod c b
    have hl : c / b * b < 115792089237316195423570985008687907853269984665640564039457584007913129639936 := by omega
    ((first | refine call_intro (ret_MulU (c / b) b hq hb) (les_refl _) ?_ | refine call_intro (ret_MulU (c / b) b hq hb) lesA ?_); (try (conv => whnf)))
    rw [q1, q2]
    ((try (conv => whnf)); (repeat ((first | (refine br_true ?_ ?_; (focus (exact yesA))) | (refine br_false ?_ ?_; (focus (exact noA))) | (refine onS_map ?_ ?_; (focus (exact numA))) | (refine onS_intro (eqTC_ints rfl rfl rfl rfl ?_) ?_; (focus (exact numA))) | refine onS_intro (mapB_u8s _) ?_ | (refine And.intro ?_ ?_; (focus (exact flatA)))); (try (conv => whnf)))))
    ((first | refine call_intro (ret_AddU (c / b * b) (c % b) hl (by omega)) (les_refl _) ?_ | refine call_intro (ret_AddU (c / b * b) (c % b) hl (by omega)) lesA ?_); (try (conv => whnf)))
    rw [hs, Nat.mod_eq_of_lt hc]
    have hcc : cmpN (c % b) b = -1 := by unfold cmpN; rw [if_pos hr]
    ((try (conv => whnf)); (repeat ((first | (refine br_true ?_ ?_; (focus (exact yesA))) | (refine br_false ?_ ?_; (focus (exact noA))) | (refine onS_map ?_ ?_; (focus (exact numA))) | (refine onS_intro (eqTC_ints rfl rfl rfl rfl ?_) ?_; (focus (exact numA))) | refine onS_intro (mapB_u8s _) ?_ | (refine And.intro ?_ ?_; (focus (exact flatA)))); (try (conv => whnf)))))
    refine onS_intro (eqTC_U0 rfl rfl rfl rfl (by decide)) ?_
    ((try (conv => whnf)); (repeat ((first | (refine br_true ?_ ?_; (focus (exact yesA))) | (refine br_false ?_ ?_; (focus (exact noA))) | (refine onS_map ?_ ?_; (focus (exact numA))) | (refine onS_intro (eqTC_ints rfl rfl rfl rfl ?_) ?_; (focus (exact numA))) | refine onS_intro (mapB_u8s _) ?_ | (refine And.intro ?_ ?_; (focus (exact flatA)))); (try (conv => whnf)))))
    ((first | refine call_intro (ret_CmpU (c % b) b (by omega) hb) (les_refl _) ?_ | refine call_intro (ret_CmpU (c % b) b (by omega) hb) lesA ?_); (try (conv => whnf)))
    rw [hcc]
    ((try (conv => whnf)); (repeat ((first | (refine br_true ?_ ?_; (focus (exact yesA))) | (refine br_false ?_ ?_; (focus (exact noA))) | (refine onS_map ?_ ?_; (focus (exact numA))) | (refine onS_intro (eqTC_ints rfl rfl rfl rfl ?_) ?_; (focus (exact numA))) | refine onS_intro (mapB_u8s _) ?_ | (refine And.intro ?_ ?_; (focus (exact flatA)))); (try (conv => whnf)))))
    have hk : inK .i64 (n : Int) := by simp only [inK, loK, hiK]; omega
    have hd : ∀ z, c / 2 ^ z < 115792089237316195423570985008687907853269984665640564039457584007913129639936 := fun z => Nat.lt_of_le_of_lt (Nat.div_le_self c _) hc
    ((first | refine call_intro (ret_ShrU c n hc hk) (les_refl _) ?_ | refine call_intro (ret_ShrU c n hc hk) lesA ?_); (try (conv => whnf)))
    rw [Int.toNat_natCast]
    ((try (conv => whnf)); (repeat ((first | (refine br_true ?_ ?_; (focus (exact yesA))) | (refine br_false ?_ ?_; (focus (exact noA))) | (refine onS_map ?_ ?_; (focus (exact numA))) | (refine onS_intro (eqTC_ints rfl rfl rfl rfl ?_) ?_; (focus (exact numA))) | refine onS_intro (mapB_u8s _) ?_ | (refine And.intro ?_ ?_; (focus (exact flatA)))); (try (conv => whnf)))))
    ((first | refine call_intro (ret_ShlU (c / 2 ^ n) n (hd _) hk) (les_refl _) ?_ | refine call_intro (ret_ShlU (c / 2 ^ n) n (hd _) hk) lesA ?_); (try (conv => whnf)))
    rw [Int.toNat_natCast]
    ((try (conv => whnf)); (repeat ((first | (refine br_true ?_ ?_; (focus (exact yesA))) | (refine br_false ?_ ?_; (focus (exact noA))) | (refine onS_map ?_ ?_; (focus (exact numA))) | (refine onS_intro (eqTC_ints rfl rfl rfl rfl ?_) ?_; (focus (exact numA))) | refine onS_intro (mapB_u8s _) ?_ | (refine And.intro ?_ ?_; (focus (exact flatA)))); (try (conv => whnf)))))
    ((first | refine call_intro (ret_ShrU (c / 2 ^ n * 2 ^ n % 115792089237316195423570985008687907853269984665640564039457584007913129639936) n (Nat.mod_lt _ (by decide)) hk) (les_refl _) ?_ | refine call_intro (ret_ShrU (c / 2 ^ n * 2 ^ n % 115792089237316195423570985008687907853269984665640564039457584007913129639936) n (Nat.mod_lt _ (by decide)) hk) lesA ?_); (try (conv => whnf)))
    rw [Int.toNat_natCast, shr_shl hc]
    ((try (conv => whnf)); (repeat ((first | (refine br_true ?_ ?_; (focus (exact yesA))) | (refine br_false ?_ ?_; (focus (exact noA))) | (refine onS_map ?_ ?_; (focus (exact numA))) | (refine onS_intro (eqTC_ints rfl rfl rfl rfl ?_) ?_; (focus (exact numA))) | refine onS_intro (mapB_u8s _) ?_ | (refine And.intro ?_ ?_; (focus (exact flatA)))); (try (conv => whnf)))))
    ((first | refine call_intro (ret_ShrU c n hc hk) (les_refl _) ?_ | refine call_intro (ret_ShrU c n hc hk) lesA ?_); (try (conv => whnf)))
    rw [Int.toNat_natCast]
    ((try (conv => whnf)); (repeat ((first | (refine br_true ?_ ?_; (focus (exact yesA))) | (refine br_false ?_ ?_; (focus (exact noA))) | (refine onS_map ?_ ?_; (focus (exact numA))) | (refine onS_intro (eqTC_ints rfl rfl rfl rfl ?_) ?_; (focus (exact numA))) | refine onS_intro (mapB_u8s _) ?_ | (refine And.intro ?_ ?_; (focus (exact flatA)))); (try (conv => whnf)))))
    first | exact D.le.refl _ | exact le_true (chk_true rfl)
/-- Two forms that agree ahead of a place where one is less. -/
theorem lex_lt {X Y : List Int} {i : Nat} (hX : X.length = 32) (hY : Y.length = 32) (bX : ∀ c ∈ X, Byt c) (hi : i < 32) (he : ∀ j, j < i → X.getD j default = Y.getD j default) (hl : X.getD i default < Y.getD i default) : beN X < beN Y := by
  have eX : X = X.take i ++ X.getD i default :: X.drop (i + 1) := by
    rw [getD_get _ _ _ (by omega), ← List.drop_eq_getElem_cons (by omega), List.take_append_drop]
  have eY : Y = X.take i ++ Y.getD i default :: Y.drop (i + 1) := by
    have ht : X.take i = Y.take i := by
      apply List.ext_getElem (by simp; omega)
      intro j h1 h2
      rw [List.getElem_take, List.getElem_take]
      have := he j (by simp at h1; omega)
      rw [getD_get _ _ _ (by simp at h1; omega), getD_get _ _ _ (by simp at h1; omega)] at this
      exact this
    rw [ht, getD_get _ _ _ (by omega), ← List.drop_eq_getElem_cons (by omega), List.take_append_drop]
  rw [eX, eY]
  refine beN_lex (fun x hx => bX x (List.mem_of_mem_drop hx)) (by simp; omega) ?_ ?_
  · exact hl
  · exact (byte_get bX (by omega)).1
theorem cmpN_neg (a b : Nat) : cmpN a b = 0 - cmpN b a := by unfold cmpN; split <;> (try split) <;> omega
theorem ret_WideOrder (a b : Nat) (ha : a < 115792089237316195423570985008687907853269984665640564039457584007913129639936) (hb : b < 115792089237316195423570985008687907853269984665640564039457584007913129639936) : Returns cx n_lightclientlaw02_WideOrder [U a, U b] (.bool true) := by
  have hX := beB_len a
  have hY := beB_len b
  have bX := beB_byt a
  have bY := beB_byt b
  have nX := beN_beB ha
  have nY := beN_beB hb
  have hc : -1 ≤ cmpN b a ∧ cmpN b a ≤ 1 := by unfold cmpN; split <;> (try split) <;> decide
  have hlt : cmpN a b < 0 ↔ a < b := by unfold cmpN; split <;> (try split) <;> omega
  have heq : cmpN a b = 0 ↔ a = b := by unfold cmpN; split <;> (try split) <;> omega
  have hn := cmpN_neg a b
  (refine of_W2 (fn := f_lightclientlaw02_WideOrder) {} (by kernel_rfl) (by kernel_rfl) (by kernel_rfl) (by kernel_rfl) (by kernel_rfl) ?_)
  ((try (conv => whnf)); (repeat ((first | (refine br_true ?_ ?_; (focus (exact yesA))) | (refine br_false ?_ ?_; (focus (exact noA))) | (refine onS_map ?_ ?_; (focus (exact numA))) | (refine onS_intro (eqTC_ints rfl rfl rfl rfl ?_) ?_; (focus (exact numA))) | refine onS_intro (mapB_u8s _) ?_ | (refine And.intro ?_ ?_; (focus (exact flatA)))); (try (conv => whnf)))))
  (((first | refine call_intro (ret_BytesU a) (les_refl _) ?_ | refine call_intro (ret_BytesU a) lesA ?_); (try (conv => whnf))); ((try (conv => whnf)); (repeat ((first | (refine br_true ?_ ?_; (focus (exact yesA))) | (refine br_false ?_ ?_; (focus (exact noA))) | (refine onS_map ?_ ?_; (focus (exact numA))) | (refine onS_intro (eqTC_ints rfl rfl rfl rfl ?_) ?_; (focus (exact numA))) | refine onS_intro (mapB_u8s _) ?_ | (refine And.intro ?_ ?_; (focus (exact flatA)))); (try (conv => whnf))))))
  (((first | refine call_intro (ret_BytesU b) (les_refl _) ?_ | refine call_intro (ret_BytesU b) lesA ?_); (try (conv => whnf))); ((try (conv => whnf)); (repeat ((first | (refine br_true ?_ ?_; (focus (exact yesA))) | (refine br_false ?_ ?_; (focus (exact noA))) | (refine onS_map ?_ ?_; (focus (exact numA))) | (refine onS_intro (eqTC_ints rfl rfl rfl rfl ?_) ?_; (focus (exact numA))) | refine onS_intro (mapB_u8s _) ?_ | (refine And.intro ?_ ?_; (focus (exact flatA)))); (try (conv => whnf))))))
  (((first | refine call_intro (ret_SubU a b ha hb) (les_refl _) ?_ | refine call_intro (ret_SubU a b ha hb) lesA ?_); (try (conv => whnf))); ((try (conv => whnf)); (repeat ((first | (refine br_true ?_ ?_; (focus (exact yesA))) | (refine br_false ?_ ?_; (focus (exact noA))) | (refine onS_map ?_ ?_; (focus (exact numA))) | (refine onS_intro (eqTC_ints rfl rfl rfl rfl ?_) ?_; (focus (exact numA))) | refine onS_intro (mapB_u8s _) ?_ | (refine And.intro ?_ ?_; (focus (exact flatA)))); (try (conv => whnf))))))
  (((first | refine call_intro (ret_CmpU a b ha hb) (les_refl _) ?_ | refine call_intro (ret_CmpU a b ha hb) lesA ?_); (try (conv => whnf))); ((try (conv => whnf)); (repeat ((first | (refine br_true ?_ ?_; (focus (exact yesA))) | (refine br_false ?_ ?_; (focus (exact noA))) | (refine onS_map ?_ ?_; (focus (exact numA))) | (refine onS_intro (eqTC_ints rfl rfl rfl rfl ?_) ?_; (focus (exact numA))) | refine onS_intro (mapB_u8s _) ?_ | (refine And.intro ?_ ?_; (focus (exact flatA)))); (try (conv => whnf))))))
  (((first | refine call_intro (ret_sane) (les_refl _) ?_ | refine call_intro (ret_sane) lesA ?_); (try (conv => whnf))); ((try (conv => whnf)); (repeat ((first | (refine br_true ?_ ?_; (focus (exact yesA))) | (refine br_false ?_ ?_; (focus (exact noA))) | (refine onS_map ?_ ?_; (focus (exact numA))) | (refine onS_intro (eqTC_ints rfl rfl rfl rfl ?_) ?_; (focus (exact numA))) | refine onS_intro (mapB_u8s _) ?_ | (refine And.intro ?_ ?_; (focus (exact flatA)))); (try (conv => whnf))))))
  (((first | refine call_intro (ret_CmpU b a hb ha) (les_refl _) ?_ | refine call_intro (ret_CmpU b a hb ha) lesA ?_); (try (conv => whnf))); ((try (conv => whnf)); (repeat ((first | (refine br_true ?_ ?_; (focus (exact yesA))) | (refine br_false ?_ ?_; (focus (exact noA))) | (refine onS_map ?_ ?_; (focus (exact numA))) | (refine onS_intro (eqTC_ints rfl rfl rfl rfl ?_) ?_; (focus (exact numA))) | refine onS_intro (mapB_u8s _) ?_ | (refine And.intro ?_ ?_; (focus (exact flatA)))); (try (conv => whnf))))))
  rw [chk_congr hlt]
  ((try (conv => whnf)); (repeat ((first | (refine br_true ?_ ?_; (focus (exact yesA))) | (refine br_false ?_ ?_; (focus (exact noA))) | (refine onS_map ?_ ?_; (focus (exact numA))) | (refine onS_intro (eqTC_ints rfl rfl rfl rfl ?_) ?_; (focus (exact numA))) | refine onS_intro (mapB_u8s _) ?_ | (refine And.intro ?_ ?_; (focus (exact flatA)))); (try (conv => whnf)))))
  refine onS_intro (eqTC_U rfl rfl rfl rfl ha hb) ?_
  rw [chk_congr heq]
  ((try (conv => whnf)); (repeat ((first | (refine br_true ?_ ?_; (focus (exact yesA))) | (refine br_false ?_ ?_; (focus (exact noA))) | (refine onS_map ?_ ?_; (focus (exact numA))) | (refine onS_intro (eqTC_ints rfl rfl rfl rfl ?_) ?_; (focus (exact numA))) | refine onS_intro (mapB_u8s _) ?_ | (refine And.intro ?_ ?_; (focus (exact flatA)))); (try (conv => whnf)))))
  generalize beB a = X at *
  generalize beB b = Y at *
  refine LoopW2_rule (fun i : Nat => [(4, .d (.bool false)), (5, .ptr 2 0 [] (.arr 32 .one)), (6, .ptr 3 0 [] (.arr 32 .one)), (9, .d (.int .i64 (cmpN a b))), (48, .d (.int .i64 (i : Nat)))])
    (fun _ => [none, none, some (.fix (.d (hashD X))), some (.fix (.d (hashD Y)))]) (fun i => i ≤ 32 ∧ ∀ j, j < i → X.getD j default = Y.getD j default) (fun i => 32 - i) _ rfl 0 (Wk.go ?_ rfl ?_ rfl) ⟨by omega, fun j h => by omega⟩ ?_
  rotate_left 2
  · rintro i K ⟨hi, he⟩ hK
    simp only at hi he hK ⊢
    by_cases h32 : i = 32
    · subst h32
      have hXY : X = Y := by
        apply List.ext_getElem (by omega)
        intro j h1 h2
        have := he j (by omega)
        rw [getD_get _ _ _ (by omega), getD_get _ _ _ (by omega)] at this
        exact this
      have hab : a = b := by rw [← nX, ← nY, hXY]
      ((try (conv => whnf)); (repeat ((first | (refine br_true ?_ ?_; (focus (exact yesA))) | (refine br_false ?_ ?_; (focus (exact noA))) | (refine onS_map ?_ ?_; (focus (exact numA))) | (refine onS_intro (eqTC_ints rfl rfl rfl rfl ?_) ?_; (focus (exact numA))) | refine onS_intro (mapB_u8s _) ?_ | (refine And.intro ?_ ?_; (focus (exact flatA)))); (try (conv => whnf)))))
      exact le_true (chk_true (heq.2 hab))
    · by_cases hd : X.getD i default = Y.getD i default
      · ((try (conv => whnf)); (repeat ((first | (refine br_true ?_ ?_; (focus (exact yesA))) | (refine br_false ?_ ?_; (focus (exact noA))) | (refine onS_map ?_ ?_; (focus (exact numA))) | (refine onS_intro (eqTC_ints rfl rfl rfl rfl ?_) ?_; (focus (exact numA))) | refine onS_intro (mapB_u8s _) ?_ | (refine And.intro ?_ ?_; (focus (exact flatA)))); (try (conv => whnf)))))
        rw [Int.toNat_natCast]
        ((try (conv => whnf)); (repeat ((first | (refine br_true ?_ ?_; (focus (exact yesA))) | (refine br_false ?_ ?_; (focus (exact noA))) | (refine onS_map ?_ ?_; (focus (exact numA))) | (refine onS_intro (eqTC_ints rfl rfl rfl rfl ?_) ?_; (focus (exact numA))) | refine onS_intro (mapB_u8s _) ?_ | (refine And.intro ?_ ?_; (focus (exact flatA)))); (try (conv => whnf)))))
        refine hK (i + 1) _ _ rfl (Wk.go ?_ rfl ?_ rfl) ⟨by omega, fun j hj => ?_⟩ (by omega)
        rotate_left 2
        · by_cases hji : j = i
          · subst hji; exact hd
          · exact he j (by omega)
        all_goals (try (repeat' (first | exact trivial | rfl | exact .inl rfl | exact .inr rfl | refine ⟨?_, ?_⟩)))
      · have hxy : X.getD i default < Y.getD i default ↔ cmpN a b < 0 := by
          rw [hlt]
          constructor
          · intro h
            rw [← nX, ← nY]
            exact lex_lt hX hY bX (by omega) he h
          · intro h
            by_cases hg : X.getD i default < Y.getD i default
            · exact hg
            · have := lex_lt hY hX bY (show i < 32 by omega) (fun j hj => (he j hj).symm) (by omega)
              rw [nX, nY] at this
              omega
        ((try (conv => whnf)); (repeat ((first | (refine br_true ?_ ?_; (focus (exact yesA))) | (refine br_false ?_ ?_; (focus (exact noA))) | (refine onS_map ?_ ?_; (focus (exact numA))) | (refine onS_intro (eqTC_ints rfl rfl rfl rfl ?_) ?_; (focus (exact numA))) | refine onS_intro (mapB_u8s _) ?_ | (refine And.intro ?_ ?_; (focus (exact flatA)))); (try (conv => whnf)))))
        rw [Int.toNat_natCast]
        ((try (conv => whnf)); (repeat ((first | (refine br_true ?_ ?_; (focus (exact yesA))) | (refine br_false ?_ ?_; (focus (exact noA))) | (refine onS_map ?_ ?_; (focus (exact numA))) | (refine onS_intro (eqTC_ints rfl rfl rfl rfl ?_) ?_; (focus (exact numA))) | refine onS_intro (mapB_u8s _) ?_ | (refine And.intro ?_ ?_; (focus (exact flatA)))); (try (conv => whnf)))))
        rw [Int.toNat_natCast, chk_congr hxy]
        ((try (conv => whnf)); (repeat ((first | (refine br_true ?_ ?_; (focus (exact yesA))) | (refine br_false ?_ ?_; (focus (exact noA))) | (refine onS_map ?_ ?_; (focus (exact numA))) | (refine onS_intro (eqTC_ints rfl rfl rfl rfl ?_) ?_; (focus (exact numA))) | refine onS_intro (mapB_u8s _) ?_ | (refine And.intro ?_ ?_; (focus (exact flatA)))); (try (conv => whnf)))))
        exact le_true (by cases chk (cmpN a b < 0) <;> rfl)
  all_goals (try (repeat' (first | exact trivial | rfl | exact .inl rfl | exact .inr rfl | refine ⟨?_, ?_⟩)))
end Go.Fw

/-
The statements of chapter 2 on data that fits. No conditions.
-/
namespace Go.Fw
set_option linter.unusedVariables false
set_option linter.unusedSimpArgs false
open Go.Proofs Go.Proofs.Ytlcigfcffmfckaa
set_option maxRecDepth 100000
theorem gok {W : World} : GOK cx W noOwn := by
  intro g x hx
  cases (show (none : Option D) = some x from hx)
theorem u256_inv {t e : TypeId} {te ee : TyE} {x : D} (h : Fits cx t x) (ht : cx.ty t = some te) (hk : te.ty = .arr 4 e) (he : cx.ty e = some ee) (hke : ee.ty = .int .u64) (hs : ee.sh = .one) : ∃ n, x = U n ∧ n < 115792089237316195423570985008687907853269984665640564039457584007913129639936 := by
  obtain ⟨l, rfl, hl, hb⟩ := h.ints_inv ht hk he hke hs
  match l, hl with
  | [a, b, c, d], _ =>
    have ha := hb a (by simp)
    have hb' := hb b (by simp)
    have hc := hb c (by simp)
    have hd := hb d (by simp)
    simp only [inK, loK, hiK] at ha hb' hc hd
    obtain ⟨a, rfl⟩ := Int.eq_ofNat_of_zero_le ha.1
    obtain ⟨b, rfl⟩ := Int.eq_ofNat_of_zero_le hb'.1
    obtain ⟨c, rfl⟩ := Int.eq_ofNat_of_zero_le hc.1
    obtain ⟨d, rfl⟩ := Int.eq_ofNat_of_zero_le hd.1
    refine ⟨a + b * 18446744073709551616 + c * 340282366920938463463374607431768211456 + d * 6277101735386680763835789423207666416102355444464034512896, ?_, by omega⟩
    rw [← u4_U (by omega) (by omega) (by omega) (by omega)]
    rfl
theorem row_WidePowers (xs : List D) (hl : xs.length = f_lightclientlaw02_WidePowers.params.toList.length) (hf : ∀ (i : Nat) t x, f_lightclientlaw02_WidePowers.params.toList[i]? = some t → xs[i]? = some x → Fits cx t x) : Returns cx n_lightclientlaw02_WidePowers xs (.bool true) := by
  have hp : f_lightclientlaw02_WidePowers.params.toList = p_lightclientlaw02_WidePowers := by kernel_rfl
  rw [hp] at hl hf
  match xs, hl with
  | [x0, x1, x2], _ =>
    obtain ⟨a0, rfl, b0⟩ := u256_inv (hf 0 _ x0 rfl rfl) rfl rfl rfl rfl rfl
    obtain ⟨a1, rfl, b1⟩ := u256_inv (hf 1 _ x1 rfl rfl) rfl rfl rfl rfl rfl
    obtain ⟨a2, rfl, b2⟩ := u256_inv (hf 2 _ x2 rfl rfl) rfl rfl rfl rfl rfl
    exact ret_WidePowers a0 a1 a2 b0 b1 b2
theorem row_WideModular (xs : List D) (hl : xs.length = f_lightclientlaw02_WideModular.params.toList.length) (hf : ∀ (i : Nat) t x, f_lightclientlaw02_WideModular.params.toList[i]? = some t → xs[i]? = some x → Fits cx t x) : Returns cx n_lightclientlaw02_WideModular xs (.bool true) := by
  have hp : f_lightclientlaw02_WideModular.params.toList = p_lightclientlaw02_WideModular := by kernel_rfl
  rw [hp] at hl hf
  match xs, hl with
  | [x0, x1, x2], _ =>
    obtain ⟨a0, rfl, b0⟩ := u256_inv (hf 0 _ x0 rfl rfl) rfl rfl rfl rfl rfl
    obtain ⟨a1, rfl, b1⟩ := u256_inv (hf 1 _ x1 rfl rfl) rfl rfl rfl rfl rfl
    obtain ⟨a2, rfl, b2⟩ := u256_inv (hf 2 _ x2 rfl rfl) rfl rfl rfl rfl rfl
    exact ret_WideModular a0 a1 a2 b0 b1 b2
theorem row_WideDivides (xs : List D) (hl : xs.length = f_lightclientlaw02_WideDivides.params.toList.length) (hf : ∀ (i : Nat) t x, f_lightclientlaw02_WideDivides.params.toList[i]? = some t → xs[i]? = some x → Fits cx t x) : Returns cx n_lightclientlaw02_WideDivides xs (.bool true) := by
  have hp : f_lightclientlaw02_WideDivides.params.toList = p_lightclientlaw02_WideDivides := by kernel_rfl
  rw [hp] at hl hf
  match xs, hl with
  | [x0, x1, x2], _ =>
    obtain ⟨a0, rfl, b0⟩ := u256_inv (hf 0 _ x0 rfl rfl) rfl rfl rfl rfl rfl
    obtain ⟨a1, rfl, b1⟩ := u256_inv (hf 1 _ x1 rfl rfl) rfl rfl rfl rfl rfl
    obtain ⟨a2, rfl, b2⟩ := u256_inv (hf 2 _ x2 rfl rfl) rfl rfl rfl rfl rfl
    exact ret_WideDivides a0 a1 a2 b0 b1 b2
theorem row_WideShifts (xs : List D) (hl : xs.length = f_lightclientlaw02_WideShifts.params.toList.length) (hf : ∀ (i : Nat) t x, f_lightclientlaw02_WideShifts.params.toList[i]? = some t → xs[i]? = some x → Fits cx t x) : Returns cx n_lightclientlaw02_WideShifts xs (.bool true) := by
  have hp : f_lightclientlaw02_WideShifts.params.toList = p_lightclientlaw02_WideShifts := by kernel_rfl
  rw [hp] at hl hf
  match xs, hl with
  | [x0, x1], _ =>
    obtain ⟨a0, rfl, b0⟩ := u256_inv (hf 0 _ x0 rfl rfl) rfl rfl rfl rfl rfl
    obtain ⟨n1, rfl, h1⟩ := (hf 1 _ x1 rfl rfl).int_inv rfl rfl
    exact ret_WideShifts a0 n1 b0 h1
theorem row_WideSums (xs : List D) (hl : xs.length = f_lightclientlaw02_WideSums.params.toList.length) (hf : ∀ (i : Nat) t x, f_lightclientlaw02_WideSums.params.toList[i]? = some t → xs[i]? = some x → Fits cx t x) : Returns cx n_lightclientlaw02_WideSums xs (.bool true) := by
  have hp : f_lightclientlaw02_WideSums.params.toList = p_lightclientlaw02_WideSums := by kernel_rfl
  rw [hp] at hl hf
  match xs, hl with
  | [x0, x1], _ =>
    obtain ⟨a0, rfl, b0⟩ := u256_inv (hf 0 _ x0 rfl rfl) rfl rfl rfl rfl rfl
    obtain ⟨a1, rfl, b1⟩ := u256_inv (hf 1 _ x1 rfl rfl) rfl rfl rfl rfl rfl
    exact ret_WideSums a0 a1 b0 b1
theorem row_WideOrder (xs : List D) (hl : xs.length = f_lightclientlaw02_WideOrder.params.toList.length) (hf : ∀ (i : Nat) t x, f_lightclientlaw02_WideOrder.params.toList[i]? = some t → xs[i]? = some x → Fits cx t x) : Returns cx n_lightclientlaw02_WideOrder xs (.bool true) := by
  have hp : f_lightclientlaw02_WideOrder.params.toList = p_lightclientlaw02_WideOrder := by kernel_rfl
  rw [hp] at hl hf
  match xs, hl with
  | [x0, x1], _ =>
    obtain ⟨a0, rfl, b0⟩ := u256_inv (hf 0 _ x0 rfl rfl) rfl rfl rfl rfl rfl
    obtain ⟨a1, rfl, b1⟩ := u256_inv (hf 1 _ x1 rfl rfl) rfl rfl rfl rfl rfl
    exact ret_WideOrder a0 a1 b0 b1
theorem row_WideRing (xs : List D) (hl : xs.length = f_lightclientlaw02_WideRing.params.toList.length) (hf : ∀ (i : Nat) t x, f_lightclientlaw02_WideRing.params.toList[i]? = some t → xs[i]? = some x → Fits cx t x) : Returns cx n_lightclientlaw02_WideRing xs (.bool true) := by
  have hp : f_lightclientlaw02_WideRing.params.toList = p_lightclientlaw02_WideRing := by kernel_rfl
  rw [hp] at hl hf
  match xs, hl with
  | [x0, x1, x2, x3], _ =>
    obtain ⟨a0, rfl, b0⟩ := u256_inv (hf 0 _ x0 rfl rfl) rfl rfl rfl rfl rfl
    obtain ⟨a1, rfl, b1⟩ := u256_inv (hf 1 _ x1 rfl rfl) rfl rfl rfl rfl rfl
    obtain ⟨a2, rfl, b2⟩ := u256_inv (hf 2 _ x2 rfl rfl) rfl rfl rfl rfl rfl
    obtain ⟨a3, rfl, b3⟩ := u256_inv (hf 3 _ x3 rfl rfl) rfl rfl rfl rfl rfl
    exact ret_WideRing a0 a1 a2 a3 b0 b1 b2 b3
theorem row_WideBasics (xs : List D) (hl : xs.length = f_lightclientlaw02_WideBasics.params.toList.length) (hf : ∀ (i : Nat) t x, f_lightclientlaw02_WideBasics.params.toList[i]? = some t → xs[i]? = some x → Fits cx t x) : Returns cx n_lightclientlaw02_WideBasics xs (.bool true) := by
  have hp : f_lightclientlaw02_WideBasics.params.toList = p_lightclientlaw02_WideBasics := by kernel_rfl
  rw [hp] at hl hf
  match xs, hl with
  | [x0, x1, x2, x3], _ =>
    obtain ⟨m0, rfl, g0⟩ := (hf 0 _ x0 rfl rfl).int_inv rfl rfl
    simp only [inK, loK, hiK] at g0
    obtain ⟨n0, rfl⟩ := Int.eq_ofNat_of_zero_le g0.1
    have h0 : n0 < 18446744073709551616 := by omega
    obtain ⟨l1, rfl, hl1, g1⟩ := (hf 1 _ x1 rfl rfl).ints_inv rfl rfl rfl rfl rfl
    have hb1 : ∀ c ∈ l1, Byt c := fun c hc => by
      have := g1 c hc
      simp only [inK, loK, hiK] at this
      unfold Byt; omega
    obtain ⟨a2, rfl, b2⟩ := u256_inv (hf 2 _ x2 rfl rfl) rfl rfl rfl rfl rfl
    obtain ⟨a3, rfl, b3⟩ := u256_inv (hf 3 _ x3 rfl rfl) rfl rfl rfl rfl rfl
    exact ret_WideBasics n0 l1 a2 a3 h0 hl1 hb1 b2 b3
theorem row_WideUndo (xs : List D) (hl : xs.length = f_lightclientlaw02_WideUndo.params.toList.length) (hf : ∀ (i : Nat) t x, f_lightclientlaw02_WideUndo.params.toList[i]? = some t → xs[i]? = some x → Fits cx t x) : Returns cx n_lightclientlaw02_WideUndo xs (.bool true) := by
  have hp : f_lightclientlaw02_WideUndo.params.toList = p_lightclientlaw02_WideUndo := by kernel_rfl
  rw [hp] at hl hf
  match xs, hl with
  | [x0, x1, x2, x3], _ =>
    obtain ⟨a0, rfl, b0⟩ := u256_inv (hf 0 _ x0 rfl rfl) rfl rfl rfl rfl rfl
    obtain ⟨a1, rfl, b1⟩ := u256_inv (hf 1 _ x1 rfl rfl) rfl rfl rfl rfl rfl
    obtain ⟨a2, rfl, b2⟩ := u256_inv (hf 2 _ x2 rfl rfl) rfl rfl rfl rfl rfl
    obtain ⟨m3, rfl, g3⟩ := (hf 3 _ x3 rfl rfl).int_inv rfl rfl
    simp only [inK, loK, hiK] at g3
    obtain ⟨n3, rfl⟩ := Int.eq_ofNat_of_zero_le g3.1
    have h3 : n3 < 256 := by omega
    exact ret_WideUndo a0 a1 a2 n3 b0 b1 b2 h3
theorem row_WideExponents (xs : List D) (hl : xs.length = f_lightclientlaw02_WideExponents.params.toList.length) (hf : ∀ (i : Nat) t x, f_lightclientlaw02_WideExponents.params.toList[i]? = some t → xs[i]? = some x → Fits cx t x) : Returns cx n_lightclientlaw02_WideExponents xs (.bool true) := by
  have hp : f_lightclientlaw02_WideExponents.params.toList = p_lightclientlaw02_WideExponents := by kernel_rfl
  rw [hp] at hl hf
  match xs, hl with
  | [x0, x1, x2, x3], _ =>
    obtain ⟨a0, rfl, b0⟩ := u256_inv (hf 0 _ x0 rfl rfl) rfl rfl rfl rfl rfl
    obtain ⟨a1, rfl, b1⟩ := u256_inv (hf 1 _ x1 rfl rfl) rfl rfl rfl rfl rfl
    obtain ⟨m2, rfl, g2⟩ := (hf 2 _ x2 rfl rfl).int_inv rfl rfl
    simp only [inK, loK, hiK] at g2
    obtain ⟨n2, rfl⟩ := Int.eq_ofNat_of_zero_le g2.1
    have h2 : n2 < 18446744073709551616 := by omega
    obtain ⟨m3, rfl, g3⟩ := (hf 3 _ x3 rfl rfl).int_inv rfl rfl
    simp only [inK, loK, hiK] at g3
    obtain ⟨n3, rfl⟩ := Int.eq_ofNat_of_zero_le g3.1
    have h3 : n3 < 18446744073709551616 := by omega
    exact ret_WideExponents a0 a1 n2 n3 b0 b1 h2 h3
end Go.Fw
