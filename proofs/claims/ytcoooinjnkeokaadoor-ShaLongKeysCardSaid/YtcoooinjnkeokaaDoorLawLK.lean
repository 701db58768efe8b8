/-
ShaLongKeys. No conditions.
-/
import Derived.Test.YtcoooinjnkeokaaDoorLaw03
namespace Go.Fw
set_option linter.unusedVariables false
set_option linter.unusedSimpArgs false
open Go.Proofs
set_option maxRecDepth 10000
theorem keyPad_pad (key : List Int) (h : key.length ≤ 64) : keyPad (key ++ List.replicate (64 - key.length) 0) = keyPad key := by
  unfold keyPad
  have : (key ++ List.replicate (64 - key.length) (0 : Int)).length = 64 := by simp; omega
  rw [this]
  simp
theorem ret_ShaLongKeys (key b : List Int) : Returns cx n_lightclientlaw03_ShaLongKeys [bytesD key, bytesD b] (.bool true) := by
  have hs := sum_len key
  (refine of_W2 (fn := f_lightclientlaw03_ShaLongKeys) {} (by kernel_rfl) (by kernel_rfl) (by kernel_rfl) (by kernel_rfl) (by kernel_rfl) ?_)
  ((try (conv => whnf)); (repeat ((first | refine br_true yesA ?_ | refine br_false noA ?_ | refine onS_map numA ?_ | refine onS_intro (eqTC_ints rfl rfl rfl rfl numA) ?_ | refine onS_intro (mapB_u8s _) ?_ | refine And.intro flatA ?_); (try (conv => whnf)))))
  ((first | refine call_intro (ret_sane03) (les_refl _) ?_ | refine call_intro (ret_sane03) lesA ?_); (try (conv => whnf)))
  by_cases h1 : 500 < key.length
  · ((try (conv => whnf)); (repeat ((first | refine br_true yesA ?_ | refine br_false noA ?_ | refine onS_map numA ?_ | refine onS_intro (eqTC_ints rfl rfl rfl rfl numA) ?_ | refine onS_intro (mapB_u8s _) ?_ | refine And.intro flatA ?_); (try (conv => whnf)))))
    (first | exact D.le.refl _ | (simp only [chk_eq]; exact D.le.refl _))
  · by_cases h2 : 1000 < b.length
    · ((try (conv => whnf)); (repeat ((first | refine br_true yesA ?_ | refine br_false noA ?_ | refine onS_map numA ?_ | refine onS_intro (eqTC_ints rfl rfl rfl rfl numA) ?_ | refine onS_intro (mapB_u8s _) ?_ | refine And.intro flatA ?_); (try (conv => whnf)))))
      (first | exact D.le.refl _ | (simp only [chk_eq]; exact D.le.refl _))
    · by_cases h3 : 64 < key.length
      · ((try (conv => whnf)); (repeat ((first | refine br_true yesA ?_ | refine br_false noA ?_ | refine onS_map numA ?_ | refine onS_intro (eqTC_ints rfl rfl rfl rfl numA) ?_ | refine onS_intro (mapB_u8s _) ?_ | refine And.intro flatA ?_); (try (conv => whnf)))))
        ((first | refine call_intro (ret_sum key (by omega)) (les_refl _) ?_ | refine call_intro (ret_sum key (by omega)) lesA ?_); (try (conv => whnf)))
        ((try (conv => whnf)); (repeat ((first | refine br_true yesA ?_ | refine br_false noA ?_ | refine onS_map numA ?_ | refine onS_intro (eqTC_ints rfl rfl rfl rfl numA) ?_ | refine onS_intro (mapB_u8s _) ?_ | refine And.intro flatA ?_); (try (conv => whnf)))))
        ((first | refine call_intro (ret_hmac key b (by omega) (by omega)) (les_refl _) ?_ | refine call_intro (ret_hmac key b (by omega) (by omega)) lesA ?_); (try (conv => whnf)))
        ((try (conv => whnf)); (repeat ((first | refine br_true yesA ?_ | refine br_false noA ?_ | refine onS_map numA ?_ | refine onS_intro (eqTC_ints rfl rfl rfl rfl numA) ?_ | refine onS_intro (mapB_u8s _) ?_ | refine And.intro flatA ?_); (try (conv => whnf)))))
        ((first | refine call_intro (ret_hmac (sum key) b (by omega) (by omega)) (les_refl _) ?_ | refine call_intro (ret_hmac (sum key) b (by omega) (by omega)) lesA ?_); (try (conv => whnf)))
        have e1 : keyOf key = sum key := if_pos h3
        have e2 : keyOf (sum key) = sum key := if_neg (by omega)
        rw [e1, e2]
        ((try (conv => whnf)); (repeat ((first | refine br_true yesA ?_ | refine br_false noA ?_ | refine onS_map numA ?_ | refine onS_intro (eqTC_ints rfl rfl rfl rfl numA) ?_ | refine onS_intro (mapB_u8s _) ?_ | refine And.intro flatA ?_); (try (conv => whnf)))))
        exact le_true (chk_true (rfl))
      · have e1 : keyOf key = key := if_neg h3
        have e2 : keyOf (key ++ List.replicate (64 - key.length) 0) = key ++ List.replicate (64 - key.length) 0 := if_neg (by simp; omega)
        have e3 : hmac (key ++ List.replicate (64 - key.length) 0) b = hmac key b := by unfold hmac; rw [keyPad_pad key (by omega)]
        ((try (conv => whnf)); (repeat ((first | refine br_true yesA ?_ | refine br_false noA ?_ | refine onS_map numA ?_ | refine onS_intro (eqTC_ints rfl rfl rfl rfl numA) ?_ | refine onS_intro (mapB_u8s _) ?_ | refine And.intro flatA ?_); (try (conv => whnf)))))
        ((first | refine call_intro (ret_hmac key b (by omega) (by omega)) (les_refl _) ?_ | refine call_intro (ret_hmac key b (by omega) (by omega)) lesA ?_); (try (conv => whnf)))
        ((try (conv => whnf)); (repeat ((first | refine br_true yesA ?_ | refine br_false noA ?_ | refine onS_map numA ?_ | refine onS_intro (eqTC_ints rfl rfl rfl rfl numA) ?_ | refine onS_intro (mapB_u8s _) ?_ | refine And.intro flatA ?_); (try (conv => whnf)))))
        have hz : (64 - ((u8s key).length : Int)).toNat = 64 - key.length := by rw [u8s_len]; omega
        refine call_intro (ret_hmac (key ++ List.replicate (64 - key.length) 0) b (by simp; omega) (by omega)) (les_of_eq ?_) ?_
        · rw [hz, List.drop_zero]
          simp [bytesD, u8s]
        rw [e1, e2, e3]
        ((try (conv => whnf)); (repeat ((first | refine br_true yesA ?_ | refine br_false noA ?_ | refine onS_map numA ?_ | refine onS_intro (eqTC_ints rfl rfl rfl rfl numA) ?_ | refine onS_intro (mapB_u8s _) ?_ | refine And.intro flatA ?_); (try (conv => whnf)))))
        exact le_true (chk_true (rfl))
end Go.Fw
