/-
What the statements of chapter 3 return. No conditions.
-/
import Derived.Test.YtcoooinjnkeokaaDoorSha5
import Derived.Test.YtcoooinjnkeokaaDoorShaP
namespace Go.Fw
set_option linter.unusedVariables false
set_option linter.unusedSimpArgs false
open Go.Proofs
set_option maxRecDepth 10000

theorem ret_sane03 : Returns cx n_lightclientlaw03_sane [] (.bool true) := by
  (refine of_W2 (fn := f_lightclientlaw03_sane) {} (by kernel_rfl) (by kernel_rfl) (by kernel_rfl) (by kernel_rfl) (by kernel_rfl) ?_)
  (conv => whnf)
  refine call_intro (ret_sum [] (by simp)) ⟨.nils _, trivial⟩ ?_
  rw [sum_nil]
  ((try (conv => whnf)); (repeat ((first | refine br_true yesA ?_ | refine br_false noA ?_ | refine onS_map numA ?_ | refine onS_intro (eqTC_ints rfl rfl rfl rfl numA) ?_ | refine onS_intro (mapB_u8s _) ?_ | refine And.intro flatA ?_); (try (conv => whnf)))))
  refine call_intro (ret_sum [97, 98, 99] (by simp)) (les_refl _) ?_
  rw [sum_abc]
  ((try (conv => whnf)); (repeat ((first | refine br_true yesA ?_ | refine br_false noA ?_ | refine onS_map numA ?_ | refine onS_intro (eqTC_ints rfl rfl rfl rfl numA) ?_ | refine onS_intro (mapB_u8s _) ?_ | refine And.intro flatA ?_); (try (conv => whnf)))))
  repeat (first | (first | refine br_true yesA ?_ | refine br_false noA ?_ | refine onS_map numA ?_ | refine onS_intro (eqTC_ints rfl rfl rfl rfl numA) ?_ | refine onS_intro (mapB_u8s _) ?_ | refine And.intro flatA ?_) | (refine br_true (chk_true rfl) ?_; (try (conv => whnf))))
  (first | exact D.le.refl _ | (simp only [chk_eq]; exact D.le.refl _))

theorem ret_ShaCompresses (s b : List Int) (hs : s.length = 8) (hb : b.length = 64) (hbb : ByteL b) : Returns cx n_lightclientlaw03_ShaCompresses [stD s, blockD b] (.bool true) := by
  have e := compress_same s b hs hbb
  have h1 := compress_len s b hs
  have h2 : (compressR s b).length = 8 := rfl
  (refine of_W2 (fn := f_lightclientlaw03_ShaCompresses) {} (by kernel_rfl) (by kernel_rfl) (by kernel_rfl) (by kernel_rfl) (by kernel_rfl) ?_)
  ((try (conv => whnf)); (repeat ((first | refine br_true yesA ?_ | refine br_false noA ?_ | refine onS_map numA ?_ | refine onS_intro (eqTC_ints rfl rfl rfl rfl numA) ?_ | refine onS_intro (mapB_u8s _) ?_ | refine And.intro flatA ?_); (try (conv => whnf)))))
  ((first | refine call_intro (ret_sane03) (les_refl _) ?_ | refine call_intro (ret_sane03) lesA ?_); (try (conv => whnf)))
  ((try (conv => whnf)); (repeat ((first | refine br_true yesA ?_ | refine br_false noA ?_ | refine onS_map numA ?_ | refine onS_intro (eqTC_ints rfl rfl rfl rfl numA) ?_ | refine onS_intro (mapB_u8s _) ?_ | refine And.intro flatA ?_); (try (conv => whnf)))))
  ((first | refine call_intro (ret_compress s b hs hb) (les_refl _) ?_ | refine call_intro (ret_compress s b hs hb) lesA ?_); (try (conv => whnf)))
  ((try (conv => whnf)); (repeat ((first | refine br_true yesA ?_ | refine br_false noA ?_ | refine onS_map numA ?_ | refine onS_intro (eqTC_ints rfl rfl rfl rfl numA) ?_ | refine onS_intro (mapB_u8s _) ?_ | refine And.intro flatA ?_); (try (conv => whnf)))))
  ((first | refine call_intro (ret_compress' s b hs hb) (les_refl _) ?_ | refine call_intro (ret_compress' s b hs hb) lesA ?_); (try (conv => whnf)))
  ((try (conv => whnf)); (repeat ((first | refine br_true yesA ?_ | refine br_false noA ?_ | refine onS_map numA ?_ | refine onS_intro (eqTC_ints rfl rfl rfl rfl numA) ?_ | refine onS_intro (mapB_u8s _) ?_ | refine And.intro flatA ?_); (try (conv => whnf)))))
  exact le_true (chk_true (e))

theorem ret_ShaPads (n : Nat) (hn : n < 18446744073709551616) : Returns cx n_lightclientlaw03_ShaPads [.int .u64 n] (.bool true) := by
  have e := pad_same n
  have h1 := padL_len n 8
  have h2 : padZ n = (64 - (n + 9) % 64) % 64 := rfl
  (refine of_W2 (fn := f_lightclientlaw03_ShaPads) {} (by kernel_rfl) (by kernel_rfl) (by kernel_rfl) (by kernel_rfl) (by kernel_rfl) ?_)
  ((try (conv => whnf)); (repeat ((first | refine br_true yesA ?_ | refine br_false noA ?_ | refine onS_map numA ?_ | refine onS_intro (eqTC_ints rfl rfl rfl rfl numA) ?_ | refine onS_intro (mapB_u8s _) ?_ | refine And.intro flatA ?_); (try (conv => whnf)))))
  ((first | refine call_intro (ret_pad n hn) (les_refl _) ?_ | refine call_intro (ret_pad n hn) lesA ?_); (try (conv => whnf)))
  ((try (conv => whnf)); (repeat ((first | refine br_true yesA ?_ | refine br_false noA ?_ | refine onS_map numA ?_ | refine onS_intro (eqTC_ints rfl rfl rfl rfl numA) ?_ | refine onS_intro (mapB_u8s _) ?_ | refine And.intro flatA ?_); (try (conv => whnf)))))
  ((first | refine call_intro (ret_pad' n hn) (les_refl _) ?_ | refine call_intro (ret_pad' n hn) lesA ?_); (try (conv => whnf)))
  rw [← e]
  ((try (conv => whnf)); (repeat ((first | refine br_true yesA ?_ | refine br_false noA ?_ | refine onS_map numA ?_ | refine onS_intro (eqTC_ints rfl rfl rfl rfl numA) ?_ | refine onS_intro (mapB_u8s _) ?_ | refine And.intro flatA ?_); (try (conv => whnf)))))
  ((first | refine call_intro (ret_sane03) (les_refl _) ?_ | refine call_intro (ret_sane03) lesA ?_); (try (conv => whnf)))
  have hself : bstr (padL n 8) = bstr (padL n 8) := rfl
  ((try (conv => whnf)); (repeat ((first | refine br_true yesA ?_ | refine br_false noA ?_ | refine onS_map numA ?_ | refine onS_intro (eqTC_ints rfl rfl rfl rfl numA) ?_ | refine onS_intro (mapB_u8s _) ?_ | refine And.intro flatA ?_); (try (conv => whnf)))))
  (refine le_true yesA)

theorem ret_ShaSums (b : List Int) (hb : b.length ≤ 9223372036854775807) (hbb : ByteL b) : Returns cx n_lightclientlaw03_ShaSums [bytesD b] (.bool true) := by
  have e1 := sum_same b hbb
  have e2 := sum_same (sum b) (sum_byte b)
  have h1 := sum_len b
  have h2 := sumR_len b
  have h3 := sum_len (sum b)
  have h4 := sumR_len (sumR b)
  have h5 := u8s_len b
  (refine of_W2 (fn := f_lightclientlaw03_ShaSums) {} (by kernel_rfl) (by kernel_rfl) (by kernel_rfl) (by kernel_rfl) (by kernel_rfl) ?_)
  ((try (conv => whnf)); (repeat ((first | refine br_true yesA ?_ | refine br_false noA ?_ | refine onS_map numA ?_ | refine onS_intro (eqTC_ints rfl rfl rfl rfl numA) ?_ | refine onS_intro (mapB_u8s _) ?_ | refine And.intro flatA ?_); (try (conv => whnf)))))
  ((first | refine call_intro (ret_sane03) (les_refl _) ?_ | refine call_intro (ret_sane03) lesA ?_); (try (conv => whnf)))
  by_cases h : 3000 < b.length
  · ((try (conv => whnf)); (repeat ((first | refine br_true yesA ?_ | refine br_false noA ?_ | refine onS_map numA ?_ | refine onS_intro (eqTC_ints rfl rfl rfl rfl numA) ?_ | refine onS_intro (mapB_u8s _) ?_ | refine And.intro flatA ?_); (try (conv => whnf)))))
    (first | exact D.le.refl _ | (simp only [chk_eq]; exact D.le.refl _))
  · ((try (conv => whnf)); (repeat ((first | refine br_true yesA ?_ | refine br_false noA ?_ | refine onS_map numA ?_ | refine onS_intro (eqTC_ints rfl rfl rfl rfl numA) ?_ | refine onS_intro (mapB_u8s _) ?_ | refine And.intro flatA ?_); (try (conv => whnf)))))
    ((first | refine call_intro (ret_sum b (by omega)) (les_refl _) ?_ | refine call_intro (ret_sum b (by omega)) lesA ?_); (try (conv => whnf)))
    ((try (conv => whnf)); (repeat ((first | refine br_true yesA ?_ | refine br_false noA ?_ | refine onS_map numA ?_ | refine onS_intro (eqTC_ints rfl rfl rfl rfl numA) ?_ | refine onS_intro (mapB_u8s _) ?_ | refine And.intro flatA ?_); (try (conv => whnf)))))
    ((first | refine call_intro (ret_sum' b (by omega)) (les_refl _) ?_ | refine call_intro (ret_sum' b (by omega)) lesA ?_); (try (conv => whnf)))
    ((try (conv => whnf)); (repeat ((first | refine br_true yesA ?_ | refine br_false noA ?_ | refine onS_map numA ?_ | refine onS_intro (eqTC_ints rfl rfl rfl rfl numA) ?_ | refine onS_intro (mapB_u8s _) ?_ | refine And.intro flatA ?_); (try (conv => whnf)))))
    ((first | refine call_intro (ret_double b (by omega)) (les_refl _) ?_ | refine call_intro (ret_double b (by omega)) lesA ?_); (try (conv => whnf)))
    ((try (conv => whnf)); (repeat ((first | refine br_true yesA ?_ | refine br_false noA ?_ | refine onS_map numA ?_ | refine onS_intro (eqTC_ints rfl rfl rfl rfl numA) ?_ | refine onS_intro (mapB_u8s _) ?_ | refine And.intro flatA ?_); (try (conv => whnf)))))
    ((first | refine call_intro (ret_double' b (by omega)) (les_refl _) ?_ | refine call_intro (ret_double' b (by omega)) lesA ?_); (try (conv => whnf)))
    rw [← e1, ← e2]
    ((try (conv => whnf)); (repeat ((first | refine br_true yesA ?_ | refine br_false noA ?_ | refine onS_map numA ?_ | refine onS_intro (eqTC_ints rfl rfl rfl rfl numA) ?_ | refine onS_intro (mapB_u8s _) ?_ | refine And.intro flatA ?_); (try (conv => whnf)))))
    exact le_true (chk_true (rfl))

theorem ret_ShaKeyed (tag : List UInt8) (key b : List Int) (ht : tag.length ≤ 9223372036854775807) (hk : key.length ≤ 9223372036854775807) (hb : b.length ≤ 9223372036854775807) (hkb : ByteL key) (hbb : ByteL b) :
    Returns cx n_lightclientlaw03_ShaKeyed [.str tag, bytesD key, bytesD b] (.bool true) := by
  have e1 : sum (sum (strB tag) ++ sum (strB tag) ++ b) = sumR (sumR (strB tag) ++ sumR (strB tag) ++ b) := by
    rw [← sum_same (strB tag) (strB_byte tag), sum_same _ (((sum_byte _).app (sum_byte _)).app hbb)]
  have e2 : hmac (keyOf key) b = hmacR (keyOfR key) b := by
    have : keyOf key = keyOfR key := by rw [keyOf_eq, keyOfR_eq, sum_same key hkb]
    rw [this, hmac_same _ _ hbb]
  have h1 := sum_len (sum (strB tag) ++ sum (strB tag) ++ b)
  have h2 := sumR_len (sumR (strB tag) ++ sumR (strB tag) ++ b)
  have h3 : (hmac (keyOf key) b).length = 32 := sum_len _
  have h4 : (hmacR (keyOfR key) b).length = 32 := sumR_len _
  have h5 := u8s_len b
  have h6 := u8s_len key
  (refine of_W2 (fn := f_lightclientlaw03_ShaKeyed) {} (by kernel_rfl) (by kernel_rfl) (by kernel_rfl) (by kernel_rfl) (by kernel_rfl) ?_)
  ((try (conv => whnf)); (repeat ((first | refine br_true yesA ?_ | refine br_false noA ?_ | refine onS_map numA ?_ | refine onS_intro (eqTC_ints rfl rfl rfl rfl numA) ?_ | refine onS_intro (mapB_u8s _) ?_ | refine And.intro flatA ?_); (try (conv => whnf)))))
  ((first | refine call_intro (ret_sane03) (les_refl _) ?_ | refine call_intro (ret_sane03) lesA ?_); (try (conv => whnf)))
  by_cases g1 : 500 < tag.length
  · ((try (conv => whnf)); (repeat ((first | refine br_true yesA ?_ | refine br_false noA ?_ | refine onS_map numA ?_ | refine onS_intro (eqTC_ints rfl rfl rfl rfl numA) ?_ | refine onS_intro (mapB_u8s _) ?_ | refine And.intro flatA ?_); (try (conv => whnf)))))
    (first | exact D.le.refl _ | (simp only [chk_eq]; exact D.le.refl _))
  by_cases g2 : 500 < key.length
  · ((try (conv => whnf)); (repeat ((first | refine br_true yesA ?_ | refine br_false noA ?_ | refine onS_map numA ?_ | refine onS_intro (eqTC_ints rfl rfl rfl rfl numA) ?_ | refine onS_intro (mapB_u8s _) ?_ | refine And.intro flatA ?_); (try (conv => whnf)))))
    (first | exact D.le.refl _ | (simp only [chk_eq]; exact D.le.refl _))
  by_cases g3 : 2000 < b.length
  · ((try (conv => whnf)); (repeat ((first | refine br_true yesA ?_ | refine br_false noA ?_ | refine onS_map numA ?_ | refine onS_intro (eqTC_ints rfl rfl rfl rfl numA) ?_ | refine onS_intro (mapB_u8s _) ?_ | refine And.intro flatA ?_); (try (conv => whnf)))))
    (first | exact D.le.refl _ | (simp only [chk_eq]; exact D.le.refl _))
  ((try (conv => whnf)); (repeat ((first | refine br_true yesA ?_ | refine br_false noA ?_ | refine onS_map numA ?_ | refine onS_intro (eqTC_ints rfl rfl rfl rfl numA) ?_ | refine onS_intro (mapB_u8s _) ?_ | refine And.intro flatA ?_); (try (conv => whnf)))))
  ((first | refine call_intro (ret_tagged tag b (by omega) (by omega)) (les_refl _) ?_ | refine call_intro (ret_tagged tag b (by omega) (by omega)) lesA ?_); (try (conv => whnf)))
  ((try (conv => whnf)); (repeat ((first | refine br_true yesA ?_ | refine br_false noA ?_ | refine onS_map numA ?_ | refine onS_intro (eqTC_ints rfl rfl rfl rfl numA) ?_ | refine onS_intro (mapB_u8s _) ?_ | refine And.intro flatA ?_); (try (conv => whnf)))))
  ((first | refine call_intro (ret_tagged' tag b (by omega) (by omega)) (les_refl _) ?_ | refine call_intro (ret_tagged' tag b (by omega) (by omega)) lesA ?_); (try (conv => whnf)))
  ((try (conv => whnf)); (repeat ((first | refine br_true yesA ?_ | refine br_false noA ?_ | refine onS_map numA ?_ | refine onS_intro (eqTC_ints rfl rfl rfl rfl numA) ?_ | refine onS_intro (mapB_u8s _) ?_ | refine And.intro flatA ?_); (try (conv => whnf)))))
  ((first | refine call_intro (ret_hmac key b (by omega) (by omega)) (les_refl _) ?_ | refine call_intro (ret_hmac key b (by omega) (by omega)) lesA ?_); (try (conv => whnf)))
  ((try (conv => whnf)); (repeat ((first | refine br_true yesA ?_ | refine br_false noA ?_ | refine onS_map numA ?_ | refine onS_intro (eqTC_ints rfl rfl rfl rfl numA) ?_ | refine onS_intro (mapB_u8s _) ?_ | refine And.intro flatA ?_); (try (conv => whnf)))))
  ((first | refine call_intro (ret_hmac' key b (by omega) (by omega)) (les_refl _) ?_ | refine call_intro (ret_hmac' key b (by omega) (by omega)) lesA ?_); (try (conv => whnf)))
  ((try (conv => whnf)); (repeat ((first | refine br_true yesA ?_ | refine br_false noA ?_ | refine onS_map numA ?_ | refine onS_intro (eqTC_ints rfl rfl rfl rfl numA) ?_ | refine onS_intro (mapB_u8s _) ?_ | refine And.intro flatA ?_); (try (conv => whnf)))))
  exact le_true (chk_true (e2))

theorem ret_ShaDoubles (tag : List UInt8) (b : List Int) (ht : tag.length ≤ 9223372036854775807) (hb : b.length ≤ 9223372036854775807) :
    Returns cx n_lightclientlaw03_ShaDoubles [.str tag, bytesD b] (.bool true) := by
  have h1 := sum_len (sum (strB tag) ++ sum (strB tag) ++ b)
  have h2 := sum_len b
  have h3 := sum_len (strB tag)
  have h4 := sum_len (sum b)
  have h5 := u8s_len b
  (refine of_W2 (fn := f_lightclientlaw03_ShaDoubles) {} (by kernel_rfl) (by kernel_rfl) (by kernel_rfl) (by kernel_rfl) (by kernel_rfl) ?_)
  ((try (conv => whnf)); (repeat ((first | refine br_true yesA ?_ | refine br_false noA ?_ | refine onS_map numA ?_ | refine onS_intro (eqTC_ints rfl rfl rfl rfl numA) ?_ | refine onS_intro (mapB_u8s _) ?_ | refine And.intro flatA ?_); (try (conv => whnf)))))
  ((first | refine call_intro (ret_sane03) (les_refl _) ?_ | refine call_intro (ret_sane03) lesA ?_); (try (conv => whnf)))
  by_cases g1 : 500 < tag.length
  · ((try (conv => whnf)); (repeat ((first | refine br_true yesA ?_ | refine br_false noA ?_ | refine onS_map numA ?_ | refine onS_intro (eqTC_ints rfl rfl rfl rfl numA) ?_ | refine onS_intro (mapB_u8s _) ?_ | refine And.intro flatA ?_); (try (conv => whnf)))))
    (first | exact D.le.refl _ | (simp only [chk_eq]; exact D.le.refl _))
  by_cases g3 : 2000 < b.length
  · ((try (conv => whnf)); (repeat ((first | refine br_true yesA ?_ | refine br_false noA ?_ | refine onS_map numA ?_ | refine onS_intro (eqTC_ints rfl rfl rfl rfl numA) ?_ | refine onS_intro (mapB_u8s _) ?_ | refine And.intro flatA ?_); (try (conv => whnf)))))
    (first | exact D.le.refl _ | (simp only [chk_eq]; exact D.le.refl _))
  ((try (conv => whnf)); (repeat ((first | refine br_true yesA ?_ | refine br_false noA ?_ | refine onS_map numA ?_ | refine onS_intro (eqTC_ints rfl rfl rfl rfl numA) ?_ | refine onS_intro (mapB_u8s _) ?_ | refine And.intro flatA ?_); (try (conv => whnf)))))
  ((first | refine call_intro (ret_sum b (by omega)) (les_refl _) ?_ | refine call_intro (ret_sum b (by omega)) lesA ?_); (try (conv => whnf)))
  ((try (conv => whnf)); (repeat ((first | refine br_true yesA ?_ | refine br_false noA ?_ | refine onS_map numA ?_ | refine onS_intro (eqTC_ints rfl rfl rfl rfl numA) ?_ | refine onS_intro (mapB_u8s _) ?_ | refine And.intro flatA ?_); (try (conv => whnf)))))
  refine call_intro (ret_sum (strB tag) (by rw [strB_len]; omega)) (les_of_eq (by rw [strB_eq]; rfl)) ?_
  ((try (conv => whnf)); (repeat ((first | refine br_true yesA ?_ | refine br_false noA ?_ | refine onS_map numA ?_ | refine onS_intro (eqTC_ints rfl rfl rfl rfl numA) ?_ | refine onS_intro (mapB_u8s _) ?_ | refine And.intro flatA ?_); (try (conv => whnf)))))
  ((first | refine call_intro (ret_double b (by omega)) (les_refl _) ?_ | refine call_intro (ret_double b (by omega)) lesA ?_); (try (conv => whnf)))
  ((try (conv => whnf)); (repeat ((first | refine br_true yesA ?_ | refine br_false noA ?_ | refine onS_map numA ?_ | refine onS_intro (eqTC_ints rfl rfl rfl rfl numA) ?_ | refine onS_intro (mapB_u8s _) ?_ | refine And.intro flatA ?_); (try (conv => whnf)))))
  ((first | refine call_intro (ret_sum (sum b) (by omega)) (les_refl _) ?_ | refine call_intro (ret_sum (sum b) (by omega)) lesA ?_); (try (conv => whnf)))
  ((try (conv => whnf)); (repeat ((first | refine br_true yesA ?_ | refine br_false noA ?_ | refine onS_map numA ?_ | refine onS_intro (eqTC_ints rfl rfl rfl rfl numA) ?_ | refine onS_intro (mapB_u8s _) ?_ | refine And.intro flatA ?_); (try (conv => whnf)))))
  ((first | refine call_intro (ret_tagged tag b (by omega) (by omega)) (les_refl _) ?_ | refine call_intro (ret_tagged tag b (by omega) (by omega)) lesA ?_); (try (conv => whnf)))
  ((try (conv => whnf)); (repeat ((first | refine br_true yesA ?_ | refine br_false noA ?_ | refine onS_map numA ?_ | refine onS_intro (eqTC_ints rfl rfl rfl rfl numA) ?_ | refine onS_intro (mapB_u8s _) ?_ | refine And.intro flatA ?_); (try (conv => whnf)))))
  refine call_intro (ret_sum (sum (strB tag) ++ sum (strB tag) ++ b) (by simp; omega)) (les_of_eq (by simp [cutL, u8s, bytesD])) ?_
  ((try (conv => whnf)); (repeat ((first | refine br_true yesA ?_ | refine br_false noA ?_ | refine onS_map numA ?_ | refine onS_intro (eqTC_ints rfl rfl rfl rfl numA) ?_ | refine onS_intro (mapB_u8s _) ?_ | refine And.intro flatA ?_); (try (conv => whnf)))))
  exact le_true (chk_true (rfl))
end Go.Fw
