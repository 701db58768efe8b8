/-
Contracts: double, tagged and keyed digests. No conditions.
-/
import Derived.Test.YtcoooinjnkeokaaDoorSha4
namespace Go.Fw
set_option linter.unusedVariables false
set_option linter.unusedSimpArgs false
open Go.Proofs
set_option maxRecDepth 10000

theorem ret_double (b : List Int) (hb : b.length ≤ 1000000) : Returns cx n_sha_Double [bytesD b] (hashD (sum (sum b))) := by
  (refine of_W2 (fn := f_sha_Double) {} (by kernel_rfl) (by kernel_rfl) (by kernel_rfl) (by kernel_rfl) (by kernel_rfl) ?_)
  ((first | refine call_intro (ret_sum b hb) (les_refl _) ?_ | refine call_intro (ret_sum b hb) lesA ?_); (try (conv => whnf)))
  ((try (conv => whnf)); (repeat ((first | refine br_true yesA ?_ | refine br_false noA ?_ | refine onS_map numA ?_ | refine onS_intro (eqTC_ints rfl rfl rfl rfl numA) ?_ | refine onS_intro (mapB_u8s _) ?_ | refine And.intro flatA ?_); (try (conv => whnf)))))
  ((first | refine call_intro (ret_sum (sum b) (by rw [sum_len]; omega)) (les_refl _) ?_ | refine call_intro (ret_sum (sum b) (by rw [sum_len]; omega)) lesA ?_); (try (conv => whnf)))
  ((try (conv => whnf)); (repeat ((first | refine br_true yesA ?_ | refine br_false noA ?_ | refine onS_map numA ?_ | refine onS_intro (eqTC_ints rfl rfl rfl rfl numA) ?_ | refine onS_intro (mapB_u8s _) ?_ | refine And.intro flatA ?_); (try (conv => whnf)))))
  (first | exact D.le.refl _ | (simp only [chk_eq]; exact D.le.refl _))
theorem ret_double' (b : List Int) (hb : b.length ≤ 1000000) : Returns cx n_lightclientref03_Double [bytesD b] (hashD (sumR (sumR b))) := by
  (refine of_W2 (fn := f_lightclientref03_Double) {} (by kernel_rfl) (by kernel_rfl) (by kernel_rfl) (by kernel_rfl) (by kernel_rfl) ?_)
  ((first | refine call_intro (ret_sum' b hb) (les_refl _) ?_ | refine call_intro (ret_sum' b hb) lesA ?_); (try (conv => whnf)))
  ((try (conv => whnf)); (repeat ((first | refine br_true yesA ?_ | refine br_false noA ?_ | refine onS_map numA ?_ | refine onS_intro (eqTC_ints rfl rfl rfl rfl numA) ?_ | refine onS_intro (mapB_u8s _) ?_ | refine And.intro flatA ?_); (try (conv => whnf)))))
  ((first | refine call_intro (ret_sum' (sumR b) (by rw [sumR_len]; omega)) (les_refl _) ?_ | refine call_intro (ret_sum' (sumR b) (by rw [sumR_len]; omega)) lesA ?_); (try (conv => whnf)))
  ((try (conv => whnf)); (repeat ((first | refine br_true yesA ?_ | refine br_false noA ?_ | refine onS_map numA ?_ | refine onS_intro (eqTC_ints rfl rfl rfl rfl numA) ?_ | refine onS_intro (mapB_u8s _) ?_ | refine And.intro flatA ?_); (try (conv => whnf)))))
  (first | exact D.le.refl _ | (simp only [chk_eq]; exact D.le.refl _))
theorem ret_tagged (tag : List UInt8) (b : List Int) (ht : tag.length ≤ 1000000) (hb : b.length ≤ 900000) : Returns cx n_sha_Tagged [.str tag, bytesD b] (hashD (sum (sum (strB tag) ++ sum (strB tag) ++ b))) := by
  have hl := sum_len (strB tag)
  (refine of_W2 (fn := f_sha_Tagged) {} (by kernel_rfl) (by kernel_rfl) (by kernel_rfl) (by kernel_rfl) (by kernel_rfl) ?_)
  (conv => whnf)
  refine call_intro (ret_sum (strB tag) (by rw [strB_len]; exact ht)) (les_of_eq (by rw [strB_eq]; rfl)) ?_
  ((try (conv => whnf)); (repeat ((first | refine br_true yesA ?_ | refine br_false noA ?_ | refine onS_map numA ?_ | refine onS_intro (eqTC_ints rfl rfl rfl rfl numA) ?_ | refine onS_intro (mapB_u8s _) ?_ | refine And.intro flatA ?_); (try (conv => whnf)))))
  refine call_intro (ret_sum (sum (strB tag) ++ sum (strB tag) ++ b) (by simp; omega)) (les_of_eq (by simp [cutL, u8s, bytesD])) ?_
  ((try (conv => whnf)); (repeat ((first | refine br_true yesA ?_ | refine br_false noA ?_ | refine onS_map numA ?_ | refine onS_intro (eqTC_ints rfl rfl rfl rfl numA) ?_ | refine onS_intro (mapB_u8s _) ?_ | refine And.intro flatA ?_); (try (conv => whnf)))))
  (first | exact D.le.refl _ | (simp only [chk_eq]; exact D.le.refl _))
theorem ret_tagged' (tag : List UInt8) (b : List Int) (ht : tag.length ≤ 1000000) (hb : b.length ≤ 900000) : Returns cx n_lightclientref03_Tagged [.str tag, bytesD b] (hashD (sumR (sumR (strB tag) ++ sumR (strB tag) ++ b))) := by
  have hl := sumR_len (strB tag)
  (refine of_W2 (fn := f_lightclientref03_Tagged) {} (by kernel_rfl) (by kernel_rfl) (by kernel_rfl) (by kernel_rfl) (by kernel_rfl) ?_)
  (conv => whnf)
  refine call_intro (ret_sum' (strB tag) (by rw [strB_len]; exact ht)) (les_of_eq (by rw [strB_eq]; rfl)) ?_
  ((try (conv => whnf)); (repeat ((first | refine br_true yesA ?_ | refine br_false noA ?_ | refine onS_map numA ?_ | refine onS_intro (eqTC_ints rfl rfl rfl rfl numA) ?_ | refine onS_intro (mapB_u8s _) ?_ | refine And.intro flatA ?_); (try (conv => whnf)))))
  refine call_intro (ret_sum' (sumR (strB tag) ++ sumR (strB tag) ++ b) (by simp; omega)) (les_of_eq (by simp [cutL, u8s, bytesD])) ?_
  ((try (conv => whnf)); (repeat ((first | refine br_true yesA ?_ | refine br_false noA ?_ | refine onS_map numA ?_ | refine onS_intro (eqTC_ints rfl rfl rfl rfl numA) ?_ | refine onS_intro (mapB_u8s _) ?_ | refine And.intro flatA ?_); (try (conv => whnf)))))
  (first | exact D.le.refl _ | (simp only [chk_eq]; exact D.le.refl _))

/-- What a key stands for. -/
noncomputable def keyOf (key : List Int) : List Int := if 64 < key.length then sum key else key
noncomputable def keyOfR (key : List Int) : List Int := if 64 < key.length then sumR key else key
theorem keyOf_eq (key : List Int) : keyOf key = if 64 < key.length then sum key else key := rfl
theorem keyOfR_eq (key : List Int) : keyOfR key = if 64 < key.length then sumR key else key := rfl
theorem keyOf_len (key : List Int) : (keyOf key).length ≤ 64 := by
  unfold keyOf; split
  · rw [sum_len]; omega
  · omega
theorem keyOfR_len (key : List Int) : (keyOfR key).length ≤ 64 := by
  unfold keyOfR; split
  · rw [sumR_len]; omega
  · omega
theorem copy_pad (l : List Int) (h : l.length ≤ 64) : List.take 0 (List.replicate 64 (D.int .u8 0)) ++ (copyL (List.take (64 - 0) (List.drop 0 (List.replicate 64 (D.int .u8 0)))) (u8s l) ++ List.drop (0 + (64 - 0)) (List.replicate 64 (D.int .u8 0))) = u8s (keyPad l) := by
  have h2 := u8s_len l
  rw [show (64 : Nat) - 0 = 64 from rfl, List.drop_zero, List.take_zero, List.nil_append, List.take_of_length_le (by simp), show (0 : Nat) + 64 = 64 from rfl, List.drop_eq_nil_of_le (by simp : (List.replicate 64 (D.int .u8 0)).length ≤ 64), List.append_nil]
  unfold copyL keyPad
  rw [List.length_replicate, List.take_of_length_le (by omega), h2, List.drop_replicate]
  simp only [u8s, List.map_append, List.map_replicate]

attribute [local irreducible] keyPad xorN xorZ keyOf keyOfR copyL

theorem ret_hmac (key b : List Int) (hk : key.length ≤ 1000000) (hb : b.length ≤ 900000) : Returns cx n_sha_Hmac [bytesD key, bytesD b] (hashD (hmac (keyOf key) b)) := by
  have hl := u8s_len key
  have hkl := keyPad_len _ (keyOf_len key)
  (refine of_W2 (fn := f_sha_Hmac) {} (by kernel_rfl) (by kernel_rfl) (by kernel_rfl) (by kernel_rfl) (by kernel_rfl) ?_)
  by_cases hlong : 64 < key.length
  all_goals
    have hko := keyOf_eq key
    first | rw [if_pos hlong] at hko | rw [if_neg hlong] at hko
    ((try (conv => whnf)); (repeat ((first | refine br_true yesA ?_ | refine br_false noA ?_ | refine onS_map numA ?_ | refine onS_intro (eqTC_ints rfl rfl rfl rfl numA) ?_ | refine onS_intro (mapB_u8s _) ?_ | refine And.intro flatA ?_); (try (conv => whnf)))))
    try (((first | refine call_intro (ret_sum key hk) (les_refl _) ?_ | refine call_intro (ret_sum key hk) lesA ?_); (try (conv => whnf))); ((try (conv => whnf)); (repeat ((first | refine br_true yesA ?_ | refine br_false noA ?_ | refine onS_map numA ?_ | refine onS_intro (eqTC_ints rfl rfl rfl rfl numA) ?_ | refine onS_intro (mapB_u8s _) ?_ | refine And.intro flatA ?_); (try (conv => whnf))))))
  all_goals
    (refine LoopW2_rule (fun i : Nat => [(1, .d (bytesD b)), (4, .ptr 0 0 [] (.arr 32 .one)), (5, .ptr 1 0 [] (.arr 64 .one)), (6, .ptr 2 0 [] (.arr 64 .one)), (20, .d (blockD (keyPad (keyOf key)))), (21, .d (.int .i64 (i : Nat)))]) (fun i => [some (.fix (.d (hashD (List.replicate 32 0)))), some (.fix (.d (blockD (xorN 54 (keyPad (keyOf key)) i)))), some (.fix (.d (blockD (xorZ 92 (keyPad (keyOf key)) i))))]) (fun i => i ≤ 64) (fun i => 64 - i) _ rfl 0 (Wk.go ?_ rfl ?_ rfl) numA ?_; all_goals (try (repeat' (first | exact trivial | rfl | exact .inl rfl | exact .inr rfl | refine ⟨?_, ?_⟩))))
    · exact congrArg (fun x => V.d (.arr 64 .one x)) (by rw [hko]; exact copy_pad _ (by first | (rw [sum_len]; omega) | omega))
    · refine .inr (congrArg (fun x => some (Blk.fix (V.d (.arr 64 .one x)))) ?_)
      rw [xorN_zero, hko]
      exact copy_pad _ (by first | (rw [sum_len]; omega) | omega)
    · refine .inr (congrArg (fun x => some (Blk.fix (V.d (.arr 64 .one x)))) ?_)
      rw [xorZ_zero, hkl]
      simp only [u8s, List.map_replicate]
    clear hko hlong
    generalize hkp : keyPad (keyOf key) = kp at *
    intro i K hi hK
    have hxn := xorN_len 54 kp i
    have hxz := xorZ_len 92 kp i (by omega)
    by_cases h : i < 64
    · ((try (conv => whnf)); (repeat ((first | refine br_true yesA ?_ | refine br_false noA ?_ | refine onS_map numA ?_ | refine onS_intro (eqTC_ints rfl rfl rfl rfl numA) ?_ | refine onS_intro (mapB_u8s _) ?_ | refine And.intro flatA ?_); (try (conv => whnf)))))
      (refine hK (i + 1) _ _ rfl (Wk.go ?_ rfl ?_ rfl) numA numA; all_goals (try (repeat' (first | exact trivial | rfl | exact .inl rfl | exact .inr rfl | refine ⟨?_, ?_⟩))))
      · refine .inr (congrArg (fun x => some (Blk.fix (.d x))) (set_u8s (by omega) ?_ |>.trans (congrArg _ (congrArg _ (xorN_set 54 kp i (by omega))))))
        rfl
      · refine .inr (congrArg (fun x => some (Blk.fix (.d x))) (set_u8s (by omega) ?_ |>.trans (congrArg _ (congrArg _ (xorZ_set 92 kp i (by omega))))))
        rfl
    · have h : i = 64 := by omega
      subst h
      unfold hmac
      rw [hkp, ← xorN_all 54 kp 64 hkl, ← xorZ_all 92 kp 64 hkl]
      generalize xorN 54 kp 64 = x at *
      generalize xorZ 92 kp 64 = y at *
      ((try (conv => whnf)); (repeat ((first | refine br_true yesA ?_ | refine br_false noA ?_ | refine onS_map numA ?_ | refine onS_intro (eqTC_ints rfl rfl rfl rfl numA) ?_ | refine onS_intro (mapB_u8s _) ?_ | refine And.intro flatA ?_); (try (conv => whnf)))))
      refine call_intro (ret_sum (x ++ b) (by simp; omega)) (les_of_eq (by simp [cutL, u8s, bytesD])) ?_
      have hsl := sum_len (x ++ b)
      ((try (conv => whnf)); (repeat ((first | refine br_true yesA ?_ | refine br_false noA ?_ | refine onS_map numA ?_ | refine onS_intro (eqTC_ints rfl rfl rfl rfl numA) ?_ | refine onS_intro (mapB_u8s _) ?_ | refine And.intro flatA ?_); (try (conv => whnf)))))
      refine call_intro (ret_sum (y ++ sum (x ++ b)) (by simp; omega)) (les_of_eq (by simp [cutL, u8s, bytesD])) ?_
      ((try (conv => whnf)); (repeat ((first | refine br_true yesA ?_ | refine br_false noA ?_ | refine onS_map numA ?_ | refine onS_intro (eqTC_ints rfl rfl rfl rfl numA) ?_ | refine onS_intro (mapB_u8s _) ?_ | refine And.intro flatA ?_); (try (conv => whnf)))))
      (first | exact D.le.refl _ | (simp only [chk_eq]; exact D.le.refl _))

/-- The reference's bytes k, and what they become. -/
theorem keyPad_get (l : List Int) (i : Nat) (h : i < 64) (hl : l.length ≤ 64) : (keyPad l).getD i 0 = if i < l.length then l.getD i 0 else 0 := by
  unfold keyPad
  split
  · rename_i hi
    rw [getD_get _ _ _ (by simp; omega), List.getElem_append_left hi, getD_get _ _ _ hi]
  · rename_i hi
    rw [getD_get _ _ _ (by simp; omega), List.getElem_append_right (by omega), List.getElem_replicate]

theorem ret_hmac' (key b : List Int) (hk : key.length ≤ 1000000) (hb : b.length ≤ 900000) : Returns cx n_lightclientref03_Hmac [bytesD key, bytesD b] (hashD (hmacR (keyOfR key) b)) := by
  have hl := u8s_len key
  have hkl := keyPad_len _ (keyOfR_len key)
  have hko := keyOfR_eq key
  have hkol := keyOfR_len key
  have hk2 := u8s_len (keyOfR key)
  (refine of_W2 (fn := f_lightclientref03_Hmac) { cuts := [4] } (by kernel_rfl) (by kernel_rfl) (by kernel_rfl) (by kernel_rfl) (by kernel_rfl) ?_)
  by_cases hlong : 64 < key.length
  all_goals
    first | rw [if_pos hlong] at hko | rw [if_neg hlong] at hko
    ((try (conv => whnf)); (repeat ((first | refine br_true yesA ?_ | refine br_false noA ?_ | refine onS_map numA ?_ | refine onS_intro (eqTC_ints rfl rfl rfl rfl numA) ?_ | refine onS_intro (mapB_u8s _) ?_ | refine And.intro flatA ?_); (try (conv => whnf)))))
    try (((first | refine call_intro (ret_sum' key hk) (les_refl _) ?_ | refine call_intro (ret_sum' key hk) lesA ?_); (try (conv => whnf))); ((try (conv => whnf)); (repeat ((first | refine br_true yesA ?_ | refine br_false noA ?_ | refine onS_map numA ?_ | refine onS_intro (eqTC_ints rfl rfl rfl rfl numA) ?_ | refine onS_intro (mapB_u8s _) ?_ | refine And.intro flatA ?_); (try (conv => whnf))))))
    first
      | refine cut_intro _ [(0, .d (bytesD (keyOfR key))), (1, .d (bytesD b)), (4, .ptr 0 0 [] (.arr 32 .one))] [some (.fix (.d (hashD (List.replicate 32 0))))] rfl (.trans _ _ _ _ _ _ (Wk.freezeT 0 1 rfl rfl) (Wk.go ⟨?_, rfl, rfl, trivial⟩ rfl ⟨.inr rfl, trivial⟩ rfl)) ?_
      | refine cut_intro _ [(0, .d (bytesD (keyOfR key))), (1, .d (bytesD b)), (4, .ptr 0 0 [] (.arr 32 .one))] [some (.fix (.d (hashD (List.replicate 32 0))))] rfl (Wk.go ⟨?_, rfl, rfl, trivial⟩ rfl ⟨.inr rfl, trivial⟩ rfl) ?_
    · rw [hko]; rfl
    clear hko hlong
    have hkg := keyPad_get (keyOfR key)
    unfold hmacR
    generalize keyPad (keyOfR key) = kp at *
    generalize keyOfR key = ko at *
    ((try (conv => whnf)); (repeat ((first | refine br_true yesA ?_ | refine br_false noA ?_ | refine onS_map numA ?_ | refine onS_intro (eqTC_ints rfl rfl rfl rfl numA) ?_ | refine onS_intro (mapB_u8s _) ?_ | refine And.intro flatA ?_); (try (conv => whnf)))))
    (refine LoopW2_rule (fun i : Nat => [(0, .d (bytesD ko)), (1, .d (bytesD b)), (4, .ptr 0 0 [] (.arr 32 .one)), (6, .sl 1 0 0), (7, .sl 2 0 0), (20, .d (.int .i64 ((64 : Nat) : Int))), (21, .d (.int .i64 (i : Nat)))]) (fun i => [some (.fix (.d (hashD (List.replicate 32 0)))), some (.grow 0 .one (u8s (xorZ 54 kp i))), some (.grow 0 .one (u8s (xorZ 92 kp i)))]) (fun i => i ≤ 64) (fun i => 64 - i) _ rfl 0 (Wk.go ?_ rfl ?_ rfl) numA ?_; all_goals (try (repeat' (first | exact trivial | rfl | exact .inl rfl | exact .inr rfl | refine ⟨?_, ?_⟩))))
    · refine .inr ?_
      rw [xorZ_zero, hkl]
      simp only [u8s, List.map_replicate]
      rfl
    · refine .inr ?_
      rw [xorZ_zero, hkl]
      simp only [u8s, List.map_replicate]
      rfl
    intro i K hi hK
    have hxn := xorZ_len 54 kp i (by omega)
    have hxz := xorZ_len 92 kp i (by omega)
    by_cases h : i < 64
    · have e := hkg i h hkol
      have e54 := xorZ_set 54 kp i (by omega)
      have e92 := xorZ_set 92 kp i (by omega)
      rw [e] at e54 e92
      by_cases h2 : i < ko.length
      · rw [if_pos h2] at e54 e92
        ((try (conv => whnf)); (repeat ((first | refine br_true yesA ?_ | refine br_false noA ?_ | refine onS_map numA ?_ | refine onS_intro (eqTC_ints rfl rfl rfl rfl numA) ?_ | refine onS_intro (mapB_u8s _) ?_ | refine And.intro flatA ?_); (try (conv => whnf)))))
        (refine hK (i + 1) _ _ rfl (Wk.go ?_ rfl ?_ rfl) numA numA; all_goals (try (repeat' (first | exact trivial | rfl | exact .inl rfl | exact .inr rfl | refine ⟨?_, ?_⟩))))
        · rw [← e54]
          exact .inr (by simp [u8s, List.map_set])
        · rw [← e92]
          exact .inr (by simp [u8s, List.map_set])
      · rw [if_neg h2] at e54 e92
        ((try (conv => whnf)); (repeat ((first | refine br_true yesA ?_ | refine br_false noA ?_ | refine onS_map numA ?_ | refine onS_intro (eqTC_ints rfl rfl rfl rfl numA) ?_ | refine onS_intro (mapB_u8s _) ?_ | refine And.intro flatA ?_); (try (conv => whnf)))))
        (refine hK (i + 1) _ _ rfl (Wk.go ?_ rfl ?_ rfl) numA numA; all_goals (try (repeat' (first | exact trivial | rfl | exact .inl rfl | exact .inr rfl | refine ⟨?_, ?_⟩))))
        · rw [← e54]
          exact .inr (by simp [u8s, List.map_set])
        · rw [← e92]
          exact .inr (by simp [u8s, List.map_set])
    · have h : i = 64 := by omega
      subst h
      rw [← xorZ_all 54 kp 64 hkl, ← xorZ_all 92 kp 64 hkl]
      generalize xorZ 54 kp 64 = x at *
      generalize xorZ 92 kp 64 = y at *
      ((try (conv => whnf)); (repeat ((first | refine br_true yesA ?_ | refine br_false noA ?_ | refine onS_map numA ?_ | refine onS_intro (eqTC_ints rfl rfl rfl rfl numA) ?_ | refine onS_intro (mapB_u8s _) ?_ | refine And.intro flatA ?_); (try (conv => whnf)))))
      refine call_intro (ret_sum' (x ++ b) (by simp; omega)) (les_of_eq (by simp [cutL, u8s, bytesD])) ?_
      have hsl := sumR_len (x ++ b)
      ((try (conv => whnf)); (repeat ((first | refine br_true yesA ?_ | refine br_false noA ?_ | refine onS_map numA ?_ | refine onS_intro (eqTC_ints rfl rfl rfl rfl numA) ?_ | refine onS_intro (mapB_u8s _) ?_ | refine And.intro flatA ?_); (try (conv => whnf)))))
      refine call_intro (ret_sum' (y ++ sumR (x ++ b)) (by simp; omega)) (les_of_eq (by simp [cutL, u8s, bytesD])) ?_
      ((try (conv => whnf)); (repeat ((first | refine br_true yesA ?_ | refine br_false noA ?_ | refine onS_map numA ?_ | refine onS_intro (eqTC_ints rfl rfl rfl rfl numA) ?_ | refine onS_intro (mapB_u8s _) ?_ | refine And.intro flatA ?_); (try (conv => whnf)))))
      (first | exact D.le.refl _ | (simp only [chk_eq]; exact D.le.refl _))
end Go.Fw
