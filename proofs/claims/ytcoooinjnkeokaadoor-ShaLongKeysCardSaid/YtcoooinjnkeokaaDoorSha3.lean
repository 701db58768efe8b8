/-
Contracts: paddings. No conditions.
-/
import Derived.Test.YtcoooinjnkeokaaDoorSha2
namespace Go.Fw
set_option linter.unusedVariables false
set_option linter.unusedSimpArgs false
open Go.Proofs
set_option maxRecDepth 10000

theorem ret_pad (n : Nat) (hn : n < 18446744073709551616) : Returns cx n_sha_Pad [.int .u64 n] (bytesD (padL n 8)) := by
  have hz := padZ_eq n
  have hz2 := padZ_lt n
  (refine of_W2 (fn := f_sha_Pad) {} (by kernel_rfl) (by kernel_rfl) (by kernel_rfl) (by kernel_rfl) (by kernel_rfl) ?_)
  ((try (conv => whnf)); (repeat ((first | refine br_true yesA ?_ | refine br_false noA ?_ | refine onS_map numA ?_ | refine onS_intro (eqTC_ints rfl rfl rfl rfl numA) ?_ | refine onS_intro (mapB_u8s _) ?_ | refine And.intro flatA ?_); (try (conv => whnf)))))
  refine LoopW2_rule (fun j : Nat => [(0, .d (.int .u64 n)), (3, .sl 0 0 j), (4, .d (.int .i64 (56 - 8 * (j : Int))))]) (fun j => [some (.grow j .one (u8s (padL n j)))]) (fun j => j ≤ 8) (fun j => 8 - j) _ rfl 0 (Wk.go (by (repeat' (first | exact trivial | refine ⟨?_, ?_⟩ | rfl))) rfl ?_ rfl) (by omega) ?_
  · refine ⟨.inr ?_, trivial⟩
    rw [hz, List.replicate_succ]
    simp [u8s, padL]
  intro j K hj hK
  have hl := padL_len n j
  by_cases h : j < 8
  · ((try (conv => whnf)); (repeat ((first | refine br_true yesA ?_ | refine br_false noA ?_ | refine onS_map numA ?_ | refine onS_intro (eqTC_ints rfl rfl rfl rfl numA) ?_ | refine onS_intro (mapB_u8s _) ?_ | refine And.intro flatA ?_); (try (conv => whnf)))))
    have ht : ((56 - 8 * (j : Int))).toNat = 56 - 8 * j := by omega
    (refine hK (j + 1) _ _ rfl (Wk.go ?_ rfl ?_ rfl) numA numA; all_goals (try (repeat' (first | exact trivial | rfl | exact .inl rfl | exact .inr rfl | refine ⟨?_, ?_⟩))))
    · exact congrArg (fun x => V.d (.int .i64 x)) (by omega)
    · refine .inr ?_
      rw [ht]
      simp [u8s, padL, be]
  · have h : j = 8 := by omega
    subst h
    ((try (conv => whnf)); (repeat ((first | refine br_true yesA ?_ | refine br_false noA ?_ | refine onS_map numA ?_ | refine onS_intro (eqTC_ints rfl rfl rfl rfl numA) ?_ | refine onS_intro (mapB_u8s _) ?_ | refine And.intro flatA ?_); (try (conv => whnf)))))
    (first | exact D.le.refl _ | (simp only [chk_eq]; exact D.le.refl _))

theorem ret_pad' (n : Nat) (hn : n < 18446744073709551616) : Returns cx n_lightclientref03_Pad [.int .u64 n] (bytesD (refR n 8)) := by
  have hz2 := padZ_lt n
  (refine of_W2 (fn := f_lightclientref03_Pad) {} (by kernel_rfl) (by kernel_rfl) (by kernel_rfl) (by kernel_rfl) (by kernel_rfl) ?_)
  ((try (conv => whnf)); (repeat ((first | refine br_true yesA ?_ | refine br_false noA ?_ | refine onS_map numA ?_ | refine onS_intro (eqTC_ints rfl rfl rfl rfl numA) ?_ | refine onS_intro (mapB_u8s _) ?_ | refine And.intro flatA ?_); (try (conv => whnf)))))
  refine LoopW2_rule (fun k : Nat => [(0, .d (.int .u64 n)), (3, .sl 0 0 k)]) (fun k => [some (.grow k .one (u8s (refL k)))]) (fun k => k ≤ padZ n) (fun k => padZ n - k) _ rfl 0 (Wk.go (by (repeat' (first | exact trivial | refine ⟨?_, ?_⟩ | rfl))) rfl (by (repeat' (first | exact trivial | refine ⟨?_, ?_⟩ | exact .inl rfl | exact .inr rfl))) rfl) (by omega) ?_
  intro k K hk hK
  have hl : (refL k).length = k + 1 := by simp [refL]
  have hz3 : padZ n = (64 - (n + 9) % 64) % 64 := rfl
  by_cases h : k < padZ n
  · ((try (conv => whnf)); (repeat ((first | refine br_true yesA ?_ | refine br_false noA ?_ | refine onS_map numA ?_ | refine onS_intro (eqTC_ints rfl rfl rfl rfl numA) ?_ | refine onS_intro (mapB_u8s _) ?_ | refine And.intro flatA ?_); (try (conv => whnf)))))
    (refine hK (k + 1) _ _ rfl (Wk.go ?_ rfl ?_ rfl) numA numA; all_goals (try (repeat' (first | exact trivial | rfl | exact .inl rfl | exact .inr rfl | refine ⟨?_, ?_⟩))))
    exact .inr (by simp [u8s, refL, List.replicate_succ'])
  · have h : k = padZ n := by omega
    ((try (conv => whnf)); (repeat ((first | refine br_true yesA ?_ | refine br_false noA ?_ | refine onS_map numA ?_ | refine onS_intro (eqTC_ints rfl rfl rfl rfl numA) ?_ | refine onS_intro (mapB_u8s _) ?_ | refine And.intro flatA ?_); (try (conv => whnf)))))
    subst h
    (refine LoopW2_rule (fun j : Nat => [(0, .d (.int .u64 n)), (3, .sl 0 0 (padZ n + j)), (4, .d (.int .i64 (7 - (j : Int))))]) (fun j => [some (.grow (padZ n + j) .one (u8s (refR n j)))]) (fun j => j ≤ 8) (fun j => 8 - j) _ rfl 0 (Wk.go ?_ rfl ?_ rfl) numA ?_; all_goals (try (repeat' (first | exact trivial | rfl | exact .inl rfl | exact .inr rfl | refine ⟨?_, ?_⟩))))
    intro j K hj hK
    have hl : (refR n j).length = padZ n + 1 + j := refR_len n j
    by_cases h : j < 8
    · ((try (conv => whnf)); (repeat ((first | refine br_true yesA ?_ | refine br_false noA ?_ | refine onS_map numA ?_ | refine onS_intro (eqTC_ints rfl rfl rfl rfl numA) ?_ | refine onS_intro (mapB_u8s _) ?_ | refine And.intro flatA ?_); (try (conv => whnf)))))
      have ht : (8 * (7 - (j : Int))).toNat = 8 * (7 - j) := by omega
      (refine hK (j + 1) _ _ rfl (Wk.go ?_ rfl ?_ rfl) numA numA; all_goals (try (repeat' (first | exact trivial | rfl | exact .inl rfl | exact .inr rfl | refine ⟨?_, ?_⟩))))
      · exact congrArg (fun x => V.d (.int .i64 x)) (by omega)
      · refine .inr ?_
        rw [ht]
        simp [u8s, refR, be]
        omega
    · have h : j = 8 := by omega
      subst h
      ((try (conv => whnf)); (repeat ((first | refine br_true yesA ?_ | refine br_false noA ?_ | refine onS_map numA ?_ | refine onS_intro (eqTC_ints rfl rfl rfl rfl numA) ?_ | refine onS_intro (mapB_u8s _) ?_ | refine And.intro flatA ?_); (try (conv => whnf)))))
      (first | exact D.le.refl _ | (simp only [chk_eq]; exact D.le.refl _))
end Go.Fw
