/-
Contracts: the state behind a block. No conditions.
-/
import Derived.Test.YtcoooinjnkeokaaDoorSha1
namespace Go.Fw
set_option linter.unusedVariables false
set_option linter.unusedSimpArgs false
open Go.Proofs
set_option maxRecDepth 10000

theorem ret_compress (s b : List Int) (hs : s.length = 8) (hb : b.length = 64) : Returns cx n_sha_Compress [stD s, blockD b] (stD (compress s b)) := by
  (refine of_W2 (fn := f_sha_Compress) { vis := [(1, [(5, true, [3]), (2, false, [3])])] } (by kernel_rfl) (by kernel_rfl) (by kernel_rfl) (by kernel_rfl) (by kernel_rfl) ?_)
  ((first | refine call_intro (ret_schedule b hb) (les_refl _) ?_ | refine call_intro (ret_schedule b hb) lesA ?_); (try (conv => whnf)))
  have hwl := sched_len b
  unfold compress
  generalize hw : sched b = ws at *
  ((try (conv => whnf)); (repeat ((first | refine br_true yesA ?_ | refine br_false noA ?_ | refine onS_map numA ?_ | refine onS_intro (eqTC_ints rfl rfl rfl rfl numA) ?_ | refine onS_intro (mapB_u8s _) ?_ | refine And.intro flatA ?_); (try (conv => whnf)))))
  refine LoopW2_rule (fun i : Nat => [(2, .ptr 0 0 [] (.arr 8 .one)), (4, .ptr 2 0 [] (.arr 8 .one)), (5, .ptr 3 0 [] (.arr 64 .one)), (6, .ptr 4 0 [] (.arr 8 .one)), (21, .d (.arr 64 .one (Kc.map (.int .u32)))), (22, .d (.int .i64 (i : Nat)))])
    (fun i => [some (.fix (.d (stD s))), none, some (.fix (.d (stD (List.replicate 8 0)))), some (.fix (.d (wordsD ws))), some (.fix (.d (stD (rnds s ws i))))]) (fun i => i ≤ 64) (fun i => 64 - i) _ rfl 0 (Wk.go (by (repeat' (first | exact trivial | refine ⟨?_, ?_⟩ | rfl))) rfl (by (repeat' (first | exact trivial | refine ⟨?_, ?_⟩ | exact .inl rfl | exact .inr rfl))) rfl) (by omega) ?_
  intro i K hi hK
  have hr := rnds_len s ws hs i
  have hk : Kc.length = 64 := rfl
  by_cases h : i < 64
  · ((try (conv => whnf)); (repeat ((first | refine br_true yesA ?_ | refine br_false noA ?_ | refine onS_map numA ?_ | refine onS_intro (eqTC_ints rfl rfl rfl rfl numA) ?_ | refine onS_intro (mapB_u8s _) ?_ | refine And.intro flatA ?_); (try (conv => whnf)))))
    repeat (((first | refine call_intro (ret_rotr _ _ (by (first | omega | (simp only [inK, loK, hiK, IntKind.bits, addW_u64, subW_u64, mulW_u64, addW_u32, subW_u32, mulW_u32, wrap_u64, wrap_u32, wrap_u8, u8s, u32s, List.length_map, List.length_append, List.length_replicate, List.length_cons, List.length_nil, List.length_take, List.length_drop, List.length_set]; omega) | (simp [inK, loK, hiK, IntKind.bits, u8s, u32s, room, cutL, addW_u64, subW_u64, mulW_u64] <;> omega)))) (les_refl _) ?_ | refine call_intro (ret_rotr _ _ (by (first | omega | (simp only [inK, loK, hiK, IntKind.bits, addW_u64, subW_u64, mulW_u64, addW_u32, subW_u32, mulW_u32, wrap_u64, wrap_u32, wrap_u8, u8s, u32s, List.length_map, List.length_append, List.length_replicate, List.length_cons, List.length_nil, List.length_take, List.length_drop, List.length_set]; omega) | (simp [inK, loK, hiK, IntKind.bits, u8s, u32s, room, cutL, addW_u64, subW_u64, mulW_u64] <;> omega)))) lesA ?_); (try (conv => whnf))); ((try (conv => whnf)); (repeat ((first | refine br_true yesA ?_ | refine br_false noA ?_ | refine onS_map numA ?_ | refine onS_intro (eqTC_ints rfl rfl rfl rfl numA) ?_ | refine onS_intro (mapB_u8s _) ?_ | refine And.intro flatA ?_); (try (conv => whnf))))))
    (refine hK (i + 1) _ _ rfl (Wk.go ?_ rfl ?_ rfl) numA numA; all_goals (try (repeat' (first | exact trivial | rfl | exact .inl rfl | exact .inr rfl | refine ⟨?_, ?_⟩))))
  · have h : i = 64 := by omega
    subst h
    generalize hst : rnds s ws 64 = st at *
    ((try (conv => whnf)); (repeat ((first | refine br_true yesA ?_ | refine br_false noA ?_ | refine onS_map numA ?_ | refine onS_intro (eqTC_ints rfl rfl rfl rfl numA) ?_ | refine onS_intro (mapB_u8s _) ?_ | refine And.intro flatA ?_); (try (conv => whnf)))))
    refine LoopW2_rule (fun i : Nat => [(2, .ptr 0 0 [] (.arr 8 .one)), (4, .ptr 2 0 [] (.arr 8 .one)), (6, .ptr 4 0 [] (.arr 8 .one)), (99, .d (.int .i64 (i : Nat)))])
      (fun i => [some (.fix (.d (stD s))), none, some (.fix (.d (stD (List.replicate 8 0)))), some (.fix (.d (wordsD ws))), some (.fix (.d (stD (addN st s i))))]) (fun i => i ≤ 8) (fun i => 8 - i) _ rfl 0 (Wk.go (by (repeat' (first | exact trivial | refine ⟨?_, ?_⟩ | rfl))) rfl (by (repeat' (first | exact trivial | refine ⟨?_, ?_⟩ | exact .inl rfl | exact .inr rfl))) rfl) (by omega) ?_
    intro i K hi hK
    have ha := addN_len st s hr i
    by_cases h : i < 8
    · ((try (conv => whnf)); (repeat ((first | refine br_true yesA ?_ | refine br_false noA ?_ | refine onS_map numA ?_ | refine onS_intro (eqTC_ints rfl rfl rfl rfl numA) ?_ | refine onS_intro (mapB_u8s _) ?_ | refine And.intro flatA ?_); (try (conv => whnf)))))
      (refine hK (i + 1) _ _ rfl (Wk.go ?_ rfl ?_ rfl) numA numA; all_goals (try (repeat' (first | exact trivial | rfl | exact .inl rfl | exact .inr rfl | refine ⟨?_, ?_⟩))))
      exact .inr (congrArg (fun x => some (Blk.fix (.d x))) (set_u32s (by omega) rfl))
    · have h : i = 8 := by omega
      subst h
      ((try (conv => whnf)); (repeat ((first | refine br_true yesA ?_ | refine br_false noA ?_ | refine onS_map numA ?_ | refine onS_intro (eqTC_ints rfl rfl rfl rfl numA) ?_ | refine onS_intro (mapB_u8s _) ?_ | refine And.intro flatA ?_); (try (conv => whnf)))))
      (first | exact D.le.refl _ | (simp only [chk_eq]; exact D.le.refl _))

theorem ret_initial' : Returns cx n_lightclientref03_Initial [] (stD H0) := by
  (refine of_W2 (fn := f_lightclientref03_Initial) {} (by kernel_rfl) (by kernel_rfl) (by kernel_rfl) (by kernel_rfl) (by kernel_rfl) ?_)
  ((try (conv => whnf)); (repeat ((first | refine br_true yesA ?_ | refine br_false noA ?_ | refine onS_map numA ?_ | refine onS_intro (eqTC_ints rfl rfl rfl rfl numA) ?_ | refine onS_intro (mapB_u8s _) ?_ | refine And.intro flatA ?_); (try (conv => whnf)))))
  (first | exact D.le.refl _ | (simp only [chk_eq]; exact D.le.refl _))
theorem ret_constants' : Returns cx n_lightclientref03_constants [] (.arr 64 .one (Kc.map (.int .u32))) := by
  (refine of_W2 (fn := f_lightclientref03_constants) {} (by kernel_rfl) (by kernel_rfl) (by kernel_rfl) (by kernel_rfl) (by kernel_rfl) ?_)
  ((try (conv => whnf)); (repeat ((first | refine br_true yesA ?_ | refine br_false noA ?_ | refine onS_map numA ?_ | refine onS_intro (eqTC_ints rfl rfl rfl rfl numA) ?_ | refine onS_intro (mapB_u8s _) ?_ | refine And.intro flatA ?_); (try (conv => whnf)))))
  (first | exact D.le.refl _ | (simp only [chk_eq]; exact D.le.refl _))

theorem ret_compress' (s b : List Int) (hs : s.length = 8) (hb : b.length = 64) : Returns cx n_lightclientref03_Compress [stD s, blockD b] (stD (compressR s b)) := by
  (refine of_W2 (fn := f_lightclientref03_Compress) {} (by kernel_rfl) (by kernel_rfl) (by kernel_rfl) (by kernel_rfl) (by kernel_rfl) ?_)
  ((first | refine call_intro (ret_schedule' b hb) (les_refl _) ?_ | refine call_intro (ret_schedule' b hb) lesA ?_); (try (conv => whnf)))
  ((try (conv => whnf)); (repeat ((first | refine br_true yesA ?_ | refine br_false noA ?_ | refine onS_map numA ?_ | refine onS_intro (eqTC_ints rfl rfl rfl rfl numA) ?_ | refine onS_intro (mapB_u8s _) ?_ | refine And.intro flatA ?_); (try (conv => whnf)))))
  ((first | refine call_intro (ret_constants') (les_refl _) ?_ | refine call_intro (ret_constants') lesA ?_); (try (conv => whnf)))
  have hwl := schedR_len b
  unfold compressR
  generalize hw : schedR b = ws at *
  ((try (conv => whnf)); (repeat ((first | refine br_true yesA ?_ | refine br_false noA ?_ | refine onS_map numA ?_ | refine onS_intro (eqTC_ints rfl rfl rfl rfl numA) ?_ | refine onS_intro (mapB_u8s _) ?_ | refine And.intro flatA ?_); (try (conv => whnf)))))
  refine LoopW2_rule (fun i : Nat => [(2, .ptr 0 0 [] (.arr 8 .one)), (4, .ptr 2 0 [] (.arr 8 .one)), (5, .ptr 3 0 [] (.arr 64 .one)), (6, .ptr 4 0 [] (.arr 64 .one)), (7, .d (.int .u32 ((rnds s ws i).getD 0 0))), (8, .d (.int .u32 ((rnds s ws i).getD 1 0))), (9, .d (.int .u32 ((rnds s ws i).getD 2 0))), (10, .d (.int .u32 ((rnds s ws i).getD 3 0))), (11, .d (.int .u32 ((rnds s ws i).getD 4 0))), (12, .d (.int .u32 ((rnds s ws i).getD 5 0))), (13, .d (.int .u32 ((rnds s ws i).getD 6 0))), (14, .d (.int .u32 ((rnds s ws i).getD 7 0))), (15, .d (.int .i64 (i : Nat)))])
    (fun i => [some (.fix (.d (stD s))), none, some (.fix (.d (stD (List.replicate 8 0)))), some (.fix (.d (wordsD ws))), some (.fix (.d (.arr 64 .one (Kc.map (.int .u32)))))]) (fun i => i ≤ 64) (fun i => 64 - i) _ rfl 0 (Wk.go (by (repeat' (first | exact trivial | refine ⟨?_, ?_⟩ | rfl))) rfl (by (repeat' (first | exact trivial | refine ⟨?_, ?_⟩ | exact .inl rfl | exact .inr rfl))) rfl) (by omega) ?_
  intro i K hi hK
  have hr := rnds_len s ws hs i
  have hk : Kc.length = 64 := rfl
  by_cases h : i < 64
  · ((try (conv => whnf)); (repeat ((first | refine br_true yesA ?_ | refine br_false noA ?_ | refine onS_map numA ?_ | refine onS_intro (eqTC_ints rfl rfl rfl rfl numA) ?_ | refine onS_intro (mapB_u8s _) ?_ | refine And.intro flatA ?_); (try (conv => whnf)))))
    repeat (((first | refine call_intro (ret_rotr' _ _ (by (first | omega | (simp only [inK, loK, hiK, IntKind.bits, addW_u64, subW_u64, mulW_u64, addW_u32, subW_u32, mulW_u32, wrap_u64, wrap_u32, wrap_u8, u8s, u32s, List.length_map, List.length_append, List.length_replicate, List.length_cons, List.length_nil, List.length_take, List.length_drop, List.length_set]; omega) | (simp [inK, loK, hiK, IntKind.bits, u8s, u32s, room, cutL, addW_u64, subW_u64, mulW_u64] <;> omega)))) (les_refl _) ?_ | refine call_intro (ret_rotr' _ _ (by (first | omega | (simp only [inK, loK, hiK, IntKind.bits, addW_u64, subW_u64, mulW_u64, addW_u32, subW_u32, mulW_u32, wrap_u64, wrap_u32, wrap_u8, u8s, u32s, List.length_map, List.length_append, List.length_replicate, List.length_cons, List.length_nil, List.length_take, List.length_drop, List.length_set]; omega) | (simp [inK, loK, hiK, IntKind.bits, u8s, u32s, room, cutL, addW_u64, subW_u64, mulW_u64] <;> omega)))) lesA ?_); (try (conv => whnf))); ((try (conv => whnf)); (repeat ((first | refine br_true yesA ?_ | refine br_false noA ?_ | refine onS_map numA ?_ | refine onS_intro (eqTC_ints rfl rfl rfl rfl numA) ?_ | refine onS_intro (mapB_u8s _) ?_ | refine And.intro flatA ?_); (try (conv => whnf))))))
    (refine hK (i + 1) _ _ rfl (Wk.go ?_ rfl ?_ rfl) numA numA; all_goals (try (repeat' (first | exact trivial | rfl | exact .inl rfl | exact .inr rfl | refine ⟨?_, ?_⟩))))
  · have h : i = 64 := by omega
    subst h
    ((try (conv => whnf)); (repeat ((first | refine br_true yesA ?_ | refine br_false noA ?_ | refine onS_map numA ?_ | refine onS_intro (eqTC_ints rfl rfl rfl rfl numA) ?_ | refine onS_intro (mapB_u8s _) ?_ | refine And.intro flatA ?_); (try (conv => whnf)))))
    (first | exact D.le.refl _ | (simp only [chk_eq]; exact D.le.refl _))
end Go.Fw
