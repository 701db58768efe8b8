/-
Contracts: rotations and schedules. No conditions.
-/
import Derived.Test.YtcoooinjnkeokaaDoorBase
import Derived.Test.YtcoooinjnkeokaaDoorSha0
namespace Go.Fw
set_option linter.unusedVariables false
set_option linter.unusedSimpArgs false
open Go.Proofs
set_option maxRecDepth 10000

theorem ret_rotl (x n : Int) : Returns cx n_bits_RotateLeft32 [.int .u32 x, .int .i64 n] (.int .u32 (rotlI x n)) := by
  (refine of_W2 (fn := f_bits_RotateLeft32) { flip := [(1, [1]), (2, [6])] } (by kernel_rfl) (by kernel_rfl) (by kernel_rfl) (by kernel_rfl) (by kernel_rfl) ?_)
  (conv => whnf)
  refine br_true (chk_true (andW_nonneg _ _)) ?_
  (conv => whnf)
  refine br_true (chk_true (subW_nonneg _ _)) ?_
  (conv => whnf)
  (first | exact D.le.refl _ | (simp only [chk_eq]; exact D.le.refl _))

theorem ret_rotr (x n : Int) (hn : inK .i64 (0 - n)) : Returns cx n_sha_rotr [.int .u32 x, .int .i64 n] (.int .u32 (rotrI x n)) := by
  (refine of_W2 (fn := f_sha_rotr) {} (by kernel_rfl) (by kernel_rfl) (by kernel_rfl) (by kernel_rfl) (by kernel_rfl) ?_)
  (conv => whnf)
  refine br_true (chk_true hn) ?_
  ((first | refine call_intro (ret_rotl _ _) (les_refl _) ?_ | refine call_intro (ret_rotl _ _) lesA ?_); (try (conv => whnf)))
  (first | exact D.le.refl _ | (simp only [chk_eq]; exact D.le.refl _))

theorem ret_schedule0 (b : List Int) (hb : b.length = 64) : Returns cx n_sha_schedule [blockD b] (wordsD (sch2 (sch1 b 64) 48)) := by
  (refine of_W2 (fn := f_sha_schedule) {} (by kernel_rfl) (by kernel_rfl) (by kernel_rfl) (by kernel_rfl) (by kernel_rfl) ?_)
  ((try (conv => whnf)); (repeat ((first | refine br_true yesA ?_ | refine br_false noA ?_ | refine onS_map numA ?_ | refine onS_intro (eqTC_ints rfl rfl rfl rfl numA) ?_ | refine onS_intro (mapB_u8s _) ?_ | refine And.intro flatA ?_); (try (conv => whnf)))))
  refine LoopW2_rule (fun i : Nat => [(2, .ptr 1 0 [] (.arr 64 .one)), (3, .ptr 2 0 [] (.arr 64 .one)), (9, .d (blockD b)), (10, .d (.int .i64 i))]) (fun i => [none, some (.fix (.d (wordsD (List.replicate 64 0)))), some (.fix (.d (wordsD (sch1 b i))))]) (fun i => i ≤ 64) (fun i => 64 - i) 80 rfl 0 (Wk.go (by (repeat' (first | exact trivial | refine ⟨?_, ?_⟩ | rfl))) rfl (by (repeat' (first | exact trivial | refine ⟨?_, ?_⟩ | exact .inl rfl | exact .inr rfl))) rfl) (by omega) ?_
  intro i K hi hK
  have hl := sch1_len b i
  by_cases h : i < 64
  · ((try (conv => whnf)); (repeat ((first | refine br_true yesA ?_ | refine br_false noA ?_ | refine onS_map numA ?_ | refine onS_intro (eqTC_ints rfl rfl rfl rfl numA) ?_ | refine onS_intro (mapB_u8s _) ?_ | refine And.intro flatA ?_); (try (conv => whnf)))))
    (refine hK (i + 1) _ _ rfl (Wk.go ?_ rfl ?_ rfl) numA numA; all_goals (try (repeat' (first | exact trivial | rfl | exact .inl rfl | exact .inr rfl | refine ⟨?_, ?_⟩))))
    · exact .inr (congrArg (fun x => some (Blk.fix (.d x))) (set_words (by omega) rfl))
  · have h : i = 64 := by omega
    subst h
    generalize hw : sch1 b 64 = w0
    have hw0 : w0.length = 64 := by rw [← hw]; exact sch1_len b 64
    ((try (conv => whnf)); (repeat ((first | refine br_true yesA ?_ | refine br_false noA ?_ | refine onS_map numA ?_ | refine onS_intro (eqTC_ints rfl rfl rfl rfl numA) ?_ | refine onS_intro (mapB_u8s _) ?_ | refine And.intro flatA ?_); (try (conv => whnf)))))
    refine LoopW2_rule (fun j : Nat => [(2, .ptr 1 0 [] (.arr 64 .one)), (3, .ptr 2 0 [] (.arr 64 .one)), (6, .d (.int .i64 ((16 + j : Nat) : Int)))]) (fun j => [none, some (.fix (.d (wordsD (List.replicate 64 0)))), some (.fix (.d (wordsD (sch2 w0 j))))]) (fun j => j ≤ 48) (fun j => 48 - j) 80 rfl 0 (Wk.go (by (repeat' (first | exact trivial | refine ⟨?_, ?_⟩ | rfl))) rfl (by (repeat' (first | exact trivial | refine ⟨?_, ?_⟩ | exact .inl rfl | exact .inr rfl))) rfl) (by omega) ?_
    intro j K hj hK
    have hl := sch2_len w0 hw0 j
    by_cases h : 16 + j < 64
    · ((try (conv => whnf)); (repeat ((first | refine br_true yesA ?_ | refine br_false noA ?_ | refine onS_map numA ?_ | refine onS_intro (eqTC_ints rfl rfl rfl rfl numA) ?_ | refine onS_intro (mapB_u8s _) ?_ | refine And.intro flatA ?_); (try (conv => whnf)))))
      repeat (((first | refine call_intro (ret_rotr _ _ (by (first | omega | (simp only [inK, loK, hiK, IntKind.bits, addW_u64, subW_u64, mulW_u64, addW_u32, subW_u32, mulW_u32, wrap_u64, wrap_u32, wrap_u8, u8s, u32s, List.length_map, List.length_append, List.length_replicate, List.length_cons, List.length_nil, List.length_take, List.length_drop, List.length_set]; omega) | (simp [inK, loK, hiK, IntKind.bits, u8s, u32s, room, cutL, addW_u64, subW_u64, mulW_u64] <;> omega)))) (les_refl _) ?_ | refine call_intro (ret_rotr _ _ (by (first | omega | (simp only [inK, loK, hiK, IntKind.bits, addW_u64, subW_u64, mulW_u64, addW_u32, subW_u32, mulW_u32, wrap_u64, wrap_u32, wrap_u8, u8s, u32s, List.length_map, List.length_append, List.length_replicate, List.length_cons, List.length_nil, List.length_take, List.length_drop, List.length_set]; omega) | (simp [inK, loK, hiK, IntKind.bits, u8s, u32s, room, cutL, addW_u64, subW_u64, mulW_u64] <;> omega)))) lesA ?_); (try (conv => whnf))); ((try (conv => whnf)); (repeat ((first | refine br_true yesA ?_ | refine br_false noA ?_ | refine onS_map numA ?_ | refine onS_intro (eqTC_ints rfl rfl rfl rfl numA) ?_ | refine onS_intro (mapB_u8s _) ?_ | refine And.intro flatA ?_); (try (conv => whnf))))))
      have e16 : (((16 + j : Nat) : Int) - 16).toNat = 16 + j - 16 := by omega
      have e15 : (((16 + j : Nat) : Int) - 15).toNat = 16 + j - 15 := by omega
      have e7 : (((16 + j : Nat) : Int) - 7).toNat = 16 + j - 7 := by omega
      have e2 : (((16 + j : Nat) : Int) - 2).toNat = 16 + j - 2 := by omega
      (refine hK (j + 1) _ _ rfl (Wk.go ?_ rfl ?_ rfl) numA numA; all_goals (try (repeat' (first | exact trivial | rfl | exact .inl rfl | exact .inr rfl | refine ⟨?_, ?_⟩))))
      exact .inr (congrArg (fun x => some (Blk.fix (.d x))) (set_words (by omega) (by rw [e16, e15, e7, e2]; rfl)))
    · have h : j = 48 := by omega
      subst h
      ((try (conv => whnf)); (repeat ((first | refine br_true yesA ?_ | refine br_false noA ?_ | refine onS_map numA ?_ | refine onS_intro (eqTC_ints rfl rfl rfl rfl numA) ?_ | refine onS_intro (mapB_u8s _) ?_ | refine And.intro flatA ?_); (try (conv => whnf)))))
      (first | exact D.le.refl _ | (simp only [chk_eq]; exact D.le.refl _))

theorem ret_rotr' (x n : Int) (hn : inK .i64 (0 - n)) : Returns cx n_lightclientref03_rotr [.int .u32 x, .int .i64 n] (.int .u32 (rotrI x n)) := by
  (refine of_W2 (fn := f_lightclientref03_rotr) {} (by kernel_rfl) (by kernel_rfl) (by kernel_rfl) (by kernel_rfl) (by kernel_rfl) ?_)
  (conv => whnf)
  refine br_true (chk_true hn) ?_
  ((first | refine call_intro (ret_rotl _ _) (les_refl _) ?_ | refine call_intro (ret_rotl _ _) lesA ?_); (try (conv => whnf)))
  (first | exact D.le.refl _ | (simp only [chk_eq]; exact D.le.refl _))

theorem ret_schedule0' (b : List Int) (hb : b.length = 64) : Returns cx n_lightclientref03_schedule [blockD b] (wordsD (sch2 (sch1r b 16) 48)) := by
  (refine of_W2 (fn := f_lightclientref03_schedule) {} (by kernel_rfl) (by kernel_rfl) (by kernel_rfl) (by kernel_rfl) (by kernel_rfl) ?_)
  ((try (conv => whnf)); (repeat ((first | refine br_true yesA ?_ | refine br_false noA ?_ | refine onS_map numA ?_ | refine onS_intro (eqTC_ints rfl rfl rfl rfl numA) ?_ | refine onS_intro (mapB_u8s _) ?_ | refine And.intro flatA ?_); (try (conv => whnf)))))
  refine LoopW2_rule (fun i : Nat => [(1, .ptr 0 0 [] (.arr 64 .one)), (2, .ptr 1 0 [] (.arr 64 .one)), (3, .ptr 2 0 [] (.arr 64 .one)), (4, .d (.int .i64 i))]) (fun i => [some (.fix (.d (blockD b))), some (.fix (.d (wordsD (List.replicate 64 0)))), some (.fix (.d (wordsD (sch1r b i))))]) (fun i => i ≤ 16) (fun i => 16 - i) _ rfl 0 (Wk.go (by (repeat' (first | exact trivial | refine ⟨?_, ?_⟩ | rfl))) rfl (by (repeat' (first | exact trivial | refine ⟨?_, ?_⟩ | exact .inl rfl | exact .inr rfl))) rfl) (by omega) ?_
  intro i K hi hK
  have hl := sch1r_len b i
  by_cases h : i < 16
  · ((try (conv => whnf)); (repeat ((first | refine br_true yesA ?_ | refine br_false noA ?_ | refine onS_map numA ?_ | refine onS_intro (eqTC_ints rfl rfl rfl rfl numA) ?_ | refine onS_intro (mapB_u8s _) ?_ | refine And.intro flatA ?_); (try (conv => whnf)))))
    have e0 : (4 * (i : Int)).toNat = 4 * i := by omega
    have e1 : (4 * (i : Int) + 1).toNat = 4 * i + 1 := by omega
    have e2 : (4 * (i : Int) + 2).toNat = 4 * i + 2 := by omega
    have e3 : (4 * (i : Int) + 3).toNat = 4 * i + 3 := by omega
    (refine hK (i + 1) _ _ rfl (Wk.go ?_ rfl ?_ rfl) numA numA; all_goals (try (repeat' (first | exact trivial | rfl | exact .inl rfl | exact .inr rfl | refine ⟨?_, ?_⟩))))
    exact .inr (congrArg (fun x => some (Blk.fix (.d x))) (set_words (by omega) (by rw [e0, e1, e2, e3]; rfl)))
  · have h : i = 16 := by omega
    subst h
    generalize hw : sch1r b 16 = w0
    have hw0 : w0.length = 64 := by rw [← hw]; exact sch1r_len b 16
    ((try (conv => whnf)); (repeat ((first | refine br_true yesA ?_ | refine br_false noA ?_ | refine onS_map numA ?_ | refine onS_intro (eqTC_ints rfl rfl rfl rfl numA) ?_ | refine onS_intro (mapB_u8s _) ?_ | refine And.intro flatA ?_); (try (conv => whnf)))))
    refine LoopW2_rule (fun j : Nat => [(2, .ptr 1 0 [] (.arr 64 .one)), (3, .ptr 2 0 [] (.arr 64 .one)), (5, .d (.int .i64 ((16 + j : Nat) : Int)))]) (fun j => [none, some (.fix (.d (wordsD (List.replicate 64 0)))), some (.fix (.d (wordsD (sch2 w0 j))))]) (fun j => j ≤ 48) (fun j => 48 - j) _ rfl 0 (Wk.go (by (repeat' (first | exact trivial | refine ⟨?_, ?_⟩ | rfl))) rfl (by (repeat' (first | exact trivial | refine ⟨?_, ?_⟩ | exact .inl rfl | exact .inr rfl))) rfl) (by omega) ?_
    intro j K hj hK
    have hl := sch2_len w0 hw0 j
    by_cases h : 16 + j < 64
    · ((try (conv => whnf)); (repeat ((first | refine br_true yesA ?_ | refine br_false noA ?_ | refine onS_map numA ?_ | refine onS_intro (eqTC_ints rfl rfl rfl rfl numA) ?_ | refine onS_intro (mapB_u8s _) ?_ | refine And.intro flatA ?_); (try (conv => whnf)))))
      repeat (((first | refine call_intro (ret_rotr' _ _ (by (first | omega | (simp only [inK, loK, hiK, IntKind.bits, addW_u64, subW_u64, mulW_u64, addW_u32, subW_u32, mulW_u32, wrap_u64, wrap_u32, wrap_u8, u8s, u32s, List.length_map, List.length_append, List.length_replicate, List.length_cons, List.length_nil, List.length_take, List.length_drop, List.length_set]; omega) | (simp [inK, loK, hiK, IntKind.bits, u8s, u32s, room, cutL, addW_u64, subW_u64, mulW_u64] <;> omega)))) (les_refl _) ?_ | refine call_intro (ret_rotr' _ _ (by (first | omega | (simp only [inK, loK, hiK, IntKind.bits, addW_u64, subW_u64, mulW_u64, addW_u32, subW_u32, mulW_u32, wrap_u64, wrap_u32, wrap_u8, u8s, u32s, List.length_map, List.length_append, List.length_replicate, List.length_cons, List.length_nil, List.length_take, List.length_drop, List.length_set]; omega) | (simp [inK, loK, hiK, IntKind.bits, u8s, u32s, room, cutL, addW_u64, subW_u64, mulW_u64] <;> omega)))) lesA ?_); (try (conv => whnf))); ((try (conv => whnf)); (repeat ((first | refine br_true yesA ?_ | refine br_false noA ?_ | refine onS_map numA ?_ | refine onS_intro (eqTC_ints rfl rfl rfl rfl numA) ?_ | refine onS_intro (mapB_u8s _) ?_ | refine And.intro flatA ?_); (try (conv => whnf))))))
      have e16 : (((16 + j : Nat) : Int) - 16).toNat = 16 + j - 16 := by omega
      have e15 : (((16 + j : Nat) : Int) - 15).toNat = 16 + j - 15 := by omega
      have e7 : (((16 + j : Nat) : Int) - 7).toNat = 16 + j - 7 := by omega
      have e2 : (((16 + j : Nat) : Int) - 2).toNat = 16 + j - 2 := by omega
      (refine hK (j + 1) _ _ rfl (Wk.go ?_ rfl ?_ rfl) numA numA; all_goals (try (repeat' (first | exact trivial | rfl | exact .inl rfl | exact .inr rfl | refine ⟨?_, ?_⟩))))
      exact .inr (congrArg (fun x => some (Blk.fix (.d x))) (set_words (by omega) (by rw [e16, e15, e7, e2]; rfl)))
    · have h : j = 48 := by omega
      subst h
      ((try (conv => whnf)); (repeat ((first | refine br_true yesA ?_ | refine br_false noA ?_ | refine onS_map numA ?_ | refine onS_intro (eqTC_ints rfl rfl rfl rfl numA) ?_ | refine onS_intro (mapB_u8s _) ?_ | refine And.intro flatA ?_); (try (conv => whnf)))))
      (first | exact D.le.refl _ | (simp only [chk_eq]; exact D.le.refl _))
theorem ret_schedule (b : List Int) (hb : b.length = 64) : Returns cx n_sha_schedule [blockD b] (wordsD (sched b)) := ret_schedule0 b hb
theorem ret_schedule' (b : List Int) (hb : b.length = 64) : Returns cx n_lightclientref03_schedule [blockD b] (wordsD (schedR b)) := ret_schedule0' b hb
end Go.Fw
