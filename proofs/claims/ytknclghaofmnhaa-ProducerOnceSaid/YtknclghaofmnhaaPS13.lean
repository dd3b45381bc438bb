import Derived.Test.YtknclghaofmnhaaPS12
namespace Go.Abs
open Go Go.RowKit
set_option linter.unusedVariables false
set_option linter.unusedSimpArgs false

theorem again_loop (f : Int) (B : List Ba) (x : Int) (H : Heap) (hg : Good f 1 0 B) (hs : sumL B ≤ 6 * B.length) (hB : B.length ≤ 14) : ∀ (Q P : List Ba) (M : Heap), B = P ++ Q →
    ∃ N, loopA W loopW (.ghost (.kill k_law10_ProducerOnce_1) l_law10_ProducerOnce_1) [(5, .ptr (pt H 0) 0), (7, .list 7 (B.map bV) .own), (9, .int .i64 x), (75, .list 7 (B.map bV) .ro), (76, .int .i64 (B.length : Nat)), (77, .int .i64 (P.length : Nat))]
      (hx H (.cells [.int .i64 3, .int .i64 1, lastV (lastOf B) .ro, .int .i64 (-1)] :: M)) =
      some (.exit 2, [(5, .ptr (pt H 0) 0), (7, .list 7 (B.map bV) .own)], hx H (.cells [.int .i64 3, .int .i64 1, lastV (lastOf B) .ro, .int .i64 (-1)] :: N)) := by
  intro Q
  have e2 : (B.map bV).length = B.length := by simp
  induction Q with
  | nil =>
    intro P M hp
    rw [List.append_nil] at hp
    subst hp
    refine ⟨M, loop_step l_law10_ProducerOnce_1.eq_1 k_law10_ProducerOnce_1.eq_1 (by kernel_rfl) ?_⟩
    have h1 : ¬ ((B.length : Int) < (B.length : Int)) := by omega
    simp only [go_sem, h1, not_true_eq_false, not_false_eq_true, decide_true, decide_false, reduceCtorEq, ne_eq, Bool.false_eq_true, ↓reduceIte, Nat.reduceAdd, Nat.reduceEqDiff, Nat.reduceLT, Int.reduceLE, s_shl, s_shr, Bool.not_false, Bool.not_true, Bool.and_self, Bool.true_and, Bool.and_true, Bool.and_false, Bool.false_and, Bool.not_true, Bool.true_or, Bool.or_true, Nat.reduceSub, Nat.reduceLeDiff, Nat.reduceMul, Int.reduceToNat, Int.reduceLT, Int.reduceEq, Int.reduceNeg, and_self, and_true, true_and, and_false, false_and, or_true, true_or, or_false, false_or, Int.cast_ofNat_Int, Nat.reduceBEq, Nat.reduceBNe, beq_self_eq_true]
  | cons b Q ih =>
    intro P M hp
    have hlen : B.length = P.length + (Q.length + 1) := by rw [hp, List.length_append, List.length_cons]
    have h1 : (P.length : Int) < (B.length : Int) := by omega
    have h2 : (0 : Int) ≤ (P.length : Int) := by omega
    have h3 : (B.map bV)[((P.length : Nat) : Int).toNat]? = some (bV b) := by rw [hp]; simp
    have e1 : IntKind.i64.wrap ((P.length : Int) + 1) = ((P.length + 1 : Nat) : Int) := by rw [wrap_id (by unfold I64; omega)]; omega
    have e3 : IntKind.i64.wrap ((B.length : Int) - 5) = (B.length : Int) - 5 := wrap_id (by unfold I64; omega)
    have hg' : Good f 1 0 (P ++ b :: Q) := by rw [← hp]; exact hg
    have hgb := (Good.app.1 hg').2.1
    have hs' : sumL (P ++ b :: Q) ≤ 100000 := by rw [← hp]; omega
    have C : ∀ H, W n_producer_Check [.agg [.int .i64 3, .int .i64 1, lastV (lastOf B) .ro, .int .i64 (-1)], .bool true, .agg [.int .i64 x, .int .i64 b.prod, .int .i64 b.ep, .int .i64 b.seq, .bool b.txn, .int .i64 b.mark, .list 2 b.recs .ro]] H = _ := fun H => check_spec ⟨3, 1, lastOf B, -1⟩ true ⟨x, b.prod, b.ep, b.seq, b.txn, b.mark, b.recs⟩ H (by have := lastOf_len B; simp only; omega) (by have := hgb.2.2.1; simp only; omega)
    have hc := check_again (id := 3) (op := -1) hg' hs' (by decide) x
    rw [← hp] at hc
    rw [hc] at C
    obtain ⟨N, hN⟩ := ih (P ++ [b]) (M ++ [.cells [.int .i64 b.base, .int .i64 b.prod, .int .i64 b.ep, .int .i64 b.seq, .bool b.txn, .int .i64 b.mark, .list 2 b.recs .ro], .cells [.int .i64 x, .int .i64 b.prod, .int .i64 b.ep, .int .i64 b.seq, .bool b.txn, .int .i64 b.mark, .list 2 b.recs .ro]]) (by rw [hp]; simp)
    rw [show (P ++ [b]).length = P.length + 1 by simp] at hN
    refine ⟨N, loop_step l_law10_ProducerOnce_1.eq_1 k_law10_ProducerOnce_1.eq_1 (by kernel_rfl) ?_⟩
    by_cases hq : Q.length < 5
    · rw [if_pos hq] at C
      have h4 : (P.length : Int) ≥ (B.length : Int) - 5 := by omega
      simp only [go_sem, h1, h2, h3, e1, e2, e3, h4, C, List.length_append, not_true_eq_false, not_false_eq_true, decide_true, decide_false, reduceCtorEq, ne_eq, Bool.false_eq_true, ↓reduceIte, Nat.reduceAdd, Nat.reduceEqDiff, Nat.reduceLT, Int.reduceLE, s_shl, s_shr, Bool.not_false, Bool.not_true, Bool.and_self, Bool.true_and, Bool.and_true, Bool.and_false, Bool.false_and, Bool.not_true, Bool.true_or, Bool.or_true, Nat.reduceSub, Nat.reduceLeDiff, Nat.reduceMul, Int.reduceToNat, Int.reduceLT, Int.reduceEq, Int.reduceNeg, and_self, and_true, true_and, and_false, false_and, or_true, true_or, or_false, false_or, Int.cast_ofNat_Int, Nat.reduceBEq, Nat.reduceBNe, beq_self_eq_true]
      exact hN
    · rw [if_neg hq] at C
      have h4 : ¬ ((P.length : Int) ≥ (B.length : Int) - 5) := by omega
      simp only [go_sem, h1, h2, h3, e1, e2, e3, h4, C, List.length_append, not_true_eq_false, not_false_eq_true, decide_true, decide_false, reduceCtorEq, ne_eq, Bool.false_eq_true, ↓reduceIte, Nat.reduceAdd, Nat.reduceEqDiff, Nat.reduceLT, Int.reduceLE, s_shl, s_shr, Bool.not_false, Bool.not_true, Bool.and_self, Bool.true_and, Bool.and_true, Bool.and_false, Bool.false_and, Bool.not_true, Bool.true_or, Bool.or_true, Nat.reduceSub, Nat.reduceLeDiff, Nat.reduceMul, Int.reduceToNat, Int.reduceLT, Int.reduceEq, Int.reduceNeg, and_self, and_true, true_and, and_false, false_and, or_true, true_or, or_false, false_or, Int.cast_ofNat_Int, Nat.reduceBEq, Nat.reduceBNe, beq_self_eq_true]
      exact hN
theorem once_spec (a : Int) (cs : List Int) (ha : I64 a) (hcs : ∀ x ∈ cs, I64 x) (hl : cs.length * 8 ≤ 140737488351232) : W n_law10_ProducerOnce [.int .i64 a, .list 1 (ints .i64 cs) .ro] [] = some (.bool true, []) := by
  have hs := and_seq a
  obtain ⟨N, B, hN, hg, hb, hsum, hlen⟩ := once_loop a cs (by omega) [] (min cs.length 14) [] [] .full .full (.inr ⟨rfl, rfl⟩) (.inr ⟨rfl, rfl⟩) trivial trivial (by decide) (by simp)
  have e00 : (((0 : Nat) : Int)) = 0 := rfl
  simp only [show sumL [] = 0 from rfl, show po [] = ⟨0, 0, [], 0⟩ from rfl, List.map_nil, List.length_nil, ne_eq, not_true_eq_false, decide_false, e00, Int.add_zero, lastV] at hN
  have e2 : (B.map bV).length = B.length := by simp
  have hB14 : B.length ≤ 14 := by omega
  cases hB : B with
  | nil =>
    rw [hB] at hN
    simp only [show sumL [] = 0 from rfl, show po [] = ⟨0, 0, [], 0⟩ from rfl, List.map_nil, if_true, lastV, e00] at hN
    have hl0 : loopA W loopW (.ghost (.kill k_law10_ProducerOnce_1) l_law10_ProducerOnce_1) [(5, .ptr (pt [] 0) 0), (7, .list 7 [] .full), (9, .int .i64 0), (75, .list 7 [] .full), (76, .int .i64 0), (77, .int .i64 0)] (hx [] (.cells [.int .i64 0, .int .i64 0, .list 3 [] .full, .int .i64 0] :: N)) = some (.exit 2, [(5, .ptr (pt [] 0) 0), (7, .list 7 [] .full)], hx [] (.cells [.int .i64 0, .int .i64 0, .list 3 [] .full, .int .i64 0] :: N)) := by
      refine loop_step l_law10_ProducerOnce_1.eq_1 k_law10_ProducerOnce_1.eq_1 (by kernel_rfl) ?_
      simp only [go_sem, not_true_eq_false, not_false_eq_true, decide_true, decide_false, reduceCtorEq, ne_eq, Bool.false_eq_true, ↓reduceIte, Nat.reduceAdd, Nat.reduceEqDiff, Nat.reduceLT, Int.reduceLE, s_shl, s_shr, Bool.not_false, Bool.not_true, Bool.and_self, Bool.true_and, Bool.and_true, Bool.and_false, Bool.false_and, Bool.not_true, Bool.true_or, Bool.or_true, Nat.reduceSub, Nat.reduceLeDiff, Nat.reduceMul, Int.reduceToNat, Int.reduceLT, Int.reduceEq, Int.reduceNeg, and_self, and_true, true_and, and_false, false_and, or_true, true_or, or_false, false_or, Int.cast_ofNat_Int, Nat.reduceBEq, Nat.reduceBNe, beq_self_eq_true]
    refine W_fn rfl rfl ?_
    simp only [go_sem, c_law10_ProducerOnce, hs, hN, hl0, known_spec, e00, not_true_eq_false, not_false_eq_true, decide_true, decide_false, reduceCtorEq, ne_eq, Bool.false_eq_true, ↓reduceIte, Nat.reduceAdd, Nat.reduceEqDiff, Nat.reduceLT, Int.reduceLE, s_shl, s_shr, Bool.not_false, Bool.not_true, Bool.and_self, Bool.true_and, Bool.and_true, Bool.and_false, Bool.false_and, Bool.not_true, Bool.true_or, Bool.or_true, Nat.reduceSub, Nat.reduceLeDiff, Nat.reduceMul, Int.reduceToNat, Int.reduceLT, Int.reduceEq, Int.reduceNeg, and_self, and_true, true_and, and_false, false_and, or_true, true_or, or_false, false_or, Int.cast_ofNat_Int, Nat.reduceBEq, Nat.reduceBNe, beq_self_eq_true]
  | cons b0 B0 =>
    have hne : B ≠ [] := by rw [hB]; simp
    rw [if_neg hne, if_neg hne, po_ne hne] at hN
    simp only [lastV] at hN
    obtain ⟨N2, hN2⟩ := again_loop a B (sumL B : Nat) [] hg hsum hB14 B [] N rfl
    rw [show ((([] : List Ba).length : Nat) : Int) = 0 from rfl] at hN2
    simp only [lastV] at hN2
    have hR : ∀ H, W n_producer_Right [.agg [.int .i64 3, .int .i64 1, lastV (lastOf B) .ro, .int .i64 (-1)]] H = _ := fun H => rightP_spec ⟨3, 1, lastOf B, -1⟩ (by have := lastOf_len B; simp only; omega) H
    have hr : rightPQ ⟨3, 1, lastOf B, -1⟩ = true := by
      have h1 := right_lastOf B hg hb (by omega)
      have h2 := lastOf_len B
      simp only [rightPQ, h1, Bool.true_and, h2]
      simp; omega
    rw [hr] at hR
    simp only [lastV] at hR
    have hl1 : ((lastOf B).map t3).length = (lastOf B).length := by simp
    have hl2 : ((lastOf B).length : Int) = mn (B.length : Nat) 5 := by rw [lastOf_len]; unfold mn; split <;> omega
    have hn0 : ¬ (((B.length : Nat) : Int) = 0) := by rw [hB]; simp; omega
    refine W_fn rfl rfl ?_
    simp only [go_sem, c_law10_ProducerOnce, hs, hN, hN2, hR, hl1, eq_true hl2, e2, hn0, known_spec, e00, not_true_eq_false, not_false_eq_true, decide_true, decide_false, reduceCtorEq, ne_eq, Bool.false_eq_true, ↓reduceIte, Nat.reduceAdd, Nat.reduceEqDiff, Nat.reduceLT, Int.reduceLE, s_shl, s_shr, Bool.not_false, Bool.not_true, Bool.and_self, Bool.true_and, Bool.and_true, Bool.and_false, Bool.false_and, Bool.not_true, Bool.true_or, Bool.or_true, Nat.reduceSub, Nat.reduceLeDiff, Nat.reduceMul, Int.reduceToNat, Int.reduceLT, Int.reduceEq, Int.reduceNeg, and_self, and_true, true_and, and_false, false_and, or_true, true_or, or_false, false_or, Int.cast_ofNat_Int, Nat.reduceBEq, Nat.reduceBNe, beq_self_eq_true]
end Go.Abs
