import Derived.Test.YtknclghaofmnhaaPS3
namespace Go.Abs
open Go Go.RowKit
set_option linter.unusedVariables false
set_option linter.unusedSimpArgs false

theorem apply_spec (p : Pr) (k : Bool) (b : Ba) (H : Heap) (hl : p.last.length < 1000000) (hr : b.recs.length < 1000000000) :
    W n_producer_Apply [p.v, .bool k, b.v] H = some ((applyQ p k b).v, H) := by
  have hlast := fun H => last_spec b.seq (b.recs.length : Int) H (by unfold I64; omega)
  have hcl : (p.last.map t3).length * 24 ≤ maxBytes := by simp [maxBytes]; omega
  have u1 : ∀ l : List (Int × Int × Int), AVal.underL 0 (l.map t3) = true := fun l => uL_map 0 t3 (fun _ => rfl) l
  by_cases c1 : b.mark = 0
  · have key : ∀ (l : List (Int × Int × Int)), l.length ≤ p.last.length →
      ((l.map t3).length + 1) * 24 ≤ maxBytes ∧
      (l.map t3 ++ [AVal.agg [.int .i64 b.seq, .int .i64 (lastQ b.seq b.recs.length), .int .i64 b.base]]) = (l ++ [(b.seq, lastQ b.seq b.recs.length, b.base)]).map t3 ∧
      ((l ++ [(b.seq, lastQ b.seq b.recs.length, b.base)]).map t3).length = l.length + 1 ∧
      IntKind.i64.wrap (((l.length + 1 : Nat) : Int) - 5) = (l.length : Int) - 4 := by
      intro l hl'
      refine ⟨by simp [maxBytes]; omega, by simp, by simp, by rw [wrap_id (by unfold I64; omega)]; omega⟩
    have tail : ∀ (l : List (Int × Int × Int)), l.length ≤ p.last.length → 
      (0 : Int) ≤ mx 0 ((l.length : Int) - 4) ∧ mx 0 ((l.length : Int) - 4) ≤ ((l.length + 1 : Nat) : Int) ∧
      ((l ++ [(b.seq, lastQ b.seq b.recs.length, b.base)]).map t3).drop (mx 0 ((l.length : Int) - 4)).toNat = ((l ++ [(b.seq, lastQ b.seq b.recs.length, b.base)]).drop ((l ++ [(b.seq, lastQ b.seq b.recs.length, b.base)]).length - 5)).map t3 ∧
      (((l ++ [(b.seq, lastQ b.seq b.recs.length, b.base)]).drop ((l ++ [(b.seq, lastQ b.seq b.recs.length, b.base)]).length - 5)).map t3).length * 24 ≤ maxBytes := by
      intro l hl'
      have h : (mx 0 ((l.length : Int) - 4)).toNat = (l ++ [(b.seq, lastQ b.seq b.recs.length, b.base)]).length - 5 := by
        rw [List.length_append]; simp only [List.length_cons, List.length_nil]; unfold mx; split <;> omega
      refine ⟨by unfold mx; split <;> omega, by unfold mx; split <;> omega, by rw [h, List.map_drop], by simp [maxBytes]; omega⟩
    obtain ⟨k1, k2, k3, k4⟩ := key p.last (Nat.le_refl _)
    obtain ⟨t1, t2, t3', t4⟩ := tail p.last (Nat.le_refl _)
    have w1 : IntKind.i64.wrap (1 - 5) = -4 := by decide
    have w2 : mx 0 (-4) = 0 := by decide
    have w3 : (0 + 1) * 24 ≤ maxBytes := by decide
    have w4 : 1 * 24 ≤ maxBytes := by decide
    refine W_fn rfl rfl ?_
    cases k with
    | false =>
      by_cases c5 : b.txn = true
      · simp only [go_sem, c_producer_Apply, eq_true c1, c5, applyQ, u1, hlast, apF, w1, w2, w3, w4, slL, W_slices_Clone_3_int64_3_int64_, Pr.v, not_true_eq_false, not_false_eq_true, decide_true, decide_false, reduceCtorEq, ne_eq, Bool.false_eq_true, ↓reduceIte, Nat.reduceAdd, Nat.reduceEqDiff, Nat.reduceLT, Int.reduceLE, s_shl, s_shr, Bool.not_false, Bool.not_true, Bool.and_self, Bool.true_and, Bool.and_true, Bool.and_false, Bool.false_and, Bool.not_true, Bool.true_or, Bool.or_true, Nat.reduceSub, Nat.reduceLeDiff, Nat.reduceMul, Int.reduceToNat, Int.reduceLT, Int.reduceEq, Int.reduceNeg, and_self, and_true, true_and, and_false, false_and, or_true, true_or, or_false, false_or, Int.cast_ofNat_Int, Nat.reduceBEq, Nat.reduceBNe, beq_self_eq_true]; rfl
      · simp only [go_sem, c_producer_Apply, eq_true c1, c5, applyQ, u1, hlast, apF, w1, w2, w3, w4, slL, W_slices_Clone_3_int64_3_int64_, Pr.v, not_true_eq_false, not_false_eq_true, decide_true, decide_false, reduceCtorEq, ne_eq, Bool.false_eq_true, ↓reduceIte, Nat.reduceAdd, Nat.reduceEqDiff, Nat.reduceLT, Int.reduceLE, s_shl, s_shr, Bool.not_false, Bool.not_true, Bool.and_self, Bool.true_and, Bool.and_true, Bool.and_false, Bool.false_and, Bool.not_true, Bool.true_or, Bool.or_true, Nat.reduceSub, Nat.reduceLeDiff, Nat.reduceMul, Int.reduceToNat, Int.reduceLT, Int.reduceEq, Int.reduceNeg, and_self, and_true, true_and, and_false, false_and, or_true, true_or, or_false, false_or, Int.cast_ofNat_Int, Nat.reduceBEq, Nat.reduceBNe, beq_self_eq_true]; rfl
    | true =>
      by_cases c2 : b.ep = p.ep
      · by_cases c5 : b.txn = true
        · by_cases c6 : p.op < 0
          · simp only [go_sem, c_producer_Apply, eq_true c1, eq_true c2, c5, c6, applyQ, u1, hlast, apO, k1, k2, k3, k4, t1, t2, t3', t4, hcl, slL, W_slices_Clone_3_int64_3_int64_, Pr.v, not_true_eq_false, not_false_eq_true, decide_true, decide_false, reduceCtorEq, ne_eq, Bool.false_eq_true, ↓reduceIte, Nat.reduceAdd, Nat.reduceEqDiff, Nat.reduceLT, Int.reduceLE, s_shl, s_shr, Bool.not_false, Bool.not_true, Bool.and_self, Bool.true_and, Bool.and_true, Bool.and_false, Bool.false_and, Bool.not_true, Bool.true_or, Bool.or_true, Nat.reduceSub, Nat.reduceLeDiff, Nat.reduceMul, Int.reduceToNat, Int.reduceLT, Int.reduceEq, Int.reduceNeg, and_self, and_true, true_and, and_false, false_and, or_true, true_or, or_false, false_or, Int.cast_ofNat_Int, Nat.reduceBEq, Nat.reduceBNe, beq_self_eq_true]
          · simp only [go_sem, c_producer_Apply, eq_true c1, eq_true c2, c5, c6, applyQ, u1, hlast, apO, k1, k2, k3, k4, t1, t2, t3', t4, hcl, slL, W_slices_Clone_3_int64_3_int64_, Pr.v, not_true_eq_false, not_false_eq_true, decide_true, decide_false, reduceCtorEq, ne_eq, Bool.false_eq_true, ↓reduceIte, Nat.reduceAdd, Nat.reduceEqDiff, Nat.reduceLT, Int.reduceLE, s_shl, s_shr, Bool.not_false, Bool.not_true, Bool.and_self, Bool.true_and, Bool.and_true, Bool.and_false, Bool.false_and, Bool.not_true, Bool.true_or, Bool.or_true, Nat.reduceSub, Nat.reduceLeDiff, Nat.reduceMul, Int.reduceToNat, Int.reduceLT, Int.reduceEq, Int.reduceNeg, and_self, and_true, true_and, and_false, false_and, or_true, true_or, or_false, false_or, Int.cast_ofNat_Int, Nat.reduceBEq, Nat.reduceBNe, beq_self_eq_true]
        · simp only [go_sem, c_producer_Apply, eq_true c1, eq_true c2, c5, applyQ, u1, hlast, apO, k1, k2, k3, k4, t1, t2, t3', t4, hcl, slL, W_slices_Clone_3_int64_3_int64_, Pr.v, not_true_eq_false, not_false_eq_true, decide_true, decide_false, reduceCtorEq, ne_eq, Bool.false_eq_true, ↓reduceIte, Nat.reduceAdd, Nat.reduceEqDiff, Nat.reduceLT, Int.reduceLE, s_shl, s_shr, Bool.not_false, Bool.not_true, Bool.and_self, Bool.true_and, Bool.and_true, Bool.and_false, Bool.false_and, Bool.not_true, Bool.true_or, Bool.or_true, Nat.reduceSub, Nat.reduceLeDiff, Nat.reduceMul, Int.reduceToNat, Int.reduceLT, Int.reduceEq, Int.reduceNeg, and_self, and_true, true_and, and_false, false_and, or_true, true_or, or_false, false_or, Int.cast_ofNat_Int, Nat.reduceBEq, Nat.reduceBNe, beq_self_eq_true]
      · by_cases c5 : b.txn = true
        · by_cases c6 : p.op < 0
          · simp only [go_sem, c_producer_Apply, eq_true c1, c2, c5, c6, applyQ, u1, hlast, apF, w1, w2, w3, w4, slL, W_slices_Clone_3_int64_3_int64_, Pr.v, not_true_eq_false, not_false_eq_true, decide_true, decide_false, reduceCtorEq, ne_eq, Bool.false_eq_true, ↓reduceIte, Nat.reduceAdd, Nat.reduceEqDiff, Nat.reduceLT, Int.reduceLE, s_shl, s_shr, Bool.not_false, Bool.not_true, Bool.and_self, Bool.true_and, Bool.and_true, Bool.and_false, Bool.false_and, Bool.not_true, Bool.true_or, Bool.or_true, Nat.reduceSub, Nat.reduceLeDiff, Nat.reduceMul, Int.reduceToNat, Int.reduceLT, Int.reduceEq, Int.reduceNeg, and_self, and_true, true_and, and_false, false_and, or_true, true_or, or_false, false_or, Int.cast_ofNat_Int, Nat.reduceBEq, Nat.reduceBNe, beq_self_eq_true]; rfl
          · simp only [go_sem, c_producer_Apply, eq_true c1, c2, c5, c6, applyQ, u1, hlast, apF, w1, w2, w3, w4, slL, W_slices_Clone_3_int64_3_int64_, Pr.v, not_true_eq_false, not_false_eq_true, decide_true, decide_false, reduceCtorEq, ne_eq, Bool.false_eq_true, ↓reduceIte, Nat.reduceAdd, Nat.reduceEqDiff, Nat.reduceLT, Int.reduceLE, s_shl, s_shr, Bool.not_false, Bool.not_true, Bool.and_self, Bool.true_and, Bool.and_true, Bool.and_false, Bool.false_and, Bool.not_true, Bool.true_or, Bool.or_true, Nat.reduceSub, Nat.reduceLeDiff, Nat.reduceMul, Int.reduceToNat, Int.reduceLT, Int.reduceEq, Int.reduceNeg, and_self, and_true, true_and, and_false, false_and, or_true, true_or, or_false, false_or, Int.cast_ofNat_Int, Nat.reduceBEq, Nat.reduceBNe, beq_self_eq_true]; rfl
        · simp only [go_sem, c_producer_Apply, eq_true c1, c2, c5, applyQ, u1, hlast, apF, w1, w2, w3, w4, slL, W_slices_Clone_3_int64_3_int64_, Pr.v, not_true_eq_false, not_false_eq_true, decide_true, decide_false, reduceCtorEq, ne_eq, Bool.false_eq_true, ↓reduceIte, Nat.reduceAdd, Nat.reduceEqDiff, Nat.reduceLT, Int.reduceLE, s_shl, s_shr, Bool.not_false, Bool.not_true, Bool.and_self, Bool.true_and, Bool.and_true, Bool.and_false, Bool.false_and, Bool.not_true, Bool.true_or, Bool.or_true, Nat.reduceSub, Nat.reduceLeDiff, Nat.reduceMul, Int.reduceToNat, Int.reduceLT, Int.reduceEq, Int.reduceNeg, and_self, and_true, true_and, and_false, false_and, or_true, true_or, or_false, false_or, Int.cast_ofNat_Int, Nat.reduceBEq, Nat.reduceBNe, beq_self_eq_true]; rfl
  · refine W_fn rfl rfl ?_
    cases k with
    | false => simp only [go_sem, c_producer_Apply, c1, applyQ, u1, Pr.v, not_true_eq_false, not_false_eq_true, decide_true, decide_false, reduceCtorEq, ne_eq, Bool.false_eq_true, ↓reduceIte, Nat.reduceAdd, Nat.reduceEqDiff, Nat.reduceLT, Int.reduceLE, s_shl, s_shr, Bool.not_false, Bool.not_true, Bool.and_self, Bool.true_and, Bool.and_true, Bool.and_false, Bool.false_and, Bool.not_true, Bool.true_or, Bool.or_true, Nat.reduceSub, Nat.reduceLeDiff, Nat.reduceMul, Int.reduceToNat, Int.reduceLT, Int.reduceEq, Int.reduceNeg, and_self, and_true, true_and, and_false, false_and, or_true, true_or, or_false, false_or, Int.cast_ofNat_Int, Nat.reduceBEq, Nat.reduceBNe, beq_self_eq_true]; rfl
    | true =>
      by_cases c2 : b.ep = p.ep
      · simp only [go_sem, c_producer_Apply, c1, eq_true c2, applyQ, u1, W_slices_Clone_3_int64_3_int64_, hcl, not_true_eq_false, not_false_eq_true, decide_true, decide_false, reduceCtorEq, ne_eq, Bool.false_eq_true, ↓reduceIte, Nat.reduceAdd, Nat.reduceEqDiff, Nat.reduceLT, Int.reduceLE, s_shl, s_shr, Bool.not_false, Bool.not_true, Bool.and_self, Bool.true_and, Bool.and_true, Bool.and_false, Bool.false_and, Bool.not_true, Bool.true_or, Bool.or_true, Nat.reduceSub, Nat.reduceLeDiff, Nat.reduceMul, Int.reduceToNat, Int.reduceLT, Int.reduceEq, Int.reduceNeg, and_self, and_true, true_and, and_false, false_and, or_true, true_or, or_false, false_or, Int.cast_ofNat_Int, Nat.reduceBEq, Nat.reduceBNe, beq_self_eq_true]
      · simp only [go_sem, c_producer_Apply, c1, c2, applyQ, u1, Pr.v, not_true_eq_false, not_false_eq_true, decide_true, decide_false, reduceCtorEq, ne_eq, Bool.false_eq_true, ↓reduceIte, Nat.reduceAdd, Nat.reduceEqDiff, Nat.reduceLT, Int.reduceLE, s_shl, s_shr, Bool.not_false, Bool.not_true, Bool.and_self, Bool.true_and, Bool.and_true, Bool.and_false, Bool.false_and, Bool.not_true, Bool.true_or, Bool.or_true, Nat.reduceSub, Nat.reduceLeDiff, Nat.reduceMul, Int.reduceToNat, Int.reduceLT, Int.reduceEq, Int.reduceNeg, and_self, and_true, true_and, and_false, false_and, or_true, true_or, or_false, false_or, Int.cast_ofNat_Int, Nat.reduceBEq, Nat.reduceBNe, beq_self_eq_true]; rfl
end Go.Abs
