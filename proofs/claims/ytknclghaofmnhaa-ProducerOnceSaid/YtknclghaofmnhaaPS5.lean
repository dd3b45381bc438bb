import Derived.Test.YtknclghaofmnhaaPS4
namespace Go.Abs
open Go Go.RowKit
set_option linter.unusedVariables false
set_option linter.unusedSimpArgs false

theorem known_ok : callN tbl ext 30 n_law10_known [] [] = some (.bool true, []) := by kernel_rfl
theorem known_spec : W n_law10_known [] [] = some (.bool true, []) := callW_of known_ok

theorem within_spec (n lo hi : Int) (H : Heap) (h : lo ≤ hi) (h1 : -1000000000 ≤ lo) (h2 : hi ≤ 2000000000) : W n_book_Within [.int .i64 n, .int .i64 lo, .int .i64 hi] H = some (.int .i64 (withinQ n lo hi), H) := by
  refine W_fn rfl rfl ?_
  have q1 : n.tmod (hi - lo + 1) < hi - lo + 1 := Int.tmod_lt_of_pos n (by omega)
  have q2 : -(hi - lo + 1) < n.tmod (hi - lo + 1) := by
    have := Int.tmod_lt_of_pos (-n) (show 0 < hi - lo + 1 by omega)
    rw [Int.neg_tmod] at this; omega
  have w1 : IntKind.i64.wrap (hi - lo) = hi - lo := wrap_id (by unfold I64; omega)
  have w2 : IntKind.i64.wrap (hi - lo + 1) = hi - lo + 1 := wrap_id (by unfold I64; omega)
  have w0 : ¬ (hi - lo + 1 = 0) := by omega
  have w3 : IntKind.i64.wrap (lo + n.tmod (hi - lo + 1)) = lo + n.tmod (hi - lo + 1) := wrap_id (by unfold I64; omega)
  have w4 : IntKind.i64.wrap (n.tmod (hi - lo + 1) + hi) = n.tmod (hi - lo + 1) + hi := wrap_id (by unfold I64; omega)
  have w5 : IntKind.i64.wrap (n.tmod (hi - lo + 1) + hi - lo) = n.tmod (hi - lo + 1) + hi - lo := wrap_id (by unfold I64; omega)
  have w6 : IntKind.i64.wrap (n.tmod (hi - lo + 1) + hi - lo + 1) = n.tmod (hi - lo + 1) + hi - lo + 1 := wrap_id (by unfold I64; omega)
  have w7 : n.tmod (hi - lo + 1) < 0 → IntKind.i64.wrap (lo + (n.tmod (hi - lo + 1) + hi - lo + 1)) = lo + (n.tmod (hi - lo + 1) + hi - lo + 1) := fun _ => wrap_id (by unfold I64; omega)
  unfold withinQ
  by_cases c1 : n ≥ lo
  · by_cases c2 : n ≤ hi
    · simp only [go_sem, c_book_Within, c1, c2, not_true_eq_false, not_false_eq_true, decide_true, decide_false, reduceCtorEq, ne_eq, Bool.false_eq_true, ↓reduceIte, Nat.reduceAdd, Nat.reduceEqDiff, Nat.reduceLT, Int.reduceLE, s_shl, s_shr, Bool.not_false, Bool.not_true, Bool.and_self, Bool.true_and, Bool.and_true, Bool.and_false, Bool.false_and, Bool.not_true, Bool.true_or, Bool.or_true, Nat.reduceSub, Nat.reduceLeDiff, Nat.reduceMul, Int.reduceToNat, Int.reduceLT, Int.reduceEq, Int.reduceNeg, and_self, and_true, true_and, and_false, false_and, or_true, true_or, or_false, false_or, Int.cast_ofNat_Int, Nat.reduceBEq, Nat.reduceBNe, beq_self_eq_true]
    · by_cases c3 : n.tmod (hi - lo + 1) < 0
      · simp only [go_sem, c_book_Within, c1, c2, c3, w0, w1, w2, w3, w4, w5, w6, w7, not_true_eq_false, not_false_eq_true, decide_true, decide_false, reduceCtorEq, ne_eq, Bool.false_eq_true, ↓reduceIte, Nat.reduceAdd, Nat.reduceEqDiff, Nat.reduceLT, Int.reduceLE, s_shl, s_shr, Bool.not_false, Bool.not_true, Bool.and_self, Bool.true_and, Bool.and_true, Bool.and_false, Bool.false_and, Bool.not_true, Bool.true_or, Bool.or_true, Nat.reduceSub, Nat.reduceLeDiff, Nat.reduceMul, Int.reduceToNat, Int.reduceLT, Int.reduceEq, Int.reduceNeg, and_self, and_true, true_and, and_false, false_and, or_true, true_or, or_false, false_or, Int.cast_ofNat_Int, Nat.reduceBEq, Nat.reduceBNe, beq_self_eq_true]
      · simp only [go_sem, c_book_Within, c1, c2, c3, w0, w1, w2, w3, w4, w5, w6, not_true_eq_false, not_false_eq_true, decide_true, decide_false, reduceCtorEq, ne_eq, Bool.false_eq_true, ↓reduceIte, Nat.reduceAdd, Nat.reduceEqDiff, Nat.reduceLT, Int.reduceLE, s_shl, s_shr, Bool.not_false, Bool.not_true, Bool.and_self, Bool.true_and, Bool.and_true, Bool.and_false, Bool.false_and, Bool.not_true, Bool.true_or, Bool.or_true, Nat.reduceSub, Nat.reduceLeDiff, Nat.reduceMul, Int.reduceToNat, Int.reduceLT, Int.reduceEq, Int.reduceNeg, and_self, and_true, true_and, and_false, false_and, or_true, true_or, or_false, false_or, Int.cast_ofNat_Int, Nat.reduceBEq, Nat.reduceBNe, beq_self_eq_true]
  · by_cases c3 : n.tmod (hi - lo + 1) < 0
    · simp only [go_sem, c_book_Within, c1, c3, w0, w1, w2, w3, w4, w5, w6, w7, not_true_eq_false, not_false_eq_true, decide_true, decide_false, reduceCtorEq, ne_eq, Bool.false_eq_true, ↓reduceIte, Nat.reduceAdd, Nat.reduceEqDiff, Nat.reduceLT, Int.reduceLE, s_shl, s_shr, Bool.not_false, Bool.not_true, Bool.and_self, Bool.true_and, Bool.and_true, Bool.and_false, Bool.false_and, Bool.not_true, Bool.true_or, Bool.or_true, Nat.reduceSub, Nat.reduceLeDiff, Nat.reduceMul, Int.reduceToNat, Int.reduceLT, Int.reduceEq, Int.reduceNeg, and_self, and_true, true_and, and_false, false_and, or_true, true_or, or_false, false_or, Int.cast_ofNat_Int, Nat.reduceBEq, Nat.reduceBNe, beq_self_eq_true]
    · simp only [go_sem, c_book_Within, c1, c3, w0, w1, w2, w3, w4, w5, w6, not_true_eq_false, not_false_eq_true, decide_true, decide_false, reduceCtorEq, ne_eq, Bool.false_eq_true, ↓reduceIte, Nat.reduceAdd, Nat.reduceEqDiff, Nat.reduceLT, Int.reduceLE, s_shl, s_shr, Bool.not_false, Bool.not_true, Bool.and_self, Bool.true_and, Bool.and_true, Bool.and_false, Bool.false_and, Bool.not_true, Bool.true_or, Bool.or_true, Nat.reduceSub, Nat.reduceLeDiff, Nat.reduceMul, Int.reduceToNat, Int.reduceLT, Int.reduceEq, Int.reduceNeg, and_self, and_true, true_and, and_false, false_and, or_true, true_or, or_false, false_or, Int.cast_ofNat_Int, Nat.reduceBEq, Nat.reduceBNe, beq_self_eq_true]
end Go.Abs
