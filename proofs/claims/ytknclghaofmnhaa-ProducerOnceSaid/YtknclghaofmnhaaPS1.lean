import Derived.Test.YtknclghaofmnhaaPC
namespace Go.Abs
open Go Go.RowKit
set_option linter.unusedVariables false
set_option linter.unusedSimpArgs false

/-! ## Seqs -/
def rightQ (n : Int) : Bool := decide (0 ≤ n ∧ n ≤ 2147483647)
def addQ (n k : Int) : Int := if rightQ n = true then (n + k) % 2147483648 else -1
def lastQ (f c : Int) : Int := if 1 ≤ c ∧ c ≤ 16 then addQ f (c - 1) else -1
def followsQ (l f : Int) : Bool := if l = -1 then decide (f = 0) else rightQ l && decide (f = addQ l 1)
def gapQ (a b : Int) : Int := if rightQ a = true ∧ rightQ b = true then (b - a) % 2147483648 else -1

theorem right_spec (n : Int) (H : Heap) : W n_seq_Right [.int .i64 n] H = some (.bool (rightQ n), H) := by
  refine W_fn rfl rfl ?_
  unfold rightQ
  by_cases h1 : n ≥ 0 <;> by_cases h2 : n ≤ 2147483647 <;> simp only [go_sem, c_seq_Right, h1, h2, not_true_eq_false, not_false_eq_true, decide_true, decide_false, reduceCtorEq, ne_eq, Bool.false_eq_true, ↓reduceIte, Nat.reduceAdd, Nat.reduceEqDiff, Nat.reduceLT, Int.reduceLE, s_shl, s_shr, Bool.not_false, Bool.not_true, Bool.and_self, Bool.true_and, Bool.and_true, Bool.and_false, Bool.false_and, Bool.not_true, Bool.true_or, Bool.or_true, Nat.reduceSub, Nat.reduceLeDiff, Nat.reduceMul, Int.reduceToNat, Int.reduceLT, Int.reduceEq, Int.reduceNeg, and_self, and_true, true_and, and_false, false_and, or_true, true_or, or_false, false_or, Int.cast_ofNat_Int, Nat.reduceBEq, Nat.reduceBNe, beq_self_eq_true]

theorem add_spec (n k : Int) (H : Heap) (h0 : 0 ≤ k) (h1 : k ≤ 1000000) : W n_seq_Add [.int .i64 n, .int .i64 k] H = some (.int .i64 (addQ n k), H) := by
  have hs := right_spec n
  refine W_fn rfl rfl ?_
  cases h : rightQ n with
  | false => rw [h] at hs; simp only [go_sem, c_seq_Add, hs, not_true_eq_false, not_false_eq_true, decide_true, decide_false, reduceCtorEq, ne_eq, Bool.false_eq_true, ↓reduceIte, Nat.reduceAdd, Nat.reduceEqDiff, Nat.reduceLT, Int.reduceLE, s_shl, s_shr, Bool.not_false, Bool.not_true, Bool.and_self, Bool.true_and, Bool.and_true, Bool.and_false, Bool.false_and, Bool.not_true, Bool.true_or, Bool.or_true, Nat.reduceSub, Nat.reduceLeDiff, Nat.reduceMul, Int.reduceToNat, Int.reduceLT, Int.reduceEq, Int.reduceNeg, and_self, and_true, true_and, and_false, false_and, or_true, true_or, or_false, false_or, Int.cast_ofNat_Int, Nat.reduceBEq, Nat.reduceBNe, beq_self_eq_true]; simp [addQ, h]
  | true =>
    rw [h] at hs
    have hr : 0 ≤ n ∧ n ≤ 2147483647 := by simpa [rightQ] using h
    have e1 : IntKind.i64.wrap (n + k.tmod 2147483648) = n + k := by
      rw [Int.tmod_eq_emod_of_nonneg h0, wrap_id (by unfold I64; omega)]; omega
    have e2 : IntKind.i64.wrap ((n + k).tmod 2147483648 + 2147483648) = (n + k) % 2147483648 + 2147483648 := by
      rw [Int.tmod_eq_emod_of_nonneg (by omega), wrap_id (by unfold I64; omega)]
    have e3 : ((n + k) % 2147483648 + 2147483648).tmod 2147483648 = (n + k) % 2147483648 := by
      rw [Int.tmod_eq_emod_of_nonneg (by omega)]; omega
    simp only [go_sem, c_seq_Add, hs, e1, e2, e3, addQ, h, not_true_eq_false, not_false_eq_true, decide_true, decide_false, reduceCtorEq, ne_eq, Bool.false_eq_true, ↓reduceIte, Nat.reduceAdd, Nat.reduceEqDiff, Nat.reduceLT, Int.reduceLE, s_shl, s_shr, Bool.not_false, Bool.not_true, Bool.and_self, Bool.true_and, Bool.and_true, Bool.and_false, Bool.false_and, Bool.not_true, Bool.true_or, Bool.or_true, Nat.reduceSub, Nat.reduceLeDiff, Nat.reduceMul, Int.reduceToNat, Int.reduceLT, Int.reduceEq, Int.reduceNeg, and_self, and_true, true_and, and_false, false_and, or_true, true_or, or_false, false_or, Int.cast_ofNat_Int, Nat.reduceBEq, Nat.reduceBNe, beq_self_eq_true]
theorem last_spec (f c : Int) (H : Heap) (hc : I64 c) : W n_seq_Last [.int .i64 f, .int .i64 c] H = some (.int .i64 (lastQ f c), H) := by
  refine W_fn rfl rfl ?_
  by_cases h1 : c < 1
  · simp only [go_sem, c_seq_Last, h1, lastQ, show ¬ (1 ≤ c ∧ c ≤ 16) by omega, not_true_eq_false, not_false_eq_true, decide_true, decide_false, reduceCtorEq, ne_eq, Bool.false_eq_true, ↓reduceIte, Nat.reduceAdd, Nat.reduceEqDiff, Nat.reduceLT, Int.reduceLE, s_shl, s_shr, Bool.not_false, Bool.not_true, Bool.and_self, Bool.true_and, Bool.and_true, Bool.and_false, Bool.false_and, Bool.not_true, Bool.true_or, Bool.or_true, Nat.reduceSub, Nat.reduceLeDiff, Nat.reduceMul, Int.reduceToNat, Int.reduceLT, Int.reduceEq, Int.reduceNeg, and_self, and_true, true_and, and_false, false_and, or_true, true_or, or_false, false_or, Int.cast_ofNat_Int, Nat.reduceBEq, Nat.reduceBNe, beq_self_eq_true]
  · by_cases h2 : c > 16
    · simp only [go_sem, c_seq_Last, h1, h2, lastQ, show ¬ (1 ≤ c ∧ c ≤ 16) by omega, not_true_eq_false, not_false_eq_true, decide_true, decide_false, reduceCtorEq, ne_eq, Bool.false_eq_true, ↓reduceIte, Nat.reduceAdd, Nat.reduceEqDiff, Nat.reduceLT, Int.reduceLE, s_shl, s_shr, Bool.not_false, Bool.not_true, Bool.and_self, Bool.true_and, Bool.and_true, Bool.and_false, Bool.false_and, Bool.not_true, Bool.true_or, Bool.or_true, Nat.reduceSub, Nat.reduceLeDiff, Nat.reduceMul, Int.reduceToNat, Int.reduceLT, Int.reduceEq, Int.reduceNeg, and_self, and_true, true_and, and_false, false_and, or_true, true_or, or_false, false_or, Int.cast_ofNat_Int, Nat.reduceBEq, Nat.reduceBNe, beq_self_eq_true]
    · have ha := fun H => add_spec f (c - 1) H (by omega) (by omega)
      have e1 : IntKind.i64.wrap (c - 1) = c - 1 := wrap_id (by unfold I64 at *; omega)
      simp only [go_sem, c_seq_Last, h1, h2, lastQ, show (1 ≤ c ∧ c ≤ 16) by omega, e1, ha, not_true_eq_false, not_false_eq_true, decide_true, decide_false, reduceCtorEq, ne_eq, Bool.false_eq_true, ↓reduceIte, Nat.reduceAdd, Nat.reduceEqDiff, Nat.reduceLT, Int.reduceLE, s_shl, s_shr, Bool.not_false, Bool.not_true, Bool.and_self, Bool.true_and, Bool.and_true, Bool.and_false, Bool.false_and, Bool.not_true, Bool.true_or, Bool.or_true, Nat.reduceSub, Nat.reduceLeDiff, Nat.reduceMul, Int.reduceToNat, Int.reduceLT, Int.reduceEq, Int.reduceNeg, and_self, and_true, true_and, and_false, false_and, or_true, true_or, or_false, false_or, Int.cast_ofNat_Int, Nat.reduceBEq, Nat.reduceBNe, beq_self_eq_true]
theorem follows_spec (l f : Int) (H : Heap) : W n_seq_Follows [.int .i64 l, .int .i64 f] H = some (.bool (followsQ l f), H) := by
  have hs := right_spec l
  have ha := fun H => add_spec l 1 H (by decide) (by decide)
  refine W_fn rfl rfl ?_
  by_cases h1 : l = -1
  · simp only [go_sem, c_seq_Follows, h1, followsQ, not_true_eq_false, not_false_eq_true, decide_true, decide_false, reduceCtorEq, ne_eq, Bool.false_eq_true, ↓reduceIte, Nat.reduceAdd, Nat.reduceEqDiff, Nat.reduceLT, Int.reduceLE, s_shl, s_shr, Bool.not_false, Bool.not_true, Bool.and_self, Bool.true_and, Bool.and_true, Bool.and_false, Bool.false_and, Bool.not_true, Bool.true_or, Bool.or_true, Nat.reduceSub, Nat.reduceLeDiff, Nat.reduceMul, Int.reduceToNat, Int.reduceLT, Int.reduceEq, Int.reduceNeg, and_self, and_true, true_and, and_false, false_and, or_true, true_or, or_false, false_or, Int.cast_ofNat_Int, Nat.reduceBEq, Nat.reduceBNe, beq_self_eq_true]
  · cases h : rightQ l with
    | false => rw [h] at hs; simp only [go_sem, c_seq_Follows, h1, hs, followsQ, h, not_true_eq_false, not_false_eq_true, decide_true, decide_false, reduceCtorEq, ne_eq, Bool.false_eq_true, ↓reduceIte, Nat.reduceAdd, Nat.reduceEqDiff, Nat.reduceLT, Int.reduceLE, s_shl, s_shr, Bool.not_false, Bool.not_true, Bool.and_self, Bool.true_and, Bool.and_true, Bool.and_false, Bool.false_and, Bool.not_true, Bool.true_or, Bool.or_true, Nat.reduceSub, Nat.reduceLeDiff, Nat.reduceMul, Int.reduceToNat, Int.reduceLT, Int.reduceEq, Int.reduceNeg, and_self, and_true, true_and, and_false, false_and, or_true, true_or, or_false, false_or, Int.cast_ofNat_Int, Nat.reduceBEq, Nat.reduceBNe, beq_self_eq_true]
    | true => rw [h] at hs; simp only [go_sem, c_seq_Follows, h1, hs, ha, followsQ, h, not_true_eq_false, not_false_eq_true, decide_true, decide_false, reduceCtorEq, ne_eq, Bool.false_eq_true, ↓reduceIte, Nat.reduceAdd, Nat.reduceEqDiff, Nat.reduceLT, Int.reduceLE, s_shl, s_shr, Bool.not_false, Bool.not_true, Bool.and_self, Bool.true_and, Bool.and_true, Bool.and_false, Bool.false_and, Bool.not_true, Bool.true_or, Bool.or_true, Nat.reduceSub, Nat.reduceLeDiff, Nat.reduceMul, Int.reduceToNat, Int.reduceLT, Int.reduceEq, Int.reduceNeg, and_self, and_true, true_and, and_false, false_and, or_true, true_or, or_false, false_or, Int.cast_ofNat_Int, Nat.reduceBEq, Nat.reduceBNe, beq_self_eq_true]
theorem gap_spec (a b : Int) (H : Heap) : W n_seq_Gap [.int .i64 a, .int .i64 b] H = some (.int .i64 (gapQ a b), H) := by
  have ha := right_spec a
  have hb := right_spec b
  refine W_fn rfl rfl ?_
  cases h : rightQ a with
  | false => rw [h] at ha; simp only [go_sem, c_seq_Gap, ha, gapQ, h, not_true_eq_false, not_false_eq_true, decide_true, decide_false, reduceCtorEq, ne_eq, Bool.false_eq_true, ↓reduceIte, Nat.reduceAdd, Nat.reduceEqDiff, Nat.reduceLT, Int.reduceLE, s_shl, s_shr, Bool.not_false, Bool.not_true, Bool.and_self, Bool.true_and, Bool.and_true, Bool.and_false, Bool.false_and, Bool.not_true, Bool.true_or, Bool.or_true, Nat.reduceSub, Nat.reduceLeDiff, Nat.reduceMul, Int.reduceToNat, Int.reduceLT, Int.reduceEq, Int.reduceNeg, and_self, and_true, true_and, and_false, false_and, or_true, true_or, or_false, false_or, Int.cast_ofNat_Int, Nat.reduceBEq, Nat.reduceBNe, beq_self_eq_true]
  | true =>
    rw [h] at ha
    cases h' : rightQ b with
    | false => rw [h'] at hb; simp only [go_sem, c_seq_Gap, ha, hb, gapQ, h, h', not_true_eq_false, not_false_eq_true, decide_true, decide_false, reduceCtorEq, ne_eq, Bool.false_eq_true, ↓reduceIte, Nat.reduceAdd, Nat.reduceEqDiff, Nat.reduceLT, Int.reduceLE, s_shl, s_shr, Bool.not_false, Bool.not_true, Bool.and_self, Bool.true_and, Bool.and_true, Bool.and_false, Bool.false_and, Bool.not_true, Bool.true_or, Bool.or_true, Nat.reduceSub, Nat.reduceLeDiff, Nat.reduceMul, Int.reduceToNat, Int.reduceLT, Int.reduceEq, Int.reduceNeg, and_self, and_true, true_and, and_false, false_and, or_true, true_or, or_false, false_or, Int.cast_ofNat_Int, Nat.reduceBEq, Nat.reduceBNe, beq_self_eq_true]
    | true =>
      rw [h'] at hb
      have hr : 0 ≤ a ∧ a ≤ 2147483647 := by simpa [rightQ] using h
      have hr' : 0 ≤ b ∧ b ≤ 2147483647 := by simpa [rightQ] using h'
      have e1 : IntKind.i64.wrap (b - a) = b - a := wrap_id (by unfold I64; omega)
      have e2 : IntKind.i64.wrap (b - a + 2147483648) = b - a + 2147483648 := wrap_id (by unfold I64; omega)
      have e3 : (b - a + 2147483648).tmod 2147483648 = (b - a) % 2147483648 := by
        rw [Int.tmod_eq_emod_of_nonneg (by omega)]; omega
      simp only [go_sem, c_seq_Gap, ha, hb, gapQ, h, h', e1, e2, e3, not_true_eq_false, not_false_eq_true, decide_true, decide_false, reduceCtorEq, ne_eq, Bool.false_eq_true, ↓reduceIte, Nat.reduceAdd, Nat.reduceEqDiff, Nat.reduceLT, Int.reduceLE, s_shl, s_shr, Bool.not_false, Bool.not_true, Bool.and_self, Bool.true_and, Bool.and_true, Bool.and_false, Bool.false_and, Bool.not_true, Bool.true_or, Bool.or_true, Nat.reduceSub, Nat.reduceLeDiff, Nat.reduceMul, Int.reduceToNat, Int.reduceLT, Int.reduceEq, Int.reduceNeg, and_self, and_true, true_and, and_false, false_and, or_true, true_or, or_false, false_or, Int.cast_ofNat_Int, Nat.reduceBEq, Nat.reduceBNe, beq_self_eq_true]
end Go.Abs
