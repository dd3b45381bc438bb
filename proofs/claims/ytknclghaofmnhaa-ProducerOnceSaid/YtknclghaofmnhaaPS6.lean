import Derived.Test.YtknclghaofmnhaaPS5
namespace Go.Abs
open Go Go.RowKit
set_option linter.unusedVariables false
set_option linter.unusedSimpArgs false

abbrev rec0 : AVal := .agg [.str [], .str []]
theorem epochs_spec (a b seq : Int) (h0 : I64 a) (h1 : I64 b) (h2 : I64 seq) : W n_law10_ProducerEpochs [.int .i64 a, .int .i64 b, .int .i64 seq] [] = some (.bool true, []) := by
  have wa := fun H => within_spec a 0 900 H (by decide) (by decide) (by decide)
  have wb := fun H => within_spec b 0 900 H (by decide) (by decide) (by decide)
  have ra := withinQ_range a 0 900 (by decide)
  have rb := withinQ_range b 0 900 (by decide)
  generalize withinQ a 0 900 = x at *
  generalize withinQ b 0 900 = y at *
  have e1 : IntKind.i64.wrap (x + 1) = x + 1 := wrap_id (by unfold I64; omega)
  have e2 : IntKind.i64.wrap (x + 1 + y) = x + 1 + y := wrap_id (by unfold I64; omega)
  have hu := and_16 seq
  have hs := and_seq seq
  generalize hs' : seq % 2147483648 = s at hs
  have e3 : IntKind.i64.wrap (1 + seq % 65536) = 1 + seq % 65536 ∧ ¬ (1 + seq % 65536 = 0) := ⟨wrap_id (by unfold I64; omega), by omega⟩
  generalize hu' : seq % 65536 = u at hu e3
  have A1 : ∀ H, W n_producer_Apply [.agg [.int .i64 0, .int .i64 0, .list 3 [] .ro, .int .i64 0], .bool false, .agg [.int .i64 1, .int .i64 2, .int .i64 x, .int .i64 s, .bool false, .int .i64 0, .list 2 [rec0] .ro]] H = _ := fun H => apply_spec ⟨0, 0, [], 0⟩ false ⟨1, 2, x, s, false, 0, [rec0]⟩ H (by simp) (by simp)
  have a1 : applyQ ⟨0, 0, [], 0⟩ false ⟨1, 2, x, s, false, 0, [rec0]⟩ = ⟨2, x, [(s, lastQ s 1, 1)], -1⟩ := by simp [applyQ]
  rw [a1] at A1
  have C1 : ∀ H, W n_producer_Check [.agg [.int .i64 2, .int .i64 x, lastV [(s, lastQ s 1, 1)] .ro, .int .i64 (-1)], .bool true, .agg [.int .i64 2, .int .i64 2, .int .i64 (x + 1 + y), .int .i64 (1 + u), .bool false, .int .i64 0, .list 2 [rec0] .ro]] H = _ := fun H => check_spec ⟨2, x, [(s, lastQ s 1, 1)], -1⟩ true ⟨2, 2, x + 1 + y, 1 + u, false, 0, [rec0]⟩ H (by simp) (by simp)
  have c1 : checkQ ⟨2, x, [(s, lastQ s 1, 1)], -1⟩ true ⟨2, 2, x + 1 + y, 1 + u, false, 0, [rec0]⟩ = (-1, 15) := by
    have h1 : ¬ (x + 1 + y < x) := by omega
    have h2 : x < x + 1 + y := by omega
    simp [checkQ, h1, h2, e3.2]
  have C2 : ∀ H, W n_producer_Check [.agg [.int .i64 2, .int .i64 x, lastV [(s, lastQ s 1, 1)] .ro, .int .i64 (-1)], .bool true, .agg [.int .i64 2, .int .i64 2, .int .i64 (x + 1 + y), .int .i64 0, .bool false, .int .i64 0, .list 2 [rec0] .ro]] H = _ := fun H => check_spec ⟨2, x, [(s, lastQ s 1, 1)], -1⟩ true ⟨2, 2, x + 1 + y, 0, false, 0, [rec0]⟩ H (by simp) (by simp)
  have c2 : checkQ ⟨2, x, [(s, lastQ s 1, 1)], -1⟩ true ⟨2, 2, x + 1 + y, 0, false, 0, [rec0]⟩ = (-1, 0) := by
    have h1 : ¬ (x + 1 + y < x) := by omega
    have h2 : x < x + 1 + y := by omega
    simp [checkQ, h1, h2]
  have A2 : ∀ H, W n_producer_Apply [.agg [.int .i64 2, .int .i64 x, lastV [(s, lastQ s 1, 1)] .ro, .int .i64 (-1)], .bool true, .agg [.int .i64 2, .int .i64 2, .int .i64 (x + 1 + y), .int .i64 0, .bool false, .int .i64 0, .list 2 [rec0] .ro]] H = _ := fun H => apply_spec ⟨2, x, [(s, lastQ s 1, 1)], -1⟩ true ⟨2, 2, x + 1 + y, 0, false, 0, [rec0]⟩ H (by simp) (by simp)
  have a2 : applyQ ⟨2, x, [(s, lastQ s 1, 1)], -1⟩ true ⟨2, 2, x + 1 + y, 0, false, 0, [rec0]⟩ = ⟨2, x + 1 + y, [(0, lastQ 0 1, 2)], -1⟩ := by
    have h1 : ¬ (x + 1 + y = x) := by omega
    simp [applyQ, h1]
  rw [a2] at A2
  have C3 : ∀ H, W n_producer_Check [.agg [.int .i64 2, .int .i64 (x + 1 + y), lastV [(0, lastQ 0 1, 2)] .ro, .int .i64 (-1)], .bool true, .agg [.int .i64 3, .int .i64 2, .int .i64 x, .int .i64 s, .bool false, .int .i64 0, .list 2 [rec0] .ro]] H = _ := fun H => check_spec ⟨2, x + 1 + y, [(0, lastQ 0 1, 2)], -1⟩ true ⟨3, 2, x, s, false, 0, [rec0]⟩ H (by simp) (by simp)
  have c3 : checkQ ⟨2, x + 1 + y, [(0, lastQ 0 1, 2)], -1⟩ true ⟨3, 2, x, s, false, 0, [rec0]⟩ = (-1, 14) := by
    have h1 : x < x + 1 + y := by omega
    simp [checkQ, h1]
  rw [c1] at C1; rw [c2] at C2; rw [c3] at C3
  simp only [Pr.v, lastV, t3, List.map_cons, List.map_nil] at A1 A2 C1 C2 C3
  refine W_fn rfl rfl ?_
  simp only [go_sem, c_law10_ProducerEpochs, wa, wb, e1, e2, e3.1, hs, hu, A1, A2, C1, C2, C3, known_spec, not_true_eq_false, not_false_eq_true, decide_true, decide_false, reduceCtorEq, ne_eq, Bool.false_eq_true, ↓reduceIte, Nat.reduceAdd, Nat.reduceEqDiff, Nat.reduceLT, Int.reduceLE, s_shl, s_shr, Bool.not_false, Bool.not_true, Bool.and_self, Bool.true_and, Bool.and_true, Bool.and_false, Bool.false_and, Bool.not_true, Bool.true_or, Bool.or_true, Nat.reduceSub, Nat.reduceLeDiff, Nat.reduceMul, Int.reduceToNat, Int.reduceLT, Int.reduceEq, Int.reduceNeg, and_self, and_true, true_and, and_false, false_and, or_true, true_or, or_false, false_or, Int.cast_ofNat_Int, Nat.reduceBEq, Nat.reduceBNe, beq_self_eq_true]
end Go.Abs
