import Derived.Test.YtknclghaofmnhaaPS8
namespace Go.Abs
open Go Go.RowKit
set_option linter.unusedVariables false
set_option linter.unusedSimpArgs false

theorem markers_spec (a n m : Int) (ha : I64 a) (hn : I64 n) (hm : I64 m) : W n_law10_ProducerMarkers [.int .i64 a, .int .i64 n, .int .i64 m] [] = some (.bool true, []) := by
  have hs := and_seq a
  have hr := withinQ_range n 0 6 (by decide)
  obtain ⟨d, hd⟩ : ∃ d : Nat, (d : Int) = withinQ n 0 6 + 1 := ⟨(withinQ n 0 6 + 1).toNat, by omega⟩
  obtain ⟨N, hN⟩ := mark_loop a n m hn [] d 0 [] .full false (.inr ⟨rfl, rfl⟩) rfl (by omega)
  have hw := fun H => within_spec m 0 1 H (by decide) (by decide) (by decide)
  have hr2 := withinQ_range m 0 1 (by decide)
  generalize withinQ m 0 1 = x at hw hr2
  have e1 : IntKind.i64.wrap (1 + x) = 1 + x := wrap_id (by unfold I64; omega)
  obtain ⟨d, rfl⟩ : ∃ e, d = e + 1 := ⟨d - 1, by omega⟩
  rw [if_neg (by omega), Nat.zero_add] at hN
  have e0 : (a + ((0 : Nat) : Int)) % 2147483648 = a % 2147483648 := by simp
  have e00 : (((0 : Nat) : Int)) = 0 := rfl
  rw [e0, e00, show pm a 0 = ⟨0, 0, [], 0⟩ from rfl] at hN
  simp only [lastV, List.map_nil] at hN
  have hp := pm_len a (d + 1)
  let mm : Ba := ⟨40, 2, 1, -1, true, 1 + x, []⟩
  have hne : lastOf (Bm a (d + 1)) ≠ [] := lastOf_ne _ _
  have C1 : ∀ H, W n_producer_Check [.agg [.int .i64 (pm a (d + 1)).id, .int .i64 (pm a (d + 1)).ep, lastV (pm a (d + 1)).last .ro, .int .i64 (pm a (d + 1)).op], .bool true, .agg [.int .i64 40, .int .i64 2, .int .i64 1, .int .i64 (-1), .bool true, .int .i64 (1 + x), .list 2 [] .ro]] H = _ := fun H => check_spec (pm a (d + 1)) true mm H (by omega) (by simp [mm])
  have A1 : ∀ H, W n_producer_Apply [.agg [.int .i64 (pm a (d + 1)).id, .int .i64 (pm a (d + 1)).ep, lastV (pm a (d + 1)).last .ro, .int .i64 (pm a (d + 1)).op], .bool true, .agg [.int .i64 40, .int .i64 2, .int .i64 1, .int .i64 (-1), .bool true, .int .i64 (1 + x), .list 2 [] .ro]] H = _ := fun H => apply_spec (pm a (d + 1)) true mm H (by omega) (by simp [mm])
  have C2 : ∀ H, W n_producer_Check [.agg [.int .i64 2, .int .i64 1, lastV (lastOf (Bm a (d + 1))) .ro, .int .i64 (-1)], .bool true, .agg [.int .i64 40, .int .i64 2, .int .i64 1, .int .i64 (-1), .bool true, .int .i64 (1 + x), .list 2 [] .ro]] H = _ := fun H => check_spec ⟨2, 1, lastOf (Bm a (d + 1)), -1⟩ true mm H (by simp only; simp only [pm] at hp; omega) (by simp [mm])
  have hx0 : ¬ (1 + x = 0) := by omega
  have c1 : checkQ (pm a (d + 1)) true mm = (-1, 0) := by
    simp [checkQ, mm, pm, hx0]
  have a1 : applyQ (pm a (d + 1)) true mm = ⟨2, 1, lastOf (Bm a (d + 1)), -1⟩ := by
    simp [applyQ, mm, pm, hx0]
  have c2 : checkQ ⟨2, 1, lastOf (Bm a (d + 1)), -1⟩ true mm = (-1, 16) := by
    simp [checkQ, mm, hx0]
  rw [c1] at C1; rw [a1] at A1; rw [c2] at C2
  have hlen : ((lastOf (Bm a (d + 1))).map t3).length = (lastOf (Bm a (d + 1))).length := by simp
  have hpos : ((lastOf (Bm a (d + 1))).length : Int) > 0 := by
    have := List.length_pos_iff.2 hne
    omega
  simp only [Pr.v] at A1
  generalize pm a (d + 1) = p at *
  generalize lastOf (Bm a (d + 1)) = l at *
  refine W_fn rfl rfl ?_
  simp only [go_sem, c_law10_ProducerMarkers, hs, hN, hw, e1, C1, A1, C2, hlen, hpos, known_spec, not_true_eq_false, not_false_eq_true, decide_true, decide_false, reduceCtorEq, ne_eq, Bool.false_eq_true, ↓reduceIte, Nat.reduceAdd, Nat.reduceEqDiff, Nat.reduceLT, Int.reduceLE, s_shl, s_shr, Bool.not_false, Bool.not_true, Bool.and_self, Bool.true_and, Bool.and_true, Bool.and_false, Bool.false_and, Bool.not_true, Bool.true_or, Bool.or_true, Nat.reduceSub, Nat.reduceLeDiff, Nat.reduceMul, Int.reduceToNat, Int.reduceLT, Int.reduceEq, Int.reduceNeg, and_self, and_true, true_and, and_false, false_and, or_true, true_or, or_false, false_or, Int.cast_ofNat_Int, Nat.reduceBEq, Nat.reduceBNe, beq_self_eq_true]
end Go.Abs
