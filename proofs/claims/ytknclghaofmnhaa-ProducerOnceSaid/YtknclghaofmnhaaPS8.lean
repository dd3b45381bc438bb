import Derived.Test.YtknclghaofmnhaaPS7
namespace Go.Abs
open Go Go.RowKit
set_option linter.unusedVariables false
set_option linter.unusedSimpArgs false

def mb (f : Int) (k : Nat) : Ba := ⟨10 + k, 2, 1, (f + k) % 2147483648, true, 0, [rec0]⟩
def Bm (f : Int) : Nat → List Ba
  | 0 => []
  | k + 1 => Bm f k ++ [mb f k]
theorem Bm_sum (f) : ∀ k, sumL (Bm f k) = k
  | 0 => rfl
  | k + 1 => by rw [Bm, sumL_app, Bm_sum f k]; rfl
theorem Bm_good (f) : ∀ k, Good f 1 0 (Bm f k)
  | 0 => trivial
  | k + 1 => by
    rw [Bm, Good.app, Bm_sum, Nat.zero_add]
    exact ⟨Bm_good f k, ⟨rfl, by simp [mb], by simp [mb], rfl, rfl⟩, trivial⟩
def pm (f : Int) : Nat → Pr
  | 0 => ⟨0, 0, [], 0⟩
  | k + 1 => ⟨2, 1, lastOf (Bm f (k + 1)), 10⟩
theorem pm_apply (f) (k : Nat) : applyQ (pm f k) (decide (k ≠ 0)) (mb f k) = pm f (k + 1) := by
  cases k with
  | zero => simp [applyQ, pm, mb, lastOf, Bm, tri]
  | succ k =>
    unfold applyQ
    have h1 : (decide (k + 1 ≠ 0)) = true := by simp
    rw [h1]
    simp only [pm, if_true]
    have h2 : (mb f (k + 1)).mark = 0 := rfl
    have h3 : (mb f (k + 1)).ep = 1 := rfl
    rw [h2, h3, if_neg (by simp), if_pos ⟨trivial, rfl⟩, if_neg (by omega)]
    rw [show Bm f (k + 1 + 1) = Bm f (k + 1) ++ [mb f (k + 1)] from rfl, lastOf_snoc]
    rfl
theorem pm_check (f) (k : Nat) (hk : k ≤ 100) : checkQ (pm f k) (decide (k ≠ 0)) (mb f k) = (-1, 0) := by
  cases k with
  | zero => rfl
  | succ k =>
    have h1 : (decide (k + 1 ≠ 0)) = true := by simp
    rw [h1]
    exact check_next (Bm_good f _) (by rw [Bm_sum]; omega) (by rw [Bm_sum]; rfl) rfl rfl (by simp [Bm]) (.inr rfl)
theorem pm_check2 (f) (k : Nat) (hk : k ≤ 100) : checkQ (pm f (k + 1)) true ⟨10 + k, 2, 1, (f + (k + 1 : Nat)) % 2147483648, false, 0, [rec0]⟩ = (-1, 16) :=
  check_next' (Bm_good f (k + 1)) (by rw [Bm_sum]; omega) (by rw [Bm_sum]) rfl rfl (by simp [Bm]) ⟨by decide, rfl⟩
theorem pm_len (f k) : (pm f k).last.length ≤ 5 := by
  cases k with
  | zero => simp [pm]
  | succ k => show (lastOf (Bm f (k + 1))).length ≤ 5; rw [lastOf_len]; omega
theorem pm_flat (f k fl) : AVal.agg [.int .i64 (pm f k).id, .int .i64 (pm f k).ep, lastV (pm f k).last fl, .int .i64 (pm f k).op] = AVal.agg [.int .i64 (pm f k).id, .int .i64 (pm f k).ep, lastV (pm f k).last fl, .int .i64 (pm f k).op] := rfl

/-- The loop: from the k-th on. -/
theorem mark_loop (f n m : Int) (hn : I64 n) (H : Heap) (d : Nat) : ∀ (k : Nat) (M : Heap) (fl : Fl) (b : Bool), (fl = .ro ∨ (fl = .full ∧ k = 0)) → b = decide (k ≠ 0) → ((k + d : Nat) : Int) = withinQ n 0 6 + 1 →
    ∃ N, loopA W loopW (.ghost (.kill k_law10_ProducerMarkers_0) l_law10_ProducerMarkers_0) [(1, .int .i64 n), (2, .int .i64 m), (7, .ptr (pt H 0) 0), (8, .bool b), (9, .int .i64 ((f + (k : Nat)) % 2147483648)), (10, .int .i64 ((k : Nat) : Int))]
      (hx H (.cells [.int .i64 (pm f k).id, .int .i64 (pm f k).ep, lastV (pm f k).last fl, .int .i64 (pm f k).op] :: M)) =
      some (.exit 0, [(2, .int .i64 m), (7, .ptr (pt H 0) 0)], hx H (.cells [.int .i64 (pm f (k + d)).id, .int .i64 (pm f (k + d)).ep, lastV (pm f (k + d)).last (if d = 0 then fl else .ro), .int .i64 (pm f (k + d)).op] :: N)) := by
  have hw := fun H => within_spec n 0 6 H (by decide) (by decide) (by decide)
  have hr := withinQ_range n 0 6 (by decide)
  induction d with
  | zero =>
    intro k M fl b hfl hb hk
    refine ⟨M, loop_step l_law10_ProducerMarkers_0.eq_1 k_law10_ProducerMarkers_0.eq_1 (by kernel_rfl) ?_⟩
    have h1 : ¬ (((k : Nat) : Int) ≤ withinQ n 0 6) := by omega
    simp only [go_sem, hw, h1, Nat.add_zero, not_true_eq_false, not_false_eq_true, decide_true, decide_false, reduceCtorEq, ne_eq, Bool.false_eq_true, ↓reduceIte, Nat.reduceAdd, Nat.reduceEqDiff, Nat.reduceLT, Int.reduceLE, s_shl, s_shr, Bool.not_false, Bool.not_true, Bool.and_self, Bool.true_and, Bool.and_true, Bool.and_false, Bool.false_and, Bool.not_true, Bool.true_or, Bool.or_true, Nat.reduceSub, Nat.reduceLeDiff, Nat.reduceMul, Int.reduceToNat, Int.reduceLT, Int.reduceEq, Int.reduceNeg, and_self, and_true, true_and, and_false, false_and, or_true, true_or, or_false, false_or, Int.cast_ofNat_Int, Nat.reduceBEq, Nat.reduceBNe, beq_self_eq_true]
  | succ d ih =>
    intro k M fl b hfl hb hk
    have h1 : ((k : Nat) : Int) ≤ withinQ n 0 6 := by omega
    have e1 : IntKind.i64.wrap (10 + ((k : Nat) : Int)) = 10 + (k : Nat) := wrap_id (by unfold I64; omega)
    have e2 : IntKind.i64.wrap ((f + (k : Nat)) % 2147483648 + 1) = (f + (k : Nat)) % 2147483648 + 1 := wrap_id (by unfold I64; omega)
    have e3 : bits .and .i64 ((f + (k : Nat)) % 2147483648 + 1) 2147483647 = (f + (k + 1 : Nat)) % 2147483648 := by rw [and_seq]; omega
    have e4 : IntKind.i64.wrap (((k : Nat) : Int) + 1) = ((k + 1 : Nat) : Int) := by rw [wrap_id (by unfold I64; omega)]; omega
    have hp := pm_len f k
    have hp1 := pm_len f (k + 1)
    have C1 : ∀ H, W n_producer_Check [.agg [.int .i64 (pm f k).id, .int .i64 (pm f k).ep, lastV (pm f k).last .ro, .int .i64 (pm f k).op], .bool b, .agg [.int .i64 (10 + (k : Nat)), .int .i64 2, .int .i64 1, .int .i64 ((f + (k : Nat)) % 2147483648), .bool true, .int .i64 0, .list 2 [rec0] .ro]] H = _ := fun H => check_spec (pm f k) b (mb f k) H (by omega) (by simp [mb])
    have A1 : ∀ H, W n_producer_Apply [.agg [.int .i64 (pm f k).id, .int .i64 (pm f k).ep, lastV (pm f k).last .ro, .int .i64 (pm f k).op], .bool b, .agg [.int .i64 (10 + (k : Nat)), .int .i64 2, .int .i64 1, .int .i64 ((f + (k : Nat)) % 2147483648), .bool true, .int .i64 0, .list 2 [rec0] .ro]] H = _ := fun H => apply_spec (pm f k) b (mb f k) H (by omega) (by simp [mb])
    have C2 : ∀ H, W n_producer_Check [.agg [.int .i64 (pm f (k + 1)).id, .int .i64 (pm f (k + 1)).ep, lastV (pm f (k + 1)).last .ro, .int .i64 (pm f (k + 1)).op], .bool true, .agg [.int .i64 (10 + (k : Nat)), .int .i64 2, .int .i64 1, .int .i64 ((f + (k + 1 : Nat)) % 2147483648), .bool false, .int .i64 0, .list 2 [rec0] .ro]] H = _ := fun H => check_spec (pm f (k + 1)) true ⟨10 + k, 2, 1, (f + (k + 1 : Nat)) % 2147483648, false, 0, [rec0]⟩ H (by omega) (by simp)
    rw [hb, pm_check f k (by omega)] at C1
    rw [hb, pm_apply f k] at A1
    rw [pm_check2 f k (by omega)] at C2
    have hop : (pm f (k + 1)).op = 10 := rfl
    obtain ⟨N, hN⟩ := ih (k + 1) (M ++ [.cells [.int .i64 (10 + (k : Nat)), .int .i64 2, .int .i64 1, .int .i64 ((f + (k + 1 : Nat)) % 2147483648), .bool false, .int .i64 0, .list 2 [rec0] .ro]]) .ro true (.inl rfl) (by simp) (by omega)
    refine ⟨N, loop_step l_law10_ProducerMarkers_0.eq_1 k_law10_ProducerMarkers_0.eq_1 (by kernel_rfl) ?_⟩
    subst hb
    have hif : (if d = 0 then Fl.ro else Fl.ro) = .ro := by split <;> rfl
    rw [hif, show k + 1 + d = k + (d + 1) by omega] at hN
    have hfin : (if d + 1 = 0 then fl else Fl.ro) = .ro := if_neg (by omega)
    rw [hfin]
    generalize pm f k = p at C1 A1 ⊢
    generalize pm f (k + 1) = p' at C2 A1 hop hN
    generalize decide (k ≠ 0) = b at C1 A1 ⊢
    rcases hfl with rfl | ⟨rfl, _⟩
    · simp only [go_sem, hw, h1, e1, e2, e3, e4, C1, A1, C2, eq_true hop, not_true_eq_false, not_false_eq_true, decide_true, decide_false, reduceCtorEq, ne_eq, Bool.false_eq_true, ↓reduceIte, Nat.reduceAdd, Nat.reduceEqDiff, Nat.reduceLT, Int.reduceLE, s_shl, s_shr, Bool.not_false, Bool.not_true, Bool.and_self, Bool.true_and, Bool.and_true, Bool.and_false, Bool.false_and, Bool.not_true, Bool.true_or, Bool.or_true, Nat.reduceSub, Nat.reduceLeDiff, Nat.reduceMul, Int.reduceToNat, Int.reduceLT, Int.reduceEq, Int.reduceNeg, and_self, and_true, true_and, and_false, false_and, or_true, true_or, or_false, false_or, Int.cast_ofNat_Int, Nat.reduceBEq, Nat.reduceBNe, beq_self_eq_true]
      exact hN
    · simp only [go_sem, hw, h1, e1, e2, e3, e4, C1, A1, C2, eq_true hop, not_true_eq_false, not_false_eq_true, decide_true, decide_false, reduceCtorEq, ne_eq, Bool.false_eq_true, ↓reduceIte, Nat.reduceAdd, Nat.reduceEqDiff, Nat.reduceLT, Int.reduceLE, s_shl, s_shr, Bool.not_false, Bool.not_true, Bool.and_self, Bool.true_and, Bool.and_true, Bool.and_false, Bool.false_and, Bool.not_true, Bool.true_or, Bool.or_true, Nat.reduceSub, Nat.reduceLeDiff, Nat.reduceMul, Int.reduceToNat, Int.reduceLT, Int.reduceEq, Int.reduceNeg, and_self, and_true, true_and, and_false, false_and, or_true, true_or, or_false, false_or, Int.cast_ofNat_Int, Nat.reduceBEq, Nat.reduceBNe, beq_self_eq_true]
      exact hN
end Go.Abs
