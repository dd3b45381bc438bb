import Derived.Test.YtknclghaofmnhaaPS9
namespace Go.Abs
open Go Go.RowKit
set_option linter.unusedVariables false
set_option linter.unusedSimpArgs false

def okT (t : Int × Int × Int) : Bool := rightQ t.1 && (rightQ t.2.1 && (decide (¬ gapQ t.1 t.2.1 ≥ 16) && (decide (¬ t.2.2 < 0) && decide (¬ t.2.2 > 1099511627776))))
def okP (q t : Int × Int × Int) : Bool := decide (¬ t.2.2 ≤ q.2.2) && followsQ q.2.1 t.1
def batchesQ : Option (Int × Int × Int) → List (Int × Int × Int) → Bool
  | _, [] => true
  | none, t :: ts => okT t && batchesQ (some t) ts
  | some q, t :: ts => okT t && (okP q t && batchesQ (some t) ts)
def rightPQ (p : Pr) : Bool := decide (p.id ≥ 0) && (decide (p.ep ≥ 0) && (decide (p.ep ≤ 32767) && ((batchesQ none p.last && decide ((p.last.length : Int) ≤ 5)) && (decide (p.op ≥ -1) && decide (p.op ≤ 1099511627776)))))

theorem batches_loop (l : List (Int × Int × Int)) (hl : l.length < 1000000) : ∀ (r s : List (Int × Int × Int)) (H : Heap), l = s ++ r →
    ∃ N, loopA W loopW (.ghost (.kill k_producer_batches_0) l_producer_batches_0) [(0, lastV l .ro), (5, lastV l .ro), (6, .int .i64 l.length), (7, .int .i64 (s.length : Int))] H =
      if batchesQ s.getLast? r = true then some (.exit 0, [(0, lastV l .ro)], hx H N) else some (.ret, [(2, .bool false)], hx H N) := by
  intro r
  induction r with
  | nil =>
    intro s H hp
    refine ⟨[], ?_⟩
    rw [List.append_nil] at hp
    have h1 : ¬ ((s.length : Int) < (l.length : Int)) := by rw [hp]; omega
    have e0 : batchesQ s.getLast? [] = true := by cases s.getLast? <;> rfl
    rw [e0, if_pos rfl, hx_nil]
    refine loop_step l_producer_batches_0.eq_1 k_producer_batches_0.eq_1 (by kernel_rfl) ?_
    simp only [go_sem, h1, not_true_eq_false, not_false_eq_true, decide_true, decide_false, reduceCtorEq, ne_eq, Bool.false_eq_true, ↓reduceIte, Nat.reduceAdd, Nat.reduceEqDiff, Nat.reduceLT, Int.reduceLE, s_shl, s_shr, Bool.not_false, Bool.not_true, Bool.and_self, Bool.true_and, Bool.and_true, Bool.and_false, Bool.false_and, Bool.not_true, Bool.true_or, Bool.or_true, Nat.reduceSub, Nat.reduceLeDiff, Nat.reduceMul, Int.reduceToNat, Int.reduceLT, Int.reduceEq, Int.reduceNeg, and_self, and_true, true_and, and_false, false_and, or_true, true_or, or_false, false_or, Int.cast_ofNat_Int, Nat.reduceBEq, Nat.reduceBNe, beq_self_eq_true]
  | cons t r ih =>
    intro s H hp
    have hlen : l.length = s.length + (r.length + 1) := by rw [hp, List.length_append, List.length_cons]
    have h1 : (s.length : Int) < (l.length : Int) := by omega
    have h2 : (0 : Int) ≤ (s.length : Int) := by omega
    have h3 : (l.map t3)[((s.length : Nat) : Int).toNat]? = some (t3 t) := by rw [hp]; simp
    have e1 : IntKind.i64.wrap ((s.length : Int) + 1) = ((s ++ [t]).length : Int) := by rw [wrap_id (by unfold I64; omega)]; simp
    have q1 := fun H => right_spec t.1 H
    have q2 := fun H => right_spec t.2.1 H
    have q3 := fun H => gap_spec t.1 t.2.1 H
    have ht : ∀ H : Heap, hx H [] = H := hx_nil
    by_cases hok : okT t = true
    · have hok' := hok
      simp only [okT, Bool.and_eq_true, decide_eq_true_eq] at hok'
      obtain ⟨c1, c2, c3, c4, c5⟩ := hok'
      rw [c1] at q1; rw [c2] at q2
      obtain ⟨N, hN⟩ := ih (s ++ [t]) (hx H [.cells [.int .i64 t.1, .int .i64 t.2.1, .int .i64 t.2.2]]) (by rw [hp]; simp)
      rw [show (s ++ [t]).getLast? = some t by simp] at hN
      rw [hx_hx, List.cons_append, List.nil_append] at hN
      obtain ⟨R, hR⟩ : ∃ R, (if batchesQ (some t) r = true then some (Out.exit 0, ([(0, lastV l .ro)] : Env), hx H (.cells [.int .i64 t.1, .int .i64 t.2.1, .int .i64 t.2.2] :: N)) else some (Out.ret, [(2, .bool false)], hx H (.cells [.int .i64 t.1, .int .i64 t.2.1, .int .i64 t.2.2] :: N))) = some R := by
        split <;> exact ⟨_, rfl⟩
      rw [hR] at hN
      rcases List.eq_nil_or_concat s with h0 | ⟨s', q, h0⟩
      · refine ⟨.cells [.int .i64 t.1, .int .i64 t.2.1, .int .i64 t.2.2] :: N, ?_⟩
        have hb : batchesQ s.getLast? (t :: r) = batchesQ (some t) r := by rw [h0]; show (okT t && _) = _; rw [hok]; rfl
        have g0 : ¬ ((s.length : Int) > 0) := by rw [h0]; simp
        rw [hb, hR]
        refine loop_step l_producer_batches_0.eq_1 k_producer_batches_0.eq_1 (by kernel_rfl) ?_
        rw [← hx_nil H]
        simp only [go_sem, h1, h2, h3, e1, q1, q2, q3, c3, c4, c5, g0, not_true_eq_false, not_false_eq_true, decide_true, decide_false, reduceCtorEq, ne_eq, Bool.false_eq_true, ↓reduceIte, Nat.reduceAdd, Nat.reduceEqDiff, Nat.reduceLT, Int.reduceLE, s_shl, s_shr, Bool.not_false, Bool.not_true, Bool.and_self, Bool.true_and, Bool.and_true, Bool.and_false, Bool.false_and, Bool.not_true, Bool.true_or, Bool.or_true, Nat.reduceSub, Nat.reduceLeDiff, Nat.reduceMul, Int.reduceToNat, Int.reduceLT, Int.reduceEq, Int.reduceNeg, and_self, and_true, true_and, and_false, false_and, or_true, true_or, or_false, false_or, Int.cast_ofNat_Int, Nat.reduceBEq, Nat.reduceBNe, beq_self_eq_true]
        exact hN
      · rw [List.concat_eq_append] at h0
        have hb : batchesQ s.getLast? (t :: r) = (okP q t && batchesQ (some t) r) := by rw [h0]; simp [batchesQ, hok]
        have g0 : (s.length : Int) > 0 := by rw [h0]; simp
        have g1 : IntKind.i64.wrap ((s.length : Int) - 1) = ((s.length - 1 : Nat) : Int) := by rw [wrap_id (by unfold I64; omega)]; omega
        have g2 : (l.map t3)[((s.length - 1 : Nat) : Int).toNat]? = some (t3 q) := by rw [hp, h0]; simp
        have g3 : (0 : Int) ≤ ((s.length - 1 : Nat) : Int) := by omega
        have q4 := fun H => follows_spec q.2.1 t.1 H
        by_cases d1 : t.2.2 ≤ q.2.2
        · refine ⟨[.cells [.int .i64 t.1, .int .i64 t.2.1, .int .i64 t.2.2]], ?_⟩
          have hf : okP q t = false := by simp [okP, d1]
          rw [hb, hf, Bool.false_and, if_neg (by decide)]
          refine loop_step l_producer_batches_0.eq_1 k_producer_batches_0.eq_1 (by kernel_rfl) ?_
          rw [← hx_nil H]
          simp only [go_sem, h1, h2, h3, e1, q1, q2, q3, c3, c4, c5, g0, g1, g2, g3, d1, not_true_eq_false, not_false_eq_true, decide_true, decide_false, reduceCtorEq, ne_eq, Bool.false_eq_true, ↓reduceIte, Nat.reduceAdd, Nat.reduceEqDiff, Nat.reduceLT, Int.reduceLE, s_shl, s_shr, Bool.not_false, Bool.not_true, Bool.and_self, Bool.true_and, Bool.and_true, Bool.and_false, Bool.false_and, Bool.not_true, Bool.true_or, Bool.or_true, Nat.reduceSub, Nat.reduceLeDiff, Nat.reduceMul, Int.reduceToNat, Int.reduceLT, Int.reduceEq, Int.reduceNeg, and_self, and_true, true_and, and_false, false_and, or_true, true_or, or_false, false_or, Int.cast_ofNat_Int, Nat.reduceBEq, Nat.reduceBNe, beq_self_eq_true]
        · cases d2 : followsQ q.2.1 t.1 with
          | false =>
            refine ⟨[.cells [.int .i64 t.1, .int .i64 t.2.1, .int .i64 t.2.2]], ?_⟩
            have hf : okP q t = false := by simp [okP, d2]
            rw [d2] at q4
            rw [hb, hf, Bool.false_and, if_neg (by decide)]
            refine loop_step l_producer_batches_0.eq_1 k_producer_batches_0.eq_1 (by kernel_rfl) ?_
            rw [← hx_nil H]
            simp only [go_sem, h1, h2, h3, e1, q1, q2, q3, q4, c3, c4, c5, g0, g1, g2, g3, d1, not_true_eq_false, not_false_eq_true, decide_true, decide_false, reduceCtorEq, ne_eq, Bool.false_eq_true, ↓reduceIte, Nat.reduceAdd, Nat.reduceEqDiff, Nat.reduceLT, Int.reduceLE, s_shl, s_shr, Bool.not_false, Bool.not_true, Bool.and_self, Bool.true_and, Bool.and_true, Bool.and_false, Bool.false_and, Bool.not_true, Bool.true_or, Bool.or_true, Nat.reduceSub, Nat.reduceLeDiff, Nat.reduceMul, Int.reduceToNat, Int.reduceLT, Int.reduceEq, Int.reduceNeg, and_self, and_true, true_and, and_false, false_and, or_true, true_or, or_false, false_or, Int.cast_ofNat_Int, Nat.reduceBEq, Nat.reduceBNe, beq_self_eq_true]
          | true =>
            refine ⟨.cells [.int .i64 t.1, .int .i64 t.2.1, .int .i64 t.2.2] :: N, ?_⟩
            have hf : okP q t = true := by simp [okP, d2, d1]
            rw [d2] at q4
            rw [hb, hf, Bool.true_and, hR]
            refine loop_step l_producer_batches_0.eq_1 k_producer_batches_0.eq_1 (by kernel_rfl) ?_
            rw [← hx_nil H]
            simp only [go_sem, h1, h2, h3, e1, q1, q2, q3, q4, c3, c4, c5, g0, g1, g2, g3, d1, not_true_eq_false, not_false_eq_true, decide_true, decide_false, reduceCtorEq, ne_eq, Bool.false_eq_true, ↓reduceIte, Nat.reduceAdd, Nat.reduceEqDiff, Nat.reduceLT, Int.reduceLE, s_shl, s_shr, Bool.not_false, Bool.not_true, Bool.and_self, Bool.true_and, Bool.and_true, Bool.and_false, Bool.false_and, Bool.not_true, Bool.true_or, Bool.or_true, Nat.reduceSub, Nat.reduceLeDiff, Nat.reduceMul, Int.reduceToNat, Int.reduceLT, Int.reduceEq, Int.reduceNeg, and_self, and_true, true_and, and_false, false_and, or_true, true_or, or_false, false_or, Int.cast_ofNat_Int, Nat.reduceBEq, Nat.reduceBNe, beq_self_eq_true]
            exact hN
    · refine ⟨[.cells [.int .i64 t.1, .int .i64 t.2.1, .int .i64 t.2.2]], ?_⟩
      have hb : batchesQ s.getLast? (t :: r) = false := by
        have : okT t = false := by simpa using hok
        cases s.getLast? <;> simp [batchesQ, this]
      rw [hb, if_neg (by decide)]
      refine loop_step l_producer_batches_0.eq_1 k_producer_batches_0.eq_1 (by kernel_rfl) ?_
      rw [← hx_nil H]
      cases c1 : rightQ t.1 with
      | false => rw [c1] at q1; simp only [go_sem, h1, h2, h3, e1, q1, not_true_eq_false, not_false_eq_true, decide_true, decide_false, reduceCtorEq, ne_eq, Bool.false_eq_true, ↓reduceIte, Nat.reduceAdd, Nat.reduceEqDiff, Nat.reduceLT, Int.reduceLE, s_shl, s_shr, Bool.not_false, Bool.not_true, Bool.and_self, Bool.true_and, Bool.and_true, Bool.and_false, Bool.false_and, Bool.not_true, Bool.true_or, Bool.or_true, Nat.reduceSub, Nat.reduceLeDiff, Nat.reduceMul, Int.reduceToNat, Int.reduceLT, Int.reduceEq, Int.reduceNeg, and_self, and_true, true_and, and_false, false_and, or_true, true_or, or_false, false_or, Int.cast_ofNat_Int, Nat.reduceBEq, Nat.reduceBNe, beq_self_eq_true]
      | true =>
        rw [c1] at q1
        cases c2 : rightQ t.2.1 with
        | false => rw [c2] at q2; simp only [go_sem, h1, h2, h3, e1, q1, q2, not_true_eq_false, not_false_eq_true, decide_true, decide_false, reduceCtorEq, ne_eq, Bool.false_eq_true, ↓reduceIte, Nat.reduceAdd, Nat.reduceEqDiff, Nat.reduceLT, Int.reduceLE, s_shl, s_shr, Bool.not_false, Bool.not_true, Bool.and_self, Bool.true_and, Bool.and_true, Bool.and_false, Bool.false_and, Bool.not_true, Bool.true_or, Bool.or_true, Nat.reduceSub, Nat.reduceLeDiff, Nat.reduceMul, Int.reduceToNat, Int.reduceLT, Int.reduceEq, Int.reduceNeg, and_self, and_true, true_and, and_false, false_and, or_true, true_or, or_false, false_or, Int.cast_ofNat_Int, Nat.reduceBEq, Nat.reduceBNe, beq_self_eq_true]
        | true =>
          rw [c2] at q2
          by_cases c3 : gapQ t.1 t.2.1 ≥ 16
          · simp only [go_sem, h1, h2, h3, e1, q1, q2, q3, c3, not_true_eq_false, not_false_eq_true, decide_true, decide_false, reduceCtorEq, ne_eq, Bool.false_eq_true, ↓reduceIte, Nat.reduceAdd, Nat.reduceEqDiff, Nat.reduceLT, Int.reduceLE, s_shl, s_shr, Bool.not_false, Bool.not_true, Bool.and_self, Bool.true_and, Bool.and_true, Bool.and_false, Bool.false_and, Bool.not_true, Bool.true_or, Bool.or_true, Nat.reduceSub, Nat.reduceLeDiff, Nat.reduceMul, Int.reduceToNat, Int.reduceLT, Int.reduceEq, Int.reduceNeg, and_self, and_true, true_and, and_false, false_and, or_true, true_or, or_false, false_or, Int.cast_ofNat_Int, Nat.reduceBEq, Nat.reduceBNe, beq_self_eq_true]
          · by_cases c4 : t.2.2 < 0
            · simp only [go_sem, h1, h2, h3, e1, q1, q2, q3, c3, c4, not_true_eq_false, not_false_eq_true, decide_true, decide_false, reduceCtorEq, ne_eq, Bool.false_eq_true, ↓reduceIte, Nat.reduceAdd, Nat.reduceEqDiff, Nat.reduceLT, Int.reduceLE, s_shl, s_shr, Bool.not_false, Bool.not_true, Bool.and_self, Bool.true_and, Bool.and_true, Bool.and_false, Bool.false_and, Bool.not_true, Bool.true_or, Bool.or_true, Nat.reduceSub, Nat.reduceLeDiff, Nat.reduceMul, Int.reduceToNat, Int.reduceLT, Int.reduceEq, Int.reduceNeg, and_self, and_true, true_and, and_false, false_and, or_true, true_or, or_false, false_or, Int.cast_ofNat_Int, Nat.reduceBEq, Nat.reduceBNe, beq_self_eq_true]
            · have c5 : t.2.2 > 1099511627776 := by
                simp only [okT, c1, c2, c3, c4] at hok; simpa using hok
              simp only [go_sem, h1, h2, h3, e1, q1, q2, q3, c3, c4, c5, not_true_eq_false, not_false_eq_true, decide_true, decide_false, reduceCtorEq, ne_eq, Bool.false_eq_true, ↓reduceIte, Nat.reduceAdd, Nat.reduceEqDiff, Nat.reduceLT, Int.reduceLE, s_shl, s_shr, Bool.not_false, Bool.not_true, Bool.and_self, Bool.true_and, Bool.and_true, Bool.and_false, Bool.false_and, Bool.not_true, Bool.true_or, Bool.or_true, Nat.reduceSub, Nat.reduceLeDiff, Nat.reduceMul, Int.reduceToNat, Int.reduceLT, Int.reduceEq, Int.reduceNeg, and_self, and_true, true_and, and_false, false_and, or_true, true_or, or_false, false_or, Int.cast_ofNat_Int, Nat.reduceBEq, Nat.reduceBNe, beq_self_eq_true]
theorem batches_spec (l : List (Int × Int × Int)) (hl : l.length < 1000000) (H : Heap) : W n_producer_batches [lastV l .ro] H = some (.bool (batchesQ none l && decide ((l.length : Int) ≤ 5)), H) := by
  obtain ⟨N, hN⟩ := batches_loop l hl l [] (hx H []) rfl
  have e1 : (l.map t3).length = l.length := by simp
  have e0 : ((([] : List (Int × Int × Int)).length : Nat) : Int) = 0 := rfl
  rw [e0, hx_hx, List.nil_append] at hN
  refine W_fn rfl rfl ?_
  cases h : batchesQ none l with
  | true =>
    rw [show ([] : List (Int × Int × Int)).getLast? = none from rfl, h, if_pos rfl] at hN
    simp only [go_sem, c_producer_batches, e1, hN, not_true_eq_false, not_false_eq_true, decide_true, decide_false, reduceCtorEq, ne_eq, Bool.false_eq_true, ↓reduceIte, Nat.reduceAdd, Nat.reduceEqDiff, Nat.reduceLT, Int.reduceLE, s_shl, s_shr, Bool.not_false, Bool.not_true, Bool.and_self, Bool.true_and, Bool.and_true, Bool.and_false, Bool.false_and, Bool.not_true, Bool.true_or, Bool.or_true, Nat.reduceSub, Nat.reduceLeDiff, Nat.reduceMul, Int.reduceToNat, Int.reduceLT, Int.reduceEq, Int.reduceNeg, and_self, and_true, true_and, and_false, false_and, or_true, true_or, or_false, false_or, Int.cast_ofNat_Int, Nat.reduceBEq, Nat.reduceBNe, beq_self_eq_true]
  | false =>
    rw [show ([] : List (Int × Int × Int)).getLast? = none from rfl, h, if_neg (by decide)] at hN
    simp only [go_sem, c_producer_batches, e1, hN, not_true_eq_false, not_false_eq_true, decide_true, decide_false, reduceCtorEq, ne_eq, Bool.false_eq_true, ↓reduceIte, Nat.reduceAdd, Nat.reduceEqDiff, Nat.reduceLT, Int.reduceLE, s_shl, s_shr, Bool.not_false, Bool.not_true, Bool.and_self, Bool.true_and, Bool.and_true, Bool.and_false, Bool.false_and, Bool.not_true, Bool.true_or, Bool.or_true, Nat.reduceSub, Nat.reduceLeDiff, Nat.reduceMul, Int.reduceToNat, Int.reduceLT, Int.reduceEq, Int.reduceNeg, and_self, and_true, true_and, and_false, false_and, or_true, true_or, or_false, false_or, Int.cast_ofNat_Int, Nat.reduceBEq, Nat.reduceBNe, beq_self_eq_true]
theorem rightP_spec (p : Pr) (hl : p.last.length < 1000000) (H : Heap) : W n_producer_Right [p.v] H = some (.bool (rightPQ p), H) := by
  have hb := fun H => batches_spec p.last hl H
  refine W_fn rfl rfl ?_
  unfold rightPQ
  by_cases c1 : p.id ≥ 0
  · by_cases c2 : p.ep ≥ 0
    · by_cases c3 : p.ep ≤ 32767
      · cases hq : (batchesQ none p.last && decide ((p.last.length : Int) ≤ 5)) with
        | false => rw [hq] at hb; simp only [go_sem, c_producer_Right, c1, c2, c3, hb, not_true_eq_false, not_false_eq_true, decide_true, decide_false, reduceCtorEq, ne_eq, Bool.false_eq_true, ↓reduceIte, Nat.reduceAdd, Nat.reduceEqDiff, Nat.reduceLT, Int.reduceLE, s_shl, s_shr, Bool.not_false, Bool.not_true, Bool.and_self, Bool.true_and, Bool.and_true, Bool.and_false, Bool.false_and, Bool.not_true, Bool.true_or, Bool.or_true, Nat.reduceSub, Nat.reduceLeDiff, Nat.reduceMul, Int.reduceToNat, Int.reduceLT, Int.reduceEq, Int.reduceNeg, and_self, and_true, true_and, and_false, false_and, or_true, true_or, or_false, false_or, Int.cast_ofNat_Int, Nat.reduceBEq, Nat.reduceBNe, beq_self_eq_true]
        | true =>
          rw [hq] at hb
          by_cases c4 : p.op ≥ -1
          · by_cases c5 : p.op ≤ 1099511627776
            · simp only [go_sem, c_producer_Right, c1, c2, c3, c4, c5, hb, not_true_eq_false, not_false_eq_true, decide_true, decide_false, reduceCtorEq, ne_eq, Bool.false_eq_true, ↓reduceIte, Nat.reduceAdd, Nat.reduceEqDiff, Nat.reduceLT, Int.reduceLE, s_shl, s_shr, Bool.not_false, Bool.not_true, Bool.and_self, Bool.true_and, Bool.and_true, Bool.and_false, Bool.false_and, Bool.not_true, Bool.true_or, Bool.or_true, Nat.reduceSub, Nat.reduceLeDiff, Nat.reduceMul, Int.reduceToNat, Int.reduceLT, Int.reduceEq, Int.reduceNeg, and_self, and_true, true_and, and_false, false_and, or_true, true_or, or_false, false_or, Int.cast_ofNat_Int, Nat.reduceBEq, Nat.reduceBNe, beq_self_eq_true]
            · simp only [go_sem, c_producer_Right, c1, c2, c3, c4, c5, hb, not_true_eq_false, not_false_eq_true, decide_true, decide_false, reduceCtorEq, ne_eq, Bool.false_eq_true, ↓reduceIte, Nat.reduceAdd, Nat.reduceEqDiff, Nat.reduceLT, Int.reduceLE, s_shl, s_shr, Bool.not_false, Bool.not_true, Bool.and_self, Bool.true_and, Bool.and_true, Bool.and_false, Bool.false_and, Bool.not_true, Bool.true_or, Bool.or_true, Nat.reduceSub, Nat.reduceLeDiff, Nat.reduceMul, Int.reduceToNat, Int.reduceLT, Int.reduceEq, Int.reduceNeg, and_self, and_true, true_and, and_false, false_and, or_true, true_or, or_false, false_or, Int.cast_ofNat_Int, Nat.reduceBEq, Nat.reduceBNe, beq_self_eq_true]
          · simp only [go_sem, c_producer_Right, c1, c2, c3, c4, hb, not_true_eq_false, not_false_eq_true, decide_true, decide_false, reduceCtorEq, ne_eq, Bool.false_eq_true, ↓reduceIte, Nat.reduceAdd, Nat.reduceEqDiff, Nat.reduceLT, Int.reduceLE, s_shl, s_shr, Bool.not_false, Bool.not_true, Bool.and_self, Bool.true_and, Bool.and_true, Bool.and_false, Bool.false_and, Bool.not_true, Bool.true_or, Bool.or_true, Nat.reduceSub, Nat.reduceLeDiff, Nat.reduceMul, Int.reduceToNat, Int.reduceLT, Int.reduceEq, Int.reduceNeg, and_self, and_true, true_and, and_false, false_and, or_true, true_or, or_false, false_or, Int.cast_ofNat_Int, Nat.reduceBEq, Nat.reduceBNe, beq_self_eq_true]
      · simp only [go_sem, c_producer_Right, c1, c2, c3, not_true_eq_false, not_false_eq_true, decide_true, decide_false, reduceCtorEq, ne_eq, Bool.false_eq_true, ↓reduceIte, Nat.reduceAdd, Nat.reduceEqDiff, Nat.reduceLT, Int.reduceLE, s_shl, s_shr, Bool.not_false, Bool.not_true, Bool.and_self, Bool.true_and, Bool.and_true, Bool.and_false, Bool.false_and, Bool.not_true, Bool.true_or, Bool.or_true, Nat.reduceSub, Nat.reduceLeDiff, Nat.reduceMul, Int.reduceToNat, Int.reduceLT, Int.reduceEq, Int.reduceNeg, and_self, and_true, true_and, and_false, false_and, or_true, true_or, or_false, false_or, Int.cast_ofNat_Int, Nat.reduceBEq, Nat.reduceBNe, beq_self_eq_true]
    · simp only [go_sem, c_producer_Right, c1, c2, not_true_eq_false, not_false_eq_true, decide_true, decide_false, reduceCtorEq, ne_eq, Bool.false_eq_true, ↓reduceIte, Nat.reduceAdd, Nat.reduceEqDiff, Nat.reduceLT, Int.reduceLE, s_shl, s_shr, Bool.not_false, Bool.not_true, Bool.and_self, Bool.true_and, Bool.and_true, Bool.and_false, Bool.false_and, Bool.not_true, Bool.true_or, Bool.or_true, Nat.reduceSub, Nat.reduceLeDiff, Nat.reduceMul, Int.reduceToNat, Int.reduceLT, Int.reduceEq, Int.reduceNeg, and_self, and_true, true_and, and_false, false_and, or_true, true_or, or_false, false_or, Int.cast_ofNat_Int, Nat.reduceBEq, Nat.reduceBNe, beq_self_eq_true]
  · simp only [go_sem, c_producer_Right, c1, not_true_eq_false, not_false_eq_true, decide_true, decide_false, reduceCtorEq, ne_eq, Bool.false_eq_true, ↓reduceIte, Nat.reduceAdd, Nat.reduceEqDiff, Nat.reduceLT, Int.reduceLE, s_shl, s_shr, Bool.not_false, Bool.not_true, Bool.and_self, Bool.true_and, Bool.and_true, Bool.and_false, Bool.false_and, Bool.not_true, Bool.true_or, Bool.or_true, Nat.reduceSub, Nat.reduceLeDiff, Nat.reduceMul, Int.reduceToNat, Int.reduceLT, Int.reduceEq, Int.reduceNeg, and_self, and_true, true_and, and_false, false_and, or_true, true_or, or_false, false_or, Int.cast_ofNat_Int, Nat.reduceBEq, Nat.reduceBNe, beq_self_eq_true]
end Go.Abs
