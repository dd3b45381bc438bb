import Derived.Test.YtknclghaofmnhaaPS2
namespace Go.Abs
open Go Go.RowKit
set_option linter.unusedVariables false
set_option linter.unusedSimpArgs false

theorem dup_loop (p : Pr) (b : Ba) (q : List (Int × Int × Int)) (i j : Nat) (hl : p.last.length < 1000000000) : ∀ (r s : List (Int × Int × Int)) (H : Heap), p.last = s ++ r → H[i]? = some (.cells [.int .i64 p.id, .int .i64 p.ep, lastV p.last .ro, .int .i64 p.op]) →
    H[j]? = some (.cells [.int .i64 b.base, .int .i64 b.prod, .int .i64 b.ep, .int .i64 b.seq, .bool b.txn, .int .i64 b.mark, .list 2 b.recs .ro]) → 
    ∃ N, loopA W loopW (.ghost (.kill k_producer_Dup_0) l_producer_Dup_0) [(2, .ptr i 0), (3, .ptr j 0), (6, .int .i64 (lastQ b.seq b.recs.length)), (16, lastV p.last .ro), (17, .int .i64 p.last.length), (18, .int .i64 (s.length : Int))] H =
      if (dupQ p b r).2 = true then some (.ret, [(4, .int .i64 (dupQ p b r).1), (5, .bool true)], hx H N) else some (.exit 0, [], hx H N) := by
  intro r
  induction r with
  | nil =>
    intro s H hp hi hj
    refine ⟨[], ?_⟩
    rw [List.append_nil] at hp
    have h1 : ¬ ((s.length : Int) < (p.last.length : Int)) := by rw [hp]; omega
    have e0 : (dupQ p b []).2 = false := rfl
    rw [e0, if_neg (by decide), hx_nil]
    refine loop_step l_producer_Dup_0.eq_1 k_producer_Dup_0.eq_1 (by kernel_rfl) ?_
    simp only [go_sem, h1, not_true_eq_false, not_false_eq_true, decide_true, decide_false, reduceCtorEq, ne_eq, Bool.false_eq_true, ↓reduceIte, Nat.reduceAdd, Nat.reduceEqDiff, Nat.reduceLT, Int.reduceLE, s_shl, s_shr, Bool.not_false, Bool.not_true, Bool.and_self, Bool.true_and, Bool.and_true, Bool.and_false, Bool.false_and, Bool.not_true, Bool.true_or, Bool.or_true, Nat.reduceSub, Nat.reduceLeDiff, Nat.reduceMul, Int.reduceToNat, Int.reduceLT, Int.reduceEq, Int.reduceNeg, and_self, and_true, true_and, and_false, false_and, or_true, true_or, or_false, false_or, Int.cast_ofNat_Int, Nat.reduceBEq, Nat.reduceBNe, beq_self_eq_true]
  | cons l r ih =>
    intro s H hp hi hj
    have hlen : p.last.length = s.length + (r.length + 1) := by rw [hp, List.length_append, List.length_cons]
    have h1 : (s.length : Int) < (p.last.length : Int) := by omega
    have h2 : (0 : Int) ≤ (s.length : Int) := by omega
    have h3 : (p.last.map t3)[((s.length : Nat) : Int).toNat]? = some (t3 l) := by rw [hp]; simp
    have e1 : IntKind.i64.wrap ((s.length : Int) + 1) = ((s ++ [l]).length : Int) := by rw [wrap_id (by unfold I64; omega)]; simp
    have gi := hx_old hi
    have gj := hx_old hj
    by_cases hc : b.mark = 0 ∧ b.ep = p.ep ∧ l.1 = b.seq ∧ l.2.1 = lastQ b.seq b.recs.length
    · have e : dupQ p b (l :: r) = (l.2.2, true) := by rw [dupQ, if_pos hc]
      refine ⟨[.cells [.int .i64 l.1, .int .i64 l.2.1, .int .i64 l.2.2]], ?_⟩
      rw [e, if_pos rfl]
      refine loop_step l_producer_Dup_0.eq_1 k_producer_Dup_0.eq_1 (by kernel_rfl) ?_
      rw [← hx_nil H]
      obtain ⟨c1, c2, c3, c4⟩ := hc
      simp only [go_sem, h1, h2, h3, e1, gi, gj, c1, c2, c3, c4, not_true_eq_false, not_false_eq_true, decide_true, decide_false, reduceCtorEq, ne_eq, Bool.false_eq_true, ↓reduceIte, Nat.reduceAdd, Nat.reduceEqDiff, Nat.reduceLT, Int.reduceLE, s_shl, s_shr, Bool.not_false, Bool.not_true, Bool.and_self, Bool.true_and, Bool.and_true, Bool.and_false, Bool.false_and, Bool.not_true, Bool.true_or, Bool.or_true, Nat.reduceSub, Nat.reduceLeDiff, Nat.reduceMul, Int.reduceToNat, Int.reduceLT, Int.reduceEq, Int.reduceNeg, and_self, and_true, true_and, and_false, false_and, or_true, true_or, or_false, false_or, Int.cast_ofNat_Int, Nat.reduceBEq, Nat.reduceBNe, beq_self_eq_true]
    · have e : dupQ p b (l :: r) = dupQ p b r := by rw [dupQ, if_neg hc]
      obtain ⟨N, hN⟩ := ih (s ++ [l]) (hx H [.cells [.int .i64 l.1, .int .i64 l.2.1, .int .i64 l.2.2]]) (by rw [hp]; simp) (gi _) (gj _)
      refine ⟨.cells [.int .i64 l.1, .int .i64 l.2.1, .int .i64 l.2.2] :: N, ?_⟩
      rw [e]
      rw [hx_hx, List.cons_append, List.nil_append] at hN
      have step : ∀ R, loopA W loopW (.ghost (.kill k_producer_Dup_0) l_producer_Dup_0) [(2, .ptr i 0), (3, .ptr j 0), (6, .int .i64 (lastQ b.seq b.recs.length)), (16, lastV p.last .ro), (17, .int .i64 p.last.length), (18, .int .i64 ((s ++ [l]).length : Int))] (hx H [.cells [.int .i64 l.1, .int .i64 l.2.1, .int .i64 l.2.2]]) = some R →
          loopA W loopW (.ghost (.kill k_producer_Dup_0) l_producer_Dup_0) [(2, .ptr i 0), (3, .ptr j 0), (6, .int .i64 (lastQ b.seq b.recs.length)), (16, lastV p.last .ro), (17, .int .i64 p.last.length), (18, .int .i64 (s.length : Int))] H = some R := by
        intro R hR
        refine loop_step l_producer_Dup_0.eq_1 k_producer_Dup_0.eq_1 (by kernel_rfl) ?_
        rw [← hx_nil H]
        by_cases c1 : b.mark = 0
        · by_cases c2 : b.ep = p.ep
          · by_cases c3 : l.1 = b.seq
            · have c4 : ¬ l.2.1 = lastQ b.seq b.recs.length := fun h => hc ⟨c1, c2, c3, h⟩
              simp only [go_sem, h1, h2, h3, e1, gi, gj, c1, c2, c3, c4, not_true_eq_false, not_false_eq_true, decide_true, decide_false, reduceCtorEq, ne_eq, Bool.false_eq_true, ↓reduceIte, Nat.reduceAdd, Nat.reduceEqDiff, Nat.reduceLT, Int.reduceLE, s_shl, s_shr, Bool.not_false, Bool.not_true, Bool.and_self, Bool.true_and, Bool.and_true, Bool.and_false, Bool.false_and, Bool.not_true, Bool.true_or, Bool.or_true, Nat.reduceSub, Nat.reduceLeDiff, Nat.reduceMul, Int.reduceToNat, Int.reduceLT, Int.reduceEq, Int.reduceNeg, and_self, and_true, true_and, and_false, false_and, or_true, true_or, or_false, false_or, Int.cast_ofNat_Int, Nat.reduceBEq, Nat.reduceBNe, beq_self_eq_true]; rw [c3] at hR; exact hR
            · simp only [go_sem, h1, h2, h3, e1, gi, gj, c1, c2, c3, not_true_eq_false, not_false_eq_true, decide_true, decide_false, reduceCtorEq, ne_eq, Bool.false_eq_true, ↓reduceIte, Nat.reduceAdd, Nat.reduceEqDiff, Nat.reduceLT, Int.reduceLE, s_shl, s_shr, Bool.not_false, Bool.not_true, Bool.and_self, Bool.true_and, Bool.and_true, Bool.and_false, Bool.false_and, Bool.not_true, Bool.true_or, Bool.or_true, Nat.reduceSub, Nat.reduceLeDiff, Nat.reduceMul, Int.reduceToNat, Int.reduceLT, Int.reduceEq, Int.reduceNeg, and_self, and_true, true_and, and_false, false_and, or_true, true_or, or_false, false_or, Int.cast_ofNat_Int, Nat.reduceBEq, Nat.reduceBNe, beq_self_eq_true]; exact hR
          · simp only [go_sem, h1, h2, h3, e1, gi, gj, c1, c2, not_true_eq_false, not_false_eq_true, decide_true, decide_false, reduceCtorEq, ne_eq, Bool.false_eq_true, ↓reduceIte, Nat.reduceAdd, Nat.reduceEqDiff, Nat.reduceLT, Int.reduceLE, s_shl, s_shr, Bool.not_false, Bool.not_true, Bool.and_self, Bool.true_and, Bool.and_true, Bool.and_false, Bool.false_and, Bool.not_true, Bool.true_or, Bool.or_true, Nat.reduceSub, Nat.reduceLeDiff, Nat.reduceMul, Int.reduceToNat, Int.reduceLT, Int.reduceEq, Int.reduceNeg, and_self, and_true, true_and, and_false, false_and, or_true, true_or, or_false, false_or, Int.cast_ofNat_Int, Nat.reduceBEq, Nat.reduceBNe, beq_self_eq_true]; exact hR
        · simp only [go_sem, h1, h2, h3, e1, gi, gj, c1, not_true_eq_false, not_false_eq_true, decide_true, decide_false, reduceCtorEq, ne_eq, Bool.false_eq_true, ↓reduceIte, Nat.reduceAdd, Nat.reduceEqDiff, Nat.reduceLT, Int.reduceLE, s_shl, s_shr, Bool.not_false, Bool.not_true, Bool.and_self, Bool.true_and, Bool.and_true, Bool.and_false, Bool.false_and, Bool.not_true, Bool.true_or, Bool.or_true, Nat.reduceSub, Nat.reduceLeDiff, Nat.reduceMul, Int.reduceToNat, Int.reduceLT, Int.reduceEq, Int.reduceNeg, and_self, and_true, true_and, and_false, false_and, or_true, true_or, or_false, false_or, Int.cast_ofNat_Int, Nat.reduceBEq, Nat.reduceBNe, beq_self_eq_true]; exact hR
      split <;> rename_i h
      · rw [if_pos h] at hN; exact step _ hN
      · rw [if_neg h] at hN; exact step _ hN
theorem dupQ_false (p : Pr) (b : Ba) : ∀ r, (dupQ p b r).2 = false → dupQ p b r = (-1, false)
  | [], _ => rfl
  | l :: r, h => by
    rw [dupQ] at h ⊢
    split at h
    · cases h
    · rename_i hc; rw [if_neg hc]; exact dupQ_false p b r h
theorem dup_spec (p : Pr) (b : Ba) (H : Heap) (hl : p.last.length < 1000000000) (hr : b.recs.length < 1000000000) :
    W n_producer_Dup [p.v, b.v] H = some (.tuple [.int .i64 (dupQ p b p.last).1, .bool (dupQ p b p.last).2], H) := by
  obtain ⟨N, hN⟩ := dup_loop p b p.last (pt H 0) (pt H 1) hl p.last [] (hx H [.cells [.int .i64 p.id, .int .i64 p.ep, lastV p.last .ro, .int .i64 p.op], .cells [.int .i64 b.base, .int .i64 b.prod, .int .i64 b.ep, .int .i64 b.seq, .bool b.txn, .int .i64 b.mark, .list 2 b.recs .ro]])
    rfl (by rw [hx_get]; rfl) (by rw [hx_get]; rfl)
  have hlast := fun H => last_spec b.seq (b.recs.length : Int) H (by unfold I64; omega)
  refine W_fn rfl rfl ?_
  have e0 : ((([] : List (Int × Int × Int)).length : Nat) : Int) = 0 := rfl
  have e1 : (p.last.map t3).length = p.last.length := by simp
  rw [e0] at hN
  cases h : (dupQ p b p.last).2 with
  | true =>
    rw [h, if_pos rfl] at hN
    simp only [go_sem, c_producer_Dup, hlast, hN, e1, not_true_eq_false, not_false_eq_true, decide_true, decide_false, reduceCtorEq, ne_eq, Bool.false_eq_true, ↓reduceIte, Nat.reduceAdd, Nat.reduceEqDiff, Nat.reduceLT, Int.reduceLE, s_shl, s_shr, Bool.not_false, Bool.not_true, Bool.and_self, Bool.true_and, Bool.and_true, Bool.and_false, Bool.false_and, Bool.not_true, Bool.true_or, Bool.or_true, Nat.reduceSub, Nat.reduceLeDiff, Nat.reduceMul, Int.reduceToNat, Int.reduceLT, Int.reduceEq, Int.reduceNeg, and_self, and_true, true_and, and_false, false_and, or_true, true_or, or_false, false_or, Int.cast_ofNat_Int, Nat.reduceBEq, Nat.reduceBNe, beq_self_eq_true]
  | false =>
    rw [h, if_neg (by decide)] at hN
    have := dupQ_false p b p.last h
    simp only [go_sem, c_producer_Dup, hlast, hN, e1, this, not_true_eq_false, not_false_eq_true, decide_true, decide_false, reduceCtorEq, ne_eq, Bool.false_eq_true, ↓reduceIte, Nat.reduceAdd, Nat.reduceEqDiff, Nat.reduceLT, Int.reduceLE, s_shl, s_shr, Bool.not_false, Bool.not_true, Bool.and_self, Bool.true_and, Bool.and_true, Bool.and_false, Bool.false_and, Bool.not_true, Bool.true_or, Bool.or_true, Nat.reduceSub, Nat.reduceLeDiff, Nat.reduceMul, Int.reduceToNat, Int.reduceLT, Int.reduceEq, Int.reduceNeg, and_self, and_true, true_and, and_false, false_and, or_true, true_or, or_false, false_or, Int.cast_ofNat_Int, Nat.reduceBEq, Nat.reduceBNe, beq_self_eq_true]
theorem check_spec (p : Pr) (k : Bool) (b : Ba) (H : Heap) (hl : p.last.length < 1000000000) (hr : b.recs.length < 1000000000) :
    W n_producer_Check [p.v, .bool k, b.v] H = some (.tuple [.int .i64 (checkQ p k b).1, .int .i64 (checkQ p k b).2], H) := by
  have hm := marker_spec p k b
  have hla := later_spec p b
  have hd := fun H => dup_spec p b H hl hr
  have e2 : (p.last.map t3).length = p.last.length := by simp
  refine W_fn rfl rfl ?_
  by_cases c1 : b.mark = 0
  · cases k with
    | false => simp only [go_sem, c_producer_Check, eq_true c1, checkQ, not_true_eq_false, not_false_eq_true, decide_true, decide_false, reduceCtorEq, ne_eq, Bool.false_eq_true, ↓reduceIte, Nat.reduceAdd, Nat.reduceEqDiff, Nat.reduceLT, Int.reduceLE, s_shl, s_shr, Bool.not_false, Bool.not_true, Bool.and_self, Bool.true_and, Bool.and_true, Bool.and_false, Bool.false_and, Bool.not_true, Bool.true_or, Bool.or_true, Nat.reduceSub, Nat.reduceLeDiff, Nat.reduceMul, Int.reduceToNat, Int.reduceLT, Int.reduceEq, Int.reduceNeg, and_self, and_true, true_and, and_false, false_and, or_true, true_or, or_false, false_or, Int.cast_ofNat_Int, Nat.reduceBEq, Nat.reduceBNe, beq_self_eq_true]
    | true =>
      by_cases c2 : b.ep < p.ep
      · simp only [go_sem, c_producer_Check, eq_true c1, c2, checkQ, not_true_eq_false, not_false_eq_true, decide_true, decide_false, reduceCtorEq, ne_eq, Bool.false_eq_true, ↓reduceIte, Nat.reduceAdd, Nat.reduceEqDiff, Nat.reduceLT, Int.reduceLE, s_shl, s_shr, Bool.not_false, Bool.not_true, Bool.and_self, Bool.true_and, Bool.and_true, Bool.and_false, Bool.false_and, Bool.not_true, Bool.true_or, Bool.or_true, Nat.reduceSub, Nat.reduceLeDiff, Nat.reduceMul, Int.reduceToNat, Int.reduceLT, Int.reduceEq, Int.reduceNeg, and_self, and_true, true_and, and_false, false_and, or_true, true_or, or_false, false_or, Int.cast_ofNat_Int, Nat.reduceBEq, Nat.reduceBNe, beq_self_eq_true]
      · by_cases c3 : b.ep > p.ep
        · simp only [go_sem, c_producer_Check, eq_true c1, c2, c3, checkQ, hla, not_true_eq_false, not_false_eq_true, decide_true, decide_false, reduceCtorEq, ne_eq, Bool.false_eq_true, ↓reduceIte, Nat.reduceAdd, Nat.reduceEqDiff, Nat.reduceLT, Int.reduceLE, s_shl, s_shr, Bool.not_false, Bool.not_true, Bool.and_self, Bool.true_and, Bool.and_true, Bool.and_false, Bool.false_and, Bool.not_true, Bool.true_or, Bool.or_true, Nat.reduceSub, Nat.reduceLeDiff, Nat.reduceMul, Int.reduceToNat, Int.reduceLT, Int.reduceEq, Int.reduceNeg, and_self, and_true, true_and, and_false, false_and, or_true, true_or, or_false, false_or, Int.cast_ofNat_Int, Nat.reduceBEq, Nat.reduceBNe, beq_self_eq_true]
        · cases hq : (dupQ p b p.last).2 with
          | true => simp only [go_sem, c_producer_Check, eq_true c1, c2, c3, checkQ, hd, hq, not_true_eq_false, not_false_eq_true, decide_true, decide_false, reduceCtorEq, ne_eq, Bool.false_eq_true, ↓reduceIte, Nat.reduceAdd, Nat.reduceEqDiff, Nat.reduceLT, Int.reduceLE, s_shl, s_shr, Bool.not_false, Bool.not_true, Bool.and_self, Bool.true_and, Bool.and_true, Bool.and_false, Bool.false_and, Bool.not_true, Bool.true_or, Bool.or_true, Nat.reduceSub, Nat.reduceLeDiff, Nat.reduceMul, Int.reduceToNat, Int.reduceLT, Int.reduceEq, Int.reduceNeg, and_self, and_true, true_and, and_false, false_and, or_true, true_or, or_false, false_or, Int.cast_ofNat_Int, Nat.reduceBEq, Nat.reduceBNe, beq_self_eq_true]
          | false =>
            rcases List.eq_nil_or_concat p.last with h0 | ⟨s, l, h0⟩
            · have e1 : ¬ ((p.last.length : Int) > 0) := by rw [h0]; simp
              by_cases c4 : p.op ≥ 0
              · cases ht : b.txn <;> simp only [Ba.v, ht] at hd
                · simp only [go_sem, c_producer_Check, eq_true c1, c2, c3, c4, checkQ, hd, hq, eq_true h0, e1, e2, ht, not_true_eq_false, not_false_eq_true, decide_true, decide_false, reduceCtorEq, ne_eq, Bool.false_eq_true, ↓reduceIte, Nat.reduceAdd, Nat.reduceEqDiff, Nat.reduceLT, Int.reduceLE, s_shl, s_shr, Bool.not_false, Bool.not_true, Bool.and_self, Bool.true_and, Bool.and_true, Bool.and_false, Bool.false_and, Bool.not_true, Bool.true_or, Bool.or_true, Nat.reduceSub, Nat.reduceLeDiff, Nat.reduceMul, Int.reduceToNat, Int.reduceLT, Int.reduceEq, Int.reduceNeg, and_self, and_true, true_and, and_false, false_and, or_true, true_or, or_false, false_or, Int.cast_ofNat_Int, Nat.reduceBEq, Nat.reduceBNe, beq_self_eq_true]
                · simp only [go_sem, c_producer_Check, eq_true c1, c2, c3, c4, checkQ, hd, hq, eq_true h0, e1, e2, ht, not_true_eq_false, not_false_eq_true, decide_true, decide_false, reduceCtorEq, ne_eq, Bool.false_eq_true, ↓reduceIte, Nat.reduceAdd, Nat.reduceEqDiff, Nat.reduceLT, Int.reduceLE, s_shl, s_shr, Bool.not_false, Bool.not_true, Bool.and_self, Bool.true_and, Bool.and_true, Bool.and_false, Bool.false_and, Bool.not_true, Bool.true_or, Bool.or_true, Nat.reduceSub, Nat.reduceLeDiff, Nat.reduceMul, Int.reduceToNat, Int.reduceLT, Int.reduceEq, Int.reduceNeg, and_self, and_true, true_and, and_false, false_and, or_true, true_or, or_false, false_or, Int.cast_ofNat_Int, Nat.reduceBEq, Nat.reduceBNe, beq_self_eq_true]
              · simp only [go_sem, c_producer_Check, eq_true c1, c2, c3, c4, checkQ, hd, hq, eq_true h0, e1, e2, not_true_eq_false, not_false_eq_true, decide_true, decide_false, reduceCtorEq, ne_eq, Bool.false_eq_true, ↓reduceIte, Nat.reduceAdd, Nat.reduceEqDiff, Nat.reduceLT, Int.reduceLE, s_shl, s_shr, Bool.not_false, Bool.not_true, Bool.and_self, Bool.true_and, Bool.and_true, Bool.and_false, Bool.false_and, Bool.not_true, Bool.true_or, Bool.or_true, Nat.reduceSub, Nat.reduceLeDiff, Nat.reduceMul, Int.reduceToNat, Int.reduceLT, Int.reduceEq, Int.reduceNeg, and_self, and_true, true_and, and_false, false_and, or_true, true_or, or_false, false_or, Int.cast_ofNat_Int, Nat.reduceBEq, Nat.reduceBNe, beq_self_eq_true]
            · have hn : p.last ≠ [] := by rw [h0]; simp
              have e1 : (p.last.length : Int) > 0 := by rw [h0]; simp
              have e3 : IntKind.i64.wrap ((p.last.length : Int) - 1) = ((p.last.length - 1 : Nat) : Int) := by rw [wrap_id (by unfold I64; omega)]; omega
              have e4 : (p.last.map t3)[((p.last.length - 1 : Nat) : Int).toNat]? = some (t3 l) := by rw [h0]; simp
              have e5 : p.last.getLastD (0, 0, 0) = l := by rw [h0]; simp
              have e6 : (0 : Int) ≤ ((p.last.length - 1 : Nat) : Int) := by omega
              have hf := follows_spec l.2.1 b.seq
              cases hfq : followsQ l.2.1 b.seq with
              | false =>
                rw [hfq] at hf
                simp only [go_sem, c_producer_Check, eq_true c1, c2, c3, checkQ, hd, hq, hn, e1, e2, e3, e4, e5, e6, hf, hfq, not_true_eq_false, not_false_eq_true, decide_true, decide_false, reduceCtorEq, ne_eq, Bool.false_eq_true, ↓reduceIte, Nat.reduceAdd, Nat.reduceEqDiff, Nat.reduceLT, Int.reduceLE, s_shl, s_shr, Bool.not_false, Bool.not_true, Bool.and_self, Bool.true_and, Bool.and_true, Bool.and_false, Bool.false_and, Bool.not_true, Bool.true_or, Bool.or_true, Nat.reduceSub, Nat.reduceLeDiff, Nat.reduceMul, Int.reduceToNat, Int.reduceLT, Int.reduceEq, Int.reduceNeg, and_self, and_true, true_and, and_false, false_and, or_true, true_or, or_false, false_or, Int.cast_ofNat_Int, Nat.reduceBEq, Nat.reduceBNe, beq_self_eq_true]
              | true =>
                rw [hfq] at hf
                by_cases c4 : p.op ≥ 0
                · cases ht : b.txn <;> simp only [Ba.v, ht] at hd
                  · simp only [go_sem, c_producer_Check, eq_true c1, c2, c3, checkQ, hd, hq, hn, e1, e2, e3, e4, e5, e6, hf, hfq, c4, ht, not_true_eq_false, not_false_eq_true, decide_true, decide_false, reduceCtorEq, ne_eq, Bool.false_eq_true, ↓reduceIte, Nat.reduceAdd, Nat.reduceEqDiff, Nat.reduceLT, Int.reduceLE, s_shl, s_shr, Bool.not_false, Bool.not_true, Bool.and_self, Bool.true_and, Bool.and_true, Bool.and_false, Bool.false_and, Bool.not_true, Bool.true_or, Bool.or_true, Nat.reduceSub, Nat.reduceLeDiff, Nat.reduceMul, Int.reduceToNat, Int.reduceLT, Int.reduceEq, Int.reduceNeg, and_self, and_true, true_and, and_false, false_and, or_true, true_or, or_false, false_or, Int.cast_ofNat_Int, Nat.reduceBEq, Nat.reduceBNe, beq_self_eq_true]
                  · simp only [go_sem, c_producer_Check, eq_true c1, c2, c3, checkQ, hd, hq, hn, e1, e2, e3, e4, e5, e6, hf, hfq, c4, ht, not_true_eq_false, not_false_eq_true, decide_true, decide_false, reduceCtorEq, ne_eq, Bool.false_eq_true, ↓reduceIte, Nat.reduceAdd, Nat.reduceEqDiff, Nat.reduceLT, Int.reduceLE, s_shl, s_shr, Bool.not_false, Bool.not_true, Bool.and_self, Bool.true_and, Bool.and_true, Bool.and_false, Bool.false_and, Bool.not_true, Bool.true_or, Bool.or_true, Nat.reduceSub, Nat.reduceLeDiff, Nat.reduceMul, Int.reduceToNat, Int.reduceLT, Int.reduceEq, Int.reduceNeg, and_self, and_true, true_and, and_false, false_and, or_true, true_or, or_false, false_or, Int.cast_ofNat_Int, Nat.reduceBEq, Nat.reduceBNe, beq_self_eq_true]
                · simp only [go_sem, c_producer_Check, eq_true c1, c2, c3, checkQ, hd, hq, hn, e1, e2, e3, e4, e5, e6, hf, hfq, c4, not_true_eq_false, not_false_eq_true, decide_true, decide_false, reduceCtorEq, ne_eq, Bool.false_eq_true, ↓reduceIte, Nat.reduceAdd, Nat.reduceEqDiff, Nat.reduceLT, Int.reduceLE, s_shl, s_shr, Bool.not_false, Bool.not_true, Bool.and_self, Bool.true_and, Bool.and_true, Bool.and_false, Bool.false_and, Bool.not_true, Bool.true_or, Bool.or_true, Nat.reduceSub, Nat.reduceLeDiff, Nat.reduceMul, Int.reduceToNat, Int.reduceLT, Int.reduceEq, Int.reduceNeg, and_self, and_true, true_and, and_false, false_and, or_true, true_or, or_false, false_or, Int.cast_ofNat_Int, Nat.reduceBEq, Nat.reduceBNe, beq_self_eq_true]
  · simp only [go_sem, c_producer_Check, c1, checkQ, hm, not_true_eq_false, not_false_eq_true, decide_true, decide_false, reduceCtorEq, ne_eq, Bool.false_eq_true, ↓reduceIte, Nat.reduceAdd, Nat.reduceEqDiff, Nat.reduceLT, Int.reduceLE, s_shl, s_shr, Bool.not_false, Bool.not_true, Bool.and_self, Bool.true_and, Bool.and_true, Bool.and_false, Bool.false_and, Bool.not_true, Bool.true_or, Bool.or_true, Nat.reduceSub, Nat.reduceLeDiff, Nat.reduceMul, Int.reduceToNat, Int.reduceLT, Int.reduceEq, Int.reduceNeg, and_self, and_true, true_and, and_false, false_and, or_true, true_or, or_false, false_or, Int.cast_ofNat_Int, Nat.reduceBEq, Nat.reduceBNe, beq_self_eq_true]
end Go.Abs
