import Derived.Test.YtknclghaofmnhaaPS11
namespace Go.Abs
open Go Go.RowKit
set_option linter.unusedVariables false
set_option linter.unusedSimpArgs false

def ob (f : Int) (B : List Ba) (n : Nat) : Ba := ⟨(sumL B : Nat), 3, 1, (f + (sumL B : Nat)) % 2147483648, false, 0, List.replicate n rec0⟩
def po : List Ba → Pr
  | [] => ⟨0, 0, [], 0⟩
  | b :: B => ⟨3, 1, lastOf (b :: B), -1⟩
theorem po_ne {B : List Ba} (h : B ≠ []) : po B = ⟨3, 1, lastOf B, -1⟩ := by cases B with | nil => exact absurd rfl h | cons b B => rfl
theorem po_len (B) : (po B).last.length ≤ 5 := by
  cases B with
  | nil => simp [po]
  | cons b B => show (lastOf (b :: B)).length ≤ 5; rw [lastOf_len]; omega
theorem po_check {f : Int} {B : List Ba} {n : Nat} (hg : Good f 1 0 B) (hs : sumL B ≤ 100000) : checkQ (po B) (decide (B ≠ [])) (ob f B n) = (-1, 0) := by
  cases B with
  | nil => rfl
  | cons b B =>
    have h1 : (decide (b :: B ≠ [])) = true := by simp
    rw [h1]
    exact check_next hg hs rfl rfl rfl (by simp) (.inl (by decide))
theorem po_apply (f : Int) (B : List Ba) (n : Nat) : applyQ (po B) (decide (B ≠ [])) (ob f B n) = po (B ++ [ob f B n]) := by
  cases B with
  | nil => simp [applyQ, po, ob, lastOf, tri]
  | cons b B =>
    have h1 : (decide (b :: B ≠ [])) = true := by simp
    rw [h1, po_ne (B := b :: B ++ [ob f (b :: B) n]) (by simp), lastOf_snoc]
    simp only [po, applyQ]
    rw [if_neg (by simp [ob]), if_pos ⟨trivial, rfl⟩]
    simp only [ob, if_true]
    rfl
abbrev bV (b : Ba) : AVal := .agg [.int .i64 b.base, .int .i64 b.prod, .int .i64 b.ep, .int .i64 b.seq, .bool b.txn, .int .i64 b.mark, .list 2 b.recs .ro]
theorem ob_good {f : Int} {B : List Ba} {n : Nat} (hg : Good f 1 0 B) (h1 : 1 ≤ n) (h2 : n ≤ 16) : Good f 1 0 (B ++ [ob f B n]) := by
  rw [Good.app, Nat.zero_add]
  exact ⟨hg, ⟨rfl, by simp [ob]; exact h1, by simp [ob]; exact h2, rfl, rfl⟩, trivial⟩
theorem ob_bs {f : Int} {B : List Ba} {n : Nat} (hg : Bs 0 B) : Bs 0 (B ++ [ob f B n]) := by
  rw [Bs.app, Nat.zero_add]
  exact ⟨hg, rfl, trivial⟩
theorem ob_sum {f : Int} {B : List Ba} {n : Nat} : sumL (B ++ [ob f B n]) = sumL B + n := by
  rw [sumL_app]; simp [sumL, ob]

theorem once_loop (f : Int) (cs : List Int) (hcs : cs.length < 100000000000000) (H : Heap) (d : Nat) : ∀ (B : List Ba) (M : Heap) (fl fh : Fl), (fl = .ro ∨ (fl = .full ∧ B = [])) → (fh = .own ∨ (fh = .full ∧ B = [])) → Good f 1 0 B → Bs 0 B → sumL B ≤ 6 * B.length → B.length + d = min cs.length 14 →
    ∃ N B', loopA W loopW (.ghost (.kill k_law10_ProducerOnce_0) l_law10_ProducerOnce_0) [(1, .list 1 (ints .i64 cs) .ro), (5, .ptr (pt H 0) 0), (6, .bool (decide (B ≠ []))), (7, .list 7 (B.map bV) fh), (8, .int .i64 ((f + (sumL B : Nat)) % 2147483648)), (9, .int .i64 (sumL B : Nat)), (10, .int .i64 (B.length : Nat))]
      (hx H (.cells [.int .i64 (po B).id, .int .i64 (po B).ep, lastV (po B).last fl, .int .i64 (po B).op] :: M)) =
      some (.exit 0, [(5, .ptr (pt H 0) 0), (7, .list 7 (B'.map bV) (if B' = [] then fh else .own)), (9, .int .i64 (sumL B' : Nat))], hx H (.cells [.int .i64 (po B').id, .int .i64 (po B').ep, lastV (po B').last (if B' = [] then fl else .ro), .int .i64 (po B').op] :: N))
      ∧ Good f 1 0 B' ∧ Bs 0 B' ∧ sumL B' ≤ 6 * B'.length ∧ B'.length = min cs.length 14 := by
  have e0 : (ints .i64 cs).length = cs.length := by simp
  induction d with
  | zero =>
    intro B M fl fh hfl hfh hg hb hs hd
    have hfl' : (if B = [] then fl else Fl.ro) = fl := by
      rcases hfl with rfl | ⟨_, h⟩
      · split <;> rfl
      · rw [if_pos h]
    have hfh' : (if B = [] then fh else Fl.own) = fh := by
      rcases hfh with rfl | ⟨_, h⟩
      · split <;> rfl
      · rw [if_pos h]
    refine ⟨M, B, ?_, hg, hb, hs, by omega⟩
    rw [hfl', hfh']
    refine loop_step l_law10_ProducerOnce_0.eq_1 k_law10_ProducerOnce_0.eq_1 (by kernel_rfl) ?_
    by_cases h1 : ((B.length : Nat) : Int) < ((cs.length : Nat) : Int)
    · have h2 : ¬ (((B.length : Nat) : Int) < 14) := by omega
      simp only [go_sem, e0, h1, h2, not_true_eq_false, not_false_eq_true, decide_true, decide_false, reduceCtorEq, ne_eq, Bool.false_eq_true, ↓reduceIte, Nat.reduceAdd, Nat.reduceEqDiff, Nat.reduceLT, Int.reduceLE, s_shl, s_shr, Bool.not_false, Bool.not_true, Bool.and_self, Bool.true_and, Bool.and_true, Bool.and_false, Bool.false_and, Bool.not_true, Bool.true_or, Bool.or_true, Nat.reduceSub, Nat.reduceLeDiff, Nat.reduceMul, Int.reduceToNat, Int.reduceLT, Int.reduceEq, Int.reduceNeg, and_self, and_true, true_and, and_false, false_and, or_true, true_or, or_false, false_or, Int.cast_ofNat_Int, Nat.reduceBEq, Nat.reduceBNe, beq_self_eq_true]
    · simp only [go_sem, e0, h1, not_true_eq_false, not_false_eq_true, decide_true, decide_false, reduceCtorEq, ne_eq, Bool.false_eq_true, ↓reduceIte, Nat.reduceAdd, Nat.reduceEqDiff, Nat.reduceLT, Int.reduceLE, s_shl, s_shr, Bool.not_false, Bool.not_true, Bool.and_self, Bool.true_and, Bool.and_true, Bool.and_false, Bool.false_and, Bool.not_true, Bool.true_or, Bool.or_true, Nat.reduceSub, Nat.reduceLeDiff, Nat.reduceMul, Int.reduceToNat, Int.reduceLT, Int.reduceEq, Int.reduceNeg, and_self, and_true, true_and, and_false, false_and, or_true, true_or, or_false, false_or, Int.cast_ofNat_Int, Nat.reduceBEq, Nat.reduceBNe, beq_self_eq_true]
  | succ d ih =>
    intro B M fl fh hfl hfh hg hb hs hd
    have h1 : ((B.length : Nat) : Int) < ((cs.length : Nat) : Int) := by omega
    have h2 : ((B.length : Nat) : Int) < 14 := by omega
    have h3 : (0 : Int) ≤ ((B.length : Nat) : Int) := by omega
    have h4 := ints_get (k := .i64) (l := cs) (i := B.length) (by omega)
    rw [Int.toNat_natCast] at h4
    generalize cs[B.length]'(by omega) = c at h4
    have hw := fun H => within_spec c 0 5 H (by decide) (by decide) (by decide)
    have hr := withinQ_range c 0 5 (by decide)
    obtain ⟨n, hn⟩ : ∃ n : Nat, (n : Int) = 1 + withinQ c 0 5 := ⟨(1 + withinQ c 0 5).toNat, by omega⟩
    have e1 : IntKind.i64.wrap (1 + withinQ c 0 5) = (n : Int) := by rw [hn]; exact wrap_id (by unfold I64; omega)
    have e2 : (0 : Int) ≤ (n : Int) := by omega
    have e3 : (n : Int) * ((32 : Nat) : Int) ≤ 70368744177664 := by omega
    have e3' : (n : Int) * 32 ≤ 70368744177664 := by omega
    have e4 : IntKind.i64.wrap ((f + (sumL B : Nat)) % 2147483648 + (n : Int)) = (f + (sumL B : Nat)) % 2147483648 + n := wrap_id (by unfold I64; omega)
    have e5 : bits .and .i64 ((f + (sumL B : Nat)) % 2147483648 + (n : Int)) 2147483647 = (f + (sumL (B ++ [ob f B n]) : Nat)) % 2147483648 := by rw [and_seq, ob_sum]; omega
    have e6 : IntKind.i64.wrap (((sumL B : Nat) : Int) + (n : Int)) = (sumL (B ++ [ob f B n]) : Nat) := by rw [ob_sum, wrap_id (by unfold I64; omega)]; omega
    have e7 : IntKind.i64.wrap (((B.length : Nat) : Int) + 1) = ((B ++ [ob f B n]).length : Nat) := by rw [wrap_id (by unfold I64; omega)]; simp
    have e8 : (List.replicate n rec0).length = n := by simp
    have hsb : sumL B ≤ 100000 := by omega
    have C1 : ∀ H, W n_producer_Check [.agg [.int .i64 (po B).id, .int .i64 (po B).ep, lastV (po B).last .ro, .int .i64 (po B).op], .bool (decide (B ≠ [])), .agg [.int .i64 ((sumL B : Nat) : Int), .int .i64 3, .int .i64 1, .int .i64 ((f + (sumL B : Nat)) % 2147483648), .bool false, .int .i64 0, .list 2 (List.replicate n rec0) .ro]] H = _ := fun H => check_spec (po B) _ (ob f B n) H (by have := po_len B; omega) (by simp [ob]; omega)
    have A1 : ∀ H, W n_producer_Apply [.agg [.int .i64 (po B).id, .int .i64 (po B).ep, lastV (po B).last .ro, .int .i64 (po B).op], .bool (decide (B ≠ [])), .agg [.int .i64 ((sumL B : Nat) : Int), .int .i64 3, .int .i64 1, .int .i64 ((f + (sumL B : Nat)) % 2147483648), .bool false, .int .i64 0, .list 2 (List.replicate n rec0) .ro]] H = _ := fun H => apply_spec (po B) _ (ob f B n) H (by have := po_len B; omega) (by simp [ob]; omega)
    rw [po_check hg hsb] at C1
    rw [po_apply] at A1
    have a1 : B.map bV ++ [AVal.agg [.int .i64 ((sumL B : Nat) : Int), .int .i64 3, .int .i64 1, .int .i64 ((f + (sumL B : Nat)) % 2147483648), .bool false, .int .i64 0, .list 2 (List.replicate n rec0) .ro]] = (B ++ [ob f B n]).map bV := by simp [ob]
    have a2 : ((B.map bV).length + 1) * 72 ≤ maxBytes := by simp [maxBytes]; omega
    have hB' : (B ++ [ob f B n]) ≠ [] := by simp
    have hlen' : (B ++ [ob f B n]).length = B.length + 1 := by simp
    obtain ⟨N, B', hN, r1, r2, r3, r4⟩ := ih (B ++ [ob f B n]) (M ++ [.cells [.int .i64 ((sumL B : Nat) : Int), .int .i64 3, .int .i64 1, .int .i64 ((f + (sumL B : Nat)) % 2147483648), .bool false, .int .i64 0, .list 2 (List.replicate n rec0) .ro]]) .ro .own (.inl rfl) (.inl rfl) (ob_good hg (by omega) (by omega)) (ob_bs hb) (by rw [ob_sum, hlen']; omega) (by rw [hlen']; omega)
    refine ⟨N, B', ?_, r1, r2, r3, r4⟩
    have hne : B' ≠ [] := by intro h; rw [h] at r4; simp at r4; omega
    rw [if_neg hne, if_neg hne] at hN ⊢
    refine loop_step l_law10_ProducerOnce_0.eq_1 k_law10_ProducerOnce_0.eq_1 (by kernel_rfl) ?_
    rw [decide_eq_true hB'] at hN
    generalize hpB : po B = p at C1 A1 ⊢
    generalize po (B ++ [ob f B n]) = p' at A1 hN
    generalize hbb : decide (B ≠ []) = b at C1 A1 ⊢
    rcases hfl with rfl | ⟨rfl, hBn⟩ <;> rcases hfh with rfl | ⟨rfl, hBn'⟩ <;>
      (simp only [go_sem, e0, h1, h2, h3, h4, hw, e1, e2, e3', e4, e5, e6, e7, e8, C1, A1, a1, a2, apO, apF, Int.toNat_natCast, not_true_eq_false, not_false_eq_true, decide_true, decide_false, reduceCtorEq, ne_eq, Bool.false_eq_true, ↓reduceIte, Nat.reduceAdd, Nat.reduceEqDiff, Nat.reduceLT, Int.reduceLE, s_shl, s_shr, Bool.not_false, Bool.not_true, Bool.and_self, Bool.true_and, Bool.and_true, Bool.and_false, Bool.false_and, Bool.not_true, Bool.true_or, Bool.or_true, Nat.reduceSub, Nat.reduceLeDiff, Nat.reduceMul, Int.reduceToNat, Int.reduceLT, Int.reduceEq, Int.reduceNeg, and_self, and_true, true_and, and_false, false_and, or_true, true_or, or_false, false_or, Int.cast_ofNat_Int, Nat.reduceBEq, Nat.reduceBNe, beq_self_eq_true]; exact hN)
end Go.Abs
