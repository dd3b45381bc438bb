import Derived.Test.YtknclghaofmnhaaIV1
namespace Go.Abs
open Go Go.RowKit
set_option linter.unusedVariables false
set_option linter.unusedSimpArgs false


theorem ref_long_loop (l0 : List Int) (n : Int) (hn : I64 n) (hl : l0.length + 8 ≤ 70368744177664) (d : Nat) : ∀ (i : Nat) (l : List Int) (H : Heap), i + d = 8 → l.length = l0.length + i →
    loopA W loopW (.ghost (.kill k_ref1_Long_0) l_ref1_Long_0) [(1, .int .i64 n), (5, bytes l .own), (6, .int .i64 (56 - 8 * (i : Int)))] H = some (.exit 0, [(5, bytes (l ++ bes n i) .own)], H) := by
  induction d with
  | zero =>
    intro i l H hi hl'
    have : i = 8 := by omega
    subst this
    refine loop_step l_ref1_Long_0.eq_1 k_ref1_Long_0.eq_1 (by kernel_rfl) ?_
    have h1 : ¬ ((56 : Int) - 8 * 8 ≥ 0) := by omega
    simp only [go_sem, trim_same, h1, not_true_eq_false, not_false_eq_true, decide_true, decide_false, reduceCtorEq, ne_eq, Bool.false_eq_true, ↓reduceIte, Nat.reduceAdd, Nat.reduceEqDiff, Nat.reduceLT, Int.reduceLE, s_shl, s_shr, Bool.not_false, Bool.not_true, Bool.and_self, Bool.true_and, Bool.and_true, Bool.and_false, Bool.false_and, Bool.not_true, Bool.true_or, Bool.or_true, Nat.reduceSub, Nat.reduceLeDiff, Nat.reduceMul, Int.reduceToNat, Int.reduceLT, Int.reduceEq, Int.reduceNeg, and_self, and_true, true_and, and_false, false_and, or_true, true_or, or_false, false_or, Int.cast_ofNat_Int, Nat.reduceBEq, Nat.reduceBNe, beq_self_eq_true, List.take_zero, List.take_succ_cons, List.take_nil]
    simp [bes]
  | succ d ih =>
    intro i l H hi hl'
    have h1 : (56 - 8 * (i : Int) ≥ 0) := by omega
    have e1 : IntKind.u64.wrap (56 - 8 * (i : Int)) = ((8 * (7 - i) : Nat) : Int) := by rw [Num.wu64]; omega
    have e4 := (toB8 n hn (8 * (7 - i)) (by omega)).1
    have e5 : (0 : Int) ≤ ((8 * (7 - i) : Nat) : Int) := by omega
    have e6 : IntKind.i64.wrap (56 - 8 * (i : Int) - 8) = 56 - 8 * ((i + 1 : Nat) : Int) := by rw [wrap_id (by unfold I64; omega)]; omega
    have e7 : ints .u8 l ++ [.int .u8 (n / 2 ^ (8 * (7 - i)) % 256)] = ints .u8 (l ++ [be n i]) := by simp [be]
    have hb : ((ints .u8 l).length + 1) * 1 ≤ maxBytes := by simp [maxBytes]; omega
    have h2 := ih (i + 1) (l ++ [be n i]) H (by omega) (by simp; omega)
    refine loop_step l_ref1_Long_0.eq_1 k_ref1_Long_0.eq_1 (by kernel_rfl) ?_
    simp only [go_sem, trim_same, h1, e1, e4, e5, e6, apO, hb, e7, not_true_eq_false, not_false_eq_true, decide_true, decide_false, reduceCtorEq, ne_eq, Bool.false_eq_true, ↓reduceIte, Nat.reduceAdd, Nat.reduceEqDiff, Nat.reduceLT, Int.reduceLE, s_shl, s_shr, Bool.not_false, Bool.not_true, Bool.and_self, Bool.true_and, Bool.and_true, Bool.and_false, Bool.false_and, Bool.not_true, Bool.true_or, Bool.or_true, Nat.reduceSub, Nat.reduceLeDiff, Nat.reduceMul, Int.reduceToNat, Int.reduceLT, Int.reduceEq, Int.reduceNeg, and_self, and_true, true_and, and_false, false_and, or_true, true_or, or_false, false_or, Int.cast_ofNat_Int, Nat.reduceBEq, Nat.reduceBNe, beq_self_eq_true, List.take_zero, List.take_succ_cons, List.take_nil]
    refine h2.trans ?_
    have : bes n i = be n i :: bes n (i + 1) := by
      unfold bes
      rw [List.drop_eq_getElem_cons (by simp; omega)]
      simp
    rw [this]; simp

theorem ref_long_spec (l : List Int) (n : Int) (H : Heap) (hn : I64 n) (hl : l.length + 8 ≤ 70368744177664) : W n_ref1_Long [bytes l .ro, .int .i64 n] H = some (bytes (l ++ bes n 0) .own, H) := by
  have h := ref_long_loop l n hn hl 8 0 l H rfl (by simp)
  have hb0 : (0 + (ints .u8 l).length) * 1 ≤ maxBytes := by simp [maxBytes]; omega
  simp only [Int.natCast_zero, Int.mul_zero, Int.sub_zero] at h
  refine W_fn0 rfl rfl ?_
  simp only [go_sem, trim_same, c_ref1_Long, fs_nil, apF, hb0, List.nil_append, h, not_true_eq_false, not_false_eq_true, decide_true, decide_false, reduceCtorEq, ne_eq, Bool.false_eq_true, ↓reduceIte, Nat.reduceAdd, Nat.reduceEqDiff, Nat.reduceLT, Int.reduceLE, s_shl, s_shr, Bool.not_false, Bool.not_true, Bool.and_self, Bool.true_and, Bool.and_true, Bool.and_false, Bool.false_and, Bool.not_true, Bool.true_or, Bool.or_true, Nat.reduceSub, Nat.reduceLeDiff, Nat.reduceMul, Int.reduceToNat, Int.reduceLT, Int.reduceEq, Int.reduceNeg, and_self, and_true, true_and, and_false, false_and, or_true, true_or, or_false, false_or, Int.cast_ofNat_Int, Nat.reduceBEq, Nat.reduceBNe, beq_self_eq_true, List.take_zero, List.take_succ_cons, List.take_nil]

def bk : List Int → Int → Int
  | [], x => x
  | c :: r, x => bk r (bits .or .u64 (shl .u64 x 8) (IntKind.u64.wrap c))

theorem back_loop (l : List Int) (hl : l.length = 8) (H : Heap) (r : List Int) : ∀ (p : List Int) (x : Int), l = p ++ r →
    loopA W loopW (.ghost (.kill k_varint_Back_0) l_varint_Back_0) [(4, .int .u64 x), (11, bytes l .ro), (12, .int .i64 8), (13, .int .i64 (p.length : Int))] H = some (.exit 0, [(4, .int .u64 (bk r x))], H) := by
  induction r with
  | nil =>
    intro p x hp
    have h0 : p.length = 8 := by rw [hp, List.append_nil] at hl; exact hl
    have h1 : ¬ ((p.length : Int) < 8) := by omega
    refine loop_step l_varint_Back_0.eq_1 k_varint_Back_0.eq_1 (by kernel_rfl) ?_
    simp only [go_sem, trim_same, h1, bk, not_true_eq_false, not_false_eq_true, decide_true, decide_false, reduceCtorEq, ne_eq, Bool.false_eq_true, ↓reduceIte, Nat.reduceAdd, Nat.reduceEqDiff, Nat.reduceLT, Int.reduceLE, s_shl, s_shr, Bool.not_false, Bool.not_true, Bool.and_self, Bool.true_and, Bool.and_true, Bool.and_false, Bool.false_and, Bool.not_true, Bool.true_or, Bool.or_true, Nat.reduceSub, Nat.reduceLeDiff, Nat.reduceMul, Int.reduceToNat, Int.reduceLT, Int.reduceEq, Int.reduceNeg, and_self, and_true, true_and, and_false, false_and, or_true, true_or, or_false, false_or, Int.cast_ofNat_Int, Nat.reduceBEq, Nat.reduceBNe, beq_self_eq_true, List.take_zero, List.take_succ_cons, List.take_nil]
  | cons c r ih =>
    intro p x hp
    have hlen : l.length = p.length + (r.length + 1) := by rw [hp, List.length_append, List.length_cons]
    have h1 : (p.length : Int) < 8 := by omega
    have h2 : (0 : Int) ≤ (p.length : Int) := by omega
    have h3 := ints_at (k := .u8) hp rfl
    have e8 : IntKind.i64.wrap ((p.length : Int) + 1) = ((p.length + 1 : Nat) : Int) := by rw [wrap_id (by unfold I64; omega)]; omega
    have hn := ih (p ++ [c]) (bits .or .u64 (shl .u64 x 8) (IntKind.u64.wrap c)) (by rw [hp, List.append_assoc]; rfl)
    rw [show (p ++ [c]).length = p.length + 1 by simp] at hn
    refine loop_step l_varint_Back_0.eq_1 k_varint_Back_0.eq_1 (by kernel_rfl) ?_
    simp only [go_sem, trim_same, h1, h2, h3, e8, not_true_eq_false, not_false_eq_true, decide_true, decide_false, reduceCtorEq, ne_eq, Bool.false_eq_true, ↓reduceIte, Nat.reduceAdd, Nat.reduceEqDiff, Nat.reduceLT, Int.reduceLE, s_shl, s_shr, Bool.not_false, Bool.not_true, Bool.and_self, Bool.true_and, Bool.and_true, Bool.and_false, Bool.false_and, Bool.not_true, Bool.true_or, Bool.or_true, Nat.reduceSub, Nat.reduceLeDiff, Nat.reduceMul, Int.reduceToNat, Int.reduceLT, Int.reduceEq, Int.reduceNeg, and_self, and_true, true_and, and_false, false_and, or_true, true_or, or_false, false_or, Int.cast_ofNat_Int, Nat.reduceBEq, Nat.reduceBNe, beq_self_eq_true, List.take_zero, List.take_succ_cons, List.take_nil]
    exact hn


def backV (l : List Int) : AVal := if l.length < 8 then .tuple [.int .i64 0, .bool false] else .tuple [.int .i64 (IntKind.i64.wrap (bk (l.take 8) 0)), .bool true]

theorem back_spec (l : List Int) (H : Heap) : W n_varint_Back [bytes l .ro] H = some (backV l, H) := by
  refine W_fn0 rfl rfl ?_
  have e3 : (ints .u8 l).length = l.length := by simp
  unfold backV
  by_cases h : l.length < 8
  · rw [if_pos h]
    have h1 : (l.length : Int) < 8 := by omega
    simp only [go_sem, trim_same, c_varint_Back, e3, h1, not_true_eq_false, not_false_eq_true, decide_true, decide_false, reduceCtorEq, ne_eq, Bool.false_eq_true, ↓reduceIte, Nat.reduceAdd, Nat.reduceEqDiff, Nat.reduceLT, Int.reduceLE, s_shl, s_shr, Bool.not_false, Bool.not_true, Bool.and_self, Bool.true_and, Bool.and_true, Bool.and_false, Bool.false_and, Bool.not_true, Bool.true_or, Bool.or_true, Nat.reduceSub, Nat.reduceLeDiff, Nat.reduceMul, Int.reduceToNat, Int.reduceLT, Int.reduceEq, Int.reduceNeg, and_self, and_true, true_and, and_false, false_and, or_true, true_or, or_false, false_or, Int.cast_ofNat_Int, Nat.reduceBEq, Nat.reduceBNe, beq_self_eq_true, List.take_zero, List.take_succ_cons, List.take_nil]
  · rw [if_neg h]
    have h1 : ¬ ((l.length : Int) < 8) := by omega
    have h2 : (8 : Int) ≤ (l.length : Int) := by omega
    have e4 : (ints .u8 l).take 8 = ints .u8 (l.take 8) := by simp [List.map_take]
    have h8 : (l.take 8).length = 8 := by rw [List.length_take]; omega
    have e5 : (ints .u8 (l.take 8)).length = 8 := by rw [List.length_map, h8]
    have hl := back_loop (l.take 8) h8 H (l.take 8) [] 0 rfl
    simp only [List.length_nil, Int.natCast_zero] at hl
    simp only [go_sem, trim_same, c_varint_Back, e3, h1, sl_hi, h2, e4, e5, Int.cast_ofNat_Int, hl, not_true_eq_false, not_false_eq_true, decide_true, decide_false, reduceCtorEq, ne_eq, Bool.false_eq_true, ↓reduceIte, Nat.reduceAdd, Nat.reduceEqDiff, Nat.reduceLT, Int.reduceLE, s_shl, s_shr, Bool.not_false, Bool.not_true, Bool.and_self, Bool.true_and, Bool.and_true, Bool.and_false, Bool.false_and, Bool.not_true, Bool.true_or, Bool.or_true, Nat.reduceSub, Nat.reduceLeDiff, Nat.reduceMul, Int.reduceToNat, Int.reduceLT, Int.reduceEq, Int.reduceNeg, and_self, and_true, true_and, and_false, false_and, or_true, true_or, or_false, false_or, Int.cast_ofNat_Int, Nat.reduceBEq, Nat.reduceBNe, beq_self_eq_true, List.take_zero, List.take_succ_cons, List.take_nil]

end Go.Abs
