import Derived.Test.YtknclghaofmnhaaIC
import Derived.Test.YtknclghaofmnhaaN1
namespace Go.Abs
open Go Go.RowKit
set_option linter.unusedVariables false
set_option linter.unusedSimpArgs false
theorem W_clone (xs H) (h : xs.length * 1 ≤ maxBytes) : W n_slices_Clone_byte_byte_ [.list 1 xs .ro] H = some (.list 1 xs .own, H) := W_slices_Clone_byte_byte_ xs H h
theorem W_clip (xs : List AVal) (H : Heap) : W n_slices_Clip_byte_byte_ [.list 1 xs .ro] H = some (.list 1 xs .full, H) := by
  refine W_fn0 rfl rfl ?_
  simp only [c_slices_Clip_byte_byte_, trim_same, go_sem, sl_clip, reduceCtorEq, ne_eq, not_false_eq_true, Bool.false_eq_true, ↓reduceIte, Nat.reduceAdd, Nat.reduceEqDiff, Nat.reduceLT]



theorem bits_spec (n : Int) (H : Heap) (h : I64 (n * 8)) : W n_varint_bitsOf [.int .i64 n] H = some (.int .i64 (n * 8), H) := by
  have e := wrap_id h
  refine W_fn0 rfl rfl ?_
  simp only [go_sem, trim_same, c_varint_bitsOf, e, not_true_eq_false, not_false_eq_true, decide_true, decide_false, reduceCtorEq, ne_eq, Bool.false_eq_true, ↓reduceIte, Nat.reduceAdd, Nat.reduceEqDiff, Nat.reduceLT, Int.reduceLE, s_shl, s_shr, Bool.not_false, Bool.not_true, Bool.and_self, Bool.true_and, Bool.and_true, Bool.and_false, Bool.false_and, Bool.not_true, Bool.true_or, Bool.or_true, Nat.reduceSub, Nat.reduceLeDiff, Nat.reduceMul, Int.reduceToNat, Int.reduceLT, Int.reduceEq, Int.reduceNeg, and_self, and_true, true_and, and_false, false_and, or_true, true_or, or_false, false_or, Int.cast_ofNat_Int, Nat.reduceBEq, Nat.reduceBNe, beq_self_eq_true, List.take_zero, List.take_succ_cons, List.take_nil]

/-- Eight parts, the greatest first. -/
def be (n : Int) (i : Nat) : Int := (n / 2 ^ (8 * (7 - i))) % 256
def bes (n : Int) (i : Nat) : List Int := ((List.range 8).drop i).map (be n)

theorem toB8 (n : Int) (hn : I64 n) (k : Nat) (hk : k ≤ 56) : IntKind.u8.wrap (shr .i64 n (k : Int)) = (n / 2 ^ k) % 256 ∧ IntKind.u8.wrap (shr .u64 (IntKind.u64.wrap n) (k : Int)) = (n / 2 ^ k) % 256 := by
  have e : min ((k : Int)).toNat IntKind.i64.bits = k := by show min _ 64 = _; omega
  have e' : min ((k : Int)).toNat IntKind.u64.bits = k := by show min _ 64 = _; omega
  rw [Num.wu8, Num.wu8, Num.wu64]
  unfold shr
  rw [e, e']
  refine ⟨rfl, ?_⟩
  have hp : (18446744073709551616 : Int) = 2 ^ k * 2 ^ (64 - k) := by rw [← Int.pow_add]; rw [show k + (64 - k) = 64 by omega]; rfl
  have hp2 : (2 : Int) ^ (64 - k) = 256 * 2 ^ (56 - k) := by rw [show (64 - k) = 8 + (56 - k) by omega, Int.pow_add]; rfl
  have hpos : (0 : Int) < 2 ^ k := Int.pow_pos (by decide)
  have h1 : n % 18446744073709551616 = n - 18446744073709551616 * (n / 18446744073709551616) := by omega
  rw [h1]
  have h2 : n - 18446744073709551616 * (n / 18446744073709551616) = n + 2 ^ k * (-(2 ^ (64 - k) * (n / 18446744073709551616))) := by
    rw [Int.mul_neg, ← Int.mul_assoc, ← hp]; omega
  rw [h2, Int.add_mul_ediv_left _ _ (by omega), hp2, Int.mul_assoc]
  omega

theorem long_loop (l0 : List Int) (n : Int) (hn : I64 n) (hl : l0.length + 8 ≤ 70368744177664) (d : Nat) : ∀ (i : Nat) (l : List Int) (H : Heap), i + d = 8 → l.length = l0.length + i →
    loopA W loopW (.ghost (.kill k_varint_Long_0) l_varint_Long_0) [(1, .int .i64 n), (5, bytes l .own), (9, .int .i64 (i : Int))] H = some (.exit 0, [(5, bytes (l ++ bes n i) .own)], H) := by
  induction d with
  | zero =>
    intro i l H hi hl'
    have : i = 8 := by omega
    subst this
    refine loop_step l_varint_Long_0.eq_1 k_varint_Long_0.eq_1 (by kernel_rfl) ?_
    have h1 : ¬ (((8 : Nat) : Int) < 8) := by omega
    simp only [go_sem, trim_same, h1, not_true_eq_false, not_false_eq_true, decide_true, decide_false, reduceCtorEq, ne_eq, Bool.false_eq_true, ↓reduceIte, Nat.reduceAdd, Nat.reduceEqDiff, Nat.reduceLT, Int.reduceLE, s_shl, s_shr, Bool.not_false, Bool.not_true, Bool.and_self, Bool.true_and, Bool.and_true, Bool.and_false, Bool.false_and, Bool.not_true, Bool.true_or, Bool.or_true, Nat.reduceSub, Nat.reduceLeDiff, Nat.reduceMul, Int.reduceToNat, Int.reduceLT, Int.reduceEq, Int.reduceNeg, and_self, and_true, true_and, and_false, false_and, or_true, true_or, or_false, false_or, Int.cast_ofNat_Int, Nat.reduceBEq, Nat.reduceBNe, beq_self_eq_true, List.take_zero, List.take_succ_cons, List.take_nil]
    simp [bes]
  | succ d ih =>
    intro i l H hi hl'
    have h1 : ((i : Int) < 8) := by omega
    have e1 : IntKind.i64.wrap (7 - (i : Int)) = 7 - (i : Int) := wrap_id (by unfold I64; omega)
    have e2 := bits_spec (7 - (i : Int)) H (by unfold I64; omega)
    have e3 : (7 - (i : Int)) * 8 = ((8 * (7 - i) : Nat) : Int) := by omega
    have e4 := (toB8 n hn (8 * (7 - i)) (by omega)).2
    rw [e3] at e2
    have e5 : (0 : Int) ≤ ((8 * (7 - i) : Nat) : Int) := by omega
    have e6 : IntKind.i64.wrap ((i : Int) + 1) = ((i + 1 : Nat) : Int) := by rw [wrap_id (by unfold I64; omega)]; omega
    have e7 : ints .u8 l ++ [.int .u8 (n / 2 ^ (8 * (7 - i)) % 256)] = ints .u8 (l ++ [be n i]) := by simp [be]
    have hb : ((ints .u8 l).length + 1) * 1 ≤ maxBytes := by simp [maxBytes]; omega
    have h2 := ih (i + 1) (l ++ [be n i]) H (by omega) (by simp; omega)
    refine loop_step l_varint_Long_0.eq_1 k_varint_Long_0.eq_1 (by kernel_rfl) ?_
    simp only [go_sem, trim_same, h1, e1, e2, e4, e5, e6, apO, hb, e7, not_true_eq_false, not_false_eq_true, decide_true, decide_false, reduceCtorEq, ne_eq, Bool.false_eq_true, ↓reduceIte, Nat.reduceAdd, Nat.reduceEqDiff, Nat.reduceLT, Int.reduceLE, s_shl, s_shr, Bool.not_false, Bool.not_true, Bool.and_self, Bool.true_and, Bool.and_true, Bool.and_false, Bool.false_and, Bool.not_true, Bool.true_or, Bool.or_true, Nat.reduceSub, Nat.reduceLeDiff, Nat.reduceMul, Int.reduceToNat, Int.reduceLT, Int.reduceEq, Int.reduceNeg, and_self, and_true, true_and, and_false, false_and, or_true, true_or, or_false, false_or, Int.cast_ofNat_Int, Nat.reduceBEq, Nat.reduceBNe, beq_self_eq_true, List.take_zero, List.take_succ_cons, List.take_nil]
    refine h2.trans ?_
    have : bes n i = be n i :: bes n (i + 1) := by
      unfold bes
      rw [List.drop_eq_getElem_cons (by simp; omega)]
      simp
    rw [this]; simp

theorem long_spec (l : List Int) (n : Int) (H : Heap) (hn : I64 n) (hl : l.length + 8 ≤ 70368744177664) : W n_varint_Long [bytes l .ro, .int .i64 n] H = some (bytes (l ++ bes n 0) .full, H) := by
  have h := long_loop l n hn hl 8 0 l H rfl (by simp)
  have hcl : (ints .u8 l).length * 1 ≤ maxBytes := by simp [maxBytes]; omega
  simp only [Int.natCast_zero] at h
  refine W_fn0 rfl rfl ?_
  simp only [go_sem, trim_same, c_varint_Long, W_clone, hcl, h, W_clip, not_true_eq_false, not_false_eq_true, decide_true, decide_false, reduceCtorEq, ne_eq, Bool.false_eq_true, ↓reduceIte, Nat.reduceAdd, Nat.reduceEqDiff, Nat.reduceLT, Int.reduceLE, s_shl, s_shr, Bool.not_false, Bool.not_true, Bool.and_self, Bool.true_and, Bool.and_true, Bool.and_false, Bool.false_and, Bool.not_true, Bool.true_or, Bool.or_true, Nat.reduceSub, Nat.reduceLeDiff, Nat.reduceMul, Int.reduceToNat, Int.reduceLT, Int.reduceEq, Int.reduceNeg, and_self, and_true, true_and, and_false, false_and, or_true, true_or, or_false, false_or, Int.cast_ofNat_Int, Nat.reduceBEq, Nat.reduceBNe, beq_self_eq_true, List.take_zero, List.take_succ_cons, List.take_nil]
end Go.Abs
