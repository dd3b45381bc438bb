import Derived.Test.YtknclghaofmnhaaIC
import Derived.Test.YtknclghaofmnhaaN1
import Derived.Test.YtknclghaofmnhaaK37
namespace Go.Abs
open Go Go.RowKit
set_option linter.unusedVariables false
set_option linter.unusedSimpArgs false
theorem W_clone (xs H) (h : xs.length * 1 ≤ maxBytes) : W n_slices_Clone_byte_byte_ [.list 1 xs .ro] H = some (.list 1 xs .own, H) := W_slices_Clone_byte_byte_ xs H h
theorem W_clip (xs : List AVal) (H : Heap) : W n_slices_Clip_byte_byte_ [.list 1 xs .ro] H = some (.list 1 xs .full, H) := by
  refine W_fn0 rfl rfl ?_
  simp only [c_slices_Clip_byte_byte_, trim_same, go_sem, sl_clip, reduceCtorEq, ne_eq, not_false_eq_true, Bool.false_eq_true, ↓reduceIte, Nat.reduceAdd, Nat.reduceEqDiff, Nat.reduceLT]



theorem bits_spec (n : Int) (H : Heap) (h : I64 (n * 8)) : W n_varint_bitsOf [.int .i64 n] H = some (.int .i64 (n * 8), H) := by
  have e := wrap_id h
  refine W_fn0 rfl rfl ?_
  simp only [go_sem, trim_same, c_varint_bitsOf, e, not_true_eq_false, not_false_eq_true, decide_true, decide_false, reduceCtorEq, ne_eq, Bool.false_eq_true, ↓reduceIte, Nat.reduceAdd, Nat.reduceEqDiff, Nat.reduceLT, Int.reduceLE, s_shl, s_shr, Bool.not_false, Bool.not_true, Bool.and_self, Bool.true_and, Bool.and_true, Bool.and_false, Bool.false_and, Bool.not_true, Bool.true_or, Bool.or_true, Nat.reduceSub, Nat.reduceLeDiff, Nat.reduceMul, Int.reduceToNat, Int.reduceLT, Int.reduceEq, Int.reduceNeg, and_self, and_true, true_and, and_false, false_and, or_true, true_or, or_false, false_or, Int.cast_ofNat_Int, Nat.reduceBEq, Nat.reduceBNe, beq_self_eq_true, List.take_zero, List.take_succ_cons, List.take_nil]

/-- Eight parts, the greatest first. -/
def be (n : Int) (i : Nat) : Int := (n / 2 ^ (8 * (7 - i))) % 256
def bes (n : Int) (i : Nat) : List Int := ((List.range 8).drop i).map (be n)

theorem toB8 (n : Int) (hn : I64 n) (k : Nat) (hk : k ≤ 56) : IntKind.u8.wrap (shr .i64 n (k : Int)) = (n / 2 ^ k) % 256 ∧ IntKind.u8.wrap (shr .u64 (IntKind.u64.wrap n) (k : Int)) = (n / 2 ^ k) % 256 := by
  have e : min ((k : Int)).toNat IntKind.i64.bits = k := by show min _ 64 = _; omega
  have e' : min ((k : Int)).toNat IntKind.u64.bits = k := by show min _ 64 = _; omega
  rw [Num.wu8, Num.wu8, Num.wu64]
  unfold shr
  rw [e, e']
  refine ⟨rfl, ?_⟩
  have hp : (18446744073709551616 : Int) = 2 ^ k * 2 ^ (64 - k) := by rw [← Int.pow_add]; rw [show k + (64 - k) = 64 by omega]; rfl
  have hp2 : (2 : Int) ^ (64 - k) = 256 * 2 ^ (56 - k) := by rw [show (64 - k) = 8 + (56 - k) by omega, Int.pow_add]; rfl
  have hpos : (0 : Int) < 2 ^ k := Int.pow_pos (by decide)
  have h1 : n % 18446744073709551616 = n - 18446744073709551616 * (n / 18446744073709551616) := by omega
  rw [h1]
  have h2 : n - 18446744073709551616 * (n / 18446744073709551616) = n + 2 ^ k * (-(2 ^ (64 - k) * (n / 18446744073709551616))) := by
    rw [Int.mul_neg, ← Int.mul_assoc, ← hp]; omega
  rw [h2, Int.add_mul_ediv_left _ _ (by omega), hp2, Int.mul_assoc]
  omega

theorem long_loop (l0 : List Int) (n : Int) (hn : I64 n) (hl : l0.length + 8 ≤ 70368744177664) (d : Nat) : ∀ (i : Nat) (l : List Int) (H : Heap), i + d = 8 → l.length = l0.length + i →
    loopA W loopW (.ghost (.kill k_varint_Long_0) l_varint_Long_0) [(1, .int .i64 n), (5, bytes l .own), (9, .int .i64 (i : Int))] H = some (.exit 0, [(5, bytes (l ++ bes n i) .own)], H) := by
  induction d with
  | zero =>
    intro i l H hi hl'
    have : i = 8 := by omega
    subst this
    refine loop_step l_varint_Long_0.eq_1 k_varint_Long_0.eq_1 (by kernel_rfl) ?_
    have h1 : ¬ (((8 : Nat) : Int) < 8) := by omega
    simp only [go_sem, trim_same, h1, not_true_eq_false, not_false_eq_true, decide_true, decide_false, reduceCtorEq, ne_eq, Bool.false_eq_true, ↓reduceIte, Nat.reduceAdd, Nat.reduceEqDiff, Nat.reduceLT, Int.reduceLE, s_shl, s_shr, Bool.not_false, Bool.not_true, Bool.and_self, Bool.true_and, Bool.and_true, Bool.and_false, Bool.false_and, Bool.not_true, Bool.true_or, Bool.or_true, Nat.reduceSub, Nat.reduceLeDiff, Nat.reduceMul, Int.reduceToNat, Int.reduceLT, Int.reduceEq, Int.reduceNeg, and_self, and_true, true_and, and_false, false_and, or_true, true_or, or_false, false_or, Int.cast_ofNat_Int, Nat.reduceBEq, Nat.reduceBNe, beq_self_eq_true, List.take_zero, List.take_succ_cons, List.take_nil]
    simp [bes]
  | succ d ih =>
    intro i l H hi hl'
    have h1 : ((i : Int) < 8) := by omega
    have e1 : IntKind.i64.wrap (7 - (i : Int)) = 7 - (i : Int) := wrap_id (by unfold I64; omega)
    have e2 := bits_spec (7 - (i : Int)) H (by unfold I64; omega)
    have e3 : (7 - (i : Int)) * 8 = ((8 * (7 - i) : Nat) : Int) := by omega
    have e4 := (toB8 n hn (8 * (7 - i)) (by omega)).2
    rw [e3] at e2
    have e5 : (0 : Int) ≤ ((8 * (7 - i) : Nat) : Int) := by omega
    have e6 : IntKind.i64.wrap ((i : Int) + 1) = ((i + 1 : Nat) : Int) := by rw [wrap_id (by unfold I64; omega)]; omega
    have e7 : ints .u8 l ++ [.int .u8 (n / 2 ^ (8 * (7 - i)) % 256)] = ints .u8 (l ++ [be n i]) := by simp [be]
    have hb : ((ints .u8 l).length + 1) * 1 ≤ maxBytes := by simp [maxBytes]; omega
    have h2 := ih (i + 1) (l ++ [be n i]) H (by omega) (by simp; omega)
    refine loop_step l_varint_Long_0.eq_1 k_varint_Long_0.eq_1 (by kernel_rfl) ?_
    simp only [go_sem, trim_same, h1, e1, e2, e4, e5, e6, apO, hb, e7, not_true_eq_false, not_false_eq_true, decide_true, decide_false, reduceCtorEq, ne_eq, Bool.false_eq_true, ↓reduceIte, Nat.reduceAdd, Nat.reduceEqDiff, Nat.reduceLT, Int.reduceLE, s_shl, s_shr, Bool.not_false, Bool.not_true, Bool.and_self, Bool.true_and, Bool.and_true, Bool.and_false, Bool.false_and, Bool.not_true, Bool.true_or, Bool.or_true, Nat.reduceSub, Nat.reduceLeDiff, Nat.reduceMul, Int.reduceToNat, Int.reduceLT, Int.reduceEq, Int.reduceNeg, and_self, and_true, true_and, and_false, false_and, or_true, true_or, or_false, false_or, Int.cast_ofNat_Int, Nat.reduceBEq, Nat.reduceBNe, beq_self_eq_true, List.take_zero, List.take_succ_cons, List.take_nil]
    refine h2.trans ?_
    have : bes n i = be n i :: bes n (i + 1) := by
      unfold bes
      rw [List.drop_eq_getElem_cons (by simp; omega)]
      simp
    rw [this]; simp

theorem long_spec (l : List Int) (n : Int) (H : Heap) (hn : I64 n) (hl : l.length + 8 ≤ 70368744177664) : W n_varint_Long [bytes l .ro, .int .i64 n] H = some (bytes (l ++ bes n 0) .full, H) := by
  have h := long_loop l n hn hl 8 0 l H rfl (by simp)
  have hcl : (ints .u8 l).length * 1 ≤ maxBytes := by simp [maxBytes]; omega
  simp only [Int.natCast_zero] at h
  refine W_fn0 rfl rfl ?_
  simp only [go_sem, trim_same, c_varint_Long, W_clone, hcl, h, W_clip, not_true_eq_false, not_false_eq_true, decide_true, decide_false, reduceCtorEq, ne_eq, Bool.false_eq_true, ↓reduceIte, Nat.reduceAdd, Nat.reduceEqDiff, Nat.reduceLT, Int.reduceLE, s_shl, s_shr, Bool.not_false, Bool.not_true, Bool.and_self, Bool.true_and, Bool.and_true, Bool.and_false, Bool.false_and, Bool.not_true, Bool.true_or, Bool.or_true, Nat.reduceSub, Nat.reduceLeDiff, Nat.reduceMul, Int.reduceToNat, Int.reduceLT, Int.reduceEq, Int.reduceNeg, and_self, and_true, true_and, and_false, false_and, or_true, true_or, or_false, false_or, Int.cast_ofNat_Int, Nat.reduceBEq, Nat.reduceBNe, beq_self_eq_true, List.take_zero, List.take_succ_cons, List.take_nil]
end Go.Abs

namespace Go.Abs
open Go Go.RowKit
set_option linter.unusedVariables false
set_option linter.unusedSimpArgs false


theorem ref_long_loop (l0 : List Int) (n : Int) (hn : I64 n) (hl : l0.length + 8 ≤ 70368744177664) (d : Nat) : ∀ (i : Nat) (l : List Int) (H : Heap), i + d = 8 → l.length = l0.length + i →
    loopA W loopW (.ghost (.kill k_ref1_Long_0) l_ref1_Long_0) [(1, .int .i64 n), (5, bytes l .own), (6, .int .i64 (56 - 8 * (i : Int)))] H = some (.exit 0, [(5, bytes (l ++ bes n i) .own)], H) := by
  induction d with
  | zero =>
    intro i l H hi hl'
    have : i = 8 := by omega
    subst this
    refine loop_step l_ref1_Long_0.eq_1 k_ref1_Long_0.eq_1 (by kernel_rfl) ?_
    have h1 : ¬ ((56 : Int) - 8 * 8 ≥ 0) := by omega
    simp only [go_sem, trim_same, h1, not_true_eq_false, not_false_eq_true, decide_true, decide_false, reduceCtorEq, ne_eq, Bool.false_eq_true, ↓reduceIte, Nat.reduceAdd, Nat.reduceEqDiff, Nat.reduceLT, Int.reduceLE, s_shl, s_shr, Bool.not_false, Bool.not_true, Bool.and_self, Bool.true_and, Bool.and_true, Bool.and_false, Bool.false_and, Bool.not_true, Bool.true_or, Bool.or_true, Nat.reduceSub, Nat.reduceLeDiff, Nat.reduceMul, Int.reduceToNat, Int.reduceLT, Int.reduceEq, Int.reduceNeg, and_self, and_true, true_and, and_false, false_and, or_true, true_or, or_false, false_or, Int.cast_ofNat_Int, Nat.reduceBEq, Nat.reduceBNe, beq_self_eq_true, List.take_zero, List.take_succ_cons, List.take_nil]
    simp [bes]
  | succ d ih =>
    intro i l H hi hl'
    have h1 : (56 - 8 * (i : Int) ≥ 0) := by omega
    have e1 : IntKind.u64.wrap (56 - 8 * (i : Int)) = ((8 * (7 - i) : Nat) : Int) := by rw [Num.wu64]; omega
    have e4 := (toB8 n hn (8 * (7 - i)) (by omega)).1
    have e5 : (0 : Int) ≤ ((8 * (7 - i) : Nat) : Int) := by omega
    have e6 : IntKind.i64.wrap (56 - 8 * (i : Int) - 8) = 56 - 8 * ((i + 1 : Nat) : Int) := by rw [wrap_id (by unfold I64; omega)]; omega
    have e7 : ints .u8 l ++ [.int .u8 (n / 2 ^ (8 * (7 - i)) % 256)] = ints .u8 (l ++ [be n i]) := by simp [be]
    have hb : ((ints .u8 l).length + 1) * 1 ≤ maxBytes := by simp [maxBytes]; omega
    have h2 := ih (i + 1) (l ++ [be n i]) H (by omega) (by simp; omega)
    refine loop_step l_ref1_Long_0.eq_1 k_ref1_Long_0.eq_1 (by kernel_rfl) ?_
    simp only [go_sem, trim_same, h1, e1, e4, e5, e6, apO, hb, e7, not_true_eq_false, not_false_eq_true, decide_true, decide_false, reduceCtorEq, ne_eq, Bool.false_eq_true, ↓reduceIte, Nat.reduceAdd, Nat.reduceEqDiff, Nat.reduceLT, Int.reduceLE, s_shl, s_shr, Bool.not_false, Bool.not_true, Bool.and_self, Bool.true_and, Bool.and_true, Bool.and_false, Bool.false_and, Bool.not_true, Bool.true_or, Bool.or_true, Nat.reduceSub, Nat.reduceLeDiff, Nat.reduceMul, Int.reduceToNat, Int.reduceLT, Int.reduceEq, Int.reduceNeg, and_self, and_true, true_and, and_false, false_and, or_true, true_or, or_false, false_or, Int.cast_ofNat_Int, Nat.reduceBEq, Nat.reduceBNe, beq_self_eq_true, List.take_zero, List.take_succ_cons, List.take_nil]
    refine h2.trans ?_
    have : bes n i = be n i :: bes n (i + 1) := by
      unfold bes
      rw [List.drop_eq_getElem_cons (by simp; omega)]
      simp
    rw [this]; simp

theorem ref_long_spec (l : List Int) (n : Int) (H : Heap) (hn : I64 n) (hl : l.length + 8 ≤ 70368744177664) : W n_ref1_Long [bytes l .ro, .int .i64 n] H = some (bytes (l ++ bes n 0) .own, H) := by
  have h := ref_long_loop l n hn hl 8 0 l H rfl (by simp)
  have hb0 : (0 + (ints .u8 l).length) * 1 ≤ maxBytes := by simp [maxBytes]; omega
  simp only [Int.natCast_zero, Int.mul_zero, Int.sub_zero] at h
  refine W_fn0 rfl rfl ?_
  simp only [go_sem, trim_same, c_ref1_Long, fs_nil, apF, hb0, List.nil_append, h, not_true_eq_false, not_false_eq_true, decide_true, decide_false, reduceCtorEq, ne_eq, Bool.false_eq_true, ↓reduceIte, Nat.reduceAdd, Nat.reduceEqDiff, Nat.reduceLT, Int.reduceLE, s_shl, s_shr, Bool.not_false, Bool.not_true, Bool.and_self, Bool.true_and, Bool.and_true, Bool.and_false, Bool.false_and, Bool.not_true, Bool.true_or, Bool.or_true, Nat.reduceSub, Nat.reduceLeDiff, Nat.reduceMul, Int.reduceToNat, Int.reduceLT, Int.reduceEq, Int.reduceNeg, and_self, and_true, true_and, and_false, false_and, or_true, true_or, or_false, false_or, Int.cast_ofNat_Int, Nat.reduceBEq, Nat.reduceBNe, beq_self_eq_true, List.take_zero, List.take_succ_cons, List.take_nil]

def bk : List Int → Int → Int
  | [], x => x
  | c :: r, x => bk r (bits .or .u64 (shl .u64 x 8) (IntKind.u64.wrap c))

theorem back_loop (l : List Int) (hl : l.length = 8) (H : Heap) (r : List Int) : ∀ (p : List Int) (x : Int), l = p ++ r →
    loopA W loopW (.ghost (.kill k_varint_Back_0) l_varint_Back_0) [(4, .int .u64 x), (11, bytes l .ro), (12, .int .i64 8), (13, .int .i64 (p.length : Int))] H = some (.exit 0, [(4, .int .u64 (bk r x))], H) := by
  induction r with
  | nil =>
    intro p x hp
    have h0 : p.length = 8 := by rw [hp, List.append_nil] at hl; exact hl
    have h1 : ¬ ((p.length : Int) < 8) := by omega
    refine loop_step l_varint_Back_0.eq_1 k_varint_Back_0.eq_1 (by kernel_rfl) ?_
    simp only [go_sem, trim_same, h1, bk, not_true_eq_false, not_false_eq_true, decide_true, decide_false, reduceCtorEq, ne_eq, Bool.false_eq_true, ↓reduceIte, Nat.reduceAdd, Nat.reduceEqDiff, Nat.reduceLT, Int.reduceLE, s_shl, s_shr, Bool.not_false, Bool.not_true, Bool.and_self, Bool.true_and, Bool.and_true, Bool.and_false, Bool.false_and, Bool.not_true, Bool.true_or, Bool.or_true, Nat.reduceSub, Nat.reduceLeDiff, Nat.reduceMul, Int.reduceToNat, Int.reduceLT, Int.reduceEq, Int.reduceNeg, and_self, and_true, true_and, and_false, false_and, or_true, true_or, or_false, false_or, Int.cast_ofNat_Int, Nat.reduceBEq, Nat.reduceBNe, beq_self_eq_true, List.take_zero, List.take_succ_cons, List.take_nil]
  | cons c r ih =>
    intro p x hp
    have hlen : l.length = p.length + (r.length + 1) := by rw [hp, List.length_append, List.length_cons]
    have h1 : (p.length : Int) < 8 := by omega
    have h2 : (0 : Int) ≤ (p.length : Int) := by omega
    have h3 := ints_at (k := .u8) hp rfl
    have e8 : IntKind.i64.wrap ((p.length : Int) + 1) = ((p.length + 1 : Nat) : Int) := by rw [wrap_id (by unfold I64; omega)]; omega
    have hn := ih (p ++ [c]) (bits .or .u64 (shl .u64 x 8) (IntKind.u64.wrap c)) (by rw [hp, List.append_assoc]; rfl)
    rw [show (p ++ [c]).length = p.length + 1 by simp] at hn
    refine loop_step l_varint_Back_0.eq_1 k_varint_Back_0.eq_1 (by kernel_rfl) ?_
    simp only [go_sem, trim_same, h1, h2, h3, e8, not_true_eq_false, not_false_eq_true, decide_true, decide_false, reduceCtorEq, ne_eq, Bool.false_eq_true, ↓reduceIte, Nat.reduceAdd, Nat.reduceEqDiff, Nat.reduceLT, Int.reduceLE, s_shl, s_shr, Bool.not_false, Bool.not_true, Bool.and_self, Bool.true_and, Bool.and_true, Bool.and_false, Bool.false_and, Bool.not_true, Bool.true_or, Bool.or_true, Nat.reduceSub, Nat.reduceLeDiff, Nat.reduceMul, Int.reduceToNat, Int.reduceLT, Int.reduceEq, Int.reduceNeg, and_self, and_true, true_and, and_false, false_and, or_true, true_or, or_false, false_or, Int.cast_ofNat_Int, Nat.reduceBEq, Nat.reduceBNe, beq_self_eq_true, List.take_zero, List.take_succ_cons, List.take_nil]
    exact hn


def backV (l : List Int) : AVal := if l.length < 8 then .tuple [.int .i64 0, .bool false] else .tuple [.int .i64 (IntKind.i64.wrap (bk (l.take 8) 0)), .bool true]

theorem back_spec (l : List Int) (H : Heap) : W n_varint_Back [bytes l .ro] H = some (backV l, H) := by
  refine W_fn0 rfl rfl ?_
  have e3 : (ints .u8 l).length = l.length := by simp
  unfold backV
  by_cases h : l.length < 8
  · rw [if_pos h]
    have h1 : (l.length : Int) < 8 := by omega
    simp only [go_sem, trim_same, c_varint_Back, e3, h1, not_true_eq_false, not_false_eq_true, decide_true, decide_false, reduceCtorEq, ne_eq, Bool.false_eq_true, ↓reduceIte, Nat.reduceAdd, Nat.reduceEqDiff, Nat.reduceLT, Int.reduceLE, s_shl, s_shr, Bool.not_false, Bool.not_true, Bool.and_self, Bool.true_and, Bool.and_true, Bool.and_false, Bool.false_and, Bool.not_true, Bool.true_or, Bool.or_true, Nat.reduceSub, Nat.reduceLeDiff, Nat.reduceMul, Int.reduceToNat, Int.reduceLT, Int.reduceEq, Int.reduceNeg, and_self, and_true, true_and, and_false, false_and, or_true, true_or, or_false, false_or, Int.cast_ofNat_Int, Nat.reduceBEq, Nat.reduceBNe, beq_self_eq_true, List.take_zero, List.take_succ_cons, List.take_nil]
  · rw [if_neg h]
    have h1 : ¬ ((l.length : Int) < 8) := by omega
    have h2 : (8 : Int) ≤ (l.length : Int) := by omega
    have e4 : (ints .u8 l).take 8 = ints .u8 (l.take 8) := by simp [List.map_take]
    have h8 : (l.take 8).length = 8 := by rw [List.length_take]; omega
    have e5 : (ints .u8 (l.take 8)).length = 8 := by rw [List.length_map, h8]
    have hl := back_loop (l.take 8) h8 H (l.take 8) [] 0 rfl
    simp only [List.length_nil, Int.natCast_zero] at hl
    simp only [go_sem, trim_same, c_varint_Back, e3, h1, sl_hi, h2, e4, e5, Int.cast_ofNat_Int, hl, not_true_eq_false, not_false_eq_true, decide_true, decide_false, reduceCtorEq, ne_eq, Bool.false_eq_true, ↓reduceIte, Nat.reduceAdd, Nat.reduceEqDiff, Nat.reduceLT, Int.reduceLE, s_shl, s_shr, Bool.not_false, Bool.not_true, Bool.and_self, Bool.true_and, Bool.and_true, Bool.and_false, Bool.false_and, Bool.not_true, Bool.true_or, Bool.or_true, Nat.reduceSub, Nat.reduceLeDiff, Nat.reduceMul, Int.reduceToNat, Int.reduceLT, Int.reduceEq, Int.reduceNeg, and_self, and_true, true_and, and_false, false_and, or_true, true_or, or_false, false_or, Int.cast_ofNat_Int, Nat.reduceBEq, Nat.reduceBNe, beq_self_eq_true, List.take_zero, List.take_succ_cons, List.take_nil]

end Go.Abs

namespace Go.Abs
open Go Go.RowKit
set_option linter.unusedVariables false
set_option linter.unusedSimpArgs false

/-! ## Indexes -/
structure Ad where
  off : Int
  at_ : Int
  end_ : Int
  entry : Bool
structure Ix where
  base : Int
  every : Int
  l : List Ad
abbrev Ad.v (a : Ad) : AVal := .agg [.int .i64 a.off, .int .i64 a.at_, .int .i64 a.end_, .bool a.entry]
abbrev Ix.B (x : Ix) (fl : Fl) : Box := .cells [.int .i64 x.base, .int .i64 x.every, .list 4 (x.l.map Ad.v) fl]
def lastE : List Ad → Option Ad
  | [] => none
  | a :: l => match lastE l with
    | some b => some b
    | none => if a.entry then some a else none
theorem lastE_snoc (l : List Ad) (a : Ad) : lastE (l ++ [a]) = if a.entry then some a else lastE l := by
  induction l with
  | nil => simp [lastE]
  | cons b l ih =>
    rw [List.cons_append, lastE, ih, lastE]
    cases a.entry <;> simp
def lastV (o : Option Ad) : AVal := (o.getD ⟨0, 0, 0, false⟩).v
abbrev Flag (x : Ix) (fl : Fl) : Prop := fl = .own ∨ (fl = .full ∧ x.l = [])

theorem last_loop (x : Ix) (fl : Fl) (hfl : Flag x fl) (hx1 : x.l.length < 1000000000) (i : Nat) : ∀ (r s : List Ad) (H M : Heap), x.l = r ++ s → lastE s = none → Old H i (x.B fl) → 
    loopA W loopW (.ghost (.kill k_index_Index_last_0) l_index_Index_last_0) [(0, .ptr i 0), (2, .ptr (pt H 0) 0), (4, .int .i64 ((r.length : Int) - 1))] (hx H (.cells [.int .i64 0, .int .i64 0, .int .i64 0, .bool false] :: M)) =
      match lastE r with
      | some a => some (.ret, [(2, .ptr (pt H 0) 0), (3, .bool true)], hx H (.cells [.int .i64 a.off, .int .i64 a.at_, .int .i64 a.end_, .bool a.entry] :: M))
      | none => some (.exit 0, [(2, .ptr (pt H 0) 0)], hx H (.cells [.int .i64 0, .int .i64 0, .int .i64 0, .bool false] :: M)) := by
  intro r
  have key : ∀ (k : Nat) (r s : List Ad) (H M : Heap), r.length = k → x.l = r ++ s → lastE s = none → Old H i (x.B fl) → 
    loopA W loopW (.ghost (.kill k_index_Index_last_0) l_index_Index_last_0) [(0, .ptr i 0), (2, .ptr (pt H 0) 0), (4, .int .i64 ((r.length : Int) - 1))] (hx H (.cells [.int .i64 0, .int .i64 0, .int .i64 0, .bool false] :: M)) =
      match lastE r with
      | some a => some (.ret, [(2, .ptr (pt H 0) 0), (3, .bool true)], hx H (.cells [.int .i64 a.off, .int .i64 a.at_, .int .i64 a.end_, .bool a.entry] :: M))
      | none => some (.exit 0, [(2, .ptr (pt H 0) 0)], hx H (.cells [.int .i64 0, .int .i64 0, .int .i64 0, .bool false] :: M)) := by
    intro k
    induction k with
    | zero =>
      intro r s H M hr hs hn hi
      have hr0 : r = [] := List.length_eq_zero_iff.1 hr
      have h1 : ¬ ((r.length : Int) - 1 ≥ 0) := by omega
      have h2 : lastE r = none := by rw [hr0]; rfl
      rw [h2]
      refine loop_step l_index_Index_last_0.eq_1 k_index_Index_last_0.eq_1 (by kernel_rfl) ?_
      simp only [go_sem, h1, not_true_eq_false, not_false_eq_true, decide_true, decide_false, reduceCtorEq, ne_eq, Bool.false_eq_true, ↓reduceIte, Nat.reduceAdd, Nat.reduceEqDiff, Nat.reduceLT, Int.reduceLE, s_shl, s_shr, Bool.not_false, Bool.not_true, Bool.and_self, Bool.true_and, Bool.and_true, Bool.and_false, Bool.false_and, Bool.not_true, Bool.true_or, Bool.or_true, Nat.reduceSub, Nat.reduceLeDiff, Nat.reduceMul, Int.reduceToNat, Int.reduceLT, Int.reduceEq, Int.reduceNeg, and_self, and_true, true_and, and_false, false_and, or_true, true_or, or_false, false_or, Int.cast_ofNat_Int, Nat.reduceBEq, Nat.reduceBNe, beq_self_eq_true, List.take_zero, List.take_succ_cons, List.take_nil]
    | succ k ih =>
      intro r s H M hr hs hn hi
      obtain ⟨r', a, rfl⟩ : ∃ r' a, r = r' ++ [a] := by
        rcases List.eq_nil_or_concat r with h | ⟨s, x, h⟩
        · subst h; cases hr
        · exact ⟨s, x, by simpa using h⟩
      have hr' : r'.length = k := by simpa using hr
      have hl : x.l.length = k + 1 + s.length := by rw [hs, List.length_append, hr]
      have e0 : (((r' ++ [a]).length : Nat) : Int) - 1 = (k : Nat) := by rw [hr]; omega
      have h1 : ((k : Nat) : Int) ≥ 0 := by omega
      have h3 : (x.l.map Ad.v)[((k : Nat) : Int).toNat]? = some a.v := by rw [hs, ← hr']; simp
      have e1 : IntKind.i64.wrap (((k : Nat) : Int) - 1) = (r'.length : Nat) - 1 := by rw [hr', wrap_id (by unfold I64; omega)]
      have gi := hi.get
      rw [lastE_snoc, e0]
      cases he : a.entry with
      | true =>
        rw [if_pos rfl]
        refine loop_step l_index_Index_last_0.eq_1 k_index_Index_last_0.eq_1 (by kernel_rfl) ?_
        rcases hfl with rfl | ⟨rfl, h0⟩
        · simp only [go_sem, h1, h3, gi, he, not_true_eq_false, not_false_eq_true, decide_true, decide_false, reduceCtorEq, ne_eq, Bool.false_eq_true, ↓reduceIte, Nat.reduceAdd, Nat.reduceEqDiff, Nat.reduceLT, Int.reduceLE, s_shl, s_shr, Bool.not_false, Bool.not_true, Bool.and_self, Bool.true_and, Bool.and_true, Bool.and_false, Bool.false_and, Bool.not_true, Bool.true_or, Bool.or_true, Nat.reduceSub, Nat.reduceLeDiff, Nat.reduceMul, Int.reduceToNat, Int.reduceLT, Int.reduceEq, Int.reduceNeg, and_self, and_true, true_and, and_false, false_and, or_true, true_or, or_false, false_or, Int.cast_ofNat_Int, Nat.reduceBEq, Nat.reduceBNe, beq_self_eq_true, List.take_zero, List.take_succ_cons, List.take_nil]
        · rw [h0] at hs; simp at hs
      | false =>
        rw [if_neg (by decide)]
        have hN := ih r' (a :: s) H M hr' (by rw [hs]; simp) (by rw [lastE, hn, he]; rfl) hi
        obtain ⟨R, hR⟩ : ∃ R, (match lastE r' with
          | some a => some (Out.ret, ([(2, .ptr (pt H 0) 0), (3, .bool true)] : Env), hx H (Box.cells [.int .i64 a.off, .int .i64 a.at_, .int .i64 a.end_, .bool a.entry] :: M))
          | none => some (Out.exit 0, [(2, .ptr (pt H 0) 0)], hx H (.cells [.int .i64 0, .int .i64 0, .int .i64 0, .bool false] :: M))) = some R := by
          split <;> exact ⟨_, rfl⟩
        rw [hR] at hN ⊢
        refine loop_step l_index_Index_last_0.eq_1 k_index_Index_last_0.eq_1 (by kernel_rfl) ?_
        rcases hfl with rfl | ⟨rfl, h0⟩
        · simp only [go_sem, h1, h3, gi, he, e1, not_true_eq_false, not_false_eq_true, decide_true, decide_false, reduceCtorEq, ne_eq, Bool.false_eq_true, ↓reduceIte, Nat.reduceAdd, Nat.reduceEqDiff, Nat.reduceLT, Int.reduceLE, s_shl, s_shr, Bool.not_false, Bool.not_true, Bool.and_self, Bool.true_and, Bool.and_true, Bool.and_false, Bool.false_and, Bool.not_true, Bool.true_or, Bool.or_true, Nat.reduceSub, Nat.reduceLeDiff, Nat.reduceMul, Int.reduceToNat, Int.reduceLT, Int.reduceEq, Int.reduceNeg, and_self, and_true, true_and, and_false, false_and, or_true, true_or, or_false, false_or, Int.cast_ofNat_Int, Nat.reduceBEq, Nat.reduceBNe, beq_self_eq_true, List.take_zero, List.take_succ_cons, List.take_nil]; exact hN
        · rw [h0] at hs; simp at hs
  exact fun s H M => key r.length r s H M rfl
theorem last_spec (x : Ix) (fl : Fl) (hfl : Flag x fl) (hx1 : x.l.length < 1000000000) (i : Nat) (H : Heap) (hi : Old H i (x.B fl)) : W n_index_Index_last [.ptr i 0] H = some (.tuple [lastV (lastE x.l), .bool (lastE x.l).isSome], H) := by
  have hN := last_loop x fl hfl hx1 i x.l [] H [] (by simp) rfl hi
  have gi := hi.get
  have e1 : IntKind.i64.wrap ((x.l.length : Int) - 1) = (x.l.length : Int) - 1 := wrap_id (by unfold I64; omega)
  have e2 : (x.l.map Ad.v).length = x.l.length := by simp
  refine W_fn rfl rfl ?_
  cases h : lastE x.l with
  | none =>
    rw [h] at hN
    rcases hfl with rfl | ⟨rfl, h0⟩ <;> (simp only [go_sem, c_index_Index_last, gi, e1, e2, hN, not_true_eq_false, not_false_eq_true, decide_true, decide_false, reduceCtorEq, ne_eq, Bool.false_eq_true, ↓reduceIte, Nat.reduceAdd, Nat.reduceEqDiff, Nat.reduceLT, Int.reduceLE, s_shl, s_shr, Bool.not_false, Bool.not_true, Bool.and_self, Bool.true_and, Bool.and_true, Bool.and_false, Bool.false_and, Bool.not_true, Bool.true_or, Bool.or_true, Nat.reduceSub, Nat.reduceLeDiff, Nat.reduceMul, Int.reduceToNat, Int.reduceLT, Int.reduceEq, Int.reduceNeg, and_self, and_true, true_and, and_false, false_and, or_true, true_or, or_false, false_or, Int.cast_ofNat_Int, Nat.reduceBEq, Nat.reduceBNe, beq_self_eq_true, List.take_zero, List.take_succ_cons, List.take_nil]; rfl)
  | some a =>
    rw [h] at hN
    rcases hfl with rfl | ⟨rfl, h0⟩ <;> (simp only [go_sem, c_index_Index_last, gi, e1, e2, hN, not_true_eq_false, not_false_eq_true, decide_true, decide_false, reduceCtorEq, ne_eq, Bool.false_eq_true, ↓reduceIte, Nat.reduceAdd, Nat.reduceEqDiff, Nat.reduceLT, Int.reduceLE, s_shl, s_shr, Bool.not_false, Bool.not_true, Bool.and_self, Bool.true_and, Bool.and_true, Bool.and_false, Bool.false_and, Bool.not_true, Bool.true_or, Bool.or_true, Nat.reduceSub, Nat.reduceLeDiff, Nat.reduceMul, Int.reduceToNat, Int.reduceLT, Int.reduceEq, Int.reduceNeg, and_self, and_true, true_and, and_false, false_and, or_true, true_or, or_false, false_or, Int.cast_ofNat_Int, Nat.reduceBEq, Nat.reduceBNe, beq_self_eq_true, List.take_zero, List.take_succ_cons, List.take_nil]; rfl)
end Go.Abs

namespace Go.Abs
open Go Go.RowKit
set_option linter.unusedVariables false
set_option linter.unusedSimpArgs false

/-! ## What entries there are -/
abbrev En := Int × Int
abbrev enV (e : En) : AVal := .agg [.int .i64 e.1, .int .i64 e.2]
def ents (l : List Ad) : List En := (l.filter (·.entry)).map fun a => (a.off, a.at_)
theorem ents_cons (a : Ad) (l) : ents (a :: l) = (if a.entry then [(a.off, a.at_)] else []) ++ ents l := by
  unfold ents; cases h : a.entry <;> simp [h]
theorem ents_app (a b : List Ad) : ents (a ++ b) = ents a ++ ents b := by simp [ents]
theorem ents_len (l : List Ad) : (ents l).length ≤ l.length := by unfold ents; rw [List.length_map]; exact List.length_filter_le _ _
theorem W_clipE (xs : List AVal) (H : Heap) : W n_slices_Clip_index_Entry_index_Entry_ [.list 2 xs .ro] H = some (.list 2 xs .full, H) := by
  refine W_fn rfl rfl ?_
  simp only [go_sem, c_slices_Clip_index_Entry_index_Entry_, sl_clip, not_true_eq_false, not_false_eq_true, decide_true, decide_false, reduceCtorEq, ne_eq, Bool.false_eq_true, ↓reduceIte, Nat.reduceAdd, Nat.reduceEqDiff, Nat.reduceLT, Int.reduceLE, s_shl, s_shr, Bool.not_false, Bool.not_true, Bool.and_self, Bool.true_and, Bool.and_true, Bool.and_false, Bool.false_and, Bool.not_true, Bool.true_or, Bool.or_true, Nat.reduceSub, Nat.reduceLeDiff, Nat.reduceMul, Int.reduceToNat, Int.reduceLT, Int.reduceEq, Int.reduceNeg, and_self, and_true, true_and, and_false, false_and, or_true, true_or, or_false, false_or, Int.cast_ofNat_Int, Nat.reduceBEq, Nat.reduceBNe, beq_self_eq_true, List.take_zero, List.take_succ_cons, List.take_nil]
theorem ents_loop (l : List Ad) (fl : Fl) (hfl : fl = .ro ∨ (fl = .full ∧ l = [])) (hl : l.length < 1000000000) : ∀ (r s : List Ad) (H : Heap) (fe : Fl), l = s ++ r → (fe = .own ∨ fe = .full) →
    ∃ N fe', (fe' = .own ∨ fe' = .full) ∧ loopA W loopW (.ghost (.kill k_index_Index_Entries_0) l_index_Index_Entries_0) [(3, .list 2 ((ents s).map enV) fe), (9, .list 4 (l.map Ad.v) fl), (10, .int .i64 l.length), (11, .int .i64 s.length)] H =
      some (.exit 0, [(3, .list 2 ((ents l).map enV) fe')], hx H N) := by
  intro r
  induction r with
  | nil =>
    intro s H fe hs hfe
    rw [List.append_nil] at hs
    subst hs
    refine ⟨[], fe, hfe, ?_⟩
    rw [hx_nil]
    have h1 : ¬ ((l.length : Int) < (l.length : Int)) := by omega
    refine loop_step l_index_Index_Entries_0.eq_1 k_index_Index_Entries_0.eq_1 (by kernel_rfl) ?_
    rcases hfl with rfl | ⟨rfl, _⟩ <;> rcases hfe with rfl | rfl <;> simp only [go_sem, h1, not_true_eq_false, not_false_eq_true, decide_true, decide_false, reduceCtorEq, ne_eq, Bool.false_eq_true, ↓reduceIte, Nat.reduceAdd, Nat.reduceEqDiff, Nat.reduceLT, Int.reduceLE, s_shl, s_shr, Bool.not_false, Bool.not_true, Bool.and_self, Bool.true_and, Bool.and_true, Bool.and_false, Bool.false_and, Bool.not_true, Bool.true_or, Bool.or_true, Nat.reduceSub, Nat.reduceLeDiff, Nat.reduceMul, Int.reduceToNat, Int.reduceLT, Int.reduceEq, Int.reduceNeg, and_self, and_true, true_and, and_false, false_and, or_true, true_or, or_false, false_or, Int.cast_ofNat_Int, Nat.reduceBEq, Nat.reduceBNe, beq_self_eq_true, List.take_zero, List.take_succ_cons, List.take_nil]
  | cons a r ih =>
    intro s H fe hs hfe
    have hlen : l.length = s.length + (r.length + 1) := by rw [hs, List.length_append, List.length_cons]
    have hel := ents_len s
    rcases hfl with rfl | ⟨rfl, h0⟩
    rotate_left
    · rw [h0] at hs; simp at hs
    have h1 : (s.length : Int) < (l.length : Int) := by omega
    have h2 : (0 : Int) ≤ (s.length : Int) := by omega
    have h3 : (l.map Ad.v)[((s.length : Nat) : Int).toNat]? = some a.v := by rw [hs]; simp
    have e1 : IntKind.i64.wrap ((s.length : Int) + 1) = ((s ++ [a]).length : Int) := by rw [wrap_id (by unfold I64; omega)]; simp
    have a2 : (((ents s).map enV).length + 1) * 16 ≤ maxBytes := by simp [maxBytes]; omega
    cases he : a.entry with
    | true =>
      have a1 : (ents s).map enV ++ [AVal.agg [.int .i64 a.off, .int .i64 a.at_]] = (ents (s ++ [a])).map enV := by rw [ents_app, ents_cons, he]; simp [ents]
      obtain ⟨N, fe', hf, hN⟩ := ih (s ++ [a]) (hx H [.cells [.int .i64 a.off, .int .i64 a.at_, .int .i64 a.end_, .bool a.entry]]) .own (by rw [hs]; simp) (.inl rfl)
      rw [hx_hx] at hN
      refine ⟨.cells [.int .i64 a.off, .int .i64 a.at_, .int .i64 a.end_, .bool a.entry] :: N, fe', hf, ?_⟩
      rw [List.cons_append, List.nil_append, he] at hN
      rw [he]
      refine loop_step l_index_Index_Entries_0.eq_1 k_index_Index_Entries_0.eq_1 (by kernel_rfl) ?_
      rw [← hx_nil H]
      rcases hfe with rfl | rfl <;> (simp only [go_sem, h1, h2, h3, e1, he, a1, a2, apO, apF, not_true_eq_false, not_false_eq_true, decide_true, decide_false, reduceCtorEq, ne_eq, Bool.false_eq_true, ↓reduceIte, Nat.reduceAdd, Nat.reduceEqDiff, Nat.reduceLT, Int.reduceLE, s_shl, s_shr, Bool.not_false, Bool.not_true, Bool.and_self, Bool.true_and, Bool.and_true, Bool.and_false, Bool.false_and, Bool.not_true, Bool.true_or, Bool.or_true, Nat.reduceSub, Nat.reduceLeDiff, Nat.reduceMul, Int.reduceToNat, Int.reduceLT, Int.reduceEq, Int.reduceNeg, and_self, and_true, true_and, and_false, false_and, or_true, true_or, or_false, false_or, Int.cast_ofNat_Int, Nat.reduceBEq, Nat.reduceBNe, beq_self_eq_true, List.take_zero, List.take_succ_cons, List.take_nil]; exact hN)
    | false =>
      have a1 : (ents s) = (ents (s ++ [a])) := by rw [ents_app, ents_cons, he]; simp [ents]
      obtain ⟨N, fe', hf, hN⟩ := ih (s ++ [a]) (hx H [.cells [.int .i64 a.off, .int .i64 a.at_, .int .i64 a.end_, .bool a.entry]]) fe (by rw [hs]; simp) hfe
      rw [hx_hx, ← a1] at hN
      refine ⟨.cells [.int .i64 a.off, .int .i64 a.at_, .int .i64 a.end_, .bool a.entry] :: N, fe', hf, ?_⟩
      rw [List.cons_append, List.nil_append, he] at hN
      rw [he]
      refine loop_step l_index_Index_Entries_0.eq_1 k_index_Index_Entries_0.eq_1 (by kernel_rfl) ?_
      rw [← hx_nil H]
      rcases hfe with rfl | rfl <;> (simp only [go_sem, h1, h2, h3, e1, he, not_true_eq_false, not_false_eq_true, decide_true, decide_false, reduceCtorEq, ne_eq, Bool.false_eq_true, ↓reduceIte, Nat.reduceAdd, Nat.reduceEqDiff, Nat.reduceLT, Int.reduceLE, s_shl, s_shr, Bool.not_false, Bool.not_true, Bool.and_self, Bool.true_and, Bool.and_true, Bool.and_false, Bool.false_and, Bool.not_true, Bool.true_or, Bool.or_true, Nat.reduceSub, Nat.reduceLeDiff, Nat.reduceMul, Int.reduceToNat, Int.reduceLT, Int.reduceEq, Int.reduceNeg, and_self, and_true, true_and, and_false, false_and, or_true, true_or, or_false, false_or, Int.cast_ofNat_Int, Nat.reduceBEq, Nat.reduceBNe, beq_self_eq_true, List.take_zero, List.take_succ_cons, List.take_nil]; exact hN)
theorem under_ents (l : List En) : AVal.underL 0 (l.map enV) = true := uL_map 0 enV (fun _ => rfl) l
theorem entries_spec (x : Ix) (fl : Fl) (hfl : Flag x fl) (hx1 : x.l.length < 1000000000) (i : Nat) (H : Heap) (hi : Old H i (x.B fl)) : W n_index_Index_Entries [.ptr i 0] H = some (.list 2 ((ents x.l).map enV) .full, H) := by
  have gi := hi.get
  have e2 : (x.l.map Ad.v).length = x.l.length := by simp
  have u := under_ents (ents x.l)
  refine W_fn rfl rfl ?_
  rcases hfl with rfl | ⟨rfl, h0⟩
  · obtain ⟨N, fe', hf, hN⟩ := ents_loop x.l .ro (.inl rfl) hx1 x.l [] (hx H []) .full rfl (.inr rfl)
    rw [hx_hx, List.nil_append, show ents [] = [] from rfl] at hN
    simp only [List.map_nil, List.length_nil, show ((0 : Nat) : Int) = 0 from rfl] at hN
    rcases hf with rfl | rfl <;> simp only [go_sem, c_index_Index_Entries, gi, e2, hN, W_clipE, u, not_true_eq_false, not_false_eq_true, decide_true, decide_false, reduceCtorEq, ne_eq, Bool.false_eq_true, ↓reduceIte, Nat.reduceAdd, Nat.reduceEqDiff, Nat.reduceLT, Int.reduceLE, s_shl, s_shr, Bool.not_false, Bool.not_true, Bool.and_self, Bool.true_and, Bool.and_true, Bool.and_false, Bool.false_and, Bool.not_true, Bool.true_or, Bool.or_true, Nat.reduceSub, Nat.reduceLeDiff, Nat.reduceMul, Int.reduceToNat, Int.reduceLT, Int.reduceEq, Int.reduceNeg, and_self, and_true, true_and, and_false, false_and, or_true, true_or, or_false, false_or, Int.cast_ofNat_Int, Nat.reduceBEq, Nat.reduceBNe, beq_self_eq_true, List.take_zero, List.take_succ_cons, List.take_nil]
  · obtain ⟨N, fe', hf, hN⟩ := ents_loop x.l .full (.inr ⟨rfl, h0⟩) hx1 x.l [] (hx H []) .full rfl (.inr rfl)
    rw [hx_hx, List.nil_append, show ents [] = [] from rfl] at hN
    simp only [List.map_nil, List.length_nil, show ((0 : Nat) : Int) = 0 from rfl] at hN
    rcases hf with rfl | rfl <;> simp only [go_sem, c_index_Index_Entries, gi, e2, hN, W_clipE, u, not_true_eq_false, not_false_eq_true, decide_true, decide_false, reduceCtorEq, ne_eq, Bool.false_eq_true, ↓reduceIte, Nat.reduceAdd, Nat.reduceEqDiff, Nat.reduceLT, Int.reduceLE, s_shl, s_shr, Bool.not_false, Bool.not_true, Bool.and_self, Bool.true_and, Bool.and_true, Bool.and_false, Bool.false_and, Bool.not_true, Bool.true_or, Bool.or_true, Nat.reduceSub, Nat.reduceLeDiff, Nat.reduceMul, Int.reduceToNat, Int.reduceLT, Int.reduceEq, Int.reduceNeg, and_self, and_true, true_and, and_false, false_and, or_true, true_or, or_false, false_or, Int.cast_ofNat_Int, Nat.reduceBEq, Nat.reduceBNe, beq_self_eq_true, List.take_zero, List.take_succ_cons, List.take_nil]
end Go.Abs

namespace Go.Abs
open Go Go.RowKit
set_option linter.unusedVariables false
set_option linter.unusedSimpArgs false

def newOK (b e : Int) : Bool := decide (¬ b < 0) && (decide (¬ b > 1099511627776) && (decide (¬ e < 1) && decide (¬ e > 1073741824)))
theorem new_spec (b e : Int) (H : Heap) : W n_index_New [.int .i64 b, .int .i64 e] H = if newOK b e = true then some (.ptr (pt H 0) 0, hx H [Ix.B ⟨b, e, []⟩ .full]) else some (.nilp, H) := by
  have hr : ∀ r, runFn W loopW c_index_New [.int .i64 b, .int .i64 e] (hx H []) = some r → W n_index_New [.int .i64 b, .int .i64 e] H = some r := fun r h => W_fnS rfl rfl h
  unfold newOK
  by_cases c1 : b < 0
  · simp only [c1, not_true_eq_false, decide_false, Bool.false_and, Bool.false_eq_true, if_false]
    apply hr
    simp only [go_sem, c_index_New, c1, not_true_eq_false, not_false_eq_true, decide_true, decide_false, reduceCtorEq, ne_eq, Bool.false_eq_true, ↓reduceIte, Nat.reduceAdd, Nat.reduceEqDiff, Nat.reduceLT, Int.reduceLE, s_shl, s_shr, Bool.not_false, Bool.not_true, Bool.and_self, Bool.true_and, Bool.and_true, Bool.and_false, Bool.false_and, Bool.not_true, Bool.true_or, Bool.or_true, Nat.reduceSub, Nat.reduceLeDiff, Nat.reduceMul, Int.reduceToNat, Int.reduceLT, Int.reduceEq, Int.reduceNeg, and_self, and_true, true_and, and_false, false_and, or_true, true_or, or_false, false_or, Int.cast_ofNat_Int, Nat.reduceBEq, Nat.reduceBNe, beq_self_eq_true, List.take_zero, List.take_succ_cons, List.take_nil]; rw [hx_nil]
  · by_cases c2 : b > 1099511627776
    · simp only [c1, c2, not_true_eq_false, not_false_eq_true, decide_true, decide_false, Bool.false_and, Bool.true_and, Bool.false_eq_true, if_false]
      apply hr
      simp only [go_sem, c_index_New, c1, c2, not_true_eq_false, not_false_eq_true, decide_true, decide_false, reduceCtorEq, ne_eq, Bool.false_eq_true, ↓reduceIte, Nat.reduceAdd, Nat.reduceEqDiff, Nat.reduceLT, Int.reduceLE, s_shl, s_shr, Bool.not_false, Bool.not_true, Bool.and_self, Bool.true_and, Bool.and_true, Bool.and_false, Bool.false_and, Bool.not_true, Bool.true_or, Bool.or_true, Nat.reduceSub, Nat.reduceLeDiff, Nat.reduceMul, Int.reduceToNat, Int.reduceLT, Int.reduceEq, Int.reduceNeg, and_self, and_true, true_and, and_false, false_and, or_true, true_or, or_false, false_or, Int.cast_ofNat_Int, Nat.reduceBEq, Nat.reduceBNe, beq_self_eq_true, List.take_zero, List.take_succ_cons, List.take_nil]; rw [hx_nil]
    · by_cases c3 : e < 1
      · simp only [c1, c2, c3, not_true_eq_false, not_false_eq_true, decide_true, decide_false, Bool.false_and, Bool.true_and, Bool.false_eq_true, if_false]
        apply hr
        simp only [go_sem, c_index_New, c1, c2, c3, not_true_eq_false, not_false_eq_true, decide_true, decide_false, reduceCtorEq, ne_eq, Bool.false_eq_true, ↓reduceIte, Nat.reduceAdd, Nat.reduceEqDiff, Nat.reduceLT, Int.reduceLE, s_shl, s_shr, Bool.not_false, Bool.not_true, Bool.and_self, Bool.true_and, Bool.and_true, Bool.and_false, Bool.false_and, Bool.not_true, Bool.true_or, Bool.or_true, Nat.reduceSub, Nat.reduceLeDiff, Nat.reduceMul, Int.reduceToNat, Int.reduceLT, Int.reduceEq, Int.reduceNeg, and_self, and_true, true_and, and_false, false_and, or_true, true_or, or_false, false_or, Int.cast_ofNat_Int, Nat.reduceBEq, Nat.reduceBNe, beq_self_eq_true, List.take_zero, List.take_succ_cons, List.take_nil]; rw [hx_nil]
      · by_cases c4 : e > 1073741824
        · simp only [c1, c2, c3, c4, not_true_eq_false, not_false_eq_true, decide_true, decide_false, Bool.false_and, Bool.true_and, Bool.false_eq_true, if_false]
          apply hr
          simp only [go_sem, c_index_New, c1, c2, c3, c4, not_true_eq_false, not_false_eq_true, decide_true, decide_false, reduceCtorEq, ne_eq, Bool.false_eq_true, ↓reduceIte, Nat.reduceAdd, Nat.reduceEqDiff, Nat.reduceLT, Int.reduceLE, s_shl, s_shr, Bool.not_false, Bool.not_true, Bool.and_self, Bool.true_and, Bool.and_true, Bool.and_false, Bool.false_and, Bool.not_true, Bool.true_or, Bool.or_true, Nat.reduceSub, Nat.reduceLeDiff, Nat.reduceMul, Int.reduceToNat, Int.reduceLT, Int.reduceEq, Int.reduceNeg, and_self, and_true, true_and, and_false, false_and, or_true, true_or, or_false, false_or, Int.cast_ofNat_Int, Nat.reduceBEq, Nat.reduceBNe, beq_self_eq_true, List.take_zero, List.take_succ_cons, List.take_nil]; rw [hx_nil]
        · simp only [c1, c2, c3, c4, not_true_eq_false, not_false_eq_true, decide_true, decide_false, Bool.false_and, Bool.true_and, Bool.false_eq_true, if_true]
          apply hr
          simp only [go_sem, c_index_New, c1, c2, c3, c4, not_true_eq_false, not_false_eq_true, decide_true, decide_false, reduceCtorEq, ne_eq, Bool.false_eq_true, ↓reduceIte, Nat.reduceAdd, Nat.reduceEqDiff, Nat.reduceLT, Int.reduceLE, s_shl, s_shr, Bool.not_false, Bool.not_true, Bool.and_self, Bool.true_and, Bool.and_true, Bool.and_false, Bool.false_and, Bool.not_true, Bool.true_or, Bool.or_true, Nat.reduceSub, Nat.reduceLeDiff, Nat.reduceMul, Int.reduceToNat, Int.reduceLT, Int.reduceEq, Int.reduceNeg, and_self, and_true, true_and, and_false, false_and, or_true, true_or, or_false, false_or, Int.cast_ofNat_Int, Nat.reduceBEq, Nat.reduceBNe, beq_self_eq_true, List.take_zero, List.take_succ_cons, List.take_nil]; rfl

def addOK (x : Ix) (o a s : Int) : Bool :=
  decide (¬ o < x.base) && (decide (¬ a < 0) && (decide (¬ s < 1) && (match x.l.getLast? with | none => true | some q => decide (¬ o ≤ q.off) && decide (¬ a < q.end_))))
def addE (x : Ix) (a : Int) : Bool := match lastE x.l with | none => true | some e => decide (IntKind.i64.wrap (a - e.at_) ≥ x.every)
def addI (x : Ix) (o a s : Int) : Ix := ⟨x.base, x.every, x.l ++ [⟨o, a, IntKind.i64.wrap (a + s), addE x a⟩]⟩
theorem under_ads (l : List Ad) : AVal.underL 0 (l.map Ad.v) = true := uL_map 0 Ad.v (fun _ => rfl) l
theorem add_false (x : Ix) (fl : Fl) (hfl : Flag x fl) (hx1 : x.l.length < 1000000000) (i : Nat) (H : Heap) (hi : Old H i (x.B fl)) (o a s : Int) (h : addOK x o a s = false) :
    W n_index_Index_Add [.ptr i 0, .int .i64 o, .int .i64 a, .int .i64 s] H = some (.bool false, H) := by
  have gi := hi.get
  have e2 : (x.l.map Ad.v).length = x.l.length := by simp
  refine W_fn rfl rfl ?_
  unfold addOK at h
  by_cases c1 : o < x.base
  · rcases hfl with rfl | ⟨rfl, h0⟩ <;> simp only [go_sem, c_index_Index_Add, gi, c1, not_true_eq_false, not_false_eq_true, decide_true, decide_false, reduceCtorEq, ne_eq, Bool.false_eq_true, ↓reduceIte, Nat.reduceAdd, Nat.reduceEqDiff, Nat.reduceLT, Int.reduceLE, s_shl, s_shr, Bool.not_false, Bool.not_true, Bool.and_self, Bool.true_and, Bool.and_true, Bool.and_false, Bool.false_and, Bool.not_true, Bool.true_or, Bool.or_true, Nat.reduceSub, Nat.reduceLeDiff, Nat.reduceMul, Int.reduceToNat, Int.reduceLT, Int.reduceEq, Int.reduceNeg, and_self, and_true, true_and, and_false, false_and, or_true, true_or, or_false, false_or, Int.cast_ofNat_Int, Nat.reduceBEq, Nat.reduceBNe, beq_self_eq_true, List.take_zero, List.take_succ_cons, List.take_nil]
  by_cases c2 : a < 0
  · rcases hfl with rfl | ⟨rfl, h0⟩ <;> simp only [go_sem, c_index_Index_Add, gi, c1, c2, not_true_eq_false, not_false_eq_true, decide_true, decide_false, reduceCtorEq, ne_eq, Bool.false_eq_true, ↓reduceIte, Nat.reduceAdd, Nat.reduceEqDiff, Nat.reduceLT, Int.reduceLE, s_shl, s_shr, Bool.not_false, Bool.not_true, Bool.and_self, Bool.true_and, Bool.and_true, Bool.and_false, Bool.false_and, Bool.not_true, Bool.true_or, Bool.or_true, Nat.reduceSub, Nat.reduceLeDiff, Nat.reduceMul, Int.reduceToNat, Int.reduceLT, Int.reduceEq, Int.reduceNeg, and_self, and_true, true_and, and_false, false_and, or_true, true_or, or_false, false_or, Int.cast_ofNat_Int, Nat.reduceBEq, Nat.reduceBNe, beq_self_eq_true, List.take_zero, List.take_succ_cons, List.take_nil]
  by_cases c3 : s < 1
  · rcases hfl with rfl | ⟨rfl, h0⟩ <;> simp only [go_sem, c_index_Index_Add, gi, c1, c2, c3, not_true_eq_false, not_false_eq_true, decide_true, decide_false, reduceCtorEq, ne_eq, Bool.false_eq_true, ↓reduceIte, Nat.reduceAdd, Nat.reduceEqDiff, Nat.reduceLT, Int.reduceLE, s_shl, s_shr, Bool.not_false, Bool.not_true, Bool.and_self, Bool.true_and, Bool.and_true, Bool.and_false, Bool.false_and, Bool.not_true, Bool.true_or, Bool.or_true, Nat.reduceSub, Nat.reduceLeDiff, Nat.reduceMul, Int.reduceToNat, Int.reduceLT, Int.reduceEq, Int.reduceNeg, and_self, and_true, true_and, and_false, false_and, or_true, true_or, or_false, false_or, Int.cast_ofNat_Int, Nat.reduceBEq, Nat.reduceBNe, beq_self_eq_true, List.take_zero, List.take_succ_cons, List.take_nil]
  rcases List.eq_nil_or_concat x.l with h0 | ⟨l, q, h0⟩
  · rw [h0] at h; simp [c1, c2, c3] at h
  · rw [List.concat_eq_append] at h0
    have hpos : (x.l.length : Int) > 0 := by rw [h0]; simp
    have e3 : IntKind.i64.wrap ((x.l.length : Int) - 1) = ((x.l.length - 1 : Nat) : Int) := by rw [wrap_id (by unfold I64; omega)]; omega
    have e4 : (x.l.map Ad.v)[((x.l.length - 1 : Nat) : Int).toNat]? = some q.v := by rw [h0]; simp
    have e5 : (0 : Int) ≤ ((x.l.length - 1 : Nat) : Int) := by omega
    rcases hfl with rfl | ⟨rfl, h1⟩
    rotate_left
    · rw [h1] at h0; simp at h0
    by_cases c4 : o ≤ q.off
    · simp only [go_sem, c_index_Index_Add, gi, c1, c2, c3, e2, hpos, e3, e4, e5, c4, not_true_eq_false, not_false_eq_true, decide_true, decide_false, reduceCtorEq, ne_eq, Bool.false_eq_true, ↓reduceIte, Nat.reduceAdd, Nat.reduceEqDiff, Nat.reduceLT, Int.reduceLE, s_shl, s_shr, Bool.not_false, Bool.not_true, Bool.and_self, Bool.true_and, Bool.and_true, Bool.and_false, Bool.false_and, Bool.not_true, Bool.true_or, Bool.or_true, Nat.reduceSub, Nat.reduceLeDiff, Nat.reduceMul, Int.reduceToNat, Int.reduceLT, Int.reduceEq, Int.reduceNeg, and_self, and_true, true_and, and_false, false_and, or_true, true_or, or_false, false_or, Int.cast_ofNat_Int, Nat.reduceBEq, Nat.reduceBNe, beq_self_eq_true, List.take_zero, List.take_succ_cons, List.take_nil]
    · have c5 : a < q.end_ := by rw [h0] at h; simp [c1, c2, c3, c4] at h; omega
      simp only [go_sem, c_index_Index_Add, gi, c1, c2, c3, e2, hpos, e3, e4, e5, c4, c5, not_true_eq_false, not_false_eq_true, decide_true, decide_false, reduceCtorEq, ne_eq, Bool.false_eq_true, ↓reduceIte, Nat.reduceAdd, Nat.reduceEqDiff, Nat.reduceLT, Int.reduceLE, s_shl, s_shr, Bool.not_false, Bool.not_true, Bool.and_self, Bool.true_and, Bool.and_true, Bool.and_false, Bool.false_and, Bool.not_true, Bool.true_or, Bool.or_true, Nat.reduceSub, Nat.reduceLeDiff, Nat.reduceMul, Int.reduceToNat, Int.reduceLT, Int.reduceEq, Int.reduceNeg, and_self, and_true, true_and, and_false, false_and, or_true, true_or, or_false, false_or, Int.cast_ofNat_Int, Nat.reduceBEq, Nat.reduceBNe, beq_self_eq_true, List.take_zero, List.take_succ_cons, List.take_nil]
theorem add_true (x : Ix) (fl : Fl) (hfl : Flag x fl) (hx1 : x.l.length < 1000000000) (i : Nat) (H : Heap) (hi : Old H i (x.B fl)) (o a s : Int) (h : addOK x o a s = true) :
    W n_index_Index_Add [.ptr i 0, .int .i64 o, .int .i64 a, .int .i64 s] H = some (.bool true, H.set i ((addI x o a s).B .own)) := by
  have gi := hi.get
  have gs := hi.set
  have gi' := hi.get'
  have gs' := hi.set'
  have e2 : (x.l.map Ad.v).length = x.l.length := by simp
  unfold addOK at h
  simp only [Bool.and_eq_true, decide_eq_true_eq] at h
  obtain ⟨c1, c2, c3, h⟩ := h
  have hl : ∀ L, W n_index_Index_last [.ptr i 0] (hx H L) = _ := fun L => last_spec x fl hfl hx1 i (hx H L) ⟨gi L⟩
  have a2 : ((x.l.map Ad.v).length + 1) * 32 ≤ maxBytes := by simp [maxBytes]; omega
  have a2' : (x.l.length + 1) * 32 ≤ maxBytes := by simp [maxBytes]; omega
  have u := under_ads x.l
  have u2 := under_ads (addI x o a s).l
  have a1 : x.l.map Ad.v ++ [AVal.agg [.int .i64 o, .int .i64 a, .int .i64 (IntKind.i64.wrap (a + s)), .bool (addE x a)]] = (addI x o a s).l.map Ad.v := by simp [addI]
  have hd : W n_index_Index_Add [.ptr i 0, .int .i64 o, .int .i64 a, .int .i64 s] H = some (.bool true, H.set i ((addI x o a s).B .own)) := by
    have hB : (addI x o a s).B .own = .cells [.int .i64 x.base, .int .i64 x.every, .list 4 ((addI x o a s).l.map Ad.v) .own] := rfl
    rw [hB]
    cases hla : lastE x.l with
    | none =>
      have he : addE x a = true := by unfold addE; rw [hla]
      rw [he] at a1
      rw [hla] at hl
      simp only [lastV, Option.getD_none, Option.isSome_none] at hl
      rcases List.eq_nil_or_concat x.l with h0 | ⟨l, q, h0⟩
      · have hpos : ¬ ((x.l.length : Int) > 0) := by rw [h0]; simp
        refine W_fnS rfl rfl ?_
        rcases hfl with rfl | ⟨rfl, _⟩ <;> simp only [go_sem, c_index_Index_Add, gi, gs, gi', gs', c1, c2, c3, e2, hpos, hl, a1, a2', apO, apF, u, u2, not_true_eq_false, not_false_eq_true, decide_true, decide_false, reduceCtorEq, ne_eq, Bool.false_eq_true, ↓reduceIte, Nat.reduceAdd, Nat.reduceEqDiff, Nat.reduceLT, Int.reduceLE, s_shl, s_shr, Bool.not_false, Bool.not_true, Bool.and_self, Bool.true_and, Bool.and_true, Bool.and_false, Bool.false_and, Bool.not_true, Bool.true_or, Bool.or_true, Nat.reduceSub, Nat.reduceLeDiff, Nat.reduceMul, Int.reduceToNat, Int.reduceLT, Int.reduceEq, Int.reduceNeg, and_self, and_true, true_and, and_false, false_and, or_true, true_or, or_false, false_or, Int.cast_ofNat_Int, Nat.reduceBEq, Nat.reduceBNe, beq_self_eq_true, List.take_zero, List.take_succ_cons, List.take_nil]
      · rw [List.concat_eq_append] at h0
        have hpos : (x.l.length : Int) > 0 := by rw [h0]; simp
        have e3 : IntKind.i64.wrap ((x.l.length : Int) - 1) = ((x.l.length - 1 : Nat) : Int) := by rw [wrap_id (by unfold I64; omega)]; omega
        have e4 : (x.l.map Ad.v)[((x.l.length - 1 : Nat) : Int).toNat]? = some q.v := by rw [h0]; simp
        have e5 : (0 : Int) ≤ ((x.l.length - 1 : Nat) : Int) := by omega
        rw [h0] at h
        simp only [List.getLast?_append, List.getLast?_singleton, Option.some_or, Bool.and_eq_true, decide_eq_true_eq] at h
        refine W_fnS rfl rfl ?_
        rcases hfl with rfl | ⟨rfl, h1⟩
        · simp only [go_sem, c_index_Index_Add, gi, gs, gi', gs', c1, c2, c3, e2, hpos, e3, e4, e5, h.1, h.2, hl, a1, a2', apO, apF, u, u2, not_true_eq_false, not_false_eq_true, decide_true, decide_false, reduceCtorEq, ne_eq, Bool.false_eq_true, ↓reduceIte, Nat.reduceAdd, Nat.reduceEqDiff, Nat.reduceLT, Int.reduceLE, s_shl, s_shr, Bool.not_false, Bool.not_true, Bool.and_self, Bool.true_and, Bool.and_true, Bool.and_false, Bool.false_and, Bool.not_true, Bool.true_or, Bool.or_true, Nat.reduceSub, Nat.reduceLeDiff, Nat.reduceMul, Int.reduceToNat, Int.reduceLT, Int.reduceEq, Int.reduceNeg, and_self, and_true, true_and, and_false, false_and, or_true, true_or, or_false, false_or, Int.cast_ofNat_Int, Nat.reduceBEq, Nat.reduceBNe, beq_self_eq_true, List.take_zero, List.take_succ_cons, List.take_nil]
        · rw [h1] at h0; simp at h0
    | some e =>
      rw [hla] at hl
      simp only [lastV, Option.getD_some, Option.isSome_some] at hl
      have hne : x.l ≠ [] := by intro h0; rw [h0] at hla; cases hla
      rcases List.eq_nil_or_concat x.l with h0 | ⟨l, q, h0⟩
      · exact absurd h0 hne
      · rw [List.concat_eq_append] at h0
        have hpos : (x.l.length : Int) > 0 := by rw [h0]; simp
        have e3 : IntKind.i64.wrap ((x.l.length : Int) - 1) = ((x.l.length - 1 : Nat) : Int) := by rw [wrap_id (by unfold I64; omega)]; omega
        have e4 : (x.l.map Ad.v)[((x.l.length - 1 : Nat) : Int).toNat]? = some q.v := by rw [h0]; simp
        have e5 : (0 : Int) ≤ ((x.l.length - 1 : Nat) : Int) := by omega
        rw [h0] at h
        simp only [List.getLast?_append, List.getLast?_singleton, Option.some_or, Bool.and_eq_true, decide_eq_true_eq] at h
        refine W_fnS rfl rfl ?_
        rcases hfl with rfl | ⟨rfl, h1⟩
        · by_cases he : IntKind.i64.wrap (a - e.at_) ≥ x.every
          · have he' : addE x a = true := by unfold addE; rw [hla]; simpa using he
            rw [he'] at a1
            simp only [go_sem, c_index_Index_Add, gi, gs, gi', gs', c1, c2, c3, e2, hpos, e3, e4, e5, h.1, h.2, hl, a1, a2', apO, apF, u, u2, he, not_true_eq_false, not_false_eq_true, decide_true, decide_false, reduceCtorEq, ne_eq, Bool.false_eq_true, ↓reduceIte, Nat.reduceAdd, Nat.reduceEqDiff, Nat.reduceLT, Int.reduceLE, s_shl, s_shr, Bool.not_false, Bool.not_true, Bool.and_self, Bool.true_and, Bool.and_true, Bool.and_false, Bool.false_and, Bool.not_true, Bool.true_or, Bool.or_true, Nat.reduceSub, Nat.reduceLeDiff, Nat.reduceMul, Int.reduceToNat, Int.reduceLT, Int.reduceEq, Int.reduceNeg, and_self, and_true, true_and, and_false, false_and, or_true, true_or, or_false, false_or, Int.cast_ofNat_Int, Nat.reduceBEq, Nat.reduceBNe, beq_self_eq_true, List.take_zero, List.take_succ_cons, List.take_nil]
          · have he' : addE x a = false := by unfold addE; rw [hla]; simpa using he
            rw [he'] at a1
            simp only [go_sem, c_index_Index_Add, gi, gs, gi', gs', c1, c2, c3, e2, hpos, e3, e4, e5, h.1, h.2, hl, a1, a2', apO, apF, u, u2, he, not_true_eq_false, not_false_eq_true, decide_true, decide_false, reduceCtorEq, ne_eq, Bool.false_eq_true, ↓reduceIte, Nat.reduceAdd, Nat.reduceEqDiff, Nat.reduceLT, Int.reduceLE, s_shl, s_shr, Bool.not_false, Bool.not_true, Bool.and_self, Bool.true_and, Bool.and_true, Bool.and_false, Bool.false_and, Bool.not_true, Bool.true_or, Bool.or_true, Nat.reduceSub, Nat.reduceLeDiff, Nat.reduceMul, Int.reduceToNat, Int.reduceLT, Int.reduceEq, Int.reduceNeg, and_self, and_true, true_and, and_false, false_and, or_true, true_or, or_false, false_or, Int.cast_ofNat_Int, Nat.reduceBEq, Nat.reduceBNe, beq_self_eq_true, List.take_zero, List.take_succ_cons, List.take_nil]
        · rw [h1] at h0; simp at h0
  exact hd
end Go.Abs

namespace Go.Abs
open Go Go.RowKit
set_option linter.unusedVariables false
set_option linter.unusedSimpArgs false

theorem search_loop (n k : Nat) (hn : n < 1000000000) (g : FuncId) (a b : List AVal) (p : Nat → Bool) (H : Heap) (hg : ∀ m, m < n → W g (a.map AVal.strip ++ [.int .i64 (m : Nat)] ++ b.map AVal.strip) H = some (.bool (p m), H))
    (h0 : ∀ m, m < k → p m = false) (h1 : ∀ m, k ≤ m → m < n → p m = true) : ∀ (d i j : Nat), j - i ≤ d → i ≤ k → k ≤ j → j ≤ n →
    loopA W loopW (.ghost (.kill k_sort_Search_0) l_sort_Search_0) [(1, .fn g a b), (5, .int .i64 (i : Nat)), (6, .int .i64 (j : Nat))] H = some (.exit 0, [(5, .int .i64 (k : Nat))], H) := by
  intro d
  induction d with
  | zero =>
    intro i j hd hi hj hjn
    have e : i = k := by omega
    have c1 : ¬ (((i : Nat) : Int) < ((j : Nat) : Int)) := by omega
    refine loop_step l_sort_Search_0.eq_1 k_sort_Search_0.eq_1 (by kernel_rfl) ?_
    simp only [go_sem, c1, not_true_eq_false, not_false_eq_true, decide_true, decide_false, reduceCtorEq, ne_eq, Bool.false_eq_true, ↓reduceIte, Nat.reduceAdd, Nat.reduceEqDiff, Nat.reduceLT, Int.reduceLE, s_shl, s_shr, Bool.not_false, Bool.not_true, Bool.and_self, Bool.true_and, Bool.and_true, Bool.and_false, Bool.false_and, Bool.not_true, Bool.true_or, Bool.or_true, Nat.reduceSub, Nat.reduceLeDiff, Nat.reduceMul, Int.reduceToNat, Int.reduceLT, Int.reduceEq, Int.reduceNeg, and_self, and_true, true_and, and_false, false_and, or_true, true_or, or_false, false_or, Int.cast_ofNat_Int, Nat.reduceBEq, Nat.reduceBNe, beq_self_eq_true, List.take_zero, List.take_succ_cons, List.take_nil]
    rw [e]
  | succ d ih =>
    intro i j hd hi hj hjn
    by_cases hij : i < j
    · have c1 : (((i : Nat) : Int) < ((j : Nat) : Int)) := by omega
      have e1 : IntKind.i64.wrap (((i : Nat) : Int) + ((j : Nat) : Int)) = (i + j : Nat) := by rw [wrap_id (by unfold I64; omega)]; omega
      have e2 : IntKind.u64.wrap ((i + j : Nat) : Int) = (i + j : Nat) := by rw [Num.wu64]; omega
      have e3 : shr .u64 ((i + j : Nat) : Int) 1 = ((i + j) / 2 : Nat) := by
        have : shr .u64 ((i + j : Nat) : Int) 1 = ((i + j : Nat) : Int) / 2 := rfl
        rw [this]; omega
      have e4 : IntKind.i64.wrap (((i + j) / 2 : Nat) : Int) = ((i + j) / 2 : Nat) := wrap_id (by unfold I64; omega)
      have e5 : IntKind.i64.wrap ((((i + j) / 2 : Nat) : Int) + 1) = ((i + j) / 2 + 1 : Nat) := by rw [wrap_id (by unfold I64; omega)]; omega
      have hm := hg ((i + j) / 2) (by omega)
      simp only [List.append_assoc, List.cons_append, List.nil_append] at hm
      cases hp : p ((i + j) / 2) with
      | true =>
        rw [hp] at hm
        have hk : k ≤ (i + j) / 2 := by
          rcases Nat.lt_or_ge ((i + j) / 2) k with h | h
          · rw [h0 _ h] at hp; cases hp
          · exact h
        have hN := ih i ((i + j) / 2) (by omega) hi hk (by omega)
        refine loop_step l_sort_Search_0.eq_1 k_sort_Search_0.eq_1 (by kernel_rfl) ?_
        simp only [go_sem, c1, e1, e2, e3, e4, e5, hm, not_true_eq_false, not_false_eq_true, decide_true, decide_false, reduceCtorEq, ne_eq, Bool.false_eq_true, ↓reduceIte, Nat.reduceAdd, Nat.reduceEqDiff, Nat.reduceLT, Int.reduceLE, s_shl, s_shr, Bool.not_false, Bool.not_true, Bool.and_self, Bool.true_and, Bool.and_true, Bool.and_false, Bool.false_and, Bool.not_true, Bool.true_or, Bool.or_true, Nat.reduceSub, Nat.reduceLeDiff, Nat.reduceMul, Int.reduceToNat, Int.reduceLT, Int.reduceEq, Int.reduceNeg, and_self, and_true, true_and, and_false, false_and, or_true, true_or, or_false, false_or, Int.cast_ofNat_Int, Nat.reduceBEq, Nat.reduceBNe, beq_self_eq_true, List.take_zero, List.take_succ_cons, List.take_nil]
        exact hN
      | false =>
        rw [hp] at hm
        have hk : (i + j) / 2 + 1 ≤ k := by
          rcases Nat.lt_or_ge ((i + j) / 2) k with h | h
          · exact h
          · rw [h1 _ h (by omega)] at hp; cases hp
        have hN := ih ((i + j) / 2 + 1) j (by omega) hk hj hjn
        refine loop_step l_sort_Search_0.eq_1 k_sort_Search_0.eq_1 (by kernel_rfl) ?_
        simp only [go_sem, c1, e1, e2, e3, e4, e5, hm, not_true_eq_false, not_false_eq_true, decide_true, decide_false, reduceCtorEq, ne_eq, Bool.false_eq_true, ↓reduceIte, Nat.reduceAdd, Nat.reduceEqDiff, Nat.reduceLT, Int.reduceLE, s_shl, s_shr, Bool.not_false, Bool.not_true, Bool.and_self, Bool.true_and, Bool.and_true, Bool.and_false, Bool.false_and, Bool.not_true, Bool.true_or, Bool.or_true, Nat.reduceSub, Nat.reduceLeDiff, Nat.reduceMul, Int.reduceToNat, Int.reduceLT, Int.reduceEq, Int.reduceNeg, and_self, and_true, true_and, and_false, false_and, or_true, true_or, or_false, false_or, Int.cast_ofNat_Int, Nat.reduceBEq, Nat.reduceBNe, beq_self_eq_true, List.take_zero, List.take_succ_cons, List.take_nil]
        exact hN
    · have e : i = k := by omega
      have c1 : ¬ (((i : Nat) : Int) < ((j : Nat) : Int)) := by omega
      refine loop_step l_sort_Search_0.eq_1 k_sort_Search_0.eq_1 (by kernel_rfl) ?_
      simp only [go_sem, c1, not_true_eq_false, not_false_eq_true, decide_true, decide_false, reduceCtorEq, ne_eq, Bool.false_eq_true, ↓reduceIte, Nat.reduceAdd, Nat.reduceEqDiff, Nat.reduceLT, Int.reduceLE, s_shl, s_shr, Bool.not_false, Bool.not_true, Bool.and_self, Bool.true_and, Bool.and_true, Bool.and_false, Bool.false_and, Bool.not_true, Bool.true_or, Bool.or_true, Nat.reduceSub, Nat.reduceLeDiff, Nat.reduceMul, Int.reduceToNat, Int.reduceLT, Int.reduceEq, Int.reduceNeg, and_self, and_true, true_and, and_false, false_and, or_true, true_or, or_false, false_or, Int.cast_ofNat_Int, Nat.reduceBEq, Nat.reduceBNe, beq_self_eq_true, List.take_zero, List.take_succ_cons, List.take_nil]
      rw [e]
theorem search_spec (n k : Nat) (hn : n < 1000000000) (g : FuncId) (a b : List AVal) (p : Nat → Bool) (H : Heap) (hg : ∀ m, m < n → W g (a.map AVal.strip ++ [.int .i64 (m : Nat)] ++ b.map AVal.strip) H = some (.bool (p m), H))
    (hk : k ≤ n) (h0 : ∀ m, m < k → p m = false) (h1 : ∀ m, k ≤ m → m < n → p m = true) : W n_sort_Search [.int .i64 (n : Nat), .fn g a b] H = some (.int .i64 (k : Nat), H) := by
  have hN := search_loop n k hn g a b p H hg h0 h1 n 0 n (by omega) (by omega) hk (Nat.le_refl _)
  rw [show ((0 : Nat) : Int) = 0 from rfl] at hN
  refine W_fn0 rfl rfl ?_
  simp only [go_sem, c_sort_Search, hN, trim_same, not_true_eq_false, not_false_eq_true, decide_true, decide_false, reduceCtorEq, ne_eq, Bool.false_eq_true, ↓reduceIte, Nat.reduceAdd, Nat.reduceEqDiff, Nat.reduceLT, Int.reduceLE, s_shl, s_shr, Bool.not_false, Bool.not_true, Bool.and_self, Bool.true_and, Bool.and_true, Bool.and_false, Bool.false_and, Bool.not_true, Bool.true_or, Bool.or_true, Nat.reduceSub, Nat.reduceLeDiff, Nat.reduceMul, Int.reduceToNat, Int.reduceLT, Int.reduceEq, Int.reduceNeg, and_self, and_true, true_and, and_false, false_and, or_true, true_or, or_false, false_or, Int.cast_ofNat_Int, Nat.reduceBEq, Nat.reduceBNe, beq_self_eq_true, List.take_zero, List.take_succ_cons, List.take_nil]

/-! ## Where one begins to look -/
def findP : List En → Int → Int → Int
  | [], _, at_ => at_
  | e :: l, off, at_ => findP l off (if e.1 ≤ off then e.2 else at_)
theorem findP_app (off) : ∀ (A B : List En) (at_), findP (A ++ B) off at_ = findP B off (findP A off at_)
  | [], B, at_ => rfl
  | e :: A, B, at_ => by rw [List.cons_append, findP, findP, findP_app off A B]
theorem findP_gt (off) : ∀ (B : List En) (at_), (∀ e ∈ B, off < e.1) → findP B off at_ = at_
  | [], at_, _ => rfl
  | e :: B, at_, h => by
    rw [findP, if_neg (by have := h e (by simp); omega)]
    exact findP_gt off B at_ fun e' h' => h e' (List.mem_cons_of_mem _ h')
/-- They rise. -/
def Srt : List En → Prop
  | [] => True
  | e :: l => (∀ e' ∈ l, e.1 < e'.1) ∧ Srt l
theorem srt_split (off : Int) : ∀ (l : List En), Srt l → ∃ A B, l = A ++ B ∧ (∀ e ∈ A, e.1 ≤ off) ∧ (∀ e ∈ B, off < e.1)
  | [], _ => ⟨[], [], rfl, by simp, by simp⟩
  | e :: l, h => by
    obtain ⟨A, B, h1, h2, h3⟩ := srt_split off l h.2
    by_cases he : e.1 ≤ off
    · exact ⟨e :: A, B, by rw [h1]; rfl, by intro x hx; rcases List.mem_cons.1 hx with rfl | hx; exact he; exact h2 x hx, h3⟩
    · refine ⟨[], e :: l, rfl, by simp, ?_⟩
      intro x hx
      rcases List.mem_cons.1 hx with rfl | hx
      · omega
      · have := h.1 x hx; omega
theorem find1_spec (E : List En) (off : Int) (p q : Nat) (H : Heap) (hp : Old H p (.cells [.list 2 (E.map enV) .full])) (hq : Old H q (.cells [.int .i64 off])) (m : Nat) (e : En) (he : E[m]? = some e) :
    W n_index_Index_Find_1 [.int .i64 (m : Nat), .ptr p 0, .ptr q 0] H = some (.bool (decide (e.1 > off)), H) := by
  have gp := hp.get
  have gq := hq.get
  have h3 : (E.map enV)[((m : Nat) : Int).toNat]? = some (enV e) := by rw [Int.toNat_natCast, List.getElem?_map, he]; rfl
  have h2 : (0 : Int) ≤ ((m : Nat) : Int) := by omega
  refine W_fn rfl rfl ?_
  simp only [go_sem, c_index_Index_Find_1, gp, gq, h2, h3, not_true_eq_false, not_false_eq_true, decide_true, decide_false, reduceCtorEq, ne_eq, Bool.false_eq_true, ↓reduceIte, Nat.reduceAdd, Nat.reduceEqDiff, Nat.reduceLT, Int.reduceLE, s_shl, s_shr, Bool.not_false, Bool.not_true, Bool.and_self, Bool.true_and, Bool.and_true, Bool.and_false, Bool.false_and, Bool.not_true, Bool.true_or, Bool.or_true, Nat.reduceSub, Nat.reduceLeDiff, Nat.reduceMul, Int.reduceToNat, Int.reduceLT, Int.reduceEq, Int.reduceNeg, and_self, and_true, true_and, and_false, false_and, or_true, true_or, or_false, false_or, Int.cast_ofNat_Int, Nat.reduceBEq, Nat.reduceBNe, beq_self_eq_true, List.take_zero, List.take_succ_cons, List.take_nil]
theorem find_spec (x : Ix) (fl : Fl) (hfl : Flag x fl) (hx1 : x.l.length < 1000000000) (i : Nat) (H : Heap) (hi : Old H i (x.B fl)) (hs : Srt (ents x.l)) (off : Int) :
    W n_index_Index_Find [.ptr i 0, .int .i64 off] H = some (.int .i64 (findP (ents x.l) off 0), H) := by
  have gi := hi.get
  have he := fun L => entries_spec x fl hfl hx1 i (hx H L) ⟨gi L⟩
  obtain ⟨A, B, hAB, hA, hB⟩ := srt_split off _ hs
  have hlen := ents_len x.l
  have e2 : ((ents x.l).map enV).length = (ents x.l).length := by simp
  have hf : ∀ m e, (ents x.l)[m]? = some e → W n_index_Index_Find_1 [.int .i64 (m : Nat), .ptr (pt H 1) 0, .ptr (pt H 0) 0] (hx H [.cells [.int .i64 off], .cells [.list 2 ((ents x.l).map enV) .full]]) = some (.bool (decide (e.1 > off)), hx H [.cells [.int .i64 off], .cells [.list 2 ((ents x.l).map enV) .full]]) :=
    fun m e hm => find1_spec (ents x.l) off _ _ _ ⟨by rw [hx_get]; rfl⟩ ⟨by rw [hx_get]; rfl⟩ m e hm
  have hS := search_spec (ents x.l).length A.length (by omega) n_index_Index_Find_1 [] [.ptr (pt H 1) 0, .ptr (pt H 0) 0] (fun m => decide (((ents x.l)[m]?.getD (0, 0)).1 > off)) (hx H [.cells [.int .i64 off], .cells [.list 2 ((ents x.l).map enV) .full]])
    (fun m hm => by
      obtain ⟨e, he⟩ : ∃ e, (ents x.l)[m]? = some e := ⟨_, List.getElem?_eq_getElem hm⟩
      have := hf m e he
      rw [he]; exact this)
    (by rw [hAB]; simp) (fun m hm => by
      rw [hAB, List.getElem?_append_left hm, List.getElem?_eq_getElem hm]
      have := hA _ (List.getElem_mem hm)
      simp; exact this) (fun m hm hn => by
      rw [hAB, List.length_append] at hn
      rw [hAB, List.getElem?_append_right hm, List.getElem?_eq_getElem (by omega)]
      have := hB _ (List.getElem_mem (show m - A.length < B.length by omega))
      simp; exact this)
  have hF : findP (ents x.l) off 0 = findP A off 0 := by rw [hAB, findP_app, findP_gt off B _ hB]
  rw [hF]
  refine W_fn rfl rfl ?_
  rcases List.eq_nil_or_concat A with h0 | ⟨A', e, h0⟩
  · rw [h0] at hS ⊢
    rw [show ((([] : List En).length : Nat) : Int) = 0 from rfl] at hS
    simp only [go_sem, c_index_Index_Find, he, e2, hS, findP, not_true_eq_false, not_false_eq_true, decide_true, decide_false, reduceCtorEq, ne_eq, Bool.false_eq_true, ↓reduceIte, Nat.reduceAdd, Nat.reduceEqDiff, Nat.reduceLT, Int.reduceLE, s_shl, s_shr, Bool.not_false, Bool.not_true, Bool.and_self, Bool.true_and, Bool.and_true, Bool.and_false, Bool.false_and, Bool.not_true, Bool.true_or, Bool.or_true, Nat.reduceSub, Nat.reduceLeDiff, Nat.reduceMul, Int.reduceToNat, Int.reduceLT, Int.reduceEq, Int.reduceNeg, and_self, and_true, true_and, and_false, false_and, or_true, true_or, or_false, false_or, Int.cast_ofNat_Int, Nat.reduceBEq, Nat.reduceBNe, beq_self_eq_true, List.take_zero, List.take_succ_cons, List.take_nil]
  · rw [List.concat_eq_append] at h0
    have hk : ¬ ((A.length : Int) = 0) := by rw [h0]; simp; omega
    have e3 : IntKind.i64.wrap ((A.length : Int) - 1) = ((A.length - 1 : Nat) : Int) := by
      have : A.length ≤ (ents x.l).length := by rw [hAB]; simp
      have : 1 ≤ A.length := by rw [h0]; simp
      rw [wrap_id (by unfold I64; omega)]; omega
    have e4 : ((ents x.l).map enV)[((A.length - 1 : Nat) : Int).toNat]? = some (enV e) := by rw [hAB, h0]; simp
    have e5 : (0 : Int) ≤ ((A.length - 1 : Nat) : Int) := by omega
    have hF2 : findP A off 0 = e.2 := by
      rw [h0, findP_app]
      show (if e.1 ≤ off then e.2 else _) = _
      rw [if_pos (hA e (by rw [h0]; simp))]
    rw [hF2]
    simp only [go_sem, c_index_Index_Find, he, e2, hS, hk, e3, e4, e5, not_true_eq_false, not_false_eq_true, decide_true, decide_false, reduceCtorEq, ne_eq, Bool.false_eq_true, ↓reduceIte, Nat.reduceAdd, Nat.reduceEqDiff, Nat.reduceLT, Int.reduceLE, s_shl, s_shr, Bool.not_false, Bool.not_true, Bool.and_self, Bool.true_and, Bool.and_true, Bool.and_false, Bool.false_and, Bool.not_true, Bool.true_or, Bool.or_true, Nat.reduceSub, Nat.reduceLeDiff, Nat.reduceMul, Int.reduceToNat, Int.reduceLT, Int.reduceEq, Int.reduceNeg, and_self, and_true, true_and, and_false, false_and, or_true, true_or, or_false, false_or, Int.cast_ofNat_Int, Nat.reduceBEq, Nat.reduceBNe, beq_self_eq_true, List.take_zero, List.take_succ_cons, List.take_nil]
end Go.Abs

namespace Go.Abs
open Go Go.RowKit
set_option linter.unusedVariables false
set_option linter.unusedSimpArgs false

theorem wrap_I64 (n : Int) : I64 (IntKind.i64.wrap n) := by rw [IntKind.wrap_i64]; unfold I64; omega
def idxB (base : Int) : List En → List Int
  | [] => []
  | e :: l => bes (IntKind.i64.wrap (e.1 - base)) 0 ++ bes e.2 0 ++ idxB base l
theorem bes_len (n : Int) : (bes n 0).length = 8 := by simp [bes]
theorem idxB_len (base) : ∀ l : List En, (idxB base l).length = 16 * l.length
  | [] => rfl
  | e :: l => by simp only [idxB, List.length_append, bes_len, idxB_len base l, List.length_cons]; omega
theorem idxB_app (base) : ∀ a b : List En, idxB base (a ++ b) = idxB base a ++ idxB base b
  | [], b => rfl
  | e :: a, b => by simp only [List.cons_append, idxB, idxB_app base a b, List.append_assoc]
theorem bytes_loop (x : Ix) (fl : Fl) (hfl : Flag x fl) (i : Nat) (E : List En) (hE : E.length < 1000000000) (hI : ∀ e ∈ E, I64 e.2) : ∀ (r s : List En) (H : Heap), E = s ++ r → Old H i (x.B fl) →
    ∃ N, loopA W loopW (.ghost (.kill k_index_Index_Bytes_0) l_index_Index_Bytes_0) [(0, .ptr i 0), (3, bytes (idxB x.base s) .full), (7, .list 2 (E.map enV) .full), (8, .int .i64 E.length), (9, .int .i64 s.length)] H =
      some (.exit 0, [(3, bytes (idxB x.base E) .full)], hx H N) := by
  intro r
  induction r with
  | nil =>
    intro s H hs hi
    rw [List.append_nil] at hs
    subst hs
    refine ⟨[], ?_⟩
    rw [hx_nil]
    have h1 : ¬ ((E.length : Int) < (E.length : Int)) := by omega
    refine loop_step l_index_Index_Bytes_0.eq_1 k_index_Index_Bytes_0.eq_1 (by kernel_rfl) ?_
    simp only [go_sem, h1, not_true_eq_false, not_false_eq_true, decide_true, decide_false, reduceCtorEq, ne_eq, Bool.false_eq_true, ↓reduceIte, Nat.reduceAdd, Nat.reduceEqDiff, Nat.reduceLT, Int.reduceLE, s_shl, s_shr, Bool.not_false, Bool.not_true, Bool.and_self, Bool.true_and, Bool.and_true, Bool.and_false, Bool.false_and, Bool.not_true, Bool.true_or, Bool.or_true, Nat.reduceSub, Nat.reduceLeDiff, Nat.reduceMul, Int.reduceToNat, Int.reduceLT, Int.reduceEq, Int.reduceNeg, and_self, and_true, true_and, and_false, false_and, or_true, true_or, or_false, false_or, Int.cast_ofNat_Int, Nat.reduceBEq, Nat.reduceBNe, beq_self_eq_true, List.take_zero, List.take_succ_cons, List.take_nil]
  | cons e r ih =>
    intro s H hs hi
    have gi := hi.get
    have hlen : E.length = s.length + (r.length + 1) := by rw [hs, List.length_append, List.length_cons]
    have h1 : (s.length : Int) < (E.length : Int) := by omega
    have h2 : (0 : Int) ≤ (s.length : Int) := by omega
    have h3 : (E.map enV)[((s.length : Nat) : Int).toNat]? = some (enV e) := by rw [hs]; simp
    have e1 : IntKind.i64.wrap ((s.length : Int) + 1) = ((s ++ [e]).length : Int) := by rw [wrap_id (by unfold I64; omega)]; simp
    have hb := idxB_len x.base s
    have l1 := fun H => long_spec (idxB x.base s) (IntKind.i64.wrap (e.1 - x.base)) H (wrap_I64 _) (by omega)
    have l2 := fun H => long_spec (idxB x.base s ++ bes (IntKind.i64.wrap (e.1 - x.base)) 0) e.2 H (hI e (by rw [hs]; simp)) (by rw [List.length_append, bes_len]; omega)
    have e4 : idxB x.base s ++ bes (IntKind.i64.wrap (e.1 - x.base)) 0 ++ bes e.2 0 = idxB x.base (s ++ [e]) := by rw [idxB_app]; simp [idxB]
    rw [e4] at l2
    obtain ⟨N, hN⟩ := ih (s ++ [e]) (hx H [.cells [.int .i64 e.1, .int .i64 e.2]]) (by rw [hs]; simp) ⟨gi _⟩
    rw [hx_hx] at hN
    refine ⟨.cells [.int .i64 e.1, .int .i64 e.2] :: N, loop_step l_index_Index_Bytes_0.eq_1 k_index_Index_Bytes_0.eq_1 (by kernel_rfl) ?_⟩
    rw [← hx_nil H]
    rcases hfl with rfl | ⟨rfl, _⟩ <;> (simp only [go_sem, h1, h2, h3, e1, gi, l1, l2, not_true_eq_false, not_false_eq_true, decide_true, decide_false, reduceCtorEq, ne_eq, Bool.false_eq_true, ↓reduceIte, Nat.reduceAdd, Nat.reduceEqDiff, Nat.reduceLT, Int.reduceLE, s_shl, s_shr, Bool.not_false, Bool.not_true, Bool.and_self, Bool.true_and, Bool.and_true, Bool.and_false, Bool.false_and, Bool.not_true, Bool.true_or, Bool.or_true, Nat.reduceSub, Nat.reduceLeDiff, Nat.reduceMul, Int.reduceToNat, Int.reduceLT, Int.reduceEq, Int.reduceNeg, and_self, and_true, true_and, and_false, false_and, or_true, true_or, or_false, false_or, Int.cast_ofNat_Int, Nat.reduceBEq, Nat.reduceBNe, beq_self_eq_true, List.take_zero, List.take_succ_cons, List.take_nil]; exact hN)
theorem ents_I64 {l : List Ad} (h : ∀ a ∈ l, I64 a.at_) : ∀ e ∈ ents l, I64 e.2 := by
  intro e he
  unfold ents at he
  obtain ⟨a, ha, rfl⟩ := List.mem_map.1 he
  exact h a (List.mem_filter.1 ha).1
theorem bytes_spec (x : Ix) (fl : Fl) (hfl : Flag x fl) (hx1 : x.l.length < 1000000000) (hI : ∀ a ∈ x.l, I64 a.at_) (i : Nat) (H : Heap) (hi : Old H i (x.B fl)) :
    W n_index_Index_Bytes [.ptr i 0] H = some (bytes (idxB x.base (ents x.l)) .full, H) := by
  have gi := hi.get
  have he := fun L => entries_spec x fl hfl hx1 i (hx H L) ⟨gi L⟩
  have hlen := ents_len x.l
  have e2 : ((ents x.l).map enV).length = (ents x.l).length := by simp
  obtain ⟨N, hN⟩ := bytes_loop x fl hfl i (ents x.l) (by omega) (ents_I64 hI) (ents x.l) [] (hx H []) rfl ⟨gi _⟩
  rw [hx_hx, List.nil_append, show idxB x.base [] = [] from rfl, show bytes [] .full = .list 1 [] .full from rfl] at hN
  simp only [List.map_nil, List.length_nil, show ((0 : Nat) : Int) = 0 from rfl] at hN
  refine W_fn rfl rfl ?_
  simp only [go_sem, c_index_Index_Bytes, he, e2, hN, under_ints, not_true_eq_false, not_false_eq_true, decide_true, decide_false, reduceCtorEq, ne_eq, Bool.false_eq_true, ↓reduceIte, Nat.reduceAdd, Nat.reduceEqDiff, Nat.reduceLT, Int.reduceLE, s_shl, s_shr, Bool.not_false, Bool.not_true, Bool.and_self, Bool.true_and, Bool.and_true, Bool.and_false, Bool.false_and, Bool.not_true, Bool.true_or, Bool.or_true, Nat.reduceSub, Nat.reduceLeDiff, Nat.reduceMul, Int.reduceToNat, Int.reduceLT, Int.reduceEq, Int.reduceNeg, and_self, and_true, true_and, and_false, false_and, or_true, true_or, or_false, false_or, Int.cast_ofNat_Int, Nat.reduceBEq, Nat.reduceBNe, beq_self_eq_true, List.take_zero, List.take_succ_cons, List.take_nil]

/-! ## The document's own -/
structure Pl where
  base : Int
  last : Int
  every : Int
  end_ : Int
  l : List En
abbrev Pl.B (p : Pl) (fl : Fl) : Box := .cells [.int .i64 p.base, .int .i64 p.last, .int .i64 p.every, .int .i64 p.end_, .list 2 (p.l.map enV) fl]
theorem same_loop (p : Pl) (fp : Fl) (hfp : fp = .own ∨ fp = .full) (j : Nat) (hE : p.l.length < 1000000000) (hI : ∀ e ∈ p.l, I64 e.2) (xv : AVal) : ∀ (r s : List En) (H : Heap) (fb : Fl), p.l = s ++ r → (fb = .own ∨ (fb = .full ∧ s = [])) → Old H j (p.B fp) →
    ∃ N fb', (fb' = .own ∨ fb' = .full) ∧ loopA W loopW (.ghost (.kill k_law8_same_0) l_law8_same_0) [(0, xv), (1, .ptr j 0), (5, .list 2 (p.l.map enV) .full), (6, bytes (idxB p.base s) fb), (19, .int .i64 p.l.length), (20, .int .i64 s.length)] H =
      some (.exit 0, [(0, xv), (6, bytes (idxB p.base p.l) fb')], hx H N) := by
  intro r
  induction r with
  | nil =>
    intro s H fb hs hfb hj
    rw [List.append_nil] at hs
    subst hs
    refine ⟨[], fb, by rcases hfb with h | ⟨h, _⟩ <;> simp [h], ?_⟩
    rw [hx_nil]
    have h1 : ¬ ((p.l.length : Int) < (p.l.length : Int)) := by omega
    refine loop_step l_law8_same_0.eq_1 k_law8_same_0.eq_1 (by kernel_rfl) ?_
    rcases hfb with rfl | ⟨rfl, _⟩ <;> simp only [go_sem, h1, not_true_eq_false, not_false_eq_true, decide_true, decide_false, reduceCtorEq, ne_eq, Bool.false_eq_true, ↓reduceIte, Nat.reduceAdd, Nat.reduceEqDiff, Nat.reduceLT, Int.reduceLE, s_shl, s_shr, Bool.not_false, Bool.not_true, Bool.and_self, Bool.true_and, Bool.and_true, Bool.and_false, Bool.false_and, Bool.not_true, Bool.true_or, Bool.or_true, Nat.reduceSub, Nat.reduceLeDiff, Nat.reduceMul, Int.reduceToNat, Int.reduceLT, Int.reduceEq, Int.reduceNeg, and_self, and_true, true_and, and_false, false_and, or_true, true_or, or_false, false_or, Int.cast_ofNat_Int, Nat.reduceBEq, Nat.reduceBNe, beq_self_eq_true, List.take_zero, List.take_succ_cons, List.take_nil]
  | cons e r ih =>
    intro s H fb hs hfb hj
    have gj := hj.get
    have hlen : p.l.length = s.length + (r.length + 1) := by rw [hs, List.length_append, List.length_cons]
    have h1 : (s.length : Int) < (p.l.length : Int) := by omega
    have h2 : (0 : Int) ≤ (s.length : Int) := by omega
    have h3 : (p.l.map enV)[((s.length : Nat) : Int).toNat]? = some (enV e) := by rw [hs]; simp
    have e1 : IntKind.i64.wrap ((s.length : Int) + 1) = ((s ++ [e]).length : Int) := by rw [wrap_id (by unfold I64; omega)]; simp
    have hb := idxB_len p.base s
    have l1 := fun H => ref_long_spec (idxB p.base s) (IntKind.i64.wrap (e.1 - p.base)) H (wrap_I64 _) (by omega)
    have l2 := fun H => ref_long_spec (idxB p.base s ++ bes (IntKind.i64.wrap (e.1 - p.base)) 0) e.2 H (hI e (by rw [hs]; simp)) (by rw [List.length_append, bes_len]; omega)
    have e4 : idxB p.base s ++ bes (IntKind.i64.wrap (e.1 - p.base)) 0 ++ bes e.2 0 = idxB p.base (s ++ [e]) := by rw [idxB_app]; simp [idxB]
    rw [e4] at l2
    obtain ⟨N, fb', hf, hN⟩ := ih (s ++ [e]) H .own (by rw [hs]; simp) (.inl rfl) hj
    have hq : ∀ a b : Int, eqCells [.int .i64, .int .i64] [.int .i64 a, .int .i64 b] [.int .i64 a, .int .i64 b] = some true := by intro a b; simp [eqCells]
    refine ⟨N, fb', hf, loop_step l_law8_same_0.eq_1 k_law8_same_0.eq_1 (by kernel_rfl) ?_⟩
    rw [← hx_nil H]
    rcases hfp with rfl | rfl <;> rcases hfb with rfl | ⟨rfl, _⟩ <;> (simp only [go_sem, h1, h2, h3, e1, gj, l1, l2, hq, not_true_eq_false, not_false_eq_true, decide_true, decide_false, reduceCtorEq, ne_eq, Bool.false_eq_true, ↓reduceIte, Nat.reduceAdd, Nat.reduceEqDiff, Nat.reduceLT, Int.reduceLE, s_shl, s_shr, Bool.not_false, Bool.not_true, Bool.and_self, Bool.true_and, Bool.and_true, Bool.and_false, Bool.false_and, Bool.not_true, Bool.true_or, Bool.or_true, Nat.reduceSub, Nat.reduceLeDiff, Nat.reduceMul, Int.reduceToNat, Int.reduceLT, Int.reduceEq, Int.reduceNeg, and_self, and_true, true_and, and_false, false_and, or_true, true_or, or_false, false_or, Int.cast_ofNat_Int, Nat.reduceBEq, Nat.reduceBNe, beq_self_eq_true, List.take_zero, List.take_succ_cons, List.take_nil]; rw [hx_nil]; exact hN)
theorem same_spec (x : Ix) (fl : Fl) (hfl : Flag x fl) (hx1 : x.l.length < 1000000000) (hI : ∀ a ∈ x.l, I64 a.at_) (i : Nat) (H : Heap) (hi : Old H i (x.B fl))
    (p : Pl) (fp : Fl) (hfp : fp = .own ∨ fp = .full) (j : Nat) (hj : Old H j (p.B fp)) (hb : x.base = p.base) (hp : ents x.l = p.l) :
    W n_law8_same [.ptr i 0, .ptr j 0] H = some (.bool true, H) := by
  have gi := hi.get
  have gj := hj.get
  have he := fun L => entries_spec x fl hfl hx1 i (hx H L) ⟨gi L⟩
  have hby := fun L => bytes_spec x fl hfl hx1 hI i (hx H L) ⟨gi L⟩
  have hlen := ents_len x.l
  have hI' := ents_I64 hI
  rw [hp] at he hby hlen hI'
  rw [hb] at hby
  have e2 : (p.l.map enV).length = p.l.length := by simp
  obtain ⟨N, fb', hf, hN⟩ := same_loop p fp hfp j (by omega) hI' (.ptr i 0) p.l [] (hx H []) .full rfl (.inr ⟨rfl, rfl⟩) ⟨gj _⟩
  rw [hx_hx, List.nil_append, show idxB p.base [] = [] from rfl, show bytes [] .full = .list 1 [] .full from rfl] at hN
  simp only [List.map_nil, List.length_nil, show ((0 : Nat) : Int) = 0 from rfl] at hN
  have hq : (toS (idxB p.base p.l) == toS (idxB p.base p.l)) = true := by simp
  refine W_fn rfl rfl ?_
  rcases hfp with rfl | rfl <;> rcases hf with rfl | rfl <;> simp only [go_sem, c_law8_same, he, e2, gj, hN, hby, dec_ints, hq, not_true_eq_false, not_false_eq_true, decide_true, decide_false, reduceCtorEq, ne_eq, Bool.false_eq_true, ↓reduceIte, Nat.reduceAdd, Nat.reduceEqDiff, Nat.reduceLT, Int.reduceLE, s_shl, s_shr, Bool.not_false, Bool.not_true, Bool.and_self, Bool.true_and, Bool.and_true, Bool.and_false, Bool.false_and, Bool.not_true, Bool.true_or, Bool.or_true, Nat.reduceSub, Nat.reduceLeDiff, Nat.reduceMul, Int.reduceToNat, Int.reduceLT, Int.reduceEq, Int.reduceNeg, and_self, and_true, true_and, and_false, false_and, or_true, true_or, or_false, false_or, Int.cast_ofNat_Int, Nat.reduceBEq, Nat.reduceBNe, beq_self_eq_true, List.take_zero, List.take_succ_cons, List.take_nil]
end Go.Abs

namespace Go.Abs
open Go Go.RowKit
set_option linter.unusedVariables false
set_option linter.unusedSimpArgs false

theorem known_ok : callN tbl ext 60 n_law8_known [] [] = some (.bool true, []) := by kernel_rfl
theorem known_spec : W n_law8_known [] [] = some (.bool true, []) := callW_of known_ok
theorem within_spec (n lo hi : Int) (H : Heap) (h : lo ≤ hi) (h1 : -1000000000 ≤ lo) (h2 : hi ≤ 2000000000) : W n_book_Within [.int .i64 n, .int .i64 lo, .int .i64 hi] H = some (.int .i64 (withinQ n lo hi), H) := by
  refine W_fn rfl rfl ?_
  have q1 : n.tmod (hi - lo + 1) < hi - lo + 1 := Int.tmod_lt_of_pos n (by omega)
  have q2 : -(hi - lo + 1) < n.tmod (hi - lo + 1) := by
    have := Int.tmod_lt_of_pos (-n) (show 0 < hi - lo + 1 by omega)
    rw [Int.neg_tmod] at this; omega
  have w1 : IntKind.i64.wrap (hi - lo) = hi - lo := wrap_id (by unfold I64; omega)
  have w2 : IntKind.i64.wrap (hi - lo + 1) = hi - lo + 1 := wrap_id (by unfold I64; omega)
  have w0 : ¬ (hi - lo + 1 = 0) := by omega
  have w3 : IntKind.i64.wrap (lo + n.tmod (hi - lo + 1)) = lo + n.tmod (hi - lo + 1) := wrap_id (by unfold I64; omega)
  have w4 : IntKind.i64.wrap (n.tmod (hi - lo + 1) + hi) = n.tmod (hi - lo + 1) + hi := wrap_id (by unfold I64; omega)
  have w5 : IntKind.i64.wrap (n.tmod (hi - lo + 1) + hi - lo) = n.tmod (hi - lo + 1) + hi - lo := wrap_id (by unfold I64; omega)
  have w6 : IntKind.i64.wrap (n.tmod (hi - lo + 1) + hi - lo + 1) = n.tmod (hi - lo + 1) + hi - lo + 1 := wrap_id (by unfold I64; omega)
  have w7 : n.tmod (hi - lo + 1) < 0 → IntKind.i64.wrap (lo + (n.tmod (hi - lo + 1) + hi - lo + 1)) = lo + (n.tmod (hi - lo + 1) + hi - lo + 1) := fun _ => wrap_id (by unfold I64; omega)
  unfold withinQ
  by_cases c1 : n ≥ lo
  · by_cases c2 : n ≤ hi
    · simp only [go_sem, c_book_Within, c1, c2, not_true_eq_false, not_false_eq_true, decide_true, decide_false, reduceCtorEq, ne_eq, Bool.false_eq_true, ↓reduceIte, Nat.reduceAdd, Nat.reduceEqDiff, Nat.reduceLT, Int.reduceLE, s_shl, s_shr, Bool.not_false, Bool.not_true, Bool.and_self, Bool.true_and, Bool.and_true, Bool.and_false, Bool.false_and, Bool.not_true, Bool.true_or, Bool.or_true, Nat.reduceSub, Nat.reduceLeDiff, Nat.reduceMul, Int.reduceToNat, Int.reduceLT, Int.reduceEq, Int.reduceNeg, and_self, and_true, true_and, and_false, false_and, or_true, true_or, or_false, false_or, Int.cast_ofNat_Int, Nat.reduceBEq, Nat.reduceBNe, beq_self_eq_true, List.take_zero, List.take_succ_cons, List.take_nil]
    · by_cases c3 : n.tmod (hi - lo + 1) < 0
      · simp only [go_sem, c_book_Within, c1, c2, c3, w0, w1, w2, w3, w4, w5, w6, w7, not_true_eq_false, not_false_eq_true, decide_true, decide_false, reduceCtorEq, ne_eq, Bool.false_eq_true, ↓reduceIte, Nat.reduceAdd, Nat.reduceEqDiff, Nat.reduceLT, Int.reduceLE, s_shl, s_shr, Bool.not_false, Bool.not_true, Bool.and_self, Bool.true_and, Bool.and_true, Bool.and_false, Bool.false_and, Bool.not_true, Bool.true_or, Bool.or_true, Nat.reduceSub, Nat.reduceLeDiff, Nat.reduceMul, Int.reduceToNat, Int.reduceLT, Int.reduceEq, Int.reduceNeg, and_self, and_true, true_and, and_false, false_and, or_true, true_or, or_false, false_or, Int.cast_ofNat_Int, Nat.reduceBEq, Nat.reduceBNe, beq_self_eq_true, List.take_zero, List.take_succ_cons, List.take_nil]
      · simp only [go_sem, c_book_Within, c1, c2, c3, w0, w1, w2, w3, w4, w5, w6, not_true_eq_false, not_false_eq_true, decide_true, decide_false, reduceCtorEq, ne_eq, Bool.false_eq_true, ↓reduceIte, Nat.reduceAdd, Nat.reduceEqDiff, Nat.reduceLT, Int.reduceLE, s_shl, s_shr, Bool.not_false, Bool.not_true, Bool.and_self, Bool.true_and, Bool.and_true, Bool.and_false, Bool.false_and, Bool.not_true, Bool.true_or, Bool.or_true, Nat.reduceSub, Nat.reduceLeDiff, Nat.reduceMul, Int.reduceToNat, Int.reduceLT, Int.reduceEq, Int.reduceNeg, and_self, and_true, true_and, and_false, false_and, or_true, true_or, or_false, false_or, Int.cast_ofNat_Int, Nat.reduceBEq, Nat.reduceBNe, beq_self_eq_true, List.take_zero, List.take_succ_cons, List.take_nil]
  · by_cases c3 : n.tmod (hi - lo + 1) < 0
    · simp only [go_sem, c_book_Within, c1, c3, w0, w1, w2, w3, w4, w5, w6, w7, not_true_eq_false, not_false_eq_true, decide_true, decide_false, reduceCtorEq, ne_eq, Bool.false_eq_true, ↓reduceIte, Nat.reduceAdd, Nat.reduceEqDiff, Nat.reduceLT, Int.reduceLE, s_shl, s_shr, Bool.not_false, Bool.not_true, Bool.and_self, Bool.true_and, Bool.and_true, Bool.and_false, Bool.false_and, Bool.not_true, Bool.true_or, Bool.or_true, Nat.reduceSub, Nat.reduceLeDiff, Nat.reduceMul, Int.reduceToNat, Int.reduceLT, Int.reduceEq, Int.reduceNeg, and_self, and_true, true_and, and_false, false_and, or_true, true_or, or_false, false_or, Int.cast_ofNat_Int, Nat.reduceBEq, Nat.reduceBNe, beq_self_eq_true, List.take_zero, List.take_succ_cons, List.take_nil]
    · simp only [go_sem, c_book_Within, c1, c3, w0, w1, w2, w3, w4, w5, w6, not_true_eq_false, not_false_eq_true, decide_true, decide_false, reduceCtorEq, ne_eq, Bool.false_eq_true, ↓reduceIte, Nat.reduceAdd, Nat.reduceEqDiff, Nat.reduceLT, Int.reduceLE, s_shl, s_shr, Bool.not_false, Bool.not_true, Bool.and_self, Bool.true_and, Bool.and_true, Bool.and_false, Bool.false_and, Bool.not_true, Bool.true_or, Bool.or_true, Nat.reduceSub, Nat.reduceLeDiff, Nat.reduceMul, Int.reduceToNat, Int.reduceLT, Int.reduceEq, Int.reduceNeg, and_self, and_true, true_and, and_false, false_and, or_true, true_or, or_false, false_or, Int.cast_ofNat_Int, Nat.reduceBEq, Nat.reduceBNe, beq_self_eq_true, List.take_zero, List.take_succ_cons, List.take_nil]

/-! ## What holds of an index that was added to -/
def GapS (k : Int) : List En → Prop
  | [] => True
  | [_] => True
  | e :: e' :: l => (e.1 < e'.1 ∧ e'.2 - e.2 ≥ k) ∧ GapS k (e' :: l)
theorem GapS.snoc {k : Int} : ∀ {l : List En} {e : En}, GapS k l → (∀ q, l.getLast? = some q → q.1 < e.1 ∧ e.2 - q.2 ≥ k) → GapS k (l ++ [e])
  | [], e, _, _ => trivial
  | [q], e, _, h => ⟨h q rfl, trivial⟩
  | q :: q' :: l, e, hg, h => ⟨hg.1, GapS.snoc (l := q' :: l) hg.2 fun x hx => h x (by simpa [List.getLast?_cons_cons] using hx)⟩
theorem GapS.tail {k : Int} {e : En} {l : List En} (h : GapS k (e :: l)) : GapS k l := by
  cases l with
  | nil => trivial
  | cons e' l => exact h.2
theorem GapS.rise {k : Int} (hk : 1 ≤ k) : ∀ {l : List En} {e : En}, GapS k (e :: l) → ∀ e' ∈ l, e.1 < e'.1 ∧ e.2 + k ≤ e'.2
  | [], _, _, _, h => by simp at h
  | q :: l, e, hg, e', he => by
    rcases List.mem_cons.1 he with rfl | he
    · exact ⟨hg.1.1, by have := hg.1.2; omega⟩
    · have := GapS.rise hk hg.2 e' he
      have h1 := hg.1
      omega
theorem GapS.srt {k : Int} (hk : 1 ≤ k) : ∀ {l : List En}, GapS k l → Srt l
  | [], _ => trivial
  | e :: l, h => ⟨fun e' he => (GapS.rise hk h e' he).1, GapS.srt hk h.tail⟩
theorem lastE_ents (l : List Ad) : (lastE l).map (fun a => (a.off, a.at_)) = (ents l).getLast? := by
  have key : ∀ (n : Nat) (l : List Ad), l.length = n → (lastE l).map (fun a => (a.off, a.at_)) = (ents l).getLast? := by
    intro n
    induction n with
    | zero => intro l h; rw [List.length_eq_zero_iff.1 h]; rfl
    | succ n ih =>
      intro l h
      obtain ⟨r, a, rfl⟩ : ∃ r a, l = r ++ [a] := by
        rcases List.eq_nil_or_concat l with h' | ⟨s, x, h'⟩
        · subst h'; cases h
        · exact ⟨s, x, by simpa using h'⟩
      rw [lastE_snoc, ents_app, ents_cons]
      cases a.entry with
      | true => simp [ents]
      | false => rw [if_neg (by decide), if_neg (by decide), ih r (by simpa using h)]; simp [ents]
  exact key _ l rfl
structure IxInv (x : Ix) (ho he : Int) : Prop where
  bo : ∀ a ∈ x.l, a.off < ho
  be : ∀ a ∈ x.l, 0 ≤ a.at_ ∧ a.at_ < a.end_ ∧ a.end_ ≤ he
  gap : GapS x.every (ents x.l)
  ne : x.l ≠ [] → ents x.l ≠ []
theorem IxInv.nil (b e ho he : Int) : IxInv ⟨b, e, []⟩ ho he := ⟨by simp, by simp, trivial, fun h => absurd rfl h⟩
theorem lastE_mem : ∀ {l : List Ad} {e : Ad}, lastE l = some e → e ∈ l
  | a :: l, e, h => by
    rw [lastE] at h
    cases hl : lastE l with
    | some b => rw [hl] at h; cases h; exact List.mem_cons_of_mem _ (lastE_mem hl)
    | none =>
      rw [hl] at h
      simp only at h
      split at h
      · cases h; simp
      · cases h
theorem IxInv.add {x : Ix} {ho he o a s : Int} (h : IxInv x ho he) (h1 : ho ≤ o) (h2 : he ≤ a) (h3 : 0 ≤ a) (h4 : 1 ≤ s) (h5 : a + s ≤ 4611686018427387904) (h6 : x.base ≤ o) :
    addOK x o a s = true ∧ IxInv (addI x o a s) (o + 1) (a + s) := by
  have hw : IntKind.i64.wrap (a + s) = a + s := wrap_id (by unfold I64; omega)
  constructor
  · unfold addOK
    have c1 : ¬ o < x.base := by omega
    have c2 : ¬ a < 0 := by omega
    have c3 : ¬ s < 1 := by omega
    simp only [c1, c2, c3, not_false_eq_true, decide_true, Bool.true_and]
    cases hq : x.l.getLast? with
    | none => rfl
    | some q =>
      have hm := List.mem_of_getLast? hq
      have := h.bo q hm
      have := h.be q hm
      simp; omega
  · refine ⟨?_, ?_, ?_, ?_⟩
    · intro b hb
      rcases List.mem_append.1 hb with hb | hb
      · have := h.bo b hb; omega
      · rw [List.mem_singleton] at hb; subst hb; simp only; omega
    · intro b hb
      rcases List.mem_append.1 hb with hb | hb
      · have := h.be b hb; omega
      · rw [List.mem_singleton] at hb; subst hb; simp only [hw]; omega
    · show GapS x.every (ents (x.l ++ [_]))
      rw [ents_app, ents_cons]
      simp only [show ents [] = [] from rfl, List.append_nil]
      cases hE : addE x a with
      | false => simpa using h.gap
      | true =>
        rw [if_pos rfl]
        refine h.gap.snoc fun q hq => ?_
        rw [← lastE_ents] at hq
        obtain ⟨e, he', rfl⟩ := Option.map_eq_some_iff.1 hq
        have hm := lastE_mem he'
        have b1 := h.bo e hm
        have b2 := h.be e hm
        unfold addE at hE
        rw [he'] at hE
        simp only [decide_eq_true_eq] at hE
        rw [wrap_id (by unfold I64; omega)] at hE
        exact ⟨by simp only; omega, by simp only; omega⟩
    · intro _
      show ents (x.l ++ [_]) ≠ []
      rw [ents_app, ents_cons]
      by_cases hx : x.l = []
      · have : addE x a = true := by unfold addE; rw [hx]; rfl
        rw [this]; simp
      · intro hh
        exact h.ne hx (List.append_eq_nil_iff.1 hh).1
theorem IxInv.I64 {x : Ix} {ho he : Int} (h : IxInv x ho he) (hh : he ≤ 4611686018427387904) : ∀ a ∈ x.l, Go.Abs.I64 a.at_ := fun a ha => by
  have := h.be a ha
  unfold Go.Abs.I64; omega
/-- A greater offset is found no earlier. -/
theorem findP_mono {k : Int} (hk : 1 ≤ k) (p q : Int) (hpq : p ≤ q) : ∀ (E : List En) (a : Int), GapS k E → (∀ e ∈ E, a ≤ e.2) → findP E p a ≤ findP E q a
  | [], a, _, _ => Int.le_refl _
  | e :: E, a, hg, ha => by
    have he := ha e (by simp)
    have hr := GapS.rise hk hg
    rw [findP, findP]
    by_cases c : e.1 ≤ p
    · rw [if_pos c, if_pos (by omega)]
      exact findP_mono hk p q hpq E e.2 hg.tail fun e' h' => by have := hr e' h'; omega
    · rw [if_neg c]
      have : findP E p a = a := findP_gt p E a fun e' h' => by have := hr e' h'; omega
      rw [this]
      have low : ∀ (E : List En) (b : Int), (∀ e ∈ E, a ≤ e.2) → a ≤ b → a ≤ findP E q b := by
        intro E
        induction E with
        | nil => intro b _ hb; exact hb
        | cons e E ih =>
          intro b h1 hb
          rw [findP]
          exact ih _ (fun e' h' => h1 e' (List.mem_cons_of_mem _ h')) (by have := h1 e (by simp); split <;> omega)
      exact low E _ (fun e' h' => ha e' (List.mem_cons_of_mem _ h')) (by split <;> omega)
end Go.Abs

namespace Go.Abs
open Go Go.RowKit
set_option linter.unusedVariables false
set_option linter.unusedSimpArgs false

theorem order_loop0 (ns : List Int) (a b k : Int) (hns : ns.length < 100000000000000) (H M : Heap) (d : Nat) : ∀ (x : Ix) (fl : Fl) (at_ : Int), Flag x fl → IxInv x (x.l.length : Nat) at_ → x.base = 0 → x.every = k → 0 ≤ at_ → at_ ≤ 51 * (x.l.length : Nat) → x.l.length + d = min ns.length 40 →
    ∃ x' fl' at', Flag x' fl' ∧ IxInv x' (x'.l.length : Nat) at' ∧ x'.base = 0 ∧ x'.every = k ∧ at' ≤ 2040 ∧ x'.l.length = min ns.length 40 ∧
    loopA W loopW (.ghost (.kill k_law8_IndexOrder_0) l_law8_IndexOrder_0) [(0, .list 1 (ints .i64 ns) .ro), (2, .int .i64 a), (3, .int .i64 b), (9, .int .i64 k), (10, .ptr (pt H 0) 0), (11, .int .i64 at_), (12, .int .i64 (x.l.length : Nat))] (hx H (x.B fl :: M)) =
      some (.exit 0, [(0, .list 1 (ints .i64 ns) .ro), (2, .int .i64 a), (3, .int .i64 b), (9, .int .i64 k), (10, .ptr (pt H 0) 0)], hx H (x'.B fl' :: M)) := by
  have e0 : (ints .i64 ns).length = ns.length := by simp
  induction d with
  | zero =>
    intro x fl at_ hfl hi hb hk h0 h1 hd
    refine ⟨x, fl, at_, hfl, hi, hb, hk, by omega, by omega, loop_step l_law8_IndexOrder_0.eq_1 k_law8_IndexOrder_0.eq_1 (by kernel_rfl) ?_⟩
    by_cases c1 : ((x.l.length : Nat) : Int) < ((ns.length : Nat) : Int)
    · have c2 : ¬ (((x.l.length : Nat) : Int) < 40) := by omega
      simp only [go_sem, e0, c1, c2, not_true_eq_false, not_false_eq_true, decide_true, decide_false, reduceCtorEq, ne_eq, Bool.false_eq_true, ↓reduceIte, Nat.reduceAdd, Nat.reduceEqDiff, Nat.reduceLT, Int.reduceLE, s_shl, s_shr, Bool.not_false, Bool.not_true, Bool.and_self, Bool.true_and, Bool.and_true, Bool.and_false, Bool.false_and, Bool.not_true, Bool.true_or, Bool.or_true, Nat.reduceSub, Nat.reduceLeDiff, Nat.reduceMul, Int.reduceToNat, Int.reduceLT, Int.reduceEq, Int.reduceNeg, and_self, and_true, true_and, and_false, false_and, or_true, true_or, or_false, false_or, Int.cast_ofNat_Int, Nat.reduceBEq, Nat.reduceBNe, beq_self_eq_true, List.take_zero, List.take_succ_cons, List.take_nil]
    · simp only [go_sem, e0, c1, not_true_eq_false, not_false_eq_true, decide_true, decide_false, reduceCtorEq, ne_eq, Bool.false_eq_true, ↓reduceIte, Nat.reduceAdd, Nat.reduceEqDiff, Nat.reduceLT, Int.reduceLE, s_shl, s_shr, Bool.not_false, Bool.not_true, Bool.and_self, Bool.true_and, Bool.and_true, Bool.and_false, Bool.false_and, Bool.not_true, Bool.true_or, Bool.or_true, Nat.reduceSub, Nat.reduceLeDiff, Nat.reduceMul, Int.reduceToNat, Int.reduceLT, Int.reduceEq, Int.reduceNeg, and_self, and_true, true_and, and_false, false_and, or_true, true_or, or_false, false_or, Int.cast_ofNat_Int, Nat.reduceBEq, Nat.reduceBNe, beq_self_eq_true, List.take_zero, List.take_succ_cons, List.take_nil]
  | succ d ih =>
    intro x fl at_ hfl hi hb hk h0 h1 hd
    have c1 : ((x.l.length : Nat) : Int) < ((ns.length : Nat) : Int) := by omega
    have c2 : ((x.l.length : Nat) : Int) < 40 := by omega
    have c3 : (0 : Int) ≤ ((x.l.length : Nat) : Int) := by omega
    have h4 := ints_get (k := .i64) (l := ns) (i := x.l.length) (by omega)
    generalize ns[x.l.length]'(by omega) = c at h4
    have hw := fun H => within_spec c 0 50 H (by decide) (by decide) (by decide)
    have hr := withinQ_range c 0 50 (by decide)
    generalize withinQ c 0 50 = n at hw hr
    have e1 : IntKind.i64.wrap (1 + n) = 1 + n := wrap_id (by unfold I64; omega)
    have e2 : IntKind.i64.wrap (at_ + (1 + n)) = at_ + (1 + n) := wrap_id (by unfold I64; omega)
    obtain ⟨g1, g2⟩ := hi.add (o := (x.l.length : Nat)) (a := at_) (s := 1 + n) (Int.le_refl _) (Int.le_refl _) h0 (by omega) (by omega) (by rw [hb]; omega)
    have hadd := add_true x fl hfl (by omega) (pt H 0) (hx H (x.B fl :: M)) ⟨by rw [hx_get]; rfl⟩ (x.l.length : Nat) at_ (1 + n) g1
    rw [hx_set, List.set_cons_zero] at hadd
    have hl' : (addI x (x.l.length : Nat) at_ (1 + n)).l.length = x.l.length + 1 := by simp [addI]
    have e3 : IntKind.i64.wrap (((x.l.length : Nat) : Int) + 1) = ((addI x (x.l.length : Nat) at_ (1 + n)).l.length : Nat) := by rw [hl', wrap_id (by unfold I64; omega)]; omega
    obtain ⟨x', fl', at', r1, r2, r3, r4, r5, r6, hN⟩ := ih (addI x (x.l.length : Nat) at_ (1 + n)) .own (at_ + (1 + n)) (.inl rfl) (by rw [hl']; simpa using g2) hb hk (by omega) (by rw [hl']; omega) (by rw [hl']; omega)
    refine ⟨x', fl', at', r1, r2, r3, r4, r5, r6, loop_step l_law8_IndexOrder_0.eq_1 k_law8_IndexOrder_0.eq_1 (by kernel_rfl) ?_⟩
    simp only [go_sem, e0, c1, c2, c3, h4, hw, e1, e2, e3, hadd, not_true_eq_false, not_false_eq_true, decide_true, decide_false, reduceCtorEq, ne_eq, Bool.false_eq_true, ↓reduceIte, Nat.reduceAdd, Nat.reduceEqDiff, Nat.reduceLT, Int.reduceLE, s_shl, s_shr, Bool.not_false, Bool.not_true, Bool.and_self, Bool.true_and, Bool.and_true, Bool.and_false, Bool.false_and, Bool.not_true, Bool.true_or, Bool.or_true, Nat.reduceSub, Nat.reduceLeDiff, Nat.reduceMul, Int.reduceToNat, Int.reduceLT, Int.reduceEq, Int.reduceNeg, and_self, and_true, true_and, and_false, false_and, or_true, true_or, or_false, false_or, Int.cast_ofNat_Int, Nat.reduceBEq, Nat.reduceBNe, beq_self_eq_true, List.take_zero, List.take_succ_cons, List.take_nil]
    exact hN
theorem order_loop1 (X2 X3 : AVal) (ns : List Int) (k : Int) (E : List En) (hE : E.length < 1000000000) (hI : ∀ e ∈ E, 0 ≤ e.2 ∧ e.2 ≤ 4611686018427387904) (hg : GapS k E) (P : AVal) (H : Heap) (s0 s1 : Int) (hX2 : X2 = .int .i64 s0) (hX3 : X3 = .int .i64 s1) (i0 : Nat) (hP : P = .ptr i0 0) : ∀ (r s : List En), E = s ++ r →
    loopA W loopW (.ghost (.kill k_law8_IndexOrder_1) l_law8_IndexOrder_1) [(0, .list 1 (ints .i64 ns) .ro), (2, X2), (3, X3), (9, .int .i64 k), (10, P), (14, .list 2 (E.map enV) .full), (52, .int .i64 E.length), (53, .int .i64 s.length)] H =
      some (.exit 2, [(0, .list 1 (ints .i64 ns) .ro), (2, X2), (3, X3), (10, P), (14, .list 2 (E.map enV) .full)], H) := by
  subst hX2; subst hX3; subst hP
  have gs : ∀ (r s : List En) (e : En), E = s ++ e :: r → ∀ q, s.getLast? = some q → q.1 < e.1 ∧ e.2 - q.2 ≥ k := by
    intro r s e hE q hq
    have : GapS k (s ++ e :: r) := hE ▸ hg
    clear hE hg hI
    induction s with
    | nil => simp at hq
    | cons y s ih =>
      cases s with
      | nil => simp at hq; subst hq; exact this.1
      | cons z s => exact ih (by simpa [List.getLast?_cons_cons] using hq) this.2
  intro r
  induction r with
  | nil =>
    intro s hs
    rw [List.append_nil] at hs
    subst hs
    have h1 : ¬ ((E.length : Int) < (E.length : Int)) := by omega
    refine loop_step l_law8_IndexOrder_1.eq_1 k_law8_IndexOrder_1.eq_1 (by kernel_rfl) ?_
    simp only [go_sem, h1, not_true_eq_false, not_false_eq_true, decide_true, decide_false, reduceCtorEq, ne_eq, Bool.false_eq_true, ↓reduceIte, Nat.reduceAdd, Nat.reduceEqDiff, Nat.reduceLT, Int.reduceLE, s_shl, s_shr, Bool.not_false, Bool.not_true, Bool.and_self, Bool.true_and, Bool.and_true, Bool.and_false, Bool.false_and, Bool.not_true, Bool.true_or, Bool.or_true, Nat.reduceSub, Nat.reduceLeDiff, Nat.reduceMul, Int.reduceToNat, Int.reduceLT, Int.reduceEq, Int.reduceNeg, and_self, and_true, true_and, and_false, false_and, or_true, true_or, or_false, false_or, Int.cast_ofNat_Int, Nat.reduceBEq, Nat.reduceBNe, beq_self_eq_true, List.take_zero, List.take_succ_cons, List.take_nil]
  | cons e r ih =>
    intro s hs
    have hlen : E.length = s.length + (r.length + 1) := by rw [hs, List.length_append, List.length_cons]
    have h1 : (s.length : Int) < (E.length : Int) := by omega
    have h2 : (0 : Int) ≤ (s.length : Int) := by omega
    have h3 : (E.map enV)[((s.length : Nat) : Int).toNat]? = some (enV e) := by rw [hs]; simp
    have e1 : IntKind.i64.wrap ((s.length : Int) + 1) = ((s ++ [e]).length : Int) := by rw [wrap_id (by unfold I64; omega)]; simp
    have hN := ih (s ++ [e]) (by rw [hs]; simp)
    refine loop_step l_law8_IndexOrder_1.eq_1 k_law8_IndexOrder_1.eq_1 (by kernel_rfl) ?_
    rcases List.eq_nil_or_concat s with h0 | ⟨s', q, h0⟩
    · have g0 : ¬ ((s.length : Int) > 0) := by rw [h0]; simp
      simp only [go_sem, h1, h2, h3, e1, g0, not_true_eq_false, not_false_eq_true, decide_true, decide_false, reduceCtorEq, ne_eq, Bool.false_eq_true, ↓reduceIte, Nat.reduceAdd, Nat.reduceEqDiff, Nat.reduceLT, Int.reduceLE, s_shl, s_shr, Bool.not_false, Bool.not_true, Bool.and_self, Bool.true_and, Bool.and_true, Bool.and_false, Bool.false_and, Bool.not_true, Bool.true_or, Bool.or_true, Nat.reduceSub, Nat.reduceLeDiff, Nat.reduceMul, Int.reduceToNat, Int.reduceLT, Int.reduceEq, Int.reduceNeg, and_self, and_true, true_and, and_false, false_and, or_true, true_or, or_false, false_or, Int.cast_ofNat_Int, Nat.reduceBEq, Nat.reduceBNe, beq_self_eq_true, List.take_zero, List.take_succ_cons, List.take_nil]
      exact hN
    · rw [List.concat_eq_append] at h0
      have hq := gs r s e hs q (by rw [h0]; simp)
      have i1 := hI e (by rw [hs]; simp)
      have i2 := hI q (by rw [hs, h0]; simp)
      have g0 : (s.length : Int) > 0 := by rw [h0]; simp
      have g1 : IntKind.i64.wrap ((s.length : Int) - 1) = ((s.length - 1 : Nat) : Int) := by rw [wrap_id (by unfold I64; omega)]; omega
      have g2 : (E.map enV)[((s.length - 1 : Nat) : Int).toNat]? = some (enV q) := by rw [hs, h0]; simp
      have g3 : (0 : Int) ≤ ((s.length - 1 : Nat) : Int) := by omega
      have g4 : ¬ (e.1 ≤ q.1) := by omega
      have g5 : IntKind.i64.wrap (e.2 - q.2) = e.2 - q.2 := wrap_id (by unfold I64; omega)
      have g6 : ¬ (e.2 - q.2 < k) := by omega
      simp only [go_sem, h1, h2, h3, e1, g0, g1, g2, g3, g4, g5, g6, not_true_eq_false, not_false_eq_true, decide_true, decide_false, reduceCtorEq, ne_eq, Bool.false_eq_true, ↓reduceIte, Nat.reduceAdd, Nat.reduceEqDiff, Nat.reduceLT, Int.reduceLE, s_shl, s_shr, Bool.not_false, Bool.not_true, Bool.and_self, Bool.true_and, Bool.and_true, Bool.and_false, Bool.false_and, Bool.not_true, Bool.true_or, Bool.or_true, Nat.reduceSub, Nat.reduceLeDiff, Nat.reduceMul, Int.reduceToNat, Int.reduceLT, Int.reduceEq, Int.reduceNeg, and_self, and_true, true_and, and_false, false_and, or_true, true_or, or_false, false_or, Int.cast_ofNat_Int, Nat.reduceBEq, Nat.reduceBNe, beq_self_eq_true, List.take_zero, List.take_succ_cons, List.take_nil]
      exact hN
theorem order_spec (ns : List Int) (every a b : Int) (hns : ∀ x ∈ ns, I64 x) (hl : ns.length * 8 ≤ 140737488351232) (he : I64 every) (ha : I64 a) (hb : I64 b) :
    W n_law8_IndexOrder [.list 1 (ints .i64 ns) .ro, .int .i64 every, .int .i64 a, .int .i64 b] [] = some (.bool true, []) := by
  have hw := fun H => within_spec every 0 90 H (by decide) (by decide) (by decide)
  have hr := withinQ_range every 0 90 (by decide)
  generalize withinQ every 0 90 = n at hw hr
  have e1 : IntKind.i64.wrap (1 + n) = 1 + n := wrap_id (by unfold I64; omega)
  have hnew := fun H => new_spec 0 (1 + n) H
  have hok : newOK 0 (1 + n) = true := by unfold newOK; simp; omega
  rw [hok] at hnew
  simp only [if_true] at hnew
  obtain ⟨x, fl, at_, r1, r2, r3, r4, r5, r6, hN⟩ := order_loop0 ns a b (1 + n) (by omega) [] [] (min ns.length 40) ⟨0, 1 + n, []⟩ .full 0 (.inr ⟨rfl, rfl⟩) (IxInv.nil _ _ _ _) rfl rfl (Int.le_refl _) (Int.le_refl _) (by simp)
  simp only [List.map_nil, List.length_nil, show ((0 : Nat) : Int) = 0 from rfl] at hN
  have hE := entries_spec x fl r1 (by omega) (pt [] 0) (hx [] [x.B fl]) ⟨by rw [hx_get]; rfl⟩
  have hsrt := GapS.srt (by omega) (r4 ▸ r2.gap : GapS (1 + n) (ents x.l))
  have hel := ents_len x.l
  have hbI : ∀ e ∈ ents x.l, 0 ≤ e.2 ∧ e.2 ≤ 4611686018427387904 := by
    intro e he
    unfold ents at he
    obtain ⟨c, hc, rfl⟩ := List.mem_map.1 he
    have := r2.be c (List.mem_filter.1 hc).1
    simp only; omega
  have hN1 := order_loop1 _ _ ns (1 + n) (ents x.l) (by omega) hbI (r4 ▸ r2.gap) _ (hx [] [x.B fl]) a b rfl rfl (pt [] 0) rfl (ents x.l) [] rfl
  rw [show ((([] : List En).length : Nat) : Int) = 0 from rfl] at hN1
  have hf := fun off => find_spec x fl r1 (by omega) (pt [] 0) (hx [] [x.B fl]) ⟨by rw [hx_get]; rfl⟩ hsrt off
  have e2 : ((ents x.l).map enV).length = (ents x.l).length := by simp
  have e3 : (ints .i64 ns).length = ns.length := by simp
  have hz : (decide (((ns.length : Nat) : Int) = 0) == decide ((((ents x.l).length : Nat) : Int) = 0)) = true := by
    by_cases h : ns.length = 0
    · have : x.l.length = 0 := by omega
      have h2 : (ents x.l).length = 0 := by omega
      simp [h, h2]
    · have h1 : x.l ≠ [] := by intro hh; rw [hh] at r6; simp at r6; omega
      have h2 := List.length_pos_iff.2 (r2.ne h1)
      have h3 : ¬ (((ns.length : Nat) : Int) = 0) := by omega
      have h4 : ¬ ((((ents x.l).length : Nat) : Int) = 0) := by omega
      simp only [h3, h4, decide_false]; rfl
  have hp := and_6 a
  have hq := and_6 b
  refine W_fn rfl rfl ?_
  by_cases hpq : a % 64 > b % 64
  · simp only [go_sem, c_law8_IndexOrder, hw, e1, hnew, hN, hE, e2, e3, hN1, hp, hq, hpq, hz, known_spec, not_true_eq_false, not_false_eq_true, decide_true, decide_false, reduceCtorEq, ne_eq, Bool.false_eq_true, ↓reduceIte, Nat.reduceAdd, Nat.reduceEqDiff, Nat.reduceLT, Int.reduceLE, s_shl, s_shr, Bool.not_false, Bool.not_true, Bool.and_self, Bool.true_and, Bool.and_true, Bool.and_false, Bool.false_and, Bool.not_true, Bool.true_or, Bool.or_true, Nat.reduceSub, Nat.reduceLeDiff, Nat.reduceMul, Int.reduceToNat, Int.reduceLT, Int.reduceEq, Int.reduceNeg, and_self, and_true, true_and, and_false, false_and, or_true, true_or, or_false, false_or, Int.cast_ofNat_Int, Nat.reduceBEq, Nat.reduceBNe, beq_self_eq_true, List.take_zero, List.take_succ_cons, List.take_nil]
  · have hm := findP_mono (k := 1 + n) (by omega) (a % 64) (b % 64) (by omega) (ents x.l) 0 (r4 ▸ r2.gap) (fun e he => (hbI e he).1)
    simp only [go_sem, c_law8_IndexOrder, hw, e1, hnew, hN, hE, e2, e3, hN1, hp, hq, hpq, hf, hm, hz, known_spec, not_true_eq_false, not_false_eq_true, decide_true, decide_false, reduceCtorEq, ne_eq, Bool.false_eq_true, ↓reduceIte, Nat.reduceAdd, Nat.reduceEqDiff, Nat.reduceLT, Int.reduceLE, s_shl, s_shr, Bool.not_false, Bool.not_true, Bool.and_self, Bool.true_and, Bool.and_true, Bool.and_false, Bool.false_and, Bool.not_true, Bool.true_or, Bool.or_true, Nat.reduceSub, Nat.reduceLeDiff, Nat.reduceMul, Int.reduceToNat, Int.reduceLT, Int.reduceEq, Int.reduceNeg, and_self, and_true, true_and, and_false, false_and, or_true, true_or, or_false, false_or, Int.cast_ofNat_Int, Nat.reduceBEq, Nat.reduceBNe, beq_self_eq_true, List.take_zero, List.take_succ_cons, List.take_nil]
end Go.Abs

namespace Go.Abs
open Go Go.RowKit
set_option linter.unusedVariables false
set_option linter.unusedSimpArgs false

theorem snoc_split {α : Type} {l P Q : List α} {a b : α} (h : l ++ [b] = P ++ a :: Q) : (Q = [] ∧ l = P ∧ a = b) ∨ ∃ Q', Q = Q' ++ [b] ∧ l = P ++ a :: Q' := by
  rcases List.eq_nil_or_concat Q with h0 | ⟨Q', c, h0⟩
  · subst h0
    obtain ⟨h1, h2⟩ := List.append_inj' h (by simp)
    left; exact ⟨rfl, h1, by simpa using h2.symm⟩
  · rw [List.concat_eq_append] at h0
    subst h0
    rw [show P ++ a :: (Q' ++ [c]) = (P ++ a :: Q') ++ [c] by simp] at h
    obtain ⟨h1, h2⟩ := List.append_inj' h (by simp)
    right
    have : b = c := by simpa using h2
    subst this
    exact ⟨Q', rfl, h1⟩
def Cov (x : Ix) : Prop := ∀ P a Q, x.l = P ++ a :: Q → ∃ e, lastE (P ++ [a]) = some e ∧ a.at_ - e.at_ < x.every
def Sq (x : Ix) (c d : Int) : Prop := ∀ P a Q, x.l = P ++ a :: Q → a.off = c + d * (P.length : Nat)
theorem Cov.nil (b e : Int) : Cov ⟨b, e, []⟩ := fun P a Q h => by simp at h
theorem Sq.nil (b e c d : Int) : Sq ⟨b, e, []⟩ c d := fun P a Q h => by simp at h
theorem Cov.add {x : Ix} {ho he o a s : Int} (h : Cov x) (hi : IxInv x ho he) (h2 : he ≤ a) (h5 : a ≤ 4611686018427387904) (h1 : 1 ≤ x.every) (h3 : 0 ≤ a) : Cov (addI x o a s) := by
  intro P b Q hs
  rcases snoc_split hs with ⟨rfl, rfl, rfl⟩ | ⟨Q', rfl, hs'⟩
  · rw [lastE_snoc]
    cases hE : addE x a with
    | true => exact ⟨_, by simp [hE]; rfl, by show _ < x.every; omega⟩
    | false =>
      have hE' := hE
      unfold addE at hE
      split at hE
      · cases hE
      · rename_i e he'
        simp only [decide_eq_false_iff_not] at hE
        have := hi.be e (lastE_mem he')
        rw [wrap_id (by unfold I64; omega)] at hE
        exact ⟨e, by simp [hE', he'], by show _ < x.every; simp only; omega⟩
  · exact h P b Q' hs'
theorem Sq.add {x : Ix} {c d o a s : Int} (h : Sq x c d) (ho : o = c + d * (x.l.length : Nat)) : Sq (addI x o a s) c d := by
  intro P b Q hs
  rcases snoc_split hs with ⟨rfl, rfl, rfl⟩ | ⟨Q', rfl, hs'⟩
  · exact ho
  · exact h P b Q' hs'
theorem findP_le (off) : ∀ (A : List En) (a : Int), (∀ e ∈ A, e.1 ≤ off) → findP A off a = match A.getLast? with | none => a | some e => e.2
  | [], a, _ => rfl
  | e :: A, a, h => by
    rw [findP, if_pos (h e (by simp)), findP_le off A e.2 fun e' h' => h e' (List.mem_cons_of_mem _ h')]
    cases A with
    | nil => rfl
    | cons q A =>
      rw [List.getLast?_cons_cons]
      cases hq : (q :: A).getLast? with
      | none => simp at hq
      | some y => rfl
/-- Where the one at a place of the row is found. -/
theorem find_at {x : Ix} {c d : Int} (hq : Sq x c d) (hd : 0 < d) (hcov : Cov x) {P : List Ad} {a : Ad} {Q : List Ad} (h : x.l = P ++ a :: Q) : ∃ e, e ∈ P ++ [a] ∧ findP (ents x.l) a.off 0 = e.at_ ∧ a.at_ - e.at_ < x.every := by
  obtain ⟨e, h1, h2⟩ := hcov P a Q h
  refine ⟨e, lastE_mem h1, ?_, h2⟩
  have ha := hq P a Q h
  rw [h, show P ++ a :: Q = (P ++ [a]) ++ Q by simp, ents_app, findP_app]
  have hA : ∀ e ∈ ents (P ++ [a]), e.1 ≤ a.off := by
    intro e he
    unfold ents at he
    obtain ⟨b, hb, rfl⟩ := List.mem_map.1 he
    have hb := (List.mem_filter.1 hb).1
    rcases List.mem_append.1 hb with hb | hb
    · obtain ⟨P1, P2, rfl⟩ := List.append_of_mem hb
      have := hq P1 b (P2 ++ a :: Q) (by rw [h]; simp)
      simp only
      rw [this, ha]
      have : ((P1.length : Nat) : Int) ≤ ((P1 ++ b :: P2).length : Nat) := by simp; omega
      have := Int.mul_le_mul_of_nonneg_left this (Int.le_of_lt hd)
      omega
    · rw [List.mem_singleton] at hb; subst hb; exact Int.le_refl _
  have hB : ∀ e ∈ ents Q, a.off < e.1 := by
    intro e he
    unfold ents at he
    obtain ⟨b, hb, rfl⟩ := List.mem_map.1 he
    have hb := (List.mem_filter.1 hb).1
    obtain ⟨Q1, Q2, rfl⟩ := List.append_of_mem hb
    have := hq (P ++ a :: Q1) b Q2 (by rw [h]; simp)
    simp only
    rw [this, ha]
    have h3 : ((P.length : Nat) : Int) + 1 ≤ ((P ++ a :: Q1).length : Nat) := by simp; omega
    have h4 := Int.mul_le_mul_of_nonneg_left h3 (Int.le_of_lt hd)
    rw [Int.mul_add] at h4
    omega
  rw [findP_gt _ _ _ hB, findP_le _ _ _ hA, ← lastE_ents, h1]; rfl

theorem finds_loop0 (ns : List Int) (w k : Int) (hk : 1 ≤ k) (hns : ns.length < 100000000000000) (H M : Heap) (d : Nat) : ∀ (x : Ix) (fl fa : Fl) (at_ mo : Int), Flag x fl → (fa = .own ∨ (fa = .full ∧ x.l = [])) → IxInv x (x.l.length : Nat) at_ → Cov x → Sq x 0 1 → x.base = 0 → x.every = k → 0 ≤ at_ → at_ ≤ 61 * (x.l.length : Nat) → x.l.length + d = min ns.length 40 →
    ∃ x' fl' fa' at', Flag x' fl' ∧ (fa' = .own ∨ (fa' = .full ∧ x'.l = [])) ∧ IxInv x' (x'.l.length : Nat) at' ∧ Cov x' ∧ Sq x' 0 1 ∧ x'.base = 0 ∧ x'.every = k ∧ at' ≤ 2440 ∧ x'.l.length = min ns.length 40 ∧
    loopA W loopW (.ghost (.kill k_law8_IndexFinds_0) l_law8_IndexFinds_0) [(0, .list 1 (ints .i64 ns) .ro), (2, .int .i64 w), (7, .int .i64 k), (8, .ptr (pt H 0) 0), (9, .list 1 (ints .i64 (x.l.map (·.at_))) fa), (10, .int .i64 at_), (11, .int .i64 mo), (12, .int .i64 (x.l.length : Nat))] (hx H (x.B fl :: M)) =
      some (.exit 0, [(2, .int .i64 w), (7, .int .i64 k), (8, .ptr (pt H 0) 0), (9, .list 1 (ints .i64 (x'.l.map (·.at_))) fa')], hx H (x'.B fl' :: M)) := by
  have e0 : (ints .i64 ns).length = ns.length := by simp
  induction d with
  | zero =>
    intro x fl fa at_ mo hfl hfa hi hcv hsq hb hk' h0 h1 hd
    refine ⟨x, fl, fa, at_, hfl, hfa, hi, hcv, hsq, hb, hk', by omega, by omega, loop_step l_law8_IndexFinds_0.eq_1 k_law8_IndexFinds_0.eq_1 (by kernel_rfl) ?_⟩
    by_cases c1 : ((x.l.length : Nat) : Int) < ((ns.length : Nat) : Int)
    · have c2 : ¬ (((x.l.length : Nat) : Int) < 40) := by omega
      rcases hfa with rfl | ⟨rfl, _⟩ <;> simp only [go_sem, e0, c1, c2, not_true_eq_false, not_false_eq_true, decide_true, decide_false, reduceCtorEq, ne_eq, Bool.false_eq_true, ↓reduceIte, Nat.reduceAdd, Nat.reduceEqDiff, Nat.reduceLT, Int.reduceLE, s_shl, s_shr, Bool.not_false, Bool.not_true, Bool.and_self, Bool.true_and, Bool.and_true, Bool.and_false, Bool.false_and, Bool.not_true, Bool.true_or, Bool.or_true, Nat.reduceSub, Nat.reduceLeDiff, Nat.reduceMul, Int.reduceToNat, Int.reduceLT, Int.reduceEq, Int.reduceNeg, and_self, and_true, true_and, and_false, false_and, or_true, true_or, or_false, false_or, Int.cast_ofNat_Int, Nat.reduceBEq, Nat.reduceBNe, beq_self_eq_true, List.take_zero, List.take_succ_cons, List.take_nil]
    · rcases hfa with rfl | ⟨rfl, _⟩ <;> simp only [go_sem, e0, c1, not_true_eq_false, not_false_eq_true, decide_true, decide_false, reduceCtorEq, ne_eq, Bool.false_eq_true, ↓reduceIte, Nat.reduceAdd, Nat.reduceEqDiff, Nat.reduceLT, Int.reduceLE, s_shl, s_shr, Bool.not_false, Bool.not_true, Bool.and_self, Bool.true_and, Bool.and_true, Bool.and_false, Bool.false_and, Bool.not_true, Bool.true_or, Bool.or_true, Nat.reduceSub, Nat.reduceLeDiff, Nat.reduceMul, Int.reduceToNat, Int.reduceLT, Int.reduceEq, Int.reduceNeg, and_self, and_true, true_and, and_false, false_and, or_true, true_or, or_false, false_or, Int.cast_ofNat_Int, Nat.reduceBEq, Nat.reduceBNe, beq_self_eq_true, List.take_zero, List.take_succ_cons, List.take_nil]
  | succ d ih =>
    intro x fl fa at_ mo hfl hfa hi hcv hsq hb hk' h0 h1 hd
    have c1 : ((x.l.length : Nat) : Int) < ((ns.length : Nat) : Int) := by omega
    have c2 : ((x.l.length : Nat) : Int) < 40 := by omega
    have c3 : (0 : Int) ≤ ((x.l.length : Nat) : Int) := by omega
    have h4 := ints_get (k := .i64) (l := ns) (i := x.l.length) (by omega)
    generalize ns[x.l.length]'(by omega) = c at h4
    have hw := fun H => within_spec c 0 60 H (by decide) (by decide) (by decide)
    have hr := withinQ_range c 0 60 (by decide)
    generalize withinQ c 0 60 = n at hw hr
    have e1 : IntKind.i64.wrap (1 + n) = 1 + n := wrap_id (by unfold I64; omega)
    have e2 : IntKind.i64.wrap (at_ + (1 + n)) = at_ + (1 + n) := wrap_id (by unfold I64; omega)
    obtain ⟨g1, g2⟩ := hi.add (o := (x.l.length : Nat)) (a := at_) (s := 1 + n) (Int.le_refl _) (Int.le_refl _) h0 (by omega) (by omega) (by rw [hb]; omega)
    have hadd := add_true x fl hfl (by omega) (pt H 0) (hx H (x.B fl :: M)) ⟨by rw [hx_get]; rfl⟩ (x.l.length : Nat) at_ (1 + n) g1
    rw [hx_set, List.set_cons_zero] at hadd
    have hl' : (addI x (x.l.length : Nat) at_ (1 + n)).l.length = x.l.length + 1 := by simp [addI]
    have e3 : IntKind.i64.wrap (((x.l.length : Nat) : Int) + 1) = ((addI x (x.l.length : Nat) at_ (1 + n)).l.length : Nat) := by rw [hl', wrap_id (by unfold I64; omega)]; omega
    have a1 : ints .i64 (x.l.map (·.at_)) ++ [.int .i64 at_] = ints .i64 ((addI x (x.l.length : Nat) at_ (1 + n)).l.map (·.at_)) := by simp [addI]
    have a2 : ((ints .i64 (x.l.map (·.at_))).length + 1) * 8 ≤ maxBytes := by simp [maxBytes]; omega
    obtain ⟨x', fl', fa', at', r1, r2, r3, r4, r5, r6, r7, r8, r9, hN⟩ := ih (addI x (x.l.length : Nat) at_ (1 + n)) .own .own (at_ + (1 + n)) (mx mo (1 + n)) (.inl rfl) (.inl rfl) (by rw [hl']; simpa using g2) (hcv.add hi (Int.le_refl _) (by omega) (by omega) h0) (hsq.add (by omega)) hb hk' (by omega) (by rw [hl']; omega) (by rw [hl']; omega)
    refine ⟨x', fl', fa', at', r1, r2, r3, r4, r5, r6, r7, r8, r9, loop_step l_law8_IndexFinds_0.eq_1 k_law8_IndexFinds_0.eq_1 (by kernel_rfl) ?_⟩
    rcases hfa with rfl | ⟨rfl, _⟩ <;> (simp only [go_sem, e0, c1, c2, c3, h4, hw, e1, e2, e3, hadd, a1, a2, apO, apF, not_true_eq_false, not_false_eq_true, decide_true, decide_false, reduceCtorEq, ne_eq, Bool.false_eq_true, ↓reduceIte, Nat.reduceAdd, Nat.reduceEqDiff, Nat.reduceLT, Int.reduceLE, s_shl, s_shr, Bool.not_false, Bool.not_true, Bool.and_self, Bool.true_and, Bool.and_true, Bool.and_false, Bool.false_and, Bool.not_true, Bool.true_or, Bool.or_true, Nat.reduceSub, Nat.reduceLeDiff, Nat.reduceMul, Int.reduceToNat, Int.reduceLT, Int.reduceEq, Int.reduceNeg, and_self, and_true, true_and, and_false, false_and, or_true, true_or, or_false, false_or, Int.cast_ofNat_Int, Nat.reduceBEq, Nat.reduceBNe, beq_self_eq_true, List.take_zero, List.take_succ_cons, List.take_nil]; exact hN)
theorem finds_loop1 (k i f : Int) (i0 : Nat) (L : List Int) (hL : L.length < 1000000) (I : Nat) (hI : I < L.length) (H : Heap) (d : Nat) : ∀ (j : Nat) (b : Bool), j + d = I + 1 → 
    loopA W loopW (.ghost (.kill k_law8_IndexFinds_1) l_law8_IndexFinds_1) [(7, .int .i64 k), (8, .ptr i0 0), (9, .list 1 (ints .i64 L) .own), (14, .int .i64 (I : Nat)), (15, .int .i64 f), (16, .bool b), (17, .int .i64 (j : Nat))] H =
      some (.exit 2, [(7, .int .i64 k), (8, .ptr i0 0), (9, .list 1 (ints .i64 L) .own), (14, .int .i64 (I : Nat)), (15, .int .i64 f), (16, .bool (b || ((L.take (I + 1)).drop j).any (fun v => decide (v = f))))], H) := by
  induction d with
  | zero =>
    intro j b hj
    have c1 : ¬ (((j : Nat) : Int) ≤ ((I : Nat) : Int)) := by omega
    have e : (L.take (I + 1)).drop j = [] := List.drop_eq_nil_of_le (by rw [List.length_take]; omega)
    rw [e, List.any_nil, Bool.or_false]
    refine loop_step l_law8_IndexFinds_1.eq_1 k_law8_IndexFinds_1.eq_1 (by kernel_rfl) ?_
    simp only [go_sem, c1, not_true_eq_false, not_false_eq_true, decide_true, decide_false, reduceCtorEq, ne_eq, Bool.false_eq_true, ↓reduceIte, Nat.reduceAdd, Nat.reduceEqDiff, Nat.reduceLT, Int.reduceLE, s_shl, s_shr, Bool.not_false, Bool.not_true, Bool.and_self, Bool.true_and, Bool.and_true, Bool.and_false, Bool.false_and, Bool.not_true, Bool.true_or, Bool.or_true, Nat.reduceSub, Nat.reduceLeDiff, Nat.reduceMul, Int.reduceToNat, Int.reduceLT, Int.reduceEq, Int.reduceNeg, and_self, and_true, true_and, and_false, false_and, or_true, true_or, or_false, false_or, Int.cast_ofNat_Int, Nat.reduceBEq, Nat.reduceBNe, beq_self_eq_true, List.take_zero, List.take_succ_cons, List.take_nil]
  | succ d ih =>
    intro j b hj
    have c1 : ((j : Nat) : Int) ≤ ((I : Nat) : Int) := by omega
    have c2 : (0 : Int) ≤ ((j : Nat) : Int) := by omega
    have hj2 : j < (L.take (I + 1)).length := by rw [List.length_take]; omega
    have e : (L.take (I + 1)).drop j = L[j] :: (L.take (I + 1)).drop (j + 1) := by
      rw [List.drop_eq_getElem_cons hj2]; simp
    have h4 := ints_get (k := .i64) (l := L) (i := j) (by omega)
    have e1 : IntKind.i64.wrap (((j : Nat) : Int) + 1) = ((j + 1 : Nat) : Int) := by rw [wrap_id (by unfold I64; omega)]; omega
    rw [e, List.any_cons]
    generalize L[j]'(by omega) = v at h4
    cases b with
    | true =>
      have hN := ih (j + 1) true (by omega)
      rw [Bool.true_or] at hN ⊢
      refine loop_step l_law8_IndexFinds_1.eq_1 k_law8_IndexFinds_1.eq_1 (by kernel_rfl) ?_
      simp only [go_sem, c1, c2, e1, not_true_eq_false, not_false_eq_true, decide_true, decide_false, reduceCtorEq, ne_eq, Bool.false_eq_true, ↓reduceIte, Nat.reduceAdd, Nat.reduceEqDiff, Nat.reduceLT, Int.reduceLE, s_shl, s_shr, Bool.not_false, Bool.not_true, Bool.and_self, Bool.true_and, Bool.and_true, Bool.and_false, Bool.false_and, Bool.not_true, Bool.true_or, Bool.or_true, Nat.reduceSub, Nat.reduceLeDiff, Nat.reduceMul, Int.reduceToNat, Int.reduceLT, Int.reduceEq, Int.reduceNeg, and_self, and_true, true_and, and_false, false_and, or_true, true_or, or_false, false_or, Int.cast_ofNat_Int, Nat.reduceBEq, Nat.reduceBNe, beq_self_eq_true, List.take_zero, List.take_succ_cons, List.take_nil]
      exact hN
    | false =>
      have hN := ih (j + 1) (decide (v = f)) (by omega)
      rw [Bool.false_or]
      refine loop_step l_law8_IndexFinds_1.eq_1 k_law8_IndexFinds_1.eq_1 (by kernel_rfl) ?_
      simp only [go_sem, c1, c2, h4, e1, not_true_eq_false, not_false_eq_true, decide_true, decide_false, reduceCtorEq, ne_eq, Bool.false_eq_true, ↓reduceIte, Nat.reduceAdd, Nat.reduceEqDiff, Nat.reduceLT, Int.reduceLE, s_shl, s_shr, Bool.not_false, Bool.not_true, Bool.and_self, Bool.true_and, Bool.and_true, Bool.and_false, Bool.false_and, Bool.not_true, Bool.true_or, Bool.or_true, Nat.reduceSub, Nat.reduceLeDiff, Nat.reduceMul, Int.reduceToNat, Int.reduceLT, Int.reduceEq, Int.reduceNeg, and_self, and_true, true_and, and_false, false_and, or_true, true_or, or_false, false_or, Int.cast_ofNat_Int, Nat.reduceBEq, Nat.reduceBNe, beq_self_eq_true, List.take_zero, List.take_succ_cons, List.take_nil]
      exact hN
end Go.Abs

namespace Go.Abs
open Go Go.RowKit
set_option linter.unusedVariables false
set_option linter.unusedSimpArgs false

theorem finds_spec (ns : List Int) (every w : Int) (hns : ∀ x ∈ ns, I64 x) (hl : ns.length * 8 ≤ 140737488351232) (he : I64 every) (hw' : I64 w) :
    W n_law8_IndexFinds [.list 1 (ints .i64 ns) .ro, .int .i64 every, .int .i64 w] [] = some (.bool true, []) := by
  have hw := fun H => within_spec every 0 100 H (by decide) (by decide) (by decide)
  have hr := withinQ_range every 0 100 (by decide)
  generalize withinQ every 0 100 = n at hw hr
  have e1 : IntKind.i64.wrap (1 + n) = 1 + n := wrap_id (by unfold I64; omega)
  have hnew := fun H => new_spec 0 (1 + n) H
  have hok : newOK 0 (1 + n) = true := by unfold newOK; simp; omega
  rw [hok] at hnew
  simp only [if_true] at hnew
  obtain ⟨x, fl, fa, at_, r1, rf, r2, rc, rs, r3, r4, r5, r6, hN⟩ := finds_loop0 ns w (1 + n) (by omega) (by omega) [] [] (min ns.length 40) ⟨0, 1 + n, []⟩ .full .full 0 0 (.inr ⟨rfl, rfl⟩) (.inr ⟨rfl, rfl⟩) (IxInv.nil _ _ _ _) (Cov.nil _ _) (Sq.nil _ _ _ _) rfl rfl (Int.le_refl _) (Int.le_refl _) (by simp)
  simp only [List.map_nil, List.length_nil, show ((0 : Nat) : Int) = 0 from rfl] at hN
  have hsrt := GapS.srt (by omega) (r4 ▸ r2.gap : GapS (1 + n) (ents x.l))
  have hf := fun off => find_spec x fl r1 (by omega) (pt [] 0) (hx [] [x.B fl]) ⟨by rw [hx_get]; rfl⟩ hsrt off
  have hel := ents_len x.l
  have e2 : ((ents x.l).map enV).length = (ents x.l).length := by simp
  have e3 : (ints .i64 (x.l.map (·.at_))).length = x.l.length := by simp
  by_cases h0 : x.l = []
  · have hz : ((x.l.length : Nat) : Int) = 0 := by rw [h0]; rfl
    have hf5 := hf 5
    rw [h0, show ents [] = [] from rfl] at hf5
    simp only [findP] at hf5
    refine W_fn rfl rfl ?_
    rcases rf with rfl | ⟨rfl, _⟩ <;> simp only [go_sem, c_law8_IndexFinds, hw, e1, hnew, hN, e3, eq_true hz, hf5, known_spec, not_true_eq_false, not_false_eq_true, decide_true, decide_false, reduceCtorEq, ne_eq, Bool.false_eq_true, ↓reduceIte, Nat.reduceAdd, Nat.reduceEqDiff, Nat.reduceLT, Int.reduceLE, s_shl, s_shr, Bool.not_false, Bool.not_true, Bool.and_self, Bool.true_and, Bool.and_true, Bool.and_false, Bool.false_and, Bool.not_true, Bool.true_or, Bool.or_true, Nat.reduceSub, Nat.reduceLeDiff, Nat.reduceMul, Int.reduceToNat, Int.reduceLT, Int.reduceEq, Int.reduceNeg, and_self, and_true, true_and, and_false, false_and, or_true, true_or, or_false, false_or, Int.cast_ofNat_Int, Nat.reduceBEq, Nat.reduceBNe, beq_self_eq_true, List.take_zero, List.take_succ_cons, List.take_nil]
  · have hfa : fa = .own := by rcases rf with h | ⟨_, h⟩; exact h; exact absurd h h0
    subst hfa
    have hlp := List.length_pos_iff.2 h0
    have hz : ¬ (((x.l.length : Nat) : Int) = 0) := by omega
    have g1 : IntKind.i64.wrap ((x.l.length : Int) - 1) = (x.l.length : Int) - 1 := wrap_id (by unfold I64; omega)
    have hw2 := fun H => within_spec w 0 ((x.l.length : Int) - 1) H (by omega) (by decide) (by omega)
    have hr2 := withinQ_range w 0 ((x.l.length : Int) - 1) (by omega)
    obtain ⟨I, hI⟩ : ∃ I : Nat, (I : Int) = withinQ w 0 ((x.l.length : Int) - 1) := ⟨(withinQ w 0 ((x.l.length : Int) - 1)).toNat, by omega⟩
    rw [← hI] at hw2
    have hIl : I < x.l.length := by omega
    have hsplit : x.l = x.l.take I ++ x.l[I] :: x.l.drop (I + 1) := by
      rw [← List.drop_eq_getElem_cons hIl, List.take_append_drop]
    obtain ⟨e, q1, q2, q3⟩ := find_at rs (by decide) rc hsplit
    have hoff : (x.l[I]).off = (I : Nat) := by
      have := rs _ _ _ hsplit
      rw [List.length_take] at this
      omega
    rw [hoff] at q2
    have hfI := hf (I : Nat)
    rw [q2] at hfI
    have bA := r2.be _ (List.getElem_mem hIl)
    have hmem : e ∈ x.l := by rw [hsplit]; rcases List.mem_append.1 q1 with h | h; exact List.mem_append_left _ h; exact List.mem_append_right _ (by rw [List.mem_singleton] at h; rw [h]; exact List.mem_cons_self ..)
    have bE := r2.be e hmem
    have hL1 := finds_loop1 (1 + n) 0 e.at_ (pt [] 0) (x.l.map (·.at_)) (by simp; omega) I (by simp; exact hIl) (hx [] [x.B fl]) (I + 1) 0 false (by omega)
    have hany : (((x.l.map (·.at_)).take (I + 1)).drop 0).any (fun v => decide (v = e.at_)) = true := by
      rw [List.drop_zero, List.any_eq_true]
      refine ⟨e.at_, ?_, by simp⟩
      rw [← List.map_take]
      refine List.mem_map.2 ⟨e, ?_, rfl⟩
      rw [List.take_succ_eq_append_getElem hIl]; exact q1
    rw [hany, show ((0 : Nat) : Int) = 0 from rfl] at hL1
    simp only [Bool.or_true] at hL1
    have h4 := ints_get (k := .i64) (l := x.l.map (·.at_)) (i := I) (by simp; exact hIl)
    rw [List.getElem_map] at h4
    have h5 : (0 : Int) ≤ ((I : Nat) : Int) := by omega
    have g2 : IntKind.i64.wrap ((x.l[I]).at_ - e.at_) = (x.l[I]).at_ - e.at_ := wrap_id (by unfold I64; omega)
    have g3 : (x.l[I]).at_ - e.at_ < 1 + n := by rw [r4] at q3; exact q3
    have hE := entries_spec x fl r1 (by omega) (pt [] 0) (hx [] [x.B fl]) ⟨by rw [hx_get]; rfl⟩
    have hB := bytes_spec x fl r1 (by omega) (r2.I64 (by omega)) (pt [] 0) (hx [] [x.B fl]) ⟨by rw [hx_get]; rfl⟩
    have hbl : (ints .u8 (idxB x.base (ents x.l))).length = 16 * (ents x.l).length := by rw [List.length_map, idxB_len]
    have g4 : IntKind.i64.wrap (16 * ((ents x.l).length : Int)) = ((16 * (ents x.l).length : Nat) : Int) := by rw [wrap_id (by unfold I64; omega)]; omega
    generalize (x.l[I]).at_ = A at h4 g2 g3
    refine W_fn rfl rfl ?_
    simp only [go_sem, c_law8_IndexFinds, hw, e1, hnew, hN, e3, hz, g1, hw2, hfI, hL1, h4, h5, g2, g3, hE, hB, hbl, e2, g4, known_spec, not_true_eq_false, not_false_eq_true, decide_true, decide_false, reduceCtorEq, ne_eq, Bool.false_eq_true, ↓reduceIte, Nat.reduceAdd, Nat.reduceEqDiff, Nat.reduceLT, Int.reduceLE, s_shl, s_shr, Bool.not_false, Bool.not_true, Bool.and_self, Bool.true_and, Bool.and_true, Bool.and_false, Bool.false_and, Bool.not_true, Bool.true_or, Bool.or_true, Nat.reduceSub, Nat.reduceLeDiff, Nat.reduceMul, Int.reduceToNat, Int.reduceLT, Int.reduceEq, Int.reduceNeg, and_self, and_true, true_and, and_false, false_and, or_true, true_or, or_false, false_or, Int.cast_ofNat_Int, Nat.reduceBEq, Nat.reduceBNe, beq_self_eq_true, List.take_zero, List.take_succ_cons, List.take_nil]
end Go.Abs

namespace Go.Abs
open Go Go.RowKit
set_option linter.unusedVariables false
set_option linter.unusedSimpArgs false

theorem or_comm64 (a b : Int) : bits .or .u64 a b = bits .or .u64 b a := by
  show IntKind.u64.wrap _ = IntKind.u64.wrap _
  rw [BitVec.or_comm]
theorem bk_step (x c : Int) (h0 : 0 ≤ x) (h1 : x < 72057594037927936) (c0 : 0 ≤ c) (c1 : c < 256) : bits .or .u64 (shl .u64 x 8) (IntKind.u64.wrap c) = x * 256 + c := by
  have e1 : shl .u64 x 8 = x * 256 := by
    unfold shl
    rw [Num.wu64]
    have : (2 : Int) ^ (min (8 : Int).toNat IntKind.u64.bits) = 256 := by decide
    rw [this]; omega
  have e2 : IntKind.u64.wrap c = c := by rw [Num.wu64]; omega
  rw [e1, e2, or_comm64, Num.or_u64 8 c (x * 256) c0 (by show c < 256; omega) (by omega) (by show x * 256 % 256 = 0; omega) (by omega) (by omega)]
  omega
theorem bk_bes (n : Int) : ∀ (d i : Nat), i + d = 8 → bk (bes n i) ((n / 2 ^ (8 * d)) % 2 ^ (8 * i)) = n % 18446744073709551616 := by
  intro d
  induction d with
  | zero =>
    intro i hi
    have : i = 8 := by omega
    subst this
    have : bes n 8 = [] := by simp [bes]
    rw [this, bk]
    simp
  | succ d ih =>
    intro i hi
    have hb : bes n i = be n i :: bes n (i + 1) := by
      unfold bes
      rw [List.drop_eq_getElem_cons (by simp; omega)]
      simp
    have hbe : be n i = (n / 2 ^ (8 * d)) % 256 := by unfold be; rw [show 7 - i = d by omega]
    have hp : (2 : Int) ^ (8 * (d + 1)) = 2 ^ (8 * d) * 256 := by rw [show 8 * (d + 1) = 8 * d + 8 by omega, Int.pow_add]; rfl
    have hp2 : (2 : Int) ^ (8 * (i + 1)) = 2 ^ (8 * i) * 256 := by rw [show 8 * (i + 1) = 8 * i + 8 by omega, Int.pow_add]; rfl
    have hpos : (0 : Int) < 2 ^ (8 * d) := Int.pow_pos (by decide)
    have hposi : (0 : Int) < 2 ^ (8 * i) := Int.pow_pos (by decide)
    have hle : (2 : Int) ^ (8 * i) ≤ 72057594037927936 := by
      have : (2 : Int) ^ (8 * i) ≤ 2 ^ 56 := by
        have h := Nat.pow_le_pow_right (n := 2) (by decide) (show 8 * i ≤ 56 by omega)
        have h2 : ((2 ^ (8 * i) : Nat) : Int) ≤ ((2 ^ 56 : Nat) : Int) := by omega
        simpa using h2
      exact this
    have hx0 := Int.emod_nonneg (n / 2 ^ (8 * (d + 1))) (by omega : (2 : Int) ^ (8 * i) ≠ 0)
    have hx1 := Int.emod_lt_of_pos (n / 2 ^ (8 * (d + 1))) hposi
    rw [hb, bk, hbe, bk_step _ _ hx0 (by omega) (by omega) (by omega)]
    have key : n / 2 ^ (8 * (d + 1)) % 2 ^ (8 * i) * 256 + n / 2 ^ (8 * d) % 256 = n / 2 ^ (8 * d) % 2 ^ (8 * (i + 1)) := by
      rw [hp, ← Int.ediv_ediv_of_nonneg (Int.le_of_lt hpos), hp2]
      generalize n / 2 ^ (8 * d) = m
      generalize (2 : Int) ^ (8 * i) = P at hposi
      have a1 : m = (m / 256 % P * 256 + m % 256) + P * 256 * (m / 256 / P) := by
        have b1 := Int.emod_add_mul_ediv m 256
        have b2 := Int.emod_add_mul_ediv (m / 256) P
        have b3 : P * 256 * (m / 256 / P) = (P * (m / 256 / P)) * 256 := by rw [Int.mul_assoc, Int.mul_comm 256, ← Int.mul_assoc]
        rw [b3]; omega
      have c1 := Int.emod_nonneg (m / 256) (by omega : P ≠ 0)
      have c2 := Int.emod_lt_of_pos (m / 256) hposi
      have a2 : m % (P * 256) = (m / 256 % P * 256 + m % 256) % (P * 256) := by
        conv => lhs; rw [a1]
        rw [Int.add_mul_emod_self_left]
      rw [a2, Int.emod_eq_of_lt (a := m / 256 % P * 256 + m % 256) (by omega) (by omega)]
    rw [key]
    exact ih (i + 1) (by omega)
theorem bk_bes0 (n : Int) (hn : I64 n) : IntKind.i64.wrap (bk (bes n 0) 0) = n := by
  have h := bk_bes n 8 0 rfl
  have e : n / 2 ^ (8 * 8) % 2 ^ (8 * 0) = 0 := by show n / 18446744073709551616 % 1 = 0; omega
  rw [e] at h
  rw [h, IntKind.wrap_i64]
  unfold I64 at hn
  omega
theorem backV_bes (n : Int) (hn : I64 n) (r : List Int) : backV (bes n 0 ++ r) = .tuple [.int .i64 n, .bool true] := by
  unfold backV
  have hl := bes_len n
  rw [if_neg (by rw [List.length_append]; omega), List.take_append_of_le_length (by omega), List.take_of_length_le (by omega), bk_bes0 n hn]
end Go.Abs

namespace Go.Abs
open Go Go.RowKit
set_option linter.unusedVariables false
set_option linter.unusedSimpArgs false

def rdAd (e : En) : Ad := ⟨e.1, e.2, e.2 + 1, true⟩
theorem ents_rd : ∀ E : List En, ents (E.map rdAd) = E
  | [] => rfl
  | e :: E => by rw [List.map_cons, ents_cons, ents_rd E]; rfl
def rdX (b k : Int) (E : List En) : Ix := ⟨b, k, E.map rdAd⟩
def rdF (E : List En) : Fl := if E = [] then .full else .own
theorem rd_flag (b k E) : Flag (rdX b k E) (rdF E) := by
  unfold rdF
  by_cases h : E = []
  · rw [if_pos h]; right; exact ⟨rfl, by rw [h]; rfl⟩
  · rw [if_neg h]; left; rfl
theorem idxB_cons (b : Int) (e : En) (r : List En) (h1 : b ≤ e.1) (h2 : 0 ≤ b) (h3 : e.1 ≤ 9223372036854775807) : idxB b (e :: r) = bes (e.1 - b) 0 ++ (bes e.2 0 ++ idxB b r) := by
  rw [idxB, wrap_id (by unfold I64; omega), List.append_assoc]
theorem read_loop (b k : Int) (hk : 1 ≤ k) (hb : 0 ≤ b) (E : List En) (hE : E.length < 1000000) (hg : GapS k E) (hI : ∀ e ∈ E, b ≤ e.1 ∧ e.1 ≤ 9223372036854775807 ∧ 0 ≤ e.2 ∧ e.2 ≤ 4611686018427387904) (H : Heap) : ∀ (r s : List En), E = s ++ r →
    loopA W loopW (.ghost (.kill k_index_Read_0) l_index_Read_0) [(0, .int .i64 b), (2, bytes (idxB b r) .ro), (8, .ptr (pt H 0) 0)] (hx H [(rdX b k s).B (rdF s)]) = some (.exit 0, [(8, .ptr (pt H 0) 0)], hx H [(rdX b k E).B (rdF E)]) := by
  intro r
  induction r with
  | nil =>
    intro s hs
    rw [List.append_nil] at hs
    subst hs
    have h0 : (ints .u8 (idxB b [])).length = 0 := rfl
    refine loop_step l_index_Read_0.eq_1 k_index_Read_0.eq_1 (by kernel_rfl) ?_
    simp only [go_sem, h0, gt_iff_lt, Int.lt_irrefl, not_true_eq_false, not_false_eq_true, decide_true, decide_false, reduceCtorEq, ne_eq, Bool.false_eq_true, ↓reduceIte, Nat.reduceAdd, Nat.reduceEqDiff, Nat.reduceLT, Int.reduceLE, s_shl, s_shr, Bool.not_false, Bool.not_true, Bool.and_self, Bool.true_and, Bool.and_true, Bool.and_false, Bool.false_and, Bool.not_true, Bool.true_or, Bool.or_true, Nat.reduceSub, Nat.reduceLeDiff, Nat.reduceMul, Int.reduceToNat, Int.reduceLT, Int.reduceEq, Int.reduceNeg, and_self, and_true, true_and, and_false, false_and, or_true, true_or, or_false, false_or, Int.cast_ofNat_Int, Nat.reduceBEq, Nat.reduceBNe, beq_self_eq_true, List.take_zero, List.take_succ_cons, List.take_nil]
  | cons e r ih =>
    intro s hs
    have hlen : E.length = s.length + (r.length + 1) := by rw [hs, List.length_append, List.length_cons]
    have he := hI e (by rw [hs]; simp)
    have hc := idxB_cons b e r he.1 hb he.2.1
    have hl := idxB_len b (e :: r)
    rw [List.length_cons] at hl
    have h0 : (ints .u8 (idxB b (e :: r))).length = 16 * (r.length + 1) := by rw [List.length_map, hl]
    have h1 : ((16 * (r.length + 1) : Nat) : Int) > 0 := by omega
    have h8 : (8 : Int) ≤ ((16 * (r.length + 1) : Nat) : Int) := by omega
    have h16 : (16 : Int) ≤ ((16 * (r.length + 1) : Nat) : Int) := by omega
    have d1 : (ints .u8 (idxB b (e :: r))).drop 8 = ints .u8 (bes e.2 0 ++ idxB b r) := by
      rw [← List.map_drop, hc, List.drop_append_of_le_length (by rw [bes_len]; omega), List.drop_of_length_le (by rw [bes_len]; omega), List.nil_append]
    have d2 : (ints .u8 (idxB b (e :: r))).drop 16 = ints .u8 (idxB b r) := by
      rw [show 16 = 8 + 8 from rfl, ← List.drop_drop, d1, ← List.map_drop, List.drop_append_of_le_length (by rw [bes_len]; omega), List.drop_of_length_le (by rw [bes_len]; omega), List.nil_append]
    have q1 : ∀ H, W n_varint_Back [bytes (idxB b (e :: r)) .ro] H = some (.tuple [.int .i64 (e.1 - b), .bool true], H) := by
      intro H; rw [back_spec, hc, backV_bes _ (by unfold I64; omega)]
    have q2 : ∀ H, W n_varint_Back [bytes (bes e.2 0 ++ idxB b r) .ro] H = some (.tuple [.int .i64 e.2, .bool true], H) := by
      intro H; rw [back_spec, backV_bes _ (by unfold I64; omega)]
    have c1 : ¬ (e.1 - b < 0) := by omega
    have w1 : IntKind.i64.wrap (b + (e.1 - b)) = e.1 := by rw [wrap_id (by unfold I64; omega)]; omega
    have c2 : ¬ (e.1 < b) := by omega
    have c3 : ¬ (e.2 < 0) := by omega
    have w2 : IntKind.i64.wrap (e.2 + 1) = e.2 + 1 := wrap_id (by unfold I64; omega)
    have a1 : (rdX b k s).l.map Ad.v ++ [AVal.agg [.int .i64 e.1, .int .i64 e.2, .int .i64 (e.2 + 1), .bool true]] = (rdX b k (s ++ [e])).l.map Ad.v := by simp [rdX, rdAd]
    have a2 : (((rdX b k s).l.map Ad.v).length + 1) * 32 ≤ maxBytes := by simp [maxBytes, rdX]; omega
    have a3 : ((rdX b k (s ++ [e])).l.map Ad.v).length = s.length + 1 := by simp [rdX]
    have hN := ih (s ++ [e]) (by rw [hs]; simp)
    have hF : rdF (s ++ [e]) = .own := by unfold rdF; rw [if_neg (by simp)]
    rw [hF] at hN
    refine loop_step l_index_Read_0.eq_1 k_index_Read_0.eq_1 (by kernel_rfl) ?_
    rcases List.eq_nil_or_concat s with hs0 | ⟨s', q, hs0⟩
    · have g0 : ¬ (((s.length + 1 : Nat) : Int) > 1) := by rw [hs0]; simp
      have hf : rdF s = .full := by unfold rdF; rw [if_pos hs0]
      rw [hf]
      simp only [go_sem, h0, h1, h8, h16, d1, d2, q1, q2, c1, c2, c3, w1, w2, a1, a2, a3, g0, slL, apF, not_true_eq_false, not_false_eq_true, decide_true, decide_false, reduceCtorEq, ne_eq, Bool.false_eq_true, ↓reduceIte, Nat.reduceAdd, Nat.reduceEqDiff, Nat.reduceLT, Int.reduceLE, s_shl, s_shr, Bool.not_false, Bool.not_true, Bool.and_self, Bool.true_and, Bool.and_true, Bool.and_false, Bool.false_and, Bool.not_true, Bool.true_or, Bool.or_true, Nat.reduceSub, Nat.reduceLeDiff, Nat.reduceMul, Int.reduceToNat, Int.reduceLT, Int.reduceEq, Int.reduceNeg, and_self, and_true, true_and, and_false, false_and, or_true, true_or, or_false, false_or, Int.cast_ofNat_Int, Nat.reduceBEq, Nat.reduceBNe, beq_self_eq_true, List.take_zero, List.take_succ_cons, List.take_nil]
      exact hN
    · rw [List.concat_eq_append] at hs0
      have hf : rdF s = .own := by unfold rdF; rw [hs0, if_neg (by simp)]
      have hgq : q.1 < e.1 ∧ e.2 - q.2 ≥ k := by
        have : GapS k (s' ++ q :: e :: r) := by rw [hs, hs0] at hg; simpa using hg
        clear hs0 hf hN a1 a2 a3 hs hlen
        induction s' with
        | nil => exact this.1
        | cons y s' ih' => exact ih' this.tail
      have g0 : ((s.length + 1 : Nat) : Int) > 1 := by rw [hs0]; simp; omega
      have g1 : IntKind.i64.wrap (((s.length + 1 : Nat) : Int) - 1) = ((s.length : Nat) : Int) := by rw [wrap_id (by unfold I64; omega)]; omega
      have g2 : IntKind.i64.wrap (((s.length + 1 : Nat) : Int) - 2) = ((s.length - 1 : Nat) : Int) := by rw [wrap_id (by unfold I64; omega)]; omega
      have g3 : ((rdX b k (s ++ [e])).l.map Ad.v)[((s.length : Nat) : Int).toNat]? = some (rdAd e).v := by simp [rdX]
      have g4 : ((rdX b k (s ++ [e])).l.map Ad.v)[((s.length - 1 : Nat) : Int).toNat]? = some (rdAd q).v := by rw [hs0]; simp [rdX]
      have g5 : (0 : Int) ≤ ((s.length : Nat) : Int) := by omega
      have g6 : (0 : Int) ≤ ((s.length - 1 : Nat) : Int) := by omega
      have g7 : ¬ (e.1 ≤ q.1) := by omega
      have g8 : ¬ (e.2 ≤ q.2) := by omega
      simp only [rdAd] at g3 g4
      rw [hf]
      simp only [go_sem, h0, h1, h8, h16, d1, d2, q1, q2, c1, c2, c3, w1, w2, a1, a2, a3, g0, g1, g2, g3, g4, g5, g6, g7, g8, slL, apO, not_true_eq_false, not_false_eq_true, decide_true, decide_false, reduceCtorEq, ne_eq, Bool.false_eq_true, ↓reduceIte, Nat.reduceAdd, Nat.reduceEqDiff, Nat.reduceLT, Int.reduceLE, s_shl, s_shr, Bool.not_false, Bool.not_true, Bool.and_self, Bool.true_and, Bool.and_true, Bool.and_false, Bool.false_and, Bool.not_true, Bool.true_or, Bool.or_true, Nat.reduceSub, Nat.reduceLeDiff, Nat.reduceMul, Int.reduceToNat, Int.reduceLT, Int.reduceEq, Int.reduceNeg, and_self, and_true, true_and, and_false, false_and, or_true, true_or, or_false, false_or, Int.cast_ofNat_Int, Nat.reduceBEq, Nat.reduceBNe, beq_self_eq_true, List.take_zero, List.take_succ_cons, List.take_nil]
      exact hN
theorem read_good (b k : Int) (hok : newOK b k = true) (E : List En) (hE : E.length < 1000000) (hg : GapS k E) (hI : ∀ e ∈ E, b ≤ e.1 ∧ e.1 ≤ 9223372036854775807 ∧ 0 ≤ e.2 ∧ e.2 ≤ 4611686018427387904) (H : Heap) :
    W n_index_Read [.int .i64 b, .int .i64 k, bytes (idxB b E) .ro] H = some (.tuple [.ptr (pt H 0) 0, .bool true], hx H [(rdX b k E).B (rdF E)]) := by
  have hn : ∀ H, W n_index_New [.int .i64 b, .int .i64 k] H = some (.ptr (pt H 0) 0, hx H [Ix.B ⟨b, k, []⟩ .full]) := by intro H; rw [new_spec, hok, if_pos rfl]
  have hk : 1 ≤ k ∧ 0 ≤ b := by unfold newOK at hok; simp at hok; omega
  have hN := read_loop b k hk.1 hk.2 E hE hg hI H E [] rfl
  have hl := idxB_len b E
  have h0 : (ints .u8 (idxB b E)).length = 16 * E.length := by rw [List.length_map, hl]
  have h1 : (((16 * E.length : Nat) : Int)).tmod 16 = 0 := by rw [Int.tmod_eq_emod_of_nonneg (by omega)]; omega
  simp only [rdX, List.map_nil, show rdF [] = .full from rfl] at hN
  refine W_fnS rfl rfl ?_
  simp only [go_sem, c_index_Read, hn, h0, h1, hN, gt_iff_lt, Int.lt_irrefl, not_true_eq_false, not_false_eq_true, decide_true, decide_false, reduceCtorEq, ne_eq, Bool.false_eq_true, ↓reduceIte, Nat.reduceAdd, Nat.reduceEqDiff, Nat.reduceLT, Int.reduceLE, s_shl, s_shr, Bool.not_false, Bool.not_true, Bool.and_self, Bool.true_and, Bool.and_true, Bool.and_false, Bool.false_and, Bool.not_true, Bool.true_or, Bool.or_true, Nat.reduceSub, Nat.reduceLeDiff, Nat.reduceMul, Int.reduceToNat, Int.reduceLT, Int.reduceEq, Int.reduceNeg, and_self, and_true, true_and, and_false, false_and, or_true, true_or, or_false, false_or, Int.cast_ofNat_Int, Nat.reduceBEq, Nat.reduceBNe, beq_self_eq_true, List.take_zero, List.take_succ_cons, List.take_nil]
  rfl
end Go.Abs

namespace Go.Abs
open Go Go.RowKit
set_option linter.unusedVariables false
set_option linter.unusedSimpArgs false

theorem again_loop0 (ns os : List Int) (k : Int) (hk : 1 ≤ k) (hns : ns.length < 100000000000000) (H M : Heap) (d : Nat) : ∀ (x : Ix) (fl : Fl) (at_ : Int), Flag x fl → IxInv x (3 + 2 * (x.l.length : Nat)) at_ → Sq x 3 2 → x.base = 3 → x.every = k → 0 ≤ at_ → at_ ≤ 51 * (x.l.length : Nat) → x.l.length + d = min ns.length 40 →
    ∃ x' fl' at', Flag x' fl' ∧ IxInv x' (3 + 2 * (x'.l.length : Nat)) at' ∧ Sq x' 3 2 ∧ x'.base = 3 ∧ x'.every = k ∧ at' ≤ 2040 ∧ x'.l.length = min ns.length 40 ∧
    loopA W loopW (.ghost (.kill k_law8_IndexAgain_0) l_law8_IndexAgain_0) [(0, .list 1 (ints .i64 ns) .ro), (2, .list 1 (ints .i64 os) .ro), (7, .int .i64 k), (8, .ptr (pt H 0) 0), (9, .int .i64 at_), (10, .int .i64 (x.l.length : Nat))] (hx H (x.B fl :: M)) =
      some (.exit 0, [(2, .list 1 (ints .i64 os) .ro), (7, .int .i64 k), (8, .ptr (pt H 0) 0)], hx H (x'.B fl' :: M)) := by
  have e0 : (ints .i64 ns).length = ns.length := by simp
  induction d with
  | zero =>
    intro x fl at_ hfl hi hsq hb hk' h0 h1 hd
    refine ⟨x, fl, at_, hfl, hi, hsq, hb, hk', by omega, by omega, loop_step l_law8_IndexAgain_0.eq_1 k_law8_IndexAgain_0.eq_1 (by kernel_rfl) ?_⟩
    by_cases c1 : ((x.l.length : Nat) : Int) < ((ns.length : Nat) : Int)
    · have c2 : ¬ (((x.l.length : Nat) : Int) < 40) := by omega
      simp only [go_sem, e0, c1, c2, not_true_eq_false, not_false_eq_true, decide_true, decide_false, reduceCtorEq, ne_eq, Bool.false_eq_true, ↓reduceIte, Nat.reduceAdd, Nat.reduceEqDiff, Nat.reduceLT, Int.reduceLE, s_shl, s_shr, Bool.not_false, Bool.not_true, Bool.and_self, Bool.true_and, Bool.and_true, Bool.and_false, Bool.false_and, Bool.not_true, Bool.true_or, Bool.or_true, Nat.reduceSub, Nat.reduceLeDiff, Nat.reduceMul, Int.reduceToNat, Int.reduceLT, Int.reduceEq, Int.reduceNeg, and_self, and_true, true_and, and_false, false_and, or_true, true_or, or_false, false_or, Int.cast_ofNat_Int, Nat.reduceBEq, Nat.reduceBNe, beq_self_eq_true, List.take_zero, List.take_succ_cons, List.take_nil]
    · simp only [go_sem, e0, c1, not_true_eq_false, not_false_eq_true, decide_true, decide_false, reduceCtorEq, ne_eq, Bool.false_eq_true, ↓reduceIte, Nat.reduceAdd, Nat.reduceEqDiff, Nat.reduceLT, Int.reduceLE, s_shl, s_shr, Bool.not_false, Bool.not_true, Bool.and_self, Bool.true_and, Bool.and_true, Bool.and_false, Bool.false_and, Bool.not_true, Bool.true_or, Bool.or_true, Nat.reduceSub, Nat.reduceLeDiff, Nat.reduceMul, Int.reduceToNat, Int.reduceLT, Int.reduceEq, Int.reduceNeg, and_self, and_true, true_and, and_false, false_and, or_true, true_or, or_false, false_or, Int.cast_ofNat_Int, Nat.reduceBEq, Nat.reduceBNe, beq_self_eq_true, List.take_zero, List.take_succ_cons, List.take_nil]
  | succ d ih =>
    intro x fl at_ hfl hi hsq hb hk' h0 h1 hd
    have c1 : ((x.l.length : Nat) : Int) < ((ns.length : Nat) : Int) := by omega
    have c2 : ((x.l.length : Nat) : Int) < 40 := by omega
    have c3 : (0 : Int) ≤ ((x.l.length : Nat) : Int) := by omega
    have h4 := ints_get (k := .i64) (l := ns) (i := x.l.length) (by omega)
    generalize ns[x.l.length]'(by omega) = c at h4
    have hw := fun H => within_spec c 0 50 H (by decide) (by decide) (by decide)
    have hr := withinQ_range c 0 50 (by decide)
    generalize withinQ c 0 50 = n at hw hr
    have e1 : IntKind.i64.wrap (1 + n) = 1 + n := wrap_id (by unfold I64; omega)
    have e2 : IntKind.i64.wrap (at_ + (1 + n)) = at_ + (1 + n) := wrap_id (by unfold I64; omega)
    have e4 : IntKind.i64.wrap (2 * ((x.l.length : Nat) : Int)) = 2 * (x.l.length : Nat) := wrap_id (by unfold I64; omega)
    have e5 : IntKind.i64.wrap (3 + 2 * ((x.l.length : Nat) : Int)) = 3 + 2 * (x.l.length : Nat) := wrap_id (by unfold I64; omega)
    obtain ⟨g1, g2⟩ := hi.add (o := 3 + 2 * (x.l.length : Nat)) (a := at_) (s := 1 + n) (Int.le_refl _) (Int.le_refl _) h0 (by omega) (by omega) (by rw [hb]; omega)
    have hadd := add_true x fl hfl (by omega) (pt H 0) (hx H (x.B fl :: M)) ⟨by rw [hx_get]; rfl⟩ (3 + 2 * (x.l.length : Nat)) at_ (1 + n) g1
    rw [hx_set, List.set_cons_zero] at hadd
    have hl' : (addI x (3 + 2 * (x.l.length : Nat)) at_ (1 + n)).l.length = x.l.length + 1 := by simp [addI]
    have hno : addOK (addI x (3 + 2 * (x.l.length : Nat)) at_ (1 + n)) (3 + 2 * (x.l.length : Nat)) (at_ + (1 + n)) 1 = false := by
      unfold addOK
      simp [addI]
    have hadd2 := add_false (addI x (3 + 2 * (x.l.length : Nat)) at_ (1 + n)) .own (.inl rfl) (by omega) (pt H 0) (hx H ((addI x (3 + 2 * (x.l.length : Nat)) at_ (1 + n)).B .own :: M)) ⟨by rw [hx_get]; rfl⟩ (3 + 2 * (x.l.length : Nat)) (at_ + (1 + n)) 1 hno
    have e3 : IntKind.i64.wrap (((x.l.length : Nat) : Int) + 1) = ((addI x (3 + 2 * (x.l.length : Nat)) at_ (1 + n)).l.length : Nat) := by rw [hl', wrap_id (by unfold I64; omega)]; omega
    have g3 : IxInv (addI x (3 + 2 * (x.l.length : Nat)) at_ (1 + n)) (3 + 2 * ((addI x (3 + 2 * (x.l.length : Nat)) at_ (1 + n)).l.length : Nat)) (at_ + (1 + n)) := by
      refine ⟨fun a ha => ?_, g2.be, g2.gap, g2.ne⟩
      have := g2.bo a ha
      rw [hl']; omega
    obtain ⟨x', fl', at', r1, r2, rs, r3, r4, r5, r6, hN⟩ := ih (addI x (3 + 2 * (x.l.length : Nat)) at_ (1 + n)) .own (at_ + (1 + n)) (.inl rfl) g3 (hsq.add rfl) hb hk' (by omega) (by rw [hl']; omega) (by rw [hl']; omega)
    refine ⟨x', fl', at', r1, r2, rs, r3, r4, r5, r6, loop_step l_law8_IndexAgain_0.eq_1 k_law8_IndexAgain_0.eq_1 (by kernel_rfl) ?_⟩
    simp only [go_sem, e0, c1, c2, c3, h4, hw, e1, e2, e3, e4, e5, hadd, hadd2, not_true_eq_false, not_false_eq_true, decide_true, decide_false, reduceCtorEq, ne_eq, Bool.false_eq_true, ↓reduceIte, Nat.reduceAdd, Nat.reduceEqDiff, Nat.reduceLT, Int.reduceLE, s_shl, s_shr, Bool.not_false, Bool.not_true, Bool.and_self, Bool.true_and, Bool.and_true, Bool.and_false, Bool.false_and, Bool.not_true, Bool.true_or, Bool.or_true, Nat.reduceSub, Nat.reduceLeDiff, Nat.reduceMul, Int.reduceToNat, Int.reduceLT, Int.reduceEq, Int.reduceNeg, and_self, and_true, true_and, and_false, false_and, or_true, true_or, or_false, false_or, Int.cast_ofNat_Int, Nat.reduceBEq, Nat.reduceBNe, beq_self_eq_true, List.take_zero, List.take_succ_cons, List.take_nil]
    exact hN
theorem again_loop1 (os : List Int) (hos : os.length < 100000000000000) (i j : Nat) (E : List En) (H : Heap) (hfi : ∀ off L, W n_index_Index_Find [.ptr i 0, .int .i64 off] (hx H L) = some (.int .i64 (findP E off 0), hx H L)) (hfj : ∀ off L, W n_index_Index_Find [.ptr j 0, .int .i64 off] (hx H L) = some (.int .i64 (findP E off 0), hx H L)) (d : Nat) : ∀ k : Nat, k + d = min os.length 30 →
    loopA W loopW (.ghost (.kill k_law8_IndexAgain_1) l_law8_IndexAgain_1) [(2, .list 1 (ints .i64 os) .ro), (8, .ptr i 0), (12, .ptr j 0), (14, .int .i64 (k : Nat))] (hx H []) = some (.exit 2, [(8, .ptr i 0)], hx H []) := by
  have e0 : (ints .i64 os).length = os.length := by simp
  induction d with
  | zero =>
    intro k hk
    refine loop_step l_law8_IndexAgain_1.eq_1 k_law8_IndexAgain_1.eq_1 (by kernel_rfl) ?_
    by_cases c1 : ((k : Nat) : Int) < ((os.length : Nat) : Int)
    · have c2 : ¬ (((k : Nat) : Int) < 30) := by omega
      simp only [go_sem, e0, c1, c2, not_true_eq_false, not_false_eq_true, decide_true, decide_false, reduceCtorEq, ne_eq, Bool.false_eq_true, ↓reduceIte, Nat.reduceAdd, Nat.reduceEqDiff, Nat.reduceLT, Int.reduceLE, s_shl, s_shr, Bool.not_false, Bool.not_true, Bool.and_self, Bool.true_and, Bool.and_true, Bool.and_false, Bool.false_and, Bool.not_true, Bool.true_or, Bool.or_true, Nat.reduceSub, Nat.reduceLeDiff, Nat.reduceMul, Int.reduceToNat, Int.reduceLT, Int.reduceEq, Int.reduceNeg, and_self, and_true, true_and, and_false, false_and, or_true, true_or, or_false, false_or, Int.cast_ofNat_Int, Nat.reduceBEq, Nat.reduceBNe, beq_self_eq_true, List.take_zero, List.take_succ_cons, List.take_nil]
    · simp only [go_sem, e0, c1, not_true_eq_false, not_false_eq_true, decide_true, decide_false, reduceCtorEq, ne_eq, Bool.false_eq_true, ↓reduceIte, Nat.reduceAdd, Nat.reduceEqDiff, Nat.reduceLT, Int.reduceLE, s_shl, s_shr, Bool.not_false, Bool.not_true, Bool.and_self, Bool.true_and, Bool.and_true, Bool.and_false, Bool.false_and, Bool.not_true, Bool.true_or, Bool.or_true, Nat.reduceSub, Nat.reduceLeDiff, Nat.reduceMul, Int.reduceToNat, Int.reduceLT, Int.reduceEq, Int.reduceNeg, and_self, and_true, true_and, and_false, false_and, or_true, true_or, or_false, false_or, Int.cast_ofNat_Int, Nat.reduceBEq, Nat.reduceBNe, beq_self_eq_true, List.take_zero, List.take_succ_cons, List.take_nil]
  | succ d ih =>
    intro k hk
    have c1 : ((k : Nat) : Int) < ((os.length : Nat) : Int) := by omega
    have c2 : ((k : Nat) : Int) < 30 := by omega
    have c3 : (0 : Int) ≤ ((k : Nat) : Int) := by omega
    have h4 := ints_get (k := .i64) (l := os) (i := k) (by omega)
    generalize os[k]'(by omega) = c at h4
    have h5 := and_7 c
    have e3 : IntKind.i64.wrap (((k : Nat) : Int) + 1) = ((k + 1 : Nat) : Int) := by rw [wrap_id (by unfold I64; omega)]; omega
    have n1 : ∀ a : Int, (decide (¬ a = a)) = false := by simp
    have hN := ih (k + 1) (by omega)
    refine loop_step l_law8_IndexAgain_1.eq_1 k_law8_IndexAgain_1.eq_1 (by kernel_rfl) ?_
    simp only [go_sem, e0, c1, c2, c3, h4, h5, e3, hfi, hfj, n1, not_true_eq_false, not_false_eq_true, decide_true, decide_false, reduceCtorEq, ne_eq, Bool.false_eq_true, ↓reduceIte, Nat.reduceAdd, Nat.reduceEqDiff, Nat.reduceLT, Int.reduceLE, s_shl, s_shr, Bool.not_false, Bool.not_true, Bool.and_self, Bool.true_and, Bool.and_true, Bool.and_false, Bool.false_and, Bool.not_true, Bool.true_or, Bool.or_true, Nat.reduceSub, Nat.reduceLeDiff, Nat.reduceMul, Int.reduceToNat, Int.reduceLT, Int.reduceEq, Int.reduceNeg, and_self, and_true, true_and, and_false, false_and, or_true, true_or, or_false, false_or, Int.cast_ofNat_Int, Nat.reduceBEq, Nat.reduceBNe, beq_self_eq_true, List.take_zero, List.take_succ_cons, List.take_nil]
    exact hN
theorem again_spec (ns : List Int) (every : Int) (os : List Int) (hns : ∀ x ∈ ns, I64 x) (hl : ns.length * 8 ≤ 140737488351232) (he : I64 every) (hos : ∀ x ∈ os, I64 x) (hl2 : os.length * 8 ≤ 140737488351232) :
    W n_law8_IndexAgain [.list 1 (ints .i64 ns) .ro, .int .i64 every, .list 1 (ints .i64 os) .ro] [] = some (.bool true, []) := by
  have hw := fun H => within_spec every 0 90 H (by decide) (by decide) (by decide)
  have hr := withinQ_range every 0 90 (by decide)
  generalize withinQ every 0 90 = n at hw hr
  have e1 : IntKind.i64.wrap (1 + n) = 1 + n := wrap_id (by unfold I64; omega)
  have hnew := fun H => new_spec 3 (1 + n) H
  have hok : newOK 3 (1 + n) = true := by unfold newOK; simp; omega
  rw [hok] at hnew
  simp only [if_true] at hnew
  obtain ⟨x, fl, at_, r1, r2, rs, r3, r4, r5, r6, hN⟩ := again_loop0 ns os (1 + n) (by omega) (by omega) [] [] (min ns.length 40) ⟨3, 1 + n, []⟩ .full 0 (.inr ⟨rfl, rfl⟩) (IxInv.nil _ _ _ _) (Sq.nil _ _ _ _) rfl rfl (Int.le_refl _) (Int.le_refl _) (by simp)
  simp only [List.map_nil, List.length_nil, show ((0 : Nat) : Int) = 0 from rfl] at hN
  have hsrt := GapS.srt (by omega) (r4 ▸ r2.gap : GapS (1 + n) (ents x.l))
  have hel := ents_len x.l
  have hbI : ∀ e ∈ ents x.l, 3 ≤ e.1 ∧ e.1 ≤ 9223372036854775807 ∧ 0 ≤ e.2 ∧ e.2 ≤ 4611686018427387904 := by
    intro e he
    unfold ents at he
    obtain ⟨c, hc, rfl⟩ := List.mem_map.1 he
    have hc := (List.mem_filter.1 hc).1
    have h1 := r2.be c hc
    have h2 := r2.bo c hc
    obtain ⟨P, Q, hPQ⟩ := List.append_of_mem hc
    have h3 := rs P c Q hPQ
    simp only; omega
  have hby := fun L => bytes_spec x fl r1 (by omega) (r2.I64 (by omega)) (pt [] 0) (hx [] (x.B fl :: L)) ⟨by rw [hx_get]; rfl⟩
  rw [r3] at hby
  have hrd := fun H => read_good 3 (1 + n) hok (ents x.l) (by omega) (r4 ▸ r2.gap) hbI H
  have hfi : ∀ off L, W n_index_Index_Find [.ptr (pt [] 0) 0, .int .i64 off] (hx (hx [] [x.B fl, (rdX 3 (1 + n) (ents x.l)).B (rdF (ents x.l))]) L) = some (.int .i64 (findP (ents x.l) off 0), hx (hx [] [x.B fl, (rdX 3 (1 + n) (ents x.l)).B (rdF (ents x.l))]) L) := fun off L => find_spec x fl r1 (by omega) (pt [] 0) _ ⟨by rw [hx_hx, hx_get]; rfl⟩ hsrt off
  have hfj : ∀ off L, W n_index_Index_Find [.ptr (pt [] 1) 0, .int .i64 off] (hx (hx [] [x.B fl, (rdX 3 (1 + n) (ents x.l)).B (rdF (ents x.l))]) L) = some (.int .i64 (findP (ents x.l) off 0), hx (hx [] [x.B fl, (rdX 3 (1 + n) (ents x.l)).B (rdF (ents x.l))]) L) := by
    intro off L
    have hE : ents (rdX 3 (1 + n) (ents x.l)).l = ents x.l := ents_rd _
    have := find_spec (rdX 3 (1 + n) (ents x.l)) (rdF (ents x.l)) (rd_flag _ _ _) (by simp [rdX]; omega) (pt [] 1) (hx (hx [] [x.B fl, (rdX 3 (1 + n) (ents x.l)).B (rdF (ents x.l))]) L) ⟨by rw [hx_hx, hx_get]; rfl⟩ (by rw [hE]; exact hsrt) off
    rw [hE] at this; exact this
  have hN1 := again_loop1 os (by omega) (pt [] 0) (pt [] 1) (ents x.l) (hx [] [x.B fl, (rdX 3 (1 + n) (ents x.l)).B (rdF (ents x.l))]) hfi hfj (min os.length 30) 0 (by omega)
  rw [hx_hx, show ((0 : Nat) : Int) = 0 from rfl] at hN1
  have hf := hfi (-1) []
  rw [hx_hx, findP_gt (-1) _ 0 (fun e he => by have := hbI e he; omega)] at hf
  simp only [List.append_nil] at hN1 hf
  generalize (rdX 3 (1 + n) (ents x.l)).B (rdF (ents x.l)) = B2 at hN1 hf hrd
  refine W_fn rfl rfl ?_
  simp only [go_sem, c_law8_IndexAgain, hw, e1, hnew, hN, hby, hrd, hN1, hf, known_spec, not_true_eq_false, not_false_eq_true, decide_true, decide_false, reduceCtorEq, ne_eq, Bool.false_eq_true, ↓reduceIte, Nat.reduceAdd, Nat.reduceEqDiff, Nat.reduceLT, Int.reduceLE, s_shl, s_shr, Bool.not_false, Bool.not_true, Bool.and_self, Bool.true_and, Bool.and_true, Bool.and_false, Bool.false_and, Bool.not_true, Bool.true_or, Bool.or_true, Nat.reduceSub, Nat.reduceLeDiff, Nat.reduceMul, Int.reduceToNat, Int.reduceLT, Int.reduceEq, Int.reduceNeg, and_self, and_true, true_and, and_false, false_and, or_true, true_or, or_false, false_or, Int.cast_ofNat_Int, Nat.reduceBEq, Nat.reduceBNe, beq_self_eq_true, List.take_zero, List.take_succ_cons, List.take_nil]
end Go.Abs

namespace Go.Abs
open Go Go.RowKit
set_option linter.unusedVariables false
set_option linter.unusedSimpArgs false

theorem pfind_loop (l : List En) (fl : Fl) (hfl : fl = .ro ∨ (fl = .full ∧ l = [])) (hl : l.length < 1000000000) (off : Int) : ∀ (r s : List En) (H : Heap), l = s ++ r →
    ∃ N, loopA W loopW (.ghost (.kill k_law8_plain_find_0) l_law8_plain_find_0) [(1, .int .i64 off), (5, .int .i64 (findP s off 0)), (11, .list 2 (l.map enV) fl), (12, .int .i64 l.length), (13, .int .i64 s.length)] H =
      some (.exit 0, [(5, .int .i64 (findP l off 0))], hx H N) := by
  intro r
  induction r with
  | nil =>
    intro s H hs
    rw [List.append_nil] at hs
    subst hs
    refine ⟨[], ?_⟩
    rw [hx_nil]
    have h1 : ¬ ((l.length : Int) < (l.length : Int)) := by omega
    refine loop_step l_law8_plain_find_0.eq_1 k_law8_plain_find_0.eq_1 (by kernel_rfl) ?_
    rcases hfl with rfl | ⟨rfl, _⟩ <;> simp only [go_sem, h1, not_true_eq_false, not_false_eq_true, decide_true, decide_false, reduceCtorEq, ne_eq, Bool.false_eq_true, ↓reduceIte, Nat.reduceAdd, Nat.reduceEqDiff, Nat.reduceLT, Int.reduceLE, s_shl, s_shr, Bool.not_false, Bool.not_true, Bool.and_self, Bool.true_and, Bool.and_true, Bool.and_false, Bool.false_and, Bool.not_true, Bool.true_or, Bool.or_true, Nat.reduceSub, Nat.reduceLeDiff, Nat.reduceMul, Int.reduceToNat, Int.reduceLT, Int.reduceEq, Int.reduceNeg, and_self, and_true, true_and, and_false, false_and, or_true, true_or, or_false, false_or, Int.cast_ofNat_Int, Nat.reduceBEq, Nat.reduceBNe, beq_self_eq_true, List.take_zero, List.take_succ_cons, List.take_nil]
  | cons e r ih =>
    intro s H hs
    have hlen : l.length = s.length + (r.length + 1) := by rw [hs, List.length_append, List.length_cons]
    rcases hfl with rfl | ⟨rfl, h0⟩
    rotate_left
    · rw [h0] at hs; simp at hs
    have h1 : (s.length : Int) < (l.length : Int) := by omega
    have h2 : (0 : Int) ≤ (s.length : Int) := by omega
    have h3 : (l.map enV)[((s.length : Nat) : Int).toNat]? = some (enV e) := by rw [hs]; simp
    have e1 : IntKind.i64.wrap ((s.length : Int) + 1) = ((s ++ [e]).length : Int) := by rw [wrap_id (by unfold I64; omega)]; simp
    obtain ⟨N, hN⟩ := ih (s ++ [e]) (hx H [.cells [.int .i64 e.1, .int .i64 e.2]]) (by rw [hs]; simp)
    rw [hx_hx, findP_app] at hN
    refine ⟨.cells [.int .i64 e.1, .int .i64 e.2] :: N, loop_step l_law8_plain_find_0.eq_1 k_law8_plain_find_0.eq_1 (by kernel_rfl) ?_⟩
    rw [← hx_nil H]
    simp only [findP] at hN
    by_cases c : e.1 ≤ off
    · rw [if_pos c] at hN; simp only [go_sem, h1, h2, h3, e1, c, not_true_eq_false, not_false_eq_true, decide_true, decide_false, reduceCtorEq, ne_eq, Bool.false_eq_true, ↓reduceIte, Nat.reduceAdd, Nat.reduceEqDiff, Nat.reduceLT, Int.reduceLE, s_shl, s_shr, Bool.not_false, Bool.not_true, Bool.and_self, Bool.true_and, Bool.and_true, Bool.and_false, Bool.false_and, Bool.not_true, Bool.true_or, Bool.or_true, Nat.reduceSub, Nat.reduceLeDiff, Nat.reduceMul, Int.reduceToNat, Int.reduceLT, Int.reduceEq, Int.reduceNeg, and_self, and_true, true_and, and_false, false_and, or_true, true_or, or_false, false_or, Int.cast_ofNat_Int, Nat.reduceBEq, Nat.reduceBNe, beq_self_eq_true, List.take_zero, List.take_succ_cons, List.take_nil]; exact hN
    · rw [if_neg c] at hN; simp only [go_sem, h1, h2, h3, e1, c, not_true_eq_false, not_false_eq_true, decide_true, decide_false, reduceCtorEq, ne_eq, Bool.false_eq_true, ↓reduceIte, Nat.reduceAdd, Nat.reduceEqDiff, Nat.reduceLT, Int.reduceLE, s_shl, s_shr, Bool.not_false, Bool.not_true, Bool.and_self, Bool.true_and, Bool.and_true, Bool.and_false, Bool.false_and, Bool.not_true, Bool.true_or, Bool.or_true, Nat.reduceSub, Nat.reduceLeDiff, Nat.reduceMul, Int.reduceToNat, Int.reduceLT, Int.reduceEq, Int.reduceNeg, and_self, and_true, true_and, and_false, false_and, or_true, true_or, or_false, false_or, Int.cast_ofNat_Int, Nat.reduceBEq, Nat.reduceBNe, beq_self_eq_true, List.take_zero, List.take_succ_cons, List.take_nil]; exact hN
theorem pfind_spec (p : Pl) (fp : Fl) (hfp : fp = .own ∨ (fp = .full ∧ p.l = [])) (hl : p.l.length < 1000000000) (j : Nat) (H : Heap) (hj : Old H j (p.B fp)) (off : Int) :
    W n_law8_plain_find [.ptr j 0, .int .i64 off] H = some (.int .i64 (findP p.l off 0), H) := by
  have gj := hj.get
  have e2 : (p.l.map enV).length = p.l.length := by simp
  refine W_fn rfl rfl ?_
  rcases hfp with rfl | ⟨rfl, h0⟩
  · obtain ⟨N, hN⟩ := pfind_loop p.l .ro (.inl rfl) hl off p.l [] (hx H []) rfl
    rw [hx_hx, List.nil_append, show findP [] off 0 = 0 from rfl, show ((([] : List En).length : Nat) : Int) = 0 from rfl] at hN
    simp only [go_sem, c_law8_plain_find, gj, e2, hN, not_true_eq_false, not_false_eq_true, decide_true, decide_false, reduceCtorEq, ne_eq, Bool.false_eq_true, ↓reduceIte, Nat.reduceAdd, Nat.reduceEqDiff, Nat.reduceLT, Int.reduceLE, s_shl, s_shr, Bool.not_false, Bool.not_true, Bool.and_self, Bool.true_and, Bool.and_true, Bool.and_false, Bool.false_and, Bool.not_true, Bool.true_or, Bool.or_true, Nat.reduceSub, Nat.reduceLeDiff, Nat.reduceMul, Int.reduceToNat, Int.reduceLT, Int.reduceEq, Int.reduceNeg, and_self, and_true, true_and, and_false, false_and, or_true, true_or, or_false, false_or, Int.cast_ofNat_Int, Nat.reduceBEq, Nat.reduceBNe, beq_self_eq_true, List.take_zero, List.take_succ_cons, List.take_nil]
  · obtain ⟨N, hN⟩ := pfind_loop p.l .full (.inr ⟨rfl, h0⟩) hl off p.l [] (hx H []) rfl
    rw [hx_hx, List.nil_append, show findP [] off 0 = 0 from rfl, show ((([] : List En).length : Nat) : Int) = 0 from rfl] at hN
    simp only [go_sem, c_law8_plain_find, gj, e2, hN, not_true_eq_false, not_false_eq_true, decide_true, decide_false, reduceCtorEq, ne_eq, Bool.false_eq_true, ↓reduceIte, Nat.reduceAdd, Nat.reduceEqDiff, Nat.reduceLT, Int.reduceLE, s_shl, s_shr, Bool.not_false, Bool.not_true, Bool.and_self, Bool.true_and, Bool.and_true, Bool.and_false, Bool.false_and, Bool.not_true, Bool.true_or, Bool.or_true, Nat.reduceSub, Nat.reduceLeDiff, Nat.reduceMul, Int.reduceToNat, Int.reduceLT, Int.reduceEq, Int.reduceNeg, and_self, and_true, true_and, and_false, false_and, or_true, true_or, or_false, false_or, Int.cast_ofNat_Int, Nat.reduceBEq, Nat.reduceBNe, beq_self_eq_true, List.take_zero, List.take_succ_cons, List.take_nil]
def plOK (p : Pl) (o a s : Int) : Bool := decide (¬ o < p.base) && (decide (¬ o ≤ p.last) && (decide (¬ a < 0) && (decide (¬ a < p.end_) && decide (¬ s < 1))))
def plE (p : Pl) (a : Int) : Bool := match p.l.getLast? with | none => true | some q => decide (IntKind.i64.wrap (a - q.2) ≥ p.every)
def plAdd (p : Pl) (o a s : Int) : Pl := ⟨p.base, o, p.every, IntKind.i64.wrap (a + s), if plE p a = true then p.l ++ [(o, a)] else p.l⟩
theorem padd_false (p : Pl) (fp : Fl) (hfp : fp = .own ∨ (fp = .full ∧ p.l = [])) (hl : p.l.length < 1000000000) (j : Nat) (H : Heap) (hj : Old H j (p.B fp)) (o a s : Int) (h : plOK p o a s = false) :
    W n_law8_plain_add [.ptr j 0, .int .i64 o, .int .i64 a, .int .i64 s] H = some (.bool false, H) := by
  have gj := hj.get
  unfold plOK at h
  refine W_fn rfl rfl ?_
  by_cases c1 : o < p.base
  · rcases hfp with rfl | ⟨rfl, _⟩ <;> simp only [go_sem, c_law8_plain_add, gj, c1, not_true_eq_false, not_false_eq_true, decide_true, decide_false, reduceCtorEq, ne_eq, Bool.false_eq_true, ↓reduceIte, Nat.reduceAdd, Nat.reduceEqDiff, Nat.reduceLT, Int.reduceLE, s_shl, s_shr, Bool.not_false, Bool.not_true, Bool.and_self, Bool.true_and, Bool.and_true, Bool.and_false, Bool.false_and, Bool.not_true, Bool.true_or, Bool.or_true, Nat.reduceSub, Nat.reduceLeDiff, Nat.reduceMul, Int.reduceToNat, Int.reduceLT, Int.reduceEq, Int.reduceNeg, and_self, and_true, true_and, and_false, false_and, or_true, true_or, or_false, false_or, Int.cast_ofNat_Int, Nat.reduceBEq, Nat.reduceBNe, beq_self_eq_true, List.take_zero, List.take_succ_cons, List.take_nil]
  by_cases c2 : o ≤ p.last
  · rcases hfp with rfl | ⟨rfl, _⟩ <;> simp only [go_sem, c_law8_plain_add, gj, c1, c2, not_true_eq_false, not_false_eq_true, decide_true, decide_false, reduceCtorEq, ne_eq, Bool.false_eq_true, ↓reduceIte, Nat.reduceAdd, Nat.reduceEqDiff, Nat.reduceLT, Int.reduceLE, s_shl, s_shr, Bool.not_false, Bool.not_true, Bool.and_self, Bool.true_and, Bool.and_true, Bool.and_false, Bool.false_and, Bool.not_true, Bool.true_or, Bool.or_true, Nat.reduceSub, Nat.reduceLeDiff, Nat.reduceMul, Int.reduceToNat, Int.reduceLT, Int.reduceEq, Int.reduceNeg, and_self, and_true, true_and, and_false, false_and, or_true, true_or, or_false, false_or, Int.cast_ofNat_Int, Nat.reduceBEq, Nat.reduceBNe, beq_self_eq_true, List.take_zero, List.take_succ_cons, List.take_nil]
  by_cases c3 : a < 0
  · rcases hfp with rfl | ⟨rfl, _⟩ <;> simp only [go_sem, c_law8_plain_add, gj, c1, c2, c3, not_true_eq_false, not_false_eq_true, decide_true, decide_false, reduceCtorEq, ne_eq, Bool.false_eq_true, ↓reduceIte, Nat.reduceAdd, Nat.reduceEqDiff, Nat.reduceLT, Int.reduceLE, s_shl, s_shr, Bool.not_false, Bool.not_true, Bool.and_self, Bool.true_and, Bool.and_true, Bool.and_false, Bool.false_and, Bool.not_true, Bool.true_or, Bool.or_true, Nat.reduceSub, Nat.reduceLeDiff, Nat.reduceMul, Int.reduceToNat, Int.reduceLT, Int.reduceEq, Int.reduceNeg, and_self, and_true, true_and, and_false, false_and, or_true, true_or, or_false, false_or, Int.cast_ofNat_Int, Nat.reduceBEq, Nat.reduceBNe, beq_self_eq_true, List.take_zero, List.take_succ_cons, List.take_nil]
  by_cases c4 : a < p.end_
  · rcases hfp with rfl | ⟨rfl, _⟩ <;> simp only [go_sem, c_law8_plain_add, gj, c1, c2, c3, c4, not_true_eq_false, not_false_eq_true, decide_true, decide_false, reduceCtorEq, ne_eq, Bool.false_eq_true, ↓reduceIte, Nat.reduceAdd, Nat.reduceEqDiff, Nat.reduceLT, Int.reduceLE, s_shl, s_shr, Bool.not_false, Bool.not_true, Bool.and_self, Bool.true_and, Bool.and_true, Bool.and_false, Bool.false_and, Bool.not_true, Bool.true_or, Bool.or_true, Nat.reduceSub, Nat.reduceLeDiff, Nat.reduceMul, Int.reduceToNat, Int.reduceLT, Int.reduceEq, Int.reduceNeg, and_self, and_true, true_and, and_false, false_and, or_true, true_or, or_false, false_or, Int.cast_ofNat_Int, Nat.reduceBEq, Nat.reduceBNe, beq_self_eq_true, List.take_zero, List.take_succ_cons, List.take_nil]
  have c5 : s < 1 := by simp only [c1, c2, c3, c4] at h; simpa using h
  rcases hfp with rfl | ⟨rfl, _⟩ <;> simp only [go_sem, c_law8_plain_add, gj, c1, c2, c3, c4, c5, not_true_eq_false, not_false_eq_true, decide_true, decide_false, reduceCtorEq, ne_eq, Bool.false_eq_true, ↓reduceIte, Nat.reduceAdd, Nat.reduceEqDiff, Nat.reduceLT, Int.reduceLE, s_shl, s_shr, Bool.not_false, Bool.not_true, Bool.and_self, Bool.true_and, Bool.and_true, Bool.and_false, Bool.false_and, Bool.not_true, Bool.true_or, Bool.or_true, Nat.reduceSub, Nat.reduceLeDiff, Nat.reduceMul, Int.reduceToNat, Int.reduceLT, Int.reduceEq, Int.reduceNeg, and_self, and_true, true_and, and_false, false_and, or_true, true_or, or_false, false_or, Int.cast_ofNat_Int, Nat.reduceBEq, Nat.reduceBNe, beq_self_eq_true, List.take_zero, List.take_succ_cons, List.take_nil]
theorem padd_true (p : Pl) (fp : Fl) (hfp : fp = .own ∨ (fp = .full ∧ p.l = [])) (hl : p.l.length < 1000000000) (j : Nat) (H : Heap) (hj : Old H j (p.B fp)) (o a s : Int) (h : plOK p o a s = true) :
    W n_law8_plain_add [.ptr j 0, .int .i64 o, .int .i64 a, .int .i64 s] H = some (.bool true, H.set j ((plAdd p o a s).B .own)) := by
  have gj := hj.get
  have gs := hj.set
  have gj' := hj.get'
  have gs' := hj.set'
  have e2 : (p.l.map enV).length = p.l.length := by simp
  unfold plOK at h
  simp only [Bool.and_eq_true, decide_eq_true_eq] at h
  obtain ⟨c1, c2, c3, c4, c5⟩ := h
  have a0 : (0 + p.l.length) * 16 ≤ maxBytes := by simp [maxBytes]; omega
  have a2 : (p.l.length + 1) * 16 ≤ maxBytes := by simp [maxBytes]; omega
  have u := under_ents p.l
  have u2 := under_ents (plAdd p o a s).l
  have hB : (plAdd p o a s).B .own = .cells [.int .i64 p.base, .int .i64 o, .int .i64 p.every, .int .i64 (IntKind.i64.wrap (a + s)), .list 2 ((plAdd p o a s).l.map enV) .own] := rfl
  rw [hB]
  cases hq : p.l.getLast? with
  | none =>
    have h0 : p.l = [] := by simpa using hq
    have hz : ((p.l.length : Nat) : Int) = 0 := by rw [h0]; rfl
    have a1 : p.l.map enV ++ [AVal.agg [.int .i64 o, .int .i64 a]] = (plAdd p o a s).l.map enV := by simp [plAdd, plE, hq]
    refine W_fnS rfl rfl ?_
    rcases hfp with rfl | ⟨rfl, _⟩ <;> simp only [go_sem, c_law8_plain_add, gj, gs, gj', gs', c1, c2, c3, c4, c5, e2, eq_true hz, apO, apF, a0, a2, a1, u, u2, not_true_eq_false, not_false_eq_true, decide_true, decide_false, reduceCtorEq, ne_eq, Bool.false_eq_true, ↓reduceIte, Nat.reduceAdd, Nat.reduceEqDiff, Nat.reduceLT, Int.reduceLE, s_shl, s_shr, Bool.not_false, Bool.not_true, Bool.and_self, Bool.true_and, Bool.and_true, Bool.and_false, Bool.false_and, Bool.not_true, Bool.true_or, Bool.or_true, Nat.reduceSub, Nat.reduceLeDiff, Nat.reduceMul, Int.reduceToNat, Int.reduceLT, Int.reduceEq, Int.reduceNeg, and_self, and_true, true_and, and_false, false_and, or_true, true_or, or_false, false_or, Int.cast_ofNat_Int, Nat.reduceBEq, Nat.reduceBNe, beq_self_eq_true, List.take_zero, List.take_succ_cons, List.take_nil]
  | some q =>
    obtain ⟨l', h0⟩ : ∃ l', p.l = l' ++ [q] := by
      rcases List.eq_nil_or_concat p.l with h | ⟨l', x, h⟩
      · rw [h] at hq; cases hq
      · rw [List.concat_eq_append] at h
        rw [h] at hq; simp at hq; subst hq; exact ⟨l', h⟩
    have hz : ¬ (((p.l.length : Nat) : Int) = 0) := by rw [h0]; simp; omega
    have hpos : 1 ≤ p.l.length := by rw [h0]; simp
    have e3 : IntKind.i64.wrap ((p.l.length : Int) - 1) = ((p.l.length - 1 : Nat) : Int) := by rw [wrap_id (by unfold I64; omega)]; omega
    have e4 : (p.l.map enV)[((p.l.length - 1 : Nat) : Int).toNat]? = some (enV q) := by rw [h0]; simp
    have e5 : (0 : Int) ≤ ((p.l.length - 1 : Nat) : Int) := by omega
    refine W_fnS rfl rfl ?_
    rcases hfp with rfl | ⟨rfl, hh⟩
    rotate_left
    · rw [hh] at h0; simp at h0
    by_cases c6 : IntKind.i64.wrap (a - q.2) ≥ p.every
    · have a1 : p.l.map enV ++ [AVal.agg [.int .i64 o, .int .i64 a]] = (plAdd p o a s).l.map enV := by simp [plAdd, plE, hq, c6]
      simp only [go_sem, c_law8_plain_add, gj, gs, gj', gs', c1, c2, c3, c4, c5, c6, e2, hz, e3, e4, e5, apO, apF, a0, a2, a1, u, u2, not_true_eq_false, not_false_eq_true, decide_true, decide_false, reduceCtorEq, ne_eq, Bool.false_eq_true, ↓reduceIte, Nat.reduceAdd, Nat.reduceEqDiff, Nat.reduceLT, Int.reduceLE, s_shl, s_shr, Bool.not_false, Bool.not_true, Bool.and_self, Bool.true_and, Bool.and_true, Bool.and_false, Bool.false_and, Bool.not_true, Bool.true_or, Bool.or_true, Nat.reduceSub, Nat.reduceLeDiff, Nat.reduceMul, Int.reduceToNat, Int.reduceLT, Int.reduceEq, Int.reduceNeg, and_self, and_true, true_and, and_false, false_and, or_true, true_or, or_false, false_or, Int.cast_ofNat_Int, Nat.reduceBEq, Nat.reduceBNe, beq_self_eq_true, List.take_zero, List.take_succ_cons, List.take_nil]
    · have a1 : p.l = (plAdd p o a s).l := by simp only [plAdd, plE, hq, c6, decide_false, Bool.false_eq_true, if_false]
      rw [← a1]
      simp only [go_sem, c_law8_plain_add, gj, gs, gj', gs', c1, c2, c3, c4, c5, c6, e2, hz, e3, e4, e5, u, u2, not_true_eq_false, not_false_eq_true, decide_true, decide_false, reduceCtorEq, ne_eq, Bool.false_eq_true, ↓reduceIte, Nat.reduceAdd, Nat.reduceEqDiff, Nat.reduceLT, Int.reduceLE, s_shl, s_shr, Bool.not_false, Bool.not_true, Bool.and_self, Bool.true_and, Bool.and_true, Bool.and_false, Bool.false_and, Bool.not_true, Bool.true_or, Bool.or_true, Nat.reduceSub, Nat.reduceLeDiff, Nat.reduceMul, Int.reduceToNat, Int.reduceLT, Int.reduceEq, Int.reduceNeg, and_self, and_true, true_and, and_false, false_and, or_true, true_or, or_false, false_or, Int.cast_ofNat_Int, Nat.reduceBEq, Nat.reduceBNe, beq_self_eq_true, List.take_zero, List.take_succ_cons, List.take_nil]
end Go.Abs

namespace Go.Abs
open Go Go.RowKit
set_option linter.unusedVariables false
set_option linter.unusedSimpArgs false

structure Rel (x : Ix) (p : Pl) : Prop where
  base : x.base = p.base
  every : x.every = p.every
  l : ents x.l = p.l
  b0 : 0 ≤ p.base
  lst : (x.l = [] ∧ p.last = -1 ∧ p.end_ = 0) ∨ ∃ q, x.l.getLast? = some q ∧ q.off = p.last ∧ q.end_ = p.end_
theorem Rel.ok {x : Ix} {p : Pl} (h : Rel x p) (o a s : Int) : addOK x o a s = plOK p o a s := by
  unfold addOK plOK
  rw [h.base]
  have hb := h.b0
  rcases h.lst with ⟨h1, h2, h3⟩ | ⟨q, h1, h2, h3⟩
  · rw [h1, h2, h3]
    simp only [List.getLast?_nil, Bool.and_true]
    by_cases c1 : o < p.base
    · simp [c1]
    · have c2 : ¬ o ≤ -1 := by omega
      by_cases c3 : a < 0 <;> by_cases c4 : s < 1 <;> simp [c1, c2, c3, c4]
  · rw [h1, ← h2, ← h3]
    simp only
    by_cases c1 : o < p.base <;> by_cases c2 : o ≤ q.off <;> by_cases c3 : a < 0 <;> by_cases c4 : s < 1 <;> by_cases c5 : a < q.end_ <;> simp [c1, c2, c3, c4, c5]
theorem Rel.entry {x : Ix} {p : Pl} (h : Rel x p) (a : Int) : addE x a = plE p a := by
  unfold addE plE
  rw [← h.l, ← lastE_ents, h.every]
  cases lastE x.l <;> rfl
theorem Rel.add {x : Ix} {p : Pl} (h : Rel x p) (o a s : Int) : Rel (addI x o a s) (plAdd p o a s) := by
  refine ⟨h.base, h.every, ?_, h.b0, .inr ⟨_, by simp [addI]; rfl, rfl, rfl⟩⟩
  show ents (x.l ++ [_]) = _
  rw [ents_app, ents_cons, h.l, h.entry]
  unfold plAdd
  cases plE p a <;> simp [ents]
structure Ask where
  kind : Int
  at_ : Int
  size : Int
  off : Int
abbrev Ask.v (a : Ask) : AVal := .agg [.int .i64 a.kind, .int .i64 a.at_, .int .i64 a.size, .int .i64 a.off]
/-- Its bounds: what was added lies below 2^41. -/
structure PB (x : Ix) (p : Pl) (fl fp : Fl) : Prop where
  rel : Rel x p
  fx : Flag x fl
  fp : fp = .own ∨ (fp = .full ∧ p.l = [])
  inv : IxInv x (p.last + 1) p.end_
  e0 : 0 ≤ p.end_ ∧ p.end_ ≤ 2199023255552
  k1 : 1 ≤ x.every
  offs : ∀ a ∈ x.l, p.base ≤ a.off ∧ I64 a.off
theorem PB.add {x p fl fp} (h : PB x p fl fp) {o a s : Int} (ho : I64 o) (ha : a < 1099511627776) (hs : s < 1099511627776) (hok : addOK x o a s = true) : PB (addI x o a s) (plAdd p o a s) .own .own := by
  have hpl := hok
  rw [h.rel.ok] at hpl
  unfold plOK at hpl
  simp only [Bool.and_eq_true, decide_eq_true_eq] at hpl
  obtain ⟨c1, c2, c3, c4, c5⟩ := hpl
  have hw : IntKind.i64.wrap (a + s) = a + s := wrap_id (by unfold I64; omega)
  have hh := (h.inv.add (o := o) (a := a) (s := s) (by omega) (by omega) (by omega) (by omega) (by omega) (by rw [h.rel.base]; omega)).2
  refine ⟨h.rel.add o a s, .inl rfl, .inl rfl, ?_, ?_, h.k1, ?_⟩
  · show IxInv _ (o + 1) (IntKind.i64.wrap (a + s)); rw [hw]; exact hh
  · show 0 ≤ IntKind.i64.wrap (a + s) ∧ IntKind.i64.wrap (a + s) ≤ _; rw [hw]; omega
  · intro b hb
    rcases List.mem_append.1 hb with hb | hb
    · exact h.offs b hb
    · rw [List.mem_singleton] at hb; subst hb; exact ⟨by show p.base ≤ o; omega, ho⟩
theorem play_loop (l : List Ask) (hl : l.length < 70368744177664) (hI : ∀ a ∈ l, I64 a.off) (base every : Int) (H : Heap) : ∀ (r s : List Ask) (x : Ix) (p : Pl) (fl fp : Fl) (M : Heap), l = s ++ r → PB x p fl fp → x.l.length ≤ s.length → s.length ≤ 80 →
    ∃ x' p' fl' fp' N, PB x' p' fl' fp' ∧ x'.base = x.base ∧ x'.every = x.every ∧ x'.l.length ≤ 80 ∧ loopA W loopW (.ghost (.kill k_law8_play_0) l_law8_play_0) [(0, .int .i64 base), (1, .int .i64 every), (2, .list 4 (l.map Ask.v) .ro), (7, .ptr (pt H 0) 0), (8, .ptr (pt H 1) 0), (9, .int .i64 s.length)] (hx H (x.B fl :: p.B fp :: M)) =
      some (.exit 0, [(0, .int .i64 base), (1, .int .i64 every), (7, .ptr (pt H 0) 0), (8, .ptr (pt H 1) 0)], hx H (x'.B fl' :: p'.B fp' :: N)) := by
  have e0 : (l.map Ask.v).length = l.length := by simp
  intro r
  induction r with
  | nil =>
    intro s x p fl fp M hs hP hxl h80
    rw [List.append_nil] at hs
    subst hs
    refine ⟨x, p, fl, fp, M, hP, rfl, rfl, by omega, ?_⟩
    have h1 : ¬ ((l.length : Int) < (l.length : Int)) := by omega
    refine loop_step l_law8_play_0.eq_1 k_law8_play_0.eq_1 (by kernel_rfl) ?_
    simp only [go_sem, e0, h1, not_true_eq_false, not_false_eq_true, decide_true, decide_false, reduceCtorEq, ne_eq, Bool.false_eq_true, ↓reduceIte, Nat.reduceAdd, Nat.reduceEqDiff, Nat.reduceLT, Int.reduceLE, s_shl, s_shr, Bool.not_false, Bool.not_true, Bool.and_self, Bool.true_and, Bool.and_true, Bool.and_false, Bool.false_and, Bool.not_true, Bool.true_or, Bool.or_true, Nat.reduceSub, Nat.reduceLeDiff, Nat.reduceMul, Int.reduceToNat, Int.reduceLT, Int.reduceEq, Int.reduceNeg, and_self, and_true, true_and, and_false, false_and, or_true, true_or, or_false, false_or, Int.cast_ofNat_Int, Nat.reduceBEq, Nat.reduceBNe, beq_self_eq_true, List.take_zero, List.take_succ_cons, List.take_nil]
  | cons a r ih =>
    intro s x p fl fp M hs hP hxl h80
    have hlen : l.length = s.length + (r.length + 1) := by rw [hs, List.length_append, List.length_cons]
    have h1 : (s.length : Int) < (l.length : Int) := by omega
    by_cases c80 : (s.length : Int) < 80
    rotate_left
    · refine ⟨x, p, fl, fp, M, hP, rfl, rfl, by omega, ?_⟩
      refine loop_step l_law8_play_0.eq_1 k_law8_play_0.eq_1 (by kernel_rfl) ?_
      simp only [go_sem, e0, h1, c80, not_true_eq_false, not_false_eq_true, decide_true, decide_false, reduceCtorEq, ne_eq, Bool.false_eq_true, ↓reduceIte, Nat.reduceAdd, Nat.reduceEqDiff, Nat.reduceLT, Int.reduceLE, s_shl, s_shr, Bool.not_false, Bool.not_true, Bool.and_self, Bool.true_and, Bool.and_true, Bool.and_false, Bool.false_and, Bool.not_true, Bool.true_or, Bool.or_true, Nat.reduceSub, Nat.reduceLeDiff, Nat.reduceMul, Int.reduceToNat, Int.reduceLT, Int.reduceEq, Int.reduceNeg, and_self, and_true, true_and, and_false, false_and, or_true, true_or, or_false, false_or, Int.cast_ofNat_Int, Nat.reduceBEq, Nat.reduceBNe, beq_self_eq_true, List.take_zero, List.take_succ_cons, List.take_nil]
    have h2 : (0 : Int) ≤ (s.length : Int) := by omega
    have h3 : (l.map Ask.v)[((s.length : Nat) : Int).toNat]? = some a.v := by rw [hs]; simp
    have e1 : IntKind.i64.wrap ((s.length : Int) + 1) = ((s ++ [a]).length : Int) := by rw [wrap_id (by unfold I64; omega)]; simp
    have ha := hI a (by rw [hs]; simp)
    have hlx : x.l.length < 1000000000 := by omega
    have hel := ents_len x.l
    have hpl : p.l.length < 1000000000 := by rw [← hP.rel.l]; omega
    let ab : Box := .cells [.int .i64 a.kind, .int .i64 a.at_, .int .i64 a.size, .int .i64 a.off]
    have hP' : p.l = ents x.l := hP.rel.l.symm
    have hsame : ∀ (x : Ix) (p : Pl) (fl fp : Fl), PB x p fl fp → x.l.length ≤ s.length + 1 → W n_law8_same [.ptr (pt H 0) 0, .ptr (pt H 1) 0] (hx H (x.B fl :: p.B fp :: (M ++ [ab]))) = some (.bool true, hx H (x.B fl :: p.B fp :: (M ++ [ab]))) := by
      intro x p fl fp h hx1
      have hE : p.end_ ≤ 4611686018427387904 := by have := h.e0; omega
      exact same_spec x fl h.fx (by omega) (h.inv.I64 hE) (pt H 0) _ ⟨by rw [hx_get]; rfl⟩ p fp (by rcases h.fp with h | ⟨h, _⟩ <;> simp [h]) (pt H 1) ⟨by rw [hx_get]; rfl⟩ h.rel.base h.rel.l
    by_cases c4 : a.kind = 4
    · -- it is found
      have hsrt := GapS.srt hP.k1 hP.inv.gap
      have hf := find_spec x fl hP.fx hlx (pt H 0) (hx H (x.B fl :: p.B fp :: (M ++ [ab]))) ⟨by rw [hx_get]; rfl⟩ hsrt a.off
      have hpf := pfind_spec p fp hP.fp hpl (pt H 1) (hx H (x.B fl :: p.B fp :: (M ++ [ab]))) ⟨by rw [hx_get]; rfl⟩ a.off
      rw [hP.rel.l] at hf
      have hsm := hsame x p fl fp hP (by omega)
      have n1 : (decide (¬ findP p.l a.off 0 = findP p.l a.off 0)) = false := by simp
      obtain ⟨x', p', fl', fp', N, r1, r2, r3, r4, hN⟩ := ih (s ++ [a]) x p fl fp (M ++ [ab]) (by rw [hs]; simp) hP (by simp; omega) (by simp; omega)
      refine ⟨x', p', fl', fp', N, r1, r2, r3, r4, loop_step l_law8_play_0.eq_1 k_law8_play_0.eq_1 (by kernel_rfl) ?_⟩
      simp only [ab] at hf hpf hsm hN
      simp only [go_sem, e0, h1, c80, h2, h3, e1, eq_true c4, hf, hpf, hsm, n1, not_true_eq_false, not_false_eq_true, decide_true, decide_false, reduceCtorEq, ne_eq, Bool.false_eq_true, ↓reduceIte, Nat.reduceAdd, Nat.reduceEqDiff, Nat.reduceLT, Int.reduceLE, s_shl, s_shr, Bool.not_false, Bool.not_true, Bool.and_self, Bool.true_and, Bool.and_true, Bool.and_false, Bool.false_and, Bool.not_true, Bool.true_or, Bool.or_true, Nat.reduceSub, Nat.reduceLeDiff, Nat.reduceMul, Int.reduceToNat, Int.reduceLT, Int.reduceEq, Int.reduceNeg, and_self, and_true, true_and, and_false, false_and, or_true, true_or, or_false, false_or, Int.cast_ofNat_Int, Nat.reduceBEq, Nat.reduceBNe, beq_self_eq_true, List.take_zero, List.take_succ_cons, List.take_nil]
      exact hN
    · by_cases cc : a.kind < 4 ∧ a.size < 1099511627776 ∧ a.at_ < 1099511627776
      · obtain ⟨k1, k2, k3⟩ := cc
        cases hok : addOK x a.off a.at_ a.size with
        | false =>
          have hadd := add_false x fl hP.fx hlx (pt H 0) (hx H (x.B fl :: p.B fp :: (M ++ [ab]))) ⟨by rw [hx_get]; rfl⟩ a.off a.at_ a.size hok
          have hpadd := padd_false p fp hP.fp hpl (pt H 1) (hx H (x.B fl :: p.B fp :: (M ++ [ab]))) ⟨by rw [hx_get]; rfl⟩ a.off a.at_ a.size (by rw [← hP.rel.ok]; exact hok)
          have hsm := hsame x p fl fp hP (by omega)
          obtain ⟨x', p', fl', fp', N, r1, r2, r3, r4, hN⟩ := ih (s ++ [a]) x p fl fp (M ++ [ab]) (by rw [hs]; simp) hP (by simp; omega) (by simp; omega)
          refine ⟨x', p', fl', fp', N, r1, r2, r3, r4, loop_step l_law8_play_0.eq_1 k_law8_play_0.eq_1 (by kernel_rfl) ?_⟩
          simp only [ab] at hadd hpadd hsm hN
          simp only [go_sem, e0, h1, c80, h2, h3, e1, c4, k1, k2, k3, hadd, hpadd, hsm, bne_self_eq_false, not_true_eq_false, not_false_eq_true, decide_true, decide_false, reduceCtorEq, ne_eq, Bool.false_eq_true, ↓reduceIte, Nat.reduceAdd, Nat.reduceEqDiff, Nat.reduceLT, Int.reduceLE, s_shl, s_shr, Bool.not_false, Bool.not_true, Bool.and_self, Bool.true_and, Bool.and_true, Bool.and_false, Bool.false_and, Bool.not_true, Bool.true_or, Bool.or_true, Nat.reduceSub, Nat.reduceLeDiff, Nat.reduceMul, Int.reduceToNat, Int.reduceLT, Int.reduceEq, Int.reduceNeg, and_self, and_true, true_and, and_false, false_and, or_true, true_or, or_false, false_or, Int.cast_ofNat_Int, Nat.reduceBEq, Nat.reduceBNe, beq_self_eq_true, List.take_zero, List.take_succ_cons, List.take_nil]
          exact hN
        | true =>
          have hadd := add_true x fl hP.fx hlx (pt H 0) (hx H (x.B fl :: p.B fp :: (M ++ [ab]))) ⟨by rw [hx_get]; rfl⟩ a.off a.at_ a.size hok
          rw [hx_set, List.set_cons_zero] at hadd
          have hpadd := padd_true p fp hP.fp hpl (pt H 1) (hx H ((addI x a.off a.at_ a.size).B .own :: p.B fp :: (M ++ [ab]))) ⟨by rw [hx_get]; rfl⟩ a.off a.at_ a.size (by rw [← hP.rel.ok]; exact hok)
          rw [hx_set, List.set_cons_succ, List.set_cons_zero] at hpadd
          have hPn := hP.add ha k3 k2 hok
          have hl' : (addI x a.off a.at_ a.size).l.length = x.l.length + 1 := by simp [addI]
          have hsm := hsame _ _ .own .own hPn (by omega)
          obtain ⟨x', p', fl', fp', N, r1, r2, r3, r4, hN⟩ := ih (s ++ [a]) _ _ .own .own (M ++ [ab]) (by rw [hs]; simp) hPn (by simp; omega) (by simp; omega)
          refine ⟨x', p', fl', fp', N, r1, r2, r3, r4, loop_step l_law8_play_0.eq_1 k_law8_play_0.eq_1 (by kernel_rfl) ?_⟩
          simp only [ab] at hadd hpadd hsm hN
          simp only [go_sem, e0, h1, c80, h2, h3, e1, c4, k1, k2, k3, hadd, hpadd, hsm, bne_self_eq_false, not_true_eq_false, not_false_eq_true, decide_true, decide_false, reduceCtorEq, ne_eq, Bool.false_eq_true, ↓reduceIte, Nat.reduceAdd, Nat.reduceEqDiff, Nat.reduceLT, Int.reduceLE, s_shl, s_shr, Bool.not_false, Bool.not_true, Bool.and_self, Bool.true_and, Bool.and_true, Bool.and_false, Bool.false_and, Bool.not_true, Bool.true_or, Bool.or_true, Nat.reduceSub, Nat.reduceLeDiff, Nat.reduceMul, Int.reduceToNat, Int.reduceLT, Int.reduceEq, Int.reduceNeg, and_self, and_true, true_and, and_false, false_and, or_true, true_or, or_false, false_or, Int.cast_ofNat_Int, Nat.reduceBEq, Nat.reduceBNe, beq_self_eq_true, List.take_zero, List.take_succ_cons, List.take_nil]
          exact hN
      · have hsm := hsame x p fl fp hP (by omega)
        obtain ⟨x', p', fl', fp', N, r1, r2, r3, r4, hN⟩ := ih (s ++ [a]) x p fl fp (M ++ [ab]) (by rw [hs]; simp) hP (by simp; omega) (by simp; omega)
        refine ⟨x', p', fl', fp', N, r1, r2, r3, r4, loop_step l_law8_play_0.eq_1 k_law8_play_0.eq_1 (by kernel_rfl) ?_⟩
        simp only [ab] at hsm hN
        by_cases k1 : a.kind < 4
        · by_cases k2 : a.size < 1099511627776
          · have k3 : ¬ a.at_ < 1099511627776 := fun h => cc ⟨k1, k2, h⟩
            simp only [go_sem, e0, h1, c80, h2, h3, e1, c4, k1, k2, k3, hsm, not_true_eq_false, not_false_eq_true, decide_true, decide_false, reduceCtorEq, ne_eq, Bool.false_eq_true, ↓reduceIte, Nat.reduceAdd, Nat.reduceEqDiff, Nat.reduceLT, Int.reduceLE, s_shl, s_shr, Bool.not_false, Bool.not_true, Bool.and_self, Bool.true_and, Bool.and_true, Bool.and_false, Bool.false_and, Bool.not_true, Bool.true_or, Bool.or_true, Nat.reduceSub, Nat.reduceLeDiff, Nat.reduceMul, Int.reduceToNat, Int.reduceLT, Int.reduceEq, Int.reduceNeg, and_self, and_true, true_and, and_false, false_and, or_true, true_or, or_false, false_or, Int.cast_ofNat_Int, Nat.reduceBEq, Nat.reduceBNe, beq_self_eq_true, List.take_zero, List.take_succ_cons, List.take_nil]
            exact hN
          · simp only [go_sem, e0, h1, c80, h2, h3, e1, c4, k1, k2, hsm, not_true_eq_false, not_false_eq_true, decide_true, decide_false, reduceCtorEq, ne_eq, Bool.false_eq_true, ↓reduceIte, Nat.reduceAdd, Nat.reduceEqDiff, Nat.reduceLT, Int.reduceLE, s_shl, s_shr, Bool.not_false, Bool.not_true, Bool.and_self, Bool.true_and, Bool.and_true, Bool.and_false, Bool.false_and, Bool.not_true, Bool.true_or, Bool.or_true, Nat.reduceSub, Nat.reduceLeDiff, Nat.reduceMul, Int.reduceToNat, Int.reduceLT, Int.reduceEq, Int.reduceNeg, and_self, and_true, true_and, and_false, false_and, or_true, true_or, or_false, false_or, Int.cast_ofNat_Int, Nat.reduceBEq, Nat.reduceBNe, beq_self_eq_true, List.take_zero, List.take_succ_cons, List.take_nil]
            exact hN
        · simp only [go_sem, e0, h1, c80, h2, h3, e1, c4, k1, hsm, not_true_eq_false, not_false_eq_true, decide_true, decide_false, reduceCtorEq, ne_eq, Bool.false_eq_true, ↓reduceIte, Nat.reduceAdd, Nat.reduceEqDiff, Nat.reduceLT, Int.reduceLE, s_shl, s_shr, Bool.not_false, Bool.not_true, Bool.and_self, Bool.true_and, Bool.and_true, Bool.and_false, Bool.false_and, Bool.not_true, Bool.true_or, Bool.or_true, Nat.reduceSub, Nat.reduceLeDiff, Nat.reduceMul, Int.reduceToNat, Int.reduceLT, Int.reduceEq, Int.reduceNeg, and_self, and_true, true_and, and_false, false_and, or_true, true_or, or_false, false_or, Int.cast_ofNat_Int, Nat.reduceBEq, Nat.reduceBNe, beq_self_eq_true, List.take_zero, List.take_succ_cons, List.take_nil]
          exact hN
end Go.Abs

namespace Go.Abs
open Go Go.RowKit
set_option linter.unusedVariables false
set_option linter.unusedSimpArgs false

theorem play_spec (base every : Int) (l : List Ask) (hl : l.length < 70368744177664) (hI : ∀ a ∈ l, I64 a.off) (H : Heap) :
    W n_law8_play [.int .i64 base, .int .i64 every, .list 4 (l.map Ask.v) .ro] H = some (.bool true, H) := by
  have hnew := fun H => new_spec base every H
  cases hok : newOK base every with
  | false =>
    rw [hok] at hnew
    simp only [Bool.false_eq_true, if_false] at hnew
    unfold newOK at hok
    refine W_fn rfl rfl ?_
    by_cases c1 : base < 0
    · simp only [go_sem, c_law8_play, hnew, c1, not_true_eq_false, not_false_eq_true, decide_true, decide_false, reduceCtorEq, ne_eq, Bool.false_eq_true, ↓reduceIte, Nat.reduceAdd, Nat.reduceEqDiff, Nat.reduceLT, Int.reduceLE, s_shl, s_shr, Bool.not_false, Bool.not_true, Bool.and_self, Bool.true_and, Bool.and_true, Bool.and_false, Bool.false_and, Bool.not_true, Bool.true_or, Bool.or_true, Nat.reduceSub, Nat.reduceLeDiff, Nat.reduceMul, Int.reduceToNat, Int.reduceLT, Int.reduceEq, Int.reduceNeg, and_self, and_true, true_and, and_false, false_and, or_true, true_or, or_false, false_or, Int.cast_ofNat_Int, Nat.reduceBEq, Nat.reduceBNe, beq_self_eq_true, List.take_zero, List.take_succ_cons, List.take_nil]
    · by_cases c2 : base > 1099511627776
      · simp only [go_sem, c_law8_play, hnew, c1, c2, not_true_eq_false, not_false_eq_true, decide_true, decide_false, reduceCtorEq, ne_eq, Bool.false_eq_true, ↓reduceIte, Nat.reduceAdd, Nat.reduceEqDiff, Nat.reduceLT, Int.reduceLE, s_shl, s_shr, Bool.not_false, Bool.not_true, Bool.and_self, Bool.true_and, Bool.and_true, Bool.and_false, Bool.false_and, Bool.not_true, Bool.true_or, Bool.or_true, Nat.reduceSub, Nat.reduceLeDiff, Nat.reduceMul, Int.reduceToNat, Int.reduceLT, Int.reduceEq, Int.reduceNeg, and_self, and_true, true_and, and_false, false_and, or_true, true_or, or_false, false_or, Int.cast_ofNat_Int, Nat.reduceBEq, Nat.reduceBNe, beq_self_eq_true, List.take_zero, List.take_succ_cons, List.take_nil]
      · by_cases c3 : every < 1
        · simp only [go_sem, c_law8_play, hnew, c1, c2, c3, not_true_eq_false, not_false_eq_true, decide_true, decide_false, reduceCtorEq, ne_eq, Bool.false_eq_true, ↓reduceIte, Nat.reduceAdd, Nat.reduceEqDiff, Nat.reduceLT, Int.reduceLE, s_shl, s_shr, Bool.not_false, Bool.not_true, Bool.and_self, Bool.true_and, Bool.and_true, Bool.and_false, Bool.false_and, Bool.not_true, Bool.true_or, Bool.or_true, Nat.reduceSub, Nat.reduceLeDiff, Nat.reduceMul, Int.reduceToNat, Int.reduceLT, Int.reduceEq, Int.reduceNeg, and_self, and_true, true_and, and_false, false_and, or_true, true_or, or_false, false_or, Int.cast_ofNat_Int, Nat.reduceBEq, Nat.reduceBNe, beq_self_eq_true, List.take_zero, List.take_succ_cons, List.take_nil]
        · have c4 : every > 1073741824 := by simp only [c1, c2, c3] at hok; simpa using hok
          simp only [go_sem, c_law8_play, hnew, c1, c2, c3, c4, not_true_eq_false, not_false_eq_true, decide_true, decide_false, reduceCtorEq, ne_eq, Bool.false_eq_true, ↓reduceIte, Nat.reduceAdd, Nat.reduceEqDiff, Nat.reduceLT, Int.reduceLE, s_shl, s_shr, Bool.not_false, Bool.not_true, Bool.and_self, Bool.true_and, Bool.and_true, Bool.and_false, Bool.false_and, Bool.not_true, Bool.true_or, Bool.or_true, Nat.reduceSub, Nat.reduceLeDiff, Nat.reduceMul, Int.reduceToNat, Int.reduceLT, Int.reduceEq, Int.reduceNeg, and_self, and_true, true_and, and_false, false_and, or_true, true_or, or_false, false_or, Int.cast_ofNat_Int, Nat.reduceBEq, Nat.reduceBNe, beq_self_eq_true, List.take_zero, List.take_succ_cons, List.take_nil]
  | true =>
    have hrd' := hok
    rw [hok] at hnew
    simp only [if_true] at hnew
    unfold newOK at hok
    simp only [Bool.and_eq_true, decide_eq_true_eq] at hok
    obtain ⟨c1, c2, c3, c4⟩ := hok
    have hPB : PB ⟨base, every, []⟩ ⟨base, -1, every, 0, []⟩ .full .full := by
      refine ⟨⟨rfl, rfl, rfl, by show 0 ≤ base; omega, .inl ⟨rfl, rfl, rfl⟩⟩, .inr ⟨rfl, rfl⟩, .inr ⟨rfl, rfl⟩, IxInv.nil _ _ _ _, ⟨Int.le_refl 0, by show (0 : Int) ≤ 2199023255552; decide⟩, by show 1 ≤ every; omega, by simp⟩
    obtain ⟨x, p, fl, fp, N, r1, r2, r3, r4, hN⟩ := play_loop l hl hI base every H l [] ⟨base, every, []⟩ ⟨base, -1, every, 0, []⟩ .full .full [] rfl hPB (Nat.le_refl _) (by simp)
    simp only [Ix.B, Pl.B, List.map_nil, List.length_nil, show ((0 : Nat) : Int) = 0 from rfl] at hN
    simp only at r2 r3
    have hE : p.end_ ≤ 4611686018427387904 := by have := r1.e0; omega
    have hI64 := r1.inv.I64 hE
    have hel := ents_len x.l
    have hby := bytes_spec x fl r1.fx (by omega) hI64 (pt H 0) (hx H (x.B fl :: p.B fp :: N)) ⟨by rw [hx_get]; rfl⟩
    rw [r2] at hby
    have hbI : ∀ e ∈ ents x.l, base ≤ e.1 ∧ e.1 ≤ 9223372036854775807 ∧ 0 ≤ e.2 ∧ e.2 ≤ 4611686018427387904 := by
      intro e he
      unfold ents at he
      obtain ⟨c, hc, rfl⟩ := List.mem_map.1 he
      have hc := (List.mem_filter.1 hc).1
      have h1 := r1.inv.be c hc
      have h2 := r1.offs c hc
      have h3 := r1.rel.base
      unfold I64 at h2
      simp only; omega
    have hrd := fun H => read_good base every hrd' (ents x.l) (by omega) (r3 ▸ r1.inv.gap) hbI H
    have hE' : ents (rdX base every (ents x.l)).l = p.l := (ents_rd _).trans r1.rel.l
    have hsm := same_spec (rdX base every (ents x.l)) (rdF (ents x.l)) (rd_flag _ _ _) (by simp [rdX]; omega) (by
      intro a ha
      simp only [rdX] at ha
      obtain ⟨e, he, rfl⟩ := List.mem_map.1 ha
      have := hbI e he
      show I64 e.2
      unfold I64; omega) (pt H (N.length + 1 + 1)) (hx H (x.B fl :: p.B fp :: (N ++ [(rdX base every (ents x.l)).B (rdF (ents x.l))]))) ⟨by rw [hx_get, List.getElem?_cons_succ, List.getElem?_cons_succ, mx_0]; rfl⟩
      p fp (by rcases r1.fp with h | ⟨h, _⟩ <;> simp [h]) (pt H 1) ⟨by rw [hx_get]; rfl⟩ (by show base = p.base; rw [← r1.rel.base, r2]) hE'
    generalize (rdX base every (ents x.l)).B (rdF (ents x.l)) = B2 at hrd hsm
    simp only [Ix.B, Pl.B] at hby hrd hsm
    refine W_fn rfl rfl ?_
    simp only [go_sem, c_law8_play, hnew, c1, c2, c3, c4, hN, hby, hrd, hsm, Ix.B, Pl.B, not_true_eq_false, not_false_eq_true, decide_true, decide_false, reduceCtorEq, ne_eq, Bool.false_eq_true, ↓reduceIte, Nat.reduceAdd, Nat.reduceEqDiff, Nat.reduceLT, Int.reduceLE, s_shl, s_shr, Bool.not_false, Bool.not_true, Bool.and_self, Bool.true_and, Bool.and_true, Bool.and_false, Bool.false_and, Bool.not_true, Bool.true_or, Bool.or_true, Nat.reduceSub, Nat.reduceLeDiff, Nat.reduceMul, Int.reduceToNat, Int.reduceLT, Int.reduceEq, Int.reduceNeg, and_self, and_true, true_and, and_false, false_and, or_true, true_or, or_false, false_or, Int.cast_ofNat_Int, Nat.reduceBEq, Nat.reduceBNe, beq_self_eq_true, List.take_zero, List.take_succ_cons, List.take_nil]
/-- What is played first. -/
theorem plays_loop (ns : List Int) (hns : ∀ x ∈ ns, I64 x) (hl : ns.length < 2000000) (X0 X1 : Int) (L : List AVal) (H : Heap) : ∀ (r s : List Int) (B : List Ask) (fb : Fl) (a o : Int), ns = s ++ r → (fb = .own ∨ (fb = .full ∧ B = [])) → B.length = 2 * s.length → (∀ b ∈ B, I64 b.off) → 0 ≤ a → a ≤ 61 * (s.length : Nat) → 0 ≤ o → o ≤ 65536 + 5 * (s.length : Nat) →
    ∃ (B' : List Ask) (fb' : Fl), (fb' = .own ∨ fb' = .full) ∧ B'.length < 70368744177664 ∧ (∀ b ∈ B', I64 b.off) ∧
    loopA W loopW (.ghost (.kill k_law8_IndexPlays_0) l_law8_IndexPlays_0) [(0, .int .i64 X0), (1, .int .i64 X1), (2, .list 4 L .ro), (3, .list 1 (ints .i64 ns) .ro), (9, .list 4 (B.map Ask.v) fb), (10, .int .i64 a), (11, .int .i64 o), (17, .int .i64 ns.length), (18, .int .i64 s.length)] H =
      some (.exit 0, [(0, .int .i64 X0), (1, .int .i64 X1), (2, .list 4 L .ro), (9, .list 4 (B'.map Ask.v) fb')], H) := by
  intro r
  induction r with
  | nil =>
    intro s B fb a o hs hfb hB hBo _ _ _ _
    rw [List.append_nil] at hs
    subst hs
    refine ⟨B, fb, by rcases hfb with h | ⟨h, _⟩ <;> simp [h], by omega, hBo, ?_⟩
    have h1 : ¬ ((ns.length : Int) < (ns.length : Int)) := by omega
    refine loop_step l_law8_IndexPlays_0.eq_1 k_law8_IndexPlays_0.eq_1 (by kernel_rfl) ?_
    rcases hfb with rfl | ⟨rfl, _⟩ <;> simp only [go_sem, h1, not_true_eq_false, not_false_eq_true, decide_true, decide_false, reduceCtorEq, ne_eq, Bool.false_eq_true, ↓reduceIte, Nat.reduceAdd, Nat.reduceEqDiff, Nat.reduceLT, Int.reduceLE, s_shl, s_shr, Bool.not_false, Bool.not_true, Bool.and_self, Bool.true_and, Bool.and_true, Bool.and_false, Bool.false_and, Bool.not_true, Bool.true_or, Bool.or_true, Nat.reduceSub, Nat.reduceLeDiff, Nat.reduceMul, Int.reduceToNat, Int.reduceLT, Int.reduceEq, Int.reduceNeg, and_self, and_true, true_and, and_false, false_and, or_true, true_or, or_false, false_or, Int.cast_ofNat_Int, Nat.reduceBEq, Nat.reduceBNe, beq_self_eq_true, List.take_zero, List.take_succ_cons, List.take_nil]
  | cons c r ih =>
    intro s B fb a o hs hfb hB hBo a0 a1 o0 o1
    have hlen : ns.length = s.length + (r.length + 1) := by rw [hs, List.length_append, List.length_cons]
    have h1 : (s.length : Int) < (ns.length : Int) := by omega
    have h2 : (0 : Int) ≤ (s.length : Int) := by omega
    have h3 : (ints .i64 ns)[((s.length : Nat) : Int).toNat]? = some (.int .i64 c) := by rw [hs]; simp
    have e1 : IntKind.i64.wrap ((s.length : Int) + 1) = ((s ++ [c]).length : Int) := by rw [wrap_id (by unfold I64; omega)]; simp
    have hw := fun H => within_spec c 0 60 H (by decide) (by decide) (by decide)
    have hr := withinQ_range c 0 60 (by decide)
    generalize withinQ c 0 60 = n at hw hr
    have w1 : IntKind.i64.wrap (1 + n) = 1 + n := wrap_id (by unfold I64; omega)
    have w2 := and_3 c
    have w3 : IntKind.i64.wrap (o + c % 8) = o + c % 8 := wrap_id (by unfold I64; omega)
    have w4 : IntKind.i64.wrap (o + c % 8 - 3) = o + c % 8 - 3 := wrap_id (by unfold I64; omega)
    have w5 : IntKind.i64.wrap (a + (1 + n)) = a + (1 + n) := wrap_id (by unfold I64; omega)
    have t0 : (1 + n).tmod 5 = (1 + n) % 5 := Int.tmod_eq_emod_of_nonneg (by omega)
    have w6 : IntKind.i64.wrap (o + (1 + n) % 5) = o + (1 + n) % 5 := wrap_id (by unfold I64; omega)
    have w7 : IntKind.i64.wrap (o + (1 + n) % 5 + 1) = o + (1 + n) % 5 + 1 := wrap_id (by unfold I64; omega)
    have b1 : B.map Ask.v ++ [AVal.agg [.int .i64 0, .int .i64 a, .int .i64 (1 + n), .int .i64 o], AVal.agg [.int .i64 4, .int .i64 0, .int .i64 0, .int .i64 (o + c % 8 - 3)]] = (B ++ [(⟨0, a, 1 + n, o⟩ : Ask), ⟨4, 0, 0, o + c % 8 - 3⟩]).map Ask.v := by simp
    have b2 : ((B.map Ask.v).length + 2) * 32 ≤ maxBytes := by simp [maxBytes]; omega
    obtain ⟨B', fb', r1, r2, r3, hN⟩ := ih (s ++ [c]) (B ++ [⟨0, a, 1 + n, o⟩, ⟨4, 0, 0, o + c % 8 - 3⟩]) .own (a + (1 + n)) (o + (1 + n) % 5 + 1) (by rw [hs]; simp) (.inl rfl) (by simp; omega) (by
      intro b hb
      rcases List.mem_append.1 hb with hb | hb
      · exact hBo b hb
      · simp only [List.mem_cons, List.not_mem_nil, or_false] at hb
        rcases hb with rfl | rfl <;> (unfold I64; simp only; omega)) (by omega) (by simp; omega) (by omega) (by simp; omega)
    refine ⟨B', fb', r1, r2, r3, loop_step l_law8_IndexPlays_0.eq_1 k_law8_IndexPlays_0.eq_1 (by kernel_rfl) ?_⟩
    rcases hfb with rfl | ⟨rfl, _⟩ <;> (simp only [go_sem, h1, h2, h3, e1, hw, w1, w2, w3, w4, w5, t0, w6, w7, apO, apF, b1, b2, not_true_eq_false, not_false_eq_true, decide_true, decide_false, reduceCtorEq, ne_eq, Bool.false_eq_true, ↓reduceIte, Nat.reduceAdd, Nat.reduceEqDiff, Nat.reduceLT, Int.reduceLE, s_shl, s_shr, Bool.not_false, Bool.not_true, Bool.and_self, Bool.true_and, Bool.and_true, Bool.and_false, Bool.false_and, Bool.not_true, Bool.true_or, Bool.or_true, Nat.reduceSub, Nat.reduceLeDiff, Nat.reduceMul, Int.reduceToNat, Int.reduceLT, Int.reduceEq, Int.reduceNeg, and_self, and_true, true_and, and_false, false_and, or_true, true_or, or_false, false_or, Int.cast_ofNat_Int, Nat.reduceBEq, Nat.reduceBNe, beq_self_eq_true, List.take_zero, List.take_succ_cons, List.take_nil]; exact hN)
theorem plays_spec (base every : Int) (l : List Ask) (ns : List Int) (hb : I64 base) (he : I64 every) (hI : ∀ a ∈ l, I64 a.off) (hl : l.length < 2000000) (hns : ∀ x ∈ ns, I64 x) (hn : ns.length < 2000000) :
    W n_law8_IndexPlays [.int .i64 base, .int .i64 every, .list 4 (l.map Ask.v) .ro, .list 1 (ints .i64 ns) .ro] [] = some (.bool true, []) := by
  have h16 := and_16 base
  obtain ⟨B, fb, r1, r2, r3, hN⟩ := plays_loop ns hns hn base every (l.map Ask.v) (hx [] []) ns [] [] .full 0 (base % 65536) rfl (.inr ⟨rfl, rfl⟩) rfl (by simp) (Int.le_refl _) (by simp) (by omega) (by simp; omega)
  simp only [List.map_nil, List.length_nil, show ((0 : Nat) : Int) = 0 from rfl] at hN
  have hw := fun H => within_spec every 0 100 H (by decide) (by decide) (by decide)
  have hr := withinQ_range every 0 100 (by decide)
  generalize withinQ every 0 100 = n at hw hr
  have w1 : IntKind.i64.wrap (1 + n) = 1 + n := wrap_id (by unfold I64; omega)
  have p1 := fun H => play_spec (base % 65536) (1 + n) B r2 r3 H
  have p2 := fun H => play_spec base every l (by omega) hI H
  have p3 := fun H => play_spec 0 1 l (by omega) hI H
  have e3 : (ints .i64 ns).length = ns.length := by simp
  refine W_fn rfl rfl ?_
  rcases r1 with rfl | rfl <;> simp only [go_sem, c_law8_IndexPlays, h16, e3, hN, hw, w1, p1, p2, p3, known_spec, not_true_eq_false, not_false_eq_true, decide_true, decide_false, reduceCtorEq, ne_eq, Bool.false_eq_true, ↓reduceIte, Nat.reduceAdd, Nat.reduceEqDiff, Nat.reduceLT, Int.reduceLE, s_shl, s_shr, Bool.not_false, Bool.not_true, Bool.and_self, Bool.true_and, Bool.and_true, Bool.and_false, Bool.false_and, Bool.not_true, Bool.true_or, Bool.or_true, Nat.reduceSub, Nat.reduceLeDiff, Nat.reduceMul, Int.reduceToNat, Int.reduceLT, Int.reduceEq, Int.reduceNeg, and_self, and_true, true_and, and_false, false_and, or_true, true_or, or_false, false_or, Int.cast_ofNat_Int, Nat.reduceBEq, Nat.reduceBNe, beq_self_eq_true, List.take_zero, List.take_succ_cons, List.take_nil]
end Go.Abs

namespace Go.Abs
open Go Go.RowKit
set_option linter.unusedVariables false
set_option linter.unusedSimpArgs false
theorem asks_of : ∀ (rows : List (List AVal)), (∀ r ∈ rows, Reps [.int .i64, .int .i64, .int .i64, .int .i64] r) → ∃ l : List Ask, rows.map AVal.agg = l.map Ask.v ∧ (∀ a ∈ l, I64 a.off) ∧ l.length = rows.length
  | [], _ => ⟨[], rfl, by simp, rfl⟩
  | r :: rows, h => by
    obtain ⟨l, h1, h2, h3⟩ := asks_of rows fun r hr => h r (List.mem_cons_of_mem _ hr)
    have hr := h r (by simp)
    cases hr with | cons a hr =>
    cases hr with | cons b hr =>
    cases hr with | cons c hr =>
    cases hr with | cons d hr =>
    cases hr with | nil =>
    cases a with | int _ na ha =>
    cases b with | int _ nb hb =>
    cases c with | int _ nc hc =>
    cases d with | int _ nd hd =>
    refine ⟨⟨na, nb, nc, nd⟩ :: l, by rw [List.map_cons, List.map_cons, h1], ?_, by simp [h3]⟩
    intro q hq
    rcases List.mem_cons.1 hq with rfl | hq
    · exact wf_i64 hd
    · exact h2 q hq
end Go.Abs

