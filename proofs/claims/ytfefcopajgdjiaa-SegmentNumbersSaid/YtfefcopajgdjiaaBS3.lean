import Derived.Test.YtfefcopajgdjiaaBS2
namespace Go.Abs
open Go Go.RowKit
set_option linter.unusedVariables false
set_option linter.unusedSimpArgs false


theorem shl7 (i : Nat) (hi : i < 10) (c : Int) : shl .u64 c ((i : Int) * 7) = (c * 128 ^ i) % 18446744073709551616 := by
 unfold shl
 rw [Num.wu64]
 have e : min ((i : Int) * 7).toNat IntKind.u64.bits = 7 * i := by show min _ 64 = _; omega
 rw [e, show (2 : Int) ^ (7 * i) = 128 ^ i by rw [Int.pow_mul]; rfl]
theorem shr7 (i : Nat) (hi : i < 10) (c : Int) : shr .u64 c ((i : Int) * 7) = c / 128 ^ i := by
 unfold shr
 have e : min ((i : Int) * 7).toNat IntKind.u64.bits = 7 * i := by show min _ 64 = _; omega
 rw [e, show (2 : Int) ^ (7 * i) = 128 ^ i by rw [Int.pow_mul]; rfl]
/-- Back and forth: what is left of a group of seven bits at its place. -/
theorem group (i : Nat) (hi : i < 10) (c : Int) (h0 : 0 ≤ c) (h1 : c < 128) : ((c * 128 ^ i) % 18446744073709551616 / 128 ^ i = c) ↔ ¬ (i = 9 ∧ c ≥ 2) := by
 match i, hi with
 | 0, _ => have e : (128 : Int) ^ 0 = 1 := rfl; rw [e]; omega
 | 1, _ => have e : (128 : Int) ^ 1 = 128 := rfl; rw [e]; omega
 | 2, _ => have e : (128 : Int) ^ 2 = 16384 := rfl; rw [e]; omega
 | 3, _ => have e : (128 : Int) ^ 3 = 2097152 := rfl; rw [e]; omega
 | 4, _ => have e : (128 : Int) ^ 4 = 268435456 := rfl; rw [e]; omega
 | 5, _ => have e : (128 : Int) ^ 5 = 34359738368 := rfl; rw [e]; omega
 | 6, _ => have e : (128 : Int) ^ 6 = 4398046511104 := rfl; rw [e]; omega
 | 7, _ => have e : (128 : Int) ^ 7 = 562949953421312 := rfl; rw [e]; omega
 | 8, _ => have e : (128 : Int) ^ 8 = 72057594037927936 := rfl; rw [e]; omega
 | 9, _ => have e : (128 : Int) ^ 9 = 9223372036854775808 := rfl; rw [e]; omega
/-- A group of seven bits is put above what there is. -/
theorem joins (i : Nat) (hi : i < 10) (u c : Int) (u0 : 0 ≤ u) (u1 : u < 128 ^ i) (h0 : 0 ≤ c) (h1 : c < 128) :
  bits .or .u64 u ((c * 128 ^ i) % 18446744073709551616) = (u + 128 ^ i * c) % 18446744073709551616 ∧ (i < 9 → (u + 128 ^ i * c) < 18446744073709551616) ∧ u < 18446744073709551616 := by
 have hp : (2 : Int) ^ (7 * i) = 128 ^ i := by rw [Int.pow_mul]; rfl
 have key : u < 18446744073709551616 ∧ ((c * 128 ^ i) % 18446744073709551616) % 128 ^ i = 0 ∧ (u + (c * 128 ^ i) % 18446744073709551616) = (u + 128 ^ i * c) % 18446744073709551616 ∧ (i < 9 → (u + 128 ^ i * c) < 18446744073709551616) := by
  clear hp
  match i, hi with
  | 0, _ => have e : (128 : Int) ^ 0 = 1 := rfl; rw [e] at u1 ⊢; omega
  | 1, _ => have e : (128 : Int) ^ 1 = 128 := rfl; rw [e] at u1 ⊢; omega
  | 2, _ => have e : (128 : Int) ^ 2 = 16384 := rfl; rw [e] at u1 ⊢; omega
  | 3, _ => have e : (128 : Int) ^ 3 = 2097152 := rfl; rw [e] at u1 ⊢; omega
  | 4, _ => have e : (128 : Int) ^ 4 = 268435456 := rfl; rw [e] at u1 ⊢; omega
  | 5, _ => have e : (128 : Int) ^ 5 = 34359738368 := rfl; rw [e] at u1 ⊢; omega
  | 6, _ => have e : (128 : Int) ^ 6 = 4398046511104 := rfl; rw [e] at u1 ⊢; omega
  | 7, _ => have e : (128 : Int) ^ 7 = 562949953421312 := rfl; rw [e] at u1 ⊢; omega
  | 8, _ => have e : (128 : Int) ^ 8 = 72057594037927936 := rfl; rw [e] at u1 ⊢; omega
  | 9, _ => have e : (128 : Int) ^ 9 = 9223372036854775808 := rfl; rw [e] at u1 ⊢; omega
 refine ⟨?_, key.2.2.2, key.1⟩
 rw [Num.or_u64 (7 * i) u _ u0 (by rw [hp]; exact u1) (by omega) (by rw [hp]; exact key.2.1) key.1 (by omega)]
 exact key.2.2.1
/-- What Get tells of what dec tells. -/
def told : Option (Int × Nat) → Int × Int
 | none => (0, 0)
 | some (u, n) => (Num.zag u, (n : Int))

theorem zag_own' (u : Int) (h0 : 0 ≤ u) (h1 : u < 18446744073709551616) : bits .xor .i64 (IntKind.i64.wrap (shr .u64 u 1)) (IntKind.i64.wrap (0 - IntKind.i64.wrap (bits .and .u64 u 1))) = Num.zag u := by
 rw [← Num.zag_own u h0 h1, show shr .u64 u 1 = u / 2 from rfl]
 simp only [w64eq, Int.zero_sub]

theorem get_loop (l : List Int) (hb : Bytes l) (hl : l.length < 70368744177664) (H : Heap) (r : List Int) : ∀ (p : List Int) (u : Int), l = p ++ r → p.length ≤ 10 → 0 ≤ u → u < 128 ^ p.length →
  loopA W loopW (.ghost (.kill k_varint_Get_0) l_varint_Get_0) [(0, bytes l .ro), (4, .int .u64 u), (10, .int .i64 (mn (l.length : Int) 10)), (11, .int .i64 (p.length : Int))] H =
   some (.ret, [(2, .int .i64 (told (Vt.dec r p.length u)).1), (3, .int .i64 (told (Vt.dec r p.length u)).2)], H) ∨
  (loopA W loopW (.ghost (.kill k_varint_Get_0) l_varint_Get_0) [(0, bytes l .ro), (4, .int .u64 u), (10, .int .i64 (mn (l.length : Int) 10)), (11, .int .i64 (p.length : Int))] H = some (.exit 0, [], H) ∧
   told (Vt.dec r p.length u) = (0, 0)) := by
 induction r with
 | nil =>
  intro p u hp h10 _ _
  have hlen : l.length = p.length := by rw [hp, List.append_nil]
  right
  refine ⟨loop_step l_varint_Get_0.eq_1 k_varint_Get_0.eq_1 (by kernel_rfl) ?_, rfl⟩
  have h1 : ¬ ((p.length : Int) < mn (l.length : Int) 10) := by unfold mn; split <;> omega
  simp only [go_sem, trim_same, h1, decide_false, reduceCtorEq, ne_eq, not_false_eq_true, Bool.false_eq_true, ↓reduceIte, Nat.reduceAdd, Nat.reduceEqDiff, Nat.reduceLT, reduceCtorEq, ↓reduceIte, Nat.reduceAdd, Nat.reduceEqDiff, Nat.reduceLT, Int.reduceLE, Nat.reduceSub, Nat.reduceLeDiff, Nat.reduceMul, Int.reduceToNat, Int.reduceLT, Int.reduceEq, Int.reduceNeg, Nat.reduceBEq, Nat.reduceBNe]
 | cons c r ih =>
  intro p u hp h10 u0 u1
  have hlen : l.length = p.length + (r.length + 1) := by rw [hp, List.length_append, List.length_cons]
  have hc := hb c (by rw [hp]; simp)
  rw [Vt.dec]
  by_cases hi : p.length ≥ 10
  ·right
   rw [if_pos hi]
   refine ⟨loop_step l_varint_Get_0.eq_1 k_varint_Get_0.eq_1 (by kernel_rfl) ?_, rfl⟩
   have h1 : ¬ ((p.length : Int) < mn (l.length : Int) 10) := by unfold mn; split <;> omega
   simp only [go_sem, trim_same, h1, decide_false, reduceCtorEq, ne_eq, not_false_eq_true, Bool.false_eq_true, ↓reduceIte, Nat.reduceAdd, Nat.reduceEqDiff, Nat.reduceLT, reduceCtorEq, ↓reduceIte, Nat.reduceAdd, Nat.reduceEqDiff, Nat.reduceLT, Int.reduceLE, Nat.reduceSub, Nat.reduceLeDiff, Nat.reduceMul, Int.reduceToNat, Int.reduceLT, Int.reduceEq, Int.reduceNeg, Nat.reduceBEq, Nat.reduceBNe]
  ·rw [if_neg hi]
   have h1 : (p.length : Int) < mn (l.length : Int) 10 := by unfold mn; split <;> omega
   have h2 : (0 : Int) ≤ (p.length : Int) := by omega
   have h3 := ints_at (k := .u8) hp rfl
   have e1 : IntKind.u64.wrap c = c := by rw [Num.wu64]; omega
   have e2 := Num.andNot128 c hc.1 hc.2
   have e3 : IntKind.i64.wrap ((p.length : Int) * 7) = (p.length : Int) * 7 := wrap_id (by unfold I64; omega)
   have e4 : (0 : Int) ≤ (p.length : Int) * 7 := by omega
   have e5 := shl7 p.length (by omega) (c % 128)
   have e6 := shr7 p.length (by omega) ((c % 128 * 128 ^ p.length) % 18446744073709551616)
   have hg := group p.length (by omega) (c % 128) (by omega) (by omega)
   have hj := joins p.length (by omega) u (c % 128) u0 u1 (by omega) (by omega)
   by_cases h9 : p.length = 9 ∧ c % 128 ≥ 2
   ·left
    rw [if_pos h9]
    refine loop_step l_varint_Get_0.eq_1 k_varint_Get_0.eq_1 (by kernel_rfl) ?_
    have h5 : ¬ ((c % 128 * 128 ^ p.length) % 18446744073709551616 / 128 ^ p.length = c % 128) := fun h => hg.1 h h9
    simp only [go_sem, trim_same, h1, h2, h3, e1, e2, e3, e4, e5, e6, h5, s_shl, s_shr, not_false_eq_true, decide_true, decide_false, reduceCtorEq, ne_eq, not_false_eq_true, Bool.false_eq_true, ↓reduceIte, Nat.reduceAdd, Nat.reduceEqDiff, Nat.reduceLT, told, reduceCtorEq, ↓reduceIte, Nat.reduceAdd, Nat.reduceEqDiff, Nat.reduceLT, Int.reduceLE, Nat.reduceSub, Nat.reduceLeDiff, Nat.reduceMul, Int.reduceToNat, Int.reduceLT, Int.reduceEq, Int.reduceNeg, Nat.reduceBEq, Nat.reduceBNe]
   ·rw [if_neg h9]
    have h5 : (c % 128 * 128 ^ p.length) % 18446744073709551616 / 128 ^ p.length = c % 128 := hg.2 h9
    have h7 : 0 ≤ 128 ^ p.length * (c % 128) := Int.mul_nonneg (Int.le_of_lt (Vt.pow_pos _)) (by omega)
    have hu : (u + 128 ^ p.length * (c % 128)) % 18446744073709551616 = u + 128 ^ p.length * (c % 128) := by
     have : u + 128 ^ p.length * (c % 128) < 18446744073709551616 := by
      by_cases h : p.length < 9
      ·exact hj.2.1 h
      ·have h1 : p.length = 9 := by omega
       have e : (128 : Int) ^ p.length = 9223372036854775808 := by rw [h1]; rfl
       rw [e] at u1 ⊢
       omega
     omega
    have e7 : bits .or .u64 u ((c % 128 * 128 ^ p.length) % 18446744073709551616) = u + 128 ^ p.length * (c % 128) := by rw [hj.1, hu]
    by_cases h128 : c ≥ 128
    ·rw [if_pos h128]
     have e8 : IntKind.i64.wrap ((p.length : Int) + 1) = ((p ++ [c]).length : Int) := by
      rw [wrap_id (by unfold I64; omega)]; simp
     have hn := ih (p ++ [c]) (u + 128 ^ p.length * (c % 128)) (by rw [hp, List.append_assoc]; rfl) (by simp; omega) (by omega) (by
      rw [List.length_append, List.length_cons, List.length_nil, Nat.zero_add, Vt.pow128]
      have h4 : 128 ^ p.length * (c % 128) ≤ 128 ^ p.length * 127 := Int.mul_le_mul_of_nonneg_left (by omega) (Int.le_of_lt (Vt.pow_pos _))
      omega)
     have e9 : (p ++ [c]).length = p.length + 1 := by simp
     rw [e9] at hn e8
     have step : ∀ q, loopA W loopW (.ghost (.kill k_varint_Get_0) l_varint_Get_0) [(0, bytes l .ro), (4, .int .u64 (u + 128 ^ p.length * (c % 128))), (10, .int .i64 (mn (l.length : Int) 10)), (11, .int .i64 ((p.length + 1 : Nat) : Int))] H = some q →
       loopA W loopW (.ghost (.kill k_varint_Get_0) l_varint_Get_0) [(0, bytes l .ro), (4, .int .u64 u), (10, .int .i64 (mn (l.length : Int) 10)), (11, .int .i64 (p.length : Int))] H = some q := by
      intro q hq
      refine loop_step l_varint_Get_0.eq_1 k_varint_Get_0.eq_1 (by kernel_rfl) ?_
      simp only [go_sem, trim_same, h1, h2, h3, h5, e1, e2, e3, e4, e5, e6, e7, e8, h128, s_shl, s_shr, not_true_eq_false, not_false_eq_true, decide_true, decide_false, reduceCtorEq, ne_eq, not_false_eq_true, Bool.false_eq_true, ↓reduceIte, Nat.reduceAdd, Nat.reduceEqDiff, Nat.reduceLT, reduceCtorEq, ↓reduceIte, Nat.reduceAdd, Nat.reduceEqDiff, Nat.reduceLT, Int.reduceLE, Nat.reduceSub, Nat.reduceLeDiff, Nat.reduceMul, Int.reduceToNat, Int.reduceLT, Int.reduceEq, Int.reduceNeg, Nat.reduceBEq, Nat.reduceBNe]
      exact hq
     rcases hn with hn | ⟨hn, ht⟩
     ·exact .inl (step _ hn)
     ·exact .inr ⟨step _ hn, ht⟩
    ·rw [if_neg h128]
     have ez := zag_own' (u + 128 ^ p.length * (c % 128)) (by omega) (by omega)
     have e8 : IntKind.i64.wrap ((p.length : Int) + 1) = (p.length : Int) + 1 := wrap_id (by unfold I64; omega)
     left
     refine loop_step l_varint_Get_0.eq_1 k_varint_Get_0.eq_1 (by kernel_rfl) ?_
     have hl1 : ((p.length + 1 : Nat) : Int) = (p.length : Int) + 1 := by omega
     by_cases h0 : c = 0
     ·have hd : decide (c = 0) = true := by simp [h0]
      by_cases hp0 : p.length > 0
      ·have h8 : (p.length : Int) > 0 := by omega
       rw [if_pos ⟨h0, hp0⟩]
       simp only [go_sem, trim_same, h1, h2, h3, h5, e1, e2, e3, e4, e5, e6, e7, e8, ez, h128, h8, hd, Int.reduceLE, s_shl, s_shr, not_true_eq_false, not_false_eq_true, decide_true, decide_false, reduceCtorEq, ne_eq, not_false_eq_true, Bool.false_eq_true, ↓reduceIte, Nat.reduceAdd, Nat.reduceEqDiff, Nat.reduceLT, told, reduceCtorEq, ↓reduceIte, Nat.reduceAdd, Nat.reduceEqDiff, Nat.reduceLT, Int.reduceLE, Nat.reduceSub, Nat.reduceLeDiff, Nat.reduceMul, Int.reduceToNat, Int.reduceLT, Int.reduceEq, Int.reduceNeg, Nat.reduceBEq, Nat.reduceBNe]
      ·have h8 : ¬ ((p.length : Int) > 0) := by omega
       rw [if_neg (fun h => hp0 h.2)]
       simp only [go_sem, trim_same, h1, h2, h3, h5, e1, e2, e3, e4, e5, e6, e7, e8, ez, h128, h8, hd, hl1, Int.reduceLE, s_shl, s_shr, not_true_eq_false, not_false_eq_true, decide_true, decide_false, reduceCtorEq, ne_eq, not_false_eq_true, Bool.false_eq_true, ↓reduceIte, Nat.reduceAdd, Nat.reduceEqDiff, Nat.reduceLT, told, reduceCtorEq, ↓reduceIte, Nat.reduceAdd, Nat.reduceEqDiff, Nat.reduceLT, Int.reduceLE, Nat.reduceSub, Nat.reduceLeDiff, Nat.reduceMul, Int.reduceToNat, Int.reduceLT, Int.reduceEq, Int.reduceNeg, Nat.reduceBEq, Nat.reduceBNe]
     ·rw [if_neg (fun h => h0 h.1)]
      simp only [go_sem, trim_same, h0, h1, h2, h3, h5, e1, e2, e3, e4, e5, e6, e7, e8, ez, h128, hl1, s_shl, s_shr, Int.reduceLE, not_true_eq_false, not_false_eq_true, decide_true, decide_false, reduceCtorEq, ne_eq, not_false_eq_true, Bool.false_eq_true, ↓reduceIte, Nat.reduceAdd, Nat.reduceEqDiff, Nat.reduceLT, told, reduceCtorEq, ↓reduceIte, Nat.reduceAdd, Nat.reduceEqDiff, Nat.reduceLT, Int.reduceLE, Nat.reduceSub, Nat.reduceLeDiff, Nat.reduceMul, Int.reduceToNat, Int.reduceLT, Int.reduceEq, Int.reduceNeg, Nat.reduceBEq, Nat.reduceBNe]

theorem vget_spec (l : List Int) (H : Heap) (hb : Bytes l) (hl : l.length < 70368744177664) : W n_varint_Get [bytes l .ro] H = some (.tuple [.int .i64 (told (Vt.dec l 0 0)).1, .int .i64 (told (Vt.dec l 0 0)).2], H) := by
 refine W_fn0 rfl rfl ?_
 have e3 : (ints .u8 l).length = l.length := by simp
 rcases get_loop l hb hl H l [] 0 rfl (by simp) (by omega) (by decide) with h | ⟨h, ht⟩
 ·simp only [List.length_nil, Int.natCast_zero] at h
  simp only [go_sem, trim_same, c_varint_Get, e3, h, reduceCtorEq, ne_eq, not_false_eq_true, Bool.false_eq_true, ↓reduceIte, Nat.reduceAdd, Nat.reduceEqDiff, Nat.reduceLT, reduceCtorEq, ↓reduceIte, Nat.reduceAdd, Nat.reduceEqDiff, Nat.reduceLT, Int.reduceLE, Nat.reduceSub, Nat.reduceLeDiff, Nat.reduceMul, Int.reduceToNat, Int.reduceLT, Int.reduceEq, Int.reduceNeg, Nat.reduceBEq, Nat.reduceBNe]
 ·simp only [List.length_nil, Int.natCast_zero] at h ht
  rw [ht]
  simp only [go_sem, trim_same, c_varint_Get, e3, h, reduceCtorEq, ne_eq, not_false_eq_true, Bool.false_eq_true, ↓reduceIte, Nat.reduceAdd, Nat.reduceEqDiff, Nat.reduceLT, reduceCtorEq, ↓reduceIte, Nat.reduceAdd, Nat.reduceEqDiff, Nat.reduceLT, Int.reduceLE, Nat.reduceSub, Nat.reduceLeDiff, Nat.reduceMul, Int.reduceToNat, Int.reduceLT, Int.reduceEq, Int.reduceNeg, Nat.reduceBEq, Nat.reduceBNe]
def bk : List Int → Int → Int
 | [], x => x
 | c :: r, x => bk r (bits .or .u64 (shl .u64 x 8) (IntKind.u64.wrap c))

theorem back_loop (l : List Int) (hl : l.length = 8) (H : Heap) (r : List Int) : ∀ (p : List Int) (x : Int), l = p ++ r →
  loopA W loopW (.ghost (.kill k_varint_Back_0) l_varint_Back_0) [(4, .int .u64 x), (11, bytes l .ro), (12, .int .i64 8), (13, .int .i64 (p.length : Int))] H = some (.exit 0, [(4, .int .u64 (bk r x))], H) := by
 induction r with
 | nil =>
  intro p x hp
  have h0 : p.length = 8 := by rw [hp, List.append_nil] at hl; exact hl
  have h1 : ¬ ((p.length : Int) < 8) := by omega
  refine loop_step l_varint_Back_0.eq_1 k_varint_Back_0.eq_1 (by kernel_rfl) ?_
  simp only [go_sem, trim_same, h1, bk, reduceCtorEq, ↓reduceIte, Nat.reduceAdd, Nat.reduceEqDiff, Nat.reduceLT, Int.reduceLE, Nat.reduceSub, Nat.reduceLeDiff, Nat.reduceMul, Int.reduceToNat, Int.reduceLT, Int.reduceEq, Int.reduceNeg, Nat.reduceBEq, Nat.reduceBNe]
 | cons c r ih =>
  intro p x hp
  have hlen : l.length = p.length + (r.length + 1) := by rw [hp, List.length_append, List.length_cons]
  have h1 : (p.length : Int) < 8 := by omega
  have h2 : (0 : Int) ≤ (p.length : Int) := by omega
  have h3 := ints_at (k := .u8) hp rfl
  have e8 : IntKind.i64.wrap ((p.length : Int) + 1) = ((p.length + 1 : Nat) : Int) := by rw [wrap_id (by unfold I64; omega)]; omega
  have hn := ih (p ++ [c]) (bits .or .u64 (shl .u64 x 8) (IntKind.u64.wrap c)) (by rw [hp, List.append_assoc]; rfl)
  rw [show (p ++ [c]).length = p.length + 1 by simp] at hn
  refine loop_step l_varint_Back_0.eq_1 k_varint_Back_0.eq_1 (by kernel_rfl) ?_
  simp only [go_sem, trim_same, h1, h2, h3, e8, reduceCtorEq, ↓reduceIte, Nat.reduceAdd, Nat.reduceEqDiff, Nat.reduceLT, Int.reduceLE, Nat.reduceSub, Nat.reduceLeDiff, Nat.reduceMul, Int.reduceToNat, Int.reduceLT, Int.reduceEq, Int.reduceNeg, Nat.reduceBEq, Nat.reduceBNe]
  exact hn


def backV (l : List Int) : AVal := if l.length < 8 then .tuple [.int .i64 0, .bool false] else .tuple [.int .i64 (IntKind.i64.wrap (bk (l.take 8) 0)), .bool true]

theorem back_spec (l : List Int) (H : Heap) : W n_varint_Back [bytes l .ro] H = some (backV l, H) := by
 refine W_fn0 rfl rfl ?_
 have e3 : (ints .u8 l).length = l.length := by simp
 unfold backV
 by_cases h : l.length < 8
 ·rw [if_pos h]
  have h1 : (l.length : Int) < 8 := by omega
  simp only [go_sem, trim_same, c_varint_Back, e3, h1, reduceCtorEq, ↓reduceIte, Nat.reduceAdd, Nat.reduceEqDiff, Nat.reduceLT, Int.reduceLE, Nat.reduceSub, Nat.reduceLeDiff, Nat.reduceMul, Int.reduceToNat, Int.reduceLT, Int.reduceEq, Int.reduceNeg, Nat.reduceBEq, Nat.reduceBNe]
 ·rw [if_neg h]
  have h1 : ¬ ((l.length : Int) < 8) := by omega
  have h2 : (8 : Int) ≤ (l.length : Int) := by omega
  have e4 : (ints .u8 l).take 8 = ints .u8 (l.take 8) := by simp [List.map_take]
  have h8 : (l.take 8).length = 8 := by rw [List.length_take]; omega
  have e5 : (ints .u8 (l.take 8)).length = 8 := by rw [List.length_map, h8]
  have hl := back_loop (l.take 8) h8 H (l.take 8) [] 0 rfl
  simp only [List.length_nil, Int.natCast_zero] at hl
  simp only [go_sem, trim_same, c_varint_Back, e3, h1, sl_hi, h2, e4, e5, Int.cast_ofNat_Int, hl, reduceCtorEq, ↓reduceIte, Nat.reduceAdd, Nat.reduceEqDiff, Nat.reduceLT, Int.reduceLE, Nat.reduceSub, Nat.reduceLeDiff, Nat.reduceMul, Int.reduceToNat, Int.reduceLT, Int.reduceEq, Int.reduceNeg, Nat.reduceBEq, Nat.reduceBNe]

theorem bytes_app {l m : List Int} (h : Bytes l) (k : Bytes m) : Bytes (l ++ m) := fun x hx => (List.mem_append.1 hx).elim (h x) (k x)
theorem bytes_take {l : List Int} (n : Nat) (h : Bytes l) : Bytes (l.take n) := fun x hx => h x (List.mem_of_mem_take hx)
theorem bytes_drop {l : List Int} (n : Nat) (h : Bytes l) : Bytes (l.drop n) := fun x hx => h x (List.mem_of_mem_drop hx)



theorem dec_le (r : List Int) : ∀ (i : Nat) (u v : Int) (n : Nat), Vt.dec r i u = some (v, n) → i < n ∧ n ≤ i + r.length := by
 induction r with
 | nil => intro i u v n h; cases h
 | cons c r ih =>
  intro i u v n h
  rw [Vt.dec] at h
  rw [List.length_cons]
  split at h
  ·cases h
  ·split at h
   ·cases h
   ·split at h
    ·have := ih _ _ _ _ h; omega
    ·split at h
     ·cases h
     ·cases h; omega
theorem told_range (l : List Int) : 0 ≤ (told (Vt.dec l 0 0)).2 ∧ (told (Vt.dec l 0 0)).2 ≤ (l.length : Int) := by
 cases h : Vt.dec l 0 0 with
 | none => simp only [told]; omega
 | some x => obtain ⟨v, n⟩ := x; have := dec_le l 0 0 v n h; simp only [told]; omega

/-- What Cut tells. -/
def cutS (l : List Int) (a : Int) : List UInt8 × Int :=
 let g := told (Vt.dec l 0 0)
 if g.2 = 0 then ([], 0) else if g.1 < 0 then ([], 0) else if g.1 > a ∨ g.1 > (l.length : Int) - g.2 then ([], 0) else (toS ((l.take (g.2 + g.1).toNat).drop g.2.toNat), g.2 + g.1)

theorem cut_spec (l : List Int) (a : Int) (H : Heap) (hb : Bytes l) (hl : l.length < 70368744177664) : W n_varint_Cut [bytes l .ro, .int .i64 a] H = some (.tuple [.str (cutS l a).1, .int .i64 (cutS l a).2], H) := by
 have hg := vget_spec l H hb hl
 have hr := told_range l
 have e3 : (ints .u8 l).length = l.length := by simp
 refine W_fn0 rfl rfl ?_
 unfold cutS
 generalize told (Vt.dec l 0 0) = g at *
 obtain ⟨n, k⟩ := g
 simp only at hg hr ⊢
 by_cases h1 : k = 0
 ·rw [if_pos h1]
  simp only [go_sem, trim_same, c_varint_Cut, hg, h1, e3, reduceCtorEq, ↓reduceIte, Nat.reduceAdd, Nat.reduceEqDiff, Nat.reduceLT, Int.reduceLE, Nat.reduceSub, Nat.reduceLeDiff, Nat.reduceMul, Int.reduceToNat, Int.reduceLT, Int.reduceEq, Int.reduceNeg, Nat.reduceBEq, Nat.reduceBNe]
 ·rw [if_neg h1]
  by_cases h2 : n < 0
  ·rw [if_pos h2]
   simp only [go_sem, trim_same, c_varint_Cut, hg, h1, h2, e3, reduceCtorEq, ↓reduceIte, Nat.reduceAdd, Nat.reduceEqDiff, Nat.reduceLT, Int.reduceLE, Nat.reduceSub, Nat.reduceLeDiff, Nat.reduceMul, Int.reduceToNat, Int.reduceLT, Int.reduceEq, Int.reduceNeg, Nat.reduceBEq, Nat.reduceBNe]
  ·rw [if_neg h2]
   have e1 : IntKind.i64.wrap ((l.length : Int) - k) = (l.length : Int) - k := wrap_id (by unfold I64; omega)
   by_cases h3 : n > a ∨ n > (l.length : Int) - k
   ·rw [if_pos h3]
    have h4 : n > mn a ((l.length : Int) - k) := by unfold mn; split <;> omega
    simp only [go_sem, trim_same, c_varint_Cut, hg, h1, h2, h4, e1, e3, reduceCtorEq, ↓reduceIte, Nat.reduceAdd, Nat.reduceEqDiff, Nat.reduceLT, Int.reduceLE, Nat.reduceSub, Nat.reduceLeDiff, Nat.reduceMul, Int.reduceToNat, Int.reduceLT, Int.reduceEq, Int.reduceNeg, Nat.reduceBEq, Nat.reduceBNe]
   ·rw [if_neg h3]
    have h4 : ¬ (n > mn a ((l.length : Int) - k)) := by unfold mn; split <;> omega
    have e2 : IntKind.i64.wrap (k + n) = k + n := wrap_id (by unfold I64; omega)
    have h5 : 0 ≤ k := hr.1
    have h6 : k ≤ k + n := by omega
    have h7 : k + n ≤ (l.length : Int) := by omega
    have e4 : ((ints .u8 l).take (k + n).toNat).drop k.toNat = ints .u8 ((l.take (k + n).toNat).drop k.toNat) := by rw [← List.map_take, ← List.map_drop]
    simp only [go_sem, trim_same, c_varint_Cut, hg, h1, h2, h4, e1, e2, e3, sl_mid, h5, h6, h7, e4, reduceCtorEq, ↓reduceIte, Nat.reduceAdd, Nat.reduceEqDiff, Nat.reduceLT, Int.reduceLE, Nat.reduceSub, Nat.reduceLeDiff, Nat.reduceMul, Int.reduceToNat, Int.reduceLT, Int.reduceEq, Int.reduceNeg, Nat.reduceBEq, Nat.reduceBNe]


end Go.Abs

namespace Go.Abs
open Go Go.RowKit
set_option linter.unusedVariables false
set_option linter.unusedSimpArgs false

/-! ## Bytes joined to numbers -/
theorem or_at (k : IntKind) (hk : k = .i64 ∨ k = .u64 ∨ k = .u32) (i : Nat) (x y : Int) (hx0 : 0 ≤ x) (hx : x < 2 ^ i) (hy0 : 0 ≤ y) (hy : y % 2 ^ i = 0) (hx1 : x < 4294967296) (hy1 : y < 4294967296) (hs : x + y < 4294967296) :
  bits .or k x y = x + y ∧ bits .or k y x = x + y := by
 obtain ⟨a, rfl⟩ := Int.eq_ofNat_of_zero_le hx0
 obtain ⟨b, rfl⟩ := Int.eq_ofNat_of_zero_le hy0
 have h1 : a < 2 ^ i := by exact_mod_cast hx
 have h2 : b % 2 ^ i = 0 := by exact_mod_cast hy
 have h3 := nat_join i b a h2 h1
 have ha : a < 4294967296 := by omega
 have hb : b < 4294967296 := by omega
 have key : ∀ n : Nat, 32 ≤ n → n ≤ 64 → (BitVec.ofInt n (a : Int) ||| BitVec.ofInt n (b : Int)).toNat = a + b ∧ (BitVec.ofInt n (b : Int) ||| BitVec.ofInt n (a : Int)).toNat = a + b := by
  intro n hn _
  have hp : 4294967296 ≤ 2 ^ n := by
   have := Nat.pow_le_pow_right (n := 2) (by decide) hn
   simpa using this
  have ea : (BitVec.ofInt n (a : Int)).toNat = a := by
   rw [BitVec.ofInt_natCast, BitVec.toNat_ofNat, Nat.mod_eq_of_lt (by omega)]
  have eb : (BitVec.ofInt n (b : Int)).toNat = b := by
   rw [BitVec.ofInt_natCast, BitVec.toNat_ofNat, Nat.mod_eq_of_lt (by omega)]
  rw [BitVec.toNat_or, BitVec.toNat_or, ea, eb, Nat.or_comm a b, h3]
  omega
 rcases hk with rfl | rfl | rfl
 ·obtain ⟨q1, q2⟩ := key 64 (by decide) (by decide)
  refine ⟨?_, ?_⟩
  ·show IntKind.i64.wrap _ = _
   rw [show IntKind.i64.bits = 64 from rfl, q1, wrap_id (by unfold I64; omega)]; omega
  ·show IntKind.i64.wrap _ = _
   rw [show IntKind.i64.bits = 64 from rfl, q2, wrap_id (by unfold I64; omega)]; omega
 ·obtain ⟨q1, q2⟩ := key 64 (by decide) (by decide)
  refine ⟨?_, ?_⟩
  ·show IntKind.u64.wrap _ = _
   rw [show IntKind.u64.bits = 64 from rfl, q1, Num.wu64]; omega
  ·show IntKind.u64.wrap _ = _
   rw [show IntKind.u64.bits = 64 from rfl, q2, Num.wu64]; omega
 ·obtain ⟨q1, q2⟩ := key 32 (by decide) (by decide)
  refine ⟨?_, ?_⟩
  ·show IntKind.u32.wrap _ = _
   rw [show IntKind.u32.bits = 32 from rfl, q1, IntKind.wrap_u32]; omega
  ·show IntKind.u32.wrap _ = _
   rw [show IntKind.u32.bits = 32 from rfl, q2, IntKind.wrap_u32]; omega
theorem shl_i64 (x : Int) (h0 : 0 ≤ x) (h1 : x < 16777216) : shl .i64 x 8 = x * 256 := by
 unfold shl
 rw [show (2 : Int) ^ (min (8 : Int).toNat IntKind.i64.bits) = 256 from by decide, wrap_id (by unfold I64; omega)]
theorem shl_u32 (c : Int) (h0 : 0 ≤ c) (h1 : c < 256) : shl .u32 c 8 = c * 256 ∧ shl .u32 c 16 = c * 65536 ∧ shl .u32 c 24 = c * 16777216 := by
 unfold shl
 rw [show (2 : Int) ^ (min (8 : Int).toNat IntKind.u32.bits) = 256 from by decide, show (2 : Int) ^ (min (16 : Int).toNat IntKind.u32.bits) = 65536 from by decide, show (2 : Int) ^ (min (24 : Int).toNat IntKind.u32.bits) = 16777216 from by decide, IntKind.wrap_u32, IntKind.wrap_u32, IntKind.wrap_u32]
 omega

/-! ## slices.Equal -/
theorem equal_loop (l m : List Int) (hm : l.length = m.length) (hn : l.length ≤ 100000000) (H : Heap) (r : List Int) : ∀ (s : List Int) (p q : List Int), l = p ++ r → m = q ++ s → p = q →
  loopA W loopW (.ghost (.kill k_slices_Equal_byte_byte__0) l_slices_Equal_byte_byte__0) [(0, bytes l .ro), (1, bytes m .ro), (12, .int .i64 (l.length : Nat)), (13, .int .i64 (p.length : Nat))] H =
   if r = s then some (.exit 0, [], H) else some (.ret, [(4, .bool false)], H) := by
 induction r with
 | nil =>
  intro s p q hp hq hpq
  have hs : s = [] := by
   subst hpq
   rw [hp, hq, List.append_nil, List.length_append] at hm
   exact List.eq_nil_of_length_eq_zero (by omega)
  rw [if_pos hs.symm]
  have h1 : ¬ ((p.length : Int) < (l.length : Int)) := by rw [hp]; simp
  refine loop_step l_slices_Equal_byte_byte__0.eq_1 k_slices_Equal_byte_byte__0.eq_1 (by kernel_rfl) ?_
  simp only [go_sem, h1, reduceCtorEq, ↓reduceIte, Nat.reduceAdd, Nat.reduceEqDiff, Nat.reduceLT, Int.reduceLE, Nat.reduceSub, Nat.reduceLeDiff, Nat.reduceMul, Int.reduceToNat, Int.reduceLT, Int.reduceEq, Int.reduceNeg, Nat.reduceBEq, Nat.reduceBNe]
 | cons x r ih =>
  intro s p q hp hq hpq
  cases s with
  | nil =>
   subst hpq
   rw [hp, hq, List.append_nil, List.length_append] at hm
   simp at hm
  | cons y s =>
   have h1 : ((p.length : Int) < (l.length : Int)) := by rw [hp]; simp; omega
   have e0 : (0 : Int) ≤ (p.length : Int) := by omega
   have e7 : ((p.length : Nat) : Int).toNat = p.length := by omega
   have e1 : (ints .u8 l)[p.length]? = some (.int .u8 x) := by rw [hp]; simp
   have e2 : (ints .u8 m)[p.length]? = some (.int .u8 y) := by rw [hq, hpq]; simp
   have hlen : l.length = p.length + (r.length + 1) := by rw [hp]; simp
   have e6 : IntKind.i64.wrap ((p.length : Int) + 1) = ((p.length + 1 : Nat) : Int) := by rw [wrap_id (by unfold I64; omega)]; omega
   by_cases c : x = y
   ·subst c
    have h2 := ih s (p ++ [x]) (q ++ [x]) (by rw [hp]; simp) (by rw [hq]; simp) (by rw [hpq])
    simp only [List.length_append, List.length_cons, List.length_nil, Nat.zero_add] at h2
    have e9 : ((x :: r) = (x :: s)) = (r = s) := by simp
    simp only [e9]
    by_cases c2 : r = s
    ·simp only [c2, if_true] at h2 ⊢
     refine loop_step l_slices_Equal_byte_byte__0.eq_1 k_slices_Equal_byte_byte__0.eq_1 (by kernel_rfl) ?_
     simp only [go_sem, h1, e0, e7, e1, e2, e6, reduceCtorEq, ↓reduceIte, Nat.reduceAdd, Nat.reduceEqDiff, Nat.reduceLT, Int.reduceLE, Nat.reduceSub, Nat.reduceLeDiff, Nat.reduceMul, Int.reduceToNat, Int.reduceLT, Int.reduceEq, Int.reduceNeg, Nat.reduceBEq, Nat.reduceBNe]
     exact h2
    ·simp only [c2, if_false] at h2 ⊢
     refine loop_step l_slices_Equal_byte_byte__0.eq_1 k_slices_Equal_byte_byte__0.eq_1 (by kernel_rfl) ?_
     simp only [go_sem, h1, e0, e7, e1, e2, e6, reduceCtorEq, ↓reduceIte, Nat.reduceAdd, Nat.reduceEqDiff, Nat.reduceLT, Int.reduceLE, Nat.reduceSub, Nat.reduceLeDiff, Nat.reduceMul, Int.reduceToNat, Int.reduceLT, Int.reduceEq, Int.reduceNeg, Nat.reduceBEq, Nat.reduceBNe]
     exact h2
   ·rw [if_neg (by simp [c])]
    refine loop_step l_slices_Equal_byte_byte__0.eq_1 k_slices_Equal_byte_byte__0.eq_1 (by kernel_rfl) ?_
    simp only [go_sem, h1, e0, e7, e1, e2, c, reduceCtorEq, ↓reduceIte, Nat.reduceAdd, Nat.reduceEqDiff, Nat.reduceLT, Int.reduceLE, Nat.reduceSub, Nat.reduceLeDiff, Nat.reduceMul, Int.reduceToNat, Int.reduceLT, Int.reduceEq, Int.reduceNeg, Nat.reduceBEq, Nat.reduceBNe]
theorem equal_spec (l m : List Int) (hn : l.length ≤ 100000000) (H : Heap) : W n_slices_Equal_byte_byte_ [bytes l .ro, bytes m .ro] H = some (.bool (decide (l = m)), H) := by
 by_cases c : l.length = m.length
 ·have h := equal_loop l m c hn H l m [] [] rfl rfl rfl
  simp only [List.length_nil, Int.natCast_zero] at h
  have c' : (l.length : Int) = (m.length : Int) := by omega
  by_cases d : l = m
  ·rw [if_pos d] at h
   rw [decide_eq_true d]
   refine W_fn0 rfl rfl ?_
   simp only [go_sem, trim_same, c_slices_Equal_byte_byte_, List.length_map, eq_true c', h, reduceCtorEq, ↓reduceIte, Nat.reduceAdd, Nat.reduceEqDiff, Nat.reduceLT, Int.reduceLE, Nat.reduceSub, Nat.reduceLeDiff, Nat.reduceMul, Int.reduceToNat, Int.reduceLT, Int.reduceEq, Int.reduceNeg, Nat.reduceBEq, Nat.reduceBNe]
   first | done | rfl
  ·rw [if_neg d] at h
   rw [decide_eq_false d]
   refine W_fn0 rfl rfl ?_
   simp only [go_sem, trim_same, c_slices_Equal_byte_byte_, List.length_map, eq_true c', h, reduceCtorEq, ↓reduceIte, Nat.reduceAdd, Nat.reduceEqDiff, Nat.reduceLT, Int.reduceLE, Nat.reduceSub, Nat.reduceLeDiff, Nat.reduceMul, Int.reduceToNat, Int.reduceLT, Int.reduceEq, Int.reduceNeg, Nat.reduceBEq, Nat.reduceBNe]
   first | done | rfl
 ·have d : ¬ l = m := fun h => c (by rw [h])
  have c' : ¬ (l.length : Int) = (m.length : Int) := by omega
  rw [decide_eq_false d]
  refine W_fn0 rfl rfl ?_
  simp only [go_sem, trim_same, c_slices_Equal_byte_byte_, List.length_map, c', reduceCtorEq, ↓reduceIte, Nat.reduceAdd, Nat.reduceEqDiff, Nat.reduceLT, Int.reduceLE, Nat.reduceSub, Nat.reduceLeDiff, Nat.reduceMul, Int.reduceToNat, Int.reduceLT, Int.reduceEq, Int.reduceNeg, Nat.reduceBEq, Nat.reduceBNe]

/-! ## How long a batch says that it is -/
def lg : List Int → Int → Int
 | [], x => x
 | c :: r, x => lg r (bits .or .i64 (shl .i64 x 8) (IntKind.i64.wrap c))
theorem long4_loop (l : List Int) (hl : l.length = 4) (H : Heap) (r : List Int) : ∀ (p : List Int) (x : Int), l = p ++ r →
  loopA W loopW (.ghost (.kill k_batch_long_0) l_batch_long_0) [(3, .int .i64 x), (10, bytes l .ro), (11, .int .i64 4), (12, .int .i64 (p.length : Nat))] H = some (.exit 0, [(3, .int .i64 (lg r x))], H) := by
 induction r with
 | nil =>
  intro p x hp
  have h1 : ¬ ((p.length : Int) < 4) := by rw [hp] at hl; simp at hl; omega
  refine loop_step l_batch_long_0.eq_1 k_batch_long_0.eq_1 (by kernel_rfl) ?_
  simp only [go_sem, h1, lg, reduceCtorEq, ↓reduceIte, Nat.reduceAdd, Nat.reduceEqDiff, Nat.reduceLT, Int.reduceLE, Nat.reduceSub, Nat.reduceLeDiff, Nat.reduceMul, Int.reduceToNat, Int.reduceLT, Int.reduceEq, Int.reduceNeg, Nat.reduceBEq, Nat.reduceBNe]
 | cons c r ih =>
  intro p x hp
  have hlen : l.length = p.length + (r.length + 1) := by rw [hp]; simp
  have h1 : (p.length : Int) < 4 := by omega
  have e0 : (0 : Int) ≤ (p.length : Int) := by omega
  have e7 : ((p.length : Nat) : Int).toNat = p.length := by omega
  have e1 : (ints .u8 l)[p.length]? = some (.int .u8 c) := by rw [hp]; simp
  have e6 : IntKind.i64.wrap ((p.length : Int) + 1) = ((p.length + 1 : Nat) : Int) := by rw [wrap_id (by unfold I64; omega)]; omega
  have h2 := ih (p ++ [c]) (bits .or .i64 (shl .i64 x 8) (IntKind.i64.wrap c)) (by rw [hp]; simp)
  simp only [List.length_append, List.length_cons, List.length_nil, Nat.zero_add] at h2
  refine loop_step l_batch_long_0.eq_1 k_batch_long_0.eq_1 (by kernel_rfl) ?_
  simp only [go_sem, h1, e0, e7, e1, e6, reduceCtorEq, ↓reduceIte, Nat.reduceAdd, Nat.reduceEqDiff, Nat.reduceLT, Int.reduceLE, Nat.reduceSub, Nat.reduceLeDiff, Nat.reduceMul, Int.reduceToNat, Int.reduceLT, Int.reduceEq, Int.reduceNeg, Nat.reduceBEq, Nat.reduceBNe]
  exact h2
def num4 (a b c d : Int) : Int := ((a * 256 + b) * 256 + c) * 256 + d
theorem lg_step (x c : Int) (h0 : 0 ≤ x) (h1 : x < 16777216) (c0 : 0 ≤ c) (c1 : c < 256) : bits .or .i64 (shl .i64 x 8) (IntKind.i64.wrap c) = x * 256 + c := by
 rw [shl_i64 x h0 h1, wrap_id (by unfold I64; omega), (or_at .i64 (.inl rfl) 8 c (x * 256) c0 (by show c < 256; omega) (by omega) (by show x * 256 % 256 = 0; omega) (by omega) (by omega) (by omega)).2]
 omega
theorem lg_num (a b c d : Int) (ha : 0 ≤ a ∧ a < 256) (hb : 0 ≤ b ∧ b < 256) (hc : 0 ≤ c ∧ c < 256) (hd : 0 ≤ d ∧ d < 256) : lg [a, b, c, d] 0 = num4 a b c d := by
 simp only [lg]
 rw [lg_step 0 a (by omega) (by omega) ha.1 ha.2, lg_step (0 * 256 + a) b (by omega) (by omega) hb.1 hb.2, lg_step _ c (by omega) (by omega) hc.1 hc.2, lg_step _ d (by omega) (by omega) hd.1 hd.2]
 unfold num4; omega
def longB (p : List Int) : Int := if p.length < 12 then 0 else 12 + num4 (p.getD 8 0) (p.getD 9 0) (p.getD 10 0) (p.getD 11 0)
theorem getD_byte {p : List Int} (hp : ∀ x ∈ p, 0 ≤ x ∧ x < 256) (i : Nat) : 0 ≤ p.getD i 0 ∧ p.getD i 0 < 256 := by
 rw [List.getD_eq_getElem?_getD]
 cases h : p[i]? with
 | none => simp
 | some x => exact hp x (List.mem_of_getElem? h)
theorem four (p : List Int) (h : 12 ≤ p.length) : (p.take 12).drop 8 = [p.getD 8 0, p.getD 9 0, p.getD 10 0, p.getD 11 0] := by
 match p, h with
 | a0 :: a1 :: a2 :: a3 :: a4 :: a5 :: a6 :: a7 :: a8 :: a9 :: a10 :: a11 :: r, _ => rfl
theorem num4_range (a b c d : Int) (ha : 0 ≤ a ∧ a < 256) (hb : 0 ≤ b ∧ b < 256) (hc : 0 ≤ c ∧ c < 256) (hd : 0 ≤ d ∧ d < 256) : 0 ≤ num4 a b c d ∧ num4 a b c d < 4294967296 := by unfold num4; omega
theorem longB_range {p : List Int} (hp : ∀ x ∈ p, 0 ≤ x ∧ x < 256) : 0 ≤ longB p ∧ longB p < 5000000000 := by
 unfold longB
 split
 ·omega
 ·have := num4_range _ _ _ _ (getD_byte hp 8) (getD_byte hp 9) (getD_byte hp 10) (getD_byte hp 11)
  omega
theorem blong_spec (p : List Int) (hp : ∀ x ∈ p, 0 ≤ x ∧ x < 256) (H : Heap) : W n_batch_long [bytes p .ro] H = some (.int .i64 (longB p), H) := by
 unfold longB
 by_cases c : p.length < 12
 ·rw [if_pos c]
  have c' : (p.length : Int) < 12 := by omega
  refine W_fn0 rfl rfl ?_
  simp only [go_sem, trim_same, c_batch_long, List.length_map, c', reduceCtorEq, ↓reduceIte, Nat.reduceAdd, Nat.reduceEqDiff, Nat.reduceLT, Int.reduceLE, Nat.reduceSub, Nat.reduceLeDiff, Nat.reduceMul, Int.reduceToNat, Int.reduceLT, Int.reduceEq, Int.reduceNeg, Nat.reduceBEq, Nat.reduceBNe]
 ·rw [if_neg c]
  have c' : ¬ (p.length : Int) < 12 := by omega
  have h4 := four p (by omega)
  have r := num4_range _ _ _ _ (getD_byte hp 8) (getD_byte hp 9) (getD_byte hp 10) (getD_byte hp 11)
  have hv := lg_num _ _ _ _ (getD_byte hp 8) (getD_byte hp 9) (getD_byte hp 10) (getD_byte hp 11)
  have h := long4_loop [p.getD 8 0, p.getD 9 0, p.getD 10 0, p.getD 11 0] rfl H [p.getD 8 0, p.getD 9 0, p.getD 10 0, p.getD 11 0] [] 0 rfl
  rw [hv] at h
  have e4 : ((ints .u8 p).take 12).drop 8 = ints .u8 [p.getD 8 0, p.getD 9 0, p.getD 10 0, p.getD 11 0] := by rw [← List.map_take, ← List.map_drop, h4]
  have h12 : (12 : Int) ≤ (p.length : Int) := by omega
  have w1 : IntKind.i64.wrap (12 + num4 (p.getD 8 0) (p.getD 9 0) (p.getD 10 0) (p.getD 11 0)) = 12 + num4 (p.getD 8 0) (p.getD 9 0) (p.getD 10 0) (p.getD 11 0) := wrap_id (by unfold I64; omega)
  generalize num4 (p.getD 8 0) (p.getD 9 0) (p.getD 10 0) (p.getD 11 0) = n at *
  generalize p.getD 8 0 = x0 at *
  generalize p.getD 9 0 = x1 at *
  generalize p.getD 10 0 = x2 at *
  generalize p.getD 11 0 = x3 at *
  simp only [List.length_nil, Int.natCast_zero] at h
  simp only [List.map_cons, List.map_nil] at e4
  have h' : loopA W loopW (.ghost (.kill k_batch_long_0) l_batch_long_0) [(3, .int .i64 0), (10, .list 1 [.int .u8 x0, .int .u8 x1, .int .u8 x2, .int .u8 x3] .ro), (11, .int .i64 4), (12, .int .i64 0)] H = some (.exit 0, [(3, .int .i64 n)], H) := h
  refine W_fn0 rfl rfl ?_
  simp only [go_sem, trim_same, c_batch_long, List.length_map, c', sl_mid, h12, e4, h', w1, reduceCtorEq, ↓reduceIte, Nat.reduceAdd, Nat.reduceEqDiff, Nat.reduceLT, Int.reduceLE, Nat.reduceSub, Nat.reduceLeDiff, Nat.reduceMul, Int.reduceToNat, Int.reduceLT, Int.reduceEq, Int.reduceNeg, Nat.reduceBEq, Nat.reduceBNe]
end Go.Abs

namespace Go.Abs
open Go Go.RowKit
set_option linter.unusedVariables false
set_option linter.unusedSimpArgs false

/-! ## crc.Check -/
def sum4 (p : List Int) : Int := p.getD 0 0 + p.getD 1 0 * 256 + p.getD 2 0 * 65536 + p.getD 3 0 * 16777216
theorem sum4_or (a b c d : Int) (ha : 0 ≤ a ∧ a < 256) (hb : 0 ≤ b ∧ b < 256) (hc : 0 ≤ c ∧ c < 256) (hd : 0 ≤ d ∧ d < 256) :
  bits .or .u32 (bits .or .u32 (bits .or .u32 (IntKind.u32.wrap a) (shl .u32 (IntKind.u32.wrap b) 8)) (shl .u32 (IntKind.u32.wrap c) 16)) (shl .u32 (IntKind.u32.wrap d) 24) = a + b * 256 + c * 65536 + d * 16777216 := by
 have wa : ∀ x : Int, 0 ≤ x ∧ x < 256 → IntKind.u32.wrap x = x := fun x h => by rw [IntKind.wrap_u32]; omega
 rw [wa a ha, wa b hb, wa c hc, wa d hd, (shl_u32 b hb.1 hb.2).1, (shl_u32 c hc.1 hc.2).2.1, (shl_u32 d hd.1 hd.2).2.2]
 rw [(or_at .u32 (.inr (.inr rfl)) 8 a (b * 256) ha.1 (by show a < 256; omega) (by omega) (by show b * 256 % 256 = 0; omega) (by omega) (by omega) (by omega)).1]
 rw [(or_at .u32 (.inr (.inr rfl)) 16 (a + b * 256) (c * 65536) (by omega) (by show a + b * 256 < 65536; omega) (by omega) (by show c * 65536 % 65536 = 0; omega) (by omega) (by omega) (by omega)).1]
 rw [(or_at .u32 (.inr (.inr rfl)) 24 (a + b * 256 + c * 65536) (d * 16777216) (by omega) (by show a + b * 256 + c * 65536 < 16777216; omega) (by omega) (by show d * 16777216 % 16777216 = 0; omega) (by omega) (by omega) (by omega)).1]
def chkOK (p : List Int) : Bool := decide (4 ≤ p.length) && decide (((crcN (toN (p.drop 4)) : Nat) : Int) = sum4 p)
theorem getD_at {p : List Int} (i : Nat) (h : i < p.length) : (ints .u8 p)[i]? = some (.int .u8 (p.getD i 0)) := by
 rw [List.getElem?_map, List.getD_eq_getElem?_getD, List.getElem?_eq_getElem h]; rfl
theorem check_spec (p : List Int) (hp : ∀ x ∈ p, 0 ≤ x ∧ x < 256) (hl : p.length ≤ 70368744177664) (H : Heap) :
  W n_crc_Check [bytes p .ro] H = some (.tuple [if chkOK p then bytes (p.drop 4) .own else .list 1 [] .full, .bool (chkOK p)], H) := by
 unfold chkOK
 by_cases c : p.length < 4
 ·have c' : (p.length : Int) < 4 := by omega
  have d : decide (4 ≤ p.length) = false := decide_eq_false (by omega)
  rw [d, Bool.false_and, if_neg (by decide)]
  refine W_fn0 rfl rfl ?_
  simp only [go_sem, trim_same, c_crc_Check, List.length_map, c', reduceCtorEq, ↓reduceIte, Nat.reduceAdd, Nat.reduceEqDiff, Nat.reduceLT, Int.reduceLE, Nat.reduceSub, Nat.reduceLeDiff, Nat.reduceMul, Int.reduceToNat, Int.reduceLT, Int.reduceEq, Int.reduceNeg, Nat.reduceBEq, Nat.reduceBNe]
 ·have c' : ¬ (p.length : Int) < 4 := by omega
  have d : decide (4 ≤ p.length) = true := decide_eq_true (by omega)
  rw [d, Bool.true_and]
  have g0 := getD_at (p := p) 0 (by omega)
  have g1 := getD_at (p := p) 1 (by omega)
  have g2 := getD_at (p := p) 2 (by omega)
  have g3 := getD_at (p := p) 3 (by omega)
  have hs := sum4_or _ _ _ _ (getD_byte hp 0) (getD_byte hp 1) (getD_byte hp 2) (getD_byte hp 3)
  have ho := fun H => of_spec (p.drop 4) H (fun x hx => hp x (List.mem_of_mem_drop hx)) (by simp; omega)
  have e4 : (ints .u8 p).drop 4 = ints .u8 (p.drop 4) := by rw [← List.map_drop]
  have l4 : (4 : Int) ≤ (p.length : Int) := by omega
  have hc := fun H => W_clone (ints .u8 (p.drop 4)) H (by simp [maxBytes]; omega)
  unfold sum4
  generalize p.getD 0 0 = x0 at *
  generalize p.getD 1 0 = x1 at *
  generalize p.getD 2 0 = x2 at *
  generalize p.getD 3 0 = x3 at *
  generalize p.drop 4 = y at *
  generalize ((crcN (toN y) : Nat) : Int) = n at *
  by_cases e : n = x0 + x1 * 256 + x2 * 65536 + x3 * 16777216
  ·rw [decide_eq_true e, if_pos rfl]
   refine W_fn0 rfl rfl ?_
   simp only [go_sem, trim_same, c_crc_Check, List.length_map, c', g0, g1, g2, g3, hs, slL, l4, e4, ho, eq_true e, hc, reduceCtorEq, ↓reduceIte, Nat.reduceAdd, Nat.reduceEqDiff, Nat.reduceLT, Int.reduceLE, Nat.reduceSub, Nat.reduceLeDiff, Nat.reduceMul, Int.reduceToNat, Int.reduceLT, Int.reduceEq, Int.reduceNeg, Nat.reduceBEq, Nat.reduceBNe]
  ·rw [decide_eq_false e, if_neg (by decide)]
   refine W_fn0 rfl rfl ?_
   simp only [go_sem, trim_same, c_crc_Check, List.length_map, c', g0, g1, g2, g3, hs, slL, l4, e4, ho, e, reduceCtorEq, ↓reduceIte, Nat.reduceAdd, Nat.reduceEqDiff, Nat.reduceLT, Int.reduceLE, Nat.reduceSub, Nat.reduceLeDiff, Nat.reduceMul, Int.reduceToNat, Int.reduceLT, Int.reduceEq, Int.reduceNeg, Nat.reduceBEq, Nat.reduceBNe]
end Go.Abs

namespace Go.Abs
open Go Go.RowKit
set_option linter.unusedVariables false
set_option linter.unusedSimpArgs false

/-! ## What stands behind the sum -/
def backI (l : List Int) : Int := if l.length < 8 then 0 else IntKind.i64.wrap (bk (l.take 8) 0)
theorem backV_eq (l : List Int) : backV l = .tuple [.int .i64 (backI l), .bool (decide (8 ≤ l.length))] := by
 unfold backV backI
 by_cases h : l.length < 8
 ·rw [if_pos h, if_pos h, decide_eq_false (by omega)]
 ·rw [if_neg h, if_neg h, decide_eq_true (by omega)]
theorem cutS_range (l : List Int) (a : Int) : 0 ≤ (cutS l a).2 ∧ (cutS l a).2 ≤ (l.length : Int) := by
 have h := told_range l
 unfold cutS
 simp only
 split
 ·simp
 ·split
  ·simp
  ·split
   ·simp
   ·simp only; omega
/-- The records from a place on. -/
def bodyR (x : List Int) : Nat → Nat → List Rc
 | 0, _ => []
 | k + 1, a => ((cutS (x.drop a) 64).1, (cutS (x.drop (a + (cutS (x.drop a) 64).2.toNat)) 64).1) ::
   bodyR x k (a + (cutS (x.drop a) 64).2.toNat + (cutS (x.drop (a + (cutS (x.drop a) 64).2.toNat)) 64).2.toNat)
def epochOf (c d : Int) : Int := if c * 256 + d = 65535 then -1 else c * 256 + d
def bodyB (base : Int) (x : List Int) : Ba :=
 ⟨base, backI (x.drop 1), epochOf (x.getD 9 0) (x.getD 10 0), backI (x.drop 11), decide (x.getD 0 0 % 2 = 1), x.getD 0 0 / 2, bodyR x (x.getD 19 0).toNat 20⟩

theorem and1_u8 (c : Int) (h0 : 0 ≤ c) (h1 : c < 256) : bits .and .u8 c 1 = c % 2 := by
 have g : ∀ n : Nat, n < 256 → bits .and .u8 ((n : Nat) : Int) 1 = ((n % 2 : Nat) : Int) := by decide +kernel
 have := g c.toNat (by omega)
 rw [Int.toNat_of_nonneg h0] at this
 rw [this]; omega
theorem shr1_u8 (c : Int) : shr .u8 c 1 = c / 2 := rfl
theorem W_back (l : List Int) (H : Heap) : W n_varint_Back [bytes l .ro] H = some (.tuple [.int .i64 (backI l), .bool (decide (8 ≤ l.length))], H) := by rw [back_spec, backV_eq]

theorem body_loop (x : List Int) (hb : Bytes x) (hl : x.length ≤ 100000) (n : Nat) (hn : n ≤ 255) (X : Box) (c0 c1 c2 c3 c4 c5 : AVal) (H N : Heap) (k : Nat) : ∀ (i a : Nat) (acc : List Rc) (fl : Fl), i + k = n → acc.length = i → a ≤ x.length → (fl = .own ∨ (fl = .full ∧ acc = [])) →
  ∃ fl', loopA W loopW (.ghost (.kill k_batch_body_0) l_batch_body_0) [(1, bytes x .ro), (4, .ptr (pt H 0) 0), (5, .ptr (pt H 1) 0), (6, .int .i64 (a : Nat)), (54, .int .i64 (n : Nat)), (55, .int .i64 (i : Nat))] (hx H (X :: .cells [c0, c1, c2, c3, c4, c5, .list 2 (acc.map rcV) fl] :: N)) =
   some (.exit 0, [(4, .ptr (pt H 0) 0), (5, .ptr (pt H 1) 0)], hx H (X :: .cells [c0, c1, c2, c3, c4, c5, .list 2 ((acc ++ bodyR x k a).map rcV) fl'] :: N)) ∧ (fl' = .own ∨ (fl' = .full ∧ acc ++ bodyR x k a = [])) := by
 induction k with
 | zero =>
  intro i a acc fl hi ha hx1 hfl
  refine ⟨fl, ?_, by rw [bodyR, List.append_nil]; exact hfl⟩
  have h1 : ¬ ((i : Int) < (n : Int)) := by omega
  rw [bodyR, List.append_nil]
  refine loop_step l_batch_body_0.eq_1 k_batch_body_0.eq_1 (by kernel_rfl) ?_
  simp only [go_sem, h1, reduceCtorEq, ↓reduceIte, Nat.reduceAdd, Nat.reduceEqDiff, Nat.reduceLT, Int.reduceLE, Nat.reduceSub, Nat.reduceLeDiff, Nat.reduceMul, Int.reduceToNat, Int.reduceLT, Int.reduceEq, Int.reduceNeg, Nat.reduceBEq, Nat.reduceBNe]
 | succ k ih =>
  intro i a acc fl hi hacc ha hfl
  have h1 : ((i : Int) < (n : Int)) := by omega
  have e6 : IntKind.i64.wrap ((i : Int) + 1) = ((i + 1 : Nat) : Int) := by rw [wrap_id (by unfold I64; omega)]; omega
  have a0 : (0 : Int) ≤ (a : Int) := by omega
  have a1 : (a : Int) ≤ (x.length : Int) := by omega
  have d1 : ((a : Nat) : Int).toNat = a := by omega
  have q1 : (ints .u8 x).drop a = ints .u8 (x.drop a) := by rw [← List.map_drop]
  have t1 := fun H => cut_spec (x.drop a) 64 H (bytes_drop a hb) (by simp; omega)
  have r1 := cutS_range (x.drop a) 64
  have b1 : bodyR x (k + 1) a = ((cutS (x.drop a) 64).1, (cutS (x.drop (a + (cutS (x.drop a) 64).2.toNat)) 64).1) ::
   bodyR x k (a + (cutS (x.drop a) 64).2.toNat + (cutS (x.drop (a + (cutS (x.drop a) 64).2.toNat)) 64).2.toNat) := rfl
  rw [b1]
  rw [List.length_drop] at r1
  generalize cutS (x.drop a) 64 = s1 at *
  obtain ⟨k1, m1⟩ := s1
  simp only at t1 r1 b1 ⊢
  obtain ⟨n1, rfl⟩ := Int.eq_ofNat_of_zero_le r1.1
  simp only [Int.toNat_natCast] at b1 ⊢
  have w1 : IntKind.i64.wrap ((a : Int) + (n1 : Int)) = ((a + n1 : Nat) : Int) := by rw [wrap_id (by unfold I64; omega)]; omega
  have a2 : (0 : Int) ≤ ((a + n1 : Nat) : Int) := by omega
  have a3 : ((a + n1 : Nat) : Int) ≤ (x.length : Int) := by omega
  have d2 : ((a + n1 : Nat) : Int).toNat = a + n1 := by omega
  have q2 : (ints .u8 x).drop (a + n1) = ints .u8 (x.drop (a + n1)) := by rw [← List.map_drop]
  have t2 := fun H => cut_spec (x.drop (a + n1)) 64 H (bytes_drop (a + n1) hb) (by simp; omega)
  have r2 := cutS_range (x.drop (a + n1)) 64
  rw [List.length_drop] at r2
  generalize cutS (x.drop (a + n1)) 64 = s2 at *
  obtain ⟨k2, m2⟩ := s2
  simp only at t2 r2 b1 ⊢
  obtain ⟨n2, rfl⟩ := Int.eq_ofNat_of_zero_le r2.1
  simp only [Int.toNat_natCast] at b1 ⊢
  have w2 : IntKind.i64.wrap ((n1 : Int) + (n2 : Int)) = ((n1 + n2 : Nat) : Int) := by rw [wrap_id (by unfold I64; omega)]; omega
  have w3 : IntKind.i64.wrap ((a : Int) + ((n1 + n2 : Nat) : Int)) = ((a + n1 + n2 : Nat) : Int) := by rw [wrap_id (by unfold I64; omega)]; omega
  obtain ⟨fl', h2, hf'⟩ := ih (i + 1) (a + n1 + n2) (acc ++ [(k1, k2)]) .own (by omega) (by simp; omega) (by omega) (.inl rfl)
  refine ⟨fl', ?_, by simpa using hf'⟩
  have bb : ((acc.map rcV).length + 1) * 32 ≤ maxBytes := by simp only [List.length_map, maxBytes]; omega
  have bb' : (acc.length + 1) * 32 ≤ maxBytes := by simp only [maxBytes]; omega
  have b0 : (0 + 1) * 32 ≤ maxBytes := by decide
  have e8 : acc.map rcV ++ [.agg [.str k1, .str k2]] = (acc ++ [(k1, k2)]).map rcV := by simp [rcV]
  rw [List.append_assoc] at h2
  simp only [List.singleton_append] at h2
  refine loop_step l_batch_body_0.eq_1 k_batch_body_0.eq_1 (by kernel_rfl) ?_
  rcases hfl with rfl | ⟨rfl, rfl⟩
  ·simp only [go_sem, h1, slL, List.length_map, a0, a1, d1, q1, t1, w1, a2, a3, d2, q2, t2, apO, bb, bb', e8, w2, w3, e6, reduceCtorEq, ↓reduceIte, Nat.reduceAdd, Nat.reduceEqDiff, Nat.reduceLT, Int.reduceLE, Nat.reduceSub, Nat.reduceLeDiff, Nat.reduceMul, Int.reduceToNat, Int.reduceLT, Int.reduceEq, Int.reduceNeg, Nat.reduceBEq, Nat.reduceBNe]
   exact h2
  ·simp only [List.map_nil, List.nil_append] at e8 h2 ⊢
   simp only [go_sem, h1, slL, List.length_map, a0, a1, d1, q1, t1, w1, a2, a3, d2, q2, t2, apF, List.length_nil, b0, List.nil_append, w2, w3, e6, reduceCtorEq, ↓reduceIte, Nat.reduceAdd, Nat.reduceEqDiff, Nat.reduceLT, Int.reduceLE, Nat.reduceSub, Nat.reduceLeDiff, Nat.reduceMul, Int.reduceToNat, Int.reduceLT, Int.reduceEq, Int.reduceNeg, Nat.reduceBEq, Nat.reduceBNe]
   rw [e8]
   exact h2

theorem epoch_or (c d : Int) (hc : 0 ≤ c ∧ c < 256) (hd : 0 ≤ d ∧ d < 256) : bits .or .i64 (shl .i64 (IntKind.i64.wrap c) 8) (IntKind.i64.wrap d) = c * 256 + d := by
 have e : IntKind.i64.wrap c = c := wrap_id (by unfold I64; omega)
 rw [e, lg_step c d hc.1 (by omega) hd.1 hd.2]
set_option maxHeartbeats 1000000 in
theorem body_spec (base : Int) (x : List Int) (hb : Bytes x) (h20 : 20 ≤ x.length) (hl : x.length ≤ 100000) (H : Heap) :
  W n_batch_body [.int .i64 base, bytes x .ro] H = some ((bodyB base x).V, H) := by
 have g0 := getD_at (p := x) 0 (by omega)
 have g9 := getD_at (p := x) 9 (by omega)
 have g10 := getD_at (p := x) 10 (by omega)
 have g19 := getD_at (p := x) 19 (by omega)
 have r0 := getD_byte hb 0
 have r9 := getD_byte hb 9
 have r10 := getD_byte hb 10
 have r19 := getD_byte hb 19
 have q1 : (ints .u8 x).drop 1 = ints .u8 (x.drop 1) := by rw [← List.map_drop]
 have q11 : (ints .u8 x).drop 11 = ints .u8 (x.drop 11) := by rw [← List.map_drop]
 have l1 : (1 : Int) ≤ (x.length : Int) := by omega
 have l11 : (11 : Int) ≤ (x.length : Int) := by omega
 have t1 := fun H => W_back (x.drop 1) H
 have t11 := fun H => W_back (x.drop 11) H
 have a1 := and1_u8 (x.getD 0 0) r0.1 r0.2
 have s1 := shr1_u8 (x.getD 0 0)
 have w1 : IntKind.i64.wrap (x.getD 0 0 / 2) = x.getD 0 0 / 2 := wrap_id (by unfold I64; omega)
 have w2 : IntKind.i64.wrap (x.getD 19 0) = x.getD 19 0 := wrap_id (by unfold I64; omega)
 have eo := epoch_or (x.getD 9 0) (x.getD 10 0) r9 r10
 obtain ⟨n, hn⟩ : ∃ n : Nat, x.getD 19 0 = (n : Int) := ⟨(x.getD 19 0).toNat, by omega⟩
 have hbV : (bodyB base x).V = .agg [.int .i64 base, .int .i64 (backI (x.drop 1)), .int .i64 (epochOf (x.getD 9 0) (x.getD 10 0)), .int .i64 (backI (x.drop 11)), .bool (decide (x.getD 0 0 % 2 = 1)), .int .i64 (x.getD 0 0 / 2), .list 2 ((bodyR x n 20).map rcV) .ro] := by
  unfold bodyB Ba.V Ba.cs; rw [hn]; rfl
 rw [hbV]
 rw [hn] at w2 g19
 have lp := fun (X : Box) c0 c1 c2 c3 c4 c5 => body_loop x hb hl n (by omega) X c0 c1 c2 c3 c4 c5 H [] n 0 20 [] .full (by omega) rfl (by omega) (.inr ⟨rfl, rfl⟩)
 simp only [List.nil_append, List.map_nil, Int.natCast_zero, Int.cast_ofNat_Int] at lp
 unfold epochOf
 clear hbV
 generalize bodyR x n 20 = R at *
 generalize x.drop 1 = x1 at *
 generalize x.drop 11 = x11 at *
 generalize backI x1 = p1 at *
 generalize backI x11 = p11 at *
 generalize decide (8 ≤ x1.length) = o1 at *
 generalize decide (8 ≤ x11.length) = o11 at *
 generalize x.getD 0 0 = v0 at *
 generalize x.getD 9 0 = v9 at *
 generalize x.getD 10 0 = v10 at *
 generalize v9 * 256 + v10 = e at *
 by_cases c1 : e = 65535
 ·rw [if_pos c1]
  obtain ⟨fl', h, hf⟩ := lp (.cells [.int .i64 0, .int .i64 0, .int .i64 0, .int .i64 0, .bool false, .int .i64 0, .list 2 [] .full]) (.int .i64 base) (.int .i64 p1) (.int .i64 (-1)) (.int .i64 p11) (.bool (decide (v0 % 2 = 1))) (.int .i64 (v0 / 2))
  refine W_fn rfl rfl ?_
  rcases hf with rfl | ⟨rfl, hR⟩
  ·simp only [go_sem, c_batch_body, g0, g9, g10, g19, a1, s1, w1, w2, eo, slL, List.length_map, l1, l11, q1, q11, t1, t11, eq_true c1, h, under_rc, reduceCtorEq, ↓reduceIte, Nat.reduceAdd, Nat.reduceEqDiff, Nat.reduceLT, Int.reduceLE, Nat.reduceSub, Nat.reduceLeDiff, Nat.reduceMul, Int.reduceToNat, Int.reduceLT, Int.reduceEq, Int.reduceNeg, Nat.reduceBEq, Nat.reduceBNe]
  ·rw [hR] at h ⊢
   simp only [List.map_nil] at h ⊢
   simp only [go_sem, c_batch_body, g0, g9, g10, g19, a1, s1, w1, w2, eo, slL, List.length_map, l1, l11, q1, q11, t1, t11, eq_true c1, h, under_rc, reduceCtorEq, ↓reduceIte, Nat.reduceAdd, Nat.reduceEqDiff, Nat.reduceLT, Int.reduceLE, Nat.reduceSub, Nat.reduceLeDiff, Nat.reduceMul, Int.reduceToNat, Int.reduceLT, Int.reduceEq, Int.reduceNeg, Nat.reduceBEq, Nat.reduceBNe]
 ·rw [if_neg c1]
  obtain ⟨fl', h, hf⟩ := lp (.cells [.int .i64 0, .int .i64 0, .int .i64 0, .int .i64 0, .bool false, .int .i64 0, .list 2 [] .full]) (.int .i64 base) (.int .i64 p1) (.int .i64 e) (.int .i64 p11) (.bool (decide (v0 % 2 = 1))) (.int .i64 (v0 / 2))
  refine W_fn rfl rfl ?_
  rcases hf with rfl | ⟨rfl, hR⟩
  ·simp only [go_sem, c_batch_body, g0, g9, g10, g19, a1, s1, w1, w2, eo, slL, List.length_map, l1, l11, q1, q11, t1, t11, c1, h, under_rc, reduceCtorEq, ↓reduceIte, Nat.reduceAdd, Nat.reduceEqDiff, Nat.reduceLT, Int.reduceLE, Nat.reduceSub, Nat.reduceLeDiff, Nat.reduceMul, Int.reduceToNat, Int.reduceLT, Int.reduceEq, Int.reduceNeg, Nat.reduceBEq, Nat.reduceBNe]
  ·rw [hR] at h ⊢
   simp only [List.map_nil] at h ⊢
   simp only [go_sem, c_batch_body, g0, g9, g10, g19, a1, s1, w1, w2, eo, slL, List.length_map, l1, l11, q1, q11, t1, t11, c1, h, under_rc, reduceCtorEq, ↓reduceIte, Nat.reduceAdd, Nat.reduceEqDiff, Nat.reduceLT, Int.reduceLE, Nat.reduceSub, Nat.reduceLeDiff, Nat.reduceMul, Int.reduceToNat, Int.reduceLT, Int.reduceEq, Int.reduceNeg, Nat.reduceBEq, Nat.reduceBNe]
end Go.Abs

namespace Go.Abs
open Go Go.RowKit
set_option linter.unusedVariables false
set_option linter.unusedSimpArgs false

/-! ## batch.Read -/
def zeroBa : Ba := ⟨0, 0, 0, 0, false, 0, []⟩
def cutP (p : List Int) : List Int := (p.take (longB p).toNat).drop 12
def readB (p : List Int) : Ba × Int × Int :=
 if longB p > 4096 then (zeroBa, 0, 13)
 else if longB p < 36 then (zeroBa, 0, 12)
 else if longB p > (p.length : Int) then (zeroBa, 0, 12)
 else if chkOK (cutP p) = false then (zeroBa, 0, 12)
 else if 5 < ((cutP p).drop 4).getD 0 0 then (zeroBa, 0, 12)
 else if rightE (bodyB (backI p) ((cutP p).drop 4)) ≠ 0 then (zeroBa, 0, 12)
 else if baBytes (bodyB (backI p) ((cutP p).drop 4)) = p.take (longB p).toNat then (bodyB (backI p) ((cutP p).drop 4), longB p, 0)
 else (zeroBa, 0, 12)
theorem backI_i64 (l : List Int) : I64 (backI l) := by
 unfold backI
 split
 ·exact i64_c (by omega) (by omega)
 ·rw [IntKind.wrap_i64]; unfold I64; omega
theorem bodyB_ok (base : Int) (hb : I64 base) (x : List Int) (hx : ∀ c ∈ x, 0 ≤ c ∧ c < 256) : BOK (bodyB base x) := by
 have r0 := getD_byte hx 0
 have r9 := getD_byte hx 9
 have r10 := getD_byte hx 10
 refine ⟨hb, backI_i64 _, ?_, backI_i64 _, ?_⟩
 ·unfold bodyB epochOf I64; simp only; split <;> omega
 ·unfold bodyB I64; simp only; omega
set_option maxHeartbeats 2000000 in
theorem read_spec (p : List Int) (hp : ∀ x ∈ p, 0 ≤ x ∧ x < 256) (hl : p.length ≤ 70368744177664) (H : Heap) :
  W n_batch_Read [bytes p .ro] H = some (.tuple [(readB p).1.V, .int .i64 (readB p).2.1, .int .i64 (readB p).2.2], H) := by
 have t1 := fun H => blong_spec p hp H
 have rl := longB_range hp
 have zV : zeroBa.V = .agg [.int .i64 0, .int .i64 0, .int .i64 0, .int .i64 0, .bool false, .int .i64 0, .list 2 [] .ro] := rfl
 unfold readB
 by_cases c1 : longB p > 4096
 ·rw [if_pos c1]
  simp only [zV]
  generalize longB p = n at *
  refine W_fn rfl rfl ?_
  simp only [go_sem, c_batch_Read, t1, c1, reduceCtorEq, ↓reduceIte, Nat.reduceAdd, Nat.reduceEqDiff, Nat.reduceLT, Int.reduceLE, Nat.reduceSub, Nat.reduceLeDiff, Nat.reduceMul, Int.reduceToNat, Int.reduceLT, Int.reduceEq, Int.reduceNeg, Nat.reduceBEq, Nat.reduceBNe]
 rw [if_neg c1]
 by_cases c2 : longB p < 36
 ·rw [if_pos c2]
  simp only [zV]
  generalize longB p = n at *
  refine W_fn rfl rfl ?_
  simp only [go_sem, c_batch_Read, t1, c1, c2, reduceCtorEq, ↓reduceIte, Nat.reduceAdd, Nat.reduceEqDiff, Nat.reduceLT, Int.reduceLE, Nat.reduceSub, Nat.reduceLeDiff, Nat.reduceMul, Int.reduceToNat, Int.reduceLT, Int.reduceEq, Int.reduceNeg, Nat.reduceBEq, Nat.reduceBNe]
 rw [if_neg c2]
 by_cases c3 : longB p > (p.length : Int)
 ·rw [if_pos c3]
  simp only [zV]
  generalize longB p = n at *
  refine W_fn rfl rfl ?_
  simp only [go_sem, c_batch_Read, t1, c1, c2, List.length_map, c3, reduceCtorEq, ↓reduceIte, Nat.reduceAdd, Nat.reduceEqDiff, Nat.reduceLT, Int.reduceLE, Nat.reduceSub, Nat.reduceLeDiff, Nat.reduceMul, Int.reduceToNat, Int.reduceLT, Int.reduceEq, Int.reduceNeg, Nat.reduceBEq, Nat.reduceBNe]
 rw [if_neg c3]
 have hcb : ∀ x ∈ cutP p, 0 ≤ x ∧ x < 256 := fun x hx => hp x (List.mem_of_mem_take (List.mem_of_mem_drop hx))
 have hcl : (cutP p).length = (longB p).toNat - 12 := by unfold cutP; rw [List.length_drop, List.length_take]; omega
 have q1 : ((ints .u8 p).take (longB p).toNat).drop 12 = ints .u8 (cutP p) := by unfold cutP; rw [← List.map_take, ← List.map_drop]
 have t2 := fun H => check_spec (cutP p) hcb (by omega) H
 have i1 : (0 : Int) ≤ longB p := by omega
 have i2 : (12 : Int) ≤ longB p := by omega
 have i3 : longB p ≤ (p.length : Int) := by omega
 cases c4 : chkOK (cutP p) with
 | false =>
  rw [if_pos rfl]
  simp only [zV]
  rw [c4] at t2
  simp only [Bool.false_eq_true, if_false] at t2
  generalize longB p = n at *
  refine W_fn rfl rfl ?_
  simp only [go_sem, c_batch_Read, t1, c1, c2, slM, List.length_map, c3, i1, i2, i3, q1, t2, reduceCtorEq, ↓reduceIte, Nat.reduceAdd, Nat.reduceEqDiff, Nat.reduceLT, Int.reduceLE, Nat.reduceSub, Nat.reduceLeDiff, Nat.reduceMul, Int.reduceToNat, Int.reduceLT, Int.reduceEq, Int.reduceNeg, Nat.reduceBEq, Nat.reduceBNe]
 | true =>
  rw [if_neg (by decide)]
  rw [c4] at t2
  simp only [if_true] at t2
  have hx20 : 20 ≤ ((cutP p).drop 4).length := by rw [List.length_drop]; omega
  have hxl : ((cutP p).drop 4).length ≤ 4100 := by rw [List.length_drop]; omega
  have hxb : ∀ x ∈ (cutP p).drop 4, 0 ≤ x ∧ x < 256 := fun x hx => hcb x (List.mem_of_mem_drop hx)
  generalize (cutP p).drop 4 = x at *
  have g0 := getD_at (p := x) 0 (by omega)
  by_cases c5 : 5 < x.getD 0 0
  ·rw [if_pos c5]
   simp only [zV]
   have c5' : x.getD 0 0 > 5 := c5
   generalize longB p = n at *
   generalize x.getD 0 0 = x0 at *
   refine W_fn rfl rfl ?_
   simp only [go_sem, c_batch_Read, t1, c1, c2, slM, List.length_map, c3, i1, i2, i3, q1, t2, g0, c5', reduceCtorEq, ↓reduceIte, Nat.reduceAdd, Nat.reduceEqDiff, Nat.reduceLT, Int.reduceLE, Nat.reduceSub, Nat.reduceLeDiff, Nat.reduceMul, Int.reduceToNat, Int.reduceLT, Int.reduceEq, Int.reduceNeg, Nat.reduceBEq, Nat.reduceBNe]
  ·rw [if_neg c5]
   have c5' : ¬ x.getD 0 0 > 5 := c5
   have t3 := fun H => W_back p H
   have t4 := fun H => body_spec (backI p) x hxb hx20 (by omega) H
   have hbo := bodyB_ok (backI p) (backI_i64 p) x hxb
   generalize bodyB (backI p) x = b at *
   generalize backI p = base at *
   have t5 := fun H => Bytes_spec b hbo H
   unfold Ba.V Ba.cs at *
   by_cases c6 : rightE b = 0
   ·rw [if_neg (by omega)]
    rw [c6] at t5
    simp only [if_true] at t5
    have q2 : (ints .u8 p).take (longB p).toNat = ints .u8 (p.take (longB p).toNat) := by rw [← List.map_take]
    have q3 : (ints .u8 (p.take (longB p).toNat)).drop 12 = ints .u8 (cutP p) := by unfold cutP; rw [← List.map_drop]
    have lb := baBytes_len (rightE_small c6)
    have t6 := fun H => equal_spec (baBytes b) (p.take (longB p).toNat) (by omega) H
    generalize p.take (longB p).toNat = y at *
    generalize baBytes b = z at *
    by_cases c7 : z = y
    ·rw [if_pos c7]
     rw [decide_eq_true c7] at t6
     generalize longB p = n at *
     generalize x.getD 0 0 = x0 at *
     refine W_fn rfl rfl ?_
     simp only [go_sem, c_batch_Read, t1, c1, c2, slM, slH, List.length_map, c3, i1, i2, i3, q2, q3, t2, g0, c5', t3, t4, t5, t6, under_rc, reduceCtorEq, ↓reduceIte, Nat.reduceAdd, Nat.reduceEqDiff, Nat.reduceLT, Int.reduceLE, Nat.reduceSub, Nat.reduceLeDiff, Nat.reduceMul, Int.reduceToNat, Int.reduceLT, Int.reduceEq, Int.reduceNeg, Nat.reduceBEq, Nat.reduceBNe]
    ·rw [if_neg c7]
     rw [decide_eq_false c7] at t6
     simp only [zeroBa, List.map_nil]
     generalize longB p = n at *
     generalize x.getD 0 0 = x0 at *
     refine W_fn rfl rfl ?_
     simp only [go_sem, c_batch_Read, t1, c1, c2, slM, slH, List.length_map, c3, i1, i2, i3, q2, q3, t2, g0, c5', t3, t4, t5, t6, under_rc, reduceCtorEq, ↓reduceIte, Nat.reduceAdd, Nat.reduceEqDiff, Nat.reduceLT, Int.reduceLE, Nat.reduceSub, Nat.reduceLeDiff, Nat.reduceMul, Int.reduceToNat, Int.reduceLT, Int.reduceEq, Int.reduceNeg, Nat.reduceBEq, Nat.reduceBNe]
   ·rw [if_pos c6]
    rw [if_neg c6] at t5
    simp only [zeroBa, List.map_nil]
    generalize longB p = n at *
    generalize x.getD 0 0 = x0 at *
    refine W_fn rfl rfl ?_
    simp only [go_sem, c_batch_Read, t1, c1, c2, slM, slH, List.length_map, c3, i1, i2, i3, q1, t2, g0, c5', t3, t4, t5, c6, under_rc, reduceCtorEq, ↓reduceIte, Nat.reduceAdd, Nat.reduceEqDiff, Nat.reduceLT, Int.reduceLE, Nat.reduceSub, Nat.reduceLeDiff, Nat.reduceMul, Int.reduceToNat, Int.reduceLT, Int.reduceEq, Int.reduceNeg, Nat.reduceBEq, Nat.reduceBNe]
end Go.Abs

namespace Go.Abs
open Go Go.RowKit
set_option linter.unusedVariables false
set_option linter.unusedSimpArgs false

theorem or_comm64 (a b : Int) : bits .or .u64 a b = bits .or .u64 b a := by
 show IntKind.u64.wrap _ = IntKind.u64.wrap _
 rw [BitVec.or_comm]
theorem bk_step (x c : Int) (h0 : 0 ≤ x) (h1 : x < 72057594037927936) (c0 : 0 ≤ c) (c1 : c < 256) : bits .or .u64 (shl .u64 x 8) (IntKind.u64.wrap c) = x * 256 + c := by
 have e1 : shl .u64 x 8 = x * 256 := by
  unfold shl
  rw [Num.wu64]
  have : (2 : Int) ^ (min (8 : Int).toNat IntKind.u64.bits) = 256 := by decide
  rw [this]; omega
 have e2 : IntKind.u64.wrap c = c := by rw [Num.wu64]; omega
 rw [e1, e2, or_comm64, Num.or_u64 8 c (x * 256) c0 (by show c < 256; omega) (by omega) (by show x * 256 % 256 = 0; omega) (by omega) (by omega)]
 omega
theorem bk_bes (n : Int) : ∀ (d i : Nat), i + d = 8 → bk (bes n i) ((n / 2 ^ (8 * d)) % 2 ^ (8 * i)) = n % 18446744073709551616 := by
 intro d
 induction d with
 | zero =>
  intro i hi
  have : i = 8 := by omega
  subst this
  have : bes n 8 = [] := by simp [bes]
  rw [this, bk]
  simp
 | succ d ih =>
  intro i hi
  have hb : bes n i = be n i :: bes n (i + 1) := by
   unfold bes
   rw [List.drop_eq_getElem_cons (by simp; omega)]
   simp
  have hbe : be n i = (n / 2 ^ (8 * d)) % 256 := by unfold be; rw [show 7 - i = d by omega]
  have hp : (2 : Int) ^ (8 * (d + 1)) = 2 ^ (8 * d) * 256 := by rw [show 8 * (d + 1) = 8 * d + 8 by omega, Int.pow_add]; rfl
  have hp2 : (2 : Int) ^ (8 * (i + 1)) = 2 ^ (8 * i) * 256 := by rw [show 8 * (i + 1) = 8 * i + 8 by omega, Int.pow_add]; rfl
  have hpos : (0 : Int) < 2 ^ (8 * d) := Int.pow_pos (by decide)
  have hposi : (0 : Int) < 2 ^ (8 * i) := Int.pow_pos (by decide)
  have hle : (2 : Int) ^ (8 * i) ≤ 72057594037927936 := by
   have : (2 : Int) ^ (8 * i) ≤ 2 ^ 56 := by
    have h := Nat.pow_le_pow_right (n := 2) (by decide) (show 8 * i ≤ 56 by omega)
    have h2 : ((2 ^ (8 * i) : Nat) : Int) ≤ ((2 ^ 56 : Nat) : Int) := by omega
    simpa using h2
   exact this
  have hx0 := Int.emod_nonneg (n / 2 ^ (8 * (d + 1))) (by omega : (2 : Int) ^ (8 * i) ≠ 0)
  have hx1 := Int.emod_lt_of_pos (n / 2 ^ (8 * (d + 1))) hposi
  rw [hb, bk, hbe, bk_step _ _ hx0 (by omega) (by omega) (by omega)]
  have key : n / 2 ^ (8 * (d + 1)) % 2 ^ (8 * i) * 256 + n / 2 ^ (8 * d) % 256 = n / 2 ^ (8 * d) % 2 ^ (8 * (i + 1)) := by
   rw [hp, ← Int.ediv_ediv_of_nonneg (Int.le_of_lt hpos), hp2]
   generalize n / 2 ^ (8 * d) = m
   generalize (2 : Int) ^ (8 * i) = P at hposi
   have a1 : m = (m / 256 % P * 256 + m % 256) + P * 256 * (m / 256 / P) := by
    have b1 := Int.emod_add_mul_ediv m 256
    have b2 := Int.emod_add_mul_ediv (m / 256) P
    have b3 : P * 256 * (m / 256 / P) = (P * (m / 256 / P)) * 256 := by rw [Int.mul_assoc, Int.mul_comm 256, ← Int.mul_assoc]
    rw [b3]; omega
   have c1 := Int.emod_nonneg (m / 256) (by omega : P ≠ 0)
   have c2 := Int.emod_lt_of_pos (m / 256) hposi
   have a2 : m % (P * 256) = (m / 256 % P * 256 + m % 256) % (P * 256) := by
    conv => lhs; rw [a1]
    rw [Int.add_mul_emod_self_left]
   rw [a2, Int.emod_eq_of_lt (a := m / 256 % P * 256 + m % 256) (by omega) (by omega)]
  rw [key]
  exact ih (i + 1) (by omega)
theorem bk_bes0 (n : Int) (hn : I64 n) : IntKind.i64.wrap (bk (bes n 0) 0) = n := by
 have h := bk_bes n 8 0 rfl
 have e : n / 2 ^ (8 * 8) % 2 ^ (8 * 0) = 0 := by show n / 18446744073709551616 % 1 = 0; omega
 rw [e] at h
 rw [h, IntKind.wrap_i64]
 unfold I64 at hn
 omega
theorem backV_bes (n : Int) (hn : I64 n) (r : List Int) : backV (bes n 0 ++ r) = .tuple [.int .i64 n, .bool true] := by
 unfold backV
 have hl := bes_len n
 rw [if_neg (by rw [List.length_append]; omega), List.take_append_of_le_length (by omega), List.take_of_length_le (by omega), bk_bes0 n hn]

theorem backI_bes (n : Int) (hn : I64 n) (r : List Int) : backI (bes n 0 ++ r) = n := by
 have h := backV_bes n hn r
 rw [backV_eq] at h
 injection h with h
 injection h with h _
 injection h with _ h
theorem toS_txt (s : List UInt8) : toS (s.map fun b => (b.toNat : Int)) = s := by
 unfold toS
 rw [List.map_map]
 conv => rhs; rw [← List.map_id s]
 refine List.map_congr_left fun b _ => ?_
 simp
theorem cut_txt (s : List UInt8) (hs : s.length ≤ 64) (r : List Int) : cutS (txt s ++ r) 64 = (s, ((txt s).length : Int)) := by
 have hz := Num.zig_range (s.length : Int) (by omega)
 have hd := Vt.dec_enc (Num.zig s.length) hz.1 hz.2 ((s.map fun b => (b.toNat : Int)) ++ r)
 have hne := Vt.enc_ne 9 (Num.zig s.length)
 have hpos : 0 < (Vt.enc 9 (Num.zig s.length)).length := List.length_pos_iff.2 hne
 unfold cutS txt
 rw [List.append_assoc, hd]
 generalize Vt.enc 9 (Num.zig s.length) = E at *
 simp only [told, Num.zag_zig]
 rw [if_neg (by omega), if_neg (by omega), if_neg (by simp; omega)]
 have e1 : ((E.length : Int) + (s.length : Int)).toNat = E.length + s.length := by omega
 have e2 : ((E.length : Nat) : Int).toNat = E.length := by omega
 rw [e1, e2]
 have e3 : ((E ++ ((s.map fun b => (b.toNat : Int)) ++ r)).take (E.length + s.length)).drop E.length = s.map fun b => (b.toNat : Int) := by
  rw [List.take_append, List.drop_append]
  simp
 rw [e3, toS_txt]
 simp
theorem bodyR_rcs (x : List Int) (t : List Int) : ∀ (r : List Rc) (a : Nat), (∀ y ∈ r, y.1.length ≤ 64 ∧ y.2.length ≤ 64) → x.drop a = rcsB r ++ t → bodyR x r.length a = r
 | [], _, _, _ => rfl
 | y :: r, a, h, hx => by
  have hy := h y List.mem_cons_self
  have e1 : x.drop a = txt y.1 ++ (txt y.2 ++ (rcsB r ++ t)) := by rw [hx]; simp [rcsB, rcB]
  have e2 : x.drop (a + (txt y.1).length) = txt y.2 ++ (rcsB r ++ t) := by
   rw [← List.drop_drop, e1]; simp
  have e3 : x.drop (a + (txt y.1).length + (txt y.2).length) = rcsB r ++ t := by
   rw [← List.drop_drop, e2]; simp
  have c1 : cutS (x.drop a) 64 = (y.1, ((txt y.1).length : Int)) := by rw [e1]; exact cut_txt y.1 hy.1 _
  have c2 : cutS (x.drop (a + (txt y.1).length)) 64 = (y.2, ((txt y.2).length : Int)) := by rw [e2]; exact cut_txt y.2 hy.2 _
  show bodyR x (r.length + 1) a = _
  unfold bodyR
  rw [c1]
  simp only [Int.toNat_natCast]
  rw [c2]
  simp only [Int.toNat_natCast]
  rw [bodyR_rcs x t r _ (fun z hz => h z (List.mem_cons_of_mem _ hz)) e3]
end Go.Abs

namespace Go.Abs
open Go Go.RowKit
set_option linter.unusedVariables false
set_option linter.unusedSimpArgs false

theorem bes_list (n : Int) : bes n 0 = [be n 0, be n 1, be n 2, be n 3, be n 4, be n 5, be n 6, be n 7] := rfl
/-- What a batch that is right is. -/
structure RtB (b : Ba) : Prop where
 base : 0 ≤ b.base ∧ b.base ≤ 1099511627776
 mark : b.mark = 0 ∨ b.mark = 1 ∨ b.mark = 2
 epoch : -1 ≤ b.epoch ∧ b.epoch ≤ 32767
 small : SmallR b.recs
theorem right_rt {b : Ba} (h : rightE b = 0) : RtB b := by
 have hs := rightE_small h
 unfold rightE at h
 split at h
 ·cases h
 ·rename_i hb
  split at h
  ·rename_i hm
   refine ⟨by omega, .inl hm, ?_, hs⟩
   unfold dataE at h
   split at h
   ·cases h
   ·rename_i hc
    cases hn : noneB b with
    | true =>
     unfold noneB at hn
     simp only [Bool.and_eq_true, decide_eq_true_eq] at hn
     omega
    | false =>
     cases hna : namedB b with
     | true =>
      unfold namedB at hna
      simp only [Bool.and_eq_true, decide_eq_true_eq] at hna
      omega
     | false => rw [hn, hna] at hc; exact absurd rfl hc
  ·split at h
   ·cases h
   ·rename_i hm hc
    unfold markE at hc
    simp only [Bool.or_eq_true, Bool.and_eq_true, decide_eq_true_eq, Bool.not_eq_true', not_or] at hc
    obtain ⟨h1, h2, h3, h4, h5⟩ := hc
    refine ⟨by omega, by omega, ?_, hs⟩
    have h2' : namedB b = true := by cases hx : namedB b with
     | true => rfl
     | false => exact absurd hx h2
    unfold namedB at h2'
    simp only [Bool.and_eq_true, decide_eq_true_eq] at h2'
    omega
theorem flagI_eq {b : Ba} (h : b.mark = 0 ∨ b.mark = 1 ∨ b.mark = 2) : flagI b = 2 * b.mark + (if b.txn then 1 else 0) := by
 have e : flag0 b = 2 * b.mark := by
  unfold flag0
  rw [wrap_id (by unfold I64; omega), Num.wu8]; omega
 unfold flagI
 rw [e]
 split
 ·rw [Num.wu8]; omega
 ·omega
theorem head_drop (b : Ba) (t : List Int) : (headI b ++ t).drop 20 = t := by
 rw [List.drop_append_of_le_length (by rw [headI_len]; exact Nat.le_refl _), List.drop_of_length_le (by rw [headI_len]; exact Nat.le_refl _), List.nil_append]
theorem body_self {b : Ba} (hb : BOK b) (h : rightE b = 0) : bodyB b.base (inner b) = b := by
 have hr := right_rt h
 have e0 : (inner b).getD 0 0 = flagI b := rfl
 have e9 : (inner b).getD 9 0 = b.epoch / 256 % 256 := rfl
 have e10 : (inner b).getD 10 0 = b.epoch % 256 := rfl
 have e19 : (inner b).getD 19 0 = (b.recs.length : Int) % 256 := rfl
 have d1 : (inner b).drop 1 = bes b.prod 0 ++ ([b.epoch / 256 % 256, b.epoch % 256] ++ bes b.seq 0 ++ [(b.recs.length : Int) % 256] ++ rcsB b.recs) := rfl
 have d11 : (inner b).drop 11 = bes b.seq 0 ++ ([(b.recs.length : Int) % 256] ++ rcsB b.recs) := rfl
 have d20 : (inner b).drop 20 = rcsB b.recs ++ [] := by rw [List.append_nil]; exact head_drop b _
 have hs := hr.small
 have e19' : ((b.recs.length : Int) % 256).toNat = b.recs.length := by have := hs.1; omega
 unfold bodyB
 rw [e0, e9, e10, e19, d1, d11, backI_bes _ hb.prod, backI_bes _ hb.seq, e19', bodyR_rcs (inner b) [] b.recs 20 hs.2 d20, flagI_eq hr.mark]
 have he := hr.epoch
 have ep : epochOf (b.epoch / 256 % 256) (b.epoch % 256) = b.epoch := by unfold epochOf; split <;> omega
 rw [ep]
 have hm := hr.mark
 obtain ⟨base, prod, epoch, seq, txn, mark, recs⟩ := b
 simp only at hm ⊢
 have m1 : (2 * mark + (if txn = true then 1 else 0)) / 2 = mark := by split <;> omega
 have m2 : decide ((2 * mark + (if txn = true then 1 else 0)) % 2 = 1) = txn := by
  cases txn with
  | true => rw [if_pos rfl]; exact decide_eq_true (by omega)
  | false => rw [if_neg (by decide)]; exact decide_eq_false (by omega)
 rw [m1, m2]

theorem num4_be4 (n : Int) (h0 : 0 ≤ n) (h1 : n < 4294967296) : num4 (n / 16777216 % 256) (n / 65536 % 256) (n / 256 % 256) (n % 256) = n := by unfold num4; omega
theorem sealed_len (b : Ba) : (sealedI b).length = 4 + (inner b).length := by simp [sealedI, le4]; omega
theorem baBytes_len' (b : Ba) : (baBytes b).length = 12 + (sealedI b).length := by simp [baBytes, be4, bes_len]; omega
theorem inner_len20 (b : Ba) : 20 ≤ (inner b).length := by unfold inner; rw [List.length_append, headI_len]; omega
theorem long_self {b : Ba} (h : (sealedI b).length < 4294967296) (r : List Int) : longB (baBytes b ++ r) = ((baBytes b).length : Int) := by
 have hl := baBytes_len' b
 unfold longB
 rw [if_neg (by rw [List.length_append]; omega)]
 have e8 : (baBytes b ++ r).getD 8 0 = ((sealedI b).length : Int) / 16777216 % 256 := rfl
 have e9 : (baBytes b ++ r).getD 9 0 = ((sealedI b).length : Int) / 65536 % 256 := rfl
 have e10 : (baBytes b ++ r).getD 10 0 = ((sealedI b).length : Int) / 256 % 256 := rfl
 have e11 : (baBytes b ++ r).getD 11 0 = ((sealedI b).length : Int) % 256 := rfl
 rw [e8, e9, e10, e11, num4_be4 _ (by omega) (by omega)]
 omega
theorem toN_byte {l : List Int} (h : ∀ x ∈ l, 0 ≤ x ∧ x < 256) : ∀ x ∈ toN l, x < 256 := by
 intro x hx
 unfold toN at hx
 rw [List.mem_map] at hx
 obtain ⟨y, hy, rfl⟩ := hx
 have := h y hy
 omega
theorem chk_self {b : Ba} (h : SmallR b.recs) : chkOK (sealedI b) = true ∧ (sealedI b).drop 4 = inner b := by
 have d : (sealedI b).drop 4 = inner b := rfl
 refine ⟨?_, d⟩
 have hlt := crcN_lt (toN (inner b)) (toN_byte (inner_bytes h))
 unfold chkOK
 rw [d, decide_eq_true (by rw [sealed_len]; omega), Bool.true_and]
 refine decide_eq_true ?_
 have e0 : (sealedI b).getD 0 0 = ((crcN (toN (inner b)) : Nat) : Int) % 256 := rfl
 have e1 : (sealedI b).getD 1 0 = ((crcN (toN (inner b)) : Nat) : Int) / 256 % 256 := rfl
 have e2 : (sealedI b).getD 2 0 = ((crcN (toN (inner b)) : Nat) : Int) / 65536 % 256 := rfl
 have e3 : (sealedI b).getD 3 0 = ((crcN (toN (inner b)) : Nat) : Int) / 16777216 % 256 := rfl
 unfold sum4
 rw [e0, e1, e2, e3]
 generalize crcN (toN (inner b)) = n at *
 omega
theorem read_self {b : Ba} (hb : BOK b) (h : rightE b = 0) (r : List Int) : readB (baBytes b ++ r) = (b, ((baBytes b).length : Int), 0) := by
 have hr := right_rt h
 have hl := baBytes_len hr.small
 have hl' := baBytes_len' b
 have hs := sealed_len b
 have hi := inner_len20 b
 have hlong := long_self (b := b) (by omega) r
 have ht : (baBytes b ++ r).take (baBytes b).length = baBytes b := by simp
 have hc : cutP (baBytes b ++ r) = sealedI b := by
  unfold cutP
  rw [hlong, Int.toNat_natCast, ht]
  rfl
 obtain ⟨k1, k2⟩ := chk_self hr.small
 have hbk : backI (baBytes b ++ r) = b.base := by
  unfold baBytes
  rw [List.append_assoc, List.append_assoc]
  exact backI_bes _ hb.base _
 have e0 : (inner b).getD 0 0 = flagI b := rfl
 unfold readB
 rw [hc, k1, k2, hlong, hbk, body_self hb h, e0, flagI_eq hr.mark, Int.toNat_natCast, ht]
 have hm := hr.mark
 rw [if_neg (by omega), if_neg (by omega), if_neg (by rw [List.length_append]; omega), if_neg (by decide), if_neg (by split <;> omega), if_neg (by omega), if_pos rfl]
theorem sealed_bytes {b : Ba} (h : SmallR b.recs) : ∀ x ∈ sealedI b, 0 ≤ x ∧ x < 256 := by
 intro x hx
 unfold sealedI at hx
 rcases List.mem_append.1 hx with hx | hx
 ·simp only [le4, List.mem_cons, List.not_mem_nil, or_false] at hx
  rcases hx with rfl | rfl | rfl | rfl <;> omega
 ·exact inner_bytes h x hx
theorem baBytes_bytes {b : Ba} (h : SmallR b.recs) : ∀ x ∈ baBytes b, 0 ≤ x ∧ x < 256 := by
 intro x hx
 unfold baBytes at hx
 rcases List.mem_append.1 hx with hx | hx
 ·rcases List.mem_append.1 hx with hx | hx
  ·exact bes_bytes _ x hx
  ·simp only [be4, List.mem_cons, List.not_mem_nil, or_false] at hx
   rcases hx with rfl | rfl | rfl | rfl <;> omega
 ·exact sealed_bytes h x hx
end Go.Abs

namespace Go.Abs
open Go Go.RowKit
set_option linter.unusedVariables false
set_option linter.unusedSimpArgs false

theorem eq_rc (x y : Rc) : eqCells [.str, .str] [.str x.1, .str x.2] [.str y.1, .str y.2] = some (decide (x = y)) := by
 obtain ⟨a, b⟩ := x
 obtain ⟨c, d⟩ := y
 simp only [eqCells, Option.map_some, Bool.and_true, Prod.mk.injEq]
 congr 1
 by_cases h1 : a = c <;> by_cases h2 : b = d <;> simp [h1, h2]
theorem recs_loop6 (l m : List Rc) (hm : l.length = m.length) (hn : l.length ≤ 100000000) (H : Heap) (r : List Rc) : ∀ (s : List Rc) (p q : List Rc), l = p ++ r → m = q ++ s → p = q →
  loopA W loopW (.ghost (.kill k_ref6_Recs_0) l_ref6_Recs_0) [(0, .list 2 (l.map rcV) .ro), (1, .list 2 (m.map rcV) .ro), (12, .int .i64 (l.length : Nat)), (13, .int .i64 (p.length : Nat))] H =
   if r = s then some (.exit 0, [], H) else some (.ret, [(4, .bool false)], H) := by
 induction r with
 | nil =>
  intro s p q hp hq hpq
  have hs : s = [] := by
   subst hpq
   rw [hp, hq, List.append_nil, List.length_append] at hm
   exact List.eq_nil_of_length_eq_zero (by omega)
  rw [if_pos hs.symm]
  have h1 : ¬ ((p.length : Int) < (l.length : Int)) := by rw [hp]; simp
  refine loop_step l_ref6_Recs_0.eq_1 k_ref6_Recs_0.eq_1 (by kernel_rfl) ?_
  simp only [go_sem, h1, reduceCtorEq, ↓reduceIte, Nat.reduceAdd, Nat.reduceEqDiff, Nat.reduceLT, Int.reduceLE, Nat.reduceSub, Nat.reduceLeDiff, Nat.reduceMul, Int.reduceToNat, Int.reduceLT, Int.reduceEq, Int.reduceNeg, Nat.reduceBEq, Nat.reduceBNe]
 | cons x r ih =>
  intro s p q hp hq hpq
  cases s with
  | nil =>
   subst hpq
   rw [hp, hq, List.append_nil, List.length_append] at hm
   simp at hm
  | cons y s =>
   have h1 : ((p.length : Int) < (l.length : Int)) := by rw [hp]; simp; omega
   have e0 : (0 : Int) ≤ (p.length : Int) := by omega
   have e7 : ((p.length : Nat) : Int).toNat = p.length := by omega
   have e1 : (l.map rcV)[p.length]? = some (.agg [.str x.1, .str x.2]) := by rw [hp]; simp [rcV]
   have e2 : (m.map rcV)[p.length]? = some (.agg [.str y.1, .str y.2]) := by rw [hq, hpq]; simp [rcV]
   have hlen : l.length = p.length + (r.length + 1) := by rw [hp]; simp
   have e6 : IntKind.i64.wrap ((p.length : Int) + 1) = ((p.length + 1 : Nat) : Int) := by rw [wrap_id (by unfold I64; omega)]; omega
   have hq' := eq_rc x y
   by_cases c : x = y
   ·rw [decide_eq_true c] at hq'
    have h2 := ih s (p ++ [x]) (q ++ [y]) (by rw [hp]; simp) (by rw [hq]; simp) (by rw [hpq, c])
    simp only [List.length_append, List.length_cons, List.length_nil, Nat.zero_add] at h2
    have e9 : ((x :: r) = (y :: s)) = (r = s) := by simp [c]
    simp only [e9]
    by_cases c2 : r = s
    ·simp only [c2, if_true] at h2 ⊢
     refine loop_step l_ref6_Recs_0.eq_1 k_ref6_Recs_0.eq_1 (by kernel_rfl) ?_
     simp only [go_sem, h1, e0, e7, e1, e2, hq', e6, reduceCtorEq, ↓reduceIte, Nat.reduceAdd, Nat.reduceEqDiff, Nat.reduceLT, Int.reduceLE, Nat.reduceSub, Nat.reduceLeDiff, Nat.reduceMul, Int.reduceToNat, Int.reduceLT, Int.reduceEq, Int.reduceNeg, Nat.reduceBEq, Nat.reduceBNe]
     exact h2
    ·simp only [c2, if_false] at h2 ⊢
     refine loop_step l_ref6_Recs_0.eq_1 k_ref6_Recs_0.eq_1 (by kernel_rfl) ?_
     simp only [go_sem, h1, e0, e7, e1, e2, hq', e6, reduceCtorEq, ↓reduceIte, Nat.reduceAdd, Nat.reduceEqDiff, Nat.reduceLT, Int.reduceLE, Nat.reduceSub, Nat.reduceLeDiff, Nat.reduceMul, Int.reduceToNat, Int.reduceLT, Int.reduceEq, Int.reduceNeg, Nat.reduceBEq, Nat.reduceBNe]
     exact h2
   ·rw [decide_eq_false c] at hq'
    rw [if_neg (by simp [c])]
    refine loop_step l_ref6_Recs_0.eq_1 k_ref6_Recs_0.eq_1 (by kernel_rfl) ?_
    simp only [go_sem, h1, e0, e7, e1, e2, hq', reduceCtorEq, ↓reduceIte, Nat.reduceAdd, Nat.reduceEqDiff, Nat.reduceLT, Int.reduceLE, Nat.reduceSub, Nat.reduceLeDiff, Nat.reduceMul, Int.reduceToNat, Int.reduceLT, Int.reduceEq, Int.reduceNeg, Nat.reduceBEq, Nat.reduceBNe]
theorem recs_spec6 (l m : List Rc) (hn : l.length ≤ 100000000) (H : Heap) : W n_ref6_Recs [.list 2 (l.map rcV) .ro, .list 2 (m.map rcV) .ro] H = some (.bool (decide (l = m)), H) := by
 by_cases c : l.length = m.length
 ·have h := recs_loop6 l m c hn H l m [] [] rfl rfl rfl
  simp only [List.length_nil, Int.natCast_zero] at h
  have c' : (l.length : Int) = (m.length : Int) := by omega
  by_cases d : l = m
  ·rw [if_pos d] at h
   rw [decide_eq_true d]
   refine W_fn0 rfl rfl ?_
   simp only [go_sem, trim_same, c_ref6_Recs, List.length_map, eq_true c', h, reduceCtorEq, ↓reduceIte, Nat.reduceAdd, Nat.reduceEqDiff, Nat.reduceLT, Int.reduceLE, Nat.reduceSub, Nat.reduceLeDiff, Nat.reduceMul, Int.reduceToNat, Int.reduceLT, Int.reduceEq, Int.reduceNeg, Nat.reduceBEq, Nat.reduceBNe]
   first | done | rfl
  ·rw [if_neg d] at h
   rw [decide_eq_false d]
   refine W_fn0 rfl rfl ?_
   simp only [go_sem, trim_same, c_ref6_Recs, List.length_map, eq_true c', h, reduceCtorEq, ↓reduceIte, Nat.reduceAdd, Nat.reduceEqDiff, Nat.reduceLT, Int.reduceLE, Nat.reduceSub, Nat.reduceLeDiff, Nat.reduceMul, Int.reduceToNat, Int.reduceLT, Int.reduceEq, Int.reduceNeg, Nat.reduceBEq, Nat.reduceBNe]
   first | done | rfl
 ·have d : ¬ l = m := fun h => c (by rw [h])
  have c' : ¬ (l.length : Int) = (m.length : Int) := by omega
  rw [decide_eq_false d]
  refine W_fn0 rfl rfl ?_
  simp only [go_sem, trim_same, c_ref6_Recs, List.length_map, c', reduceCtorEq, ↓reduceIte, Nat.reduceAdd, Nat.reduceEqDiff, Nat.reduceLT, Int.reduceLE, Nat.reduceSub, Nat.reduceLeDiff, Nat.reduceMul, Int.reduceToNat, Int.reduceLT, Int.reduceEq, Int.reduceNeg, Nat.reduceBEq, Nat.reduceBNe]

def sameB (a b : Ba) : Bool :=
 decide (a.base = b.base) && (decide (a.prod = b.prod) && (decide (a.epoch = b.epoch) && (decide (a.seq = b.seq) && ((a.txn == b.txn) && (decide (a.mark = b.mark) && decide (a.recs = b.recs))))))
theorem sameB_self (b : Ba) : sameB b b = true := by simp [sameB]
theorem same_spec6 (a b : Ba) (hn : a.recs.length ≤ 100000000) (H : Heap) : W n_ref6_Same [a.V, b.V] H = some (.bool (sameB a b), H) := by
 have t := fun H => recs_spec6 a.recs b.recs hn H
 unfold sameB Ba.V Ba.cs
 by_cases c1 : a.base = b.base
 ·by_cases c2 : a.prod = b.prod
  ·by_cases c3 : a.epoch = b.epoch
   ·by_cases c4 : a.seq = b.seq
    ·cases c5 : a.txn == b.txn with
     | true =>
      by_cases c6 : a.mark = b.mark
      ·simp only [c1, c2, c3, c4, c6, decide_true, Bool.true_and]
       refine W_fn rfl rfl ?_
       simp only [go_sem, c_ref6_Same, eq_true c1, eq_true c2, eq_true c3, eq_true c4, c5, eq_true c6, t, reduceCtorEq, ↓reduceIte, Nat.reduceAdd, Nat.reduceEqDiff, Nat.reduceLT, Int.reduceLE, Nat.reduceSub, Nat.reduceLeDiff, Nat.reduceMul, Int.reduceToNat, Int.reduceLT, Int.reduceEq, Int.reduceNeg, Nat.reduceBEq, Nat.reduceBNe]
      ·simp only [c1, c2, c3, c4, c6, decide_true, decide_false, Bool.true_and, Bool.false_and]
       refine W_fn rfl rfl ?_
       simp only [go_sem, c_ref6_Same, eq_true c1, eq_true c2, eq_true c3, eq_true c4, c5, c6, reduceCtorEq, ↓reduceIte, Nat.reduceAdd, Nat.reduceEqDiff, Nat.reduceLT, Int.reduceLE, Nat.reduceSub, Nat.reduceLeDiff, Nat.reduceMul, Int.reduceToNat, Int.reduceLT, Int.reduceEq, Int.reduceNeg, Nat.reduceBEq, Nat.reduceBNe]
     | false =>
      simp only [c1, c2, c3, c4, decide_true, decide_false, Bool.true_and, Bool.false_and]
      refine W_fn rfl rfl ?_
      simp only [go_sem, c_ref6_Same, eq_true c1, eq_true c2, eq_true c3, eq_true c4, c5, reduceCtorEq, ↓reduceIte, Nat.reduceAdd, Nat.reduceEqDiff, Nat.reduceLT, Int.reduceLE, Nat.reduceSub, Nat.reduceLeDiff, Nat.reduceMul, Int.reduceToNat, Int.reduceLT, Int.reduceEq, Int.reduceNeg, Nat.reduceBEq, Nat.reduceBNe]
    ·simp only [c1, c2, c3, c4, decide_true, decide_false, Bool.true_and, Bool.false_and]
     refine W_fn rfl rfl ?_
     simp only [go_sem, c_ref6_Same, eq_true c1, eq_true c2, eq_true c3, c4, reduceCtorEq, ↓reduceIte, Nat.reduceAdd, Nat.reduceEqDiff, Nat.reduceLT, Int.reduceLE, Nat.reduceSub, Nat.reduceLeDiff, Nat.reduceMul, Int.reduceToNat, Int.reduceLT, Int.reduceEq, Int.reduceNeg, Nat.reduceBEq, Nat.reduceBNe]
   ·simp only [c1, c2, c3, decide_true, decide_false, Bool.true_and, Bool.false_and]
    refine W_fn rfl rfl ?_
    simp only [go_sem, c_ref6_Same, eq_true c1, eq_true c2, c3, reduceCtorEq, ↓reduceIte, Nat.reduceAdd, Nat.reduceEqDiff, Nat.reduceLT, Int.reduceLE, Nat.reduceSub, Nat.reduceLeDiff, Nat.reduceMul, Int.reduceToNat, Int.reduceLT, Int.reduceEq, Int.reduceNeg, Nat.reduceBEq, Nat.reduceBNe]
  ·simp only [c1, c2, decide_true, decide_false, Bool.true_and, Bool.false_and]
   refine W_fn rfl rfl ?_
   simp only [go_sem, c_ref6_Same, eq_true c1, c2, reduceCtorEq, ↓reduceIte, Nat.reduceAdd, Nat.reduceEqDiff, Nat.reduceLT, Int.reduceLE, Nat.reduceSub, Nat.reduceLeDiff, Nat.reduceMul, Int.reduceToNat, Int.reduceLT, Int.reduceEq, Int.reduceNeg, Nat.reduceBEq, Nat.reduceBNe]
 ·simp only [c1, decide_false, Bool.false_and]
  refine W_fn rfl rfl ?_
  simp only [go_sem, c_ref6_Same, c1, reduceCtorEq, ↓reduceIte, Nat.reduceAdd, Nat.reduceEqDiff, Nat.reduceLT, Int.reduceLE, Nat.reduceSub, Nat.reduceLeDiff, Nat.reduceMul, Int.reduceToNat, Int.reduceLT, Int.reduceEq, Int.reduceNeg, Nat.reduceBEq, Nat.reduceBNe]
theorem size_spec6 (b : Ba) (h : BOK b) (H : Heap) : W n_batch_Size [b.V] H = some (.int .i64 (sizeE b), H) := by
 have tb := fun H => Bytes_spec b h H
 unfold sizeE
 unfold Ba.V Ba.cs at tb ⊢
 by_cases c : rightE b = 0
 ·rw [if_pos c]
  rw [c, if_pos rfl] at tb
  refine W_fn rfl rfl ?_
  simp only [go_sem, c_batch_Size, tb, List.length_map, reduceCtorEq, ↓reduceIte, Nat.reduceAdd, Nat.reduceEqDiff, Nat.reduceLT, Int.reduceLE, Nat.reduceSub, Nat.reduceLeDiff, Nat.reduceMul, Int.reduceToNat, Int.reduceLT, Int.reduceEq, Int.reduceNeg, Nat.reduceBEq, Nat.reduceBNe]
 ·rw [if_neg c]
  rw [if_neg c] at tb
  refine W_fn rfl rfl ?_
  simp only [go_sem, c_batch_Size, tb, List.length_nil, reduceCtorEq, ↓reduceIte, Nat.reduceAdd, Nat.reduceEqDiff, Nat.reduceLT, Int.reduceLE, Nat.reduceSub, Nat.reduceLeDiff, Nat.reduceMul, Int.reduceToNat, Int.reduceLT, Int.reduceEq, Int.reduceNeg, Nat.reduceBEq, Nat.reduceBNe]
  first | done | rfl
end Go.Abs

namespace Go.Abs
open Go Go.RowKit
set_option linter.unusedVariables false
set_option linter.unusedSimpArgs false

theorem readB_cases (p : List Int) (hp : ∀ x ∈ p, 0 ≤ x ∧ x < 256) (hn : ¬ longB p > 4096) : readB p = (zeroBa, 0, 12) ∨ ∃ b, BOK b ∧ rightE b = 0 ∧ p = baBytes b ++ p.drop (baBytes b).length := by
 unfold readB
 rw [if_neg hn]
 split
 ·exact .inl rfl
 ·split
  ·exact .inl rfl
  ·split
   ·exact .inl rfl
   ·split
    ·exact .inl rfl
    ·split
     ·exact .inl rfl
     ·split
      ·rename_i h36 hlen _ _ h6 h7
       refine .inr ⟨bodyB (backI p) ((cutP p).drop 4), bodyB_ok _ (backI_i64 _) _ (fun x hx => hp x (List.mem_of_mem_take (List.mem_of_mem_drop (List.mem_of_mem_drop hx)))), Decidable.not_not.1 h6, ?_⟩
       rw [h7, List.length_take, Nat.min_eq_left (by omega), List.take_append_drop]
      ·exact .inl rfl
/-- What Read tells, of bytes. -/
theorem read_ok (p : List Int) (hp : ∀ x ∈ p, 0 ≤ x ∧ x < 256) : (∃ e, readB p = (zeroBa, 0, e) ∧ (e = 12 ∨ e = 13)) ∨ ∃ b, BOK b ∧ rightE b = 0 ∧ p = baBytes b ++ p.drop (baBytes b).length ∧ readB p = (b, ((baBytes b).length : Int), 0) := by
 by_cases hn : longB p > 4096
 ·left
  refine ⟨13, ?_, .inr rfl⟩
  unfold readB
  rw [if_pos hn]
 ·rcases readB_cases p hp hn with h | ⟨b, h1, h2, h3⟩
  ·exact .inl ⟨12, h, .inl rfl⟩
  ·refine .inr ⟨b, h1, h2, h3, ?_⟩
   have := read_self h1 h2 (p.drop (baBytes b).length)
   rw [← h3] at this
   exact this
end Go.Abs

namespace Go.Abs
open Go Go.RowKit
set_option linter.unusedVariables false
set_option linter.unusedSimpArgs false

/-! ## Rows, one behind the other -/
def RowC : Int → List Ba → Prop
 | _, [] => True
 | s, b :: l => b.base = s ∧ RowC (s + countE b) l
theorem endE_nil (s : Int) : endE s [] = s := rfl
theorem endE_cons (s : Int) (b : Ba) (l : List Ba) (h : b.base = s) : endE s (b :: l) = endE (s + countE b) l := by
 unfold endE
 cases l with
 | nil => simp [h]
 | cons c l =>
  obtain ⟨x, hx⟩ : ∃ x, (c :: l).getLast? = some x := ⟨_, List.getLast?_eq_some_getLast (by simp)⟩
  rw [List.getLast?_cons_cons, hx]
theorem RowC.snoc : ∀ {s : Int} {l : List Ba} {b : Ba}, RowC s l → b.base = endE s l → RowC s (l ++ [b])
 | s, [], b, _, h => ⟨h, trivial⟩
 | s, c :: l, b, h, k => ⟨h.1, RowC.snoc h.2 (by rw [k, endE_cons s c l h.1])⟩
theorem prodL_row {cap start L b} (h : RowC start L) : RowC start (prodL cap start L b) := by
 unfold prodL
 split
 ·exact h.snoc rfl
 ·exact h
theorem markL_row {cap start L p e m} (h : RowC start L) : RowC start (markL cap start L p e m) := by
 unfold markL
 split
 ·exact h.snoc rfl
 ·exact h
theorem rowStep_row {l cap start s} (h : RowC start s.L) : RowC start (rowStep l cap start s).L := by
 unfold rowStep
 simp only
 split
 ·exact prodL_row h
 ·exact markL_row h
theorem rowGo_row {l : List Int} {cap start : Int} {most : Nat} : ∀ (k : Nat) (s : RS), RowC start s.L → RowC start (rowGo l cap start most k s).L
 | 0, _, h => h
 | k + 1, s, h => by
  unfold rowGo
  split
  ·exact rowGo_row k _ (rowStep_row h)
  ·exact h

def allB (L : List Ba) : List Int := L.flatMap baBytes
theorem allB_app (p r : List Ba) : allB (p ++ r) = allB p ++ allB r := by simp [allB]
theorem allB_cons (b : Ba) (r : List Ba) : allB (b :: r) = baBytes b ++ allB r := by simp [allB]
theorem allB_len : ∀ (L : List Ba), (∀ b ∈ L, Fit b) → (allB L).length ≤ 2404 * L.length
 | [], _ => by simp [allB]
 | b :: L, h => by
  have h1 := allB_len L (fun x hx => h x (List.mem_cons_of_mem _ hx))
  have h2 := baBytes_len (rightE_small (h b List.mem_cons_self).right)
  rw [allB_cons, List.length_append, List.length_cons]
  omega
theorem allB_bytes {L : List Ba} (h : ∀ b ∈ L, Fit b) : ∀ x ∈ allB L, 0 ≤ x ∧ x < 256 := by
 intro x hx
 unfold allB at hx
 rw [List.mem_flatMap] at hx
 obtain ⟨c, hc, hxc⟩ := hx
 exact baBytes_bytes (rightE_small (h c hc).right) x hxc
theorem allB_ge : ∀ (L : List Ba), 36 * L.length ≤ (allB L).length
 | [] => by simp [allB]
 | b :: L => by
  have h1 := allB_ge L
  have h2 := baBytes_len' b
  have h3 := sealed_len b
  have h4 := inner_len20 b
  rw [allB_cons, List.length_append, List.length_cons]
  omega

/-! ## What a scan tells -/
def scanR : Nat → Int → List Int → List Ba × Nat
 | 0, _, _ => ([], 0)
 | k + 1, base, q =>
  if (readB q).2.2 ≠ 0 ∨ (readB q).1.base ≠ base then ([], 0)
  else ((readB q).1 :: (scanR k (base + countE (readB q).1) (q.drop (readB q).2.1.toNat)).1, (readB q).2.1.toNat + (scanR k (base + countE (readB q).1) (q.drop (readB q).2.1.toNat)).2)
def scanB (base : Int) (p : List Int) : List Ba × Nat := scanR (p.length + 1) base p
theorem read_short (q : List Int) (h : q.length < 12) : (readB q).2.2 ≠ 0 := by
 have : longB q = 0 := by unfold longB; rw [if_pos h]
 unfold readB
 rw [this, if_neg (by decide), if_pos (by decide)]
 decide
theorem read_cut {b : Ba} (hb : Fit b) (c : Nat) (hc : c < (baBytes b).length) : (readB ((baBytes b).take c)).2.2 ≠ 0 := by
 have hs := rightE_small hb.right
 have hby := baBytes_bytes hs
 intro h0
 have hq : ∀ x ∈ (baBytes b).take c, 0 ≤ x ∧ x < 256 := fun x hx => hby x (List.mem_of_mem_take hx)
 have hlen : ((baBytes b).take c).length = c := by rw [List.length_take]; omega
 rcases read_ok _ hq with ⟨e, he, he2⟩ | ⟨b', h1, h2, h3, h4⟩
 ·rw [he] at h0
  simp only at h0
  rcases he2 with rfl | rfl <;> cases h0
 ·have hs' := rightE_small h2
  have l1 := baBytes_len' b'
  have l2 := sealed_len b'
  have l3 := inner_len20 b'
  have l4 := baBytes_len hs'
  have hq' := congrArg List.length h3
  rw [List.length_append, hlen] at hq'
  have k1 := long_self (b := b') (by omega) (((baBytes b).take c).drop (baBytes b').length)
  rw [← h3] at k1
  have m1 := baBytes_len' b
  have m4 := baBytes_len hs
  have k2 := long_self (b := b) (by omega) []
  rw [List.append_nil] at k2
  have k3 : longB ((baBytes b).take c) = longB (baBytes b) := by
   have gd : ∀ i, i < 12 → ((baBytes b).take c).getD i 0 = (baBytes b).getD i 0 := by
    intro i hi
    rw [List.getD_eq_getElem?_getD, List.getD_eq_getElem?_getD, List.getElem?_take, if_pos (by omega)]
   unfold longB
   rw [if_neg (by omega), if_neg (by omega), gd 8 (by omega), gd 9 (by omega), gd 10 (by omega), gd 11 (by omega)]
  omega
theorem scan_row : ∀ (l : List Ba) (base : Int) (rest : List Int) (fuel : Nat), (∀ b ∈ l, Fit b) → RowC base l → l.length < fuel → (readB rest).2.2 ≠ 0 → scanR fuel base (allB l ++ rest) = (l, (allB l).length)
 | [], base, rest, fuel + 1, _, _, _, h => by
  unfold scanR
  rw [if_pos (.inl h)]; rfl
 | b :: l, base, rest, fuel + 1, hf, hr, hl, h => by
  have hb := hf b List.mem_cons_self
  have rs := read_self hb.ok hb.right (allB l ++ rest)
  have e : allB (b :: l) ++ rest = baBytes b ++ (allB l ++ rest) := by rw [allB_cons, List.append_assoc]
  rw [e]
  unfold scanR
  rw [rs]
  simp only [Int.toNat_natCast, List.drop_left]
  rw [if_neg (by rw [hr.1]; simp), scan_row l _ rest fuel (fun x hx => hf x (List.mem_cons_of_mem _ hx)) hr.2 (by simp only [List.length_cons] at hl; omega) h, allB_cons, List.length_append]
theorem scanB_row (l : List Ba) (base : Int) (rest : List Int) (hf : ∀ b ∈ l, Fit b) (hr : RowC base l) (h : (readB rest).2.2 ≠ 0) : scanB base (allB l ++ rest) = (l, (allB l).length) := by
 refine scan_row l base rest _ hf hr ?_ h
 have := allB_ge l
 rw [List.length_append]; omega
theorem take_allB : ∀ (l : List Ba) (c : Nat), (∀ b ∈ l, Fit b) → ∃ l1 l2 q, l = l1 ++ l2 ∧ (allB l).take c = allB l1 ++ q ∧ (readB q).2.2 ≠ 0
 | [], c, _ => ⟨[], [], [], rfl, by simp [allB], read_short [] (by decide)⟩
 | b :: l, c, hf => by
  by_cases h : c < (baBytes b).length
  ·refine ⟨[], b :: l, (baBytes b).take c, rfl, ?_, read_cut (hf b List.mem_cons_self) c h⟩
   rw [allB_cons, List.take_append_of_le_length (by omega)]; rfl
  ·obtain ⟨l1, l2, q, e1, e2, e3⟩ := take_allB l (c - (baBytes b).length) (fun x hx => hf x (List.mem_cons_of_mem _ hx))
   refine ⟨b :: l1, l2, q, by rw [e1]; rfl, ?_, e3⟩
   rw [allB_cons, allB_cons, List.take_append, List.take_of_length_le (by omega), e2, List.append_assoc]
theorem scan_fit : ∀ (k : Nat) (base : Int) (q : List Int), (∀ x ∈ q, 0 ≤ x ∧ x < 256) → (∀ b ∈ (scanR k base q).1, Fit b) ∧ RowC base (scanR k base q).1 ∧ (scanR k base q).2 ≤ q.length ∧ (scanR k base q).1.length ≤ q.length
 | 0, _, _, _ => by simp [scanR, RowC]
 | k + 1, base, q, hq => by
  unfold scanR
  split
  ·simp [RowC]
  ·rename_i hc
   rcases read_ok q hq with ⟨e, he, he2⟩ | ⟨b, h1, h2, h3, h4⟩
   ·exfalso
    rw [he] at hc
    rcases he2 with rfl | rfl <;> simp at hc
   ·rw [h4] at hc ⊢
    simp only [Int.toNat_natCast] at hc ⊢
    have hb : b.base = base := Decidable.not_not.1 (fun k => hc (.inr k))
    obtain ⟨i1, i2, i3, i4⟩ := scan_fit k (base + countE b) (q.drop (baBytes b).length) (fun x hx => hq x (List.mem_of_mem_drop hx))
    have hl := congrArg List.length h3
    rw [List.length_append] at hl
    rw [List.length_drop] at i3 i4
    have l1 := baBytes_len' b
    refine ⟨?_, ⟨hb, i2⟩, by omega, by simp only [List.length_cons]; omega⟩
    intro x hx
    rcases List.mem_cons.1 hx with rfl | hx
    ·exact ⟨h1, h2⟩
    ·exact i1 x hx
end Go.Abs

namespace Go.Abs
open Go Go.RowKit
set_option linter.unusedVariables false
set_option linter.unusedSimpArgs false

theorem scount_spec (b : Ba) (H : Heap) : W n_batch_Count [b.V] H = some (.int .i64 (countE b), H) := count_spec b H
set_option maxHeartbeats 1000000 in
theorem scan_loop (p : List Int) (hp : ∀ x ∈ p, 0 ≤ x ∧ x < 256) (hl : p.length ≤ 1000000) (H : Heap) (k : Nat) : ∀ (base : Int) (at_ : Nat) (acc : List Ba) (fl : Fl) (N : Heap), p.length - at_ < k → at_ ≤ p.length → acc.length ≤ at_ → (fl = .own ∨ (fl = .full ∧ acc = [])) →
  ∃ M fl', loopA W loopW (.ghost (.kill k_segment_Scan_0) l_segment_Scan_0) [(0, bytes p .ro), (1, .int .i64 base), (6, .list 7 (acc.map Ba.V) fl), (7, .int .i64 (at_ : Nat))] (hx H N) =
   some (.ret, [(4, .list 7 ((acc ++ (scanR k base (p.drop at_)).1).map Ba.V) fl'), (5, .int .i64 ((at_ + (scanR k base (p.drop at_)).2 : Nat) : Int))], hx H M) ∧ (fl' = .own ∨ (fl' = .full ∧ acc ++ (scanR k base (p.drop at_)).1 = [])) := by
 induction k with
 | zero => intro base at_ acc fl N h; omega
 | succ k ih =>
  intro base at_ acc fl N hk hat hacc hfl
  have hq : ∀ x ∈ p.drop at_, 0 ≤ x ∧ x < 256 := fun x hx => hp x (List.mem_of_mem_drop hx)
  have a0 : (0 : Int) ≤ (at_ : Int) := by omega
  have a1 : (at_ : Int) ≤ (p.length : Int) := by omega
  have d1 : ((at_ : Nat) : Int).toNat = at_ := by omega
  have q1 : (ints .u8 p).drop at_ = ints .u8 (p.drop at_) := by rw [← List.map_drop]
  have t1 := fun H => read_spec (p.drop at_) hq (by rw [List.length_drop]; omega) H
  unfold scanR
  rcases read_ok _ hq with ⟨e, he, he2⟩ | ⟨b, h1, h2, h3, h4⟩
  ·have c1 : ¬ e = 0 := by omega
   rw [he] at t1 ⊢
   rw [if_pos (.inl c1)]
   refine ⟨N ++ [.cells zeroBa.cs], fl, ?_, by rw [List.append_nil]; exact hfl⟩
   rw [List.append_nil, Nat.add_zero]
   clear he
   generalize p.drop at_ = Q at *
   unfold zeroBa Ba.V Ba.cs at *
   simp only [List.map_nil] at t1
   refine loop_step l_segment_Scan_0.eq_1 k_segment_Scan_0.eq_1 (by kernel_rfl) ?_
   rcases hfl with rfl | ⟨rfl, rfl⟩
   ·simp only [go_sem, slL, List.length_map, a0, a1, d1, q1, t1, c1, reduceCtorEq, ↓reduceIte, Nat.reduceAdd, Nat.reduceEqDiff, Nat.reduceLT, Int.reduceLE, Nat.reduceSub, Nat.reduceLeDiff, Nat.reduceMul, Int.reduceToNat, Int.reduceLT, Int.reduceEq, Int.reduceNeg, Nat.reduceBEq, Nat.reduceBNe]
   ·simp only [List.map_nil]
    simp only [go_sem, slL, List.length_map, a0, a1, d1, q1, t1, c1, reduceCtorEq, ↓reduceIte, Nat.reduceAdd, Nat.reduceEqDiff, Nat.reduceLT, Int.reduceLE, Nat.reduceSub, Nat.reduceLeDiff, Nat.reduceMul, Int.reduceToNat, Int.reduceLT, Int.reduceEq, Int.reduceNeg, Nat.reduceBEq, Nat.reduceBNe]
  ·rw [h4] at t1 ⊢
   simp only [Int.toNat_natCast] at t1 ⊢
   by_cases cb : b.base = base
   ·have hf : Fit b := ⟨h1, h2⟩
    have hb := hf.base
    have hc := hf.count
    have hn := congrArg List.length h3
    rw [List.length_append, List.length_drop] at hn
    have ln := baBytes_len' b
    have w1 : IntKind.i64.wrap ((at_ : Int) + ((baBytes b).length : Int)) = ((at_ + (baBytes b).length : Nat) : Int) := by rw [wrap_id (by unfold I64; omega)]; omega
    have w2 : IntKind.i64.wrap (base + countE b) = base + countE b := wrap_id (by unfold I64; omega)
    have t2 := fun H => scount_spec b H
    obtain ⟨M, fl', h5, h6⟩ := ih (base + countE b) (at_ + (baBytes b).length) (acc ++ [b]) .own (N ++ [.cells b.cs]) (by omega) (by omega) (by rw [List.length_append]; simp; omega) (.inl rfl)
    rw [if_neg (by rintro (h | h); exact h rfl; exact h cb), List.drop_drop]
    rw [List.append_assoc] at h5 h6
    simp only [List.singleton_append] at h5 h6
    refine ⟨M, fl', ?_, h6⟩
    have bb : (acc.length + 1) * 72 ≤ maxBytes := by simp only [maxBytes]; omega
    have b0 : (0 + 1) * 72 ≤ maxBytes := by decide
    have e8 : acc.map Ba.V ++ [.agg [.int .i64 b.base, .int .i64 b.prod, .int .i64 b.epoch, .int .i64 b.seq, .bool b.txn, .int .i64 b.mark, .list 2 (b.recs.map rcV) .ro]] = (acc ++ [b]).map Ba.V := by simp [Ba.V, Ba.cs]
    generalize scanR k (base + countE b) (p.drop (at_ + (baBytes b).length)) = R at *
    obtain ⟨R1, R2⟩ := R
    simp only at h5 ⊢
    rw [show at_ + ((baBytes b).length + R2) = at_ + (baBytes b).length + R2 by omega]
    generalize at_ + (baBytes b).length + R2 = z at *
    generalize at_ + (baBytes b).length = y at *
    generalize p.drop at_ = Q at *
    generalize (baBytes b).length = n at *
    unfold Ba.cs at h5
    rw [show Ba.V = fun x => Ba.V x from rfl] at *
    have tv1 : ∀ H, W n_batch_Read [bytes Q .ro] H = some (.tuple [.agg [.int .i64 b.base, .int .i64 b.prod, .int .i64 b.epoch, .int .i64 b.seq, .bool b.txn, .int .i64 b.mark, .list 2 (b.recs.map rcV) .ro], .int .i64 (n : Nat), .int .i64 0], H) := t1
    have tv2 : ∀ H, W n_batch_Count [.agg [.int .i64 b.base, .int .i64 b.prod, .int .i64 b.epoch, .int .i64 b.seq, .bool b.txn, .int .i64 b.mark, .list 2 (b.recs.map rcV) .ro]] H = some (.int .i64 (countE b), H) := t2
    refine loop_step l_segment_Scan_0.eq_1 k_segment_Scan_0.eq_1 (by kernel_rfl) ?_
    rcases hfl with rfl | ⟨rfl, rfl⟩
    ·simp only [go_sem, slL, List.length_map, a0, a1, d1, q1, tv1, eq_true cb, apO, bb, e8, w1, tv2, w2, reduceCtorEq, ↓reduceIte, Nat.reduceAdd, Nat.reduceEqDiff, Nat.reduceLT, Int.reduceLE, Nat.reduceSub, Nat.reduceLeDiff, Nat.reduceMul, Int.reduceToNat, Int.reduceLT, Int.reduceEq, Int.reduceNeg, Nat.reduceBEq, Nat.reduceBNe]
     exact h5
    ·simp only [List.map_nil, List.nil_append] at e8 h5 ⊢
     simp only [go_sem, slL, List.length_map, a0, a1, d1, q1, tv1, eq_true cb, apF, List.length_nil, List.nil_append, b0, w1, tv2, w2, reduceCtorEq, ↓reduceIte, Nat.reduceAdd, Nat.reduceEqDiff, Nat.reduceLT, Int.reduceLE, Nat.reduceSub, Nat.reduceLeDiff, Nat.reduceMul, Int.reduceToNat, Int.reduceLT, Int.reduceEq, Int.reduceNeg, Nat.reduceBEq, Nat.reduceBNe]
     rw [e8]
     exact h5
   ·rw [if_pos (.inr cb)]
    refine ⟨N ++ [.cells b.cs], fl, ?_, by rw [List.append_nil]; exact hfl⟩
    rw [List.append_nil, Nat.add_zero]
    generalize p.drop at_ = Q at *
    unfold Ba.V at t1
    unfold Ba.cs at *
    refine loop_step l_segment_Scan_0.eq_1 k_segment_Scan_0.eq_1 (by kernel_rfl) ?_
    rcases hfl with rfl | ⟨rfl, rfl⟩
    ·simp only [go_sem, slL, List.length_map, a0, a1, d1, q1, t1, cb, reduceCtorEq, ↓reduceIte, Nat.reduceAdd, Nat.reduceEqDiff, Nat.reduceLT, Int.reduceLE, Nat.reduceSub, Nat.reduceLeDiff, Nat.reduceMul, Int.reduceToNat, Int.reduceLT, Int.reduceEq, Int.reduceNeg, Nat.reduceBEq, Nat.reduceBNe]
    ·simp only [List.map_nil]
     simp only [go_sem, slL, List.length_map, a0, a1, d1, q1, t1, cb, reduceCtorEq, ↓reduceIte, Nat.reduceAdd, Nat.reduceEqDiff, Nat.reduceLT, Int.reduceLE, Nat.reduceSub, Nat.reduceLeDiff, Nat.reduceMul, Int.reduceToNat, Int.reduceLT, Int.reduceEq, Int.reduceNeg, Nat.reduceBEq, Nat.reduceBNe]
theorem scan_spec (p : List Int) (hp : ∀ x ∈ p, 0 ≤ x ∧ x < 256) (hl : p.length ≤ 1000000) (base : Int) (H : Heap) :
  ∃ f, W n_segment_Scan [bytes p .ro, .int .i64 base] H = some (.tuple [.list 7 ((scanB base p).1.map Ba.V) f, .int .i64 ((scanB base p).2 : Nat)], H) ∧ (f = .own ∨ (f = .full ∧ (scanB base p).1 = [])) := by
 obtain ⟨M, f, h, hf⟩ := scan_loop p hp hl H (p.length + 1) base 0 [] .full [] (by omega) (by omega) (by simp) (.inr ⟨rfl, rfl⟩)
 unfold scanB
 simp only [List.drop_zero, List.nil_append, Nat.zero_add, List.map_nil, Int.natCast_zero] at h hf
 generalize scanR (p.length + 1) base p = R at *
 obtain ⟨R1, R2⟩ := R
 simp only at h hf ⊢
 refine ⟨f, ?_, hf⟩
 refine W_fn rfl rfl ?_
 rcases hf with rfl | ⟨rfl, rfl⟩
 ·simp only [go_sem, c_segment_Scan, h, under_bas, reduceCtorEq, ↓reduceIte, Nat.reduceAdd, Nat.reduceEqDiff, Nat.reduceLT, Int.reduceLE, Nat.reduceSub, Nat.reduceLeDiff, Nat.reduceMul, Int.reduceToNat, Int.reduceLT, Int.reduceEq, Int.reduceNeg, Nat.reduceBEq, Nat.reduceBNe]
 ·simp only [List.map_nil] at h ⊢
  simp only [go_sem, c_segment_Scan, h, under_bas, reduceCtorEq, ↓reduceIte, Nat.reduceAdd, Nat.reduceEqDiff, Nat.reduceLT, Int.reduceLE, Nat.reduceSub, Nat.reduceLeDiff, Nat.reduceMul, Int.reduceToNat, Int.reduceLT, Int.reduceEq, Int.reduceNeg, Nat.reduceBEq, Nat.reduceBNe]
end Go.Abs

namespace Go.Abs
open Go Go.RowKit
set_option linter.unusedVariables false
set_option linter.unusedSimpArgs false

/-! ## Rows that are the same -/
theorem rows_loop6 (l : List Ba) (hr : ∀ b ∈ l, b.recs.length ≤ 1000) (hn : l.length ≤ 1000000) (H : Heap) (r : List Ba) : ∀ (p : List Ba), l = p ++ r →
  loopA W loopW (.ghost (.kill k_ref6_Rows_0) l_ref6_Rows_0) [(0, .list 7 (l.map Ba.V) .ro), (1, .list 7 (l.map Ba.V) .ro), (12, .int .i64 (l.length : Nat)), (13, .int .i64 (p.length : Nat))] H = some (.exit 0, [], H) := by
 induction r with
 | nil =>
  intro p hp
  rw [List.append_nil] at hp
  subst hp
  have h1 : ¬ ((l.length : Int) < (l.length : Int)) := by omega
  refine loop_step l_ref6_Rows_0.eq_1 k_ref6_Rows_0.eq_1 (by kernel_rfl) ?_
  simp only [go_sem, h1, reduceCtorEq, ↓reduceIte, Nat.reduceAdd, Nat.reduceEqDiff, Nat.reduceLT, Int.reduceLE, Nat.reduceSub, Nat.reduceLeDiff, Nat.reduceMul, Int.reduceToNat, Int.reduceLT, Int.reduceEq, Int.reduceNeg, Nat.reduceBEq, Nat.reduceBNe]
 | cons b r ih =>
  intro p hp
  have hlen : l.length = p.length + (r.length + 1) := by rw [hp]; simp
  have h1 : ((p.length : Int) < (l.length : Int)) := by omega
  have e0 : (0 : Int) ≤ (p.length : Int) := by omega
  have e7 : ((p.length : Nat) : Int).toNat = p.length := by omega
  have e1 : (l.map Ba.V)[p.length]? = some (.agg [.int .i64 b.base, .int .i64 b.prod, .int .i64 b.epoch, .int .i64 b.seq, .bool b.txn, .int .i64 b.mark, .list 2 (b.recs.map rcV) .ro]) := by rw [hp]; simp [Ba.V, Ba.cs]
  have e6 : IntKind.i64.wrap ((p.length : Int) + 1) = ((p.length + 1 : Nat) : Int) := by rw [wrap_id (by unfold I64; omega)]; omega
  have t := fun H => same_spec6 b b (by have := hr b (by rw [hp]; simp); omega) H
  rw [sameB_self] at t
  have tv : ∀ H, W n_ref6_Same [.agg [.int .i64 b.base, .int .i64 b.prod, .int .i64 b.epoch, .int .i64 b.seq, .bool b.txn, .int .i64 b.mark, .list 2 (b.recs.map rcV) .ro], .agg [.int .i64 b.base, .int .i64 b.prod, .int .i64 b.epoch, .int .i64 b.seq, .bool b.txn, .int .i64 b.mark, .list 2 (b.recs.map rcV) .ro]] H = some (.bool true, H) := t
  have h2 := ih (p ++ [b]) (by rw [hp]; simp)
  simp only [List.length_append, List.length_cons, List.length_nil, Nat.zero_add] at h2
  refine loop_step l_ref6_Rows_0.eq_1 k_ref6_Rows_0.eq_1 (by kernel_rfl) ?_
  simp only [go_sem, h1, e0, e7, e1, tv, e6, reduceCtorEq, ↓reduceIte, Nat.reduceAdd, Nat.reduceEqDiff, Nat.reduceLT, Int.reduceLE, Nat.reduceSub, Nat.reduceLeDiff, Nat.reduceMul, Int.reduceToNat, Int.reduceLT, Int.reduceEq, Int.reduceNeg, Nat.reduceBEq, Nat.reduceBNe]
  exact h2
theorem rows_spec6 (l : List Ba) (hr : ∀ b ∈ l, b.recs.length ≤ 1000) (hn : l.length ≤ 1000000) (H : Heap) : W n_ref6_Rows [.list 7 (l.map Ba.V) .ro, .list 7 (l.map Ba.V) .ro] H = some (.bool true, H) := by
 have h := rows_loop6 l hr hn H l [] rfl
 simp only [List.length_nil, Int.natCast_zero] at h
 refine W_fn0 rfl rfl ?_
 simp only [go_sem, trim_same, c_ref6_Rows, List.length_map, h, reduceCtorEq, ↓reduceIte, Nat.reduceAdd, Nat.reduceEqDiff, Nat.reduceLT, Int.reduceLE, Nat.reduceSub, Nat.reduceLeDiff, Nat.reduceMul, Int.reduceToNat, Int.reduceLT, Int.reduceEq, Int.reduceNeg, Nat.reduceBEq, Nat.reduceBNe]
 first | done | rfl

/-! ## keep.Bytes -/
theorem kbytes_loop (L : List Ba) (hL : ∀ b ∈ L, Fit b) (hn : L.length ≤ 1000) (f : Fl) (hf : f = .ro ∨ (f = .full ∧ L = [])) (H : Heap) (r : List Ba) : ∀ (p : List Ba) (fl : Fl) (N : Heap), L = p ++ r → (fl = .own ∨ (fl = .full ∧ p = [])) →
  ∃ M fl', loopA W loopW (.ghost (.kill k_keep_Bytes_0) l_keep_Bytes_0) [(3, bytes (allB p) fl), (8, .list 7 (L.map Ba.V) f), (9, .int .i64 (L.length : Nat)), (10, .int .i64 (p.length : Nat))] (hx H N) =
   some (.exit 0, [(3, bytes (allB L) fl')], hx H M) ∧ (fl' = .own ∨ (fl' = .full ∧ L = [])) := by
 induction r with
 | nil =>
  intro p fl N hp hfl
  rw [List.append_nil] at hp
  subst hp
  refine ⟨N, fl, ?_, hfl⟩
  have h1 : ¬ ((L.length : Int) < (L.length : Int)) := by omega
  refine loop_step l_keep_Bytes_0.eq_1 k_keep_Bytes_0.eq_1 (by kernel_rfl) ?_
  simp only [go_sem, h1, reduceCtorEq, ↓reduceIte, Nat.reduceAdd, Nat.reduceEqDiff, Nat.reduceLT, Int.reduceLE, Nat.reduceSub, Nat.reduceLeDiff, Nat.reduceMul, Int.reduceToNat, Int.reduceLT, Int.reduceEq, Int.reduceNeg, Nat.reduceBEq, Nat.reduceBNe]
 | cons b r ih =>
  intro p fl N hp hfl
  have hf0 : f = .ro := by
   rcases hf with h | ⟨_, h⟩
   ·exact h
   ·rw [hp] at h; simp at h
  subst hf0
  have hlen : L.length = p.length + (r.length + 1) := by rw [hp]; simp
  have h1 : ((p.length : Int) < (L.length : Int)) := by omega
  have e0 : (0 : Int) ≤ (p.length : Int) := by omega
  have e7 : ((p.length : Nat) : Int).toNat = p.length := by omega
  have e1 : (L.map Ba.V)[p.length]? = some (.agg [.int .i64 b.base, .int .i64 b.prod, .int .i64 b.epoch, .int .i64 b.seq, .bool b.txn, .int .i64 b.mark, .list 2 (b.recs.map rcV) .ro]) := by rw [hp]; simp [Ba.V, Ba.cs]
  have e6 : IntKind.i64.wrap ((p.length : Int) + 1) = ((p.length + 1 : Nat) : Int) := by rw [wrap_id (by unfold I64; omega)]; omega
  have hb := hL b (by rw [hp]; simp)
  have t1 := fun H => ref_Bytes_spec b hb.ok H
  have hr := hb.right
  rw [hr, if_pos rfl] at t1
  have hbl := baBytes_len (rightE_small hr)
  have hpl := allB_len p (fun x hx => hL x (by rw [hp]; simp [hx]))
  have ea : allB (p ++ [b]) = allB p ++ baBytes b := by rw [allB_app]; simp [allB]
  obtain ⟨M, fl', h2, hf'⟩ := ih (p ++ [b]) .own (N ++ [.cells b.cs]) (by rw [hp]; simp) (.inl rfl)
  refine ⟨M, fl', ?_, hf'⟩
  rw [ea] at h2
  simp only [List.length_append, List.length_cons, List.length_nil, Nat.zero_add] at h2
  have bb : ((allB p).length + (baBytes b).length) * 1 ≤ maxBytes := by simp only [maxBytes]; omega
  have hx1 : ints .u8 (allB p) ++ ints .u8 (baBytes b) = ints .u8 (allB p ++ baBytes b) := by rw [← List.map_append]
  unfold Ba.V Ba.cs at *
  generalize allB L = Z at *
  generalize hS : allB p = S at *
  generalize baBytes b = T at *
  have b0 : (0 + T.length) * 1 ≤ maxBytes := by simp only [maxBytes]; omega
  refine loop_step l_keep_Bytes_0.eq_1 k_keep_Bytes_0.eq_1 (by kernel_rfl) ?_
  rcases hfl with rfl | ⟨rfl, hp0⟩
  ·simp only [go_sem, h1, e0, e7, e1, t1, List.length_map, apO, bb, hx1, e6, reduceCtorEq, ↓reduceIte, Nat.reduceAdd, Nat.reduceEqDiff, Nat.reduceLT, Int.reduceLE, Nat.reduceSub, Nat.reduceLeDiff, Nat.reduceMul, Int.reduceToNat, Int.reduceLT, Int.reduceEq, Int.reduceNeg, Nat.reduceBEq, Nat.reduceBNe]
   exact h2
  ·have hS0 : S = [] := by rw [← hS, hp0]; rfl
   subst hS0
   simp only [List.map_nil, List.nil_append] at h2 hx1 ⊢
   simp only [go_sem, h1, e0, e7, e1, t1, List.length_map, apF, List.length_nil, b0, List.nil_append, e6, reduceCtorEq, ↓reduceIte, Nat.reduceAdd, Nat.reduceEqDiff, Nat.reduceLT, Int.reduceLE, Nat.reduceSub, Nat.reduceLeDiff, Nat.reduceMul, Int.reduceToNat, Int.reduceLT, Int.reduceEq, Int.reduceNeg, Nat.reduceBEq, Nat.reduceBNe]
   exact h2
theorem kbytes_spec (L : List Ba) (hL : ∀ b ∈ L, Fit b) (hn : L.length ≤ 1000) (H : Heap) :
  ∃ f, W n_keep_Bytes [.list 7 (L.map Ba.V) .ro] H = some (bytes (allB L) f, H) ∧ (f = .own ∨ (f = .full ∧ L = [])) := by
 obtain ⟨M, f, h, hf⟩ := kbytes_loop L hL hn .ro (.inl rfl) H L [] .full [] rfl (.inr ⟨rfl, rfl⟩)
 simp only [List.length_nil, Int.natCast_zero] at h
 have h' : loopA W loopW (.ghost (.kill k_keep_Bytes_0) l_keep_Bytes_0) [(3, .list 1 [] .full), (8, .list 7 (L.map Ba.V) .ro), (9, .int .i64 (L.length : Nat)), (10, .int .i64 0)] (hx H []) = some (.exit 0, [(3, bytes (allB L) f)], hx H M) := h
 refine ⟨f, ?_, hf⟩
 have u : ∀ l : List Int, AVal.underL 0 (ints .u8 l) = true := fun l => uL_map 0 (AVal.int .u8) (fun _ => rfl) l
 refine W_fn rfl rfl ?_
 rcases hf with rfl | ⟨rfl, rfl⟩
 ·simp only [go_sem, c_keep_Bytes, List.length_map, h', u, reduceCtorEq, ↓reduceIte, Nat.reduceAdd, Nat.reduceEqDiff, Nat.reduceLT, Int.reduceLE, Nat.reduceSub, Nat.reduceLeDiff, Nat.reduceMul, Int.reduceToNat, Int.reduceLT, Int.reduceEq, Int.reduceNeg, Nat.reduceBEq, Nat.reduceBNe]
 ·simp only [List.map_nil, List.length_nil, Int.natCast_zero] at h' ⊢
  simp only [go_sem, c_keep_Bytes, List.length_nil, Int.natCast_zero, h', u, reduceCtorEq, ↓reduceIte, Nat.reduceAdd, Nat.reduceEqDiff, Nat.reduceLT, Int.reduceLE, Nat.reduceSub, Nat.reduceLeDiff, Nat.reduceMul, Int.reduceToNat, Int.reduceLT, Int.reduceEq, Int.reduceNeg, Nat.reduceBEq, Nat.reduceBNe]

/-! ## Ends, cuts -/
def endB (b : Ba) : Int := b.base + countE b
theorem send_spec (b : Ba) (hb : Fit b) (H : Heap) : W n_segment_End [b.V] H = some (.int .i64 (endB b), H) := by
 have t := fun H => scount_spec b H
 have h1 := hb.base
 have h2 := hb.count
 have w : IntKind.i64.wrap (b.base + countE b) = endB b := wrap_id (by unfold I64; omega)
 unfold Ba.V Ba.cs at *
 refine W_fn rfl rfl ?_
 simp only [go_sem, c_segment_End, t, w, reduceCtorEq, ↓reduceIte, Nat.reduceAdd, Nat.reduceEqDiff, Nat.reduceLT, Int.reduceLE, Nat.reduceSub, Nat.reduceLeDiff, Nat.reduceMul, Int.reduceToNat, Int.reduceLT, Int.reduceEq, Int.reduceNeg, Nat.reduceBEq, Nat.reduceBNe]
theorem next_spec9 (l : List Ba) (hl : ∀ b ∈ l, Fit b) (hn : l.length ≤ 1000000) (base : Int) (H : Heap) : W n_segment_Next [.list 7 (l.map Ba.V) .ro, .int .i64 base] H = some (.int .i64 (endE base l), H) := by
 rcases List.eq_nil_or_concat l with rfl | ⟨l', x, h⟩
 ·rw [endE_nil]
  refine W_fn0 rfl rfl ?_
  simp only [go_sem, trim_same, c_segment_Next, List.map_nil, List.length_nil, Int.natCast_zero, reduceCtorEq, ↓reduceIte, Nat.reduceAdd, Nat.reduceEqDiff, Nat.reduceLT, Int.reduceLE, Nat.reduceSub, Nat.reduceLeDiff, Nat.reduceMul, Int.reduceToNat, Int.reduceLT, Int.reduceEq, Int.reduceNeg, Nat.reduceBEq, Nat.reduceBNe]
 ·rw [List.concat_eq_append] at h
  have hx := hl x (by rw [h]; simp)
  have t := fun H => send_spec x hx H
  have e : endE base l = endB x := by unfold endE endB; rw [h]; simp
  have hln : l.length = l'.length + 1 := by rw [h]; simp
  have h1 : ¬ ((l.length : Int) = 0) := by omega
  have w1 : IntKind.i64.wrap ((l.length : Int) - 1) = ((l'.length : Nat) : Int) := by rw [wrap_id (by unfold I64; omega)]; omega
  have e0 : (0 : Int) ≤ ((l'.length : Nat) : Int) := by omega
  have e7 : ((l'.length : Nat) : Int).toNat = l'.length := by omega
  have e1 : (l.map Ba.V)[l'.length]? = some (.agg [.int .i64 x.base, .int .i64 x.prod, .int .i64 x.epoch, .int .i64 x.seq, .bool x.txn, .int .i64 x.mark, .list 2 (x.recs.map rcV) .ro]) := by rw [h]; simp [Ba.V, Ba.cs]
  rw [e]
  unfold Ba.V Ba.cs at t
  refine W_fn0 rfl rfl ?_
  simp only [go_sem, trim_same, c_segment_Next, List.length_map, h1, w1, e0, e7, e1, t, reduceCtorEq, ↓reduceIte, Nat.reduceAdd, Nat.reduceEqDiff, Nat.reduceLT, Int.reduceLE, Nat.reduceSub, Nat.reduceLeDiff, Nat.reduceMul, Int.reduceToNat, Int.reduceLT, Int.reduceEq, Int.reduceNeg, Nat.reduceBEq, Nat.reduceBNe]
def cutN (off : Int) : List Ba → Int
 | [] => 0
 | b :: l => if endB b > off then 0 else ((baBytes b).length : Int) + cutN off l
theorem cutN_range (off : Int) : ∀ (l : List Ba), (∀ b ∈ l, Fit b) → 0 ≤ cutN off l ∧ cutN off l ≤ 2404 * l.length
 | [], _ => by simp [cutN]
 | b :: l, h => by
  have h1 := cutN_range off l (fun x hx => h x (List.mem_cons_of_mem _ hx))
  have h2 := baBytes_len (rightE_small (h b List.mem_cons_self).right)
  unfold cutN
  split
  ·simp only [List.length_cons]; omega
  ·simp only [List.length_cons]; omega
theorem fit_size {b : Ba} (h : Fit b) : sizeE b = ((baBytes b).length : Int) := by unfold sizeE; rw [if_pos h.right]
theorem cut_loop (L : List Ba) (hL : ∀ b ∈ L, Fit b) (hn : L.length ≤ 1000000) (off : Int) (f : Fl) (hf : f = .own ∨ (f = .full ∧ L = [])) (H : Heap) (r : List Ba) : ∀ (p : List Ba) (n : Int) (N : Heap), L = p ++ r → 0 ≤ n → n ≤ 2404 * p.length →
  ∃ M, loopA W loopW (.ghost (.kill k_segment_Cut_0) l_segment_Cut_0) [(2, .int .i64 off), (9, .int .i64 n), (18, .list 7 (L.map Ba.V) f), (19, .int .i64 (L.length : Nat)), (20, .int .i64 (p.length : Nat))] (hx H N) =
   some (.exit 0, [(9, .int .i64 (n + cutN off r))], hx H M) := by
 induction r with
 | nil =>
  intro p n N hp h0 h1
  rw [List.append_nil] at hp
  subst hp
  refine ⟨N, ?_⟩
  have h1 : ¬ ((L.length : Int) < (L.length : Int)) := by omega
  rw [show cutN off [] = 0 from rfl, Int.add_zero]
  refine loop_step l_segment_Cut_0.eq_1 k_segment_Cut_0.eq_1 (by kernel_rfl) ?_
  simp only [go_sem, h1, reduceCtorEq, ↓reduceIte, Nat.reduceAdd, Nat.reduceEqDiff, Nat.reduceLT, Int.reduceLE, Nat.reduceSub, Nat.reduceLeDiff, Nat.reduceMul, Int.reduceToNat, Int.reduceLT, Int.reduceEq, Int.reduceNeg, Nat.reduceBEq, Nat.reduceBNe]
 | cons b r ih =>
  intro p n N hp hn0 hn1
  have hf0 : f = .own := by
   rcases hf with h | ⟨_, h⟩
   ·exact h
   ·rw [hp] at h; simp at h
  subst hf0
  have hlen : L.length = p.length + (r.length + 1) := by rw [hp]; simp
  have h1 : ((p.length : Int) < (L.length : Int)) := by omega
  have e0 : (0 : Int) ≤ (p.length : Int) := by omega
  have e7 : ((p.length : Nat) : Int).toNat = p.length := by omega
  have e1 : (L.map Ba.V)[p.length]? = some (.agg [.int .i64 b.base, .int .i64 b.prod, .int .i64 b.epoch, .int .i64 b.seq, .bool b.txn, .int .i64 b.mark, .list 2 (b.recs.map rcV) .ro]) := by rw [hp]; simp [Ba.V, Ba.cs]
  have e6 : IntKind.i64.wrap ((p.length : Int) + 1) = ((p.length + 1 : Nat) : Int) := by rw [wrap_id (by unfold I64; omega)]; omega
  have hb := hL b (by rw [hp]; simp)
  have t1 := fun H => send_spec b hb H
  have t2 := fun H => size_spec6 b hb.ok H
  rw [fit_size hb] at t2
  have hbl := baBytes_len (rightE_small hb.right)
  by_cases c : endB b > off
  ·refine ⟨N ++ [.cells b.cs], ?_⟩
   rw [show cutN off (b :: r) = 0 by unfold cutN; rw [if_pos c], Int.add_zero]
   unfold Ba.V Ba.cs at *
   refine loop_step l_segment_Cut_0.eq_1 k_segment_Cut_0.eq_1 (by kernel_rfl) ?_
   simp only [go_sem, h1, e0, e7, e1, t1, c, reduceCtorEq, ↓reduceIte, Nat.reduceAdd, Nat.reduceEqDiff, Nat.reduceLT, Int.reduceLE, Nat.reduceSub, Nat.reduceLeDiff, Nat.reduceMul, Int.reduceToNat, Int.reduceLT, Int.reduceEq, Int.reduceNeg, Nat.reduceBEq, Nat.reduceBNe]
  ·have w1 : IntKind.i64.wrap (n + ((baBytes b).length : Int)) = n + ((baBytes b).length : Int) := wrap_id (by unfold I64; omega)
   obtain ⟨M, h2⟩ := ih (p ++ [b]) (n + ((baBytes b).length : Int)) (N ++ [.cells b.cs]) (by rw [hp]; simp) (by omega) (by rw [List.length_append]; simp; omega)
   refine ⟨M, ?_⟩
   rw [show cutN off (b :: r) = ((baBytes b).length : Int) + cutN off r by rw [cutN, if_neg c], ← Int.add_assoc]
   simp only [List.length_append, List.length_cons, List.length_nil, Nat.zero_add] at h2
   unfold Ba.V Ba.cs at *
   generalize ((baBytes b).length : Int) = T at *
   refine loop_step l_segment_Cut_0.eq_1 k_segment_Cut_0.eq_1 (by kernel_rfl) ?_
   simp only [go_sem, h1, e0, e7, e1, t1, c, t2, w1, e6, reduceCtorEq, ↓reduceIte, Nat.reduceAdd, Nat.reduceEqDiff, Nat.reduceLT, Int.reduceLE, Nat.reduceSub, Nat.reduceLeDiff, Nat.reduceMul, Int.reduceToNat, Int.reduceLT, Int.reduceEq, Int.reduceNeg, Nat.reduceBEq, Nat.reduceBNe]
   exact h2
theorem cut_spec9 (p : List Int) (hp : ∀ x ∈ p, 0 ≤ x ∧ x < 256) (hl : p.length ≤ 1000000) (base off : Int) (H : Heap) :
  W n_segment_Cut [bytes p .ro, .int .i64 base, .int .i64 off] H = some (.int .i64 (cutN off (scanB base p).1), H) := by
 obtain ⟨f, t, hf⟩ := scan_spec p hp hl base (hx H [])
 obtain ⟨s1, s2, s3, s4⟩ := scan_fit (p.length + 1) base p hp
 have hs : scanR (p.length + 1) base p = scanB base p := rfl
 rw [hs] at s1 s2 s3 s4
 generalize scanB base p = R at *
 obtain ⟨L, e⟩ := R
 simp only at t hf s1 s2 s3 s4 ⊢
 obtain ⟨M, h⟩ := cut_loop L s1 (by omega) off f hf H L [] 0 [] rfl (by decide) (by decide)
 simp only [List.length_nil, Int.natCast_zero, Int.zero_add] at h
 refine W_fn rfl rfl ?_
 rcases hf with rfl | ⟨rfl, rfl⟩
 ·simp only [go_sem, c_segment_Cut, t, List.length_map, h, reduceCtorEq, ↓reduceIte, Nat.reduceAdd, Nat.reduceEqDiff, Nat.reduceLT, Int.reduceLE, Nat.reduceSub, Nat.reduceLeDiff, Nat.reduceMul, Int.reduceToNat, Int.reduceLT, Int.reduceEq, Int.reduceNeg, Nat.reduceBEq, Nat.reduceBNe]
 ·simp only [List.map_nil, List.length_nil, Int.natCast_zero] at t h ⊢
  simp only [go_sem, c_segment_Cut, t, List.length_nil, Int.natCast_zero, h, reduceCtorEq, ↓reduceIte, Nat.reduceAdd, Nat.reduceEqDiff, Nat.reduceLT, Int.reduceLE, Nat.reduceSub, Nat.reduceLeDiff, Nat.reduceMul, Int.reduceToNat, Int.reduceLT, Int.reduceEq, Int.reduceNeg, Nat.reduceBEq, Nat.reduceBNe]
end Go.Abs

namespace Go.Abs
open Go Go.RowKit
set_option linter.unusedVariables false
set_option linter.unusedSimpArgs false

/-! ## Indexes -/
structure Ad where
 off : Int
 at_ : Int
 end_ : Int
 entry : Bool
structure Ix where
 base : Int
 every : Int
 l : List Ad
abbrev Ad.v (a : Ad) : AVal := .agg [.int .i64 a.off, .int .i64 a.at_, .int .i64 a.end_, .bool a.entry]
abbrev Ix.B (x : Ix) (fl : Fl) : Box := .cells [.int .i64 x.base, .int .i64 x.every, .list 4 (x.l.map Ad.v) fl]
def lastE : List Ad → Option Ad
 | [] => none
 | a :: l => match lastE l with
  | some b => some b
  | none => if a.entry then some a else none
theorem lastE_snoc (l : List Ad) (a : Ad) : lastE (l ++ [a]) = if a.entry then some a else lastE l := by
 induction l with
 | nil => simp [lastE]
 | cons b l ih =>
  rw [List.cons_append, lastE, ih, lastE]
  cases a.entry <;> simp
def lastV (o : Option Ad) : AVal := (o.getD ⟨0, 0, 0, false⟩).v
abbrev Flag (x : Ix) (fl : Fl) : Prop := fl = .own ∨ (fl = .full ∧ x.l = [])

theorem last_loop (x : Ix) (fl : Fl) (hfl : Flag x fl) (hx1 : x.l.length < 1000000000) (i : Nat) : ∀ (r s : List Ad) (H M : Heap), x.l = r ++ s → lastE s = none → Old H i (x.B fl) → 
  loopA W loopW (.ghost (.kill k_index_Index_last_0) l_index_Index_last_0) [(0, .ptr i 0), (2, .ptr (pt H 0) 0), (4, .int .i64 ((r.length : Int) - 1))] (hx H (.cells [.int .i64 0, .int .i64 0, .int .i64 0, .bool false] :: M)) =
   match lastE r with
   | some a => some (.ret, [(2, .ptr (pt H 0) 0), (3, .bool true)], hx H (.cells [.int .i64 a.off, .int .i64 a.at_, .int .i64 a.end_, .bool a.entry] :: M))
   | none => some (.exit 0, [(2, .ptr (pt H 0) 0)], hx H (.cells [.int .i64 0, .int .i64 0, .int .i64 0, .bool false] :: M)) := by
 intro r
 have key : ∀ (k : Nat) (r s : List Ad) (H M : Heap), r.length = k → x.l = r ++ s → lastE s = none → Old H i (x.B fl) → 
  loopA W loopW (.ghost (.kill k_index_Index_last_0) l_index_Index_last_0) [(0, .ptr i 0), (2, .ptr (pt H 0) 0), (4, .int .i64 ((r.length : Int) - 1))] (hx H (.cells [.int .i64 0, .int .i64 0, .int .i64 0, .bool false] :: M)) =
   match lastE r with
   | some a => some (.ret, [(2, .ptr (pt H 0) 0), (3, .bool true)], hx H (.cells [.int .i64 a.off, .int .i64 a.at_, .int .i64 a.end_, .bool a.entry] :: M))
   | none => some (.exit 0, [(2, .ptr (pt H 0) 0)], hx H (.cells [.int .i64 0, .int .i64 0, .int .i64 0, .bool false] :: M)) := by
  intro k
  induction k with
  | zero =>
   intro r s H M hr hs hn hi
   have hr0 : r = [] := List.length_eq_zero_iff.1 hr
   have h1 : ¬ ((r.length : Int) - 1 ≥ 0) := by omega
   have h2 : lastE r = none := by rw [hr0]; rfl
   rw [h2]
   refine loop_step l_index_Index_last_0.eq_1 k_index_Index_last_0.eq_1 (by kernel_rfl) ?_
   simp only [go_sem, h1, reduceCtorEq, ↓reduceIte, Nat.reduceAdd, Nat.reduceEqDiff, Nat.reduceLT, Int.reduceLE, Nat.reduceSub, Nat.reduceLeDiff, Nat.reduceMul, Int.reduceToNat, Int.reduceLT, Int.reduceEq, Int.reduceNeg, Nat.reduceBEq, Nat.reduceBNe]
  | succ k ih =>
   intro r s H M hr hs hn hi
   obtain ⟨r', a, rfl⟩ : ∃ r' a, r = r' ++ [a] := by
    rcases List.eq_nil_or_concat r with h | ⟨s, x, h⟩
    ·subst h; cases hr
    ·exact ⟨s, x, by simpa using h⟩
   have hr' : r'.length = k := by simpa using hr
   have hl : x.l.length = k + 1 + s.length := by rw [hs, List.length_append, hr]
   have e0 : (((r' ++ [a]).length : Nat) : Int) - 1 = (k : Nat) := by rw [hr]; omega
   have h1 : ((k : Nat) : Int) ≥ 0 := by omega
   have h3 : (x.l.map Ad.v)[((k : Nat) : Int).toNat]? = some a.v := by rw [hs, ← hr']; simp
   have e1 : IntKind.i64.wrap (((k : Nat) : Int) - 1) = (r'.length : Nat) - 1 := by rw [hr', wrap_id (by unfold I64; omega)]
   have gi := hi.get
   rw [lastE_snoc, e0]
   cases he : a.entry with
   | true =>
    rw [if_pos rfl]
    refine loop_step l_index_Index_last_0.eq_1 k_index_Index_last_0.eq_1 (by kernel_rfl) ?_
    rcases hfl with rfl | ⟨rfl, h0⟩
    ·simp only [go_sem, h1, h3, gi, he, reduceCtorEq, ↓reduceIte, Nat.reduceAdd, Nat.reduceEqDiff, Nat.reduceLT, Int.reduceLE, Nat.reduceSub, Nat.reduceLeDiff, Nat.reduceMul, Int.reduceToNat, Int.reduceLT, Int.reduceEq, Int.reduceNeg, Nat.reduceBEq, Nat.reduceBNe]
    ·rw [h0] at hs; simp at hs
   | false =>
    rw [if_neg (by decide)]
    have hN := ih r' (a :: s) H M hr' (by rw [hs]; simp) (by rw [lastE, hn, he]; rfl) hi
    obtain ⟨R, hR⟩ : ∃ R, (match lastE r' with
     | some a => some (Out.ret, ([(2, .ptr (pt H 0) 0), (3, .bool true)] : Env), hx H (Box.cells [.int .i64 a.off, .int .i64 a.at_, .int .i64 a.end_, .bool a.entry] :: M))
     | none => some (Out.exit 0, [(2, .ptr (pt H 0) 0)], hx H (.cells [.int .i64 0, .int .i64 0, .int .i64 0, .bool false] :: M))) = some R := by
     split <;> exact ⟨_, rfl⟩
    rw [hR] at hN ⊢
    refine loop_step l_index_Index_last_0.eq_1 k_index_Index_last_0.eq_1 (by kernel_rfl) ?_
    rcases hfl with rfl | ⟨rfl, h0⟩
    ·simp only [go_sem, h1, h3, gi, he, e1, reduceCtorEq, ↓reduceIte, Nat.reduceAdd, Nat.reduceEqDiff, Nat.reduceLT, Int.reduceLE, Nat.reduceSub, Nat.reduceLeDiff, Nat.reduceMul, Int.reduceToNat, Int.reduceLT, Int.reduceEq, Int.reduceNeg, Nat.reduceBEq, Nat.reduceBNe]; exact hN
    ·rw [h0] at hs; simp at hs
 exact fun s H M => key r.length r s H M rfl
theorem last_spec (x : Ix) (fl : Fl) (hfl : Flag x fl) (hx1 : x.l.length < 1000000000) (i : Nat) (H : Heap) (hi : Old H i (x.B fl)) : W n_index_Index_last [.ptr i 0] H = some (.tuple [lastV (lastE x.l), .bool (lastE x.l).isSome], H) := by
 have hN := last_loop x fl hfl hx1 i x.l [] H [] (by simp) rfl hi
 have gi := hi.get
 have e1 : IntKind.i64.wrap ((x.l.length : Int) - 1) = (x.l.length : Int) - 1 := wrap_id (by unfold I64; omega)
 have e2 : (x.l.map Ad.v).length = x.l.length := by simp
 refine W_fn rfl rfl ?_
 cases h : lastE x.l with
 | none =>
  rw [h] at hN
  rcases hfl with rfl | ⟨rfl, h0⟩ <;> (simp only [go_sem, c_index_Index_last, gi, e1, e2, hN, reduceCtorEq, ↓reduceIte, Nat.reduceAdd, Nat.reduceEqDiff, Nat.reduceLT, Int.reduceLE, Nat.reduceSub, Nat.reduceLeDiff, Nat.reduceMul, Int.reduceToNat, Int.reduceLT, Int.reduceEq, Int.reduceNeg, Nat.reduceBEq, Nat.reduceBNe]; rfl)
 | some a =>
  rw [h] at hN
  rcases hfl with rfl | ⟨rfl, h0⟩ <;> (simp only [go_sem, c_index_Index_last, gi, e1, e2, hN, reduceCtorEq, ↓reduceIte, Nat.reduceAdd, Nat.reduceEqDiff, Nat.reduceLT, Int.reduceLE, Nat.reduceSub, Nat.reduceLeDiff, Nat.reduceMul, Int.reduceToNat, Int.reduceLT, Int.reduceEq, Int.reduceNeg, Nat.reduceBEq, Nat.reduceBNe]; rfl)
end Go.Abs

namespace Go.Abs
open Go Go.RowKit
set_option linter.unusedVariables false
set_option linter.unusedSimpArgs false

/-! ## What entries there are -/
abbrev En := Int × Int
abbrev enV (e : En) : AVal := .agg [.int .i64 e.1, .int .i64 e.2]
def ents (l : List Ad) : List En := (l.filter (·.entry)).map fun a => (a.off, a.at_)
theorem ents_cons (a : Ad) (l) : ents (a :: l) = (if a.entry then [(a.off, a.at_)] else []) ++ ents l := by
 unfold ents; cases h : a.entry <;> simp [h]
theorem ents_app (a b : List Ad) : ents (a ++ b) = ents a ++ ents b := by simp [ents]
theorem ents_len (l : List Ad) : (ents l).length ≤ l.length := by unfold ents; rw [List.length_map]; exact List.length_filter_le _ _
theorem W_clipE (xs : List AVal) (H : Heap) : W n_slices_Clip_index_Entry_index_Entry_ [.list 2 xs .ro] H = some (.list 2 xs .full, H) := by
 refine W_fn rfl rfl ?_
 simp only [go_sem, c_slices_Clip_index_Entry_index_Entry_, sl_clip, reduceCtorEq, ↓reduceIte, Nat.reduceAdd, Nat.reduceEqDiff, Nat.reduceLT, Int.reduceLE, Nat.reduceSub, Nat.reduceLeDiff, Nat.reduceMul, Int.reduceToNat, Int.reduceLT, Int.reduceEq, Int.reduceNeg, Nat.reduceBEq, Nat.reduceBNe]
theorem ents_loop (l : List Ad) (fl : Fl) (hfl : fl = .ro ∨ (fl = .full ∧ l = [])) (hl : l.length < 1000000000) : ∀ (r s : List Ad) (H : Heap) (fe : Fl), l = s ++ r → (fe = .own ∨ fe = .full) →
  ∃ N fe', (fe' = .own ∨ fe' = .full) ∧ loopA W loopW (.ghost (.kill k_index_Index_Entries_0) l_index_Index_Entries_0) [(3, .list 2 ((ents s).map enV) fe), (9, .list 4 (l.map Ad.v) fl), (10, .int .i64 l.length), (11, .int .i64 s.length)] H =
   some (.exit 0, [(3, .list 2 ((ents l).map enV) fe')], hx H N) := by
 intro r
 induction r with
 | nil =>
  intro s H fe hs hfe
  rw [List.append_nil] at hs
  subst hs
  refine ⟨[], fe, hfe, ?_⟩
  rw [hx_nil]
  have h1 : ¬ ((l.length : Int) < (l.length : Int)) := by omega
  refine loop_step l_index_Index_Entries_0.eq_1 k_index_Index_Entries_0.eq_1 (by kernel_rfl) ?_
  rcases hfl with rfl | ⟨rfl, _⟩ <;> rcases hfe with rfl | rfl <;> simp only [go_sem, h1, reduceCtorEq, ↓reduceIte, Nat.reduceAdd, Nat.reduceEqDiff, Nat.reduceLT, Int.reduceLE, Nat.reduceSub, Nat.reduceLeDiff, Nat.reduceMul, Int.reduceToNat, Int.reduceLT, Int.reduceEq, Int.reduceNeg, Nat.reduceBEq, Nat.reduceBNe]
 | cons a r ih =>
  intro s H fe hs hfe
  have hlen : l.length = s.length + (r.length + 1) := by rw [hs, List.length_append, List.length_cons]
  have hel := ents_len s
  rcases hfl with rfl | ⟨rfl, h0⟩
  rotate_left
  ·rw [h0] at hs; simp at hs
  have h1 : (s.length : Int) < (l.length : Int) := by omega
  have h2 : (0 : Int) ≤ (s.length : Int) := by omega
  have h3 : (l.map Ad.v)[((s.length : Nat) : Int).toNat]? = some a.v := by rw [hs]; simp
  have e1 : IntKind.i64.wrap ((s.length : Int) + 1) = ((s ++ [a]).length : Int) := by rw [wrap_id (by unfold I64; omega)]; simp
  have a2 : (((ents s).map enV).length + 1) * 16 ≤ maxBytes := by simp [maxBytes]; omega
  cases he : a.entry with
  | true =>
   have a1 : (ents s).map enV ++ [AVal.agg [.int .i64 a.off, .int .i64 a.at_]] = (ents (s ++ [a])).map enV := by rw [ents_app, ents_cons, he]; simp [ents]
   obtain ⟨N, fe', hf, hN⟩ := ih (s ++ [a]) (hx H [.cells [.int .i64 a.off, .int .i64 a.at_, .int .i64 a.end_, .bool a.entry]]) .own (by rw [hs]; simp) (.inl rfl)
   rw [hx_hx] at hN
   refine ⟨.cells [.int .i64 a.off, .int .i64 a.at_, .int .i64 a.end_, .bool a.entry] :: N, fe', hf, ?_⟩
   rw [List.cons_append, List.nil_append, he] at hN
   rw [he]
   refine loop_step l_index_Index_Entries_0.eq_1 k_index_Index_Entries_0.eq_1 (by kernel_rfl) ?_
   rw [← hx_nil H]
   rcases hfe with rfl | rfl <;> (simp only [go_sem, h1, h2, h3, e1, he, a1, a2, apO, apF, reduceCtorEq, ↓reduceIte, Nat.reduceAdd, Nat.reduceEqDiff, Nat.reduceLT, Int.reduceLE, Nat.reduceSub, Nat.reduceLeDiff, Nat.reduceMul, Int.reduceToNat, Int.reduceLT, Int.reduceEq, Int.reduceNeg, Nat.reduceBEq, Nat.reduceBNe]; exact hN)
  | false =>
   have a1 : (ents s) = (ents (s ++ [a])) := by rw [ents_app, ents_cons, he]; simp [ents]
   obtain ⟨N, fe', hf, hN⟩ := ih (s ++ [a]) (hx H [.cells [.int .i64 a.off, .int .i64 a.at_, .int .i64 a.end_, .bool a.entry]]) fe (by rw [hs]; simp) hfe
   rw [hx_hx, ← a1] at hN
   refine ⟨.cells [.int .i64 a.off, .int .i64 a.at_, .int .i64 a.end_, .bool a.entry] :: N, fe', hf, ?_⟩
   rw [List.cons_append, List.nil_append, he] at hN
   rw [he]
   refine loop_step l_index_Index_Entries_0.eq_1 k_index_Index_Entries_0.eq_1 (by kernel_rfl) ?_
   rw [← hx_nil H]
   rcases hfe with rfl | rfl <;> (simp only [go_sem, h1, h2, h3, e1, he, reduceCtorEq, ↓reduceIte, Nat.reduceAdd, Nat.reduceEqDiff, Nat.reduceLT, Int.reduceLE, Nat.reduceSub, Nat.reduceLeDiff, Nat.reduceMul, Int.reduceToNat, Int.reduceLT, Int.reduceEq, Int.reduceNeg, Nat.reduceBEq, Nat.reduceBNe]; exact hN)
theorem under_ents (l : List En) : AVal.underL 0 (l.map enV) = true := uL_map 0 enV (fun _ => rfl) l
theorem entries_spec (x : Ix) (fl : Fl) (hfl : Flag x fl) (hx1 : x.l.length < 1000000000) (i : Nat) (H : Heap) (hi : Old H i (x.B fl)) : W n_index_Index_Entries [.ptr i 0] H = some (.list 2 ((ents x.l).map enV) .full, H) := by
 have gi := hi.get
 have e2 : (x.l.map Ad.v).length = x.l.length := by simp
 have u := under_ents (ents x.l)
 refine W_fn rfl rfl ?_
 rcases hfl with rfl | ⟨rfl, h0⟩
 ·obtain ⟨N, fe', hf, hN⟩ := ents_loop x.l .ro (.inl rfl) hx1 x.l [] (hx H []) .full rfl (.inr rfl)
  rw [hx_hx, List.nil_append, show ents [] = [] from rfl] at hN
  simp only [List.map_nil, List.length_nil, show ((0 : Nat) : Int) = 0 from rfl] at hN
  rcases hf with rfl | rfl <;> simp only [go_sem, c_index_Index_Entries, gi, e2, hN, W_clipE, u, reduceCtorEq, ↓reduceIte, Nat.reduceAdd, Nat.reduceEqDiff, Nat.reduceLT, Int.reduceLE, Nat.reduceSub, Nat.reduceLeDiff, Nat.reduceMul, Int.reduceToNat, Int.reduceLT, Int.reduceEq, Int.reduceNeg, Nat.reduceBEq, Nat.reduceBNe]
 ·obtain ⟨N, fe', hf, hN⟩ := ents_loop x.l .full (.inr ⟨rfl, h0⟩) hx1 x.l [] (hx H []) .full rfl (.inr rfl)
  rw [hx_hx, List.nil_append, show ents [] = [] from rfl] at hN
  simp only [List.map_nil, List.length_nil, show ((0 : Nat) : Int) = 0 from rfl] at hN
  rcases hf with rfl | rfl <;> simp only [go_sem, c_index_Index_Entries, gi, e2, hN, W_clipE, u, reduceCtorEq, ↓reduceIte, Nat.reduceAdd, Nat.reduceEqDiff, Nat.reduceLT, Int.reduceLE, Nat.reduceSub, Nat.reduceLeDiff, Nat.reduceMul, Int.reduceToNat, Int.reduceLT, Int.reduceEq, Int.reduceNeg, Nat.reduceBEq, Nat.reduceBNe]
end Go.Abs

namespace Go.Abs
open Go Go.RowKit
set_option linter.unusedVariables false
set_option linter.unusedSimpArgs false

def newOK (b e : Int) : Bool := decide (¬ b < 0) && (decide (¬ b > 1099511627776) && (decide (¬ e < 1) && decide (¬ e > 1073741824)))
theorem new_spec (b e : Int) (H : Heap) : W n_index_New [.int .i64 b, .int .i64 e] H = if newOK b e = true then some (.ptr (pt H 0) 0, hx H [Ix.B ⟨b, e, []⟩ .full]) else some (.nilp, H) := by
 have hr : ∀ r, runFn W loopW c_index_New [.int .i64 b, .int .i64 e] (hx H []) = some r → W n_index_New [.int .i64 b, .int .i64 e] H = some r := fun r h => W_fnS rfl rfl h
 unfold newOK
 by_cases c1 : b < 0
 ·simp only [c1, not_true_eq_false, decide_false, Bool.false_and, Bool.false_eq_true, if_false]
  apply hr
  simp only [go_sem, c_index_New, c1, reduceCtorEq, ↓reduceIte, Nat.reduceAdd, Nat.reduceEqDiff, Nat.reduceLT, Int.reduceLE, Nat.reduceSub, Nat.reduceLeDiff, Nat.reduceMul, Int.reduceToNat, Int.reduceLT, Int.reduceEq, Int.reduceNeg, Nat.reduceBEq, Nat.reduceBNe]; rw [hx_nil]
 ·by_cases c2 : b > 1099511627776
  ·simp only [c1, c2, not_true_eq_false, not_false_eq_true, decide_true, decide_false, Bool.false_and, Bool.true_and, Bool.false_eq_true, if_false]
   apply hr
   simp only [go_sem, c_index_New, c1, c2, reduceCtorEq, ↓reduceIte, Nat.reduceAdd, Nat.reduceEqDiff, Nat.reduceLT, Int.reduceLE, Nat.reduceSub, Nat.reduceLeDiff, Nat.reduceMul, Int.reduceToNat, Int.reduceLT, Int.reduceEq, Int.reduceNeg, Nat.reduceBEq, Nat.reduceBNe]; rw [hx_nil]
  ·by_cases c3 : e < 1
   ·simp only [c1, c2, c3, not_true_eq_false, not_false_eq_true, decide_true, decide_false, Bool.false_and, Bool.true_and, Bool.false_eq_true, if_false]
    apply hr
    simp only [go_sem, c_index_New, c1, c2, c3, reduceCtorEq, ↓reduceIte, Nat.reduceAdd, Nat.reduceEqDiff, Nat.reduceLT, Int.reduceLE, Nat.reduceSub, Nat.reduceLeDiff, Nat.reduceMul, Int.reduceToNat, Int.reduceLT, Int.reduceEq, Int.reduceNeg, Nat.reduceBEq, Nat.reduceBNe]; rw [hx_nil]
   ·by_cases c4 : e > 1073741824
    ·simp only [c1, c2, c3, c4, not_true_eq_false, not_false_eq_true, decide_true, decide_false, Bool.false_and, Bool.true_and, Bool.false_eq_true, if_false]
     apply hr
     simp only [go_sem, c_index_New, c1, c2, c3, c4, reduceCtorEq, ↓reduceIte, Nat.reduceAdd, Nat.reduceEqDiff, Nat.reduceLT, Int.reduceLE, Nat.reduceSub, Nat.reduceLeDiff, Nat.reduceMul, Int.reduceToNat, Int.reduceLT, Int.reduceEq, Int.reduceNeg, Nat.reduceBEq, Nat.reduceBNe]; rw [hx_nil]
    ·simp only [c1, c2, c3, c4, not_true_eq_false, not_false_eq_true, decide_true, decide_false, Bool.false_and, Bool.true_and, Bool.false_eq_true, if_true]
     apply hr
     simp only [go_sem, c_index_New, c1, c2, c3, c4, reduceCtorEq, ↓reduceIte, Nat.reduceAdd, Nat.reduceEqDiff, Nat.reduceLT, Int.reduceLE, Nat.reduceSub, Nat.reduceLeDiff, Nat.reduceMul, Int.reduceToNat, Int.reduceLT, Int.reduceEq, Int.reduceNeg, Nat.reduceBEq, Nat.reduceBNe]; rfl

def addOK (x : Ix) (o a s : Int) : Bool :=
 decide (¬ o < x.base) && (decide (¬ a < 0) && (decide (¬ s < 1) && (match x.l.getLast? with | none => true | some q => decide (¬ o ≤ q.off) && decide (¬ a < q.end_))))
def addE (x : Ix) (a : Int) : Bool := match lastE x.l with | none => true | some e => decide (IntKind.i64.wrap (a - e.at_) ≥ x.every)
def addI (x : Ix) (o a s : Int) : Ix := ⟨x.base, x.every, x.l ++ [⟨o, a, IntKind.i64.wrap (a + s), addE x a⟩]⟩
theorem under_ads (l : List Ad) : AVal.underL 0 (l.map Ad.v) = true := uL_map 0 Ad.v (fun _ => rfl) l
theorem add_false (x : Ix) (fl : Fl) (hfl : Flag x fl) (hx1 : x.l.length < 1000000000) (i : Nat) (H : Heap) (hi : Old H i (x.B fl)) (o a s : Int) (h : addOK x o a s = false) :
  W n_index_Index_Add [.ptr i 0, .int .i64 o, .int .i64 a, .int .i64 s] H = some (.bool false, H) := by
 have gi := hi.get
 have e2 : (x.l.map Ad.v).length = x.l.length := by simp
 refine W_fn rfl rfl ?_
 unfold addOK at h
 by_cases c1 : o < x.base
 ·rcases hfl with rfl | ⟨rfl, h0⟩ <;> simp only [go_sem, c_index_Index_Add, gi, c1, reduceCtorEq, ↓reduceIte, Nat.reduceAdd, Nat.reduceEqDiff, Nat.reduceLT, Int.reduceLE, Nat.reduceSub, Nat.reduceLeDiff, Nat.reduceMul, Int.reduceToNat, Int.reduceLT, Int.reduceEq, Int.reduceNeg, Nat.reduceBEq, Nat.reduceBNe]
 by_cases c2 : a < 0
 ·rcases hfl with rfl | ⟨rfl, h0⟩ <;> simp only [go_sem, c_index_Index_Add, gi, c1, c2, reduceCtorEq, ↓reduceIte, Nat.reduceAdd, Nat.reduceEqDiff, Nat.reduceLT, Int.reduceLE, Nat.reduceSub, Nat.reduceLeDiff, Nat.reduceMul, Int.reduceToNat, Int.reduceLT, Int.reduceEq, Int.reduceNeg, Nat.reduceBEq, Nat.reduceBNe]
 by_cases c3 : s < 1
 ·rcases hfl with rfl | ⟨rfl, h0⟩ <;> simp only [go_sem, c_index_Index_Add, gi, c1, c2, c3, reduceCtorEq, ↓reduceIte, Nat.reduceAdd, Nat.reduceEqDiff, Nat.reduceLT, Int.reduceLE, Nat.reduceSub, Nat.reduceLeDiff, Nat.reduceMul, Int.reduceToNat, Int.reduceLT, Int.reduceEq, Int.reduceNeg, Nat.reduceBEq, Nat.reduceBNe]
 rcases List.eq_nil_or_concat x.l with h0 | ⟨l, q, h0⟩
 ·rw [h0] at h; simp [c1, c2, c3] at h
 ·rw [List.concat_eq_append] at h0
  have hpos : (x.l.length : Int) > 0 := by rw [h0]; simp
  have e3 : IntKind.i64.wrap ((x.l.length : Int) - 1) = ((x.l.length - 1 : Nat) : Int) := by rw [wrap_id (by unfold I64; omega)]; omega
  have e4 : (x.l.map Ad.v)[((x.l.length - 1 : Nat) : Int).toNat]? = some q.v := by rw [h0]; simp
  have e5 : (0 : Int) ≤ ((x.l.length - 1 : Nat) : Int) := by omega
  rcases hfl with rfl | ⟨rfl, h1⟩
  rotate_left
  ·rw [h1] at h0; simp at h0
  by_cases c4 : o ≤ q.off
  ·simp only [go_sem, c_index_Index_Add, gi, c1, c2, c3, e2, hpos, e3, e4, e5, c4, reduceCtorEq, ↓reduceIte, Nat.reduceAdd, Nat.reduceEqDiff, Nat.reduceLT, Int.reduceLE, Nat.reduceSub, Nat.reduceLeDiff, Nat.reduceMul, Int.reduceToNat, Int.reduceLT, Int.reduceEq, Int.reduceNeg, Nat.reduceBEq, Nat.reduceBNe]
  ·have c5 : a < q.end_ := by rw [h0] at h; simp [c1, c2, c3, c4] at h; omega
   simp only [go_sem, c_index_Index_Add, gi, c1, c2, c3, e2, hpos, e3, e4, e5, c4, c5, reduceCtorEq, ↓reduceIte, Nat.reduceAdd, Nat.reduceEqDiff, Nat.reduceLT, Int.reduceLE, Nat.reduceSub, Nat.reduceLeDiff, Nat.reduceMul, Int.reduceToNat, Int.reduceLT, Int.reduceEq, Int.reduceNeg, Nat.reduceBEq, Nat.reduceBNe]
theorem add_true (x : Ix) (fl : Fl) (hfl : Flag x fl) (hx1 : x.l.length < 1000000000) (i : Nat) (H : Heap) (hi : Old H i (x.B fl)) (o a s : Int) (h : addOK x o a s = true) :
  W n_index_Index_Add [.ptr i 0, .int .i64 o, .int .i64 a, .int .i64 s] H = some (.bool true, H.set i ((addI x o a s).B .own)) := by
 have gi := hi.get
 have gs := hi.set
 have gi' := hi.get'
 have gs' := hi.set'
 have e2 : (x.l.map Ad.v).length = x.l.length := by simp
 unfold addOK at h
 simp only [Bool.and_eq_true, decide_eq_true_eq] at h
 obtain ⟨c1, c2, c3, h⟩ := h
 have hl : ∀ L, W n_index_Index_last [.ptr i 0] (hx H L) = _ := fun L => last_spec x fl hfl hx1 i (hx H L) ⟨gi L⟩
 have a2 : ((x.l.map Ad.v).length + 1) * 32 ≤ maxBytes := by simp [maxBytes]; omega
 have a2' : (x.l.length + 1) * 32 ≤ maxBytes := by simp [maxBytes]; omega
 have u := under_ads x.l
 have u2 := under_ads (addI x o a s).l
 have a1 : x.l.map Ad.v ++ [AVal.agg [.int .i64 o, .int .i64 a, .int .i64 (IntKind.i64.wrap (a + s)), .bool (addE x a)]] = (addI x o a s).l.map Ad.v := by simp [addI]
 have hd : W n_index_Index_Add [.ptr i 0, .int .i64 o, .int .i64 a, .int .i64 s] H = some (.bool true, H.set i ((addI x o a s).B .own)) := by
  have hB : (addI x o a s).B .own = .cells [.int .i64 x.base, .int .i64 x.every, .list 4 ((addI x o a s).l.map Ad.v) .own] := rfl
  rw [hB]
  cases hla : lastE x.l with
  | none =>
   have he : addE x a = true := by unfold addE; rw [hla]
   rw [he] at a1
   rw [hla] at hl
   simp only [lastV, Option.getD_none, Option.isSome_none] at hl
   rcases List.eq_nil_or_concat x.l with h0 | ⟨l, q, h0⟩
   ·have hpos : ¬ ((x.l.length : Int) > 0) := by rw [h0]; simp
    refine W_fnS rfl rfl ?_
    rcases hfl with rfl | ⟨rfl, _⟩ <;> simp only [go_sem, c_index_Index_Add, gi, gs, gi', gs', c1, c2, c3, e2, hpos, hl, a1, a2', apO, apF, u, u2, reduceCtorEq, ↓reduceIte, Nat.reduceAdd, Nat.reduceEqDiff, Nat.reduceLT, Int.reduceLE, Nat.reduceSub, Nat.reduceLeDiff, Nat.reduceMul, Int.reduceToNat, Int.reduceLT, Int.reduceEq, Int.reduceNeg, Nat.reduceBEq, Nat.reduceBNe]
   ·rw [List.concat_eq_append] at h0
    have hpos : (x.l.length : Int) > 0 := by rw [h0]; simp
    have e3 : IntKind.i64.wrap ((x.l.length : Int) - 1) = ((x.l.length - 1 : Nat) : Int) := by rw [wrap_id (by unfold I64; omega)]; omega
    have e4 : (x.l.map Ad.v)[((x.l.length - 1 : Nat) : Int).toNat]? = some q.v := by rw [h0]; simp
    have e5 : (0 : Int) ≤ ((x.l.length - 1 : Nat) : Int) := by omega
    rw [h0] at h
    simp only [List.getLast?_append, List.getLast?_singleton, Option.some_or, Bool.and_eq_true, decide_eq_true_eq] at h
    refine W_fnS rfl rfl ?_
    rcases hfl with rfl | ⟨rfl, h1⟩
    ·simp only [go_sem, c_index_Index_Add, gi, gs, gi', gs', c1, c2, c3, e2, hpos, e3, e4, e5, h.1, h.2, hl, a1, a2', apO, apF, u, u2, reduceCtorEq, ↓reduceIte, Nat.reduceAdd, Nat.reduceEqDiff, Nat.reduceLT, Int.reduceLE, Nat.reduceSub, Nat.reduceLeDiff, Nat.reduceMul, Int.reduceToNat, Int.reduceLT, Int.reduceEq, Int.reduceNeg, Nat.reduceBEq, Nat.reduceBNe]
    ·rw [h1] at h0; simp at h0
  | some e =>
   rw [hla] at hl
   simp only [lastV, Option.getD_some, Option.isSome_some] at hl
   have hne : x.l ≠ [] := by intro h0; rw [h0] at hla; cases hla
   rcases List.eq_nil_or_concat x.l with h0 | ⟨l, q, h0⟩
   ·exact absurd h0 hne
   ·rw [List.concat_eq_append] at h0
    have hpos : (x.l.length : Int) > 0 := by rw [h0]; simp
    have e3 : IntKind.i64.wrap ((x.l.length : Int) - 1) = ((x.l.length - 1 : Nat) : Int) := by rw [wrap_id (by unfold I64; omega)]; omega
    have e4 : (x.l.map Ad.v)[((x.l.length - 1 : Nat) : Int).toNat]? = some q.v := by rw [h0]; simp
    have e5 : (0 : Int) ≤ ((x.l.length - 1 : Nat) : Int) := by omega
    rw [h0] at h
    simp only [List.getLast?_append, List.getLast?_singleton, Option.some_or, Bool.and_eq_true, decide_eq_true_eq] at h
    refine W_fnS rfl rfl ?_
    rcases hfl with rfl | ⟨rfl, h1⟩
    ·by_cases he : IntKind.i64.wrap (a - e.at_) ≥ x.every
     ·have he' : addE x a = true := by unfold addE; rw [hla]; simpa using he
      rw [he'] at a1
      simp only [go_sem, c_index_Index_Add, gi, gs, gi', gs', c1, c2, c3, e2, hpos, e3, e4, e5, h.1, h.2, hl, a1, a2', apO, apF, u, u2, he, reduceCtorEq, ↓reduceIte, Nat.reduceAdd, Nat.reduceEqDiff, Nat.reduceLT, Int.reduceLE, Nat.reduceSub, Nat.reduceLeDiff, Nat.reduceMul, Int.reduceToNat, Int.reduceLT, Int.reduceEq, Int.reduceNeg, Nat.reduceBEq, Nat.reduceBNe]
     ·have he' : addE x a = false := by unfold addE; rw [hla]; simpa using he
      rw [he'] at a1
      simp only [go_sem, c_index_Index_Add, gi, gs, gi', gs', c1, c2, c3, e2, hpos, e3, e4, e5, h.1, h.2, hl, a1, a2', apO, apF, u, u2, he, reduceCtorEq, ↓reduceIte, Nat.reduceAdd, Nat.reduceEqDiff, Nat.reduceLT, Int.reduceLE, Nat.reduceSub, Nat.reduceLeDiff, Nat.reduceMul, Int.reduceToNat, Int.reduceLT, Int.reduceEq, Int.reduceNeg, Nat.reduceBEq, Nat.reduceBNe]
    ·rw [h1] at h0; simp at h0
 exact hd
end Go.Abs

namespace Go.Abs
open Go Go.RowKit
set_option linter.unusedVariables false
set_option linter.unusedSimpArgs false

/-! ## From -/
theorem clip_rec (xs : List AVal) (H : Heap) : W n_slices_Clip_api_Rec_api_Rec_ [.list 2 xs .ro] H = some (.list 2 xs .full, H) := by
 refine W_fn0 rfl rfl ?_
 simp only [go_sem, trim_same, c_slices_Clip_api_Rec_api_Rec_, sl_clip, reduceCtorEq, ↓reduceIte, Nat.reduceAdd, Nat.reduceEqDiff, Nat.reduceLT, Int.reduceLE, Nat.reduceSub, Nat.reduceLeDiff, Nat.reduceMul, Int.reduceToNat, Int.reduceLT, Int.reduceEq, Int.reduceNeg, Nat.reduceBEq, Nat.reduceBNe]
theorem clip_bat (xs : List AVal) (H : Heap) : W n_slices_Clip_api_Batch_api_Batch_ [.list 7 xs .ro] H = some (.list 7 xs .full, H) := by
 refine W_fn0 rfl rfl ?_
 simp only [go_sem, trim_same, c_slices_Clip_api_Batch_api_Batch_, sl_clip, reduceCtorEq, ↓reduceIte, Nat.reduceAdd, Nat.reduceEqDiff, Nat.reduceLT, Int.reduceLE, Nat.reduceSub, Nat.reduceLeDiff, Nat.reduceMul, Int.reduceToNat, Int.reduceLT, Int.reduceEq, Int.reduceNeg, Nat.reduceBEq, Nat.reduceBNe]
theorem copy_spec (b : Ba) (hr : b.recs.length ≤ 1000) (H : Heap) : W n_batch_Copy [b.V] H = some (b.V, H) := by
 have t1 := fun H => W_slices_Clone_api_Rec_api_Rec_ (b.recs.map rcV) H (by simp only [List.length_map, maxBytes]; omega)
 have t2 := fun H => clip_rec (b.recs.map rcV) H
 unfold Ba.V Ba.cs
 refine W_fn rfl rfl ?_
 simp only [go_sem, c_batch_Copy, t1, t2, under_rc, reduceCtorEq, ↓reduceIte, Nat.reduceAdd, Nat.reduceEqDiff, Nat.reduceLT, Int.reduceLE, Nat.reduceSub, Nat.reduceLeDiff, Nat.reduceMul, Int.reduceToNat, Int.reduceLT, Int.reduceEq, Int.reduceNeg, Nat.reduceBEq, Nat.reduceBNe]
theorem copies_loop (L : List Ba) (hL : ∀ b ∈ L, b.recs.length ≤ 1000) (hn : L.length ≤ 1000000) (f : Fl) (hf : f = .ro ∨ (f = .full ∧ L = [])) (H : Heap) (r : List Ba) : ∀ (p : List Ba) (fl : Fl) (N : Heap), L = p ++ r → (fl = .own ∨ (fl = .full ∧ p = [])) →
  ∃ M fl', loopA W loopW (.ghost (.kill k_batch_Copies_0) l_batch_Copies_0) [(3, .list 7 (p.map Ba.V) fl), (6, .list 7 (L.map Ba.V) f), (7, .int .i64 (L.length : Nat)), (8, .int .i64 (p.length : Nat))] (hx H N) =
   some (.exit 0, [(3, .list 7 (L.map Ba.V) fl')], hx H M) ∧ (fl' = .own ∨ (fl' = .full ∧ L = [])) := by
 induction r with
 | nil =>
  intro p fl N hp hfl
  rw [List.append_nil] at hp
  subst hp
  refine ⟨N, fl, ?_, hfl⟩
  have h1 : ¬ ((L.length : Int) < (L.length : Int)) := by omega
  refine loop_step l_batch_Copies_0.eq_1 k_batch_Copies_0.eq_1 (by kernel_rfl) ?_
  simp only [go_sem, h1, reduceCtorEq, ↓reduceIte, Nat.reduceAdd, Nat.reduceEqDiff, Nat.reduceLT, Int.reduceLE, Nat.reduceSub, Nat.reduceLeDiff, Nat.reduceMul, Int.reduceToNat, Int.reduceLT, Int.reduceEq, Int.reduceNeg, Nat.reduceBEq, Nat.reduceBNe]
 | cons b r ih =>
  intro p fl N hp hfl
  have hf0 : f = .ro := by
   rcases hf with h | ⟨_, h⟩
   ·exact h
   ·rw [hp] at h; simp at h
  subst hf0
  have hlen : L.length = p.length + (r.length + 1) := by rw [hp]; simp
  have h1 : ((p.length : Int) < (L.length : Int)) := by omega
  have e0 : (0 : Int) ≤ (p.length : Int) := by omega
  have e7 : ((p.length : Nat) : Int).toNat = p.length := by omega
  have e1 : (L.map Ba.V)[p.length]? = some (.agg [.int .i64 b.base, .int .i64 b.prod, .int .i64 b.epoch, .int .i64 b.seq, .bool b.txn, .int .i64 b.mark, .list 2 (b.recs.map rcV) .ro]) := by rw [hp]; simp [Ba.V, Ba.cs]
  have e6 : IntKind.i64.wrap ((p.length : Int) + 1) = ((p.length + 1 : Nat) : Int) := by rw [wrap_id (by unfold I64; omega)]; omega
  have t := fun H => copy_spec b (hL b (by rw [hp]; simp)) H
  have tv : ∀ H, W n_batch_Copy [.agg [.int .i64 b.base, .int .i64 b.prod, .int .i64 b.epoch, .int .i64 b.seq, .bool b.txn, .int .i64 b.mark, .list 2 (b.recs.map rcV) .ro]] H = some (.agg [.int .i64 b.base, .int .i64 b.prod, .int .i64 b.epoch, .int .i64 b.seq, .bool b.txn, .int .i64 b.mark, .list 2 (b.recs.map rcV) .ro], H) := t
  obtain ⟨M, fl', h2, hf'⟩ := ih (p ++ [b]) .own (N ++ [.cells b.cs]) (by rw [hp]; simp) (.inl rfl)
  refine ⟨M, fl', ?_, hf'⟩
  simp only [List.length_append, List.length_cons, List.length_nil, Nat.zero_add] at h2
  have bb : (p.length + 1) * 72 ≤ maxBytes := by simp only [maxBytes]; omega
  have b0 : (0 + 1) * 72 ≤ maxBytes := by decide
  have e8 : p.map Ba.V ++ [.agg [.int .i64 b.base, .int .i64 b.prod, .int .i64 b.epoch, .int .i64 b.seq, .bool b.txn, .int .i64 b.mark, .list 2 (b.recs.map rcV) .ro]] = (p ++ [b]).map Ba.V := by simp [Ba.V, Ba.cs]
  unfold Ba.cs at h2
  refine loop_step l_batch_Copies_0.eq_1 k_batch_Copies_0.eq_1 (by kernel_rfl) ?_
  rcases hfl with rfl | ⟨rfl, rfl⟩
  ·simp only [go_sem, h1, e0, e7, e1, tv, List.length_map, apO, bb, e8, e6, reduceCtorEq, ↓reduceIte, Nat.reduceAdd, Nat.reduceEqDiff, Nat.reduceLT, Int.reduceLE, Nat.reduceSub, Nat.reduceLeDiff, Nat.reduceMul, Int.reduceToNat, Int.reduceLT, Int.reduceEq, Int.reduceNeg, Nat.reduceBEq, Nat.reduceBNe]
   exact h2
  ·simp only [List.map_nil, List.nil_append, List.length_nil, Int.natCast_zero] at *
   simp only [go_sem, h1, e0, e7, e1, tv, List.length_map, apF, List.length_nil, b0, List.nil_append, e6, reduceCtorEq, ↓reduceIte, Nat.reduceAdd, Nat.reduceEqDiff, Nat.reduceLT, Int.reduceLE, Nat.reduceSub, Nat.reduceLeDiff, Nat.reduceMul, Int.reduceToNat, Int.reduceLT, Int.reduceEq, Int.reduceNeg, Nat.reduceBEq, Nat.reduceBNe]
   rw [e8]
   exact h2
theorem copies_spec (L : List Ba) (hL : ∀ b ∈ L, b.recs.length ≤ 1000) (hn : L.length ≤ 1000000) (H : Heap) : W n_batch_Copies [.list 7 (L.map Ba.V) .ro] H = some (.list 7 (L.map Ba.V) .full, H) := by
 obtain ⟨M, f, h, hf⟩ := copies_loop L hL hn .ro (.inl rfl) H L [] .full [] rfl (.inr ⟨rfl, rfl⟩)
 simp only [List.length_nil, Int.natCast_zero, List.map_nil] at h
 have t := fun H => clip_bat (L.map Ba.V) H
 refine W_fn rfl rfl ?_
 rcases hf with rfl | ⟨rfl, rfl⟩
 ·simp only [go_sem, c_batch_Copies, List.length_map, h, t, under_bas, reduceCtorEq, ↓reduceIte, Nat.reduceAdd, Nat.reduceEqDiff, Nat.reduceLT, Int.reduceLE, Nat.reduceSub, Nat.reduceLeDiff, Nat.reduceMul, Int.reduceToNat, Int.reduceLT, Int.reduceEq, Int.reduceNeg, Nat.reduceBEq, Nat.reduceBNe]
 ·simp only [List.map_nil, List.length_nil, Int.natCast_zero] at h t ⊢
  simp only [go_sem, c_batch_Copies, List.length_nil, Int.natCast_zero, h, t, reduceCtorEq, ↓reduceIte, Nat.reduceAdd, Nat.reduceEqDiff, Nat.reduceLT, Int.reduceLE, Nat.reduceSub, Nat.reduceLeDiff, Nat.reduceMul, Int.reduceToNat, Int.reduceLT, Int.reduceEq, Int.reduceNeg, Nat.reduceBEq, Nat.reduceBNe]
  first | done | rfl
def dropN (off : Int) : List Ba → List Ba
 | [] => []
 | b :: l => if endB b ≤ off then dropN off l else b :: l
theorem dropN_mem (off : Int) : ∀ (l : List Ba), ∀ b ∈ dropN off l, b ∈ l
 | [], b, h => h
 | c :: l, b, h => by
  unfold dropN at h
  split at h
  ·exact List.mem_cons_of_mem _ (dropN_mem off l b h)
  ·exact h
theorem dropN_len (off : Int) : ∀ (l : List Ba), (dropN off l).length ≤ l.length
 | [] => Nat.le_refl _
 | c :: l => by
  unfold dropN
  split
  ·exact Nat.le_succ_of_le (dropN_len off l)
  ·exact Nat.le_refl _
theorem from_loop (off : Int) (H : Heap) (L : List Ba) : ∀ (f : Fl), (∀ b ∈ L, Fit b) → (f = .own ∨ (f = .full ∧ L = [])) →
  ∃ f', loopA W loopW (.ghost (.kill k_segment_From_0) l_segment_From_0) [(3, .int .i64 off), (9, .list 7 (L.map Ba.V) f)] H = some (.exit 0, [(9, .list 7 ((dropN off L).map Ba.V) f')], H) ∧ (f' = .own ∨ (f' = .full ∧ dropN off L = [])) := by
 induction L with
 | nil =>
  intro f hL hf
  refine ⟨f, ?_, hf⟩
  rw [show dropN off [] = [] from rfl, List.map_nil]
  refine loop_step l_segment_From_0.eq_1 k_segment_From_0.eq_1 (by kernel_rfl) ?_
  rcases hf with rfl | ⟨rfl, _⟩
  ·simp only [go_sem, List.length_nil, Int.natCast_zero, gt_iff_lt, Int.lt_irrefl, reduceCtorEq, ↓reduceIte, Nat.reduceAdd, Nat.reduceEqDiff, Nat.reduceLT, Int.reduceLE, Nat.reduceSub, Nat.reduceLeDiff, Nat.reduceMul, Int.reduceToNat, Int.reduceLT, Int.reduceEq, Int.reduceNeg, Nat.reduceBEq, Nat.reduceBNe]
  ·simp only [go_sem, List.length_nil, Int.natCast_zero, gt_iff_lt, Int.lt_irrefl, reduceCtorEq, ↓reduceIte, Nat.reduceAdd, Nat.reduceEqDiff, Nat.reduceLT, Int.reduceLE, Nat.reduceSub, Nat.reduceLeDiff, Nat.reduceMul, Int.reduceToNat, Int.reduceLT, Int.reduceEq, Int.reduceNeg, Nat.reduceBEq, Nat.reduceBNe]
 | cons b L ih =>
  intro f hL hf
  have hf0 : f = .own := by
   rcases hf with h | ⟨_, h⟩
   ·exact h
   ·cases h
  subst hf0
  have t := fun H => send_spec b (hL b List.mem_cons_self) H
  have tv : ∀ H, W n_segment_End [.agg [.int .i64 b.base, .int .i64 b.prod, .int .i64 b.epoch, .int .i64 b.seq, .bool b.txn, .int .i64 b.mark, .list 2 (b.recs.map rcV) .ro]] H = some (.int .i64 (endB b), H) := t
  have h1 : (((b :: L).map Ba.V).length : Int) > 0 := by rw [List.length_map, List.length_cons]; omega
  have e1 : ((b :: L).map Ba.V)[0]? = some (.agg [.int .i64 b.base, .int .i64 b.prod, .int .i64 b.epoch, .int .i64 b.seq, .bool b.txn, .int .i64 b.mark, .list 2 (b.recs.map rcV) .ro]) := rfl
  have l1 : (1 : Int) ≤ (((b :: L).map Ba.V).length : Int) := by rw [List.length_map, List.length_cons]; omega
  have d1 : ((b :: L).map Ba.V).drop 1 = L.map Ba.V := rfl
  obtain ⟨f', h2, hf'⟩ := ih .own (fun x hx => hL x (List.mem_cons_of_mem _ hx)) (.inl rfl)
  unfold dropN
  by_cases c : endB b ≤ off
  ·rw [if_pos c]
   refine ⟨f', ?_, hf'⟩
   generalize (b :: L).map Ba.V = X at *
   refine loop_step l_segment_From_0.eq_1 k_segment_From_0.eq_1 (by kernel_rfl) ?_
   simp only [go_sem, h1, e1, tv, c, slO, l1, d1, reduceCtorEq, ↓reduceIte, Nat.reduceAdd, Nat.reduceEqDiff, Nat.reduceLT, Int.reduceLE, Nat.reduceSub, Nat.reduceLeDiff, Nat.reduceMul, Int.reduceToNat, Int.reduceLT, Int.reduceEq, Int.reduceNeg, Nat.reduceBEq, Nat.reduceBNe]
   exact h2
  ·rw [if_neg c]
   refine ⟨.own, ?_, .inl rfl⟩
   generalize (b :: L).map Ba.V = X at *
   refine loop_step l_segment_From_0.eq_1 k_segment_From_0.eq_1 (by kernel_rfl) ?_
   simp only [go_sem, h1, e1, tv, c, reduceCtorEq, ↓reduceIte, Nat.reduceAdd, Nat.reduceEqDiff, Nat.reduceLT, Int.reduceLE, Nat.reduceSub, Nat.reduceLeDiff, Nat.reduceMul, Int.reduceToNat, Int.reduceLT, Int.reduceEq, Int.reduceNeg, Nat.reduceBEq, Nat.reduceBNe]
theorem fit_recs {b : Ba} (h : Fit b) : b.recs.length ≤ 1000 := by have := (rightE_small h.right).1; omega
theorem from_spec9 (p : List Int) (hp : ∀ x ∈ p, 0 ≤ x ∧ x < 256) (hl : p.length ≤ 1000000) (x : AVal) (base off : Int) (H : Heap) :
  W n_segment_From [bytes p .ro, x, .int .i64 base, .int .i64 off] H = some (.list 7 ((dropN off (scanB base p).1).map Ba.V) .full, H) := by
 obtain ⟨f, t, hf⟩ := scan_spec p hp hl base (hx H [])
 obtain ⟨s1, s2, s3, s4⟩ := scan_fit (p.length + 1) base p hp
 have hs : scanR (p.length + 1) base p = scanB base p := rfl
 rw [hs] at s1 s2 s3 s4
 generalize scanB base p = R at *
 obtain ⟨L, e⟩ := R
 simp only at t hf s1 s2 s3 s4 ⊢
 obtain ⟨f', h, hf'⟩ := from_loop off (hx H []) L f s1 hf
 have hd := dropN_mem off L
 have hdl := dropN_len off L
 have tc := fun H => copies_spec (dropN off L) (fun b hb => fit_recs (s1 b (hd b hb))) (by omega) H
 generalize dropN off L = D at *
 refine W_fn rfl rfl ?_
 rcases hf with rfl | ⟨rfl, rfl⟩
 ·rcases hf' with rfl | ⟨rfl, rfl⟩
  ·simp only [go_sem, c_segment_From, t, h, tc, under_bas, reduceCtorEq, ↓reduceIte, Nat.reduceAdd, Nat.reduceEqDiff, Nat.reduceLT, Int.reduceLE, Nat.reduceSub, Nat.reduceLeDiff, Nat.reduceMul, Int.reduceToNat, Int.reduceLT, Int.reduceEq, Int.reduceNeg, Nat.reduceBEq, Nat.reduceBNe]
  ·simp only [List.map_nil] at h tc ⊢
   simp only [go_sem, c_segment_From, t, h, tc, under_bas, reduceCtorEq, ↓reduceIte, Nat.reduceAdd, Nat.reduceEqDiff, Nat.reduceLT, Int.reduceLE, Nat.reduceSub, Nat.reduceLeDiff, Nat.reduceMul, Int.reduceToNat, Int.reduceLT, Int.reduceEq, Int.reduceNeg, Nat.reduceBEq, Nat.reduceBNe]
 ·simp only [List.map_nil] at t h
  rcases hf' with rfl | ⟨rfl, rfl⟩
  ·simp only [go_sem, c_segment_From, t, h, tc, under_bas, reduceCtorEq, ↓reduceIte, Nat.reduceAdd, Nat.reduceEqDiff, Nat.reduceLT, Int.reduceLE, Nat.reduceSub, Nat.reduceLeDiff, Nat.reduceMul, Int.reduceToNat, Int.reduceLT, Int.reduceEq, Int.reduceNeg, Nat.reduceBEq, Nat.reduceBNe]
  ·simp only [List.map_nil] at h tc ⊢
   simp only [go_sem, c_segment_From, t, h, tc, under_bas, reduceCtorEq, ↓reduceIte, Nat.reduceAdd, Nat.reduceEqDiff, Nat.reduceLT, Int.reduceLE, Nat.reduceSub, Nat.reduceLeDiff, Nat.reduceMul, Int.reduceToNat, Int.reduceLT, Int.reduceEq, Int.reduceNeg, Nat.reduceBEq, Nat.reduceBNe]

/-! ## Build -/
def stepI (x : Ix) (at_ : Int) (b : Ba) : Ix := if addOK x b.base at_ ((baBytes b).length : Nat) = true then addI x b.base at_ ((baBytes b).length : Nat) else x
def buildI (x : Ix) (at_ : Int) : List Ba → Ix
 | [] => x
 | b :: l => buildI (stepI x at_ b) (at_ + ((baBytes b).length : Nat)) l
theorem stepI_len (x at_ b) : (stepI x at_ b).l.length ≤ x.l.length + 1 := by
 unfold stepI addI
 split <;> simp
set_option maxHeartbeats 1000000 in
theorem build_loop (L : List Ba) (hL : ∀ b ∈ L, Fit b) (hn : L.length ≤ 1000000) (f : Fl) (hf : f = .own ∨ (f = .full ∧ L = [])) (H : Heap) (r : List Ba) : ∀ (p : List Ba) (x : Ix) (fl : Fl) (at_ : Int) (N : Heap), L = p ++ r → Flag x fl → x.l.length ≤ p.length → 0 ≤ at_ → at_ ≤ 2404 * p.length →
  ∃ M fl', loopA W loopW (.ghost (.kill k_segment_Build_0) l_segment_Build_0) [(8, .ptr (pt H 0) 0), (11, .int .i64 at_), (26, .list 7 (L.map Ba.V) f), (27, .int .i64 (L.length : Nat)), (28, .int .i64 (p.length : Nat))] (hx H (x.B fl :: N)) =
   some (.exit 0, [(8, .ptr (pt H 0) 0)], hx H ((buildI x at_ r).B fl' :: M)) ∧ Flag (buildI x at_ r) fl' := by
 induction r with
 | nil =>
  intro p x fl at_ N hp hfl hxl h0 h1
  rw [List.append_nil] at hp
  subst hp
  refine ⟨N, fl, ?_, hfl⟩
  have h1 : ¬ ((L.length : Int) < (L.length : Int)) := by omega
  rw [show buildI x at_ [] = x from rfl]
  refine loop_step l_segment_Build_0.eq_1 k_segment_Build_0.eq_1 (by kernel_rfl) ?_
  simp only [go_sem, h1, reduceCtorEq, ↓reduceIte, Nat.reduceAdd, Nat.reduceEqDiff, Nat.reduceLT, Int.reduceLE, Nat.reduceSub, Nat.reduceLeDiff, Nat.reduceMul, Int.reduceToNat, Int.reduceLT, Int.reduceEq, Int.reduceNeg, Nat.reduceBEq, Nat.reduceBNe]
 | cons b r ih =>
  intro p x fl at_ N hp hfl hxl hn0 hn1
  have hf0 : f = .own := by
   rcases hf with h | ⟨_, h⟩
   ·exact h
   ·rw [hp] at h; simp at h
  subst hf0
  have hlen : L.length = p.length + (r.length + 1) := by rw [hp]; simp
  have h1 : ((p.length : Int) < (L.length : Int)) := by omega
  have e0 : (0 : Int) ≤ (p.length : Int) := by omega
  have e7 : ((p.length : Nat) : Int).toNat = p.length := by omega
  have e1 : (L.map Ba.V)[p.length]? = some (.agg [.int .i64 b.base, .int .i64 b.prod, .int .i64 b.epoch, .int .i64 b.seq, .bool b.txn, .int .i64 b.mark, .list 2 (b.recs.map rcV) .ro]) := by rw [hp]; simp [Ba.V, Ba.cs]
  have e6 : IntKind.i64.wrap ((p.length : Int) + 1) = ((p.length + 1 : Nat) : Int) := by rw [wrap_id (by unfold I64; omega)]; omega
  have hb := hL b (by rw [hp]; simp)
  have t2 := fun H => size_spec6 b hb.ok H
  rw [fit_size hb] at t2
  have hbl := baBytes_len (rightE_small hb.right)
  have w1 : IntKind.i64.wrap (at_ + ((baBytes b).length : Int)) = at_ + ((baBytes b).length : Int) := wrap_id (by unfold I64; omega)
  have hstep : buildI x at_ (b :: r) = buildI (stepI x at_ b) (at_ + ((baBytes b).length : Nat)) r := rfl
  have hsl := stepI_len x at_ b
  rw [hstep]
  have hold : Old (hx H (x.B fl :: (N ++ [.cells b.cs]))) (pt H 0) (x.B fl) := ⟨by rw [hx_get]; rfl⟩
  have ta := add_true x fl hfl (by omega) (pt H 0) _ hold b.base at_ ((baBytes b).length : Nat)
  have tn := add_false x fl hfl (by omega) (pt H 0) _ hold b.base at_ ((baBytes b).length : Nat)
  simp only [hx_set, List.set_cons_zero] at ta
  cases hc : addOK x b.base at_ ((baBytes b).length : Nat) with
  | true =>
   have hs : stepI x at_ b = addI x b.base at_ ((baBytes b).length : Nat) := by unfold stepI; rw [if_pos hc]
   rw [hs] at hsl ⊢
   obtain ⟨M, fl', h2, hf'⟩ := ih (p ++ [b]) (addI x b.base at_ ((baBytes b).length : Nat)) .own (at_ + ((baBytes b).length : Nat)) (N ++ [.cells b.cs]) (by rw [hp]; simp) (.inl rfl) (by rw [List.length_append]; simp; omega) (by omega) (by rw [List.length_append]; simp; omega)
   refine ⟨M, fl', ?_, hf'⟩
   have ta' := ta hc
   simp only [List.length_append, List.length_cons, List.length_nil, Nat.zero_add] at h2
   generalize buildI (addI x b.base at_ ((baBytes b).length : Nat)) (at_ + ((baBytes b).length : Nat)) r = Y at *
   generalize addI x b.base at_ ((baBytes b).length : Nat) = z at *
   generalize ((baBytes b).length : Int) = T at *
   unfold Ba.V at t2
   unfold Ba.cs at *
   refine loop_step l_segment_Build_0.eq_1 k_segment_Build_0.eq_1 (by kernel_rfl) ?_
   simp only [go_sem, h1, e0, e7, e1, t2, ta', w1, e6, reduceCtorEq, ↓reduceIte, Nat.reduceAdd, Nat.reduceEqDiff, Nat.reduceLT, Int.reduceLE, Nat.reduceSub, Nat.reduceLeDiff, Nat.reduceMul, Int.reduceToNat, Int.reduceLT, Int.reduceEq, Int.reduceNeg, Nat.reduceBEq, Nat.reduceBNe]
   exact h2
  | false =>
   have hs : stepI x at_ b = x := by unfold stepI; rw [if_neg (by rw [hc]; decide)]
   rw [hs] at hsl ⊢
   obtain ⟨M, fl', h2, hf'⟩ := ih (p ++ [b]) x fl (at_ + ((baBytes b).length : Nat)) (N ++ [.cells b.cs]) (by rw [hp]; simp) hfl (by rw [List.length_append]; simp; omega) (by omega) (by rw [List.length_append]; simp; omega)
   refine ⟨M, fl', ?_, hf'⟩
   have tn' := tn hc
   simp only [List.length_append, List.length_cons, List.length_nil, Nat.zero_add] at h2
   generalize buildI x (at_ + ((baBytes b).length : Nat)) r = Y at *
   generalize ((baBytes b).length : Int) = T at *
   unfold Ba.V at t2
   unfold Ba.cs at *
   refine loop_step l_segment_Build_0.eq_1 k_segment_Build_0.eq_1 (by kernel_rfl) ?_
   simp only [go_sem, h1, e0, e7, e1, t2, tn', w1, e6, reduceCtorEq, ↓reduceIte, Nat.reduceAdd, Nat.reduceEqDiff, Nat.reduceLT, Int.reduceLE, Nat.reduceSub, Nat.reduceLeDiff, Nat.reduceMul, Int.reduceToNat, Int.reduceLT, Int.reduceEq, Int.reduceNeg, Nat.reduceBEq, Nat.reduceBNe]
   exact h2
theorem build_yes (p : List Int) (hp : ∀ x ∈ p, 0 ≤ x ∧ x < 256) (hl : p.length ≤ 1000000) (base every : Int) (hk : newOK base every = true) (H : Heap) :
  ∃ M fl', W n_segment_Build [bytes p .ro, .int .i64 base, .int .i64 every] H = some (.tuple [.ptr (pt H 0) 0, .bool true], hx H ((buildI ⟨base, every, []⟩ 0 (scanB base p).1).B fl' :: M)) ∧ Flag (buildI ⟨base, every, []⟩ 0 (scanB base p).1) fl' := by
 have tn := new_spec base every (hx H [])
 rw [if_pos hk] at tn
 obtain ⟨f, t, hf⟩ := scan_spec p hp hl base (hx H [Ix.B ⟨base, every, []⟩ .full])
 obtain ⟨s1, s2, s3, s4⟩ := scan_fit (p.length + 1) base p hp
 have hs : scanR (p.length + 1) base p = scanB base p := rfl
 rw [hs] at s1 s2 s3 s4
 generalize scanB base p = R at *
 obtain ⟨L, e⟩ := R
 simp only at t hf s1 s2 s3 s4 ⊢
 obtain ⟨M, fl', h, hF⟩ := build_loop L s1 (by omega) f hf H L [] ⟨base, every, []⟩ .full 0 [] rfl (.inr ⟨rfl, rfl⟩) (by simp) (by decide) (by decide)
 simp only [List.length_nil, Int.natCast_zero] at h
 refine ⟨M, fl', ?_, hF⟩
 generalize buildI ⟨base, every, []⟩ 0 L = Y at *
 rw [hx_nil] at tn
 have p0 : pt (hx H []) 0 = pt H 0 := by rw [hx_nil]
 refine W_fnS rfl rfl ?_
 rw [hx_nil]
 rcases hf with rfl | ⟨rfl, rfl⟩
 ·simp only [go_sem, c_segment_Build, tn, t, List.length_map, h, reduceCtorEq, ↓reduceIte, Nat.reduceAdd, Nat.reduceEqDiff, Nat.reduceLT, Int.reduceLE, Nat.reduceSub, Nat.reduceLeDiff, Nat.reduceMul, Int.reduceToNat, Int.reduceLT, Int.reduceEq, Int.reduceNeg, Nat.reduceBEq, Nat.reduceBNe]
 ·simp only [List.map_nil, List.length_nil, Int.natCast_zero] at t h
  simp only [go_sem, c_segment_Build, tn, t, List.length_nil, Int.natCast_zero, h, reduceCtorEq, ↓reduceIte, Nat.reduceAdd, Nat.reduceEqDiff, Nat.reduceLT, Int.reduceLE, Nat.reduceSub, Nat.reduceLeDiff, Nat.reduceMul, Int.reduceToNat, Int.reduceLT, Int.reduceEq, Int.reduceNeg, Nat.reduceBEq, Nat.reduceBNe]
theorem build_no (p : List Int) (base every : Int) (hk : newOK base every = false) (H : Heap) :
  W n_segment_Build [bytes p .ro, .int .i64 base, .int .i64 every] H = some (.tuple [.nilp, .bool false], H) := by
 have tn := new_spec base every H
 rw [if_neg (by rw [hk]; decide)] at tn
 refine W_fn0 rfl rfl ?_
 simp only [go_sem, trim_same, c_segment_Build, tn, reduceCtorEq, ↓reduceIte, Nat.reduceAdd, Nat.reduceEqDiff, Nat.reduceLT, Int.reduceLE, Nat.reduceSub, Nat.reduceLeDiff, Nat.reduceMul, Int.reduceToNat, Int.reduceLT, Int.reduceEq, Int.reduceNeg, Nat.reduceBEq, Nat.reduceBNe]
end Go.Abs

namespace Go.Abs
open Go Go.RowKit
set_option linter.unusedVariables false
set_option linter.unusedSimpArgs false

theorem row_rowC (l : List Int) (start : Int) (most : Nat) : RowC start (rowOf l start most) := rowGo_row _ _ trivial
theorem countE_pos {b : Ba} (h : Fit b) : 1 ≤ countE b := by
 have hr := h.right
 unfold countE
 split
 ·rename_i hm
  unfold rightE at hr
  split at hr
  ·cases hr
  ·first | rw [if_pos hm] at hr | skip
   unfold dataE at hr
   split at hr
   ·cases hr
   ·split at hr
    ·cases hr
    ·omega
 ·exact Int.le_refl _
theorem endE_ge : ∀ {s : Int} {l : List Ba}, RowC s l → (∀ b ∈ l, Fit b) → s ≤ endE s l
 | s, [], _, _ => by rw [endE_nil]; omega
 | s, b :: l, h, hf => by
  have h1 := endE_ge h.2 (fun x hx => hf x (List.mem_cons_of_mem _ hx))
  have h2 := countE_pos (hf b List.mem_cons_self)
  rw [endE_cons s b l h.1]; omega
theorem endB_le : ∀ {s : Int} {l : List Ba}, RowC s l → (∀ b ∈ l, Fit b) → ∀ b ∈ l, endB b ≤ endE s l
 | s, [], _, _, b, hb => by cases hb
 | s, c :: l, h, hf, b, hb => by
  have hf' : ∀ x ∈ l, Fit x := fun x hx => hf x (List.mem_cons_of_mem _ hx)
  rw [endE_cons s c l h.1]
  rcases List.mem_cons.1 hb with rfl | hb
  ·have := endE_ge h.2 hf'
   unfold endB; rw [h.1]; exact this
  ·exact endB_le h.2 hf' b hb
theorem dropN_all (off : Int) : ∀ (l : List Ba), (∀ b ∈ l, endB b ≤ off) → dropN off l = []
 | [], _ => rfl
 | b :: l, h => by
  unfold dropN
  rw [if_pos (h b List.mem_cons_self)]
  exact dropN_all off l (fun x hx => h x (List.mem_cons_of_mem _ hx))
theorem cut_drop (off : Int) : ∀ (l : List Ba), ∃ A B, l = A ++ B ∧ cutN off l = ((allB A).length : Nat) ∧ dropN off l = B
 | [] => ⟨[], [], rfl, rfl, rfl⟩
 | b :: l => by
  obtain ⟨A, B, e1, e2, e3⟩ := cut_drop off l
  by_cases h : endB b ≤ off
  ·refine ⟨b :: A, B, by rw [e1]; rfl, ?_, ?_⟩
   ·unfold cutN
    rw [if_neg (by omega), e2, allB_cons, List.length_append]; omega
   ·unfold dropN; rw [if_pos h, e3]
  ·refine ⟨[], b :: l, rfl, ?_, ?_⟩
   ·unfold cutN
    rw [if_pos (by omega)]; rfl
   ·unfold dropN; rw [if_neg h]
theorem RowC.left : ∀ {s : Int} {A B : List Ba}, RowC s (A ++ B) → RowC s A
 | _, [], _, _ => trivial
 | _, b :: A, B, h => ⟨h.1, RowC.left h.2⟩

/-! ## An index of each -/
theorem last_snocE {l : List Ad} {q : Ad} (h : l.getLast? = some q) (he : q.entry = true) : lastE l = some q := by
 rcases List.eq_nil_or_concat l with rfl | ⟨l', x, rfl⟩
 ·cases h
 ·rw [List.concat_eq_append] at h ⊢
  rw [List.getLast?_append] at h
  simp at h
  subst h
  rw [lastE_snoc, if_pos he]
theorem build_all : ∀ (L : List Ba) (x : Ix) (s at_ : Int), (∀ b ∈ L, Fit b) → RowC s L → x.base = 5 → x.every = 1 → 5 ≤ s → s ≤ 1099511627792 → 0 ≤ at_ → at_ + 2404 * L.length ≤ 1000000000 →
  (∀ a ∈ x.l, a.entry = true) → (x.l = [] ∨ ∃ q, x.l.getLast? = some q ∧ q.off < s ∧ q.at_ < at_ ∧ q.end_ = at_ ∧ 0 ≤ q.at_) → (ents (buildI x at_ L).l).length = x.l.length + L.length
 | [], x, s, at_, _, _, _, _, _, _, _, _, he, _ => by
  have : ents x.l = x.l.map fun a => (a.off, a.at_) := by
   unfold ents
   rw [List.filter_eq_self.2 (fun a ha => he a ha)]
  rw [show buildI x at_ [] = x from rfl, this, List.length_map]; rfl
 | b :: L, x, s, at_, hf, hr, hb5, he1, hs5, hsm, hat, hbig, he, hx => by
  have hb := hf b List.mem_cons_self
  have hbs := hr.1
  have hc := countE_pos hb
  have hc2 := hb.count
  have l1 := baBytes_len' b
  have l2 := baBytes_len (rightE_small hb.right)
  have hbb := hb.base
  have hbig' : at_ + 2404 * (L.length + 1) ≤ 1000000000 := by simpa using hbig
  have w : IntKind.i64.wrap (at_ + ((baBytes b).length : Nat)) = at_ + ((baBytes b).length : Nat) := wrap_id (by unfold I64; omega)
  have hok : addOK x b.base at_ ((baBytes b).length : Nat) = true := by
   unfold addOK
   rw [hb5, decide_eq_true (by omega), decide_eq_true (by omega), decide_eq_true (by omega)]
   rcases hx with h0 | ⟨q, hq, h1, h2, h3, h4⟩
   ·rw [h0]; rfl
   ·rw [hq]
    simp only
    rw [decide_eq_true (by omega), decide_eq_true (by omega)]; rfl
  have hE : addE x at_ = true := by
   unfold addE
   rcases hx with h0 | ⟨q, hq, h1, h2, h3, h4⟩
   ·rw [h0]; rfl
   ·have hqe : q.entry = true := he q (List.mem_of_getLast? hq)
    rw [last_snocE hq hqe]
    simp only
    have w2 : IntKind.i64.wrap (at_ - q.at_) = at_ - q.at_ := wrap_id (by unfold I64; omega)
    rw [w2, he1]
    exact decide_eq_true (by omega)
  have hst : stepI x at_ b = ⟨x.base, x.every, x.l ++ [⟨b.base, at_, at_ + ((baBytes b).length : Nat), true⟩]⟩ := by
   unfold stepI
   rw [if_pos hok]
   unfold addI
   rw [w, hE]
  show (ents (buildI (stepI x at_ b) (at_ + ((baBytes b).length : Nat)) L).l).length = _
  rw [hst]
  refine (build_all L ⟨x.base, x.every, x.l ++ [⟨b.base, at_, at_ + ((baBytes b).length : Nat), true⟩]⟩ (s + countE b) (at_ + ((baBytes b).length : Nat)) (fun y hy => hf y (List.mem_cons_of_mem _ hy)) hr.2 hb5 he1 (by omega) (by omega) (by omega) (by omega) (by
    intro a ha
    rw [List.mem_append] at ha
    rcases ha with ha | ha
    ·exact he a ha
    ·simp only [List.mem_cons, List.not_mem_nil, or_false] at ha
     rw [ha]) (.inr ⟨⟨b.base, at_, at_ + ((baBytes b).length : Nat), true⟩, by simp, by simp only; omega, by simp only; omega, rfl, hat⟩)).trans ?_
  simp only [List.length_append, List.length_cons, List.length_nil]
  omega
end Go.Abs

namespace Go.Abs
open Go Go.RowKit
set_option linter.unusedVariables false
set_option linter.unusedSimpArgs false

def tapeL9 (k : Int) (n : Nat) : List Int := (List.range n).map fun (i : Nat) => ((i : Int) * (i : Int) * 7 + k * 29 + (i : Int) * k).tmod 211
theorem tapeL9_i64 (k : Int) (n : Nat) : ∀ x ∈ tapeL9 k n, I64 x := by
 intro x hx
 unfold tapeL9 at hx
 rw [List.mem_map] at hx
 obtain ⟨i, _, rfl⟩ := hx
 have h1 := Int.tmod_lt_of_pos ((i : Int) * i * 7 + k * 29 + i * k) (show (0 : Int) < 211 by decide)
 have h2 := Int.lt_tmod_of_pos ((i : Int) * i * 7 + k * 29 + i * k) (show (0 : Int) < 211 by decide)
 exact i64_c (by omega) (by omega)
theorem tape_loop9 (k : Int) (h0 : 0 ≤ k) (h1 : k ≤ 100) (H : Heap) (d : Nat) : ∀ (i : Nat) (fl : Fl), i + d = 400 → (fl = .own ∨ (fl = .full ∧ i = 0)) →
  loopA W loopW (.ghost (.kill k_law9_tape_0) l_law9_tape_0) [(0, .int .i64 k), (3, .list 1 (ints .i64 (tapeL9 k i)) fl), (4, .int .i64 (i : Nat))] H = some (.exit 0, [(3, .list 1 (ints .i64 (tapeL9 k 400)) (if d = 0 then fl else .own))], H) := by
 induction d with
 | zero =>
  intro i fl hi hfl
  have : i = 400 := by omega
  subst this
  have c : ¬ (((400 : Nat) : Int) < 400) := by omega
  rw [if_pos rfl]
  refine loop_step l_law9_tape_0.eq_1 k_law9_tape_0.eq_1 (by kernel_rfl) ?_
  simp only [go_sem, c, reduceCtorEq, ↓reduceIte, Nat.reduceAdd, Nat.reduceEqDiff, Nat.reduceLT, Int.reduceLE, Nat.reduceSub, Nat.reduceLeDiff, Nat.reduceMul, Int.reduceToNat, Int.reduceLT, Int.reduceEq, Int.reduceNeg, Nat.reduceBEq, Nat.reduceBNe]
 | succ d ih =>
  intro i fl hi hfl
  have c : ((i : Int) < 400) := by omega
  have hii0 : (0 : Int) ≤ (i : Int) * i := Int.mul_nonneg (by omega) (by omega)
  have hii : (i : Int) * i ≤ 400 * 400 := Int.mul_le_mul (by omega) (by omega) (by omega) (by omega)
  have hik0 : (0 : Int) ≤ (i : Int) * k := Int.mul_nonneg (by omega) h0
  have hik : (i : Int) * k ≤ 400 * 100 := Int.mul_le_mul (by omega) h1 h0 (by omega)
  have w1 : IntKind.i64.wrap ((i : Int) * i) = (i : Int) * i := wrap_id (by unfold I64; omega)
  have w2 : IntKind.i64.wrap ((i : Int) * i * 7) = (i : Int) * i * 7 := wrap_id (by unfold I64; omega)
  have w3 : IntKind.i64.wrap (k * 29) = k * 29 := wrap_id (by unfold I64; omega)
  have w4 : IntKind.i64.wrap ((i : Int) * i * 7 + k * 29) = (i : Int) * i * 7 + k * 29 := wrap_id (by unfold I64; omega)
  have w5 : IntKind.i64.wrap ((i : Int) * k) = (i : Int) * k := wrap_id (by unfold I64; omega)
  have w6 : IntKind.i64.wrap ((i : Int) * i * 7 + k * 29 + (i : Int) * k) = (i : Int) * i * 7 + k * 29 + (i : Int) * k := wrap_id (by unfold I64; omega)
  have n0 : ¬ ((211 : Int) = 0) := by decide
  have e6 : IntKind.i64.wrap ((i : Int) + 1) = ((i + 1 : Nat) : Int) := by rw [wrap_id (by unfold I64; omega)]; omega
  have e8 : ints .i64 (tapeL9 k i) ++ [.int .i64 (((i : Int) * i * 7 + k * 29 + (i : Int) * k).tmod 211)] = ints .i64 (tapeL9 k (i + 1)) := by
   unfold tapeL9; rw [List.range_succ]; simp
  have l6 : (tapeL9 k i).length = i := by simp [tapeL9]
  have b1 : (i + 1) * 8 ≤ maxBytes := by simp only [maxBytes]; omega
  have h2 := ih (i + 1) .own (by omega) (.inl rfl)
  have hz : (if d = 0 then Fl.own else Fl.own) = Fl.own := by split <;> rfl
  rw [hz] at h2
  rw [if_neg (by omega)]
  generalize tapeL9 k 400 = T at *
  generalize tapeL9 k (i + 1) = T2 at *
  refine loop_step l_law9_tape_0.eq_1 k_law9_tape_0.eq_1 (by kernel_rfl) ?_
  rcases hfl with rfl | ⟨rfl, rfl⟩
  ·simp only [go_sem, c, w1, w2, w3, w4, w5, w6, n0, apO, List.length_map, l6, b1, e8, e6, reduceCtorEq, ↓reduceIte, Nat.reduceAdd, Nat.reduceEqDiff, Nat.reduceLT, Int.reduceLE, Nat.reduceSub, Nat.reduceLeDiff, Nat.reduceMul, Int.reduceToNat, Int.reduceLT, Int.reduceEq, Int.reduceNeg, Nat.reduceBEq, Nat.reduceBNe]
   exact h2
  ·have t0 : tapeL9 k 0 = [] := rfl
   rw [t0] at e8 ⊢
   have b2 : (0 + 1) * 8 ≤ maxBytes := by decide
   simp only [List.map_nil, List.nil_append, Int.natCast_zero, Int.zero_mul, Int.zero_add, Int.add_zero] at *
   simp only [go_sem, c, w1, w2, w3, w4, w5, w6, n0, apF, List.length_nil, List.nil_append, b2, e6, Int.zero_mul, Int.zero_add, Int.add_zero, reduceCtorEq, ↓reduceIte, Nat.reduceAdd, Nat.reduceEqDiff, Nat.reduceLT, Int.reduceLE, Nat.reduceSub, Nat.reduceLeDiff, Nat.reduceMul, Int.reduceToNat, Int.reduceLT, Int.reduceEq, Int.reduceNeg, Nat.reduceBEq, Nat.reduceBNe]
   rw [e8]
   exact h2
theorem tape9_spec (k : Int) (h0 : 0 ≤ k) (h1 : k ≤ 100) (H : Heap) : W n_law9_tape [.int .i64 k] H = some (.list 1 (ints .i64 (tapeL9 k 400)) .own, H) := by
 have h := tape_loop9 k h0 h1 H 400 0 .full (by omega) (.inr ⟨rfl, rfl⟩)
 have t0 : tapeL9 k 0 = [] := rfl
 rw [t0, if_neg (by decide)] at h
 simp only [List.map_nil, Int.natCast_zero] at h
 generalize tapeL9 k 400 = T at *
 refine W_fn0 rfl rfl ?_
 simp only [go_sem, trim_same, c_law9_tape, h, reduceCtorEq, ↓reduceIte, Nat.reduceAdd, Nat.reduceEqDiff, Nat.reduceLT, Int.reduceLE, Nat.reduceSub, Nat.reduceLeDiff, Nat.reduceMul, Int.reduceToNat, Int.reduceLT, Int.reduceEq, Int.reduceNeg, Nat.reduceBEq, Nat.reduceBNe]
 first | done | rfl

theorem row3 : 0 < (rowOf (tapeL9 3 400) 5 6).length := by decide +kernel
theorem scanB_nil (base : Int) : scanB base [] = ([], 0) := by
 unfold scanB scanR
 rw [if_pos (.inl (read_short [] (by decide)))]
theorem scanB_other {b : Ba} {l : List Ba} (hb : Fit b) (base : Int) (h : b.base ≠ base) : scanB base (allB (b :: l)) = ([], 0) := by
 unfold scanB
 rw [allB_cons]
 unfold scanR
 rw [read_self hb.ok hb.right, if_pos (.inr h)]
set_option maxHeartbeats 2000000 in
set_option maxRecDepth 8000 in
theorem known9_spec (H : Heap) : W n_law9_known [] H = some (.bool true, H) := by
 have t0 := fun H => tape9_spec 3 (by decide) (by decide) H
 have h3 := row3
 have hTl : (tapeL9 3 400).length = 400 := by simp [tapeL9]
 generalize tapeL9 3 400 = T at *
 obtain ⟨f, t1, hf⟩ := row_spec T (by omega) 5 (by decide) (by decide) 6 (by decide) (hx H [])
 have hri := row_ri T (by omega) 5 (by decide) (by decide) 6
 have hfit : ∀ b ∈ rowOf T 5 6, Fit b := hri.fit
 have hlen : (rowOf T 5 6).length ≤ 6 := hri.len
 have hrow := row_rowC T 5 6
 generalize rowOf T 5 6 = L at *
 have hne : L ≠ [] := by intro h; rw [h] at h3; exact absurd h3 (by decide)
 have hf0 : f = .ro := by
  rcases hf with h | ⟨_, h⟩
  ·exact h
  ·exact absurd h hne
 subst hf0
 have t1' : W n_keep_Row [.list 1 (ints .i64 T) .ro, .int .i64 5, .int .i64 6] (hx H []) = some (.list 7 (L.map Ba.V) .ro, hx H []) := t1
 clear t1
 obtain ⟨f2, t2, hf2⟩ := kbytes_spec L hfit (by omega) (hx H [])
 have hf20 : f2 = .own := by
  rcases hf2 with h | ⟨_, h⟩
  ·exact h
  ·exact absurd h hne
 subst hf20
 have hpb := allB_bytes hfit
 have hpl := allB_len L hfit
 have hs5 : scanB 5 (allB L) = (L, (allB L).length) := by
  have := scanB_row L 5 [] hfit hrow (read_short [] (by decide))
  rwa [List.append_nil] at this
 have hs6 : scanB 6 (allB L) = ([], 0) := by
  cases hL : L with
  | nil => exact absurd hL hne
  | cons b l =>
   rw [hL] at hrow hfit
   exact scanB_other (hfit b List.mem_cons_self) 6 (by rw [hrow.1]; decide)
 obtain ⟨g5, u5, hg5⟩ := scan_spec (allB L) hpb (by omega) 5 (hx H [])
 obtain ⟨g6, u6, hg6⟩ := scan_spec (allB L) hpb (by omega) 6 (hx H [])
 obtain ⟨g0, u0, hg0⟩ := scan_spec [] (by simp) (by simp) 5 (hx H [])
 rw [hs5] at u5 hg5
 have hg50 : g5 = .own := by
  rcases hg5 with h | ⟨_, h⟩
  ·exact h
  ·exact absurd h hne
 subst hg50
 rw [hs6] at u6 hg6
 rw [scanB_nil] at u0 hg0
 obtain ⟨M, fl', tb, hF⟩ := build_yes (allB L) hpb (by omega) 5 1 (by decide) (hx H [])
 rw [hs5] at tb hF
 simp only at u5 u6 u0 tb hF
 have hX := build_all L ⟨5, 1, []⟩ 5 0 hfit hrow rfl rfl (by decide) (by decide) (by decide) (by omega) (by simp) (.inl rfl)
 simp only [List.length_nil, Nat.zero_add] at hX
 generalize hY : buildI ⟨5, 1, []⟩ 0 L = X at *
 have hXl : X.l.length < 1000000000 := by
  have : ∀ (l : List Ba) (x : Ix) (a : Int), (buildI x a l).l.length ≤ x.l.length + l.length := by
   intro l
   induction l with
   | nil => intro x a; exact Nat.le_refl _
   | cons b l ih =>
    intro x a
    have h1 := ih (stepI x a b) (a + ((baBytes b).length : Nat))
    have h2 := stepI_len x a b
    show (buildI (stepI x a b) _ l).l.length ≤ _
    rw [List.length_cons]; omega
  have := this L ⟨5, 1, []⟩ 0
  rw [hY] at this
  simp only [List.length_nil] at this
  omega
 have p0 : pt (hx H []) 0 = pt H 0 := by rw [hx_nil]
 rw [p0, hx_hx, List.nil_append] at tb
 have te := entries_spec X fl' hF hXl (pt H 0) (hx H (X.B fl' :: M)) ⟨by rw [hx_get]; rfl⟩
 have tn := fun H => build_no (allB L) 5 0 (by decide) H
 have tr := fun H => rows_spec6 L (fun b hb => fit_recs (hfit b hb)) (by omega) H
 have tx0 := fun H => next_spec9 [] (by simp) (by simp) 7 H
 have tx := fun H => next_spec9 L hfit (by omega) 5 H
 have tE := fun H => end_spec 5 L hfit (by omega) .ro (.inl rfl) H
 have tf := fun H => from_spec9 (allB L) hpb (by omega) .nilp 5 (endE 5 L) H
 have tc := fun H => cut_spec9 (allB L) hpb (by omega) 5 5 H
 have hd : dropN (endE 5 L) L = [] := dropN_all _ L (endB_le hrow hfit)
 have hc : cutN 5 L = 0 := by
  cases hL : L with
  | nil => rfl
  | cons b l =>
   rw [hL] at hrow hfit
   have := countE_pos (hfit b List.mem_cons_self)
   unfold cutN
   rw [if_pos]
   unfold endB
   rw [hrow.1]; omega
 rw [hs5] at tf tc
 simp only at tf tc
 rw [hd] at tf
 rw [hc] at tc
 rw [endE_nil] at tx0
 simp only [List.map_nil] at tf tx0 u6 u0
 have l0 : (L.length : Int) > 0 := by omega
 have eX : (((ents X.l).length : Nat) : Int) = (L.length : Int) := by rw [hX]
 generalize endE 5 L = E at *
 generalize allB L = P at *
 have u0' : W n_segment_Scan [.list 1 [] .ro, .int .i64 5] (hx H []) = some (.tuple [.list 7 [] g0, .int .i64 ((0 : Nat) : Int)], hx H []) := u0
 simp only [Int.natCast_zero] at u6 u0'
 clear u0
 refine W_fn rfl rfl ?_
 rcases hg6 with rfl | ⟨rfl, _⟩
 ·rcases hg0 with rfl | ⟨rfl, _⟩
  ·simp only [go_sem, c_law9_known, t0, t1', t2, u5, u6, u0', tb, tn, List.length_map, List.length_nil, Int.natCast_zero, l0, tr, te, eX, tx0, tx, tE, tf, tc, reduceCtorEq, ↓reduceIte, Nat.reduceAdd, Nat.reduceEqDiff, Nat.reduceLT, Int.reduceLE, Nat.reduceSub, Nat.reduceLeDiff, Nat.reduceMul, Int.reduceToNat, Int.reduceLT, Int.reduceEq, Int.reduceNeg, Nat.reduceBEq, Nat.reduceBNe]
  ·simp only [go_sem, c_law9_known, t0, t1', t2, u5, u6, u0', tb, tn, List.length_map, List.length_nil, Int.natCast_zero, l0, tr, te, eX, tx0, tx, tE, tf, tc, reduceCtorEq, ↓reduceIte, Nat.reduceAdd, Nat.reduceEqDiff, Nat.reduceLT, Int.reduceLE, Nat.reduceSub, Nat.reduceLeDiff, Nat.reduceMul, Int.reduceToNat, Int.reduceLT, Int.reduceEq, Int.reduceNeg, Nat.reduceBEq, Nat.reduceBNe]
 ·rcases hg0 with rfl | ⟨rfl, _⟩
  ·simp only [go_sem, c_law9_known, t0, t1', t2, u5, u6, u0', tb, tn, List.length_map, List.length_nil, Int.natCast_zero, l0, tr, te, eX, tx0, tx, tE, tf, tc, reduceCtorEq, ↓reduceIte, Nat.reduceAdd, Nat.reduceEqDiff, Nat.reduceLT, Int.reduceLE, Nat.reduceSub, Nat.reduceLeDiff, Nat.reduceMul, Int.reduceToNat, Int.reduceLT, Int.reduceEq, Int.reduceNeg, Nat.reduceBEq, Nat.reduceBNe]
  ·simp only [go_sem, c_law9_known, t0, t1', t2, u5, u6, u0', tb, tn, List.length_map, List.length_nil, Int.natCast_zero, l0, tr, te, eX, tx0, tx, tE, tf, tc, reduceCtorEq, ↓reduceIte, Nat.reduceAdd, Nat.reduceEqDiff, Nat.reduceLT, Int.reduceLE, Nat.reduceSub, Nat.reduceLeDiff, Nat.reduceMul, Int.reduceToNat, Int.reduceLT, Int.reduceEq, Int.reduceNeg, Nat.reduceBEq, Nat.reduceBNe]
end Go.Abs

