import Derived.Test.YtddgichochdgcaaV1
namespace Go.Abs
open Go Go.RowKit
set_option linter.unusedVariables false
set_option linter.unusedSimpArgs false

theorem shl7 (i : Nat) (hi : i < 10) (c : Int) : shl .u64 c ((i : Int) * 7) = (c * 128 ^ i) % 18446744073709551616 := by
  unfold shl
  rw [Num.wu64]
  have e : min ((i : Int) * 7).toNat IntKind.u64.bits = 7 * i := by show min _ 64 = _; omega
  rw [e, show (2 : Int) ^ (7 * i) = 128 ^ i by rw [Int.pow_mul]; rfl]
theorem shr7 (i : Nat) (hi : i < 10) (c : Int) : shr .u64 c ((i : Int) * 7) = c / 128 ^ i := by
  unfold shr
  have e : min ((i : Int) * 7).toNat IntKind.u64.bits = 7 * i := by show min _ 64 = _; omega
  rw [e, show (2 : Int) ^ (7 * i) = 128 ^ i by rw [Int.pow_mul]; rfl]
/-- Back and forth: what is left of a group of seven bits at its place. -/
theorem group (i : Nat) (hi : i < 10) (c : Int) (h0 : 0 ≤ c) (h1 : c < 128) : ((c * 128 ^ i) % 18446744073709551616 / 128 ^ i = c) ↔ ¬ (i = 9 ∧ c ≥ 2) := by
  match i, hi with
  | 0, _ => have e : (128 : Int) ^ 0 = 1 := rfl; rw [e]; omega
  | 1, _ => have e : (128 : Int) ^ 1 = 128 := rfl; rw [e]; omega
  | 2, _ => have e : (128 : Int) ^ 2 = 16384 := rfl; rw [e]; omega
  | 3, _ => have e : (128 : Int) ^ 3 = 2097152 := rfl; rw [e]; omega
  | 4, _ => have e : (128 : Int) ^ 4 = 268435456 := rfl; rw [e]; omega
  | 5, _ => have e : (128 : Int) ^ 5 = 34359738368 := rfl; rw [e]; omega
  | 6, _ => have e : (128 : Int) ^ 6 = 4398046511104 := rfl; rw [e]; omega
  | 7, _ => have e : (128 : Int) ^ 7 = 562949953421312 := rfl; rw [e]; omega
  | 8, _ => have e : (128 : Int) ^ 8 = 72057594037927936 := rfl; rw [e]; omega
  | 9, _ => have e : (128 : Int) ^ 9 = 9223372036854775808 := rfl; rw [e]; omega
/-- A group of seven bits is put above what there is. -/
theorem joins (i : Nat) (hi : i < 10) (u c : Int) (u0 : 0 ≤ u) (u1 : u < 128 ^ i) (h0 : 0 ≤ c) (h1 : c < 128) :
    bits .or .u64 u ((c * 128 ^ i) % 18446744073709551616) = (u + 128 ^ i * c) % 18446744073709551616 ∧ (i < 9 → (u + 128 ^ i * c) < 18446744073709551616) ∧ u < 18446744073709551616 := by
  have hp : (2 : Int) ^ (7 * i) = 128 ^ i := by rw [Int.pow_mul]; rfl
  have key : u < 18446744073709551616 ∧ ((c * 128 ^ i) % 18446744073709551616) % 128 ^ i = 0 ∧ (u + (c * 128 ^ i) % 18446744073709551616) = (u + 128 ^ i * c) % 18446744073709551616 ∧ (i < 9 → (u + 128 ^ i * c) < 18446744073709551616) := by
    clear hp
    match i, hi with
    | 0, _ => have e : (128 : Int) ^ 0 = 1 := rfl; rw [e] at u1 ⊢; omega
    | 1, _ => have e : (128 : Int) ^ 1 = 128 := rfl; rw [e] at u1 ⊢; omega
    | 2, _ => have e : (128 : Int) ^ 2 = 16384 := rfl; rw [e] at u1 ⊢; omega
    | 3, _ => have e : (128 : Int) ^ 3 = 2097152 := rfl; rw [e] at u1 ⊢; omega
    | 4, _ => have e : (128 : Int) ^ 4 = 268435456 := rfl; rw [e] at u1 ⊢; omega
    | 5, _ => have e : (128 : Int) ^ 5 = 34359738368 := rfl; rw [e] at u1 ⊢; omega
    | 6, _ => have e : (128 : Int) ^ 6 = 4398046511104 := rfl; rw [e] at u1 ⊢; omega
    | 7, _ => have e : (128 : Int) ^ 7 = 562949953421312 := rfl; rw [e] at u1 ⊢; omega
    | 8, _ => have e : (128 : Int) ^ 8 = 72057594037927936 := rfl; rw [e] at u1 ⊢; omega
    | 9, _ => have e : (128 : Int) ^ 9 = 9223372036854775808 := rfl; rw [e] at u1 ⊢; omega
  refine ⟨?_, key.2.2.2, key.1⟩
  rw [Num.or_u64 (7 * i) u _ u0 (by rw [hp]; exact u1) (by omega) (by rw [hp]; exact key.2.1) key.1 (by omega)]
  exact key.2.2.1
/-- What Get tells of what dec tells. -/
def told : Option (Int × Nat) → Int × Int
  | none => (0, 0)
  | some (u, n) => (Num.zag u, (n : Int))

theorem w64eq (n : Int) : IntKind.i64.wrap n = wrap64 n := by rw [IntKind.wrap_i64]; unfold wrap64; rfl
theorem zag_own' (u : Int) (h0 : 0 ≤ u) (h1 : u < 18446744073709551616) : bits .xor .i64 (IntKind.i64.wrap (shr .u64 u 1)) (IntKind.i64.wrap (0 - IntKind.i64.wrap (bits .and .u64 u 1))) = Num.zag u := by
  rw [← Num.zag_own u h0 h1, show shr .u64 u 1 = u / 2 from rfl]
  simp only [w64eq, Int.zero_sub]

theorem get_loop (l : List Int) (hb : Bytes l) (hl : l.length < 70368744177664) (H : Heap) (r : List Int) : ∀ (p : List Int) (u : Int), l = p ++ r → p.length ≤ 10 → 0 ≤ u → u < 128 ^ p.length →
    loopA W loopW (.ghost (.kill k_varint_Get_0) l_varint_Get_0) [(0, bytes l .ro), (4, .int .u64 u), (10, .int .i64 (mn (l.length : Int) 10)), (11, .int .i64 (p.length : Int))] H =
      some (.ret, [(2, .int .i64 (told (Vt.dec r p.length u)).1), (3, .int .i64 (told (Vt.dec r p.length u)).2)], H) ∨
    (loopA W loopW (.ghost (.kill k_varint_Get_0) l_varint_Get_0) [(0, bytes l .ro), (4, .int .u64 u), (10, .int .i64 (mn (l.length : Int) 10)), (11, .int .i64 (p.length : Int))] H = some (.exit 0, [], H) ∧
      told (Vt.dec r p.length u) = (0, 0)) := by
  induction r with
  | nil =>
    intro p u hp h10 _ _
    have hlen : l.length = p.length := by rw [hp, List.append_nil]
    right
    refine ⟨loop_step l_varint_Get_0.eq_1 k_varint_Get_0.eq_1 (by kernel_rfl) ?_, rfl⟩
    have h1 : ¬ ((p.length : Int) < mn (l.length : Int) 10) := by unfold mn; split <;> omega
    simp only [go_sem, h1, decide_false, reduceCtorEq, ne_eq, not_false_eq_true, Bool.false_eq_true, ↓reduceIte, Nat.reduceAdd, Nat.reduceEqDiff, Nat.reduceLT]
  | cons c r ih =>
    intro p u hp h10 u0 u1
    have hlen : l.length = p.length + (r.length + 1) := by rw [hp, List.length_append, List.length_cons]
    have hc := hb c (by rw [hp]; simp)
    rw [Vt.dec]
    by_cases hi : p.length ≥ 10
    · right
      rw [if_pos hi]
      refine ⟨loop_step l_varint_Get_0.eq_1 k_varint_Get_0.eq_1 (by kernel_rfl) ?_, rfl⟩
      have h1 : ¬ ((p.length : Int) < mn (l.length : Int) 10) := by unfold mn; split <;> omega
      simp only [go_sem, h1, decide_false, reduceCtorEq, ne_eq, not_false_eq_true, Bool.false_eq_true, ↓reduceIte, Nat.reduceAdd, Nat.reduceEqDiff, Nat.reduceLT]
    · rw [if_neg hi]
      have h1 : (p.length : Int) < mn (l.length : Int) 10 := by unfold mn; split <;> omega
      have h2 : (0 : Int) ≤ (p.length : Int) := by omega
      have h3 := ints_at (k := .u8) hp rfl
      have e1 : IntKind.u64.wrap c = c := by rw [Num.wu64]; omega
      have e2 := Num.andNot128 c hc.1 hc.2
      have e3 : IntKind.i64.wrap ((p.length : Int) * 7) = (p.length : Int) * 7 := wrap_id (by unfold I64; omega)
      have e4 : (0 : Int) ≤ (p.length : Int) * 7 := by omega
      have e5 := shl7 p.length (by omega) (c % 128)
      have e6 := shr7 p.length (by omega) ((c % 128 * 128 ^ p.length) % 18446744073709551616)
      have hg := group p.length (by omega) (c % 128) (by omega) (by omega)
      have hj := joins p.length (by omega) u (c % 128) u0 u1 (by omega) (by omega)
      by_cases h9 : p.length = 9 ∧ c % 128 ≥ 2
      · left
        rw [if_pos h9]
        refine loop_step l_varint_Get_0.eq_1 k_varint_Get_0.eq_1 (by kernel_rfl) ?_
        have h5 : ¬ ((c % 128 * 128 ^ p.length) % 18446744073709551616 / 128 ^ p.length = c % 128) := fun h => hg.1 h h9
        simp only [go_sem, h1, h2, h3, e1, e2, e3, e4, e5, e6, h5, s_shl, s_shr, not_false_eq_true, decide_true, decide_false, reduceCtorEq, ne_eq, not_false_eq_true, Bool.false_eq_true, ↓reduceIte, Nat.reduceAdd, Nat.reduceEqDiff, Nat.reduceLT, told]
      · rw [if_neg h9]
        have h5 : (c % 128 * 128 ^ p.length) % 18446744073709551616 / 128 ^ p.length = c % 128 := hg.2 h9
        have h7 : 0 ≤ 128 ^ p.length * (c % 128) := Int.mul_nonneg (Int.le_of_lt (Vt.pow_pos _)) (by omega)
        have hu : (u + 128 ^ p.length * (c % 128)) % 18446744073709551616 = u + 128 ^ p.length * (c % 128) := by
          have : u + 128 ^ p.length * (c % 128) < 18446744073709551616 := by
            by_cases h : p.length < 9
            · exact hj.2.1 h
            · have h1 : p.length = 9 := by omega
              have e : (128 : Int) ^ p.length = 9223372036854775808 := by rw [h1]; rfl
              rw [e] at u1 ⊢
              omega
          omega
        have e7 : bits .or .u64 u ((c % 128 * 128 ^ p.length) % 18446744073709551616) = u + 128 ^ p.length * (c % 128) := by rw [hj.1, hu]
        by_cases h128 : c ≥ 128
        · rw [if_pos h128]
          have e8 : IntKind.i64.wrap ((p.length : Int) + 1) = ((p ++ [c]).length : Int) := by
            rw [wrap_id (by unfold I64; omega)]; simp
          have hn := ih (p ++ [c]) (u + 128 ^ p.length * (c % 128)) (by rw [hp, List.append_assoc]; rfl) (by simp; omega) (by omega) (by
            rw [List.length_append, List.length_cons, List.length_nil, Nat.zero_add, Vt.pow128]
            have h4 : 128 ^ p.length * (c % 128) ≤ 128 ^ p.length * 127 := Int.mul_le_mul_of_nonneg_left (by omega) (Int.le_of_lt (Vt.pow_pos _))
            omega)
          have e9 : (p ++ [c]).length = p.length + 1 := by simp
          rw [e9] at hn e8
          have step : ∀ q, loopA W loopW (.ghost (.kill k_varint_Get_0) l_varint_Get_0) [(0, bytes l .ro), (4, .int .u64 (u + 128 ^ p.length * (c % 128))), (10, .int .i64 (mn (l.length : Int) 10)), (11, .int .i64 ((p.length + 1 : Nat) : Int))] H = some q →
              loopA W loopW (.ghost (.kill k_varint_Get_0) l_varint_Get_0) [(0, bytes l .ro), (4, .int .u64 u), (10, .int .i64 (mn (l.length : Int) 10)), (11, .int .i64 (p.length : Int))] H = some q := by
            intro q hq
            refine loop_step l_varint_Get_0.eq_1 k_varint_Get_0.eq_1 (by kernel_rfl) ?_
            simp only [go_sem, h1, h2, h3, h5, e1, e2, e3, e4, e5, e6, e7, e8, h128, s_shl, s_shr, not_true_eq_false, not_false_eq_true, decide_true, decide_false, reduceCtorEq, ne_eq, not_false_eq_true, Bool.false_eq_true, ↓reduceIte, Nat.reduceAdd, Nat.reduceEqDiff, Nat.reduceLT]
            exact hq
          rcases hn with hn | ⟨hn, ht⟩
          · exact .inl (step _ hn)
          · exact .inr ⟨step _ hn, ht⟩
        · rw [if_neg h128]
          have ez := zag_own' (u + 128 ^ p.length * (c % 128)) (by omega) (by omega)
          have e8 : IntKind.i64.wrap ((p.length : Int) + 1) = (p.length : Int) + 1 := wrap_id (by unfold I64; omega)
          left
          refine loop_step l_varint_Get_0.eq_1 k_varint_Get_0.eq_1 (by kernel_rfl) ?_
          have hl1 : ((p.length + 1 : Nat) : Int) = (p.length : Int) + 1 := by omega
          by_cases h0 : c = 0
          · have hd : decide (c = 0) = true := by simp [h0]
            by_cases hp0 : p.length > 0
            · have h8 : (p.length : Int) > 0 := by omega
              rw [if_pos ⟨h0, hp0⟩]
              simp only [go_sem, h1, h2, h3, h5, e1, e2, e3, e4, e5, e6, e7, e8, ez, h128, h8, hd, Int.reduceLE, s_shl, s_shr, not_true_eq_false, not_false_eq_true, decide_true, decide_false, reduceCtorEq, ne_eq, not_false_eq_true, Bool.false_eq_true, ↓reduceIte, Nat.reduceAdd, Nat.reduceEqDiff, Nat.reduceLT, told]
            · have h8 : ¬ ((p.length : Int) > 0) := by omega
              rw [if_neg (fun h => hp0 h.2)]
              simp only [go_sem, h1, h2, h3, h5, e1, e2, e3, e4, e5, e6, e7, e8, ez, h128, h8, hd, hl1, Int.reduceLE, s_shl, s_shr, not_true_eq_false, not_false_eq_true, decide_true, decide_false, reduceCtorEq, ne_eq, not_false_eq_true, Bool.false_eq_true, ↓reduceIte, Nat.reduceAdd, Nat.reduceEqDiff, Nat.reduceLT, told]
          · rw [if_neg (fun h => h0 h.1)]
            simp only [go_sem, h0, h1, h2, h3, h5, e1, e2, e3, e4, e5, e6, e7, e8, ez, h128, hl1, s_shl, s_shr, Int.reduceLE, not_true_eq_false, not_false_eq_true, decide_true, decide_false, reduceCtorEq, ne_eq, not_false_eq_true, Bool.false_eq_true, ↓reduceIte, Nat.reduceAdd, Nat.reduceEqDiff, Nat.reduceLT, told]

theorem get_spec (l : List Int) (H : Heap) (hb : Bytes l) (hl : l.length < 70368744177664) : W n_varint_Get [bytes l .ro] H = some (.tuple [.int .i64 (told (Vt.dec l 0 0)).1, .int .i64 (told (Vt.dec l 0 0)).2], H) := by
  refine W_fn rfl rfl ?_
  have e3 : (ints .u8 l).length = l.length := by simp
  rcases get_loop l hb hl H l [] 0 rfl (by simp) (by omega) (by decide) with h | ⟨h, ht⟩
  · simp only [List.length_nil, Int.natCast_zero] at h
    simp only [c_varint_Get, go_sem, e3, h, reduceCtorEq, ne_eq, not_false_eq_true, Bool.false_eq_true, ↓reduceIte, Nat.reduceAdd, Nat.reduceEqDiff, Nat.reduceLT]
  · simp only [List.length_nil, Int.natCast_zero] at h ht
    rw [ht]
    simp only [c_varint_Get, go_sem, e3, h, reduceCtorEq, ne_eq, not_false_eq_true, Bool.false_eq_true, ↓reduceIte, Nat.reduceAdd, Nat.reduceEqDiff, Nat.reduceLT]
end Go.Abs
