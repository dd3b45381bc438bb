import Derived.Test.YtddgichochdgcaaC1
import Derived.Test.YtddgichochdgcaaN1
namespace Go.Abs
open Go Go.RowKit
set_option linter.unusedVariables false
set_option linter.unusedSimpArgs false

theorem put_loop (f : Nat) : ∀ (l : List Int) (u : Int) (H : Heap), 0 ≤ u → u < 128 ^ (f + 1) → l.length + f + 1 ≤ 70368744177664 → ∃ p q, p ++ [q] = Vt.enc f u ∧ 0 ≤ q ∧ q < 128 ∧
    loopA W loopW (.ghost (.kill k_varint_Put_0) l_varint_Put_0) [(5, bytes l .own), (6, .int .u64 u)] H = some (.exit 0, [(5, bytes (l ++ p) .own), (6, .int .u64 q)], H) := by
  induction f with
  | zero =>
    intro l u H h0 h1 hl
    rw [Vt.pow128] at h1
    have : (128 : Int) ^ 0 = 1 := rfl
    refine ⟨[], u, rfl, h0, by omega, loop_step l_varint_Put_0.eq_1 k_varint_Put_0.eq_1 (by kernel_rfl) ?_⟩
    have hu : ¬ (u ≥ 128) := by omega
    simp only [go_sem, hu, decide_false, reduceCtorEq, ne_eq, not_false_eq_true, Bool.false_eq_true, ↓reduceIte, Nat.reduceAdd, Nat.reduceEqDiff, Nat.reduceLT, List.append_nil]
  | succ f ih =>
    intro l u H h0 h1 hl
    rw [Vt.pow128] at h1
    by_cases h : u ≥ 128
    · obtain ⟨p, q, g1, g2, g3, g4⟩ := ih (l ++ [u % 128 + 128]) (u / 128) H (by omega) (by omega) (by simp; omega)
      refine ⟨(u % 128 + 128) :: p, q, by rw [Vt.enc, if_pos h, ← g1]; rfl, g2, g3, loop_step l_varint_Put_0.eq_1 k_varint_Put_0.eq_1 (by kernel_rfl) ?_⟩
      have e1 : bits .or .u8 (IntKind.u8.wrap u) 128 = u % 128 + 128 := by
        rw [Num.wu8, Num.or128_u8 _ (by omega) (by omega)]; omega
      have e2 : shr .u64 u 7 = u / 128 := rfl
      have e3 : (ints .u8 l).length = l.length := by simp
      have e4 : ints .u8 l ++ [.int .u8 (u % 128 + 128)] = ints .u8 (l ++ [u % 128 + 128]) := by simp
      have hb : ((ints .u8 l).length + [AVal.int .u8 (u % 128 + 128)].length) * 1 ≤ maxBytes := by simp [maxBytes]; omega
      simp only [go_sem, h, decide_true, reduceCtorEq, ne_eq, not_false_eq_true, Bool.false_eq_true, ↓reduceIte, Nat.reduceAdd, Nat.reduceEqDiff, Nat.reduceLT, fs_int, e1, e2, s_shr, Int.reduceLE, ap_own, hb, e4]
      exact g4.trans (by simp)
    · refine ⟨[], u, by rw [Vt.enc, if_neg h]; rfl, h0, by omega, loop_step l_varint_Put_0.eq_1 k_varint_Put_0.eq_1 (by kernel_rfl) ?_⟩
      simp only [go_sem, h, decide_false, reduceCtorEq, ne_eq, not_false_eq_true, Bool.false_eq_true, ↓reduceIte, Nat.reduceAdd, Nat.reduceEqDiff, Nat.reduceLT, List.append_nil]

theorem W_clip (xs : List AVal) (H : Heap) : W n_slices_Clip_byte_byte_ [.list 1 xs .ro] H = some (.list 1 xs .full, H) := by
  refine W_fn rfl rfl ?_
  simp only [c_slices_Clip_byte_byte_, go_sem, sl_clip, reduceCtorEq, ne_eq, not_false_eq_true, Bool.false_eq_true, ↓reduceIte, Nat.reduceAdd, Nat.reduceEqDiff, Nat.reduceLT]

theorem zig_own' (n : Int) (h : I64 n) : bits .xor .u64 (shl .u64 (IntKind.u64.wrap n) 1) (IntKind.u64.wrap (shr .i64 n 63)) = Num.zig n := Num.zig_own n h

theorem put_spec (l : List Int) (n : Int) (H : Heap) (hn : I64 n) (hl : l.length + 10 ≤ 70368744177664) : W n_varint_Put [bytes l .ro, .int .i64 n] H = some (bytes (l ++ Vt.enc 9 (Num.zig n)) .full, H) := by
  have hz := Num.zig_range n hn
  obtain ⟨p, q, g1, g2, g3, g4⟩ := put_loop 9 l (Num.zig n) H hz.1 (Int.lt_trans hz.2 (by decide)) (by omega)
  have hp : p.length < 10 := by
    have := Vt.enc_len' 9 (Num.zig n); rw [← g1] at this; simp at this; omega
  have hb : ((ints .u8 (l ++ p)).length + [AVal.int .u8 q].length) * 1 ≤ maxBytes := by simp [maxBytes]; omega
  have e1 : IntKind.u8.wrap q = q := by rw [Num.wu8]; omega
  have hcl : (ints .u8 l).length * 1 ≤ maxBytes := by simp [maxBytes]; omega
  refine W_fn rfl rfl ?_
  simp only [c_varint_Put, go_sem, W_clone, hcl, W_clip, s_shl, s_shr, zig_own' n hn, g4, e1, fs_int, ap_own, hb, Int.reduceLE, reduceCtorEq, ne_eq, not_false_eq_true, Bool.false_eq_true, ↓reduceIte, Nat.reduceAdd, Nat.reduceEqDiff, Nat.reduceLT, Bool.not_false, Bool.and_self]
  rw [← g1]; simp
end Go.Abs
