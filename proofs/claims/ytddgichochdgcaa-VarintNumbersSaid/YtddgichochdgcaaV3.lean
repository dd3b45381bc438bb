import Derived.Test.YtddgichochdgcaaV2
namespace Go.Abs
open Go Go.RowKit
set_option linter.unusedVariables false
set_option linter.unusedSimpArgs false

theorem ref_put_loop (f : Nat) : ∀ (l : List Int) (u : Int) (H : Heap), 0 ≤ u → u < 128 ^ (f + 1) → l.length + f + 1 ≤ 70368744177664 → ∃ p q, p ++ [q] = Vt.enc f u ∧ 0 ≤ q ∧ q < 128 ∧
    loopA W loopW (.ghost (.kill k_ref1_Put_0) l_ref1_Put_0) [(5, bytes l .own), (6, .int .u64 u)] H = some (.exit 0, [(5, bytes (l ++ p) .own), (6, .int .u64 q)], H) := by
  induction f with
  | zero =>
    intro l u H h0 h1 hl
    rw [Vt.pow128] at h1
    have : (128 : Int) ^ 0 = 1 := rfl
    refine ⟨[], u, rfl, h0, by omega, loop_step l_ref1_Put_0.eq_1 k_ref1_Put_0.eq_1 (by kernel_rfl) ?_⟩
    have hu : ¬ (u ≥ 128) := by omega
    simp only [go_sem, hu, List.append_nil, not_true_eq_false, not_false_eq_true, decide_true, decide_false, reduceCtorEq, ne_eq, Bool.false_eq_true, ↓reduceIte, Nat.reduceAdd, Nat.reduceEqDiff, Nat.reduceLT, Int.reduceLE, Int.reduceEq, Int.reduceNeg, s_shl, s_shr, Bool.not_false, Bool.not_true, Bool.and_self, Bool.true_and, Bool.and_true]
  | succ f ih =>
    intro l u H h0 h1 hl
    rw [Vt.pow128] at h1
    by_cases h : u ≥ 128
    · obtain ⟨p, q, g1, g2, g3, g4⟩ := ih (l ++ [u % 128 + 128]) (u / 128) H (by omega) (by omega) (by simp; omega)
      refine ⟨(u % 128 + 128) :: p, q, by rw [Vt.enc, if_pos h, ← g1]; rfl, g2, g3, loop_step l_ref1_Put_0.eq_1 k_ref1_Put_0.eq_1 (by kernel_rfl) ?_⟩
      have e1 : bits .or .u8 (IntKind.u8.wrap u) 128 = u % 128 + 128 := by
        rw [Num.wu8, Num.or128_u8 _ (by omega) (by omega)]; omega
      have e2 : shr .u64 u 7 = u / 128 := rfl
      have e4 : ints .u8 l ++ [.int .u8 (u % 128 + 128)] = ints .u8 (l ++ [u % 128 + 128]) := by simp
      have hb : ((ints .u8 l).length + [AVal.int .u8 (u % 128 + 128)].length) * 1 ≤ maxBytes := by simp [maxBytes]; omega
      simp only [go_sem, h, e1, e2, ap_own, hb, e4, not_true_eq_false, not_false_eq_true, decide_true, decide_false, reduceCtorEq, ne_eq, Bool.false_eq_true, ↓reduceIte, Nat.reduceAdd, Nat.reduceEqDiff, Nat.reduceLT, Int.reduceLE, Int.reduceEq, Int.reduceNeg, s_shl, s_shr, Bool.not_false, Bool.not_true, Bool.and_self, Bool.true_and, Bool.and_true]
      exact g4.trans (by simp)
    · refine ⟨[], u, by rw [Vt.enc, if_neg h]; rfl, h0, by omega, loop_step l_ref1_Put_0.eq_1 k_ref1_Put_0.eq_1 (by kernel_rfl) ?_⟩
      simp only [go_sem, h, List.append_nil, not_true_eq_false, not_false_eq_true, decide_true, decide_false, reduceCtorEq, ne_eq, Bool.false_eq_true, ↓reduceIte, Nat.reduceAdd, Nat.reduceEqDiff, Nat.reduceLT, Int.reduceLE, Int.reduceEq, Int.reduceNeg, s_shl, s_shr, Bool.not_false, Bool.not_true, Bool.and_self, Bool.true_and, Bool.and_true]

theorem zig_ref' (n : Int) (h : I64 n) : bits .xor .u64 (IntKind.u64.wrap (shl .i64 n 1)) (IntKind.u64.wrap (shr .i64 n 63)) = Num.zig n := by
  rw [← Num.zig_ref n h, ← w64eq]; rfl

theorem ref_put_spec (l : List Int) (n : Int) (H : Heap) (fl : Fl) (hfl : fl = .ro ∨ fl = .full) (hn : I64 n) (hl : l.length + 10 ≤ 70368744177664) : W n_ref1_Put [bytes l .ro, .int .i64 n] H = some (bytes (l ++ Vt.enc 9 (Num.zig n)) .own, H) := by
  have hz := Num.zig_range n hn
  obtain ⟨p, q, g1, g2, g3, g4⟩ := ref_put_loop 9 l (Num.zig n) H hz.1 (Int.lt_trans hz.2 (by decide)) (by omega)
  have hp : p.length < 10 := by
    have := Vt.enc_len' 9 (Num.zig n); rw [← g1] at this; simp at this; omega
  have hb : ((ints .u8 (l ++ p)).length + [AVal.int .u8 q].length) * 1 ≤ maxBytes := by simp [maxBytes]; omega
  have hb0 : (([] : List AVal).length + (ints .u8 l).length) * 1 ≤ maxBytes := by simp [maxBytes]; omega
  have e1 : IntKind.u8.wrap q = q := by rw [Num.wu8]; omega
  refine W_fn rfl rfl ?_
  simp only [go_sem, c_ref1_Put, zig_ref' n hn, g4, e1, fs_nil, ap_own, ap_full, hb, hb0, List.nil_append, not_true_eq_false, not_false_eq_true, decide_true, decide_false, reduceCtorEq, ne_eq, Bool.false_eq_true, ↓reduceIte, Nat.reduceAdd, Nat.reduceEqDiff, Nat.reduceLT, Int.reduceLE, Int.reduceEq, Int.reduceNeg, s_shl, s_shr, Bool.not_false, Bool.not_true, Bool.and_self, Bool.true_and, Bool.and_true]
  rw [← g1]; simp

theorem text_spec (l : List Int) (s : List UInt8) (H : Heap) (hl : l.length + s.length + 10 ≤ 70368744177664) : W n_varint_Text [bytes l .ro, .str s] H = some (bytes (l ++ Vt.enc 9 (Num.zig s.length) ++ s.map fun b => (b.toNat : Int)) .full, H) := by
  have h1 := put_spec l s.length H (by unfold I64; omega) (by omega)
  have h2 := Vt.enc_len' 9 (Num.zig s.length)
  have hb : ((ints .u8 (l ++ Vt.enc 9 (Num.zig s.length))).length + (encBytes s).length) * 1 ≤ maxBytes := by simp [maxBytes, encBytes]; omega
  refine W_fn rfl rfl ?_
  simp only [go_sem, c_varint_Text, h1, ap_full, hb, W_clip, not_true_eq_false, not_false_eq_true, decide_true, decide_false, reduceCtorEq, ne_eq, Bool.false_eq_true, ↓reduceIte, Nat.reduceAdd, Nat.reduceEqDiff, Nat.reduceLT, Int.reduceLE, Int.reduceEq, Int.reduceNeg, s_shl, s_shr, Bool.not_false, Bool.not_true, Bool.and_self, Bool.true_and, Bool.and_true]
  simp [encBytes]

theorem ref_text_spec (l : List Int) (s : List UInt8) (H : Heap) (hl : l.length + s.length + 10 ≤ 70368744177664) : W n_ref1_Text [bytes l .ro, .str s] H = some (bytes (l ++ Vt.enc 9 (Num.zig s.length) ++ s.map fun b => (b.toNat : Int)) .own, H) := by
  have h1 := ref_put_spec l s.length H .ro (.inl rfl) (by unfold I64; omega) (by omega)
  have h2 := Vt.enc_len' 9 (Num.zig s.length)
  have hb : ((ints .u8 (l ++ Vt.enc 9 (Num.zig s.length))).length + (encBytes s).length) * 1 ≤ maxBytes := by simp [maxBytes, encBytes]; omega
  refine W_fn rfl rfl ?_
  simp only [go_sem, c_ref1_Text, h1, ap_own, hb, not_true_eq_false, not_false_eq_true, decide_true, decide_false, reduceCtorEq, ne_eq, Bool.false_eq_true, ↓reduceIte, Nat.reduceAdd, Nat.reduceEqDiff, Nat.reduceLT, Int.reduceLE, Int.reduceEq, Int.reduceNeg, s_shl, s_shr, Bool.not_false, Bool.not_true, Bool.and_self, Bool.true_and, Bool.and_true]
  simp [encBytes]
end Go.Abs
