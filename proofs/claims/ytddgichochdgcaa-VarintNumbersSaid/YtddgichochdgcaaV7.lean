import Derived.Test.YtddgichochdgcaaV6
namespace Go.Abs
open Go Go.RowKit
set_option linter.unusedVariables false
set_option linter.unusedSimpArgs false

theorem dec_le (r : List Int) : ∀ (i : Nat) (u v : Int) (n : Nat), Vt.dec r i u = some (v, n) → i < n ∧ n ≤ i + r.length := by
  induction r with
  | nil => intro i u v n h; cases h
  | cons c r ih =>
    intro i u v n h
    rw [Vt.dec] at h
    rw [List.length_cons]
    split at h
    · cases h
    · split at h
      · cases h
      · split at h
        · have := ih _ _ _ _ h; omega
        · split at h
          · cases h
          · cases h; omega
theorem told_range (l : List Int) : 0 ≤ (told (Vt.dec l 0 0)).2 ∧ (told (Vt.dec l 0 0)).2 ≤ (l.length : Int) := by
  cases h : Vt.dec l 0 0 with
  | none => simp only [told]; omega
  | some x => obtain ⟨v, n⟩ := x; have := dec_le l 0 0 v n h; simp only [told]; omega

/-- What Cut tells. -/
def cutS (l : List Int) (a : Int) : List UInt8 × Int :=
  let g := told (Vt.dec l 0 0)
  if g.2 = 0 then ([], 0) else if g.1 < 0 then ([], 0) else if g.1 > a ∨ g.1 > (l.length : Int) - g.2 then ([], 0) else (toS ((l.take (g.2 + g.1).toNat).drop g.2.toNat), g.2 + g.1)

theorem cut_spec (l : List Int) (a : Int) (H : Heap) (hb : Bytes l) (hl : l.length < 70368744177664) : W n_varint_Cut [bytes l .ro, .int .i64 a] H = some (.tuple [.str (cutS l a).1, .int .i64 (cutS l a).2], H) := by
  have hg := get_spec l H hb hl
  have hr := told_range l
  have e3 : (ints .u8 l).length = l.length := by simp
  refine W_fn rfl rfl ?_
  unfold cutS
  generalize told (Vt.dec l 0 0) = g at *
  obtain ⟨n, k⟩ := g
  simp only at hg hr ⊢
  by_cases h1 : k = 0
  · rw [if_pos h1]
    simp only [go_sem, c_varint_Cut, hg, h1, e3, not_true_eq_false, not_false_eq_true, decide_true, decide_false, reduceCtorEq, ne_eq, Bool.false_eq_true, ↓reduceIte, Nat.reduceAdd, Nat.reduceEqDiff, Nat.reduceLT, Int.reduceLE, Int.reduceEq, Int.reduceNeg, s_shl, s_shr, Bool.not_false, Bool.not_true, Bool.and_self, Bool.true_and, Bool.and_true]
  · rw [if_neg h1]
    by_cases h2 : n < 0
    · rw [if_pos h2]
      simp only [go_sem, c_varint_Cut, hg, h1, h2, e3, not_true_eq_false, not_false_eq_true, decide_true, decide_false, reduceCtorEq, ne_eq, Bool.false_eq_true, ↓reduceIte, Nat.reduceAdd, Nat.reduceEqDiff, Nat.reduceLT, Int.reduceLE, Int.reduceEq, Int.reduceNeg, s_shl, s_shr, Bool.not_false, Bool.not_true, Bool.and_self, Bool.true_and, Bool.and_true]
    · rw [if_neg h2]
      have e1 : IntKind.i64.wrap ((l.length : Int) - k) = (l.length : Int) - k := wrap_id (by unfold I64; omega)
      by_cases h3 : n > a ∨ n > (l.length : Int) - k
      · rw [if_pos h3]
        have h4 : n > mn a ((l.length : Int) - k) := by unfold mn; split <;> omega
        simp only [go_sem, c_varint_Cut, hg, h1, h2, h4, e1, e3, not_true_eq_false, not_false_eq_true, decide_true, decide_false, reduceCtorEq, ne_eq, Bool.false_eq_true, ↓reduceIte, Nat.reduceAdd, Nat.reduceEqDiff, Nat.reduceLT, Int.reduceLE, Int.reduceEq, Int.reduceNeg, s_shl, s_shr, Bool.not_false, Bool.not_true, Bool.and_self, Bool.true_and, Bool.and_true]
      · rw [if_neg h3]
        have h4 : ¬ (n > mn a ((l.length : Int) - k)) := by unfold mn; split <;> omega
        have e2 : IntKind.i64.wrap (k + n) = k + n := wrap_id (by unfold I64; omega)
        have h5 : 0 ≤ k := hr.1
        have h6 : k ≤ k + n := by omega
        have h7 : k + n ≤ (l.length : Int) := by omega
        have e4 : ((ints .u8 l).take (k + n).toNat).drop k.toNat = ints .u8 ((l.take (k + n).toNat).drop k.toNat) := by rw [← List.map_take, ← List.map_drop]
        simp only [go_sem, c_varint_Cut, hg, h1, h2, h4, e1, e2, e3, sl_mid, h5, h6, h7, e4, not_true_eq_false, not_false_eq_true, decide_true, decide_false, reduceCtorEq, ne_eq, Bool.false_eq_true, ↓reduceIte, Nat.reduceAdd, Nat.reduceEqDiff, Nat.reduceLT, Int.reduceLE, Int.reduceEq, Int.reduceNeg, s_shl, s_shr, Bool.not_false, Bool.not_true, Bool.and_self, Bool.true_and, Bool.and_true]

theorem ref_cut_spec (l : List Int) (a : Int) (H : Heap) (hb : Bytes l) (hl : l.length < 70368744177664) : W n_ref1_Cut [bytes l .ro, .int .i64 a] H = some (.tuple [.str (cutS l a).1, .int .i64 (cutS l a).2], H) := by
  have hg := ref_get_spec l H hb hl
  have hr := told_range l
  have e3 : (ints .u8 l).length = l.length := by simp
  refine W_fn rfl rfl ?_
  unfold cutS
  generalize told (Vt.dec l 0 0) = g at *
  obtain ⟨n, k⟩ := g
  simp only at hg hr ⊢
  by_cases h1 : k = 0
  · rw [if_pos h1]
    simp only [go_sem, c_ref1_Cut, hg, h1, e3, not_true_eq_false, not_false_eq_true, decide_true, decide_false, reduceCtorEq, ne_eq, Bool.false_eq_true, ↓reduceIte, Nat.reduceAdd, Nat.reduceEqDiff, Nat.reduceLT, Int.reduceLE, Int.reduceEq, Int.reduceNeg, s_shl, s_shr, Bool.not_false, Bool.not_true, Bool.and_self, Bool.true_and, Bool.and_true]
  · rw [if_neg h1]
    by_cases h2 : n < 0
    · rw [if_pos h2]
      simp only [go_sem, c_ref1_Cut, hg, h1, h2, e3, not_true_eq_false, not_false_eq_true, decide_true, decide_false, reduceCtorEq, ne_eq, Bool.false_eq_true, ↓reduceIte, Nat.reduceAdd, Nat.reduceEqDiff, Nat.reduceLT, Int.reduceLE, Int.reduceEq, Int.reduceNeg, s_shl, s_shr, Bool.not_false, Bool.not_true, Bool.and_self, Bool.true_and, Bool.and_true]
    · rw [if_neg h2]
      have e1 : IntKind.i64.wrap ((l.length : Int) - k) = (l.length : Int) - k := wrap_id (by unfold I64; omega)
      by_cases h3 : n > a
      · rw [if_pos (.inl h3)]
        simp only [go_sem, c_ref1_Cut, hg, h1, h2, h3, e1, e3, not_true_eq_false, not_false_eq_true, decide_true, decide_false, reduceCtorEq, ne_eq, Bool.false_eq_true, ↓reduceIte, Nat.reduceAdd, Nat.reduceEqDiff, Nat.reduceLT, Int.reduceLE, Int.reduceEq, Int.reduceNeg, s_shl, s_shr, Bool.not_false, Bool.not_true, Bool.and_self, Bool.true_and, Bool.and_true]
      · by_cases h4 : n > (l.length : Int) - k
        · rw [if_pos (.inr h4)]
          simp only [go_sem, c_ref1_Cut, hg, h1, h2, h3, h4, e1, e3, not_true_eq_false, not_false_eq_true, decide_true, decide_false, reduceCtorEq, ne_eq, Bool.false_eq_true, ↓reduceIte, Nat.reduceAdd, Nat.reduceEqDiff, Nat.reduceLT, Int.reduceLE, Int.reduceEq, Int.reduceNeg, s_shl, s_shr, Bool.not_false, Bool.not_true, Bool.and_self, Bool.true_and, Bool.and_true]
        · rw [if_neg (show ¬ (n > a ∨ n > (l.length : Int) - k) by omega)]
          have e2 : IntKind.i64.wrap (k + n) = k + n := wrap_id (by unfold I64; omega)
          have h5 : 0 ≤ k := hr.1
          have h6 : k ≤ k + n := by omega
          have h7 : k + n ≤ (l.length : Int) := by omega
          have e4 : ((ints .u8 l).take (k + n).toNat).drop k.toNat = ints .u8 ((l.take (k + n).toNat).drop k.toNat) := by rw [← List.map_take, ← List.map_drop]
          simp only [go_sem, c_ref1_Cut, hg, h1, h2, h3, h4, e1, e2, e3, sl_mid, h5, h6, h7, e4, not_true_eq_false, not_false_eq_true, decide_true, decide_false, reduceCtorEq, ne_eq, Bool.false_eq_true, ↓reduceIte, Nat.reduceAdd, Nat.reduceEqDiff, Nat.reduceLT, Int.reduceLE, Int.reduceEq, Int.reduceNeg, s_shl, s_shr, Bool.not_false, Bool.not_true, Bool.and_self, Bool.true_and, Bool.and_true]

theorem reads_spec (l : List Int) (a : Int) (H : Heap) (hb : Bytes l) (hl : l.length < 70368744177664) : W n_law2_reads [bytes l .ro, .int .i64 a] H = some (.bool true, H) := by
  have h1 := get_spec l H hb hl
  have h2 := ref_get_spec l H hb hl
  have h3 := cut_spec l a H hb hl
  have h4 := ref_cut_spec l a H hb hl
  have h5 := back_spec l H
  have h6 := ref_back_spec l H
  have hbq : ∃ n b, backV l = .tuple [.int .i64 n, .bool b] := by unfold backV; split <;> exact ⟨_, _, rfl⟩
  obtain ⟨n, b, hbq⟩ := hbq
  rw [hbq] at h5 h6
  refine W_fn rfl rfl ?_
  simp only [go_sem, c_law2_reads, h1, h2, h3, h4, h5, h6, beq_self_eq_true, not_true_eq_false, not_false_eq_true, decide_true, decide_false, reduceCtorEq, ne_eq, Bool.false_eq_true, ↓reduceIte, Nat.reduceAdd, Nat.reduceEqDiff, Nat.reduceLT, Int.reduceLE, Int.reduceEq, Int.reduceNeg, s_shl, s_shr, Bool.not_false, Bool.not_true, Bool.and_self, Bool.true_and, Bool.and_true]

theorem puts_spec (l : List Int) (n : Int) (s : List UInt8) (H : Heap) (hn : I64 n) (hl : l.length + s.length + 10 ≤ 70368744177664) : W n_law2_puts [bytes l .ro, .int .i64 n, .str s] H = some (.bool true, H) := by
  have h1 := put_spec l n H hn (by omega)
  have h2 := ref_put_spec l n H .ro (.inl rfl) hn (by omega)
  have h3 := text_spec l s H (by omega)
  have h4 := ref_text_spec l s H (by omega)
  have h5 := long_spec l n H hn (by omega)
  have h6 := ref_long_spec l n H hn (by omega)
  refine W_fn rfl rfl ?_
  simp only [go_sem, c_law2_puts, h1, h2, h3, h4, h5, h6, beq_self_eq_true, not_true_eq_false, not_false_eq_true, decide_true, decide_false, reduceCtorEq, ne_eq, Bool.false_eq_true, ↓reduceIte, Nat.reduceAdd, Nat.reduceEqDiff, Nat.reduceLT, Int.reduceLE, Int.reduceEq, Int.reduceNeg, s_shl, s_shr, Bool.not_false, Bool.not_true, Bool.and_self, Bool.true_and, Bool.and_true]
end Go.Abs
