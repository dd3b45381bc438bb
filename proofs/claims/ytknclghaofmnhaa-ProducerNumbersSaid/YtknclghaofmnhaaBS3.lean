import Derived.Test.YtknclghaofmnhaaBS2
import Derived.Test.YtknclghaofmnhaaBC
namespace Go.Abs
open Go Go.RowKit
set_option linter.unusedVariables false
set_option linter.unusedSimpArgs false

/-! ## Row -/
theorem putOK_right {cap start L b} (h : putOK cap start L b = true) : rightE b = 0 := by
  unfold putOK at h
  rw [Bool.and_eq_true, decide_eq_true_eq] at h
  have h1 := h.1
  unfold tabCheck at h1
  by_cases c : rightE b = 0
  · exact c
  · rw [if_pos c] at h1; exact absurd h1 c
theorem putOK_end {cap start L b} (h : putOK cap start L b = true) : endE start L + countE b ≤ 1099511627776 := by
  unfold putOK at h
  simp only [Bool.and_eq_true, decide_eq_true_eq] at h
  exact h.2.2.2
theorem Fit.all {L : List Ba} {b : Ba} (h : ∀ b ∈ L, Fit b) (hb : Fit b) : ∀ x ∈ L ++ [b], Fit x := by
  intro x hx
  rw [List.mem_append, List.mem_singleton] at hx
  rcases hx with hx | rfl
  · exact h x hx
  · exact hb
theorem prodL_fit {cap start L b} (hL : ∀ b ∈ L, Fit b) (h0 : 0 ≤ start) (h1 : start ≤ 1099511627776) (hb : BOK b) : ∀ x ∈ prodL cap start L b, Fit x := by
  unfold prodL
  split
  · rename_i h
    refine Fit.all hL ⟨?_, ?_⟩
    · have re := endE_range start L hL h0 h1
      exact ⟨by unfold I64 atEnd; simp only; omega, hb.prod, hb.epoch, hb.seq, hb.mark⟩
    · unfold prodOK at h
      rw [Bool.and_eq_true, decide_eq_true_eq] at h
      exact h.1
  · exact hL
theorem markL_fit {cap start L p e m} (hL : ∀ b ∈ L, Fit b) (h0 : 0 ≤ start) (h1 : start ≤ 1099511627776) (hp : I64 p) (he : I64 e) (hm : I64 m) : ∀ x ∈ markL cap start L p e m, Fit x := by
  unfold markL
  split
  · rename_i h
    have re := endE_range start L hL h0 h1
    refine Fit.all hL ⟨⟨by unfold I64 markB; simp only; omega, hp, he, show I64 (-1) from i64_c (by decide) (by decide), hm⟩, ?_⟩
    unfold markOK at h
    rw [Bool.and_eq_true] at h
    exact putOK_right h.2
  · exact hL
theorem prodF_ok {cap start L b fl} (h : fl = .own ∨ (fl = .full ∧ L = [])) : prodF cap start L b fl = .own ∨ (prodF cap start L b fl = .full ∧ prodL cap start L b = []) := by
  unfold prodF prodL
  split
  · exact .inl rfl
  · exact h
theorem markF_ok {cap start L p e m fl} (h : fl = .own ∨ (fl = .full ∧ L = [])) : markF cap start L p e m fl = .own ∨ (markF cap start L p e m fl = .full ∧ markL cap start L p e m = []) := by
  unfold markF markL
  split
  · exact .inl rfl
  · exact h
theorem prodL_len {cap start L b} : (prodL cap start L b).length ≤ L.length + 1 := by unfold prodL; split <;> simp
theorem markL_len {cap start L p e m} : (markL cap start L p e m).length ≤ L.length + 1 := by unfold markL; split <;> simp

structure RS where
  L : List Ba
  at_ : Nat
  fl : Fl
def rowStep (l : List Int) (cap start : Int) (s : RS) : RS :=
  let b := (askB l s.L s.at_).1
  if b.mark = 0 then ⟨prodL cap start s.L b, (askB l s.L s.at_).2, prodF cap start s.L b s.fl⟩
  else ⟨markL cap start s.L b.prod b.epoch b.mark, (askB l s.L s.at_).2, markF cap start s.L b.prod b.epoch b.mark s.fl⟩
def rowGo (l : List Int) (cap start : Int) (most : Nat) : Nat → RS → RS
  | 0, s => s
  | k + 1, s => if s.L.length < most ∧ s.at_ < l.length then rowGo l cap start most k (rowStep l cap start s) else s
structure RI (l : List Int) (most : Nat) (s : RS) : Prop where
  fit : ∀ b ∈ s.L, Fit b
  len : s.L.length ≤ most
  at_ : s.at_ ≤ l.length
  fl : s.fl = .own ∨ (s.fl = .full ∧ s.L = [])
theorem askB_ok {l L a} (hl : l.length ≤ 70368744177664) (ha : a ≤ l.length) (hL : ∀ b ∈ L, Fit b) : AskOK l (askB l L a) := by
  have hb := tapeBatch_right l 0 (by omega) (by omega) a
  have ha1 := tapeBatch_at l 0 a ha
  have hr1 := tapeBatch_recs l 0 a
  have hPr := foldL_ok L [] (fun b hb => (hL b hb).ok) (by simp)
  have hTK := foldL_TK L [] 0 ⟨by simp, by simp⟩
  unfold askB
  simp only
  split
  · exact ⟨hb.ok, ha1, hr1⟩
  · split
    · exact ⟨hb.ok, nextA_le ha1, hr1⟩
    · exact askFold_ok hl _ _ ⟨hb.ok, nextA_le ha1, hr1⟩ (fun p hp => ⟨hPr p hp, hTK.last p hp⟩)
theorem RI.step {l most s cap start} (hl : l.length ≤ 70368744177664) (h0 : 0 ≤ start) (h1 : start ≤ 1099511627776) (h : RI l most s) (hm : s.L.length < most) : RI l most (rowStep l cap start s) := by
  have ha := askB_ok hl h.at_ h.fit
  unfold rowStep
  simp only
  split
  · exact ⟨prodL_fit h.fit h0 h1 ha.bok, Nat.le_trans prodL_len hm, ha.at_, prodF_ok h.fl⟩
  · exact ⟨markL_fit h.fit h0 h1 ha.bok.prod ha.bok.epoch ha.bok.mark, Nat.le_trans markL_len hm, ha.at_, markF_ok h.fl⟩
theorem RI.go {l most cap start} (hl : l.length ≤ 70368744177664) (h0 : 0 ≤ start) (h1 : start ≤ 1099511627776) : ∀ (k : Nat) (s : RS), RI l most s → RI l most (rowGo l cap start most k s)
  | 0, _, h => h
  | k + 1, s, h => by
    unfold rowGo
    split
    · rename_i hc
      exact RI.go hl h0 h1 k _ (h.step hl h0 h1 hc.1)
    · exact h

theorem hxg0 (H : Heap) (A B : Box) (N : Heap) : Old (hx H (A :: B :: N)) (pt H 0) A := ⟨by rw [hx_get]; rfl⟩
theorem hxg1 (H : Heap) (A B : Box) (N : Heap) : Old (hx H (A :: B :: N)) (pt H 1) B := ⟨by rw [hx_get]; rfl⟩
theorem pt_ne {H : Heap} {i j : Nat} (h : i ≠ j) : pt H i ≠ pt H j := by unfold pt; omega

end Go.Abs

namespace Go.Abs.Pq
open Go Go.RowKit
set_option linter.unusedVariables false
set_option linter.unusedSimpArgs false

/-! ## Seqs -/
def rightQ (n : Int) : Bool := decide (0 ≤ n ∧ n ≤ 2147483647)
def addQ (n k : Int) : Int := if rightQ n = true then (n + k) % 2147483648 else -1
def lastQ (f c : Int) : Int := if 1 ≤ c ∧ c ≤ 16 then addQ f (c - 1) else -1
def followsQ (l f : Int) : Bool := if l = -1 then decide (f = 0) else rightQ l && decide (f = addQ l 1)
def gapQ (a b : Int) : Int := if rightQ a = true ∧ rightQ b = true then (b - a) % 2147483648 else -1

theorem right_spec (n : Int) (H : Heap) : W n_seq_Right [.int .i64 n] H = some (.bool (rightQ n), H) := by
  refine W_fn rfl rfl ?_
  unfold rightQ
  by_cases h1 : n ≥ 0 <;> by_cases h2 : n ≤ 2147483647 <;> simp only [go_sem, c_seq_Right, h1, h2, not_true_eq_false, not_false_eq_true, decide_true, decide_false, reduceCtorEq, ne_eq, Bool.false_eq_true, ↓reduceIte, Nat.reduceAdd, Nat.reduceEqDiff, Nat.reduceLT, Int.reduceLE, s_shl, s_shr, Bool.not_false, Bool.not_true, Bool.and_self, Bool.true_and, Bool.and_true, Bool.and_false, Bool.false_and, Bool.not_true, Bool.true_or, Bool.or_true, Nat.reduceSub, Nat.reduceLeDiff, Nat.reduceMul, Int.reduceToNat, Int.reduceLT, Int.reduceEq, Int.reduceNeg, and_self, and_true, true_and, and_false, false_and, or_true, true_or, or_false, false_or, Int.cast_ofNat_Int, Nat.reduceBEq, Nat.reduceBNe, beq_self_eq_true, List.take_zero, List.take_succ_cons, List.take_nil]

theorem add_spec (n k : Int) (H : Heap) (h0 : 0 ≤ k) (h1 : k ≤ 1000000) : W n_seq_Add [.int .i64 n, .int .i64 k] H = some (.int .i64 (addQ n k), H) := by
  have hs := right_spec n
  refine W_fn rfl rfl ?_
  cases h : rightQ n with
  | false => rw [h] at hs; simp only [go_sem, c_seq_Add, hs, not_true_eq_false, not_false_eq_true, decide_true, decide_false, reduceCtorEq, ne_eq, Bool.false_eq_true, ↓reduceIte, Nat.reduceAdd, Nat.reduceEqDiff, Nat.reduceLT, Int.reduceLE, s_shl, s_shr, Bool.not_false, Bool.not_true, Bool.and_self, Bool.true_and, Bool.and_true, Bool.and_false, Bool.false_and, Bool.not_true, Bool.true_or, Bool.or_true, Nat.reduceSub, Nat.reduceLeDiff, Nat.reduceMul, Int.reduceToNat, Int.reduceLT, Int.reduceEq, Int.reduceNeg, and_self, and_true, true_and, and_false, false_and, or_true, true_or, or_false, false_or, Int.cast_ofNat_Int, Nat.reduceBEq, Nat.reduceBNe, beq_self_eq_true, List.take_zero, List.take_succ_cons, List.take_nil]; simp [addQ, h]
  | true =>
    rw [h] at hs
    have hr : 0 ≤ n ∧ n ≤ 2147483647 := by simpa [rightQ] using h
    have e1 : IntKind.i64.wrap (n + k.tmod 2147483648) = n + k := by
      rw [Int.tmod_eq_emod_of_nonneg h0, wrap_id (by unfold I64; omega)]; omega
    have e2 : IntKind.i64.wrap ((n + k).tmod 2147483648 + 2147483648) = (n + k) % 2147483648 + 2147483648 := by
      rw [Int.tmod_eq_emod_of_nonneg (by omega), wrap_id (by unfold I64; omega)]
    have e3 : ((n + k) % 2147483648 + 2147483648).tmod 2147483648 = (n + k) % 2147483648 := by
      rw [Int.tmod_eq_emod_of_nonneg (by omega)]; omega
    simp only [go_sem, c_seq_Add, hs, e1, e2, e3, addQ, h, not_true_eq_false, not_false_eq_true, decide_true, decide_false, reduceCtorEq, ne_eq, Bool.false_eq_true, ↓reduceIte, Nat.reduceAdd, Nat.reduceEqDiff, Nat.reduceLT, Int.reduceLE, s_shl, s_shr, Bool.not_false, Bool.not_true, Bool.and_self, Bool.true_and, Bool.and_true, Bool.and_false, Bool.false_and, Bool.not_true, Bool.true_or, Bool.or_true, Nat.reduceSub, Nat.reduceLeDiff, Nat.reduceMul, Int.reduceToNat, Int.reduceLT, Int.reduceEq, Int.reduceNeg, and_self, and_true, true_and, and_false, false_and, or_true, true_or, or_false, false_or, Int.cast_ofNat_Int, Nat.reduceBEq, Nat.reduceBNe, beq_self_eq_true, List.take_zero, List.take_succ_cons, List.take_nil]
theorem last_spec (f c : Int) (H : Heap) (hc : I64 c) : W n_seq_Last [.int .i64 f, .int .i64 c] H = some (.int .i64 (lastQ f c), H) := by
  refine W_fn rfl rfl ?_
  by_cases h1 : c < 1
  · simp only [go_sem, c_seq_Last, h1, lastQ, show ¬ (1 ≤ c ∧ c ≤ 16) by omega, not_true_eq_false, not_false_eq_true, decide_true, decide_false, reduceCtorEq, ne_eq, Bool.false_eq_true, ↓reduceIte, Nat.reduceAdd, Nat.reduceEqDiff, Nat.reduceLT, Int.reduceLE, s_shl, s_shr, Bool.not_false, Bool.not_true, Bool.and_self, Bool.true_and, Bool.and_true, Bool.and_false, Bool.false_and, Bool.not_true, Bool.true_or, Bool.or_true, Nat.reduceSub, Nat.reduceLeDiff, Nat.reduceMul, Int.reduceToNat, Int.reduceLT, Int.reduceEq, Int.reduceNeg, and_self, and_true, true_and, and_false, false_and, or_true, true_or, or_false, false_or, Int.cast_ofNat_Int, Nat.reduceBEq, Nat.reduceBNe, beq_self_eq_true, List.take_zero, List.take_succ_cons, List.take_nil]
  · by_cases h2 : c > 16
    · simp only [go_sem, c_seq_Last, h1, h2, lastQ, show ¬ (1 ≤ c ∧ c ≤ 16) by omega, not_true_eq_false, not_false_eq_true, decide_true, decide_false, reduceCtorEq, ne_eq, Bool.false_eq_true, ↓reduceIte, Nat.reduceAdd, Nat.reduceEqDiff, Nat.reduceLT, Int.reduceLE, s_shl, s_shr, Bool.not_false, Bool.not_true, Bool.and_self, Bool.true_and, Bool.and_true, Bool.and_false, Bool.false_and, Bool.not_true, Bool.true_or, Bool.or_true, Nat.reduceSub, Nat.reduceLeDiff, Nat.reduceMul, Int.reduceToNat, Int.reduceLT, Int.reduceEq, Int.reduceNeg, and_self, and_true, true_and, and_false, false_and, or_true, true_or, or_false, false_or, Int.cast_ofNat_Int, Nat.reduceBEq, Nat.reduceBNe, beq_self_eq_true, List.take_zero, List.take_succ_cons, List.take_nil]
    · have ha := fun H => add_spec f (c - 1) H (by omega) (by omega)
      have e1 : IntKind.i64.wrap (c - 1) = c - 1 := wrap_id (by unfold I64 at *; omega)
      simp only [go_sem, c_seq_Last, h1, h2, lastQ, show (1 ≤ c ∧ c ≤ 16) by omega, e1, ha, not_true_eq_false, not_false_eq_true, decide_true, decide_false, reduceCtorEq, ne_eq, Bool.false_eq_true, ↓reduceIte, Nat.reduceAdd, Nat.reduceEqDiff, Nat.reduceLT, Int.reduceLE, s_shl, s_shr, Bool.not_false, Bool.not_true, Bool.and_self, Bool.true_and, Bool.and_true, Bool.and_false, Bool.false_and, Bool.not_true, Bool.true_or, Bool.or_true, Nat.reduceSub, Nat.reduceLeDiff, Nat.reduceMul, Int.reduceToNat, Int.reduceLT, Int.reduceEq, Int.reduceNeg, and_self, and_true, true_and, and_false, false_and, or_true, true_or, or_false, false_or, Int.cast_ofNat_Int, Nat.reduceBEq, Nat.reduceBNe, beq_self_eq_true, List.take_zero, List.take_succ_cons, List.take_nil]
theorem follows_spec (l f : Int) (H : Heap) : W n_seq_Follows [.int .i64 l, .int .i64 f] H = some (.bool (followsQ l f), H) := by
  have hs := right_spec l
  have ha := fun H => add_spec l 1 H (by decide) (by decide)
  refine W_fn rfl rfl ?_
  by_cases h1 : l = -1
  · simp only [go_sem, c_seq_Follows, h1, followsQ, not_true_eq_false, not_false_eq_true, decide_true, decide_false, reduceCtorEq, ne_eq, Bool.false_eq_true, ↓reduceIte, Nat.reduceAdd, Nat.reduceEqDiff, Nat.reduceLT, Int.reduceLE, s_shl, s_shr, Bool.not_false, Bool.not_true, Bool.and_self, Bool.true_and, Bool.and_true, Bool.and_false, Bool.false_and, Bool.not_true, Bool.true_or, Bool.or_true, Nat.reduceSub, Nat.reduceLeDiff, Nat.reduceMul, Int.reduceToNat, Int.reduceLT, Int.reduceEq, Int.reduceNeg, and_self, and_true, true_and, and_false, false_and, or_true, true_or, or_false, false_or, Int.cast_ofNat_Int, Nat.reduceBEq, Nat.reduceBNe, beq_self_eq_true, List.take_zero, List.take_succ_cons, List.take_nil]
  · cases h : rightQ l with
    | false => rw [h] at hs; simp only [go_sem, c_seq_Follows, h1, hs, followsQ, h, not_true_eq_false, not_false_eq_true, decide_true, decide_false, reduceCtorEq, ne_eq, Bool.false_eq_true, ↓reduceIte, Nat.reduceAdd, Nat.reduceEqDiff, Nat.reduceLT, Int.reduceLE, s_shl, s_shr, Bool.not_false, Bool.not_true, Bool.and_self, Bool.true_and, Bool.and_true, Bool.and_false, Bool.false_and, Bool.not_true, Bool.true_or, Bool.or_true, Nat.reduceSub, Nat.reduceLeDiff, Nat.reduceMul, Int.reduceToNat, Int.reduceLT, Int.reduceEq, Int.reduceNeg, and_self, and_true, true_and, and_false, false_and, or_true, true_or, or_false, false_or, Int.cast_ofNat_Int, Nat.reduceBEq, Nat.reduceBNe, beq_self_eq_true, List.take_zero, List.take_succ_cons, List.take_nil]
    | true => rw [h] at hs; simp only [go_sem, c_seq_Follows, h1, hs, ha, followsQ, h, not_true_eq_false, not_false_eq_true, decide_true, decide_false, reduceCtorEq, ne_eq, Bool.false_eq_true, ↓reduceIte, Nat.reduceAdd, Nat.reduceEqDiff, Nat.reduceLT, Int.reduceLE, s_shl, s_shr, Bool.not_false, Bool.not_true, Bool.and_self, Bool.true_and, Bool.and_true, Bool.and_false, Bool.false_and, Bool.not_true, Bool.true_or, Bool.or_true, Nat.reduceSub, Nat.reduceLeDiff, Nat.reduceMul, Int.reduceToNat, Int.reduceLT, Int.reduceEq, Int.reduceNeg, and_self, and_true, true_and, and_false, false_and, or_true, true_or, or_false, false_or, Int.cast_ofNat_Int, Nat.reduceBEq, Nat.reduceBNe, beq_self_eq_true, List.take_zero, List.take_succ_cons, List.take_nil]
theorem gap_spec (a b : Int) (H : Heap) : W n_seq_Gap [.int .i64 a, .int .i64 b] H = some (.int .i64 (gapQ a b), H) := by
  have ha := right_spec a
  have hb := right_spec b
  refine W_fn rfl rfl ?_
  cases h : rightQ a with
  | false => rw [h] at ha; simp only [go_sem, c_seq_Gap, ha, gapQ, h, not_true_eq_false, not_false_eq_true, decide_true, decide_false, reduceCtorEq, ne_eq, Bool.false_eq_true, ↓reduceIte, Nat.reduceAdd, Nat.reduceEqDiff, Nat.reduceLT, Int.reduceLE, s_shl, s_shr, Bool.not_false, Bool.not_true, Bool.and_self, Bool.true_and, Bool.and_true, Bool.and_false, Bool.false_and, Bool.not_true, Bool.true_or, Bool.or_true, Nat.reduceSub, Nat.reduceLeDiff, Nat.reduceMul, Int.reduceToNat, Int.reduceLT, Int.reduceEq, Int.reduceNeg, and_self, and_true, true_and, and_false, false_and, or_true, true_or, or_false, false_or, Int.cast_ofNat_Int, Nat.reduceBEq, Nat.reduceBNe, beq_self_eq_true, List.take_zero, List.take_succ_cons, List.take_nil]
  | true =>
    rw [h] at ha
    cases h' : rightQ b with
    | false => rw [h'] at hb; simp only [go_sem, c_seq_Gap, ha, hb, gapQ, h, h', not_true_eq_false, not_false_eq_true, decide_true, decide_false, reduceCtorEq, ne_eq, Bool.false_eq_true, ↓reduceIte, Nat.reduceAdd, Nat.reduceEqDiff, Nat.reduceLT, Int.reduceLE, s_shl, s_shr, Bool.not_false, Bool.not_true, Bool.and_self, Bool.true_and, Bool.and_true, Bool.and_false, Bool.false_and, Bool.not_true, Bool.true_or, Bool.or_true, Nat.reduceSub, Nat.reduceLeDiff, Nat.reduceMul, Int.reduceToNat, Int.reduceLT, Int.reduceEq, Int.reduceNeg, and_self, and_true, true_and, and_false, false_and, or_true, true_or, or_false, false_or, Int.cast_ofNat_Int, Nat.reduceBEq, Nat.reduceBNe, beq_self_eq_true, List.take_zero, List.take_succ_cons, List.take_nil]
    | true =>
      rw [h'] at hb
      have hr : 0 ≤ a ∧ a ≤ 2147483647 := by simpa [rightQ] using h
      have hr' : 0 ≤ b ∧ b ≤ 2147483647 := by simpa [rightQ] using h'
      have e1 : IntKind.i64.wrap (b - a) = b - a := wrap_id (by unfold I64; omega)
      have e2 : IntKind.i64.wrap (b - a + 2147483648) = b - a + 2147483648 := wrap_id (by unfold I64; omega)
      have e3 : (b - a + 2147483648).tmod 2147483648 = (b - a) % 2147483648 := by
        rw [Int.tmod_eq_emod_of_nonneg (by omega)]; omega
      simp only [go_sem, c_seq_Gap, ha, hb, gapQ, h, h', e1, e2, e3, not_true_eq_false, not_false_eq_true, decide_true, decide_false, reduceCtorEq, ne_eq, Bool.false_eq_true, ↓reduceIte, Nat.reduceAdd, Nat.reduceEqDiff, Nat.reduceLT, Int.reduceLE, s_shl, s_shr, Bool.not_false, Bool.not_true, Bool.and_self, Bool.true_and, Bool.and_true, Bool.and_false, Bool.false_and, Bool.not_true, Bool.true_or, Bool.or_true, Nat.reduceSub, Nat.reduceLeDiff, Nat.reduceMul, Int.reduceToNat, Int.reduceLT, Int.reduceEq, Int.reduceNeg, and_self, and_true, true_and, and_false, false_and, or_true, true_or, or_false, false_or, Int.cast_ofNat_Int, Nat.reduceBEq, Nat.reduceBNe, beq_self_eq_true, List.take_zero, List.take_succ_cons, List.take_nil]
end Go.Abs.Pq

namespace Go.Abs.Pq
open Go Go.RowKit
set_option linter.unusedVariables false
set_option linter.unusedSimpArgs false

/-! ## Producers, batches -/
structure Pr where
  id : Int
  ep : Int
  last : List (Int × Int × Int)
  op : Int
structure Ba where
  base : Int
  prod : Int
  ep : Int
  seq : Int
  txn : Bool
  mark : Int
  recs : List AVal
abbrev t3 (t : Int × Int × Int) : AVal := .agg [.int .i64 t.1, .int .i64 t.2.1, .int .i64 t.2.2]
abbrev lastV (l : List (Int × Int × Int)) (fl : Fl) : AVal := .list 3 (l.map t3) fl
abbrev Pr.v (p : Pr) : AVal := .agg [.int .i64 p.id, .int .i64 p.ep, lastV p.last .ro, .int .i64 p.op]
abbrev Ba.v (b : Ba) : AVal := .agg [.int .i64 b.base, .int .i64 b.prod, .int .i64 b.ep, .int .i64 b.seq, .bool b.txn, .int .i64 b.mark, .list 2 b.recs .ro]

def dupQ (p : Pr) (b : Ba) : List (Int × Int × Int) → Int × Bool
  | [] => (-1, false)
  | l :: ls => if b.mark = 0 ∧ b.ep = p.ep ∧ l.1 = b.seq ∧ l.2.1 = lastQ b.seq b.recs.length then (l.2.2, true) else dupQ p b ls
def checkQ (p : Pr) (known : Bool) (b : Ba) : Int × Int :=
  if b.mark ≠ 0 then (-1, if known = false then 16 else if b.ep < p.ep then 14 else if p.op < 0 then 16 else 0)
  else if known = false then (-1, 0)
  else if b.ep < p.ep then (-1, 14)
  else if b.ep > p.ep then (-1, if p.op ≥ 0 then 16 else if b.seq ≠ 0 then 15 else 0)
  else if (dupQ p b p.last).2 = true then ((dupQ p b p.last).1, 0)
  else if p.last ≠ [] ∧ followsQ (p.last.getLastD (0, 0, 0)).2.1 b.seq = false then (-1, 15)
  else if p.op ≥ 0 ∧ b.txn = false then (-1, 16)
  else (-1, 0)
def applyQ (p : Pr) (known : Bool) (b : Ba) : Pr :=
  let op := if known then p.op else -1
  let l := if known = true ∧ b.ep = p.ep then p.last else []
  if b.mark ≠ 0 then ⟨b.prod, b.ep, l, -1⟩
  else
    let l2 := l ++ [(b.seq, lastQ b.seq b.recs.length, b.base)]
    ⟨b.prod, b.ep, l2.drop (l2.length - 5), if b.txn = true ∧ op < 0 then b.base else op⟩

theorem marker_spec (p : Pr) (k : Bool) (b : Ba) (H : Heap) : W n_producer_marker [p.v, .bool k, b.v] H = some (.int .i64 (if k = false then 16 else if b.ep < p.ep then 14 else if p.op < 0 then 16 else 0), H) := by
  refine W_fn rfl rfl ?_
  cases k
  · simp only [go_sem, c_producer_marker, not_true_eq_false, not_false_eq_true, decide_true, decide_false, reduceCtorEq, ne_eq, Bool.false_eq_true, ↓reduceIte, Nat.reduceAdd, Nat.reduceEqDiff, Nat.reduceLT, Int.reduceLE, s_shl, s_shr, Bool.not_false, Bool.not_true, Bool.and_self, Bool.true_and, Bool.and_true, Bool.and_false, Bool.false_and, Bool.not_true, Bool.true_or, Bool.or_true, Nat.reduceSub, Nat.reduceLeDiff, Nat.reduceMul, Int.reduceToNat, Int.reduceLT, Int.reduceEq, Int.reduceNeg, and_self, and_true, true_and, and_false, false_and, or_true, true_or, or_false, false_or, Int.cast_ofNat_Int, Nat.reduceBEq, Nat.reduceBNe, beq_self_eq_true, List.take_zero, List.take_succ_cons, List.take_nil]
  · by_cases h1 : b.ep < p.ep
    · simp only [go_sem, c_producer_marker, h1, not_true_eq_false, not_false_eq_true, decide_true, decide_false, reduceCtorEq, ne_eq, Bool.false_eq_true, ↓reduceIte, Nat.reduceAdd, Nat.reduceEqDiff, Nat.reduceLT, Int.reduceLE, s_shl, s_shr, Bool.not_false, Bool.not_true, Bool.and_self, Bool.true_and, Bool.and_true, Bool.and_false, Bool.false_and, Bool.not_true, Bool.true_or, Bool.or_true, Nat.reduceSub, Nat.reduceLeDiff, Nat.reduceMul, Int.reduceToNat, Int.reduceLT, Int.reduceEq, Int.reduceNeg, and_self, and_true, true_and, and_false, false_and, or_true, true_or, or_false, false_or, Int.cast_ofNat_Int, Nat.reduceBEq, Nat.reduceBNe, beq_self_eq_true, List.take_zero, List.take_succ_cons, List.take_nil]
    · by_cases h2 : p.op < 0
      · simp only [go_sem, c_producer_marker, h1, h2, not_true_eq_false, not_false_eq_true, decide_true, decide_false, reduceCtorEq, ne_eq, Bool.false_eq_true, ↓reduceIte, Nat.reduceAdd, Nat.reduceEqDiff, Nat.reduceLT, Int.reduceLE, s_shl, s_shr, Bool.not_false, Bool.not_true, Bool.and_self, Bool.true_and, Bool.and_true, Bool.and_false, Bool.false_and, Bool.not_true, Bool.true_or, Bool.or_true, Nat.reduceSub, Nat.reduceLeDiff, Nat.reduceMul, Int.reduceToNat, Int.reduceLT, Int.reduceEq, Int.reduceNeg, and_self, and_true, true_and, and_false, false_and, or_true, true_or, or_false, false_or, Int.cast_ofNat_Int, Nat.reduceBEq, Nat.reduceBNe, beq_self_eq_true, List.take_zero, List.take_succ_cons, List.take_nil]
      · simp only [go_sem, c_producer_marker, h1, h2, not_true_eq_false, not_false_eq_true, decide_true, decide_false, reduceCtorEq, ne_eq, Bool.false_eq_true, ↓reduceIte, Nat.reduceAdd, Nat.reduceEqDiff, Nat.reduceLT, Int.reduceLE, s_shl, s_shr, Bool.not_false, Bool.not_true, Bool.and_self, Bool.true_and, Bool.and_true, Bool.and_false, Bool.false_and, Bool.not_true, Bool.true_or, Bool.or_true, Nat.reduceSub, Nat.reduceLeDiff, Nat.reduceMul, Int.reduceToNat, Int.reduceLT, Int.reduceEq, Int.reduceNeg, and_self, and_true, true_and, and_false, false_and, or_true, true_or, or_false, false_or, Int.cast_ofNat_Int, Nat.reduceBEq, Nat.reduceBNe, beq_self_eq_true, List.take_zero, List.take_succ_cons, List.take_nil]
theorem later_spec (p : Pr) (b : Ba) (H : Heap) : W n_producer_later [p.v, b.v] H = some (.int .i64 (if p.op ≥ 0 then 16 else if b.seq ≠ 0 then 15 else 0), H) := by
  refine W_fn rfl rfl ?_
  by_cases h1 : p.op ≥ 0
  · simp only [go_sem, c_producer_later, h1, not_true_eq_false, not_false_eq_true, decide_true, decide_false, reduceCtorEq, ne_eq, Bool.false_eq_true, ↓reduceIte, Nat.reduceAdd, Nat.reduceEqDiff, Nat.reduceLT, Int.reduceLE, s_shl, s_shr, Bool.not_false, Bool.not_true, Bool.and_self, Bool.true_and, Bool.and_true, Bool.and_false, Bool.false_and, Bool.not_true, Bool.true_or, Bool.or_true, Nat.reduceSub, Nat.reduceLeDiff, Nat.reduceMul, Int.reduceToNat, Int.reduceLT, Int.reduceEq, Int.reduceNeg, and_self, and_true, true_and, and_false, false_and, or_true, true_or, or_false, false_or, Int.cast_ofNat_Int, Nat.reduceBEq, Nat.reduceBNe, beq_self_eq_true, List.take_zero, List.take_succ_cons, List.take_nil]
  · by_cases h2 : b.seq = 0
    · simp only [go_sem, c_producer_later, h1, h2, not_true_eq_false, not_false_eq_true, decide_true, decide_false, reduceCtorEq, ne_eq, Bool.false_eq_true, ↓reduceIte, Nat.reduceAdd, Nat.reduceEqDiff, Nat.reduceLT, Int.reduceLE, s_shl, s_shr, Bool.not_false, Bool.not_true, Bool.and_self, Bool.true_and, Bool.and_true, Bool.and_false, Bool.false_and, Bool.not_true, Bool.true_or, Bool.or_true, Nat.reduceSub, Nat.reduceLeDiff, Nat.reduceMul, Int.reduceToNat, Int.reduceLT, Int.reduceEq, Int.reduceNeg, and_self, and_true, true_and, and_false, false_and, or_true, true_or, or_false, false_or, Int.cast_ofNat_Int, Nat.reduceBEq, Nat.reduceBNe, beq_self_eq_true, List.take_zero, List.take_succ_cons, List.take_nil]
    · simp only [go_sem, c_producer_later, h1, h2, not_true_eq_false, not_false_eq_true, decide_true, decide_false, reduceCtorEq, ne_eq, Bool.false_eq_true, ↓reduceIte, Nat.reduceAdd, Nat.reduceEqDiff, Nat.reduceLT, Int.reduceLE, s_shl, s_shr, Bool.not_false, Bool.not_true, Bool.and_self, Bool.true_and, Bool.and_true, Bool.and_false, Bool.false_and, Bool.not_true, Bool.true_or, Bool.or_true, Nat.reduceSub, Nat.reduceLeDiff, Nat.reduceMul, Int.reduceToNat, Int.reduceLT, Int.reduceEq, Int.reduceNeg, and_self, and_true, true_and, and_false, false_and, or_true, true_or, or_false, false_or, Int.cast_ofNat_Int, Nat.reduceBEq, Nat.reduceBNe, beq_self_eq_true, List.take_zero, List.take_succ_cons, List.take_nil]
end Go.Abs.Pq

namespace Go.Abs.Pq
open Go Go.RowKit
set_option linter.unusedVariables false
set_option linter.unusedSimpArgs false

theorem dup_loop (p : Pr) (b : Ba) (q : List (Int × Int × Int)) (i j : Nat) (hl : p.last.length < 1000000000) : ∀ (r s : List (Int × Int × Int)) (H : Heap), p.last = s ++ r → H[i]? = some (.cells [.int .i64 p.id, .int .i64 p.ep, lastV p.last .ro, .int .i64 p.op]) →
    H[j]? = some (.cells [.int .i64 b.base, .int .i64 b.prod, .int .i64 b.ep, .int .i64 b.seq, .bool b.txn, .int .i64 b.mark, .list 2 b.recs .ro]) → 
    ∃ N, loopA W loopW (.ghost (.kill k_producer_Dup_0) l_producer_Dup_0) [(2, .ptr i 0), (3, .ptr j 0), (6, .int .i64 (lastQ b.seq b.recs.length)), (16, lastV p.last .ro), (17, .int .i64 p.last.length), (18, .int .i64 (s.length : Int))] H =
      if (dupQ p b r).2 = true then some (.ret, [(4, .int .i64 (dupQ p b r).1), (5, .bool true)], hx H N) else some (.exit 0, [], hx H N) := by
  intro r
  induction r with
  | nil =>
    intro s H hp hi hj
    refine ⟨[], ?_⟩
    rw [List.append_nil] at hp
    have h1 : ¬ ((s.length : Int) < (p.last.length : Int)) := by rw [hp]; omega
    have e0 : (dupQ p b []).2 = false := rfl
    rw [e0, if_neg (by decide), hx_nil]
    refine loop_step l_producer_Dup_0.eq_1 k_producer_Dup_0.eq_1 (by kernel_rfl) ?_
    simp only [go_sem, h1, not_true_eq_false, not_false_eq_true, decide_true, decide_false, reduceCtorEq, ne_eq, Bool.false_eq_true, ↓reduceIte, Nat.reduceAdd, Nat.reduceEqDiff, Nat.reduceLT, Int.reduceLE, s_shl, s_shr, Bool.not_false, Bool.not_true, Bool.and_self, Bool.true_and, Bool.and_true, Bool.and_false, Bool.false_and, Bool.not_true, Bool.true_or, Bool.or_true, Nat.reduceSub, Nat.reduceLeDiff, Nat.reduceMul, Int.reduceToNat, Int.reduceLT, Int.reduceEq, Int.reduceNeg, and_self, and_true, true_and, and_false, false_and, or_true, true_or, or_false, false_or, Int.cast_ofNat_Int, Nat.reduceBEq, Nat.reduceBNe, beq_self_eq_true, List.take_zero, List.take_succ_cons, List.take_nil]
  | cons l r ih =>
    intro s H hp hi hj
    have hlen : p.last.length = s.length + (r.length + 1) := by rw [hp, List.length_append, List.length_cons]
    have h1 : (s.length : Int) < (p.last.length : Int) := by omega
    have h2 : (0 : Int) ≤ (s.length : Int) := by omega
    have h3 : (p.last.map t3)[((s.length : Nat) : Int).toNat]? = some (t3 l) := by rw [hp]; simp
    have e1 : IntKind.i64.wrap ((s.length : Int) + 1) = ((s ++ [l]).length : Int) := by rw [wrap_id (by unfold I64; omega)]; simp
    have gi := hx_old hi
    have gj := hx_old hj
    by_cases hc : b.mark = 0 ∧ b.ep = p.ep ∧ l.1 = b.seq ∧ l.2.1 = lastQ b.seq b.recs.length
    · have e : dupQ p b (l :: r) = (l.2.2, true) := by rw [dupQ, if_pos hc]
      refine ⟨[.cells [.int .i64 l.1, .int .i64 l.2.1, .int .i64 l.2.2]], ?_⟩
      rw [e, if_pos rfl]
      refine loop_step l_producer_Dup_0.eq_1 k_producer_Dup_0.eq_1 (by kernel_rfl) ?_
      rw [← hx_nil H]
      obtain ⟨c1, c2, c3, c4⟩ := hc
      simp only [go_sem, h1, h2, h3, e1, gi, gj, c1, c2, c3, c4, not_true_eq_false, not_false_eq_true, decide_true, decide_false, reduceCtorEq, ne_eq, Bool.false_eq_true, ↓reduceIte, Nat.reduceAdd, Nat.reduceEqDiff, Nat.reduceLT, Int.reduceLE, s_shl, s_shr, Bool.not_false, Bool.not_true, Bool.and_self, Bool.true_and, Bool.and_true, Bool.and_false, Bool.false_and, Bool.not_true, Bool.true_or, Bool.or_true, Nat.reduceSub, Nat.reduceLeDiff, Nat.reduceMul, Int.reduceToNat, Int.reduceLT, Int.reduceEq, Int.reduceNeg, and_self, and_true, true_and, and_false, false_and, or_true, true_or, or_false, false_or, Int.cast_ofNat_Int, Nat.reduceBEq, Nat.reduceBNe, beq_self_eq_true, List.take_zero, List.take_succ_cons, List.take_nil]
    · have e : dupQ p b (l :: r) = dupQ p b r := by rw [dupQ, if_neg hc]
      obtain ⟨N, hN⟩ := ih (s ++ [l]) (hx H [.cells [.int .i64 l.1, .int .i64 l.2.1, .int .i64 l.2.2]]) (by rw [hp]; simp) (gi _) (gj _)
      refine ⟨.cells [.int .i64 l.1, .int .i64 l.2.1, .int .i64 l.2.2] :: N, ?_⟩
      rw [e]
      rw [hx_hx, List.cons_append, List.nil_append] at hN
      have step : ∀ R, loopA W loopW (.ghost (.kill k_producer_Dup_0) l_producer_Dup_0) [(2, .ptr i 0), (3, .ptr j 0), (6, .int .i64 (lastQ b.seq b.recs.length)), (16, lastV p.last .ro), (17, .int .i64 p.last.length), (18, .int .i64 ((s ++ [l]).length : Int))] (hx H [.cells [.int .i64 l.1, .int .i64 l.2.1, .int .i64 l.2.2]]) = some R →
          loopA W loopW (.ghost (.kill k_producer_Dup_0) l_producer_Dup_0) [(2, .ptr i 0), (3, .ptr j 0), (6, .int .i64 (lastQ b.seq b.recs.length)), (16, lastV p.last .ro), (17, .int .i64 p.last.length), (18, .int .i64 (s.length : Int))] H = some R := by
        intro R hR
        refine loop_step l_producer_Dup_0.eq_1 k_producer_Dup_0.eq_1 (by kernel_rfl) ?_
        rw [← hx_nil H]
        by_cases c1 : b.mark = 0
        · by_cases c2 : b.ep = p.ep
          · by_cases c3 : l.1 = b.seq
            · have c4 : ¬ l.2.1 = lastQ b.seq b.recs.length := fun h => hc ⟨c1, c2, c3, h⟩
              simp only [go_sem, h1, h2, h3, e1, gi, gj, c1, c2, c3, c4, not_true_eq_false, not_false_eq_true, decide_true, decide_false, reduceCtorEq, ne_eq, Bool.false_eq_true, ↓reduceIte, Nat.reduceAdd, Nat.reduceEqDiff, Nat.reduceLT, Int.reduceLE, s_shl, s_shr, Bool.not_false, Bool.not_true, Bool.and_self, Bool.true_and, Bool.and_true, Bool.and_false, Bool.false_and, Bool.not_true, Bool.true_or, Bool.or_true, Nat.reduceSub, Nat.reduceLeDiff, Nat.reduceMul, Int.reduceToNat, Int.reduceLT, Int.reduceEq, Int.reduceNeg, and_self, and_true, true_and, and_false, false_and, or_true, true_or, or_false, false_or, Int.cast_ofNat_Int, Nat.reduceBEq, Nat.reduceBNe, beq_self_eq_true, List.take_zero, List.take_succ_cons, List.take_nil]; rw [c3] at hR; exact hR
            · simp only [go_sem, h1, h2, h3, e1, gi, gj, c1, c2, c3, not_true_eq_false, not_false_eq_true, decide_true, decide_false, reduceCtorEq, ne_eq, Bool.false_eq_true, ↓reduceIte, Nat.reduceAdd, Nat.reduceEqDiff, Nat.reduceLT, Int.reduceLE, s_shl, s_shr, Bool.not_false, Bool.not_true, Bool.and_self, Bool.true_and, Bool.and_true, Bool.and_false, Bool.false_and, Bool.not_true, Bool.true_or, Bool.or_true, Nat.reduceSub, Nat.reduceLeDiff, Nat.reduceMul, Int.reduceToNat, Int.reduceLT, Int.reduceEq, Int.reduceNeg, and_self, and_true, true_and, and_false, false_and, or_true, true_or, or_false, false_or, Int.cast_ofNat_Int, Nat.reduceBEq, Nat.reduceBNe, beq_self_eq_true, List.take_zero, List.take_succ_cons, List.take_nil]; exact hR
          · simp only [go_sem, h1, h2, h3, e1, gi, gj, c1, c2, not_true_eq_false, not_false_eq_true, decide_true, decide_false, reduceCtorEq, ne_eq, Bool.false_eq_true, ↓reduceIte, Nat.reduceAdd, Nat.reduceEqDiff, Nat.reduceLT, Int.reduceLE, s_shl, s_shr, Bool.not_false, Bool.not_true, Bool.and_self, Bool.true_and, Bool.and_true, Bool.and_false, Bool.false_and, Bool.not_true, Bool.true_or, Bool.or_true, Nat.reduceSub, Nat.reduceLeDiff, Nat.reduceMul, Int.reduceToNat, Int.reduceLT, Int.reduceEq, Int.reduceNeg, and_self, and_true, true_and, and_false, false_and, or_true, true_or, or_false, false_or, Int.cast_ofNat_Int, Nat.reduceBEq, Nat.reduceBNe, beq_self_eq_true, List.take_zero, List.take_succ_cons, List.take_nil]; exact hR
        · simp only [go_sem, h1, h2, h3, e1, gi, gj, c1, not_true_eq_false, not_false_eq_true, decide_true, decide_false, reduceCtorEq, ne_eq, Bool.false_eq_true, ↓reduceIte, Nat.reduceAdd, Nat.reduceEqDiff, Nat.reduceLT, Int.reduceLE, s_shl, s_shr, Bool.not_false, Bool.not_true, Bool.and_self, Bool.true_and, Bool.and_true, Bool.and_false, Bool.false_and, Bool.not_true, Bool.true_or, Bool.or_true, Nat.reduceSub, Nat.reduceLeDiff, Nat.reduceMul, Int.reduceToNat, Int.reduceLT, Int.reduceEq, Int.reduceNeg, and_self, and_true, true_and, and_false, false_and, or_true, true_or, or_false, false_or, Int.cast_ofNat_Int, Nat.reduceBEq, Nat.reduceBNe, beq_self_eq_true, List.take_zero, List.take_succ_cons, List.take_nil]; exact hR
      split <;> rename_i h
      · rw [if_pos h] at hN; exact step _ hN
      · rw [if_neg h] at hN; exact step _ hN
theorem dupQ_false (p : Pr) (b : Ba) : ∀ r, (dupQ p b r).2 = false → dupQ p b r = (-1, false)
  | [], _ => rfl
  | l :: r, h => by
    rw [dupQ] at h ⊢
    split at h
    · cases h
    · rename_i hc; rw [if_neg hc]; exact dupQ_false p b r h
theorem dup_spec (p : Pr) (b : Ba) (H : Heap) (hl : p.last.length < 1000000000) (hr : b.recs.length < 1000000000) :
    W n_producer_Dup [p.v, b.v] H = some (.tuple [.int .i64 (dupQ p b p.last).1, .bool (dupQ p b p.last).2], H) := by
  obtain ⟨N, hN⟩ := dup_loop p b p.last (pt H 0) (pt H 1) hl p.last [] (hx H [.cells [.int .i64 p.id, .int .i64 p.ep, lastV p.last .ro, .int .i64 p.op], .cells [.int .i64 b.base, .int .i64 b.prod, .int .i64 b.ep, .int .i64 b.seq, .bool b.txn, .int .i64 b.mark, .list 2 b.recs .ro]])
    rfl (by rw [hx_get]; rfl) (by rw [hx_get]; rfl)
  have hlast := fun H => last_spec b.seq (b.recs.length : Int) H (by unfold I64; omega)
  refine W_fn rfl rfl ?_
  have e0 : ((([] : List (Int × Int × Int)).length : Nat) : Int) = 0 := rfl
  have e1 : (p.last.map t3).length = p.last.length := by simp
  rw [e0] at hN
  cases h : (dupQ p b p.last).2 with
  | true =>
    rw [h, if_pos rfl] at hN
    simp only [go_sem, c_producer_Dup, hlast, hN, e1, not_true_eq_false, not_false_eq_true, decide_true, decide_false, reduceCtorEq, ne_eq, Bool.false_eq_true, ↓reduceIte, Nat.reduceAdd, Nat.reduceEqDiff, Nat.reduceLT, Int.reduceLE, s_shl, s_shr, Bool.not_false, Bool.not_true, Bool.and_self, Bool.true_and, Bool.and_true, Bool.and_false, Bool.false_and, Bool.not_true, Bool.true_or, Bool.or_true, Nat.reduceSub, Nat.reduceLeDiff, Nat.reduceMul, Int.reduceToNat, Int.reduceLT, Int.reduceEq, Int.reduceNeg, and_self, and_true, true_and, and_false, false_and, or_true, true_or, or_false, false_or, Int.cast_ofNat_Int, Nat.reduceBEq, Nat.reduceBNe, beq_self_eq_true, List.take_zero, List.take_succ_cons, List.take_nil]
  | false =>
    rw [h, if_neg (by decide)] at hN
    have := dupQ_false p b p.last h
    simp only [go_sem, c_producer_Dup, hlast, hN, e1, this, not_true_eq_false, not_false_eq_true, decide_true, decide_false, reduceCtorEq, ne_eq, Bool.false_eq_true, ↓reduceIte, Nat.reduceAdd, Nat.reduceEqDiff, Nat.reduceLT, Int.reduceLE, s_shl, s_shr, Bool.not_false, Bool.not_true, Bool.and_self, Bool.true_and, Bool.and_true, Bool.and_false, Bool.false_and, Bool.not_true, Bool.true_or, Bool.or_true, Nat.reduceSub, Nat.reduceLeDiff, Nat.reduceMul, Int.reduceToNat, Int.reduceLT, Int.reduceEq, Int.reduceNeg, and_self, and_true, true_and, and_false, false_and, or_true, true_or, or_false, false_or, Int.cast_ofNat_Int, Nat.reduceBEq, Nat.reduceBNe, beq_self_eq_true, List.take_zero, List.take_succ_cons, List.take_nil]
theorem check_spec (p : Pr) (k : Bool) (b : Ba) (H : Heap) (hl : p.last.length < 1000000000) (hr : b.recs.length < 1000000000) :
    W n_producer_Check [p.v, .bool k, b.v] H = some (.tuple [.int .i64 (checkQ p k b).1, .int .i64 (checkQ p k b).2], H) := by
  have hm := marker_spec p k b
  have hla := later_spec p b
  have hd := fun H => dup_spec p b H hl hr
  have e2 : (p.last.map t3).length = p.last.length := by simp
  refine W_fn rfl rfl ?_
  by_cases c1 : b.mark = 0
  · cases k with
    | false => simp only [go_sem, c_producer_Check, eq_true c1, checkQ, not_true_eq_false, not_false_eq_true, decide_true, decide_false, reduceCtorEq, ne_eq, Bool.false_eq_true, ↓reduceIte, Nat.reduceAdd, Nat.reduceEqDiff, Nat.reduceLT, Int.reduceLE, s_shl, s_shr, Bool.not_false, Bool.not_true, Bool.and_self, Bool.true_and, Bool.and_true, Bool.and_false, Bool.false_and, Bool.not_true, Bool.true_or, Bool.or_true, Nat.reduceSub, Nat.reduceLeDiff, Nat.reduceMul, Int.reduceToNat, Int.reduceLT, Int.reduceEq, Int.reduceNeg, and_self, and_true, true_and, and_false, false_and, or_true, true_or, or_false, false_or, Int.cast_ofNat_Int, Nat.reduceBEq, Nat.reduceBNe, beq_self_eq_true, List.take_zero, List.take_succ_cons, List.take_nil]
    | true =>
      by_cases c2 : b.ep < p.ep
      · simp only [go_sem, c_producer_Check, eq_true c1, c2, checkQ, not_true_eq_false, not_false_eq_true, decide_true, decide_false, reduceCtorEq, ne_eq, Bool.false_eq_true, ↓reduceIte, Nat.reduceAdd, Nat.reduceEqDiff, Nat.reduceLT, Int.reduceLE, s_shl, s_shr, Bool.not_false, Bool.not_true, Bool.and_self, Bool.true_and, Bool.and_true, Bool.and_false, Bool.false_and, Bool.not_true, Bool.true_or, Bool.or_true, Nat.reduceSub, Nat.reduceLeDiff, Nat.reduceMul, Int.reduceToNat, Int.reduceLT, Int.reduceEq, Int.reduceNeg, and_self, and_true, true_and, and_false, false_and, or_true, true_or, or_false, false_or, Int.cast_ofNat_Int, Nat.reduceBEq, Nat.reduceBNe, beq_self_eq_true, List.take_zero, List.take_succ_cons, List.take_nil]
      · by_cases c3 : b.ep > p.ep
        · simp only [go_sem, c_producer_Check, eq_true c1, c2, c3, checkQ, hla, not_true_eq_false, not_false_eq_true, decide_true, decide_false, reduceCtorEq, ne_eq, Bool.false_eq_true, ↓reduceIte, Nat.reduceAdd, Nat.reduceEqDiff, Nat.reduceLT, Int.reduceLE, s_shl, s_shr, Bool.not_false, Bool.not_true, Bool.and_self, Bool.true_and, Bool.and_true, Bool.and_false, Bool.false_and, Bool.not_true, Bool.true_or, Bool.or_true, Nat.reduceSub, Nat.reduceLeDiff, Nat.reduceMul, Int.reduceToNat, Int.reduceLT, Int.reduceEq, Int.reduceNeg, and_self, and_true, true_and, and_false, false_and, or_true, true_or, or_false, false_or, Int.cast_ofNat_Int, Nat.reduceBEq, Nat.reduceBNe, beq_self_eq_true, List.take_zero, List.take_succ_cons, List.take_nil]
        · cases hq : (dupQ p b p.last).2 with
          | true => simp only [go_sem, c_producer_Check, eq_true c1, c2, c3, checkQ, hd, hq, not_true_eq_false, not_false_eq_true, decide_true, decide_false, reduceCtorEq, ne_eq, Bool.false_eq_true, ↓reduceIte, Nat.reduceAdd, Nat.reduceEqDiff, Nat.reduceLT, Int.reduceLE, s_shl, s_shr, Bool.not_false, Bool.not_true, Bool.and_self, Bool.true_and, Bool.and_true, Bool.and_false, Bool.false_and, Bool.not_true, Bool.true_or, Bool.or_true, Nat.reduceSub, Nat.reduceLeDiff, Nat.reduceMul, Int.reduceToNat, Int.reduceLT, Int.reduceEq, Int.reduceNeg, and_self, and_true, true_and, and_false, false_and, or_true, true_or, or_false, false_or, Int.cast_ofNat_Int, Nat.reduceBEq, Nat.reduceBNe, beq_self_eq_true, List.take_zero, List.take_succ_cons, List.take_nil]
          | false =>
            rcases List.eq_nil_or_concat p.last with h0 | ⟨s, l, h0⟩
            · have e1 : ¬ ((p.last.length : Int) > 0) := by rw [h0]; simp
              by_cases c4 : p.op ≥ 0
              · cases ht : b.txn <;> simp only [Ba.v, ht] at hd
                · simp only [go_sem, c_producer_Check, eq_true c1, c2, c3, c4, checkQ, hd, hq, eq_true h0, e1, e2, ht, not_true_eq_false, not_false_eq_true, decide_true, decide_false, reduceCtorEq, ne_eq, Bool.false_eq_true, ↓reduceIte, Nat.reduceAdd, Nat.reduceEqDiff, Nat.reduceLT, Int.reduceLE, s_shl, s_shr, Bool.not_false, Bool.not_true, Bool.and_self, Bool.true_and, Bool.and_true, Bool.and_false, Bool.false_and, Bool.not_true, Bool.true_or, Bool.or_true, Nat.reduceSub, Nat.reduceLeDiff, Nat.reduceMul, Int.reduceToNat, Int.reduceLT, Int.reduceEq, Int.reduceNeg, and_self, and_true, true_and, and_false, false_and, or_true, true_or, or_false, false_or, Int.cast_ofNat_Int, Nat.reduceBEq, Nat.reduceBNe, beq_self_eq_true, List.take_zero, List.take_succ_cons, List.take_nil]
                · simp only [go_sem, c_producer_Check, eq_true c1, c2, c3, c4, checkQ, hd, hq, eq_true h0, e1, e2, ht, not_true_eq_false, not_false_eq_true, decide_true, decide_false, reduceCtorEq, ne_eq, Bool.false_eq_true, ↓reduceIte, Nat.reduceAdd, Nat.reduceEqDiff, Nat.reduceLT, Int.reduceLE, s_shl, s_shr, Bool.not_false, Bool.not_true, Bool.and_self, Bool.true_and, Bool.and_true, Bool.and_false, Bool.false_and, Bool.not_true, Bool.true_or, Bool.or_true, Nat.reduceSub, Nat.reduceLeDiff, Nat.reduceMul, Int.reduceToNat, Int.reduceLT, Int.reduceEq, Int.reduceNeg, and_self, and_true, true_and, and_false, false_and, or_true, true_or, or_false, false_or, Int.cast_ofNat_Int, Nat.reduceBEq, Nat.reduceBNe, beq_self_eq_true, List.take_zero, List.take_succ_cons, List.take_nil]
              · simp only [go_sem, c_producer_Check, eq_true c1, c2, c3, c4, checkQ, hd, hq, eq_true h0, e1, e2, not_true_eq_false, not_false_eq_true, decide_true, decide_false, reduceCtorEq, ne_eq, Bool.false_eq_true, ↓reduceIte, Nat.reduceAdd, Nat.reduceEqDiff, Nat.reduceLT, Int.reduceLE, s_shl, s_shr, Bool.not_false, Bool.not_true, Bool.and_self, Bool.true_and, Bool.and_true, Bool.and_false, Bool.false_and, Bool.not_true, Bool.true_or, Bool.or_true, Nat.reduceSub, Nat.reduceLeDiff, Nat.reduceMul, Int.reduceToNat, Int.reduceLT, Int.reduceEq, Int.reduceNeg, and_self, and_true, true_and, and_false, false_and, or_true, true_or, or_false, false_or, Int.cast_ofNat_Int, Nat.reduceBEq, Nat.reduceBNe, beq_self_eq_true, List.take_zero, List.take_succ_cons, List.take_nil]
            · have hn : p.last ≠ [] := by rw [h0]; simp
              have e1 : (p.last.length : Int) > 0 := by rw [h0]; simp
              have e3 : IntKind.i64.wrap ((p.last.length : Int) - 1) = ((p.last.length - 1 : Nat) : Int) := by rw [wrap_id (by unfold I64; omega)]; omega
              have e4 : (p.last.map t3)[((p.last.length - 1 : Nat) : Int).toNat]? = some (t3 l) := by rw [h0]; simp
              have e5 : p.last.getLastD (0, 0, 0) = l := by rw [h0]; simp
              have e6 : (0 : Int) ≤ ((p.last.length - 1 : Nat) : Int) := by omega
              have hf := follows_spec l.2.1 b.seq
              cases hfq : followsQ l.2.1 b.seq with
              | false =>
                rw [hfq] at hf
                simp only [go_sem, c_producer_Check, eq_true c1, c2, c3, checkQ, hd, hq, hn, e1, e2, e3, e4, e5, e6, hf, hfq, not_true_eq_false, not_false_eq_true, decide_true, decide_false, reduceCtorEq, ne_eq, Bool.false_eq_true, ↓reduceIte, Nat.reduceAdd, Nat.reduceEqDiff, Nat.reduceLT, Int.reduceLE, s_shl, s_shr, Bool.not_false, Bool.not_true, Bool.and_self, Bool.true_and, Bool.and_true, Bool.and_false, Bool.false_and, Bool.not_true, Bool.true_or, Bool.or_true, Nat.reduceSub, Nat.reduceLeDiff, Nat.reduceMul, Int.reduceToNat, Int.reduceLT, Int.reduceEq, Int.reduceNeg, and_self, and_true, true_and, and_false, false_and, or_true, true_or, or_false, false_or, Int.cast_ofNat_Int, Nat.reduceBEq, Nat.reduceBNe, beq_self_eq_true, List.take_zero, List.take_succ_cons, List.take_nil]
              | true =>
                rw [hfq] at hf
                by_cases c4 : p.op ≥ 0
                · cases ht : b.txn <;> simp only [Ba.v, ht] at hd
                  · simp only [go_sem, c_producer_Check, eq_true c1, c2, c3, checkQ, hd, hq, hn, e1, e2, e3, e4, e5, e6, hf, hfq, c4, ht, not_true_eq_false, not_false_eq_true, decide_true, decide_false, reduceCtorEq, ne_eq, Bool.false_eq_true, ↓reduceIte, Nat.reduceAdd, Nat.reduceEqDiff, Nat.reduceLT, Int.reduceLE, s_shl, s_shr, Bool.not_false, Bool.not_true, Bool.and_self, Bool.true_and, Bool.and_true, Bool.and_false, Bool.false_and, Bool.not_true, Bool.true_or, Bool.or_true, Nat.reduceSub, Nat.reduceLeDiff, Nat.reduceMul, Int.reduceToNat, Int.reduceLT, Int.reduceEq, Int.reduceNeg, and_self, and_true, true_and, and_false, false_and, or_true, true_or, or_false, false_or, Int.cast_ofNat_Int, Nat.reduceBEq, Nat.reduceBNe, beq_self_eq_true, List.take_zero, List.take_succ_cons, List.take_nil]
                  · simp only [go_sem, c_producer_Check, eq_true c1, c2, c3, checkQ, hd, hq, hn, e1, e2, e3, e4, e5, e6, hf, hfq, c4, ht, not_true_eq_false, not_false_eq_true, decide_true, decide_false, reduceCtorEq, ne_eq, Bool.false_eq_true, ↓reduceIte, Nat.reduceAdd, Nat.reduceEqDiff, Nat.reduceLT, Int.reduceLE, s_shl, s_shr, Bool.not_false, Bool.not_true, Bool.and_self, Bool.true_and, Bool.and_true, Bool.and_false, Bool.false_and, Bool.not_true, Bool.true_or, Bool.or_true, Nat.reduceSub, Nat.reduceLeDiff, Nat.reduceMul, Int.reduceToNat, Int.reduceLT, Int.reduceEq, Int.reduceNeg, and_self, and_true, true_and, and_false, false_and, or_true, true_or, or_false, false_or, Int.cast_ofNat_Int, Nat.reduceBEq, Nat.reduceBNe, beq_self_eq_true, List.take_zero, List.take_succ_cons, List.take_nil]
                · simp only [go_sem, c_producer_Check, eq_true c1, c2, c3, checkQ, hd, hq, hn, e1, e2, e3, e4, e5, e6, hf, hfq, c4, not_true_eq_false, not_false_eq_true, decide_true, decide_false, reduceCtorEq, ne_eq, Bool.false_eq_true, ↓reduceIte, Nat.reduceAdd, Nat.reduceEqDiff, Nat.reduceLT, Int.reduceLE, s_shl, s_shr, Bool.not_false, Bool.not_true, Bool.and_self, Bool.true_and, Bool.and_true, Bool.and_false, Bool.false_and, Bool.not_true, Bool.true_or, Bool.or_true, Nat.reduceSub, Nat.reduceLeDiff, Nat.reduceMul, Int.reduceToNat, Int.reduceLT, Int.reduceEq, Int.reduceNeg, and_self, and_true, true_and, and_false, false_and, or_true, true_or, or_false, false_or, Int.cast_ofNat_Int, Nat.reduceBEq, Nat.reduceBNe, beq_self_eq_true, List.take_zero, List.take_succ_cons, List.take_nil]
  · simp only [go_sem, c_producer_Check, c1, checkQ, hm, not_true_eq_false, not_false_eq_true, decide_true, decide_false, reduceCtorEq, ne_eq, Bool.false_eq_true, ↓reduceIte, Nat.reduceAdd, Nat.reduceEqDiff, Nat.reduceLT, Int.reduceLE, s_shl, s_shr, Bool.not_false, Bool.not_true, Bool.and_self, Bool.true_and, Bool.and_true, Bool.and_false, Bool.false_and, Bool.not_true, Bool.true_or, Bool.or_true, Nat.reduceSub, Nat.reduceLeDiff, Nat.reduceMul, Int.reduceToNat, Int.reduceLT, Int.reduceEq, Int.reduceNeg, and_self, and_true, true_and, and_false, false_and, or_true, true_or, or_false, false_or, Int.cast_ofNat_Int, Nat.reduceBEq, Nat.reduceBNe, beq_self_eq_true, List.take_zero, List.take_succ_cons, List.take_nil]
end Go.Abs.Pq

namespace Go.Abs.Pq
open Go Go.RowKit
set_option linter.unusedVariables false
set_option linter.unusedSimpArgs false

theorem apply_spec (p : Pr) (k : Bool) (b : Ba) (H : Heap) (hl : p.last.length < 1000000) (hr : b.recs.length < 1000000000) :
    W n_producer_Apply [p.v, .bool k, b.v] H = some ((applyQ p k b).v, H) := by
  have hlast := fun H => last_spec b.seq (b.recs.length : Int) H (by unfold I64; omega)
  have hcl : (p.last.map t3).length * 24 ≤ maxBytes := by simp [maxBytes]; omega
  have u1 : ∀ l : List (Int × Int × Int), AVal.underL 0 (l.map t3) = true := fun l => uL_map 0 t3 (fun _ => rfl) l
  by_cases c1 : b.mark = 0
  · have key : ∀ (l : List (Int × Int × Int)), l.length ≤ p.last.length →
      ((l.map t3).length + 1) * 24 ≤ maxBytes ∧
      (l.map t3 ++ [AVal.agg [.int .i64 b.seq, .int .i64 (lastQ b.seq b.recs.length), .int .i64 b.base]]) = (l ++ [(b.seq, lastQ b.seq b.recs.length, b.base)]).map t3 ∧
      ((l ++ [(b.seq, lastQ b.seq b.recs.length, b.base)]).map t3).length = l.length + 1 ∧
      IntKind.i64.wrap (((l.length + 1 : Nat) : Int) - 5) = (l.length : Int) - 4 := by
      intro l hl'
      refine ⟨by simp [maxBytes]; omega, by simp, by simp, by rw [wrap_id (by unfold I64; omega)]; omega⟩
    have tail : ∀ (l : List (Int × Int × Int)), l.length ≤ p.last.length → 
      (0 : Int) ≤ mx 0 ((l.length : Int) - 4) ∧ mx 0 ((l.length : Int) - 4) ≤ ((l.length + 1 : Nat) : Int) ∧
      ((l ++ [(b.seq, lastQ b.seq b.recs.length, b.base)]).map t3).drop (mx 0 ((l.length : Int) - 4)).toNat = ((l ++ [(b.seq, lastQ b.seq b.recs.length, b.base)]).drop ((l ++ [(b.seq, lastQ b.seq b.recs.length, b.base)]).length - 5)).map t3 ∧
      (((l ++ [(b.seq, lastQ b.seq b.recs.length, b.base)]).drop ((l ++ [(b.seq, lastQ b.seq b.recs.length, b.base)]).length - 5)).map t3).length * 24 ≤ maxBytes := by
      intro l hl'
      have h : (mx 0 ((l.length : Int) - 4)).toNat = (l ++ [(b.seq, lastQ b.seq b.recs.length, b.base)]).length - 5 := by
        rw [List.length_append]; simp only [List.length_cons, List.length_nil]; unfold mx; split <;> omega
      refine ⟨by unfold mx; split <;> omega, by unfold mx; split <;> omega, by rw [h, List.map_drop], by simp [maxBytes]; omega⟩
    obtain ⟨k1, k2, k3, k4⟩ := key p.last (Nat.le_refl _)
    obtain ⟨t1, t2, t3', t4⟩ := tail p.last (Nat.le_refl _)
    have w1 : IntKind.i64.wrap (1 - 5) = -4 := by decide
    have w2 : mx 0 (-4) = 0 := by decide
    have w3 : (0 + 1) * 24 ≤ maxBytes := by decide
    have w4 : 1 * 24 ≤ maxBytes := by decide
    refine W_fn rfl rfl ?_
    cases k with
    | false =>
      by_cases c5 : b.txn = true
      · simp only [go_sem, c_producer_Apply, eq_true c1, c5, applyQ, u1, hlast, apF, w1, w2, w3, w4, slL, W_slices_Clone_3_int64_3_int64_, Pr.v, not_true_eq_false, not_false_eq_true, decide_true, decide_false, reduceCtorEq, ne_eq, Bool.false_eq_true, ↓reduceIte, Nat.reduceAdd, Nat.reduceEqDiff, Nat.reduceLT, Int.reduceLE, s_shl, s_shr, Bool.not_false, Bool.not_true, Bool.and_self, Bool.true_and, Bool.and_true, Bool.and_false, Bool.false_and, Bool.not_true, Bool.true_or, Bool.or_true, Nat.reduceSub, Nat.reduceLeDiff, Nat.reduceMul, Int.reduceToNat, Int.reduceLT, Int.reduceEq, Int.reduceNeg, and_self, and_true, true_and, and_false, false_and, or_true, true_or, or_false, false_or, Int.cast_ofNat_Int, Nat.reduceBEq, Nat.reduceBNe, beq_self_eq_true, List.take_zero, List.take_succ_cons, List.take_nil]; rfl
      · simp only [go_sem, c_producer_Apply, eq_true c1, c5, applyQ, u1, hlast, apF, w1, w2, w3, w4, slL, W_slices_Clone_3_int64_3_int64_, Pr.v, not_true_eq_false, not_false_eq_true, decide_true, decide_false, reduceCtorEq, ne_eq, Bool.false_eq_true, ↓reduceIte, Nat.reduceAdd, Nat.reduceEqDiff, Nat.reduceLT, Int.reduceLE, s_shl, s_shr, Bool.not_false, Bool.not_true, Bool.and_self, Bool.true_and, Bool.and_true, Bool.and_false, Bool.false_and, Bool.not_true, Bool.true_or, Bool.or_true, Nat.reduceSub, Nat.reduceLeDiff, Nat.reduceMul, Int.reduceToNat, Int.reduceLT, Int.reduceEq, Int.reduceNeg, and_self, and_true, true_and, and_false, false_and, or_true, true_or, or_false, false_or, Int.cast_ofNat_Int, Nat.reduceBEq, Nat.reduceBNe, beq_self_eq_true, List.take_zero, List.take_succ_cons, List.take_nil]; rfl
    | true =>
      by_cases c2 : b.ep = p.ep
      · by_cases c5 : b.txn = true
        · by_cases c6 : p.op < 0
          · simp only [go_sem, c_producer_Apply, eq_true c1, eq_true c2, c5, c6, applyQ, u1, hlast, apO, k1, k2, k3, k4, t1, t2, t3', t4, hcl, slL, W_slices_Clone_3_int64_3_int64_, Pr.v, not_true_eq_false, not_false_eq_true, decide_true, decide_false, reduceCtorEq, ne_eq, Bool.false_eq_true, ↓reduceIte, Nat.reduceAdd, Nat.reduceEqDiff, Nat.reduceLT, Int.reduceLE, s_shl, s_shr, Bool.not_false, Bool.not_true, Bool.and_self, Bool.true_and, Bool.and_true, Bool.and_false, Bool.false_and, Bool.not_true, Bool.true_or, Bool.or_true, Nat.reduceSub, Nat.reduceLeDiff, Nat.reduceMul, Int.reduceToNat, Int.reduceLT, Int.reduceEq, Int.reduceNeg, and_self, and_true, true_and, and_false, false_and, or_true, true_or, or_false, false_or, Int.cast_ofNat_Int, Nat.reduceBEq, Nat.reduceBNe, beq_self_eq_true, List.take_zero, List.take_succ_cons, List.take_nil]
          · simp only [go_sem, c_producer_Apply, eq_true c1, eq_true c2, c5, c6, applyQ, u1, hlast, apO, k1, k2, k3, k4, t1, t2, t3', t4, hcl, slL, W_slices_Clone_3_int64_3_int64_, Pr.v, not_true_eq_false, not_false_eq_true, decide_true, decide_false, reduceCtorEq, ne_eq, Bool.false_eq_true, ↓reduceIte, Nat.reduceAdd, Nat.reduceEqDiff, Nat.reduceLT, Int.reduceLE, s_shl, s_shr, Bool.not_false, Bool.not_true, Bool.and_self, Bool.true_and, Bool.and_true, Bool.and_false, Bool.false_and, Bool.not_true, Bool.true_or, Bool.or_true, Nat.reduceSub, Nat.reduceLeDiff, Nat.reduceMul, Int.reduceToNat, Int.reduceLT, Int.reduceEq, Int.reduceNeg, and_self, and_true, true_and, and_false, false_and, or_true, true_or, or_false, false_or, Int.cast_ofNat_Int, Nat.reduceBEq, Nat.reduceBNe, beq_self_eq_true, List.take_zero, List.take_succ_cons, List.take_nil]
        · simp only [go_sem, c_producer_Apply, eq_true c1, eq_true c2, c5, applyQ, u1, hlast, apO, k1, k2, k3, k4, t1, t2, t3', t4, hcl, slL, W_slices_Clone_3_int64_3_int64_, Pr.v, not_true_eq_false, not_false_eq_true, decide_true, decide_false, reduceCtorEq, ne_eq, Bool.false_eq_true, ↓reduceIte, Nat.reduceAdd, Nat.reduceEqDiff, Nat.reduceLT, Int.reduceLE, s_shl, s_shr, Bool.not_false, Bool.not_true, Bool.and_self, Bool.true_and, Bool.and_true, Bool.and_false, Bool.false_and, Bool.not_true, Bool.true_or, Bool.or_true, Nat.reduceSub, Nat.reduceLeDiff, Nat.reduceMul, Int.reduceToNat, Int.reduceLT, Int.reduceEq, Int.reduceNeg, and_self, and_true, true_and, and_false, false_and, or_true, true_or, or_false, false_or, Int.cast_ofNat_Int, Nat.reduceBEq, Nat.reduceBNe, beq_self_eq_true, List.take_zero, List.take_succ_cons, List.take_nil]
      · by_cases c5 : b.txn = true
        · by_cases c6 : p.op < 0
          · simp only [go_sem, c_producer_Apply, eq_true c1, c2, c5, c6, applyQ, u1, hlast, apF, w1, w2, w3, w4, slL, W_slices_Clone_3_int64_3_int64_, Pr.v, not_true_eq_false, not_false_eq_true, decide_true, decide_false, reduceCtorEq, ne_eq, Bool.false_eq_true, ↓reduceIte, Nat.reduceAdd, Nat.reduceEqDiff, Nat.reduceLT, Int.reduceLE, s_shl, s_shr, Bool.not_false, Bool.not_true, Bool.and_self, Bool.true_and, Bool.and_true, Bool.and_false, Bool.false_and, Bool.not_true, Bool.true_or, Bool.or_true, Nat.reduceSub, Nat.reduceLeDiff, Nat.reduceMul, Int.reduceToNat, Int.reduceLT, Int.reduceEq, Int.reduceNeg, and_self, and_true, true_and, and_false, false_and, or_true, true_or, or_false, false_or, Int.cast_ofNat_Int, Nat.reduceBEq, Nat.reduceBNe, beq_self_eq_true, List.take_zero, List.take_succ_cons, List.take_nil]; rfl
          · simp only [go_sem, c_producer_Apply, eq_true c1, c2, c5, c6, applyQ, u1, hlast, apF, w1, w2, w3, w4, slL, W_slices_Clone_3_int64_3_int64_, Pr.v, not_true_eq_false, not_false_eq_true, decide_true, decide_false, reduceCtorEq, ne_eq, Bool.false_eq_true, ↓reduceIte, Nat.reduceAdd, Nat.reduceEqDiff, Nat.reduceLT, Int.reduceLE, s_shl, s_shr, Bool.not_false, Bool.not_true, Bool.and_self, Bool.true_and, Bool.and_true, Bool.and_false, Bool.false_and, Bool.not_true, Bool.true_or, Bool.or_true, Nat.reduceSub, Nat.reduceLeDiff, Nat.reduceMul, Int.reduceToNat, Int.reduceLT, Int.reduceEq, Int.reduceNeg, and_self, and_true, true_and, and_false, false_and, or_true, true_or, or_false, false_or, Int.cast_ofNat_Int, Nat.reduceBEq, Nat.reduceBNe, beq_self_eq_true, List.take_zero, List.take_succ_cons, List.take_nil]; rfl
        · simp only [go_sem, c_producer_Apply, eq_true c1, c2, c5, applyQ, u1, hlast, apF, w1, w2, w3, w4, slL, W_slices_Clone_3_int64_3_int64_, Pr.v, not_true_eq_false, not_false_eq_true, decide_true, decide_false, reduceCtorEq, ne_eq, Bool.false_eq_true, ↓reduceIte, Nat.reduceAdd, Nat.reduceEqDiff, Nat.reduceLT, Int.reduceLE, s_shl, s_shr, Bool.not_false, Bool.not_true, Bool.and_self, Bool.true_and, Bool.and_true, Bool.and_false, Bool.false_and, Bool.not_true, Bool.true_or, Bool.or_true, Nat.reduceSub, Nat.reduceLeDiff, Nat.reduceMul, Int.reduceToNat, Int.reduceLT, Int.reduceEq, Int.reduceNeg, and_self, and_true, true_and, and_false, false_and, or_true, true_or, or_false, false_or, Int.cast_ofNat_Int, Nat.reduceBEq, Nat.reduceBNe, beq_self_eq_true, List.take_zero, List.take_succ_cons, List.take_nil]; rfl
  · refine W_fn rfl rfl ?_
    cases k with
    | false => simp only [go_sem, c_producer_Apply, c1, applyQ, u1, Pr.v, not_true_eq_false, not_false_eq_true, decide_true, decide_false, reduceCtorEq, ne_eq, Bool.false_eq_true, ↓reduceIte, Nat.reduceAdd, Nat.reduceEqDiff, Nat.reduceLT, Int.reduceLE, s_shl, s_shr, Bool.not_false, Bool.not_true, Bool.and_self, Bool.true_and, Bool.and_true, Bool.and_false, Bool.false_and, Bool.not_true, Bool.true_or, Bool.or_true, Nat.reduceSub, Nat.reduceLeDiff, Nat.reduceMul, Int.reduceToNat, Int.reduceLT, Int.reduceEq, Int.reduceNeg, and_self, and_true, true_and, and_false, false_and, or_true, true_or, or_false, false_or, Int.cast_ofNat_Int, Nat.reduceBEq, Nat.reduceBNe, beq_self_eq_true, List.take_zero, List.take_succ_cons, List.take_nil]; rfl
    | true =>
      by_cases c2 : b.ep = p.ep
      · simp only [go_sem, c_producer_Apply, c1, eq_true c2, applyQ, u1, W_slices_Clone_3_int64_3_int64_, hcl, not_true_eq_false, not_false_eq_true, decide_true, decide_false, reduceCtorEq, ne_eq, Bool.false_eq_true, ↓reduceIte, Nat.reduceAdd, Nat.reduceEqDiff, Nat.reduceLT, Int.reduceLE, s_shl, s_shr, Bool.not_false, Bool.not_true, Bool.and_self, Bool.true_and, Bool.and_true, Bool.and_false, Bool.false_and, Bool.not_true, Bool.true_or, Bool.or_true, Nat.reduceSub, Nat.reduceLeDiff, Nat.reduceMul, Int.reduceToNat, Int.reduceLT, Int.reduceEq, Int.reduceNeg, and_self, and_true, true_and, and_false, false_and, or_true, true_or, or_false, false_or, Int.cast_ofNat_Int, Nat.reduceBEq, Nat.reduceBNe, beq_self_eq_true, List.take_zero, List.take_succ_cons, List.take_nil]
      · simp only [go_sem, c_producer_Apply, c1, c2, applyQ, u1, Pr.v, not_true_eq_false, not_false_eq_true, decide_true, decide_false, reduceCtorEq, ne_eq, Bool.false_eq_true, ↓reduceIte, Nat.reduceAdd, Nat.reduceEqDiff, Nat.reduceLT, Int.reduceLE, s_shl, s_shr, Bool.not_false, Bool.not_true, Bool.and_self, Bool.true_and, Bool.and_true, Bool.and_false, Bool.false_and, Bool.not_true, Bool.true_or, Bool.or_true, Nat.reduceSub, Nat.reduceLeDiff, Nat.reduceMul, Int.reduceToNat, Int.reduceLT, Int.reduceEq, Int.reduceNeg, and_self, and_true, true_and, and_false, false_and, or_true, true_or, or_false, false_or, Int.cast_ofNat_Int, Nat.reduceBEq, Nat.reduceBNe, beq_self_eq_true, List.take_zero, List.take_succ_cons, List.take_nil]; rfl
end Go.Abs.Pq

namespace Go.Abs
open Go Go.RowKit
set_option linter.unusedVariables false
set_option linter.unusedSimpArgs false

/-! ## The program's producer, by the document's -/
def toP (p : Pr) : Pq.Pr := ⟨p.id, p.epoch, p.last, p.open_⟩
def toB (b : Ba) : Pq.Ba := ⟨b.base, b.prod, b.epoch, b.seq, b.txn, b.mark, b.recs.map rcV⟩
theorem toP_v (p : Pr) : (toP p).v = p.V := rfl
theorem toB_v (b : Ba) : (toB b).v = b.V := rfl
theorem rightQ_eq (n : Int) : Pq.rightQ n = seqR n := by
  unfold Pq.rightQ seqR
  by_cases h : n ≥ 0 <;> by_cases k : n ≤ 2147483647 <;> simp [h, k]
  all_goals omega
theorem addQ_eq (n k : Int) : Pq.addQ n k = addS n k := by unfold Pq.addQ addS; rw [rightQ_eq]
theorem lastQ_eq (n c : Int) : Pq.lastQ n c = lastS n c := by
  unfold Pq.lastQ lastS
  rw [addQ_eq]
  by_cases h : 1 ≤ c ∧ c ≤ 16
  · rw [if_pos h, if_neg (by omega)]
  · rw [if_neg h, if_pos (by omega)]
theorem followsQ_eq (l f : Int) : Pq.followsQ l f = followsS l f := by
  unfold Pq.followsQ followsS
  rw [rightQ_eq, addQ_eq]
  congr 1
  by_cases h : f = addS l 1
  · rw [decide_eq_true h, decide_eq_true h.symm]
  · rw [decide_eq_false h, decide_eq_false (fun k => h k.symm)]
theorem dupQ_eq (p : Pr) (b : Ba) : ∀ l, Pq.dupQ (toP p) (toB b) l = if b.epoch = p.epoch ∧ b.mark = 0 then ((dupIn b.seq b.recs.length l).getD (-1), (dupIn b.seq b.recs.length l).isSome) else (-1, false)
  | [] => by unfold Pq.dupQ dupIn; split <;> rfl
  | x :: l => by
    unfold Pq.dupQ dupIn
    rw [dupQ_eq p b l]
    simp only [toP, toB, List.length_map, lastQ_eq]
    by_cases c : b.epoch = p.epoch ∧ b.mark = 0
    · rw [if_pos c, if_pos c]
      by_cases h : x.1 = b.seq ∧ x.2.1 = lastS b.seq b.recs.length
      · rw [if_pos ⟨c.2, c.1, h.1, h.2⟩, if_pos h]; rfl
      · rw [if_neg (fun k => h ⟨k.2.2.1, k.2.2.2⟩), if_neg h]
    · rw [if_neg c, if_neg c, if_neg (fun k => c ⟨k.2.1, k.1⟩)]
theorem dupQ_P (p : Pr) (b : Ba) : Pq.dupQ (toP p) (toB b) p.last = ((dupP p b).getD (-1), (dupP p b).isSome) := by
  rw [dupQ_eq]
  unfold dupP
  split <;> rfl
theorem checkQ_eq (p : Pr) (k : Bool) (b : Ba) : Pq.checkQ (toP p) k (toB b) = checkP p k b := by
  have hd := dupQ_P p b
  have h : Pq.checkQ (toP p) k (toB b) = (if b.mark ≠ 0 then ((-1 : Int), if k = false then (16 : Int) else if b.epoch < p.epoch then 14 else if p.open_ < 0 then 16 else 0)
    else if k = false then (-1, 0)
    else if b.epoch < p.epoch then (-1, 14)
    else if b.epoch > p.epoch then (-1, if p.open_ ≥ 0 then 16 else if b.seq ≠ 0 then 15 else 0)
    else if (Pq.dupQ (toP p) (toB b) p.last).2 = true then ((Pq.dupQ (toP p) (toB b) p.last).1, 0)
    else if p.last ≠ [] ∧ Pq.followsQ (p.last.getLastD (0, 0, 0)).2.1 b.seq = false then (-1, 15)
    else if p.open_ ≥ 0 ∧ b.txn = false then (-1, 16)
    else (-1, 0)) := rfl
  rw [h, hd, followsQ_eq]
  unfold checkP
  by_cases c1 : b.mark ≠ 0
  · rw [if_pos c1, if_pos c1]
    by_cases x1 : k = false
    · rw [if_pos x1, if_pos x1]
    · rw [if_neg x1, if_neg x1]
      by_cases x2 : b.epoch < p.epoch
      · rw [if_pos x2, if_pos x2]
      · rw [if_neg x2, if_neg x2]
        by_cases x3 : p.open_ < 0
        · rw [if_pos x3, if_pos x3]
        · rw [if_neg x3, if_neg x3]
  rw [if_neg c1, if_neg c1]
  by_cases c2 : k = false
  · rw [if_pos c2, if_pos c2]
  rw [if_neg c2, if_neg c2]
  by_cases c3 : b.epoch < p.epoch
  · rw [if_pos c3, if_pos c3]
  rw [if_neg c3, if_neg c3]
  by_cases c4 : b.epoch > p.epoch
  · rw [if_pos c4, if_pos c4]
    by_cases x1 : p.open_ ≥ 0
    · rw [if_pos x1, if_pos x1]
    · rw [if_neg x1, if_neg x1]
      by_cases x2 : b.seq ≠ 0
      · rw [if_pos x2, if_pos x2]
      · rw [if_neg x2, if_neg x2]
  rw [if_neg c4, if_neg c4]
  cases hdp : dupP p b with
  | some v => rfl
  | none =>
    simp only [Option.isSome_none, Bool.false_eq_true, if_false]
    rcases List.eq_nil_or_concat p.last with hl | ⟨l', x, hl⟩
    · rw [hl]
      simp only [List.getLast?_nil, ne_eq, not_true, false_and, if_false]
    · have h1 : p.last ≠ [] := by rw [hl]; simp
      have h2 : p.last.getLast? = some x := by rw [hl]; simp
      have h3 : p.last.getLastD (0, 0, 0) = x := by rw [hl]; simp
      rw [h2, h3]
      simp only [h1, ne_eq, not_false_eq_true, true_and]
theorem applyQ_eq (p : Pr) (k : Bool) (b : Ba) : Pq.applyQ (toP p) k (toB b) = toP (applyP p k b) := by
  have hl : (if k = true ∧ b.epoch = p.epoch then p.last else []) = lastsP p k b := by
    unfold lastsP
    by_cases h : k = true ∧ b.epoch = p.epoch
    · rw [if_pos h, if_pos ⟨h.1, h.2.symm⟩]
    · rw [if_neg h, if_neg (fun q => h ⟨q.1, q.2.symm⟩)]
  have hll : (b.recs.map rcV).length = b.recs.length := List.length_map _
  have h : Pq.applyQ (toP p) k (toB b) = (if b.mark ≠ 0 then (⟨b.prod, b.epoch, if k = true ∧ b.epoch = p.epoch then p.last else [], -1⟩ : Pq.Pr)
    else ⟨b.prod, b.epoch, ((if k = true ∧ b.epoch = p.epoch then p.last else []) ++ [(b.seq, Pq.lastQ b.seq (b.recs.map rcV).length, b.base)]).drop (((if k = true ∧ b.epoch = p.epoch then p.last else []) ++ [(b.seq, Pq.lastQ b.seq (b.recs.map rcV).length, b.base)]).length - 5), if b.txn = true ∧ openP p k < 0 then b.base else openP p k⟩) := rfl
  rw [h, hl, hll, lastQ_eq]
  unfold applyP
  by_cases c : b.mark ≠ 0
  · rw [if_pos c, if_pos c]; rfl
  · rw [if_neg c, if_neg c]; rfl
theorem pcheck_spec (p : Pr) (k : Bool) (b : Ba) (hl : p.last.length ≤ 1000) (hr : b.recs.length ≤ 1000) (H : Heap) :
    W n_producer_Check [p.V, .bool k, b.V] H = some (.tuple [.int .i64 (checkP p k b).1, .int .i64 (checkP p k b).2], H) := by
  have := Pq.check_spec (toP p) k (toB b) H (by show p.last.length < _; omega) (by simp only [toB, List.length_map]; omega)
  rw [toP_v, toB_v, checkQ_eq] at this
  exact this
theorem pdup_spec (p : Pr) (b : Ba) (hl : p.last.length ≤ 1000) (hr : b.recs.length ≤ 1000) (H : Heap) :
    W n_producer_Dup [p.V, b.V] H = some (.tuple [.int .i64 ((dupP p b).getD (-1)), .bool (dupP p b).isSome], H) := by
  have := Pq.dup_spec (toP p) (toB b) H (by show p.last.length < _; omega) (by simp only [toB, List.length_map]; omega)
  have e1 : (toP p).last = p.last := rfl
  rw [toP_v, toB_v, e1, dupQ_P] at this
  exact this
theorem papply_spec (p : Pr) (k : Bool) (b : Ba) (hl : p.last.length ≤ 1000) (hr : b.recs.length ≤ 1000) (H : Heap) :
    W n_producer_Apply [p.V, .bool k, b.V] H = some ((applyP p k b).V, H) := by
  have := Pq.apply_spec (toP p) k (toB b) H (by show p.last.length < _; omega) (by simp only [toB, List.length_map]; omega)
  rw [toP_v, toB_v, applyQ_eq, toP_v] at this
  exact this
end Go.Abs

namespace Go.Abs
open Go Go.RowKit
set_option linter.unusedVariables false
set_option linter.unusedSimpArgs false

/-! ## Right, both -/
def gapS (a b : Int) : Int := if seqR a = true ∧ seqR b = true then (b - a) % 2147483648 else -1
theorem gapQ_eq (a b : Int) : Pq.gapQ a b = gapS a b := by unfold Pq.gapQ gapS; rw [rightQ_eq, rightQ_eq]
theorem ref_gap_spec (a b : Int) (H : Heap) : W n_ref3_Gap [.int .i64 a, .int .i64 b] H = some (.int .i64 (gapS a b), H) := by
  have t1 := fun H => ref_seq_spec a H
  have t2 := fun H => ref_seq_spec b H
  unfold gapS
  cases ca : seqR a with
  | false =>
    rw [ca] at t1
    rw [if_neg (by simp)]
    refine W_fn rfl rfl ?_
    simp only [go_sem, c_ref3_Gap, t1, not_true_eq_false, not_false_eq_true, decide_true, decide_false, reduceCtorEq, ne_eq, Bool.false_eq_true, ↓reduceIte, Nat.reduceAdd, Nat.reduceEqDiff, Nat.reduceLT, Int.reduceLE, s_shl, s_shr, Bool.not_false, Bool.not_true, Bool.and_self, Bool.true_and, Bool.and_true, Bool.and_false, Bool.false_and, Bool.not_true, Bool.true_or, Bool.or_true, Nat.reduceSub, Nat.reduceLeDiff, Nat.reduceMul, Int.reduceToNat, Int.reduceLT, Int.reduceEq, Int.reduceNeg, and_self, and_true, true_and, and_false, false_and, or_true, true_or, or_false, false_or, Int.cast_ofNat_Int, Nat.reduceBEq, Nat.reduceBNe, beq_self_eq_true, List.take_zero, List.take_succ_cons, List.take_nil]
  | true =>
    rw [ca] at t1
    cases cb : seqR b with
    | false =>
      rw [cb] at t2
      rw [if_neg (by simp)]
      refine W_fn rfl rfl ?_
      simp only [go_sem, c_ref3_Gap, t1, t2, not_true_eq_false, not_false_eq_true, decide_true, decide_false, reduceCtorEq, ne_eq, Bool.false_eq_true, ↓reduceIte, Nat.reduceAdd, Nat.reduceEqDiff, Nat.reduceLT, Int.reduceLE, s_shl, s_shr, Bool.not_false, Bool.not_true, Bool.and_self, Bool.true_and, Bool.and_true, Bool.and_false, Bool.false_and, Bool.not_true, Bool.true_or, Bool.or_true, Nat.reduceSub, Nat.reduceLeDiff, Nat.reduceMul, Int.reduceToNat, Int.reduceLT, Int.reduceEq, Int.reduceNeg, and_self, and_true, true_and, and_false, false_and, or_true, true_or, or_false, false_or, Int.cast_ofNat_Int, Nat.reduceBEq, Nat.reduceBNe, beq_self_eq_true, List.take_zero, List.take_succ_cons, List.take_nil]
    | true =>
      rw [cb] at t2
      rw [if_pos ⟨rfl, rfl⟩]
      have ha : 0 ≤ a ∧ a ≤ 2147483647 := by simpa [seqR] using ca
      have hb : 0 ≤ b ∧ b ≤ 2147483647 := by simpa [seqR] using cb
      have w1 : IntKind.i64.wrap (b - a) = b - a := wrap_id (by unfold I64; omega)
      have e1 : (b - a).tmod 2147483648 = b - a := by
        rcases Int.lt_or_le (b - a) 0 with h | h
        · have : (b - a) = -(a - b) := by omega
          rw [this, Int.neg_tmod, Int.tmod_eq_of_lt (by omega) (by omega)]
        · exact Int.tmod_eq_of_lt h (by omega)
      have w2 : IntKind.i64.wrap (b - a + 2147483648) = b - a + 2147483648 := wrap_id (by unfold I64; omega)
      have e2 : (b - a + 2147483648).tmod 2147483648 = (b - a) % 2147483648 := by
        rw [Int.tmod_eq_emod_of_nonneg (by omega)]; omega
      have n0 : ¬ (2147483648 : Int) = 0 := by decide
      refine W_fn rfl rfl ?_
      simp only [go_sem, c_ref3_Gap, t1, t2, w1, e1, w2, e2, n0, not_true_eq_false, not_false_eq_true, decide_true, decide_false, reduceCtorEq, ne_eq, Bool.false_eq_true, ↓reduceIte, Nat.reduceAdd, Nat.reduceEqDiff, Nat.reduceLT, Int.reduceLE, s_shl, s_shr, Bool.not_false, Bool.not_true, Bool.and_self, Bool.true_and, Bool.and_true, Bool.and_false, Bool.false_and, Bool.not_true, Bool.true_or, Bool.or_true, Nat.reduceSub, Nat.reduceLeDiff, Nat.reduceMul, Int.reduceToNat, Int.reduceLT, Int.reduceEq, Int.reduceNeg, and_self, and_true, true_and, and_false, false_and, or_true, true_or, or_false, false_or, Int.cast_ofNat_Int, Nat.reduceBEq, Nat.reduceBNe, beq_self_eq_true, List.take_zero, List.take_succ_cons, List.take_nil]
def bad1 (x : La) : Bool := !(seqR x.1 && (seqR x.2.1 && (decide (gapS x.1 x.2.1 < 16) && (decide (0 ≤ x.2.2) && decide (x.2.2 ≤ 1099511627776)))))
def bad2 (y x : La) : Bool := decide (x.2.2 ≤ y.2.2) || !followsS y.2.1 x.1
def okL : Option La → List La → Bool
  | _, [] => true
  | none, x :: l => !bad1 x && okL (some x) l
  | some y, x :: l => !bad1 x && (!bad2 y x && okL (some x) l)
theorem last_snoc {p : List La} {x : La} : (p ++ [x]).getLast? = some x := by simp

set_option maxHeartbeats 4000000 in
theorem batches_loop (L : List La) (hl : L.length ≤ 1000) (H : Heap) (r : List La) : ∀ (p : List La) (N : Heap), L = p ++ r →
    ∃ M, loopA W loopW (.ghost (.kill k_producer_batches_0) l_producer_batches_0) [(0, .list 3 (L.map laV) .ro), (5, .list 3 (L.map laV) .ro), (6, .int .i64 (L.length : Nat)), (7, .int .i64 (p.length : Nat))] (hx H N) =
      if okL p.getLast? r = true then some (.exit 0, [(0, .list 3 (L.map laV) .ro)], hx H M) else some (.ret, [(2, .bool false)], hx H M) := by
  induction r with
  | nil =>
    intro p N hp
    rw [List.append_nil] at hp
    subst hp
    refine ⟨N, ?_⟩
    have h1 : ¬ ((L.length : Int) < (L.length : Int)) := by omega
    have e : okL L.getLast? [] = true := by cases L.getLast? <;> rfl
    rw [if_pos e]
    refine loop_step l_producer_batches_0.eq_1 k_producer_batches_0.eq_1 (by kernel_rfl) ?_
    simp only [go_sem, h1, not_true_eq_false, not_false_eq_true, decide_true, decide_false, reduceCtorEq, ne_eq, Bool.false_eq_true, ↓reduceIte, Nat.reduceAdd, Nat.reduceEqDiff, Nat.reduceLT, Int.reduceLE, s_shl, s_shr, Bool.not_false, Bool.not_true, Bool.and_self, Bool.true_and, Bool.and_true, Bool.and_false, Bool.false_and, Bool.not_true, Bool.true_or, Bool.or_true, Nat.reduceSub, Nat.reduceLeDiff, Nat.reduceMul, Int.reduceToNat, Int.reduceLT, Int.reduceEq, Int.reduceNeg, and_self, and_true, true_and, and_false, false_and, or_true, true_or, or_false, false_or, Int.cast_ofNat_Int, Nat.reduceBEq, Nat.reduceBNe, beq_self_eq_true, List.take_zero, List.take_succ_cons, List.take_nil]
  | cons x r ih =>
    intro p N hp
    have hlen : L.length = p.length + (r.length + 1) := by rw [hp]; simp
    have h1 : ((p.length : Int) < (L.length : Int)) := by omega
    have e0 : (0 : Int) ≤ (p.length : Int) := by omega
    have e7 : ((p.length : Nat) : Int).toNat = p.length := by omega
    have e1 : (L.map laV)[p.length]? = some (.agg [.int .i64 x.1, .int .i64 x.2.1, .int .i64 x.2.2]) := by rw [hp]; simp [laV]
    have e6 : IntKind.i64.wrap ((p.length : Int) + 1) = ((p.length + 1 : Nat) : Int) := by rw [wrap_id (by unfold I64; omega)]; omega
    have t1 := fun H => Pq.right_spec x.1 H
    have t2 := fun H => Pq.right_spec x.2.1 H
    have t3 := fun H => Pq.gap_spec x.1 x.2.1 H
    rw [rightQ_eq] at t1 t2
    rw [gapQ_eq] at t3
    obtain ⟨M, h2⟩ := ih (p ++ [x]) (N ++ [.cells [.int .i64 x.1, .int .i64 x.2.1, .int .i64 x.2.2]]) (by rw [hp]; simp)
    rw [last_snoc] at h2
    simp only [List.length_append, List.length_cons, List.length_nil, Nat.zero_add] at h2
    have bad : bad1 x = true → okL p.getLast? (x :: r) = false := by
      intro h
      cases p.getLast? <;> simp [okL, h]
    cases d1 : seqR x.1 with
    | false =>
      refine ⟨N ++ [.cells [.int .i64 x.1, .int .i64 x.2.1, .int .i64 x.2.2]], ?_⟩
      rw [d1] at t1
      rw [bad (by unfold bad1; rw [d1]; rfl), if_neg (by decide)]
      refine loop_step l_producer_batches_0.eq_1 k_producer_batches_0.eq_1 (by kernel_rfl) ?_
      simp only [go_sem, h1, e0, e7, e1, t1, not_true_eq_false, not_false_eq_true, decide_true, decide_false, reduceCtorEq, ne_eq, Bool.false_eq_true, ↓reduceIte, Nat.reduceAdd, Nat.reduceEqDiff, Nat.reduceLT, Int.reduceLE, s_shl, s_shr, Bool.not_false, Bool.not_true, Bool.and_self, Bool.true_and, Bool.and_true, Bool.and_false, Bool.false_and, Bool.not_true, Bool.true_or, Bool.or_true, Nat.reduceSub, Nat.reduceLeDiff, Nat.reduceMul, Int.reduceToNat, Int.reduceLT, Int.reduceEq, Int.reduceNeg, and_self, and_true, true_and, and_false, false_and, or_true, true_or, or_false, false_or, Int.cast_ofNat_Int, Nat.reduceBEq, Nat.reduceBNe, beq_self_eq_true, List.take_zero, List.take_succ_cons, List.take_nil]
    | true =>
    rw [d1] at t1
    cases d2 : seqR x.2.1 with
    | false =>
      refine ⟨N ++ [.cells [.int .i64 x.1, .int .i64 x.2.1, .int .i64 x.2.2]], ?_⟩
      rw [d2] at t2
      rw [bad (by unfold bad1; rw [d1, d2]; rfl), if_neg (by decide)]
      refine loop_step l_producer_batches_0.eq_1 k_producer_batches_0.eq_1 (by kernel_rfl) ?_
      simp only [go_sem, h1, e0, e7, e1, t1, t2, not_true_eq_false, not_false_eq_true, decide_true, decide_false, reduceCtorEq, ne_eq, Bool.false_eq_true, ↓reduceIte, Nat.reduceAdd, Nat.reduceEqDiff, Nat.reduceLT, Int.reduceLE, s_shl, s_shr, Bool.not_false, Bool.not_true, Bool.and_self, Bool.true_and, Bool.and_true, Bool.and_false, Bool.false_and, Bool.not_true, Bool.true_or, Bool.or_true, Nat.reduceSub, Nat.reduceLeDiff, Nat.reduceMul, Int.reduceToNat, Int.reduceLT, Int.reduceEq, Int.reduceNeg, and_self, and_true, true_and, and_false, false_and, or_true, true_or, or_false, false_or, Int.cast_ofNat_Int, Nat.reduceBEq, Nat.reduceBNe, beq_self_eq_true, List.take_zero, List.take_succ_cons, List.take_nil]
    | true =>
    rw [d2] at t2
    by_cases d3 : gapS x.1 x.2.1 ≥ 16
    · refine ⟨N ++ [.cells [.int .i64 x.1, .int .i64 x.2.1, .int .i64 x.2.2]], ?_⟩
      rw [bad (by unfold bad1; rw [d1, d2, decide_eq_false (by omega : ¬ gapS x.1 x.2.1 < 16)]; rfl), if_neg (by decide)]
      refine loop_step l_producer_batches_0.eq_1 k_producer_batches_0.eq_1 (by kernel_rfl) ?_
      simp only [go_sem, h1, e0, e7, e1, t1, t2, t3, d3, not_true_eq_false, not_false_eq_true, decide_true, decide_false, reduceCtorEq, ne_eq, Bool.false_eq_true, ↓reduceIte, Nat.reduceAdd, Nat.reduceEqDiff, Nat.reduceLT, Int.reduceLE, s_shl, s_shr, Bool.not_false, Bool.not_true, Bool.and_self, Bool.true_and, Bool.and_true, Bool.and_false, Bool.false_and, Bool.not_true, Bool.true_or, Bool.or_true, Nat.reduceSub, Nat.reduceLeDiff, Nat.reduceMul, Int.reduceToNat, Int.reduceLT, Int.reduceEq, Int.reduceNeg, and_self, and_true, true_and, and_false, false_and, or_true, true_or, or_false, false_or, Int.cast_ofNat_Int, Nat.reduceBEq, Nat.reduceBNe, beq_self_eq_true, List.take_zero, List.take_succ_cons, List.take_nil]
    by_cases d4 : x.2.2 < 0
    · refine ⟨N ++ [.cells [.int .i64 x.1, .int .i64 x.2.1, .int .i64 x.2.2]], ?_⟩
      rw [bad (by unfold bad1; rw [decide_eq_false (by omega : ¬ 0 ≤ x.2.2)]; simp), if_neg (by decide)]
      refine loop_step l_producer_batches_0.eq_1 k_producer_batches_0.eq_1 (by kernel_rfl) ?_
      simp only [go_sem, h1, e0, e7, e1, t1, t2, t3, d3, d4, not_true_eq_false, not_false_eq_true, decide_true, decide_false, reduceCtorEq, ne_eq, Bool.false_eq_true, ↓reduceIte, Nat.reduceAdd, Nat.reduceEqDiff, Nat.reduceLT, Int.reduceLE, s_shl, s_shr, Bool.not_false, Bool.not_true, Bool.and_self, Bool.true_and, Bool.and_true, Bool.and_false, Bool.false_and, Bool.not_true, Bool.true_or, Bool.or_true, Nat.reduceSub, Nat.reduceLeDiff, Nat.reduceMul, Int.reduceToNat, Int.reduceLT, Int.reduceEq, Int.reduceNeg, and_self, and_true, true_and, and_false, false_and, or_true, true_or, or_false, false_or, Int.cast_ofNat_Int, Nat.reduceBEq, Nat.reduceBNe, beq_self_eq_true, List.take_zero, List.take_succ_cons, List.take_nil]
    by_cases d5 : x.2.2 > 1099511627776
    · refine ⟨N ++ [.cells [.int .i64 x.1, .int .i64 x.2.1, .int .i64 x.2.2]], ?_⟩
      rw [bad (by unfold bad1; rw [decide_eq_false (by omega : ¬ x.2.2 ≤ 1099511627776)]; simp), if_neg (by decide)]
      refine loop_step l_producer_batches_0.eq_1 k_producer_batches_0.eq_1 (by kernel_rfl) ?_
      simp only [go_sem, h1, e0, e7, e1, t1, t2, t3, d3, d4, d5, not_true_eq_false, not_false_eq_true, decide_true, decide_false, reduceCtorEq, ne_eq, Bool.false_eq_true, ↓reduceIte, Nat.reduceAdd, Nat.reduceEqDiff, Nat.reduceLT, Int.reduceLE, s_shl, s_shr, Bool.not_false, Bool.not_true, Bool.and_self, Bool.true_and, Bool.and_true, Bool.and_false, Bool.false_and, Bool.not_true, Bool.true_or, Bool.or_true, Nat.reduceSub, Nat.reduceLeDiff, Nat.reduceMul, Int.reduceToNat, Int.reduceLT, Int.reduceEq, Int.reduceNeg, and_self, and_true, true_and, and_false, false_and, or_true, true_or, or_false, false_or, Int.cast_ofNat_Int, Nat.reduceBEq, Nat.reduceBNe, beq_self_eq_true, List.take_zero, List.take_succ_cons, List.take_nil]
    have good : bad1 x = false := by
      unfold bad1
      rw [d1, d2, decide_eq_true (by omega : gapS x.1 x.2.1 < 16), decide_eq_true (by omega : 0 ≤ x.2.2), decide_eq_true (by omega : x.2.2 ≤ 1099511627776)]; rfl
    rcases List.eq_nil_or_concat p with hp0 | ⟨p', y, hp0⟩
    · have g0 : ¬ ((p.length : Int) > 0) := by rw [hp0]; simp
      have ek : okL p.getLast? (x :: r) = okL (some x) r := by rw [hp0]; show (!bad1 x && okL (some x) r) = _; rw [good]; rfl
      rw [ek]
      refine ⟨M, ?_⟩
      obtain ⟨R, hR⟩ : ∃ R, (if okL (some x) r = true then some (Out.exit 0, ([(0, .list 3 (L.map laV) .ro)] : Env), hx H M) else some (.ret, [(2, .bool false)], hx H M)) = some R := by split <;> exact ⟨_, rfl⟩
      rw [hR] at h2 ⊢
      refine loop_step l_producer_batches_0.eq_1 k_producer_batches_0.eq_1 (by kernel_rfl) ?_
      simp only [go_sem, h1, e0, e7, e1, t1, t2, t3, d3, d4, d5, g0, e6, not_true_eq_false, not_false_eq_true, decide_true, decide_false, reduceCtorEq, ne_eq, Bool.false_eq_true, ↓reduceIte, Nat.reduceAdd, Nat.reduceEqDiff, Nat.reduceLT, Int.reduceLE, s_shl, s_shr, Bool.not_false, Bool.not_true, Bool.and_self, Bool.true_and, Bool.and_true, Bool.and_false, Bool.false_and, Bool.not_true, Bool.true_or, Bool.or_true, Nat.reduceSub, Nat.reduceLeDiff, Nat.reduceMul, Int.reduceToNat, Int.reduceLT, Int.reduceEq, Int.reduceNeg, and_self, and_true, true_and, and_false, false_and, or_true, true_or, or_false, false_or, Int.cast_ofNat_Int, Nat.reduceBEq, Nat.reduceBNe, beq_self_eq_true, List.take_zero, List.take_succ_cons, List.take_nil]
      exact h2
    · rw [List.concat_eq_append] at hp0
      have hpl : p.length = p'.length + 1 := by rw [hp0]; simp
      have g0 : ((p.length : Int) > 0) := by omega
      have g1 : IntKind.i64.wrap ((p.length : Int) - 1) = ((p'.length : Nat) : Int) := by rw [wrap_id (by unfold I64; omega)]; omega
      have g2 : (0 : Int) ≤ (p'.length : Int) := by omega
      have g3 : ((p'.length : Nat) : Int).toNat = p'.length := by omega
      have g4 : (L.map laV)[p'.length]? = some (.agg [.int .i64 y.1, .int .i64 y.2.1, .int .i64 y.2.2]) := by rw [hp, hp0]; simp [laV]
      have ek : okL p.getLast? (x :: r) = (!bad2 y x && okL (some x) r) := by rw [hp0, last_snoc]; show (!bad1 x && (!bad2 y x && okL (some x) r)) = _; rw [good]; rfl
      have t4 := fun H => Pq.follows_spec y.2.1 x.1 H
      rw [followsQ_eq] at t4
      rw [ek]
      by_cases d6 : x.2.2 ≤ y.2.2
      · refine ⟨N ++ [.cells [.int .i64 x.1, .int .i64 x.2.1, .int .i64 x.2.2]], ?_⟩
        rw [show bad2 y x = true by unfold bad2; rw [decide_eq_true d6]; rfl, if_neg (by simp)]
        refine loop_step l_producer_batches_0.eq_1 k_producer_batches_0.eq_1 (by kernel_rfl) ?_
        simp only [go_sem, h1, e0, e7, e1, t1, t2, t3, d3, d4, d5, g0, g1, g2, g3, g4, d6, not_true_eq_false, not_false_eq_true, decide_true, decide_false, reduceCtorEq, ne_eq, Bool.false_eq_true, ↓reduceIte, Nat.reduceAdd, Nat.reduceEqDiff, Nat.reduceLT, Int.reduceLE, s_shl, s_shr, Bool.not_false, Bool.not_true, Bool.and_self, Bool.true_and, Bool.and_true, Bool.and_false, Bool.false_and, Bool.not_true, Bool.true_or, Bool.or_true, Nat.reduceSub, Nat.reduceLeDiff, Nat.reduceMul, Int.reduceToNat, Int.reduceLT, Int.reduceEq, Int.reduceNeg, and_self, and_true, true_and, and_false, false_and, or_true, true_or, or_false, false_or, Int.cast_ofNat_Int, Nat.reduceBEq, Nat.reduceBNe, beq_self_eq_true, List.take_zero, List.take_succ_cons, List.take_nil]
      · cases d7 : followsS y.2.1 x.1 with
        | false =>
          refine ⟨N ++ [.cells [.int .i64 x.1, .int .i64 x.2.1, .int .i64 x.2.2]], ?_⟩
          rw [d7] at t4
          rw [show bad2 y x = true by unfold bad2; rw [d7]; simp, if_neg (by simp)]
          refine loop_step l_producer_batches_0.eq_1 k_producer_batches_0.eq_1 (by kernel_rfl) ?_
          simp only [go_sem, h1, e0, e7, e1, t1, t2, t3, d3, d4, d5, g0, g1, g2, g3, g4, d6, t4, not_true_eq_false, not_false_eq_true, decide_true, decide_false, reduceCtorEq, ne_eq, Bool.false_eq_true, ↓reduceIte, Nat.reduceAdd, Nat.reduceEqDiff, Nat.reduceLT, Int.reduceLE, s_shl, s_shr, Bool.not_false, Bool.not_true, Bool.and_self, Bool.true_and, Bool.and_true, Bool.and_false, Bool.false_and, Bool.not_true, Bool.true_or, Bool.or_true, Nat.reduceSub, Nat.reduceLeDiff, Nat.reduceMul, Int.reduceToNat, Int.reduceLT, Int.reduceEq, Int.reduceNeg, and_self, and_true, true_and, and_false, false_and, or_true, true_or, or_false, false_or, Int.cast_ofNat_Int, Nat.reduceBEq, Nat.reduceBNe, beq_self_eq_true, List.take_zero, List.take_succ_cons, List.take_nil]
        | true =>
          refine ⟨M, ?_⟩
          rw [d7] at t4
          rw [show bad2 y x = false by unfold bad2; rw [d7, decide_eq_false d6]; rfl, Bool.not_false, Bool.true_and]
          obtain ⟨R, hR⟩ : ∃ R, (if okL (some x) r = true then some (Out.exit 0, ([(0, .list 3 (L.map laV) .ro)] : Env), hx H M) else some (.ret, [(2, .bool false)], hx H M)) = some R := by split <;> exact ⟨_, rfl⟩
          rw [hR] at h2 ⊢
          refine loop_step l_producer_batches_0.eq_1 k_producer_batches_0.eq_1 (by kernel_rfl) ?_
          simp only [go_sem, h1, e0, e7, e1, t1, t2, t3, d3, d4, d5, g0, g1, g2, g3, g4, d6, t4, e6, not_true_eq_false, not_false_eq_true, decide_true, decide_false, reduceCtorEq, ne_eq, Bool.false_eq_true, ↓reduceIte, Nat.reduceAdd, Nat.reduceEqDiff, Nat.reduceLT, Int.reduceLE, s_shl, s_shr, Bool.not_false, Bool.not_true, Bool.and_self, Bool.true_and, Bool.and_true, Bool.and_false, Bool.false_and, Bool.not_true, Bool.true_or, Bool.or_true, Nat.reduceSub, Nat.reduceLeDiff, Nat.reduceMul, Int.reduceToNat, Int.reduceLT, Int.reduceEq, Int.reduceNeg, and_self, and_true, true_and, and_false, false_and, or_true, true_or, or_false, false_or, Int.cast_ofNat_Int, Nat.reduceBEq, Nat.reduceBNe, beq_self_eq_true, List.take_zero, List.take_succ_cons, List.take_nil]
          exact h2
def rightP (p : Pr) : Bool :=
  decide (p.id ≥ 0) && (decide (p.epoch ≥ 0) && (decide (p.epoch ≤ 32767) && ((okL none p.last && decide (p.last.length ≤ 5)) && (decide (p.open_ ≥ -1) && decide (p.open_ ≤ 1099511627776)))))
theorem batches_spec (L : List La) (hl : L.length ≤ 1000) (H : Heap) : W n_producer_batches [.list 3 (L.map laV) .ro] H = some (.bool (okL none L && decide (L.length ≤ 5)), H) := by
  obtain ⟨M, h⟩ := batches_loop L hl H L [] [] rfl
  rw [show ([] : List La).getLast? = none from rfl] at h
  simp only [List.length_nil, Int.natCast_zero] at h
  cases c : okL none L with
  | false =>
    rw [c, if_neg (by decide)] at h
    rw [Bool.false_and]
    refine W_fn rfl rfl ?_
    simp only [go_sem, c_producer_batches, List.length_map, h, not_true_eq_false, not_false_eq_true, decide_true, decide_false, reduceCtorEq, ne_eq, Bool.false_eq_true, ↓reduceIte, Nat.reduceAdd, Nat.reduceEqDiff, Nat.reduceLT, Int.reduceLE, s_shl, s_shr, Bool.not_false, Bool.not_true, Bool.and_self, Bool.true_and, Bool.and_true, Bool.and_false, Bool.false_and, Bool.not_true, Bool.true_or, Bool.or_true, Nat.reduceSub, Nat.reduceLeDiff, Nat.reduceMul, Int.reduceToNat, Int.reduceLT, Int.reduceEq, Int.reduceNeg, and_self, and_true, true_and, and_false, false_and, or_true, true_or, or_false, false_or, Int.cast_ofNat_Int, Nat.reduceBEq, Nat.reduceBNe, beq_self_eq_true, List.take_zero, List.take_succ_cons, List.take_nil]
  | true =>
    rw [c, if_pos rfl] at h
    rw [Bool.true_and]
    have e : decide ((L.length : Int) ≤ 5) = decide (L.length ≤ 5) := by
      by_cases q : L.length ≤ 5
      · rw [decide_eq_true q, decide_eq_true (by omega)]
      · rw [decide_eq_false q, decide_eq_false (by omega)]
    refine W_fn rfl rfl ?_
    simp only [go_sem, c_producer_batches, List.length_map, h, e, not_true_eq_false, not_false_eq_true, decide_true, decide_false, reduceCtorEq, ne_eq, Bool.false_eq_true, ↓reduceIte, Nat.reduceAdd, Nat.reduceEqDiff, Nat.reduceLT, Int.reduceLE, s_shl, s_shr, Bool.not_false, Bool.not_true, Bool.and_self, Bool.true_and, Bool.and_true, Bool.and_false, Bool.false_and, Bool.not_true, Bool.true_or, Bool.or_true, Nat.reduceSub, Nat.reduceLeDiff, Nat.reduceMul, Int.reduceToNat, Int.reduceLT, Int.reduceEq, Int.reduceNeg, and_self, and_true, true_and, and_false, false_and, or_true, true_or, or_false, false_or, Int.cast_ofNat_Int, Nat.reduceBEq, Nat.reduceBNe, beq_self_eq_true, List.take_zero, List.take_succ_cons, List.take_nil]
theorem pright_spec (p : Pr) (hl : p.last.length ≤ 1000) (H : Heap) : W n_producer_Right [p.V] H = some (.bool (rightP p), H) := by
  have t := fun H => batches_spec p.last hl H
  unfold rightP
  unfold Pr.V Pr.cs
  generalize (okL none p.last && decide (p.last.length ≤ 5)) = B at *
  by_cases c1 : p.id ≥ 0
  · by_cases c2 : p.epoch ≥ 0
    · by_cases c3 : p.epoch ≤ 32767
      · cases B with
        | true =>
          by_cases c4 : p.open_ ≥ -1
          · by_cases c5 : p.open_ ≤ 1099511627776
            · refine W_fn rfl rfl ?_
              simp only [go_sem, c_producer_Right, c1, c2, c3, t, c4, c5, not_true_eq_false, not_false_eq_true, decide_true, decide_false, reduceCtorEq, ne_eq, Bool.false_eq_true, ↓reduceIte, Nat.reduceAdd, Nat.reduceEqDiff, Nat.reduceLT, Int.reduceLE, s_shl, s_shr, Bool.not_false, Bool.not_true, Bool.and_self, Bool.true_and, Bool.and_true, Bool.and_false, Bool.false_and, Bool.not_true, Bool.true_or, Bool.or_true, Nat.reduceSub, Nat.reduceLeDiff, Nat.reduceMul, Int.reduceToNat, Int.reduceLT, Int.reduceEq, Int.reduceNeg, and_self, and_true, true_and, and_false, false_and, or_true, true_or, or_false, false_or, Int.cast_ofNat_Int, Nat.reduceBEq, Nat.reduceBNe, beq_self_eq_true, List.take_zero, List.take_succ_cons, List.take_nil]
            · refine W_fn rfl rfl ?_
              simp only [go_sem, c_producer_Right, c1, c2, c3, t, c4, c5, not_true_eq_false, not_false_eq_true, decide_true, decide_false, reduceCtorEq, ne_eq, Bool.false_eq_true, ↓reduceIte, Nat.reduceAdd, Nat.reduceEqDiff, Nat.reduceLT, Int.reduceLE, s_shl, s_shr, Bool.not_false, Bool.not_true, Bool.and_self, Bool.true_and, Bool.and_true, Bool.and_false, Bool.false_and, Bool.not_true, Bool.true_or, Bool.or_true, Nat.reduceSub, Nat.reduceLeDiff, Nat.reduceMul, Int.reduceToNat, Int.reduceLT, Int.reduceEq, Int.reduceNeg, and_self, and_true, true_and, and_false, false_and, or_true, true_or, or_false, false_or, Int.cast_ofNat_Int, Nat.reduceBEq, Nat.reduceBNe, beq_self_eq_true, List.take_zero, List.take_succ_cons, List.take_nil]
          · refine W_fn rfl rfl ?_
            simp only [go_sem, c_producer_Right, c1, c2, c3, t, c4, not_true_eq_false, not_false_eq_true, decide_true, decide_false, reduceCtorEq, ne_eq, Bool.false_eq_true, ↓reduceIte, Nat.reduceAdd, Nat.reduceEqDiff, Nat.reduceLT, Int.reduceLE, s_shl, s_shr, Bool.not_false, Bool.not_true, Bool.and_self, Bool.true_and, Bool.and_true, Bool.and_false, Bool.false_and, Bool.not_true, Bool.true_or, Bool.or_true, Nat.reduceSub, Nat.reduceLeDiff, Nat.reduceMul, Int.reduceToNat, Int.reduceLT, Int.reduceEq, Int.reduceNeg, and_self, and_true, true_and, and_false, false_and, or_true, true_or, or_false, false_or, Int.cast_ofNat_Int, Nat.reduceBEq, Nat.reduceBNe, beq_self_eq_true, List.take_zero, List.take_succ_cons, List.take_nil]
        | false =>
          refine W_fn rfl rfl ?_
          simp only [go_sem, c_producer_Right, c1, c2, c3, t, not_true_eq_false, not_false_eq_true, decide_true, decide_false, reduceCtorEq, ne_eq, Bool.false_eq_true, ↓reduceIte, Nat.reduceAdd, Nat.reduceEqDiff, Nat.reduceLT, Int.reduceLE, s_shl, s_shr, Bool.not_false, Bool.not_true, Bool.and_self, Bool.true_and, Bool.and_true, Bool.and_false, Bool.false_and, Bool.not_true, Bool.true_or, Bool.or_true, Nat.reduceSub, Nat.reduceLeDiff, Nat.reduceMul, Int.reduceToNat, Int.reduceLT, Int.reduceEq, Int.reduceNeg, and_self, and_true, true_and, and_false, false_and, or_true, true_or, or_false, false_or, Int.cast_ofNat_Int, Nat.reduceBEq, Nat.reduceBNe, beq_self_eq_true, List.take_zero, List.take_succ_cons, List.take_nil]
      · refine W_fn rfl rfl ?_
        simp only [go_sem, c_producer_Right, c1, c2, c3, not_true_eq_false, not_false_eq_true, decide_true, decide_false, reduceCtorEq, ne_eq, Bool.false_eq_true, ↓reduceIte, Nat.reduceAdd, Nat.reduceEqDiff, Nat.reduceLT, Int.reduceLE, s_shl, s_shr, Bool.not_false, Bool.not_true, Bool.and_self, Bool.true_and, Bool.and_true, Bool.and_false, Bool.false_and, Bool.not_true, Bool.true_or, Bool.or_true, Nat.reduceSub, Nat.reduceLeDiff, Nat.reduceMul, Int.reduceToNat, Int.reduceLT, Int.reduceEq, Int.reduceNeg, and_self, and_true, true_and, and_false, false_and, or_true, true_or, or_false, false_or, Int.cast_ofNat_Int, Nat.reduceBEq, Nat.reduceBNe, beq_self_eq_true, List.take_zero, List.take_succ_cons, List.take_nil]
    · refine W_fn rfl rfl ?_
      simp only [go_sem, c_producer_Right, c1, c2, not_true_eq_false, not_false_eq_true, decide_true, decide_false, reduceCtorEq, ne_eq, Bool.false_eq_true, ↓reduceIte, Nat.reduceAdd, Nat.reduceEqDiff, Nat.reduceLT, Int.reduceLE, s_shl, s_shr, Bool.not_false, Bool.not_true, Bool.and_self, Bool.true_and, Bool.and_true, Bool.and_false, Bool.false_and, Bool.not_true, Bool.true_or, Bool.or_true, Nat.reduceSub, Nat.reduceLeDiff, Nat.reduceMul, Int.reduceToNat, Int.reduceLT, Int.reduceEq, Int.reduceNeg, and_self, and_true, true_and, and_false, false_and, or_true, true_or, or_false, false_or, Int.cast_ofNat_Int, Nat.reduceBEq, Nat.reduceBNe, beq_self_eq_true, List.take_zero, List.take_succ_cons, List.take_nil]
  · refine W_fn rfl rfl ?_
    simp only [go_sem, c_producer_Right, c1, not_true_eq_false, not_false_eq_true, decide_true, decide_false, reduceCtorEq, ne_eq, Bool.false_eq_true, ↓reduceIte, Nat.reduceAdd, Nat.reduceEqDiff, Nat.reduceLT, Int.reduceLE, s_shl, s_shr, Bool.not_false, Bool.not_true, Bool.and_self, Bool.true_and, Bool.and_true, Bool.and_false, Bool.false_and, Bool.not_true, Bool.true_or, Bool.or_true, Nat.reduceSub, Nat.reduceLeDiff, Nat.reduceMul, Int.reduceToNat, Int.reduceLT, Int.reduceEq, Int.reduceNeg, and_self, and_true, true_and, and_false, false_and, or_true, true_or, or_false, false_or, Int.cast_ofNat_Int, Nat.reduceBEq, Nat.reduceBNe, beq_self_eq_true, List.take_zero, List.take_succ_cons, List.take_nil]
end Go.Abs

namespace Go.Abs
open Go Go.RowKit
set_option linter.unusedVariables false
set_option linter.unusedSimpArgs false

theorem gapS_neg (a b : Int) : gapS a b < 0 ↔ ¬ (seqR a = true ∧ seqR b = true) := by
  unfold gapS
  split
  · rename_i h
    constructor
    · intro k; omega
    · intro k; exact absurd h k
  · rename_i h
    exact ⟨fun _ => h, fun _ => by omega⟩
set_option maxHeartbeats 4000000 in
theorem rright_loop (q : Pr) (hl : q.last.length ≤ 1000) (H : Heap) (r : List La) : ∀ (p : List La) (N : Heap), q.last = p ++ r →
    ∃ M, loopA W loopW (.ghost (.kill k_ref10_Right_0) l_ref10_Right_0) [(1, .ptr (pt H 0) 0), (36, .list 3 (q.last.map laV) .ro), (37, .int .i64 (q.last.length : Nat)), (38, .int .i64 (p.length : Nat))] (hx H (.cells q.cs :: N)) =
      if okL p.getLast? r = true then some (.exit 0, [], hx H M) else some (.ret, [(2, .bool false)], hx H M) := by
  induction r with
  | nil =>
    intro p N hp
    rw [List.append_nil] at hp
    subst hp
    refine ⟨.cells q.cs :: N, ?_⟩
    have h1 : ¬ ((q.last.length : Int) < (q.last.length : Int)) := by omega
    have e : okL q.last.getLast? [] = true := by cases q.last.getLast? <;> rfl
    rw [if_pos e]
    refine loop_step l_ref10_Right_0.eq_1 k_ref10_Right_0.eq_1 (by kernel_rfl) ?_
    simp only [go_sem, h1, not_true_eq_false, not_false_eq_true, decide_true, decide_false, reduceCtorEq, ne_eq, Bool.false_eq_true, ↓reduceIte, Nat.reduceAdd, Nat.reduceEqDiff, Nat.reduceLT, Int.reduceLE, s_shl, s_shr, Bool.not_false, Bool.not_true, Bool.and_self, Bool.true_and, Bool.and_true, Bool.and_false, Bool.false_and, Bool.not_true, Bool.true_or, Bool.or_true, Nat.reduceSub, Nat.reduceLeDiff, Nat.reduceMul, Int.reduceToNat, Int.reduceLT, Int.reduceEq, Int.reduceNeg, and_self, and_true, true_and, and_false, false_and, or_true, true_or, or_false, false_or, Int.cast_ofNat_Int, Nat.reduceBEq, Nat.reduceBNe, beq_self_eq_true, List.take_zero, List.take_succ_cons, List.take_nil]
  | cons x r ih =>
    intro p N hp
    obtain ⟨L, hL⟩ : ∃ L, q.last = L := ⟨_, rfl⟩
    have hlen : q.last.length = p.length + (r.length + 1) := by rw [hp]; simp
    have h1 : ((p.length : Int) < (q.last.length : Int)) := by omega
    have e0 : (0 : Int) ≤ (p.length : Int) := by omega
    have e7 : ((p.length : Nat) : Int).toNat = p.length := by omega
    have e1 : (q.last.map laV)[p.length]? = some (.agg [.int .i64 x.1, .int .i64 x.2.1, .int .i64 x.2.2]) := by rw [hp]; simp [laV]
    have e6 : IntKind.i64.wrap ((p.length : Int) + 1) = ((p.length + 1 : Nat) : Int) := by rw [wrap_id (by unfold I64; omega)]; omega
    have t3 := fun H => ref_gap_spec x.1 x.2.1 H
    obtain ⟨M, h2⟩ := ih (p ++ [x]) (N ++ [.cells [.int .i64 x.1, .int .i64 x.2.1, .int .i64 x.2.2]]) (by rw [hp]; simp)
    rw [last_snoc] at h2
    simp only [List.length_append, List.length_cons, List.length_nil, Nat.zero_add] at h2
    have bad : bad1 x = true → okL p.getLast? (x :: r) = false := by
      intro h
      cases p.getLast? <;> simp [okL, h]
    have gn := gapS_neg x.1 x.2.1
    have bd : bad1 x = true ↔ (gapS x.1 x.2.1 < 0 ∨ gapS x.1 x.2.1 ≥ 16 ∨ x.2.2 < 0 ∨ x.2.2 > 1099511627776) := by
      unfold bad1
      by_cases g : gapS x.1 x.2.1 < 0
      · have g' := gn.1 g
        constructor
        · intro _; exact .inl g
        · intro _
          cases a1 : seqR x.1 with
          | false => rfl
          | true => cases a2 : seqR x.2.1 with
            | false => rfl
            | true => exact absurd ⟨a1, a2⟩ g'
      · have g' : seqR x.1 = true ∧ seqR x.2.1 = true := Decidable.not_not.1 (fun k => g (gn.2 k))
        rw [g'.1, g'.2]
        simp only [Bool.true_and, Bool.not_eq_true', Bool.and_eq_false_iff, decide_eq_false_iff_not]
        omega
    unfold Pr.cs at *
    by_cases d1 : gapS x.1 x.2.1 < 0
    · refine ⟨.cells [.int .i64 q.id, .int .i64 q.epoch, .list 3 (q.last.map laV) .ro, .int .i64 q.open_] :: (N ++ [.cells [.int .i64 x.1, .int .i64 x.2.1, .int .i64 x.2.2]]), ?_⟩
      rw [bad (bd.2 (.inl d1)), if_neg (by decide)]
      refine loop_step l_ref10_Right_0.eq_1 k_ref10_Right_0.eq_1 (by kernel_rfl) ?_
      simp only [go_sem, h1, e0, e7, e1, t3, d1, not_true_eq_false, not_false_eq_true, decide_true, decide_false, reduceCtorEq, ne_eq, Bool.false_eq_true, ↓reduceIte, Nat.reduceAdd, Nat.reduceEqDiff, Nat.reduceLT, Int.reduceLE, s_shl, s_shr, Bool.not_false, Bool.not_true, Bool.and_self, Bool.true_and, Bool.and_true, Bool.and_false, Bool.false_and, Bool.not_true, Bool.true_or, Bool.or_true, Nat.reduceSub, Nat.reduceLeDiff, Nat.reduceMul, Int.reduceToNat, Int.reduceLT, Int.reduceEq, Int.reduceNeg, and_self, and_true, true_and, and_false, false_and, or_true, true_or, or_false, false_or, Int.cast_ofNat_Int, Nat.reduceBEq, Nat.reduceBNe, beq_self_eq_true, List.take_zero, List.take_succ_cons, List.take_nil]
    by_cases d2 : gapS x.1 x.2.1 ≥ 16
    · refine ⟨.cells [.int .i64 q.id, .int .i64 q.epoch, .list 3 (q.last.map laV) .ro, .int .i64 q.open_] :: (N ++ [.cells [.int .i64 x.1, .int .i64 x.2.1, .int .i64 x.2.2]]), ?_⟩
      rw [bad (bd.2 (.inr (.inl d2))), if_neg (by decide)]
      refine loop_step l_ref10_Right_0.eq_1 k_ref10_Right_0.eq_1 (by kernel_rfl) ?_
      simp only [go_sem, h1, e0, e7, e1, t3, d1, d2, not_true_eq_false, not_false_eq_true, decide_true, decide_false, reduceCtorEq, ne_eq, Bool.false_eq_true, ↓reduceIte, Nat.reduceAdd, Nat.reduceEqDiff, Nat.reduceLT, Int.reduceLE, s_shl, s_shr, Bool.not_false, Bool.not_true, Bool.and_self, Bool.true_and, Bool.and_true, Bool.and_false, Bool.false_and, Bool.not_true, Bool.true_or, Bool.or_true, Nat.reduceSub, Nat.reduceLeDiff, Nat.reduceMul, Int.reduceToNat, Int.reduceLT, Int.reduceEq, Int.reduceNeg, and_self, and_true, true_and, and_false, false_and, or_true, true_or, or_false, false_or, Int.cast_ofNat_Int, Nat.reduceBEq, Nat.reduceBNe, beq_self_eq_true, List.take_zero, List.take_succ_cons, List.take_nil]
    by_cases d3 : x.2.2 < 0
    · refine ⟨.cells [.int .i64 q.id, .int .i64 q.epoch, .list 3 (q.last.map laV) .ro, .int .i64 q.open_] :: (N ++ [.cells [.int .i64 x.1, .int .i64 x.2.1, .int .i64 x.2.2]]), ?_⟩
      rw [bad (bd.2 (.inr (.inr (.inl d3)))), if_neg (by decide)]
      refine loop_step l_ref10_Right_0.eq_1 k_ref10_Right_0.eq_1 (by kernel_rfl) ?_
      simp only [go_sem, h1, e0, e7, e1, t3, d1, d2, d3, not_true_eq_false, not_false_eq_true, decide_true, decide_false, reduceCtorEq, ne_eq, Bool.false_eq_true, ↓reduceIte, Nat.reduceAdd, Nat.reduceEqDiff, Nat.reduceLT, Int.reduceLE, s_shl, s_shr, Bool.not_false, Bool.not_true, Bool.and_self, Bool.true_and, Bool.and_true, Bool.and_false, Bool.false_and, Bool.not_true, Bool.true_or, Bool.or_true, Nat.reduceSub, Nat.reduceLeDiff, Nat.reduceMul, Int.reduceToNat, Int.reduceLT, Int.reduceEq, Int.reduceNeg, and_self, and_true, true_and, and_false, false_and, or_true, true_or, or_false, false_or, Int.cast_ofNat_Int, Nat.reduceBEq, Nat.reduceBNe, beq_self_eq_true, List.take_zero, List.take_succ_cons, List.take_nil]
    by_cases d4 : x.2.2 > 1099511627776
    · refine ⟨.cells [.int .i64 q.id, .int .i64 q.epoch, .list 3 (q.last.map laV) .ro, .int .i64 q.open_] :: (N ++ [.cells [.int .i64 x.1, .int .i64 x.2.1, .int .i64 x.2.2]]), ?_⟩
      rw [bad (bd.2 (.inr (.inr (.inr d4)))), if_neg (by decide)]
      refine loop_step l_ref10_Right_0.eq_1 k_ref10_Right_0.eq_1 (by kernel_rfl) ?_
      simp only [go_sem, h1, e0, e7, e1, t3, d1, d2, d3, d4, not_true_eq_false, not_false_eq_true, decide_true, decide_false, reduceCtorEq, ne_eq, Bool.false_eq_true, ↓reduceIte, Nat.reduceAdd, Nat.reduceEqDiff, Nat.reduceLT, Int.reduceLE, s_shl, s_shr, Bool.not_false, Bool.not_true, Bool.and_self, Bool.true_and, Bool.and_true, Bool.and_false, Bool.false_and, Bool.not_true, Bool.true_or, Bool.or_true, Nat.reduceSub, Nat.reduceLeDiff, Nat.reduceMul, Int.reduceToNat, Int.reduceLT, Int.reduceEq, Int.reduceNeg, and_self, and_true, true_and, and_false, false_and, or_true, true_or, or_false, false_or, Int.cast_ofNat_Int, Nat.reduceBEq, Nat.reduceBNe, beq_self_eq_true, List.take_zero, List.take_succ_cons, List.take_nil]
    have good : bad1 x = false := by
      cases hb : bad1 x with
      | false => rfl
      | true => rcases bd.1 hb with h | h | h | h <;> contradiction
    rcases List.eq_nil_or_concat p with hp0 | ⟨p', y, hp0⟩
    · have g0 : ¬ ((p.length : Int) > 0) := by rw [hp0]; simp
      have ek : okL p.getLast? (x :: r) = okL (some x) r := by rw [hp0]; show (!bad1 x && okL (some x) r) = _; rw [good]; rfl
      rw [ek]
      refine ⟨M, ?_⟩
      obtain ⟨R, hR⟩ : ∃ R, (if okL (some x) r = true then some (Out.exit 0, ([] : Env), hx H M) else some (.ret, [(2, .bool false)], hx H M)) = some R := by split <;> exact ⟨_, rfl⟩
      rw [hR] at h2 ⊢
      refine loop_step l_ref10_Right_0.eq_1 k_ref10_Right_0.eq_1 (by kernel_rfl) ?_
      simp only [go_sem, h1, e0, e7, e1, t3, d1, d2, d3, d4, g0, e6, not_true_eq_false, not_false_eq_true, decide_true, decide_false, reduceCtorEq, ne_eq, Bool.false_eq_true, ↓reduceIte, Nat.reduceAdd, Nat.reduceEqDiff, Nat.reduceLT, Int.reduceLE, s_shl, s_shr, Bool.not_false, Bool.not_true, Bool.and_self, Bool.true_and, Bool.and_true, Bool.and_false, Bool.false_and, Bool.not_true, Bool.true_or, Bool.or_true, Nat.reduceSub, Nat.reduceLeDiff, Nat.reduceMul, Int.reduceToNat, Int.reduceLT, Int.reduceEq, Int.reduceNeg, and_self, and_true, true_and, and_false, false_and, or_true, true_or, or_false, false_or, Int.cast_ofNat_Int, Nat.reduceBEq, Nat.reduceBNe, beq_self_eq_true, List.take_zero, List.take_succ_cons, List.take_nil]
      exact h2
    · rw [List.concat_eq_append] at hp0
      have hpl : p.length = p'.length + 1 := by rw [hp0]; simp
      have g0 : ((p.length : Int) > 0) := by omega
      have g1 : IntKind.i64.wrap ((p.length : Int) - 1) = ((p'.length : Nat) : Int) := by rw [wrap_id (by unfold I64; omega)]; omega
      have g2 : (0 : Int) ≤ (p'.length : Int) := by omega
      have g3 : ((p'.length : Nat) : Int).toNat = p'.length := by omega
      have g4 : (q.last.map laV)[p'.length]? = some (.agg [.int .i64 y.1, .int .i64 y.2.1, .int .i64 y.2.2]) := by rw [hp, hp0]; simp [laV]
      have ek : okL p.getLast? (x :: r) = (!bad2 y x && okL (some x) r) := by rw [hp0, last_snoc]; show (!bad1 x && (!bad2 y x && okL (some x) r)) = _; rw [good]; rfl
      have t4 := fun H => ref_follows_spec y.2.1 x.1 H
      rw [ek]
      by_cases d6 : x.2.2 ≤ y.2.2
      · refine ⟨.cells [.int .i64 q.id, .int .i64 q.epoch, .list 3 (q.last.map laV) .ro, .int .i64 q.open_] :: (N ++ [.cells [.int .i64 x.1, .int .i64 x.2.1, .int .i64 x.2.2]]), ?_⟩
        rw [show bad2 y x = true by unfold bad2; rw [decide_eq_true d6]; rfl, if_neg (by simp)]
        refine loop_step l_ref10_Right_0.eq_1 k_ref10_Right_0.eq_1 (by kernel_rfl) ?_
        simp only [go_sem, h1, e0, e7, e1, t3, d1, d2, d3, d4, g0, g1, g2, g3, g4, d6, not_true_eq_false, not_false_eq_true, decide_true, decide_false, reduceCtorEq, ne_eq, Bool.false_eq_true, ↓reduceIte, Nat.reduceAdd, Nat.reduceEqDiff, Nat.reduceLT, Int.reduceLE, s_shl, s_shr, Bool.not_false, Bool.not_true, Bool.and_self, Bool.true_and, Bool.and_true, Bool.and_false, Bool.false_and, Bool.not_true, Bool.true_or, Bool.or_true, Nat.reduceSub, Nat.reduceLeDiff, Nat.reduceMul, Int.reduceToNat, Int.reduceLT, Int.reduceEq, Int.reduceNeg, and_self, and_true, true_and, and_false, false_and, or_true, true_or, or_false, false_or, Int.cast_ofNat_Int, Nat.reduceBEq, Nat.reduceBNe, beq_self_eq_true, List.take_zero, List.take_succ_cons, List.take_nil]
      · cases d7 : followsS y.2.1 x.1 with
        | false =>
          refine ⟨.cells [.int .i64 q.id, .int .i64 q.epoch, .list 3 (q.last.map laV) .ro, .int .i64 q.open_] :: (N ++ [.cells [.int .i64 x.1, .int .i64 x.2.1, .int .i64 x.2.2]]), ?_⟩
          rw [d7] at t4
          rw [show bad2 y x = true by unfold bad2; rw [d7]; simp, if_neg (by simp)]
          refine loop_step l_ref10_Right_0.eq_1 k_ref10_Right_0.eq_1 (by kernel_rfl) ?_
          simp only [go_sem, h1, e0, e7, e1, t3, d1, d2, d3, d4, g0, g1, g2, g3, g4, d6, t4, not_true_eq_false, not_false_eq_true, decide_true, decide_false, reduceCtorEq, ne_eq, Bool.false_eq_true, ↓reduceIte, Nat.reduceAdd, Nat.reduceEqDiff, Nat.reduceLT, Int.reduceLE, s_shl, s_shr, Bool.not_false, Bool.not_true, Bool.and_self, Bool.true_and, Bool.and_true, Bool.and_false, Bool.false_and, Bool.not_true, Bool.true_or, Bool.or_true, Nat.reduceSub, Nat.reduceLeDiff, Nat.reduceMul, Int.reduceToNat, Int.reduceLT, Int.reduceEq, Int.reduceNeg, and_self, and_true, true_and, and_false, false_and, or_true, true_or, or_false, false_or, Int.cast_ofNat_Int, Nat.reduceBEq, Nat.reduceBNe, beq_self_eq_true, List.take_zero, List.take_succ_cons, List.take_nil]
        | true =>
          refine ⟨M, ?_⟩
          rw [d7] at t4
          rw [show bad2 y x = false by unfold bad2; rw [d7, decide_eq_false d6]; rfl, Bool.not_false, Bool.true_and]
          obtain ⟨R, hR⟩ : ∃ R, (if okL (some x) r = true then some (Out.exit 0, ([] : Env), hx H M) else some (.ret, [(2, .bool false)], hx H M)) = some R := by split <;> exact ⟨_, rfl⟩
          rw [hR] at h2 ⊢
          refine loop_step l_ref10_Right_0.eq_1 k_ref10_Right_0.eq_1 (by kernel_rfl) ?_
          simp only [go_sem, h1, e0, e7, e1, t3, d1, d2, d3, d4, g0, g1, g2, g3, g4, d6, t4, e6, not_true_eq_false, not_false_eq_true, decide_true, decide_false, reduceCtorEq, ne_eq, Bool.false_eq_true, ↓reduceIte, Nat.reduceAdd, Nat.reduceEqDiff, Nat.reduceLT, Int.reduceLE, s_shl, s_shr, Bool.not_false, Bool.not_true, Bool.and_self, Bool.true_and, Bool.and_true, Bool.and_false, Bool.false_and, Bool.not_true, Bool.true_or, Bool.or_true, Nat.reduceSub, Nat.reduceLeDiff, Nat.reduceMul, Int.reduceToNat, Int.reduceLT, Int.reduceEq, Int.reduceNeg, and_self, and_true, true_and, and_false, false_and, or_true, true_or, or_false, false_or, Int.cast_ofNat_Int, Nat.reduceBEq, Nat.reduceBNe, beq_self_eq_true, List.take_zero, List.take_succ_cons, List.take_nil]
          exact h2
end Go.Abs

namespace Go.Abs
open Go Go.RowKit
set_option linter.unusedVariables false
set_option linter.unusedSimpArgs false

set_option maxHeartbeats 1000000 in
theorem rright_spec (p : Pr) (hl : p.last.length ≤ 1000) (H : Heap) : W n_ref10_Right [p.V] H = some (.bool (rightP p), H) := by
  obtain ⟨M, h⟩ := rright_loop p hl H p.last [] [] rfl
  rw [show ([] : List La).getLast? = none from rfl] at h
  simp only [List.length_nil, Int.natCast_zero] at h
  unfold Pr.cs at h
  have no : ∀ x : Bool, x = false → rightP p = x → rightP p = false := fun x h k => by rw [k, h]
  by_cases c1 : p.id < 0
  · rw [show rightP p = false by unfold rightP; rw [decide_eq_false (by omega : ¬ p.id ≥ 0)]; rfl]
    unfold Pr.V Pr.cs
    refine W_fn rfl rfl ?_
    simp only [go_sem, c_ref10_Right, c1, not_true_eq_false, not_false_eq_true, decide_true, decide_false, reduceCtorEq, ne_eq, Bool.false_eq_true, ↓reduceIte, Nat.reduceAdd, Nat.reduceEqDiff, Nat.reduceLT, Int.reduceLE, s_shl, s_shr, Bool.not_false, Bool.not_true, Bool.and_self, Bool.true_and, Bool.and_true, Bool.and_false, Bool.false_and, Bool.not_true, Bool.true_or, Bool.or_true, Nat.reduceSub, Nat.reduceLeDiff, Nat.reduceMul, Int.reduceToNat, Int.reduceLT, Int.reduceEq, Int.reduceNeg, and_self, and_true, true_and, and_false, false_and, or_true, true_or, or_false, false_or, Int.cast_ofNat_Int, Nat.reduceBEq, Nat.reduceBNe, beq_self_eq_true, List.take_zero, List.take_succ_cons, List.take_nil]
  by_cases c2 : p.epoch < 0
  · rw [show rightP p = false by unfold rightP; rw [decide_eq_false (by omega : ¬ p.epoch ≥ 0)]; simp]
    unfold Pr.V Pr.cs
    refine W_fn rfl rfl ?_
    simp only [go_sem, c_ref10_Right, c1, c2, not_true_eq_false, not_false_eq_true, decide_true, decide_false, reduceCtorEq, ne_eq, Bool.false_eq_true, ↓reduceIte, Nat.reduceAdd, Nat.reduceEqDiff, Nat.reduceLT, Int.reduceLE, s_shl, s_shr, Bool.not_false, Bool.not_true, Bool.and_self, Bool.true_and, Bool.and_true, Bool.and_false, Bool.false_and, Bool.not_true, Bool.true_or, Bool.or_true, Nat.reduceSub, Nat.reduceLeDiff, Nat.reduceMul, Int.reduceToNat, Int.reduceLT, Int.reduceEq, Int.reduceNeg, and_self, and_true, true_and, and_false, false_and, or_true, true_or, or_false, false_or, Int.cast_ofNat_Int, Nat.reduceBEq, Nat.reduceBNe, beq_self_eq_true, List.take_zero, List.take_succ_cons, List.take_nil]
  by_cases c3 : p.epoch > 32767
  · rw [show rightP p = false by unfold rightP; rw [decide_eq_false (by omega : ¬ p.epoch ≤ 32767)]; simp]
    unfold Pr.V Pr.cs
    refine W_fn rfl rfl ?_
    simp only [go_sem, c_ref10_Right, c1, c2, c3, not_true_eq_false, not_false_eq_true, decide_true, decide_false, reduceCtorEq, ne_eq, Bool.false_eq_true, ↓reduceIte, Nat.reduceAdd, Nat.reduceEqDiff, Nat.reduceLT, Int.reduceLE, s_shl, s_shr, Bool.not_false, Bool.not_true, Bool.and_self, Bool.true_and, Bool.and_true, Bool.and_false, Bool.false_and, Bool.not_true, Bool.true_or, Bool.or_true, Nat.reduceSub, Nat.reduceLeDiff, Nat.reduceMul, Int.reduceToNat, Int.reduceLT, Int.reduceEq, Int.reduceNeg, and_self, and_true, true_and, and_false, false_and, or_true, true_or, or_false, false_or, Int.cast_ofNat_Int, Nat.reduceBEq, Nat.reduceBNe, beq_self_eq_true, List.take_zero, List.take_succ_cons, List.take_nil]
  by_cases c4 : (p.last.length : Int) > 5
  · rw [show rightP p = false by unfold rightP; rw [decide_eq_false (by omega : ¬ p.last.length ≤ 5)]; simp]
    unfold Pr.V Pr.cs
    refine W_fn rfl rfl ?_
    simp only [go_sem, c_ref10_Right, List.length_map, c1, c2, c3, c4, not_true_eq_false, not_false_eq_true, decide_true, decide_false, reduceCtorEq, ne_eq, Bool.false_eq_true, ↓reduceIte, Nat.reduceAdd, Nat.reduceEqDiff, Nat.reduceLT, Int.reduceLE, s_shl, s_shr, Bool.not_false, Bool.not_true, Bool.and_self, Bool.true_and, Bool.and_true, Bool.and_false, Bool.false_and, Bool.not_true, Bool.true_or, Bool.or_true, Nat.reduceSub, Nat.reduceLeDiff, Nat.reduceMul, Int.reduceToNat, Int.reduceLT, Int.reduceEq, Int.reduceNeg, and_self, and_true, true_and, and_false, false_and, or_true, true_or, or_false, false_or, Int.cast_ofNat_Int, Nat.reduceBEq, Nat.reduceBNe, beq_self_eq_true, List.take_zero, List.take_succ_cons, List.take_nil]
  by_cases c5 : p.open_ < -1
  · rw [show rightP p = false by unfold rightP; rw [decide_eq_false (by omega : ¬ p.open_ ≥ -1)]; simp]
    unfold Pr.V Pr.cs
    refine W_fn rfl rfl ?_
    simp only [go_sem, c_ref10_Right, List.length_map, c1, c2, c3, c4, c5, not_true_eq_false, not_false_eq_true, decide_true, decide_false, reduceCtorEq, ne_eq, Bool.false_eq_true, ↓reduceIte, Nat.reduceAdd, Nat.reduceEqDiff, Nat.reduceLT, Int.reduceLE, s_shl, s_shr, Bool.not_false, Bool.not_true, Bool.and_self, Bool.true_and, Bool.and_true, Bool.and_false, Bool.false_and, Bool.not_true, Bool.true_or, Bool.or_true, Nat.reduceSub, Nat.reduceLeDiff, Nat.reduceMul, Int.reduceToNat, Int.reduceLT, Int.reduceEq, Int.reduceNeg, and_self, and_true, true_and, and_false, false_and, or_true, true_or, or_false, false_or, Int.cast_ofNat_Int, Nat.reduceBEq, Nat.reduceBNe, beq_self_eq_true, List.take_zero, List.take_succ_cons, List.take_nil]
  by_cases c6 : p.open_ > 1099511627776
  · rw [show rightP p = false by unfold rightP; rw [decide_eq_false (by omega : ¬ p.open_ ≤ 1099511627776)]; simp]
    unfold Pr.V Pr.cs
    refine W_fn rfl rfl ?_
    simp only [go_sem, c_ref10_Right, List.length_map, c1, c2, c3, c4, c5, c6, not_true_eq_false, not_false_eq_true, decide_true, decide_false, reduceCtorEq, ne_eq, Bool.false_eq_true, ↓reduceIte, Nat.reduceAdd, Nat.reduceEqDiff, Nat.reduceLT, Int.reduceLE, s_shl, s_shr, Bool.not_false, Bool.not_true, Bool.and_self, Bool.true_and, Bool.and_true, Bool.and_false, Bool.false_and, Bool.not_true, Bool.true_or, Bool.or_true, Nat.reduceSub, Nat.reduceLeDiff, Nat.reduceMul, Int.reduceToNat, Int.reduceLT, Int.reduceEq, Int.reduceNeg, and_self, and_true, true_and, and_false, false_and, or_true, true_or, or_false, false_or, Int.cast_ofNat_Int, Nat.reduceBEq, Nat.reduceBNe, beq_self_eq_true, List.take_zero, List.take_succ_cons, List.take_nil]
  have e : rightP p = okL none p.last := by
    unfold rightP
    rw [decide_eq_true (by omega : p.id ≥ 0), decide_eq_true (by omega : p.epoch ≥ 0), decide_eq_true (by omega : p.epoch ≤ 32767), decide_eq_true (by omega : p.last.length ≤ 5), decide_eq_true (by omega : p.open_ ≥ -1), decide_eq_true (by omega : p.open_ ≤ 1099511627776)]
    simp
  rw [e]
  cases c : okL none p.last with
  | false =>
    rw [c, if_neg (by decide)] at h
    unfold Pr.V Pr.cs
    refine W_fn rfl rfl ?_
    simp only [go_sem, c_ref10_Right, List.length_map, c1, c2, c3, c4, c5, c6, h, not_true_eq_false, not_false_eq_true, decide_true, decide_false, reduceCtorEq, ne_eq, Bool.false_eq_true, ↓reduceIte, Nat.reduceAdd, Nat.reduceEqDiff, Nat.reduceLT, Int.reduceLE, s_shl, s_shr, Bool.not_false, Bool.not_true, Bool.and_self, Bool.true_and, Bool.and_true, Bool.and_false, Bool.false_and, Bool.not_true, Bool.true_or, Bool.or_true, Nat.reduceSub, Nat.reduceLeDiff, Nat.reduceMul, Int.reduceToNat, Int.reduceLT, Int.reduceEq, Int.reduceNeg, and_self, and_true, true_and, and_false, false_and, or_true, true_or, or_false, false_or, Int.cast_ofNat_Int, Nat.reduceBEq, Nat.reduceBNe, beq_self_eq_true, List.take_zero, List.take_succ_cons, List.take_nil]
  | true =>
    rw [c, if_pos rfl] at h
    unfold Pr.V Pr.cs
    refine W_fn rfl rfl ?_
    simp only [go_sem, c_ref10_Right, List.length_map, c1, c2, c3, c4, c5, c6, h, not_true_eq_false, not_false_eq_true, decide_true, decide_false, reduceCtorEq, ne_eq, Bool.false_eq_true, ↓reduceIte, Nat.reduceAdd, Nat.reduceEqDiff, Nat.reduceLT, Int.reduceLE, s_shl, s_shr, Bool.not_false, Bool.not_true, Bool.and_self, Bool.true_and, Bool.and_true, Bool.and_false, Bool.false_and, Bool.not_true, Bool.true_or, Bool.or_true, Nat.reduceSub, Nat.reduceLeDiff, Nat.reduceMul, Int.reduceToNat, Int.reduceLT, Int.reduceEq, Int.reduceNeg, and_self, and_true, true_and, and_false, false_and, or_true, true_or, or_false, false_or, Int.cast_ofNat_Int, Nat.reduceBEq, Nat.reduceBNe, beq_self_eq_true, List.take_zero, List.take_succ_cons, List.take_nil]

theorem same10_loop (q : Pr) (hl : q.last.length ≤ 1000) (H : Heap) (r : List La) : ∀ (p : List La), q.last = p ++ r →
    loopA W loopW (.ghost (.kill k_ref10_Same_0) l_ref10_Same_0) [(2, .ptr (pt H 0) 0), (3, .ptr (pt H 1) 0), (36, .int .i64 (q.last.length : Nat)), (37, .int .i64 (p.length : Nat))] (hx H [.cells q.cs, .cells q.cs]) =
      some (.exit 0, [], hx H [.cells q.cs, .cells q.cs]) := by
  induction r with
  | nil =>
    intro p hp
    rw [List.append_nil] at hp
    have h1 : ¬ ((p.length : Int) < (q.last.length : Int)) := by rw [hp]; omega
    refine loop_step l_ref10_Same_0.eq_1 k_ref10_Same_0.eq_1 (by kernel_rfl) ?_
    simp only [go_sem, h1, not_true_eq_false, not_false_eq_true, decide_true, decide_false, reduceCtorEq, ne_eq, Bool.false_eq_true, ↓reduceIte, Nat.reduceAdd, Nat.reduceEqDiff, Nat.reduceLT, Int.reduceLE, s_shl, s_shr, Bool.not_false, Bool.not_true, Bool.and_self, Bool.true_and, Bool.and_true, Bool.and_false, Bool.false_and, Bool.not_true, Bool.true_or, Bool.or_true, Nat.reduceSub, Nat.reduceLeDiff, Nat.reduceMul, Int.reduceToNat, Int.reduceLT, Int.reduceEq, Int.reduceNeg, and_self, and_true, true_and, and_false, false_and, or_true, true_or, or_false, false_or, Int.cast_ofNat_Int, Nat.reduceBEq, Nat.reduceBNe, beq_self_eq_true, List.take_zero, List.take_succ_cons, List.take_nil]
  | cons x r ih =>
    intro p hp
    have hlen : q.last.length = p.length + (r.length + 1) := by rw [hp]; simp
    have h1 : ((p.length : Int) < (q.last.length : Int)) := by omega
    have e0 : (0 : Int) ≤ (p.length : Int) := by omega
    have e7 : ((p.length : Nat) : Int).toNat = p.length := by omega
    have e1 : (q.last.map laV)[p.length]? = some (.agg [.int .i64 x.1, .int .i64 x.2.1, .int .i64 x.2.2]) := by rw [hp]; simp [laV]
    have e6 : IntKind.i64.wrap ((p.length : Int) + 1) = ((p.length + 1 : Nat) : Int) := by rw [wrap_id (by unfold I64; omega)]; omega
    have hq : eqCells [.int .i64, .int .i64, .int .i64] [.int .i64 x.1, .int .i64 x.2.1, .int .i64 x.2.2] [.int .i64 x.1, .int .i64 x.2.1, .int .i64 x.2.2] = some true := by simp [eqCells]
    have h2 := ih (p ++ [x]) (by rw [hp]; simp)
    simp only [List.length_append, List.length_cons, List.length_nil, Nat.zero_add] at h2
    unfold Pr.cs at *
    refine loop_step l_ref10_Same_0.eq_1 k_ref10_Same_0.eq_1 (by kernel_rfl) ?_
    simp only [go_sem, h1, e0, e7, e1, hq, e6, not_true_eq_false, not_false_eq_true, decide_true, decide_false, reduceCtorEq, ne_eq, Bool.false_eq_true, ↓reduceIte, Nat.reduceAdd, Nat.reduceEqDiff, Nat.reduceLT, Int.reduceLE, s_shl, s_shr, Bool.not_false, Bool.not_true, Bool.and_self, Bool.true_and, Bool.and_true, Bool.and_false, Bool.false_and, Bool.not_true, Bool.true_or, Bool.or_true, Nat.reduceSub, Nat.reduceLeDiff, Nat.reduceMul, Int.reduceToNat, Int.reduceLT, Int.reduceEq, Int.reduceNeg, and_self, and_true, true_and, and_false, false_and, or_true, true_or, or_false, false_or, Int.cast_ofNat_Int, Nat.reduceBEq, Nat.reduceBNe, beq_self_eq_true, List.take_zero, List.take_succ_cons, List.take_nil]
    exact h2
theorem same10_spec (p : Pr) (hl : p.last.length ≤ 1000) (H : Heap) : W n_ref10_Same [p.V, p.V] H = some (.bool true, H) := by
  have h := same10_loop p hl H p.last [] rfl
  simp only [List.length_nil, Int.natCast_zero] at h
  unfold Pr.V
  unfold Pr.cs at *
  refine W_fn rfl rfl ?_
  simp only [go_sem, c_ref10_Same, List.length_map, h, not_true_eq_false, not_false_eq_true, decide_true, decide_false, reduceCtorEq, ne_eq, Bool.false_eq_true, ↓reduceIte, Nat.reduceAdd, Nat.reduceEqDiff, Nat.reduceLT, Int.reduceLE, s_shl, s_shr, Bool.not_false, Bool.not_true, Bool.and_self, Bool.true_and, Bool.and_true, Bool.and_false, Bool.false_and, Bool.not_true, Bool.true_or, Bool.or_true, Nat.reduceSub, Nat.reduceLeDiff, Nat.reduceMul, Int.reduceToNat, Int.reduceLT, Int.reduceEq, Int.reduceNeg, and_self, and_true, true_and, and_false, false_and, or_true, true_or, or_false, false_or, Int.cast_ofNat_Int, Nat.reduceBEq, Nat.reduceBNe, beq_self_eq_true, List.take_zero, List.take_succ_cons, List.take_nil]

set_option maxHeartbeats 1000000 in
theorem lsame10_spec (p : Pr) (k : Bool) (b : Ba) (hl : p.last.length ≤ 100) (hr : b.recs.length ≤ 1000) (H : Heap) : W n_law10_same [p.V, .bool k, b.V] H = some (.bool true, H) := by
  have t1 := fun H => pcheck_spec p k b (by omega) hr H
  have t2 := fun H => ref_check_spec p k b (by omega) H
  have t3 := fun H => pdup_spec p b (by omega) hr H
  have t4 := fun H => ref_dup_spec p b (by omega) H
  have t5 := fun H => papply_spec p k b (by omega) hr H
  have t6 := fun H => ref_apply_spec p k b (by omega) H
  have hal : (applyP p k b).last.length ≤ 1000 := by
    unfold applyP
    split
    · simp only [lastsP]; split
      · omega
      · simp
    · simp only [List.length_drop]; omega
  have t7 := fun H => same10_spec (applyP p k b) hal H
  have t8 := fun H => pright_spec p (by omega) H
  have t9 := fun H => rright_spec p (by omega) H
  generalize checkP p k b = c at *
  generalize (dupP p b).getD (-1) = d at *
  generalize (dupP p b).isSome = d2 at *
  generalize applyP p k b = a at *
  generalize rightP p = R at *
  unfold Pr.V Pr.cs Ba.V Ba.cs at *
  refine W_fn rfl rfl ?_
  simp only [go_sem, c_law10_same, t1, t2, t3, t4, t5, t6, t7, t8, t9, beq_self_eq_true, not_true_eq_false, not_false_eq_true, decide_true, decide_false, reduceCtorEq, ne_eq, Bool.false_eq_true, ↓reduceIte, Nat.reduceAdd, Nat.reduceEqDiff, Nat.reduceLT, Int.reduceLE, s_shl, s_shr, Bool.not_false, Bool.not_true, Bool.and_self, Bool.true_and, Bool.and_true, Bool.and_false, Bool.false_and, Bool.not_true, Bool.true_or, Bool.or_true, Nat.reduceSub, Nat.reduceLeDiff, Nat.reduceMul, Int.reduceToNat, Int.reduceLT, Int.reduceEq, Int.reduceNeg, and_self, and_true, true_and, and_false, false_and, or_true, true_or, or_false, false_or, Int.cast_ofNat_Int, Nat.reduceBEq, Nat.reduceBNe, beq_self_eq_true, List.take_zero, List.take_succ_cons, List.take_nil]
end Go.Abs

namespace Go.Abs
open Go Go.RowKit
set_option linter.unusedVariables false
set_option linter.unusedSimpArgs false

/-! ## odd -/
def turnLa (w n : Int) (x : La) : La := if w % 2 = 0 then (n, x.2.1, x.2.2) else (x.1, n, x.2.2)
def turnL (w n : Int) (l : List La) : List La := match l.getLast? with
  | none => l
  | some x => l.set (l.length - 1) (turnLa w n x)
def oddP (p : Pr) (k w n : Int) : Pr :=
  if k = 0 then { p with id := n } else if k = 1 then { p with epoch := n } else if k = 2 then { p with open_ := n }
  else if k = 3 then { p with last := p.last ++ [(n, n, n)] } else if k = 4 then { p with last := [] }
  else { p with last := turnL w n p.last }
theorem oddP_len (p : Pr) (k w n : Int) : (oddP p k w n).last.length ≤ p.last.length + 1 := by
  unfold oddP turnL
  repeat' split
  all_goals (simp only [List.length_append, List.length_cons, List.length_nil, List.length_set]; omega)
theorem thaw_p (a b d : AVal) (Xs : List AVal) (Z : Box) (e : Env) (H : Heap) (h1 : Env.get e 3 = .ptr (pt H 0) 0) :
    agh (.thawC 3 2) e (hx H [.cells [a, b, .list 3 Xs .uniq, d], Z]) = some (e, hx H [.cells [a, b, .lbox (pt H 2), d], Z, .arr 3 Xs]) := by
  have g : (hx H [.cells [a, b, .list 3 Xs .uniq, d], Z])[pt H 0]? = some (.cells [a, b, .list 3 Xs .uniq, d]) := by rw [hx_get]; rfl
  have l : (hx H [.cells [a, b, .list 3 Xs .uniq, d], Z]).length = pt H 2 := by unfold hx pt; simp
  have s : ∀ B, (hx H [.cells [a, b, .list 3 Xs .uniq, d], Z]).set (pt H 0) B = hx H [B, Z] := fun B => by rw [hx_set]; rfl
  simp only [agh, h1, g, Nat.zero_add, List.getElem?_cons_succ, List.getElem?_cons_zero, l, s, List.set_cons_succ, List.set_cons_zero]
  unfold hx
  rw [List.append_assoc]; rfl
theorem back_p (a b d : AVal) (Xs : List AVal) (Z : Box) (e : Env) (H : Heap) (h1 : Env.get e 3 = .ptr (pt H 0) 0) :
    agh (.backC 3 2) e (hx H [.cells [a, b, .lbox (pt H 2), d], Z, .arr 3 Xs]) = some (e, hx H [.cells [a, b, .list 3 Xs .uniq, d], Z, .dead]) := by
  have g : (hx H [.cells [a, b, .lbox (pt H 2), d], Z, .arr 3 Xs])[pt H 0]? = some (.cells [a, b, .lbox (pt H 2), d]) := by rw [hx_get]; rfl
  have g2 : (hx H [.cells [a, b, .lbox (pt H 2), d], Z, .arr 3 Xs])[pt H 2]? = some (.arr 3 Xs) := by rw [hx_get]; rfl
  have s : ∀ B, (hx H [.cells [a, b, .lbox (pt H 2), d], Z, .arr 3 Xs]).set (pt H 0) B = hx H [B, Z, .arr 3 Xs] := fun B => by rw [hx_set]; rfl
  have s2 : ∀ A B, (hx H [A, Z, .arr 3 Xs]).set (pt H 2) B = hx H [A, Z, B] := fun A B => by rw [hx_set]; rfl
  simp only [agh, h1, g, g2, Nat.zero_add, List.getElem?_cons_succ, List.getElem?_cons_zero, s, s2, List.set_cons_succ, List.set_cons_zero]
theorem back_pl (a b d : AVal) (Xs : List AVal) (fl : Fl) (N : Heap) (e : Env) (H : Heap) (h1 : Env.get e 3 = .ptr (pt H 0) 0) :
    agh (.backC 3 2) e (hx H (.cells [a, b, .list 3 Xs fl, d] :: N)) = some (e, hx H (.cells [a, b, .list 3 Xs fl, d] :: N)) := by
  have g : (hx H (.cells [a, b, .list 3 Xs fl, d] :: N))[pt H 0]? = some (.cells [a, b, .list 3 Xs fl, d]) := by rw [hx_get]; rfl
  simp only [agh, h1, g, Nat.zero_add, List.getElem?_cons_succ, List.getElem?_cons_zero]
theorem freeze_p (a b d : AVal) (Xs : List AVal) (N : Heap) (e : Env) (H : Heap) (h1 : Env.get e 3 = .ptr (pt H 0) 0) :
    agh (.freezeC 3 2) e (hx H (.cells [a, b, .list 3 Xs .uniq, d] :: N)) = some (e, hx H (.cells [a, b, .list 3 Xs .own, d] :: N)) := by
  have g : (hx H (.cells [a, b, .list 3 Xs .uniq, d] :: N))[pt H 0]? = some (.cells [a, b, .list 3 Xs .uniq, d]) := by rw [hx_get]; rfl
  have s : ∀ B, (hx H (.cells [a, b, .list 3 Xs .uniq, d] :: N)).set (pt H 0) B = hx H (B :: N) := fun B => by rw [hx_set]; rfl
  simp only [agh, h1, g, Nat.zero_add, List.getElem?_cons_succ, List.getElem?_cons_zero, s, List.set_cons_succ, List.set_cons_zero]
theorem freeze_pf (a b d : AVal) (N : Heap) (e : Env) (H : Heap) (h1 : Env.get e 3 = .ptr (pt H 0) 0) :
    agh (.freezeC 3 2) e (hx H (.cells [a, b, .list 3 [] .full, d] :: N)) = some (e, hx H (.cells [a, b, .list 3 [] .full, d] :: N)) := by
  have g : (hx H (.cells [a, b, .list 3 [] .full, d] :: N))[pt H 0]? = some (.cells [a, b, .list 3 [] .full, d]) := by rw [hx_get]; rfl
  simp only [agh, h1, g, Nat.zero_add, List.getElem?_cons_succ, List.getElem?_cons_zero]
theorem len_p (A Z : Box) (Xs : List AVal) (H : Heap) : ev W (.len false) [.lbox (pt H 2)] (hx H [A, Z, .arr 3 Xs]) = some (.int .i64 Xs.length, hx H [A, Z, .arr 3 Xs]) := by
  have g : (hx H [A, Z, .arr 3 Xs])[pt H 2]? = some (.arr 3 Xs) := by rw [hx_get]; rfl
  simp only [ev, g]; rfl
theorem ix_p (k : Nat) (A Z : Box) (Xs : List AVal) (hk : k < Xs.length) (H : Heap) : ev W (.ixAddr 3) [.lbox (pt H 2), .int .i64 (k : Nat)] (hx H [A, Z, .arr 3 Xs]) = some (.eptr (pt H 2) k 0, hx H [A, Z, .arr 3 Xs]) := by
  have g : (hx H [A, Z, .arr 3 Xs])[pt H 2]? = some (.arr 3 Xs) := by rw [hx_get]; rfl
  simp only [ev, g]
  rw [if_pos (by refine ⟨?_, ?_, ?_⟩ <;> first | trivial | omega)]
  simp
theorem st_p (j : Nat) (hj : j = 0 ∨ j = 1) (n : Int) (l' : List La) (x : La) (A Z : Box) (H : Heap) :
    evStore 1 (.eptr (pt H 2) l'.length j) (.int .i64 n) (hx H [A, Z, .arr 3 ((l' ++ [x]).map laV)]) = some (.tuple [], hx H [A, Z, .arr 3 ((l' ++ [if j = 0 then (n, x.2.1, x.2.2) else (x.1, n, x.2.2)]).map laV)]) := by
  have g : (hx H [A, Z, .arr 3 ((l' ++ [x]).map laV)])[pt H 2]? = some (.arr 3 ((l' ++ [x]).map laV)) := by rw [hx_get]; rfl
  have g2 : ((l' ++ [x]).map laV)[l'.length]? = some (laV x) := by simp
  have s : ∀ B, (hx H [A, Z, .arr 3 ((l' ++ [x]).map laV)]).set (pt H 2) B = hx H [A, Z, B] := fun B => by rw [hx_set]; rfl
  unfold evStore
  rw [if_pos (by simp [AVal.flat, AVal.share0, AVal.one])]
  simp only [g, g2]
  have hm : ∀ y : AVal, ((l' ++ [x]).map laV).set l'.length y = l'.map laV ++ [y] := fun y => by simp
  rcases hj with rfl | rfl
  · rw [if_pos (by simp [laV, AVal.cells, AVal.flat, AVal.argOK, AVal.isU]), s, hm]
    simp [laV, AVal.withCells, AVal.cells, AVal.flat, AVal.share0, AVal.strip, overwrite]
  · rw [if_pos (by simp [laV, AVal.cells, AVal.flat, AVal.argOK, AVal.isU]), s, hm]
    simp [laV, AVal.withCells, AVal.cells, AVal.flat, AVal.share0, AVal.strip, overwrite]
theorem apU3 (xs : List AVal) (h : xs.length * 24 ≤ maxBytes) : evAppend 3 24 true (.list 3 [] .full) xs = some (.list 3 xs .uniq) := by
  simp only [evAppend]
  rw [if_pos (by simpa using h)]
  rfl
theorem apV3 (xs ys : List AVal) (h : (xs.length + ys.length) * 24 ≤ maxBytes) : evAppend 3 24 false (.list 3 xs .uniq) ys = some (.list 3 (xs ++ ys) .uniq) := by
  simp only [evAppend]
  rw [if_pos (by simpa using h)]
  
set_option maxHeartbeats 2000000 in
theorem odd10_spec (p : Pr) (hl : p.last.length ≤ 100) (w n : Int) (H : Heap) :
    W n_law10_odd [p.V, .int .i64 w, .int .i64 n] H = some ((oddP p (withinQ w 0 6) w n).V, H) := by
  have t0 := fun H => within_spec w 0 6 H (by omega) (by omega) (by omega)
  generalize withinQ w 0 6 = k at *
  have bx : (p.last.map laV).length * 24 ≤ maxBytes := by rw [List.length_map]; simp only [maxBytes]; omega
  have ta := apU3 (p.last.map laV) bx
  have tv := apV3 (p.last.map laV) [.agg [.int .i64 n, .int .i64 n, .int .i64 n]] (by simp only [List.length_map, List.length_cons, List.length_nil, maxBytes]; omega)
  have tw := fun a b d Z e h => thaw_p a b d (p.last.map laV) Z e H h
  have tb := fun a b d Ys fl N e h => back_pl a b d Ys fl N e H h
  have tf := fun a b d Ys N e h => freeze_p a b d Ys N e H h
  have tff := fun a b d N e h => freeze_pf a b d N e H h
  have tl := fun A Z => len_p A Z (p.last.map laV) H
  have tbb := fun a b d Ys Z e h => back_p a b d Ys Z e H h
  have ek : p.last.map laV ++ [.agg [.int .i64 n, .int .i64 n, .int .i64 n]] = (p.last ++ [(n, n, n)]).map laV := by simp [laV]
  have a1 : bits .and .i64 w 1 = w % 2 := and_1 w
  unfold oddP
  by_cases c0 : k = 0
  · rw [if_pos c0]
    unfold Pr.V Pr.cs
    refine W_fn rfl rfl ?_
    simp only [go_sem, c_law10_odd, ta, t0, eq_true c0, tb, tf, under_la, not_true_eq_false, not_false_eq_true, decide_true, decide_false, reduceCtorEq, ne_eq, Bool.false_eq_true, ↓reduceIte, Nat.reduceAdd, Nat.reduceEqDiff, Nat.reduceLT, Int.reduceLE, s_shl, s_shr, Bool.not_false, Bool.not_true, Bool.and_self, Bool.true_and, Bool.and_true, Bool.and_false, Bool.false_and, Bool.not_true, Bool.true_or, Bool.or_true, Nat.reduceSub, Nat.reduceLeDiff, Nat.reduceMul, Int.reduceToNat, Int.reduceLT, Int.reduceEq, Int.reduceNeg, and_self, and_true, true_and, and_false, false_and, or_true, true_or, or_false, false_or, Int.cast_ofNat_Int, Nat.reduceBEq, Nat.reduceBNe, beq_self_eq_true, List.take_zero, List.take_succ_cons, List.take_nil]
  rw [if_neg c0]
  by_cases c1 : k = 1
  · rw [if_pos c1]
    unfold Pr.V Pr.cs
    refine W_fn rfl rfl ?_
    simp only [go_sem, c_law10_odd, ta, t0, c0, eq_true c1, tb, tf, under_la, not_true_eq_false, not_false_eq_true, decide_true, decide_false, reduceCtorEq, ne_eq, Bool.false_eq_true, ↓reduceIte, Nat.reduceAdd, Nat.reduceEqDiff, Nat.reduceLT, Int.reduceLE, s_shl, s_shr, Bool.not_false, Bool.not_true, Bool.and_self, Bool.true_and, Bool.and_true, Bool.and_false, Bool.false_and, Bool.not_true, Bool.true_or, Bool.or_true, Nat.reduceSub, Nat.reduceLeDiff, Nat.reduceMul, Int.reduceToNat, Int.reduceLT, Int.reduceEq, Int.reduceNeg, and_self, and_true, true_and, and_false, false_and, or_true, true_or, or_false, false_or, Int.cast_ofNat_Int, Nat.reduceBEq, Nat.reduceBNe, beq_self_eq_true, List.take_zero, List.take_succ_cons, List.take_nil]
  rw [if_neg c1]
  by_cases c2 : k = 2
  · rw [if_pos c2]
    unfold Pr.V Pr.cs
    refine W_fn rfl rfl ?_
    simp only [go_sem, c_law10_odd, ta, t0, c0, c1, eq_true c2, tb, tf, under_la, not_true_eq_false, not_false_eq_true, decide_true, decide_false, reduceCtorEq, ne_eq, Bool.false_eq_true, ↓reduceIte, Nat.reduceAdd, Nat.reduceEqDiff, Nat.reduceLT, Int.reduceLE, s_shl, s_shr, Bool.not_false, Bool.not_true, Bool.and_self, Bool.true_and, Bool.and_true, Bool.and_false, Bool.false_and, Bool.not_true, Bool.true_or, Bool.or_true, Nat.reduceSub, Nat.reduceLeDiff, Nat.reduceMul, Int.reduceToNat, Int.reduceLT, Int.reduceEq, Int.reduceNeg, and_self, and_true, true_and, and_false, false_and, or_true, true_or, or_false, false_or, Int.cast_ofNat_Int, Nat.reduceBEq, Nat.reduceBNe, beq_self_eq_true, List.take_zero, List.take_succ_cons, List.take_nil]
  rw [if_neg c2]
  by_cases c3 : k = 3
  · rw [if_pos c3]
    unfold Pr.V Pr.cs
    refine W_fn rfl rfl ?_
    simp only [go_sem, c_law10_odd, ta, t0, c0, c1, c2, eq_true c3, tv, ek, tb, tf, under_la, not_true_eq_false, not_false_eq_true, decide_true, decide_false, reduceCtorEq, ne_eq, Bool.false_eq_true, ↓reduceIte, Nat.reduceAdd, Nat.reduceEqDiff, Nat.reduceLT, Int.reduceLE, s_shl, s_shr, Bool.not_false, Bool.not_true, Bool.and_self, Bool.true_and, Bool.and_true, Bool.and_false, Bool.false_and, Bool.not_true, Bool.true_or, Bool.or_true, Nat.reduceSub, Nat.reduceLeDiff, Nat.reduceMul, Int.reduceToNat, Int.reduceLT, Int.reduceEq, Int.reduceNeg, and_self, and_true, true_and, and_false, false_and, or_true, true_or, or_false, false_or, Int.cast_ofNat_Int, Nat.reduceBEq, Nat.reduceBNe, beq_self_eq_true, List.take_zero, List.take_succ_cons, List.take_nil]
  rw [if_neg c3]
  by_cases c4 : k = 4
  · rw [if_pos c4]
    unfold Pr.V Pr.cs
    refine W_fn rfl rfl ?_
    simp only [go_sem, c_law10_odd, ta, t0, c0, c1, c2, c3, eq_true c4, tb, tff, under_la, List.map_nil, not_true_eq_false, not_false_eq_true, decide_true, decide_false, reduceCtorEq, ne_eq, Bool.false_eq_true, ↓reduceIte, Nat.reduceAdd, Nat.reduceEqDiff, Nat.reduceLT, Int.reduceLE, s_shl, s_shr, Bool.not_false, Bool.not_true, Bool.and_self, Bool.true_and, Bool.and_true, Bool.and_false, Bool.false_and, Bool.not_true, Bool.true_or, Bool.or_true, Nat.reduceSub, Nat.reduceLeDiff, Nat.reduceMul, Int.reduceToNat, Int.reduceLT, Int.reduceEq, Int.reduceNeg, and_self, and_true, true_and, and_false, false_and, or_true, true_or, or_false, false_or, Int.cast_ofNat_Int, Nat.reduceBEq, Nat.reduceBNe, beq_self_eq_true, List.take_zero, List.take_succ_cons, List.take_nil]
  rw [if_neg c4]
  unfold turnL turnLa
  rcases List.eq_nil_or_concat p.last with hp0 | ⟨l', x, hp0⟩
  · rw [hp0] at ta tw tl ⊢
    simp only [List.getLast?_nil, List.map_nil] at ta tw tl ⊢
    unfold Pr.V Pr.cs
    rw [hp0]
    refine W_fn rfl rfl ?_
    simp only [go_sem, c_law10_odd, ta, t0, c0, c1, c2, c3, c4, tw, tl, List.map_nil, List.length_nil, Int.natCast_zero, gt_iff_lt, Int.lt_irrefl, tbb, tf, under_la, not_true_eq_false, not_false_eq_true, decide_true, decide_false, reduceCtorEq, ne_eq, Bool.false_eq_true, ↓reduceIte, Nat.reduceAdd, Nat.reduceEqDiff, Nat.reduceLT, Int.reduceLE, s_shl, s_shr, Bool.not_false, Bool.not_true, Bool.and_self, Bool.true_and, Bool.and_true, Bool.and_false, Bool.false_and, Bool.not_true, Bool.true_or, Bool.or_true, Nat.reduceSub, Nat.reduceLeDiff, Nat.reduceMul, Int.reduceToNat, Int.reduceLT, Int.reduceEq, Int.reduceNeg, and_self, and_true, true_and, and_false, false_and, or_true, true_or, or_false, false_or, Int.cast_ofNat_Int, Nat.reduceBEq, Nat.reduceBNe, beq_self_eq_true, List.take_zero, List.take_succ_cons, List.take_nil]
  · rw [List.concat_eq_append] at hp0
    have hg : p.last.getLast? = some x := by rw [hp0]; simp
    have hln : p.last.length = l'.length + 1 := by rw [hp0]; simp
    have j1 : ((p.last.length : Nat) : Int) > 0 := by omega
    have w1 : IntKind.i64.wrap ((p.last.length : Int) - 1) = ((l'.length : Nat) : Int) := by rw [wrap_id (by unfold I64; omega)]; omega
    have tx := fun A Z => ix_p l'.length A Z (p.last.map laV) (by rw [List.length_map]; omega) H
    have hset : ∀ y : La, p.last.set (p.last.length - 1) y = l' ++ [y] := fun y => by rw [hln, hp0]; simp
    rw [hg]
    simp only
    rw [hset]
    by_cases cw : w % 2 = 0
    · rw [if_pos cw]
      have a0 : bits .and .i64 w 1 = 0 := by rw [a1, cw]
      have ts := fun A Z => st_p 0 (.inl rfl) n l' x A Z H
      rw [← hp0] at ts
      simp only [if_true] at ts
      unfold Pr.V Pr.cs
      generalize l' ++ [(n, x.2.1, x.2.2)] = Y at *
      refine W_fn rfl rfl ?_
      simp only [go_sem, c_law10_odd, ta, t0, c0, c1, c2, c3, c4, tw, tl, List.length_map, j1, w1, a0, tx, ts, tbb, tf, under_la, not_true_eq_false, not_false_eq_true, decide_true, decide_false, reduceCtorEq, ne_eq, Bool.false_eq_true, ↓reduceIte, Nat.reduceAdd, Nat.reduceEqDiff, Nat.reduceLT, Int.reduceLE, s_shl, s_shr, Bool.not_false, Bool.not_true, Bool.and_self, Bool.true_and, Bool.and_true, Bool.and_false, Bool.false_and, Bool.not_true, Bool.true_or, Bool.or_true, Nat.reduceSub, Nat.reduceLeDiff, Nat.reduceMul, Int.reduceToNat, Int.reduceLT, Int.reduceEq, Int.reduceNeg, and_self, and_true, true_and, and_false, false_and, or_true, true_or, or_false, false_or, Int.cast_ofNat_Int, Nat.reduceBEq, Nat.reduceBNe, beq_self_eq_true, List.take_zero, List.take_succ_cons, List.take_nil]
    · rw [if_neg cw]
      have cw1 : w % 2 = 1 := by omega
      have a0 : bits .and .i64 w 1 = 1 := by rw [a1, cw1]
      have ts := fun A Z => st_p 1 (.inr rfl) n l' x A Z H
      rw [← hp0] at ts
      simp only [Nat.one_ne_zero, if_false] at ts
      unfold Pr.V Pr.cs
      generalize l' ++ [(x.1, n, x.2.2)] = Y at *
      refine W_fn rfl rfl ?_
      simp only [go_sem, c_law10_odd, ta, t0, c0, c1, c2, c3, c4, tw, tl, List.length_map, j1, w1, a0, tx, ts, tbb, tf, under_la, not_true_eq_false, not_false_eq_true, decide_true, decide_false, reduceCtorEq, ne_eq, Bool.false_eq_true, ↓reduceIte, Nat.reduceAdd, Nat.reduceEqDiff, Nat.reduceLT, Int.reduceLE, s_shl, s_shr, Bool.not_false, Bool.not_true, Bool.and_self, Bool.true_and, Bool.and_true, Bool.and_false, Bool.false_and, Bool.not_true, Bool.true_or, Bool.or_true, Nat.reduceSub, Nat.reduceLeDiff, Nat.reduceMul, Int.reduceToNat, Int.reduceLT, Int.reduceEq, Int.reduceNeg, and_self, and_true, true_and, and_false, false_and, or_true, true_or, or_false, false_or, Int.cast_ofNat_Int, Nat.reduceBEq, Nat.reduceBNe, beq_self_eq_true, List.take_zero, List.take_succ_cons, List.take_nil]
end Go.Abs

namespace Go.Abs
open Go Go.RowKit
set_option linter.unusedVariables false
set_option linter.unusedSimpArgs false

set_option maxHeartbeats 1000000 in
theorem pn0_loop (P : List Pr) (hP : ∀ p ∈ P, p.last.length ≤ 5) (hn : P.length ≤ 1000000) (fl : Fl) (hfl : fl = .ro ∨ fl = .full) (b : Ba) (hr : b.recs.length ≤ 1000) (k : Int) (tp mp : Nat) (i : Nat) (hi : i ≤ 100) (pb : Nat) (G : Heap) (hb : Old G pb (.cells b.cs)) (r : List Pr) : ∀ (q : List Pr) (M : Heap), P = q ++ r →
    ∃ M', loopA W loopW (.ghost (.kill k_law10_ProducerNumbers_0) l_law10_ProducerNumbers_0) [(1, .int .i64 k), (2, .ptr tp 0), (3, .ptr mp 0), (4, .int .i64 (i : Nat)), (5, .ptr pb 0), (29, .list 4 (P.map Pr.V) fl), (30, .int .i64 (P.length : Nat)), (31, .int .i64 (q.length : Nat))] (hx G M) =
      some (.exit 4, [(1, .int .i64 k), (2, .ptr tp 0), (3, .ptr mp 0), (4, .int .i64 (i : Nat)), (5, .ptr pb 0)], hx G M') := by
  have gj := hb.get
  induction r with
  | nil =>
    intro q M hq
    rw [List.append_nil] at hq
    subst hq
    refine ⟨M, ?_⟩
    have h1 : ¬ ((P.length : Int) < (P.length : Int)) := by omega
    refine loop_step l_law10_ProducerNumbers_0.eq_1 k_law10_ProducerNumbers_0.eq_1 (by kernel_rfl) ?_
    simp only [go_sem, h1, not_true_eq_false, not_false_eq_true, decide_true, decide_false, reduceCtorEq, ne_eq, Bool.false_eq_true, ↓reduceIte, Nat.reduceAdd, Nat.reduceEqDiff, Nat.reduceLT, Int.reduceLE, s_shl, s_shr, Bool.not_false, Bool.not_true, Bool.and_self, Bool.true_and, Bool.and_true, Bool.and_false, Bool.false_and, Bool.not_true, Bool.true_or, Bool.or_true, Nat.reduceSub, Nat.reduceLeDiff, Nat.reduceMul, Int.reduceToNat, Int.reduceLT, Int.reduceEq, Int.reduceNeg, and_self, and_true, true_and, and_false, false_and, or_true, true_or, or_false, false_or, Int.cast_ofNat_Int, Nat.reduceBEq, Nat.reduceBNe, beq_self_eq_true, List.take_zero, List.take_succ_cons, List.take_nil]
  | cons p r ih =>
    intro q M hq
    have hlen : q.length < P.length := by rw [hq]; simp
    have h1 : ((q.length : Int) < (P.length : Int)) := by omega
    have e0 : (0 : Int) ≤ (q.length : Int) := by omega
    have e7 : ((q.length : Nat) : Int).toNat = q.length := by omega
    have e1 : (P.map Pr.V)[q.length]? = some (.agg [.int .i64 p.id, .int .i64 p.epoch, .list 3 (p.last.map laV) .ro, .int .i64 p.open_]) := by rw [hq]; simp [Pr.V, Pr.cs]
    have e6 : IntKind.i64.wrap ((q.length : Int) + 1) = ((q.length + 1 : Nat) : Int) := by rw [wrap_id (by unfold I64; omega)]; omega
    have hp5 := hP p (by rw [hq]; simp)
    have w2 : IntKind.i64.wrap ((i : Int) - 2) = (i : Int) - 2 := wrap_id (by unfold I64; omega)
    have t1 := fun k H => lsame10_spec p k b (by omega) hr H
    have t2 := fun H => odd10_spec p (by omega) (i : Int) ((i : Int) - 2) H
    have t3 := fun k H => lsame10_spec (oddP p (withinQ (i : Int) 0 6) (i : Int) ((i : Int) - 2)) k b (by have := oddP_len p (withinQ (i : Int) 0 6) (i : Int) ((i : Int) - 2); omega) hr H
    generalize oddP p (withinQ (i : Int) 0 6) (i : Int) ((i : Int) - 2) = po at *
    obtain ⟨M', h2⟩ := ih (q ++ [p]) (M ++ [.cells p.cs]) (by rw [hq]; simp)
    simp only [List.length_append, List.length_cons, List.length_nil, Nat.zero_add] at h2
    refine ⟨M', ?_⟩
    unfold Pr.V at *
    unfold Pr.cs at *
    unfold Ba.V at *
    unfold Ba.cs at *
    by_cases c : b.prod ≥ 0
    · rcases hfl with rfl | rfl
      · refine loop_step l_law10_ProducerNumbers_0.eq_1 k_law10_ProducerNumbers_0.eq_1 (by kernel_rfl) ?_
        simp only [go_sem, h1, e0, e7, e1, gj, c, t1, w2, t2, t3, e6, not_true_eq_false, not_false_eq_true, decide_true, decide_false, reduceCtorEq, ne_eq, Bool.false_eq_true, ↓reduceIte, Nat.reduceAdd, Nat.reduceEqDiff, Nat.reduceLT, Int.reduceLE, s_shl, s_shr, Bool.not_false, Bool.not_true, Bool.and_self, Bool.true_and, Bool.and_true, Bool.and_false, Bool.false_and, Bool.not_true, Bool.true_or, Bool.or_true, Nat.reduceSub, Nat.reduceLeDiff, Nat.reduceMul, Int.reduceToNat, Int.reduceLT, Int.reduceEq, Int.reduceNeg, and_self, and_true, true_and, and_false, false_and, or_true, true_or, or_false, false_or, Int.cast_ofNat_Int, Nat.reduceBEq, Nat.reduceBNe, beq_self_eq_true, List.take_zero, List.take_succ_cons, List.take_nil]
        exact h2
      · refine loop_step l_law10_ProducerNumbers_0.eq_1 k_law10_ProducerNumbers_0.eq_1 (by kernel_rfl) ?_
        simp only [go_sem, h1, e0, e7, e1, gj, c, t1, w2, t2, t3, e6, not_true_eq_false, not_false_eq_true, decide_true, decide_false, reduceCtorEq, ne_eq, Bool.false_eq_true, ↓reduceIte, Nat.reduceAdd, Nat.reduceEqDiff, Nat.reduceLT, Int.reduceLE, s_shl, s_shr, Bool.not_false, Bool.not_true, Bool.and_self, Bool.true_and, Bool.and_true, Bool.and_false, Bool.false_and, Bool.not_true, Bool.true_or, Bool.or_true, Nat.reduceSub, Nat.reduceLeDiff, Nat.reduceMul, Int.reduceToNat, Int.reduceLT, Int.reduceEq, Int.reduceNeg, and_self, and_true, true_and, and_false, false_and, or_true, true_or, or_false, false_or, Int.cast_ofNat_Int, Nat.reduceBEq, Nat.reduceBNe, beq_self_eq_true, List.take_zero, List.take_succ_cons, List.take_nil]
        exact h2
    · rcases hfl with rfl | rfl
      · refine loop_step l_law10_ProducerNumbers_0.eq_1 k_law10_ProducerNumbers_0.eq_1 (by kernel_rfl) ?_
        simp only [go_sem, h1, e0, e7, e1, gj, c, e6, not_true_eq_false, not_false_eq_true, decide_true, decide_false, reduceCtorEq, ne_eq, Bool.false_eq_true, ↓reduceIte, Nat.reduceAdd, Nat.reduceEqDiff, Nat.reduceLT, Int.reduceLE, s_shl, s_shr, Bool.not_false, Bool.not_true, Bool.and_self, Bool.true_and, Bool.and_true, Bool.and_false, Bool.false_and, Bool.not_true, Bool.true_or, Bool.or_true, Nat.reduceSub, Nat.reduceLeDiff, Nat.reduceMul, Int.reduceToNat, Int.reduceLT, Int.reduceEq, Int.reduceNeg, and_self, and_true, true_and, and_false, false_and, or_true, true_or, or_false, false_or, Int.cast_ofNat_Int, Nat.reduceBEq, Nat.reduceBNe, beq_self_eq_true, List.take_zero, List.take_succ_cons, List.take_nil]
        exact h2
      · refine loop_step l_law10_ProducerNumbers_0.eq_1 k_law10_ProducerNumbers_0.eq_1 (by kernel_rfl) ?_
        simp only [go_sem, h1, e0, e7, e1, gj, c, e6, not_true_eq_false, not_false_eq_true, decide_true, decide_false, reduceCtorEq, ne_eq, Bool.false_eq_true, ↓reduceIte, Nat.reduceAdd, Nat.reduceEqDiff, Nat.reduceLT, Int.reduceLE, s_shl, s_shr, Bool.not_false, Bool.not_true, Bool.and_self, Bool.true_and, Bool.and_true, Bool.and_false, Bool.false_and, Bool.not_true, Bool.true_or, Bool.or_true, Nat.reduceSub, Nat.reduceLeDiff, Nat.reduceMul, Int.reduceToNat, Int.reduceLT, Int.reduceEq, Int.reduceNeg, and_self, and_true, true_and, and_false, false_and, or_true, true_or, or_false, false_or, Int.cast_ofNat_Int, Nat.reduceBEq, Nat.reduceBNe, beq_self_eq_true, List.take_zero, List.take_succ_cons, List.take_nil]
        exact h2

theorem RI.prod {l : List Int} {n a1 : Nat} {L : List Ba} {fl : Fl} {b : Ba} (hL : ∀ b ∈ L, Fit b) (hn : L.length ≤ n) (ha : a1 ≤ l.length) (hfl : fl = .own ∨ (fl = .full ∧ L = [])) (hb : BOK b) :
    RI l (n + 1) ⟨prodL 1073741824 0 L b, a1, prodF 1073741824 0 L b fl⟩ :=
  ⟨prodL_fit hL (by decide) (by decide) hb, Nat.le_trans prodL_len (Nat.succ_le_succ hn), ha, prodF_ok hfl⟩
theorem RI.mark {l : List Int} {n a1 : Nat} {L : List Ba} {fl : Fl} {p e m : Int} (hL : ∀ b ∈ L, Fit b) (hn : L.length ≤ n) (ha : a1 ≤ l.length) (hfl : fl = .own ∨ (fl = .full ∧ L = [])) (hp : I64 p) (he : I64 e) (hm : I64 m) :
    RI l (n + 1) ⟨markL 1073741824 0 L p e m, a1, markF 1073741824 0 L p e m fl⟩ :=
  ⟨markL_fit hL (by decide) (by decide) hp he hm, Nat.le_trans markL_len (Nat.succ_le_succ hn), ha, markF_ok hfl⟩

set_option maxHeartbeats 2000000 in
theorem pn1_loop (l : List Int) (hl : l.length ≤ 70368744177664) (k : Int) (G : Heap) (d : Nat) : ∀ (i : Nat) (s : RS) (M : Heap), i + d = 25 → RI l i s →
    ∃ M', loopA W loopW (.ghost (.kill k_law10_ProducerNumbers_1) l_law10_ProducerNumbers_1) [(1, .int .i64 k), (2, .ptr (pt G 0) 0), (3, .ptr (pt G 1) 0), (4, .int .i64 (i : Nat))] (hx G (tapeB l s.at_ :: mdB 1073741824 0 s.L s.fl :: M)) =
      some (.exit 2, [(1, .int .i64 k)], hx G M') := by
  induction d with
  | zero =>
    intro i s M hi hs
    have : i = 25 := by omega
    subst this
    have c : ¬ (((25 : Nat) : Int) < 25) := by omega
    refine ⟨tapeB l s.at_ :: mdB 1073741824 0 s.L s.fl :: M, ?_⟩
    refine loop_step l_law10_ProducerNumbers_1.eq_1 k_law10_ProducerNumbers_1.eq_1 (by kernel_rfl) ?_
    simp only [go_sem, c, not_true_eq_false, not_false_eq_true, decide_true, decide_false, reduceCtorEq, ne_eq, Bool.false_eq_true, ↓reduceIte, Nat.reduceAdd, Nat.reduceEqDiff, Nat.reduceLT, Int.reduceLE, s_shl, s_shr, Bool.not_false, Bool.not_true, Bool.and_self, Bool.true_and, Bool.and_true, Bool.and_false, Bool.false_and, Bool.not_true, Bool.true_or, Bool.or_true, Nat.reduceSub, Nat.reduceLeDiff, Nat.reduceMul, Int.reduceToNat, Int.reduceLT, Int.reduceEq, Int.reduceNeg, and_self, and_true, true_and, and_false, false_and, or_true, true_or, or_false, false_or, Int.cast_ofNat_Int, Nat.reduceBEq, Nat.reduceBNe, beq_self_eq_true, List.take_zero, List.take_succ_cons, List.take_nil]
  | succ d ih =>
    intro i s M hi hs
    obtain ⟨L, a, fl⟩ := s
    have hfl := hs.fl
    have hfit := hs.fit
    have hle := hs.len
    have hat := hs.at_
    simp only at hfl hfit hle hat ⊢
    have c : ((i : Int) < 25) := by omega
    have e6 : IntKind.i64.wrap ((i : Int) + 1) = ((i + 1 : Nat) : Int) := by rw [wrap_id (by unfold I64; omega)]; omega
    have ha := askB_ok hl hat hfit
    have ta := ask_spec l hl a hat (pt G 0) 1073741824 0 L hfit (by omega) fl hfl (pt G 1) (pt_ne (by decide)) (hx G (tapeB l a :: mdB 1073741824 0 L fl :: M)) (hxg0 _ _ _ _) (hxg1 _ _ _ _)
    simp only [hx_set, List.set_cons_zero] at ta
    generalize askB l L a = r at *
    obtain ⟨b0, a1⟩ := r
    simp only at ta ha
    have hab := ha.bok
    have har := ha.recs
    have haa := ha.at_
    simp only at hab har haa
    have te := model_end_spec 1073741824 0 L hfit (by omega) fl hfl (pt G 1) (hx G (tapeB l a1 :: mdB 1073741824 0 L fl :: (M ++ [.cells b0.cs]))) (hxg1 _ _ _ _)
    have re := endE_range 0 L hfit (by decide) (by decide)
    obtain ⟨b, hb⟩ : ∃ b, ({ b0 with base := endE 0 L } : Ba) = b := ⟨_, rfl⟩
    have hbo : BOK b := by
      rw [← hb]
      exact ⟨by unfold I64; simp only; omega, hab.prod, hab.epoch, hab.seq, hab.mark⟩
    have f1 : b.base = endE 0 L := by rw [← hb]
    have f2 : b.prod = b0.prod := by rw [← hb]
    have f3 : b.epoch = b0.epoch := by rw [← hb]
    have f4 : b.seq = b0.seq := by rw [← hb]
    have f5 : b.txn = b0.txn := by rw [← hb]
    have f6 : b.mark = b0.mark := by rw [← hb]
    have f7 : b.recs = b0.recs := by rw [← hb]
    have hbr : b.recs.length ≤ 1000 := by rw [f7]; omega
    obtain ⟨f', tp, hf'⟩ := producers_spec 1073741824 0 L hfit (by omega) fl hfl (pt G 1) (hx G (tapeB l a1 :: mdB 1073741824 0 L fl :: (M ++ [.cells b.cs]))) (hxg1 _ _ _ _)
    have hTK := foldL_TK L [] 0 ⟨by simp, by simp⟩
    generalize foldL L [] = P at *
    obtain ⟨M1, h0⟩ := pn0_loop P hTK.last (by have := hTK.len; omega) f' hf' b hbr k (pt G 0) (pt G 1) i (by omega) (pt G (M.length + 1 + 1)) (hx G (tapeB l a1 :: mdB 1073741824 0 L fl :: (M ++ [.cells b.cs]))) ⟨by rw [hx_get]; simp⟩ P [] [] rfl
    simp only [List.length_nil, Int.natCast_zero] at h0
    simp only [hx_hx, List.cons_append, List.append_assoc, List.append_nil, List.nil_append] at h0
    have n1 : ∀ A B x y : Box, (A :: B :: (M ++ [x]))[M.length + 1 + 1]? = some x := fun A B x y => by simp
    by_cases c3 : b.mark = 0
    · obtain ⟨x, y, tq⟩ := produce_spec 1073741824 0 L hfit (by omega) fl hfl (by decide) (by decide) b hbo hbr (pt G 1) (hx G (tapeB l a1 :: mdB 1073741824 0 L fl :: (M ++ (.cells b.cs :: M1)))) (hxg1 _ _ _ _)
      simp only [hx_set, List.set_cons_succ, List.set_cons_zero] at tq
      obtain ⟨M', h2⟩ := ih (i + 1) _ (M ++ (.cells b.cs :: M1)) (by omega) (RI.prod (b := b) hfit hle haa hfl hbo)
      refine ⟨M', ?_⟩
      simp only at h2
      generalize prodL 1073741824 0 L b = L' at *
      generalize prodF 1073741824 0 L b fl = fl' at *
      unfold Ba.V at *
      unfold Ba.cs at *
      unfold tapeB mdB at *
      simp only [f1, f2, f3, f4, f5, f6, f7] at tp h0 tq h2 c3
      generalize endE 0 L = E at *
      rcases hfl with rfl | ⟨rfl, rfl⟩
      · rcases hf' with rfl | rfl
        · refine loop_step l_law10_ProducerNumbers_1.eq_1 k_law10_ProducerNumbers_1.eq_1 (by kernel_rfl) ?_
          simp only [go_sem, c, ta, te, tp, List.length_map, h0, n1, eq_true c3, tq, e6, not_true_eq_false, not_false_eq_true, decide_true, decide_false, reduceCtorEq, ne_eq, Bool.false_eq_true, ↓reduceIte, Nat.reduceAdd, Nat.reduceEqDiff, Nat.reduceLT, Int.reduceLE, s_shl, s_shr, Bool.not_false, Bool.not_true, Bool.and_self, Bool.true_and, Bool.and_true, Bool.and_false, Bool.false_and, Bool.not_true, Bool.true_or, Bool.or_true, Nat.reduceSub, Nat.reduceLeDiff, Nat.reduceMul, Int.reduceToNat, Int.reduceLT, Int.reduceEq, Int.reduceNeg, and_self, and_true, true_and, and_false, false_and, or_true, true_or, or_false, false_or, Int.cast_ofNat_Int, Nat.reduceBEq, Nat.reduceBNe, beq_self_eq_true, List.take_zero, List.take_succ_cons, List.take_nil]
          exact h2
        · refine loop_step l_law10_ProducerNumbers_1.eq_1 k_law10_ProducerNumbers_1.eq_1 (by kernel_rfl) ?_
          simp only [go_sem, c, ta, te, tp, List.length_map, h0, n1, eq_true c3, tq, e6, not_true_eq_false, not_false_eq_true, decide_true, decide_false, reduceCtorEq, ne_eq, Bool.false_eq_true, ↓reduceIte, Nat.reduceAdd, Nat.reduceEqDiff, Nat.reduceLT, Int.reduceLE, s_shl, s_shr, Bool.not_false, Bool.not_true, Bool.and_self, Bool.true_and, Bool.and_true, Bool.and_false, Bool.false_and, Bool.not_true, Bool.true_or, Bool.or_true, Nat.reduceSub, Nat.reduceLeDiff, Nat.reduceMul, Int.reduceToNat, Int.reduceLT, Int.reduceEq, Int.reduceNeg, and_self, and_true, true_and, and_false, false_and, or_true, true_or, or_false, false_or, Int.cast_ofNat_Int, Nat.reduceBEq, Nat.reduceBNe, beq_self_eq_true, List.take_zero, List.take_succ_cons, List.take_nil]
          exact h2
      · simp only [List.map_nil] at ta te tp tq h0
        rcases hf' with rfl | rfl
        · refine loop_step l_law10_ProducerNumbers_1.eq_1 k_law10_ProducerNumbers_1.eq_1 (by kernel_rfl) ?_
          simp only [go_sem, c, ta, te, tp, List.length_map, List.map_nil, h0, n1, eq_true c3, tq, e6, not_true_eq_false, not_false_eq_true, decide_true, decide_false, reduceCtorEq, ne_eq, Bool.false_eq_true, ↓reduceIte, Nat.reduceAdd, Nat.reduceEqDiff, Nat.reduceLT, Int.reduceLE, s_shl, s_shr, Bool.not_false, Bool.not_true, Bool.and_self, Bool.true_and, Bool.and_true, Bool.and_false, Bool.false_and, Bool.not_true, Bool.true_or, Bool.or_true, Nat.reduceSub, Nat.reduceLeDiff, Nat.reduceMul, Int.reduceToNat, Int.reduceLT, Int.reduceEq, Int.reduceNeg, and_self, and_true, true_and, and_false, false_and, or_true, true_or, or_false, false_or, Int.cast_ofNat_Int, Nat.reduceBEq, Nat.reduceBNe, beq_self_eq_true, List.take_zero, List.take_succ_cons, List.take_nil]
          exact h2
        · refine loop_step l_law10_ProducerNumbers_1.eq_1 k_law10_ProducerNumbers_1.eq_1 (by kernel_rfl) ?_
          simp only [go_sem, c, ta, te, tp, List.length_map, List.map_nil, h0, n1, eq_true c3, tq, e6, not_true_eq_false, not_false_eq_true, decide_true, decide_false, reduceCtorEq, ne_eq, Bool.false_eq_true, ↓reduceIte, Nat.reduceAdd, Nat.reduceEqDiff, Nat.reduceLT, Int.reduceLE, s_shl, s_shr, Bool.not_false, Bool.not_true, Bool.and_self, Bool.true_and, Bool.and_true, Bool.and_false, Bool.false_and, Bool.not_true, Bool.true_or, Bool.or_true, Nat.reduceSub, Nat.reduceLeDiff, Nat.reduceMul, Int.reduceToNat, Int.reduceLT, Int.reduceEq, Int.reduceNeg, and_self, and_true, true_and, and_false, false_and, or_true, true_or, or_false, false_or, Int.cast_ofNat_Int, Nat.reduceBEq, Nat.reduceBNe, beq_self_eq_true, List.take_zero, List.take_succ_cons, List.take_nil]
          exact h2
    · obtain ⟨x, y, tq⟩ := mark_spec 1073741824 0 L hfit (by omega) fl hfl (by decide) (by decide) b.prod b.epoch b.mark hbo.prod hbo.epoch hbo.mark (pt G 1) (hx G (tapeB l a1 :: mdB 1073741824 0 L fl :: (M ++ (.cells b.cs :: M1)))) (hxg1 _ _ _ _)
      simp only [hx_set, List.set_cons_succ, List.set_cons_zero] at tq
      obtain ⟨M', h2⟩ := ih (i + 1) _ (M ++ (.cells b.cs :: M1)) (by omega) (RI.mark (p := b.prod) (e := b.epoch) (m := b.mark) hfit hle haa hfl hbo.prod hbo.epoch hbo.mark)
      refine ⟨M', ?_⟩
      simp only at h2
      generalize markL 1073741824 0 L b.prod b.epoch b.mark = L' at *
      generalize markF 1073741824 0 L b.prod b.epoch b.mark fl = fl' at *
      unfold Ba.V at *
      unfold Ba.cs at *
      unfold tapeB mdB at *
      simp only [f1, f2, f3, f4, f5, f6, f7] at tp h0 tq h2 c3
      generalize endE 0 L = E at *
      rcases hfl with rfl | ⟨rfl, rfl⟩
      · rcases hf' with rfl | rfl
        · refine loop_step l_law10_ProducerNumbers_1.eq_1 k_law10_ProducerNumbers_1.eq_1 (by kernel_rfl) ?_
          simp only [go_sem, c, ta, te, tp, List.length_map, h0, n1, c3, tq, e6, not_true_eq_false, not_false_eq_true, decide_true, decide_false, reduceCtorEq, ne_eq, Bool.false_eq_true, ↓reduceIte, Nat.reduceAdd, Nat.reduceEqDiff, Nat.reduceLT, Int.reduceLE, s_shl, s_shr, Bool.not_false, Bool.not_true, Bool.and_self, Bool.true_and, Bool.and_true, Bool.and_false, Bool.false_and, Bool.not_true, Bool.true_or, Bool.or_true, Nat.reduceSub, Nat.reduceLeDiff, Nat.reduceMul, Int.reduceToNat, Int.reduceLT, Int.reduceEq, Int.reduceNeg, and_self, and_true, true_and, and_false, false_and, or_true, true_or, or_false, false_or, Int.cast_ofNat_Int, Nat.reduceBEq, Nat.reduceBNe, beq_self_eq_true, List.take_zero, List.take_succ_cons, List.take_nil]
          exact h2
        · refine loop_step l_law10_ProducerNumbers_1.eq_1 k_law10_ProducerNumbers_1.eq_1 (by kernel_rfl) ?_
          simp only [go_sem, c, ta, te, tp, List.length_map, h0, n1, c3, tq, e6, not_true_eq_false, not_false_eq_true, decide_true, decide_false, reduceCtorEq, ne_eq, Bool.false_eq_true, ↓reduceIte, Nat.reduceAdd, Nat.reduceEqDiff, Nat.reduceLT, Int.reduceLE, s_shl, s_shr, Bool.not_false, Bool.not_true, Bool.and_self, Bool.true_and, Bool.and_true, Bool.and_false, Bool.false_and, Bool.not_true, Bool.true_or, Bool.or_true, Nat.reduceSub, Nat.reduceLeDiff, Nat.reduceMul, Int.reduceToNat, Int.reduceLT, Int.reduceEq, Int.reduceNeg, and_self, and_true, true_and, and_false, false_and, or_true, true_or, or_false, false_or, Int.cast_ofNat_Int, Nat.reduceBEq, Nat.reduceBNe, beq_self_eq_true, List.take_zero, List.take_succ_cons, List.take_nil]
          exact h2
      · simp only [List.map_nil] at ta te tp tq h0
        rcases hf' with rfl | rfl
        · refine loop_step l_law10_ProducerNumbers_1.eq_1 k_law10_ProducerNumbers_1.eq_1 (by kernel_rfl) ?_
          simp only [go_sem, c, ta, te, tp, List.length_map, List.map_nil, h0, n1, c3, tq, e6, not_true_eq_false, not_false_eq_true, decide_true, decide_false, reduceCtorEq, ne_eq, Bool.false_eq_true, ↓reduceIte, Nat.reduceAdd, Nat.reduceEqDiff, Nat.reduceLT, Int.reduceLE, s_shl, s_shr, Bool.not_false, Bool.not_true, Bool.and_self, Bool.true_and, Bool.and_true, Bool.and_false, Bool.false_and, Bool.not_true, Bool.true_or, Bool.or_true, Nat.reduceSub, Nat.reduceLeDiff, Nat.reduceMul, Int.reduceToNat, Int.reduceLT, Int.reduceEq, Int.reduceNeg, and_self, and_true, true_and, and_false, false_and, or_true, true_or, or_false, false_or, Int.cast_ofNat_Int, Nat.reduceBEq, Nat.reduceBNe, beq_self_eq_true, List.take_zero, List.take_succ_cons, List.take_nil]
          exact h2
        · refine loop_step l_law10_ProducerNumbers_1.eq_1 k_law10_ProducerNumbers_1.eq_1 (by kernel_rfl) ?_
          simp only [go_sem, c, ta, te, tp, List.length_map, List.map_nil, h0, n1, c3, tq, e6, not_true_eq_false, not_false_eq_true, decide_true, decide_false, reduceCtorEq, ne_eq, Bool.false_eq_true, ↓reduceIte, Nat.reduceAdd, Nat.reduceEqDiff, Nat.reduceLT, Int.reduceLE, s_shl, s_shr, Bool.not_false, Bool.not_true, Bool.and_self, Bool.true_and, Bool.and_true, Bool.and_false, Bool.false_and, Bool.not_true, Bool.true_or, Bool.or_true, Nat.reduceSub, Nat.reduceLeDiff, Nat.reduceMul, Int.reduceToNat, Int.reduceLT, Int.reduceEq, Int.reduceNeg, and_self, and_true, true_and, and_false, false_and, or_true, true_or, or_false, false_or, Int.cast_ofNat_Int, Nat.reduceBEq, Nat.reduceBNe, beq_self_eq_true, List.take_zero, List.take_succ_cons, List.take_nil]
          exact h2
end Go.Abs

namespace Go.Abs
open Go Go.RowKit
set_option linter.unusedVariables false
set_option linter.unusedSimpArgs false

theorem known10_ok : callN tbl ext1 60 n_law10_known [] [] = some (.bool true, []) := by kernel_rfl
theorem known10_spec (H : Heap) : W n_law10_known [] H = some (.bool true, H) := W_law10_known_of (callW_of known10_ok)
def tapeLp (k : Int) (n : Nat) : List Int := (List.range n).map fun (i : Nat) => ((i : Int) * (i : Int) * 7 + k * 31 + (i : Int) * k).tmod 211
theorem tapeLp_i64 (k : Int) (n : Nat) : ∀ x ∈ tapeLp k n, I64 x := by
  intro x hx
  unfold tapeLp at hx
  rw [List.mem_map] at hx
  obtain ⟨i, _, rfl⟩ := hx
  have h1 := Int.tmod_lt_of_pos ((i : Int) * i * 7 + k * 31 + i * k) (show (0 : Int) < 211 by decide)
  have h2 := Int.lt_tmod_of_pos ((i : Int) * i * 7 + k * 31 + i * k) (show (0 : Int) < 211 by decide)
  exact i64_c (by omega) (by omega)
theorem tape_loopp (k : Int) (h0 : 0 ≤ k) (h1 : k ≤ 100) (H : Heap) (d : Nat) : ∀ (i : Nat) (fl : Fl), i + d = 400 → (fl = .own ∨ (fl = .full ∧ i = 0)) →
    loopA W loopW (.ghost (.kill k_law10_tape_0) l_law10_tape_0) [(0, .int .i64 k), (3, .list 1 (ints .i64 (tapeLp k i)) fl), (4, .int .i64 (i : Nat))] H = some (.exit 0, [(3, .list 1 (ints .i64 (tapeLp k 400)) (if d = 0 then fl else .own))], H) := by
  induction d with
  | zero =>
    intro i fl hi hfl
    have : i = 400 := by omega
    subst this
    have c : ¬ (((400 : Nat) : Int) < 400) := by omega
    rw [if_pos rfl]
    refine loop_step l_law10_tape_0.eq_1 k_law10_tape_0.eq_1 (by kernel_rfl) ?_
    simp only [go_sem, c, not_true_eq_false, not_false_eq_true, decide_true, decide_false, reduceCtorEq, ne_eq, Bool.false_eq_true, ↓reduceIte, Nat.reduceAdd, Nat.reduceEqDiff, Nat.reduceLT, Int.reduceLE, s_shl, s_shr, Bool.not_false, Bool.not_true, Bool.and_self, Bool.true_and, Bool.and_true, Bool.and_false, Bool.false_and, Bool.not_true, Bool.true_or, Bool.or_true, Nat.reduceSub, Nat.reduceLeDiff, Nat.reduceMul, Int.reduceToNat, Int.reduceLT, Int.reduceEq, Int.reduceNeg, and_self, and_true, true_and, and_false, false_and, or_true, true_or, or_false, false_or, Int.cast_ofNat_Int, Nat.reduceBEq, Nat.reduceBNe, beq_self_eq_true, List.take_zero, List.take_succ_cons, List.take_nil]
  | succ d ih =>
    intro i fl hi hfl
    have c : ((i : Int) < 400) := by omega
    have hii0 : (0 : Int) ≤ (i : Int) * i := Int.mul_nonneg (by omega) (by omega)
    have hii : (i : Int) * i ≤ 400 * 400 := Int.mul_le_mul (by omega) (by omega) (by omega) (by omega)
    have hik0 : (0 : Int) ≤ (i : Int) * k := Int.mul_nonneg (by omega) h0
    have hik : (i : Int) * k ≤ 400 * 100 := Int.mul_le_mul (by omega) h1 h0 (by omega)
    have w1 : IntKind.i64.wrap ((i : Int) * i) = (i : Int) * i := wrap_id (by unfold I64; omega)
    have w2 : IntKind.i64.wrap ((i : Int) * i * 7) = (i : Int) * i * 7 := wrap_id (by unfold I64; omega)
    have w3 : IntKind.i64.wrap (k * 31) = k * 31 := wrap_id (by unfold I64; omega)
    have w4 : IntKind.i64.wrap ((i : Int) * i * 7 + k * 31) = (i : Int) * i * 7 + k * 31 := wrap_id (by unfold I64; omega)
    have w5 : IntKind.i64.wrap ((i : Int) * k) = (i : Int) * k := wrap_id (by unfold I64; omega)
    have w6 : IntKind.i64.wrap ((i : Int) * i * 7 + k * 31 + (i : Int) * k) = (i : Int) * i * 7 + k * 31 + (i : Int) * k := wrap_id (by unfold I64; omega)
    have n0 : ¬ ((211 : Int) = 0) := by decide
    have e6 : IntKind.i64.wrap ((i : Int) + 1) = ((i + 1 : Nat) : Int) := by rw [wrap_id (by unfold I64; omega)]; omega
    have e8 : ints .i64 (tapeLp k i) ++ [.int .i64 (((i : Int) * i * 7 + k * 31 + (i : Int) * k).tmod 211)] = ints .i64 (tapeLp k (i + 1)) := by
      unfold tapeLp; rw [List.range_succ]; simp
    have l6 : (tapeLp k i).length = i := by simp [tapeLp]
    have b1 : (i + 1) * 8 ≤ maxBytes := by simp only [maxBytes]; omega
    have h2 := ih (i + 1) .own (by omega) (.inl rfl)
    have hz : (if d = 0 then Fl.own else Fl.own) = Fl.own := by split <;> rfl
    rw [hz] at h2
    rw [if_neg (by omega)]
    generalize tapeLp k 400 = T at *
    generalize tapeLp k (i + 1) = T2 at *
    refine loop_step l_law10_tape_0.eq_1 k_law10_tape_0.eq_1 (by kernel_rfl) ?_
    rcases hfl with rfl | ⟨rfl, rfl⟩
    · simp only [go_sem, c, w1, w2, w3, w4, w5, w6, n0, apO, List.length_map, l6, b1, e8, e6, not_true_eq_false, not_false_eq_true, decide_true, decide_false, reduceCtorEq, ne_eq, Bool.false_eq_true, ↓reduceIte, Nat.reduceAdd, Nat.reduceEqDiff, Nat.reduceLT, Int.reduceLE, s_shl, s_shr, Bool.not_false, Bool.not_true, Bool.and_self, Bool.true_and, Bool.and_true, Bool.and_false, Bool.false_and, Bool.not_true, Bool.true_or, Bool.or_true, Nat.reduceSub, Nat.reduceLeDiff, Nat.reduceMul, Int.reduceToNat, Int.reduceLT, Int.reduceEq, Int.reduceNeg, and_self, and_true, true_and, and_false, false_and, or_true, true_or, or_false, false_or, Int.cast_ofNat_Int, Nat.reduceBEq, Nat.reduceBNe, beq_self_eq_true, List.take_zero, List.take_succ_cons, List.take_nil]
      exact h2
    · have t0 : tapeLp k 0 = [] := rfl
      rw [t0] at e8 ⊢
      have b2 : (0 + 1) * 8 ≤ maxBytes := by decide
      simp only [List.map_nil, List.nil_append, Int.natCast_zero, Int.zero_mul, Int.zero_add, Int.add_zero] at *
      simp only [go_sem, c, w1, w2, w3, w4, w5, w6, n0, apF, List.length_nil, List.nil_append, b2, e6, Int.zero_mul, Int.zero_add, Int.add_zero, not_true_eq_false, not_false_eq_true, decide_true, decide_false, reduceCtorEq, ne_eq, Bool.false_eq_true, ↓reduceIte, Nat.reduceAdd, Nat.reduceEqDiff, Nat.reduceLT, Int.reduceLE, s_shl, s_shr, Bool.not_false, Bool.not_true, Bool.and_self, Bool.true_and, Bool.and_true, Bool.and_false, Bool.false_and, Bool.not_true, Bool.true_or, Bool.or_true, Nat.reduceSub, Nat.reduceLeDiff, Nat.reduceMul, Int.reduceToNat, Int.reduceLT, Int.reduceEq, Int.reduceNeg, and_self, and_true, true_and, and_false, false_and, or_true, true_or, or_false, false_or, Int.cast_ofNat_Int, Nat.reduceBEq, Nat.reduceBNe, beq_self_eq_true, List.take_zero, List.take_succ_cons, List.take_nil]
      rw [e8]
      exact h2
theorem tapep_spec (k : Int) (h0 : 0 ≤ k) (h1 : k ≤ 100) (H : Heap) : W n_law10_tape [.int .i64 k] H = some (.list 1 (ints .i64 (tapeLp k 400)) .own, H) := by
  have h := tape_loopp k h0 h1 H 400 0 .full (by omega) (.inr ⟨rfl, rfl⟩)
  have t0 : tapeLp k 0 = [] := rfl
  rw [t0, if_neg (by decide)] at h
  simp only [List.map_nil, Int.natCast_zero] at h
  generalize tapeLp k 400 = T at *
  refine W_fn0 rfl rfl ?_
  simp only [go_sem, trim_same, c_law10_tape, h, not_true_eq_false, not_false_eq_true, decide_true, decide_false, reduceCtorEq, ne_eq, Bool.false_eq_true, ↓reduceIte, Nat.reduceAdd, Nat.reduceEqDiff, Nat.reduceLT, Int.reduceLE, s_shl, s_shr, Bool.not_false, Bool.not_true, Bool.and_self, Bool.true_and, Bool.and_true, Bool.and_false, Bool.false_and, Bool.not_true, Bool.true_or, Bool.or_true, Nat.reduceSub, Nat.reduceLeDiff, Nat.reduceMul, Int.reduceToNat, Int.reduceLT, Int.reduceEq, Int.reduceNeg, and_self, and_true, true_and, and_false, false_and, or_true, true_or, or_false, false_or, Int.cast_ofNat_Int, Nat.reduceBEq, Nat.reduceBNe, beq_self_eq_true, List.take_zero, List.take_succ_cons, List.take_nil]
  first | done | rfl

theorem pn2_loop (H : Heap) (d : Nat) : ∀ (k : Nat) (N : Heap), k + d = 40 →
    ∃ M, loopA W loopW (.ghost (.kill k_law10_ProducerNumbers_2) l_law10_ProducerNumbers_2) [(1, .int .i64 (k : Nat))] (hx H N) = some (.exit 0, [], hx H M) := by
  induction d with
  | zero =>
    intro k N hk
    have : k = 40 := by omega
    subst this
    have c : ¬ (((40 : Nat) : Int) < 40) := by omega
    refine ⟨N, ?_⟩
    refine loop_step l_law10_ProducerNumbers_2.eq_1 k_law10_ProducerNumbers_2.eq_1 (by kernel_rfl) ?_
    simp only [go_sem, c, not_true_eq_false, not_false_eq_true, decide_true, decide_false, reduceCtorEq, ne_eq, Bool.false_eq_true, ↓reduceIte, Nat.reduceAdd, Nat.reduceEqDiff, Nat.reduceLT, Int.reduceLE, s_shl, s_shr, Bool.not_false, Bool.not_true, Bool.and_self, Bool.true_and, Bool.and_true, Bool.and_false, Bool.false_and, Bool.not_true, Bool.true_or, Bool.or_true, Nat.reduceSub, Nat.reduceLeDiff, Nat.reduceMul, Int.reduceToNat, Int.reduceLT, Int.reduceEq, Int.reduceNeg, and_self, and_true, true_and, and_false, false_and, or_true, true_or, or_false, false_or, Int.cast_ofNat_Int, Nat.reduceBEq, Nat.reduceBNe, beq_self_eq_true, List.take_zero, List.take_succ_cons, List.take_nil]
  | succ d ih =>
    intro k N hk
    have c : ((k : Int) < 40) := by omega
    have e6 : IntKind.i64.wrap ((k : Int) + 1) = ((k + 1 : Nat) : Int) := by rw [wrap_id (by unfold I64; omega)]; omega
    have t0 := fun H => tapep_spec k (by omega) (by omega) H
    have hTl : (tapeLp k 400).length = 400 := by simp [tapeLp]
    generalize tapeLp k 400 = T at *
    obtain ⟨M1, h1⟩ := pn1_loop T (by omega) k (hx H N) 25 0 ⟨[], 0, .full⟩ [] (by omega) ⟨by simp, by simp, by simp, .inr ⟨rfl, rfl⟩⟩
    simp only [hx_hx] at h1
    obtain ⟨M, h3⟩ := ih (k + 1) (N ++ M1) (by omega)
    refine ⟨M, ?_⟩
    have p0 : pt (hx H N) 0 = pt H N.length := by unfold pt hx; simp
    have p1 : pt (hx H N) 1 = pt H (N.length + 1) := by unfold pt hx; simp; omega
    rw [p0, p1] at h1
    unfold tapeB mdB at h1
    simp only [Int.natCast_zero, List.map_nil] at h1
    have n3 : ∀ x' : Box, (N ++ [x']).length = N.length + 1 := fun x' => by simp
    refine loop_step l_law10_ProducerNumbers_2.eq_1 k_law10_ProducerNumbers_2.eq_1 (by kernel_rfl) ?_
    simp only [go_sem, c, t0, n3, h1, e6, not_true_eq_false, not_false_eq_true, decide_true, decide_false, reduceCtorEq, ne_eq, Bool.false_eq_true, ↓reduceIte, Nat.reduceAdd, Nat.reduceEqDiff, Nat.reduceLT, Int.reduceLE, s_shl, s_shr, Bool.not_false, Bool.not_true, Bool.and_self, Bool.true_and, Bool.and_true, Bool.and_false, Bool.false_and, Bool.not_true, Bool.true_or, Bool.or_true, Nat.reduceSub, Nat.reduceLeDiff, Nat.reduceMul, Int.reduceToNat, Int.reduceLT, Int.reduceEq, Int.reduceNeg, and_self, and_true, true_and, and_false, false_and, or_true, true_or, or_false, false_or, Int.cast_ofNat_Int, Nat.reduceBEq, Nat.reduceBNe, beq_self_eq_true, List.take_zero, List.take_succ_cons, List.take_nil]
    exact h3
theorem pnumbers_spec : W n_law10_ProducerNumbers [] [] = some (.bool true, []) := by
  obtain ⟨M, h3⟩ := pn2_loop [] 40 0 [] (by omega)
  have ts := fun H => lsame10_spec zeroPr false ⟨0, 0, 0, 0, false, 0, [([], [])]⟩ (by simp [zeroPr]) (by simp) H
  have ts' : ∀ H, W n_law10_same [.agg [.int .i64 0, .int .i64 0, .list 3 [] .ro, .int .i64 0], .bool false, .agg [.int .i64 0, .int .i64 0, .int .i64 0, .int .i64 0, .bool false, .int .i64 0, .list 2 [.agg [.str [], .str []]] .ro]] H = some (.bool true, H) := ts
  have kn := known10_spec
  clear ts
  simp only [Int.natCast_zero] at h3
  refine W_fn rfl rfl ?_
  simp only [go_sem, c_law10_ProducerNumbers, h3, ts', kn, not_true_eq_false, not_false_eq_true, decide_true, decide_false, reduceCtorEq, ne_eq, Bool.false_eq_true, ↓reduceIte, Nat.reduceAdd, Nat.reduceEqDiff, Nat.reduceLT, Int.reduceLE, s_shl, s_shr, Bool.not_false, Bool.not_true, Bool.and_self, Bool.true_and, Bool.and_true, Bool.and_false, Bool.false_and, Bool.not_true, Bool.true_or, Bool.or_true, Nat.reduceSub, Nat.reduceLeDiff, Nat.reduceMul, Int.reduceToNat, Int.reduceLT, Int.reduceEq, Int.reduceNeg, and_self, and_true, true_and, and_false, false_and, or_true, true_or, or_false, false_or, Int.cast_ofNat_Int, Nat.reduceBEq, Nat.reduceBNe, beq_self_eq_true, List.take_zero, List.take_succ_cons, List.take_nil]
end Go.Abs

