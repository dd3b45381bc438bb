import Derived.Test.YtddgichochdgcaaV8
namespace Go.Abs
open Go Go.RowKit
set_option linter.unusedVariables false
set_option linter.unusedSimpArgs false

theorem ap_any (sz bytes fl xs ys) (hf : fl = .full ∨ fl = .own) (h : (xs.length + ys.length) * bytes ≤ maxBytes) : evAppend sz bytes false (.list sz xs fl) ys = some (.list sz (xs ++ ys) .own) := by
  rcases hf with rfl | rfl
  · exact ap_full sz bytes xs ys h
  · exact ap_own sz bytes false xs ys h

theorem num_loop2 (n : Nat) (hn : n ≤ 100) (H : Heap) (d : Nat) : ∀ (j : Nat) (l : List Int) (fl : Fl), j + d = n → l.length = j → (fl = .full ∨ fl = .own) → ∃ fl', (fl' = .full ∨ fl' = .own) ∧
    loopA W loopW (.ghost (.kill k_law2_VarintNumbers_2) l_law2_VarintNumbers_2) [(5, .int .i64 (n : Int)), (6, bytes l fl), (7, .int .i64 (j : Int))] H = some (.exit 6, [(5, .int .i64 (n : Int)), (6, bytes (l ++ List.replicate d 255) fl')], H) := by
  induction d with
  | zero =>
    intro j l fl hj hl hf
    have h1 : ¬ ((j : Int) < (n : Int)) := by omega
    refine ⟨fl, hf, loop_step l_law2_VarintNumbers_2.eq_1 k_law2_VarintNumbers_2.eq_1 (by kernel_rfl) ?_⟩
    simp only [go_sem, h1, List.replicate_zero, List.append_nil, not_true_eq_false, not_false_eq_true, decide_true, decide_false, reduceCtorEq, ne_eq, Bool.false_eq_true, ↓reduceIte, Nat.reduceAdd, Nat.reduceEqDiff, Nat.reduceLT, Int.reduceLE, Int.reduceEq, Int.reduceNeg, s_shl, s_shr, Bool.not_false, Bool.not_true, Bool.and_self, Bool.true_and, Bool.and_true]
  | succ d ih =>
    intro j l fl hj hl hf
    have h1 : (j : Int) < (n : Int) := by omega
    obtain ⟨fl', g1, g2⟩ := ih (j + 1) (l ++ [255]) .own (by omega) (by simp [hl]) (.inr rfl)
    have hb : ((ints .u8 l).length + [AVal.int .u8 255].length) * 1 ≤ maxBytes := by simp [maxBytes]; omega
    have e7 : ints .u8 l ++ [.int .u8 255] = ints .u8 (l ++ [255]) := by simp
    have e8 : IntKind.i64.wrap ((j : Int) + 1) = ((j + 1 : Nat) : Int) := by rw [wrap_id (by unfold I64; omega)]; omega
    refine ⟨fl', g1, loop_step l_law2_VarintNumbers_2.eq_1 k_law2_VarintNumbers_2.eq_1 (by kernel_rfl) ?_⟩
    rcases hf with rfl | rfl
    · simp only [go_sem, h1, ap_full, hb, e7, e8, not_true_eq_false, not_false_eq_true, decide_true, decide_false, reduceCtorEq, ne_eq, Bool.false_eq_true, ↓reduceIte, Nat.reduceAdd, Nat.reduceEqDiff, Nat.reduceLT, Int.reduceLE, Int.reduceEq, Int.reduceNeg, s_shl, s_shr, Bool.not_false, Bool.not_true, Bool.and_self, Bool.true_and, Bool.and_true]
      refine g2.trans ?_
      rw [List.replicate_succ]; simp
    · simp only [go_sem, h1, ap_own, hb, e7, e8, not_true_eq_false, not_false_eq_true, decide_true, decide_false, reduceCtorEq, ne_eq, Bool.false_eq_true, ↓reduceIte, Nat.reduceAdd, Nat.reduceEqDiff, Nat.reduceLT, Int.reduceLE, Int.reduceEq, Int.reduceNeg, s_shl, s_shr, Bool.not_false, Bool.not_true, Bool.and_self, Bool.true_and, Bool.and_true]
      refine g2.trans ?_
      rw [List.replicate_succ]; simp

theorem num_loop3 (H : Heap) (d : Nat) : ∀ n : Nat, n + d = 13 → loopA W loopW (.ghost (.kill k_law2_VarintNumbers_3) l_law2_VarintNumbers_3) [(5, .int .i64 (n : Int))] H = some (.exit 4, [], H) := by
  induction d with
  | zero =>
    intro n hn
    have h1 : ¬ ((n : Int) < 13) := by omega
    refine loop_step l_law2_VarintNumbers_3.eq_1 k_law2_VarintNumbers_3.eq_1 (by kernel_rfl) ?_
    simp only [go_sem, h1, not_true_eq_false, not_false_eq_true, decide_true, decide_false, reduceCtorEq, ne_eq, Bool.false_eq_true, ↓reduceIte, Nat.reduceAdd, Nat.reduceEqDiff, Nat.reduceLT, Int.reduceLE, Int.reduceEq, Int.reduceNeg, s_shl, s_shr, Bool.not_false, Bool.not_true, Bool.and_self, Bool.true_and, Bool.and_true]
  | succ d ih =>
    intro n hn
    have h1 : (n : Int) < 13 := by omega
    obtain ⟨fl, hf, g⟩ := num_loop2 n (by omega) H n 0 [] .full (by omega) rfl (.inl rfl)
    rw [List.nil_append] at g
    simp only [Int.natCast_zero] at g
    change loopA _ _ _ [_, (6, .list 1 [] .full), _] H = _ at g
    have e8 : IntKind.i64.wrap ((n : Int) + 1) = ((n + 1 : Nat) : Int) := by rw [wrap_id (by unfold I64; omega)]; omega
    have hb0 : Bytes (List.replicate n 255) := fun x hx => by rw [List.mem_replicate] at hx; omega
    have hB : ∀ c : Int, 0 ≤ c → c < 256 → Bytes (List.replicate n 255 ++ [c]) := fun c h0 h1 => bytes_app hb0 (fun x hx => by rw [List.mem_singleton] at hx; omega)
    have r0 := reads_spec (List.replicate n 255) 9 H hb0 (by simp; omega)
    have r1 := reads_spec (List.replicate n 255 ++ [1]) 9 [] (hB 1 (by omega) (by omega)) (by simp; omega)
    have r2 := reads_spec (List.replicate n 255 ++ [2]) 9 [] (hB 2 (by omega) (by omega)) (by simp; omega)
    have r3 := reads_spec (List.replicate n 255 ++ [127]) (-1) [] (hB 127 (by omega) (by omega)) (by simp; omega)
    have r4 := reads_spec (List.replicate n 255 ++ [0]) 4611686018427387904 [] (hB 0 (by omega) (by omega)) (by simp; omega)
    have e7 : ∀ c : Int, ints .u8 (List.replicate n 255) ++ [.int .u8 c] = ints .u8 (List.replicate n 255 ++ [c]) := fun c => by simp
    have hb : ∀ c : Int, ((ints .u8 (List.replicate n 255)).length + [AVal.int .u8 c].length) * 1 ≤ maxBytes := fun c => by simp [maxBytes]; omega
    refine loop_step l_law2_VarintNumbers_3.eq_1 k_law2_VarintNumbers_3.eq_1 (by kernel_rfl) ?_
    rcases hf with rfl | rfl
    · simp only [go_sem, h1, g, e8, r0, r1, r2, r3, r4, ap_full, hb, e7, not_true_eq_false, not_false_eq_true, decide_true, decide_false, reduceCtorEq, ne_eq, Bool.false_eq_true, ↓reduceIte, Nat.reduceAdd, Nat.reduceEqDiff, Nat.reduceLT, Int.reduceLE, Int.reduceEq, Int.reduceNeg, s_shl, s_shr, Bool.not_false, Bool.not_true, Bool.and_self, Bool.true_and, Bool.and_true]
      exact ih (n + 1) (by omega)
    · simp only [go_sem, h1, g, e8, r0, r1, r2, r3, r4, ap_own, hb, e7, not_true_eq_false, not_false_eq_true, decide_true, decide_false, reduceCtorEq, ne_eq, Bool.false_eq_true, ↓reduceIte, Nat.reduceAdd, Nat.reduceEqDiff, Nat.reduceLT, Int.reduceLE, Int.reduceEq, Int.reduceNeg, s_shl, s_shr, Bool.not_false, Bool.not_true, Bool.and_self, Bool.true_and, Bool.and_true]
      exact ih (n + 1) (by omega)
end Go.Abs
