import Derived.Test.YtddgichochdgcaaV10
namespace Go.Abs
open Go Go.RowKit
set_option linter.unusedVariables false
set_option linter.unusedSimpArgs false

theorem num_loop1 (H : Heap) (d : Nat) : ∀ i : Nat, i + d = 64 → loopA W loopW (.ghost (.kill k_law2_VarintNumbers_1) l_law2_VarintNumbers_1) [(1, .int .u64 (i : Int))] H = some (.exit 0, [], H) := by
  induction d with
  | zero =>
    intro i hi
    have h1 : ¬ ((i : Int) < 64) := by omega
    refine loop_step l_law2_VarintNumbers_1.eq_1 k_law2_VarintNumbers_1.eq_1 (by kernel_rfl) ?_
    simp only [go_sem, h1, not_true_eq_false, not_false_eq_true, decide_true, decide_false, reduceCtorEq, ne_eq, Bool.false_eq_true, ↓reduceIte, Nat.reduceAdd, Nat.reduceEqDiff, Nat.reduceLT, Int.reduceLE, Int.reduceEq, Int.reduceNeg, s_shl, s_shr, Bool.not_false, Bool.not_true, Bool.and_self, Bool.true_and, Bool.and_true]
  | succ d ih =>
    intro i hi
    have h1 : (i : Int) < 64 := by omega
    have g := num_loop0 (i : Int) (by omega) H 3 (-1) (by omega) (by omega)
    have e8 : IntKind.u64.wrap ((i : Int) + 1) = ((i + 1 : Nat) : Int) := by rw [Num.wu64]; omega
    refine loop_step l_law2_VarintNumbers_1.eq_1 k_law2_VarintNumbers_1.eq_1 (by kernel_rfl) ?_
    simp only [go_sem, h1, g, e8, not_true_eq_false, not_false_eq_true, decide_true, decide_false, reduceCtorEq, ne_eq, Bool.false_eq_true, ↓reduceIte, Nat.reduceAdd, Nat.reduceEqDiff, Nat.reduceLT, Int.reduceLE, Int.reduceEq, Int.reduceNeg, s_shl, s_shr, Bool.not_false, Bool.not_true, Bool.and_self, Bool.true_and, Bool.and_true]
    exact ih (i + 1) (by omega)

theorem numbers_spec : W n_law2_VarintNumbers [] [] = some (.bool true, []) := by
  have g1 := num_loop1 [] 64 0 rfl
  have g3 := num_loop3 [] 13 0 rfl
  have hk := known_spec []
  simp only [Int.natCast_zero] at g1 g3
  have ht := ref_text_spec [] [119, 104, 111, 108, 101] [] (by simp)
  have hw : ([] : List Int) ++ Vt.enc 9 (Num.zig ((([119, 104, 111, 108, 101] : List UInt8).length : Nat) : Int)) ++ ([119, 104, 111, 108, 101] : List UInt8).map (fun b => (b.toNat : Int)) = [10, 119, 104, 111, 108, 101] := by decide
  rw [hw] at ht
  have hB : Bytes [10, 119, 104, 111, 108, 101] := fun x hx => by simp at hx; omega
  have r1 := reads_spec [10, 119, 104, 111, 108, 101] 5 [] hB (by simp)
  have r2 := reads_spec [10, 119, 104, 111, 108, 101] 4 [] hB (by simp)
  have r3 := reads_spec [10, 119, 104] 9 [] (fun x hx => hB x (by simp at hx ⊢; omega)) (by simp)
  change W n_ref1_Text [.list 1 [] .ro, _] [] = some (.list 1 [.int .u8 10, .int .u8 119, .int .u8 104, .int .u8 111, .int .u8 108, .int .u8 101] .own, []) at ht
  change W n_law2_reads [.list 1 [.int .u8 10, .int .u8 119, .int .u8 104, .int .u8 111, .int .u8 108, .int .u8 101] .ro, _] [] = _ at r1 r2
  change W n_law2_reads [.list 1 [.int .u8 10, .int .u8 119, .int .u8 104] .ro, _] [] = _ at r3
  have hs : evSlice 1 false true false (.list 1 [.int .u8 10, .int .u8 119, .int .u8 104, .int .u8 111, .int .u8 108, .int .u8 101] .own) [.int .i64 3] = some (.list 1 [.int .u8 10, .int .u8 119, .int .u8 104] .ro) := by
    rw [sl_hi _ _ _ _ _ (by simp) (by omega) (by simp)]; rfl
  refine W_fn rfl rfl ?_
  simp only [go_sem, c_law2_VarintNumbers, g1, g3, hk, ht, r1, r2, r3, hs, not_true_eq_false, not_false_eq_true, decide_true, decide_false, reduceCtorEq, ne_eq, Bool.false_eq_true, ↓reduceIte, Nat.reduceAdd, Nat.reduceEqDiff, Nat.reduceLT, Int.reduceLE, Int.reduceEq, Int.reduceNeg, s_shl, s_shr, Bool.not_false, Bool.not_true, Bool.and_self, Bool.true_and, Bool.and_true]
end Go.Abs
