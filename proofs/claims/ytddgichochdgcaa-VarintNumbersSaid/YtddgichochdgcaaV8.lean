import Derived.Test.YtddgichochdgcaaV7
namespace Go.Abs
open Go Go.RowKit
set_option linter.unusedVariables false
set_option linter.unusedSimpArgs false

theorem known_spec (H : Heap) : W n_law2_known [] H = some (.bool true, H) := by
  have b1 : Bytes [128, 0] := by intro x hx; simp at hx; omega
  have b2 : Bytes [1, 9] := by intro x hx; simp at hx; omega
  have b3 : Bytes [4, 97, 98, 99] := by intro x hx; simp at hx; omega
  have h1 := get_spec [128, 0] H b1 (by simp)
  have h2 := get_spec [1, 9] H b2 (by simp)
  have h3 := cut_spec [4, 97, 98, 99] 2 H b3 (by simp)
  have h4 := cut_spec [4, 97, 98, 99] 1 H b3 (by simp)
  have h5 := back_spec [0, 0, 0, 0, 0, 0, 0] H
  have h6 := long_spec [] (-5) H (by unfold I64; omega) (by simp)
  have h7 := back_spec (bes (-5) 0) H
  have h8 := put_spec [] (-1) H (by unfold I64; omega) (by simp)
  rw [show told (Vt.dec [128, 0] 0 0) = (0, 0) by decide] at h1
  rw [show told (Vt.dec [1, 9] 0 0) = (-1, 1) by decide] at h2
  rw [show cutS [4, 97, 98, 99] 2 = ([97, 98], 3) by decide] at h3
  rw [show cutS [4, 97, 98, 99] 1 = ([], 0) by decide] at h4
  rw [show backV [0, 0, 0, 0, 0, 0, 0] = .tuple [.int .i64 0, .bool false] from rfl] at h5
  have e7 : backV (bes (-5) 0) = .tuple [.int .i64 (-5), .bool true] := by
    unfold backV
    rw [if_neg (by decide), show IntKind.i64.wrap (bk ((bes (-5) 0).take 8) 0) = -5 by decide +kernel]
  rw [e7] at h7
  rw [show ([] : List Int) ++ Vt.enc 9 (Num.zig (-1)) = [1] by decide] at h8
  rw [List.nil_append] at h6
  change W n_varint_Get [.list 1 [.int .u8 128, .int .u8 0] .ro] H = _ at h1
  change W n_varint_Get [.list 1 [.int .u8 1, .int .u8 9] .ro] H = _ at h2
  change W n_varint_Cut [.list 1 [.int .u8 4, .int .u8 97, .int .u8 98, .int .u8 99] .ro, _] H = _ at h3 h4
  change W n_varint_Back [.list 1 [.int .u8 0, .int .u8 0, .int .u8 0, .int .u8 0, .int .u8 0, .int .u8 0, .int .u8 0] .ro] H = _ at h5
  change W n_varint_Long [.list 1 [] .ro, _] H = _ at h6
  change W n_varint_Put [.list 1 [] .ro, _] H = some (.list 1 [.int .u8 1] .full, H) at h8
  have hd : decBytes [.int .u8 1] = some [1] := rfl
  have hm : ev W (.mkslice 1 (.int .u8 0) 1) [.int .i64 7, .int .i64 7] H = some (.list 1 [.int .u8 0, .int .u8 0, .int .u8 0, .int .u8 0, .int .u8 0, .int .u8 0, .int .u8 0] .full, H) := rfl
  have q1 : (([1] : List UInt8) == [1]) = true := by decide
  have q2 : (([97, 98] : List UInt8) == [97, 98]) = true := by decide
  refine W_fn rfl rfl ?_
  simp only [go_sem, c_law2_known, h1, h2, h3, h4, h5, h6, h7, h8, hd, hm, q1, q2, not_true_eq_false, not_false_eq_true, decide_true, decide_false, reduceCtorEq, ne_eq, Bool.false_eq_true, ↓reduceIte, Nat.reduceAdd, Nat.reduceEqDiff, Nat.reduceLT, Int.reduceLE, Int.reduceEq, Int.reduceNeg, s_shl, s_shr, Bool.not_false, Bool.not_true, Bool.and_self, Bool.true_and, Bool.and_true]
end Go.Abs
