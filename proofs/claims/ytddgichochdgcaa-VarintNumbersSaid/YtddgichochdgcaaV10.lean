import Derived.Test.YtddgichochdgcaaV9
namespace Go.Abs
open Go Go.RowKit
set_option linter.unusedVariables false
set_option linter.unusedSimpArgs false

theorem wrap_range (n : Int) : I64 (IntKind.i64.wrap n) := by rw [IntKind.wrap_i64]; unfold I64; omega

set_option maxHeartbeats 2000000 in
theorem num_loop0 (i : Int) (hi : 0 ≤ i ∧ i < 64) (H : Heap) (d : Nat) : ∀ k : Int, k + d = 2 → -1 ≤ k → loopA W loopW (.ghost (.kill k_law2_VarintNumbers_0) l_law2_VarintNumbers_0) [(1, .int .u64 i), (2, .int .i64 k)] H = some (.exit 2, [(1, .int .u64 i)], H) := by
  induction d with
  | zero =>
    intro k hk hk'
    have h1 : ¬ (k < 2) := by omega
    refine loop_step l_law2_VarintNumbers_0.eq_1 k_law2_VarintNumbers_0.eq_1 (by kernel_rfl) ?_
    simp only [go_sem, h1, not_true_eq_false, not_false_eq_true, decide_true, decide_false, reduceCtorEq, ne_eq, Bool.false_eq_true, ↓reduceIte, Nat.reduceAdd, Nat.reduceEqDiff, Nat.reduceLT, Int.reduceLE, Int.reduceEq, Int.reduceNeg, s_shl, s_shr, Bool.not_false, Bool.not_true, Bool.and_self, Bool.true_and, Bool.and_true]
  | succ d ih =>
    intro k hk hk'
    have h1 : k < 2 := by omega
    have hi0 := hi.1
    have hn : I64 (IntKind.i64.wrap (shl .i64 1 i + k)) := wrap_range _
    have hm : I64 (IntKind.i64.wrap (0 - IntKind.i64.wrap (shl .i64 1 i + k))) := wrap_range _
    generalize hnn : IntKind.i64.wrap (shl .i64 1 i + k) = n at hn hm
    have hput := ref_put_spec [] n H .ro (.inl rfl) hn (by simp)
    rw [List.nil_append] at hput
    change W n_ref1_Put [.list 1 [] .ro, _] H = _ at hput
    have hz := Num.zig_range n hn
    have hE := Vt.enc_bytes 9 _ hz.1 (Int.lt_trans hz.2 (by decide))
    have hE0 := Vt.enc_ne 9 (Num.zig n)
    have hE1 := Vt.enc_len' 9 (Num.zig n)
    generalize Vt.enc 9 (Num.zig n) = l at hput hE hE0 hE1
    have hlp : 0 < l.length := List.length_pos_iff.2 hE0
    have hr : i.tmod 5 = i % 5 := Int.tmod_eq_emod_of_nonneg hi0
    have hr0 : 0 ≤ i % 5 := by omega
    have hr1 : i % 5 ≤ 4 := by omega
    have s0 : (([116, 101, 120, 116] : List UInt8).length : Int) = 4 := rfl
    have p1 := puts_spec [7] n ((([116, 101, 120, 116] : List UInt8).take (i % 5).toNat).drop 0) H hn (by simp [List.length_take]; omega)
    have p2 := puts_spec [] (IntKind.i64.wrap (0 - n)) [] H hm (by simp)
    change W n_law2_puts [.list 1 [.int .u8 7] .ro, _, _] H = _ at p1
    change W n_law2_puts [.list 1 [] .ro, _, _] H = _ at p2
    have r1 := reads_spec l 9 H hE (by omega)
    have b2 : Bytes (l ++ [0]) := bytes_app hE (fun x hx => by rw [List.mem_singleton] at hx; omega)
    have r2 := reads_spec (l ++ [0]) 1 H b2 (by simp; omega)
    have hl1 : IntKind.i64.wrap ((l.length : Int) - 1) = ((l.length - 1 : Nat) : Int) := by rw [wrap_id (by unfold I64; omega)]; omega
    have hl2 : ((l.length - 1 : Nat) : Int) ≤ (l.length : Int) := by omega
    have hl3 : (0 : Int) ≤ ((l.length - 1 : Nat) : Int) := by omega
    have e3 : (ints .u8 l).length = l.length := by simp
    have et : (ints .u8 l).take ((l.length - 1 : Nat) : Int).toNat = ints .u8 (l.take (l.length - 1)) := by rw [Int.toNat_natCast, ← List.map_take]
    have r3 := reads_spec (l.take (l.length - 1)) 0 H (bytes_take _ hE) (by rw [List.length_take]; omega)
    have hg := ints_get (k := .u8) (l := l) (i := l.length - 1) (by omega)
    have hc := hE _ (List.getElem_mem (show l.length - 1 < l.length by omega))
    generalize l[l.length - 1]'(by omega) = c at hg hc
    have hor := Num.or128_u8 c hc.1 hc.2
    have b4 : Bytes (l.take (l.length - 1) ++ [c % 128 + 128, 0]) := bytes_app (bytes_take _ hE) (fun x hx => by simp at hx; omega)
    have r4 := reads_spec (l.take (l.length - 1) ++ [c % 128 + 128, 0]) 5 H b4 (by simp [List.length_take]; omega)
    have hb1 : ((ints .u8 l).length + [AVal.int .u8 0].length) * 1 ≤ maxBytes := by simp [maxBytes]; omega
    have hb2 : ((ints .u8 (l.take (l.length - 1))).length + [AVal.int .u8 (c % 128 + 128), AVal.int .u8 0].length) * 1 ≤ maxBytes := by simp [maxBytes, List.length_take]; omega
    have hb1' : (l.length + [AVal.int .u8 0].length) * 1 ≤ maxBytes := by simp [maxBytes]; omega
    have e7 : ints .u8 l ++ [.int .u8 0] = ints .u8 (l ++ [0]) := by simp
    have e8 : ints .u8 (l.take (l.length - 1)) ++ [.int .u8 (c % 128 + 128), .int .u8 0] = ints .u8 (l.take (l.length - 1) ++ [c % 128 + 128, 0]) := by simp
    have e9 : IntKind.i64.wrap (k + 1) = k + 1 := wrap_id (by unfold I64; omega)
    refine loop_step l_law2_VarintNumbers_0.eq_1 k_law2_VarintNumbers_0.eq_1 (by kernel_rfl) ?_
    simp only [go_sem, h1, hi0, hnn, hput, hr, hr0, hr1, s0, bd_hi, p1, p2, r1, r2, r3, r4, hl1, hl2, hl3, e3, et, sl_hi, sl_max, hg, hor, ap_own, ap_full, hb1, hb1', hb2, e7, e8, e9, not_true_eq_false, not_false_eq_true, decide_true, decide_false, reduceCtorEq, ne_eq, Bool.false_eq_true, ↓reduceIte, Nat.reduceAdd, Nat.reduceEqDiff, Nat.reduceLT, Int.reduceLE, Int.reduceEq, Int.reduceNeg, s_shl, s_shr, Bool.not_false, Bool.not_true, Bool.and_self, Bool.true_and, Bool.and_true]
    exact ih (k + 1) (by omega) (by omega)
end Go.Abs
