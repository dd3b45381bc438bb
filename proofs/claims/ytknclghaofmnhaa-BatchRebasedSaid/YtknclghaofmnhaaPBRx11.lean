-- Written by a program of this session (wip/print/myprint.sh).
import Derived.Test.YtknclghaofmnhaaPBRx0
import Derived.Test.YtknclghaofmnhaaPBRx2
import Derived.Test.YtknclghaofmnhaaPBRx7
import Derived.Test.YtknclghaofmnhaaPBRx9
import Derived.Test.YtknclghaofmnhaaPBRx10
namespace Go.Proofs.Ytknclghaofmnhaa.PBR
open Go.RowKit Go.Proofs.YtknclghaofmnhaaV.PrintWords Go.Proofs.YtknclghaofmnhaaV.PrintLast Go.Proofs.YtknclghaofmnhaaV.PrintMore
attribute [local go_sem] max2_int min2_int max_two min_two max_three min_three max_four min_four   -- for this text's walks alone
set_option linter.unusedVariables false
set_option linter.unusedSimpArgs false

/-! ### bordereaulaw6_BatchRebased: function 14 -/
def bordereaulaw6_BatchRebased.f (k : Nat) (l0 : List Int) (l1 : List Int) (a2 : Int) : Option (Bool) := (bordereaukeep_Tape_Batch_boxed.f k l0 0 5).bind fun bt419 => ((bordereaukeep_Tape_Batch_boxed.f k l1 0 5).bind fun bt428 => ((batch_Bytes.f k bt419.1 bt419.2.1 bt419.2.2.1 bt419.2.2.2.1 bt419.2.2.2.2.1 bt419.2.2.2.2.2.1 bt419.2.2.2.2.2.2).bind fun bt439 => ((batch_Bytes.f k bt428.1 bt428.2.1 bt428.2.2.1 bt428.2.2.2.1 bt428.2.2.2.2.1 bt428.2.2.2.2.2.1 bt428.2.2.2.2.2.2).bind fun bt443 => ((batch_Rebase.f k bt439.1 (Go.bits .and .i64 a2 1099511627775)).bind fun bt447 => ((batch_Read.f k bt447.1).bind fun bt451 => (if bt439.2 = 0 then (if bt443.2 = 0 then (if bt451.2.2.2.2.2.2.2.2 = 0 then (if bt447.2 = true then ((bordereauref6_Same.f k bt451.1 bt451.2.1 bt451.2.2.1 bt451.2.2.2.1 bt451.2.2.2.2.1 bt451.2.2.2.2.2.1 bt451.2.2.2.2.2.2.1 (Go.bits .and .i64 a2 1099511627775) bt419.2.1 bt419.2.2.1 bt419.2.2.2.1 bt419.2.2.2.2.1 bt419.2.2.2.2.2.1 bt419.2.2.2.2.2.2).bind fun t464 => (if t464 = true then (if (bt447.1.length : Int) = (bt439.1.length : Int) then ((bordereauref6_Same.f k bt419.1 bt419.2.1 bt419.2.2.1 bt419.2.2.2.1 bt419.2.2.2.2.1 bt419.2.2.2.2.2.1 bt419.2.2.2.2.2.2 bt428.1 bt428.2.1 bt428.2.2.1 bt428.2.2.2.1 bt428.2.2.2.2.1 bt428.2.2.2.2.2.1 bt428.2.2.2.2.2.2).bind fun t465 => (if (((strOfNums bt439.1).toList == (strOfNums bt443.1).toList) == t465) = true then ((bordereaulaw6_known.f k).bind fun t466 => (some t466)) else (none))) else (none)) else (none))) else (none)) else (none)) else (none)) else (none)))))))
theorem bordereaulaw6_BatchRebased.mono : ∀ a0 a1 a2 k, LeO (bordereaulaw6_BatchRebased.f k a0 a1 a2) (bordereaulaw6_BatchRebased.f (k + 1) a0 a1 a2) := by
  intro a0 a1 a2 k
  unfold bordereaulaw6_BatchRebased.f
  repeat' first
      | (with_reducible exact batch_Bytes.mono _ _ _ _ _ _ _ _)
      | (with_reducible exact batch_Read.mono _ _)
      | (with_reducible exact batch_Rebase.mono _ _ _)
      | (with_reducible exact bordereaukeep_Tape_Batch_boxed.mono _ _ _ _)
      | (with_reducible exact bordereaulaw6_known.mono _)
      | (with_reducible exact bordereauref6_Same.mono _ _ _ _ _ _ _ _ _ _ _ _ _ _ _)
      | (with_reducible exact LeO.refl _)
      | (with_reducible exact LeO.none _)
      | (with_reducible refine LeO.ite ?_ ?_)
      | (with_reducible refine LeO.bind ?_ (fun _ => ?_))
      | exact batch_Bytes.mono _ _ _ _ _ _ _ _
      | exact batch_Read.mono _ _
      | exact batch_Rebase.mono _ _ _
      | exact bordereaukeep_Tape_Batch_boxed.mono _ _ _ _
      | exact bordereaulaw6_known.mono _
      | exact bordereauref6_Same.mono _ _ _ _ _ _ _ _ _ _ _ _ _ _ _
      | exact LeO.none _
      | refine LeO.ite ?_ ?_
      | refine LeO.bind ?_ (fun _ => ?_)
def bordereaulaw6_BatchRebased.T9 : Bool × List (List Nat × List Nat) := (true, [([], []), ([0], [0]), ([1], [1]), ([2], [2]), ([3, 2], [2, 3]), ([2, 4], [2, 4]), ([5, 2], [5]), ([6], [6]), ([7, 6], [6, 7]), ([6, 8], [6, 8]), ([9, 6], [9]), ([10], [10]), ([10, 11], [10, 11]), ([12, 10], [12]), ([13], [13]), ([13], [13]), ([14, 15, 13, 13], [13, 14, 15]), ([13, 16], [13, 16]), ([17, 16], [17]), ([18], [18]), ([19, 18], [18, 19]), ([18], [18]), ([21, 18], [18, 21]), ([20, 22, 18], [18, 20, 22]), ([18, 23], [18, 23]), ([24, 18], [24]), ([25], [25]), ([26, 25], [25, 26]), ([25], [25]), ([28, 25], [25, 28]), ([27, 29, 25], [25, 27, 29]), ([25], [25]), ([25], [25]), ([31, 32, 25, 25], [25, 31, 32]), ([30, 33, 25], [25, 30, 33]), ([25, 34], [25, 34]), ([35, 33], [35]), ([36, 36], [36]), ([36, 37], [36, 37]), ([38, 37, 0, 1, 2, 3, 4, 5, 6, 7, 8, 9, 10, 11, 12, 13, 14, 15, 16, 17, 18, 19, 20, 21, 22, 23, 24, 25, 26, 27, 28, 29, 30, 31, 32, 33, 34, 35, 36, 37, 38], [38])])
def bordereaulaw6_BatchRebased.B9 : List Nat := [0, 1, 3, 7, 15, 31, 63, 127, 255, 511, 1023, 2047, 4095, 8191, 16383, 16383, 65535, 131071, 262143, 524287, 1048575, 524287, 2621439, 8388607, 16777215, 33554431, 67108863, 134217727, 67108863, 335544319, 1073741823, 67108863, 67108863, 6509559807, 17179869183, 34359738367, 68719476735, 137438953471, 274877906943, 549755813887]
theorem bordereaulaw6_BatchRebased.tab9 : rtab .any (opsOf Try.f14 9) = bordereaulaw6_BatchRebased.T9 := by kernel_rfl
theorem bordereaulaw6_BatchRebased.bits9 : waitsOk bordereaulaw6_BatchRebased.T9.2 bordereaulaw6_BatchRebased.B9 = true := by kernel_rfl
set_option maxHeartbeats 8000000 in
set_option maxRecDepth 100000 in
theorem bordereaulaw6_BatchRebased.calls (k : Nat) (A0 : Option Addr) (c0 : Nat) (l0 : List Int) (A1 : Option Addr) (c1 : Nat) (l1 : List Int) (a2 : Int) (r : Bool) (w : World) (hr0 : Kd.C (Kd.int .i64) w A0 l0.length l0) (hc0 : l0.length ≤ c0) (hr1 : Kd.C (Kd.int .i64) w A1 l1.length l1) (hc1 : l1.length ≤ c1) (h : bordereaulaw6_BatchRebased.f k l0 l1 a2 = some r) :
    Calls Try.prog 14 #[.slice A0 l0.length c0, .slice A1 l1.length c1, .int .i64 a2] w fun e w' => e = .returned (.bool r) ∧ Below w.heap.size w w' := by
  have hu49 := Try.underlying49
  have hu56 := Try.underlying56
  have HR0 := Aside0.mk hr0
  have HC0 := Aside0.mk hc0
  clear hr0 hc0
  have HR1 := Aside0.mk hr1
  have HC1 := Aside0.mk hc1
  clear hr1 hc1
  have HB := Aside0.mk (Below.refl w.heap.size w)
  have H : ((bordereaukeep_Tape_Batch_boxed.f k l0 0 5).bind fun bt419 => ((bordereaukeep_Tape_Batch_boxed.f k l1 0 5).bind fun bt428 => ((batch_Bytes.f k bt419.1 bt419.2.1 bt419.2.2.1 bt419.2.2.2.1 bt419.2.2.2.2.1 bt419.2.2.2.2.2.1 bt419.2.2.2.2.2.2).bind fun bt439 => ((batch_Bytes.f k bt428.1 bt428.2.1 bt428.2.2.1 bt428.2.2.2.1 bt428.2.2.2.2.1 bt428.2.2.2.2.2.1 bt428.2.2.2.2.2.2).bind fun bt443 => ((batch_Rebase.f k bt439.1 (Go.bits .and .i64 a2 1099511627775)).bind fun bt447 => ((batch_Read.f k bt447.1).bind fun bt451 => (if bt439.2 = 0 then (if bt443.2 = 0 then (if bt451.2.2.2.2.2.2.2.2 = 0 then (if bt447.2 = true then ((bordereauref6_Same.f k bt451.1 bt451.2.1 bt451.2.2.1 bt451.2.2.2.1 bt451.2.2.2.2.1 bt451.2.2.2.2.2.1 bt451.2.2.2.2.2.2.1 (Go.bits .and .i64 a2 1099511627775) bt419.2.1 bt419.2.2.1 bt419.2.2.2.1 bt419.2.2.2.2.1 bt419.2.2.2.2.2.1 bt419.2.2.2.2.2.2).bind fun t464 => (if t464 = true then (if (bt447.1.length : Int) = (bt439.1.length : Int) then ((bordereauref6_Same.f k bt419.1 bt419.2.1 bt419.2.2.1 bt419.2.2.2.1 bt419.2.2.2.2.1 bt419.2.2.2.2.2.1 bt419.2.2.2.2.2.2 bt428.1 bt428.2.1 bt428.2.2.1 bt428.2.2.2.1 bt428.2.2.2.2.1 bt428.2.2.2.2.2.1 bt428.2.2.2.2.2.2).bind fun t465 => (if (((strOfNums bt439.1).toList == (strOfNums bt443.1).toList) == t465) = true then ((bordereaulaw6_known.f k).bind fun t466 => (some t466)) else (none))) else (none)) else (none))) else (none)) else (none)) else (none)) else (none)))))))) = some r := h
  clear h
  replace H := Option.bind_eq_some_iff.mp H
  obtain ⟨⟨t419, t420, t421, t422, t423, t424, t425⟩, A40, H⟩ := H
  replace H : ((bordereaukeep_Tape_Batch_boxed.f k l1 0 5).bind fun bt428 => ((batch_Bytes.f k t419 t420 t421 t422 t423 t424 t425).bind fun bt439 => ((batch_Bytes.f k bt428.1 bt428.2.1 bt428.2.2.1 bt428.2.2.2.1 bt428.2.2.2.2.1 bt428.2.2.2.2.2.1 bt428.2.2.2.2.2.2).bind fun bt443 => ((batch_Rebase.f k bt439.1 (Go.bits .and .i64 a2 1099511627775)).bind fun bt447 => ((batch_Read.f k bt447.1).bind fun bt451 => (if bt439.2 = 0 then (if bt443.2 = 0 then (if bt451.2.2.2.2.2.2.2.2 = 0 then (if bt447.2 = true then ((bordereauref6_Same.f k bt451.1 bt451.2.1 bt451.2.2.1 bt451.2.2.2.1 bt451.2.2.2.2.1 bt451.2.2.2.2.2.1 bt451.2.2.2.2.2.2.1 (Go.bits .and .i64 a2 1099511627775) t420 t421 t422 t423 t424 t425).bind fun t464 => (if t464 = true then (if (bt447.1.length : Int) = (bt439.1.length : Int) then ((bordereauref6_Same.f k t419 t420 t421 t422 t423 t424 t425 bt428.1 bt428.2.1 bt428.2.2.1 bt428.2.2.2.1 bt428.2.2.2.2.1 bt428.2.2.2.2.2.1 bt428.2.2.2.2.2.2).bind fun t465 => (if (((strOfNums bt439.1).toList == (strOfNums bt443.1).toList) == t465) = true then ((bordereaulaw6_known.f k).bind fun t466 => (some t466)) else (none))) else (none)) else (none))) else (none)) else (none)) else (none)) else (none))))))) = some r := H
  have A4 := Aside0.mk A40
  clear A40
  replace H := Option.bind_eq_some_iff.mp H
  obtain ⟨⟨t428, t429, t430, t431, t432, t433, t434⟩, A50, H⟩ := H
  replace H : ((batch_Bytes.f k t419 t420 t421 t422 t423 t424 t425).bind fun bt439 => ((batch_Bytes.f k t428 t429 t430 t431 t432 t433 t434).bind fun bt443 => ((batch_Rebase.f k bt439.1 (Go.bits .and .i64 a2 1099511627775)).bind fun bt447 => ((batch_Read.f k bt447.1).bind fun bt451 => (if bt439.2 = 0 then (if bt443.2 = 0 then (if bt451.2.2.2.2.2.2.2.2 = 0 then (if bt447.2 = true then ((bordereauref6_Same.f k bt451.1 bt451.2.1 bt451.2.2.1 bt451.2.2.2.1 bt451.2.2.2.2.1 bt451.2.2.2.2.2.1 bt451.2.2.2.2.2.2.1 (Go.bits .and .i64 a2 1099511627775) t420 t421 t422 t423 t424 t425).bind fun t464 => (if t464 = true then (if (bt447.1.length : Int) = (bt439.1.length : Int) then ((bordereauref6_Same.f k t419 t420 t421 t422 t423 t424 t425 t428 t429 t430 t431 t432 t433 t434).bind fun t465 => (if (((strOfNums bt439.1).toList == (strOfNums bt443.1).toList) == t465) = true then ((bordereaulaw6_known.f k).bind fun t466 => (some t466)) else (none))) else (none)) else (none))) else (none)) else (none)) else (none)) else (none)))))) = some r := H
  have A5 := Aside0.mk A50
  clear A50
  replace H := Option.bind_eq_some_iff.mp H
  obtain ⟨⟨t439, t442⟩, A60, H⟩ := H
  replace H : ((batch_Bytes.f k t428 t429 t430 t431 t432 t433 t434).bind fun bt443 => ((batch_Rebase.f k t439 (Go.bits .and .i64 a2 1099511627775)).bind fun bt447 => ((batch_Read.f k bt447.1).bind fun bt451 => (if t442 = 0 then (if bt443.2 = 0 then (if bt451.2.2.2.2.2.2.2.2 = 0 then (if bt447.2 = true then ((bordereauref6_Same.f k bt451.1 bt451.2.1 bt451.2.2.1 bt451.2.2.2.1 bt451.2.2.2.2.1 bt451.2.2.2.2.2.1 bt451.2.2.2.2.2.2.1 (Go.bits .and .i64 a2 1099511627775) t420 t421 t422 t423 t424 t425).bind fun t464 => (if t464 = true then (if (bt447.1.length : Int) = (t439.length : Int) then ((bordereauref6_Same.f k t419 t420 t421 t422 t423 t424 t425 t428 t429 t430 t431 t432 t433 t434).bind fun t465 => (if (((strOfNums t439).toList == (strOfNums bt443.1).toList) == t465) = true then ((bordereaulaw6_known.f k).bind fun t466 => (some t466)) else (none))) else (none)) else (none))) else (none)) else (none)) else (none)) else (none))))) = some r := H
  have A6 := Aside0.mk A60
  clear A60
  replace H := Option.bind_eq_some_iff.mp H
  obtain ⟨⟨t443, t446⟩, A70, H⟩ := H
  replace H : ((batch_Rebase.f k t439 (Go.bits .and .i64 a2 1099511627775)).bind fun bt447 => ((batch_Read.f k bt447.1).bind fun bt451 => (if t442 = 0 then (if t446 = 0 then (if bt451.2.2.2.2.2.2.2.2 = 0 then (if bt447.2 = true then ((bordereauref6_Same.f k bt451.1 bt451.2.1 bt451.2.2.1 bt451.2.2.2.1 bt451.2.2.2.2.1 bt451.2.2.2.2.2.1 bt451.2.2.2.2.2.2.1 (Go.bits .and .i64 a2 1099511627775) t420 t421 t422 t423 t424 t425).bind fun t464 => (if t464 = true then (if (bt447.1.length : Int) = (t439.length : Int) then ((bordereauref6_Same.f k t419 t420 t421 t422 t423 t424 t425 t428 t429 t430 t431 t432 t433 t434).bind fun t465 => (if (((strOfNums t439).toList == (strOfNums t443).toList) == t465) = true then ((bordereaulaw6_known.f k).bind fun t466 => (some t466)) else (none))) else (none)) else (none))) else (none)) else (none)) else (none)) else (none)))) = some r := H
  have A7 := Aside0.mk A70
  clear A70
  replace H := Option.bind_eq_some_iff.mp H
  obtain ⟨⟨t447, t448⟩, A80, H⟩ := H
  replace H : ((batch_Read.f k t447).bind fun bt451 => (if t442 = 0 then (if t446 = 0 then (if bt451.2.2.2.2.2.2.2.2 = 0 then (if t448 = true then ((bordereauref6_Same.f k bt451.1 bt451.2.1 bt451.2.2.1 bt451.2.2.2.1 bt451.2.2.2.2.1 bt451.2.2.2.2.2.1 bt451.2.2.2.2.2.2.1 (Go.bits .and .i64 a2 1099511627775) t420 t421 t422 t423 t424 t425).bind fun t464 => (if t464 = true then (if (t447.length : Int) = (t439.length : Int) then ((bordereauref6_Same.f k t419 t420 t421 t422 t423 t424 t425 t428 t429 t430 t431 t432 t433 t434).bind fun t465 => (if (((strOfNums t439).toList == (strOfNums t443).toList) == t465) = true then ((bordereaulaw6_known.f k).bind fun t466 => (some t466)) else (none))) else (none)) else (none))) else (none)) else (none)) else (none)) else (none))) = some r := H
  have A8 := Aside0.mk A80
  clear A80
  replace H := Option.bind_eq_some_iff.mp H
  obtain ⟨⟨t451, t452, t453, t454, t455, t456, t457, t460, t461⟩, A90, H⟩ := H
  replace H : (if t442 = 0 then (if t446 = 0 then (if t461 = 0 then (if t448 = true then ((bordereauref6_Same.f k t451 t452 t453 t454 t455 t456 t457 (Go.bits .and .i64 a2 1099511627775) t420 t421 t422 t423 t424 t425).bind fun t464 => (if t464 = true then (if (t447.length : Int) = (t439.length : Int) then ((bordereauref6_Same.f k t419 t420 t421 t422 t423 t424 t425 t428 t429 t430 t431 t432 t433 t434).bind fun t465 => (if (((strOfNums t439).toList == (strOfNums t443).toList) == t465) = true then ((bordereaulaw6_known.f k).bind fun t466 => (some t466)) else (none))) else (none)) else (none))) else (none)) else (none)) else (none)) else (none)) = some r := H
  have A9 := Aside0.mk A90
  clear A90
  by_cases c10 : t442 = 0
  · rw [if_pos c10] at H
    have c10b0 : (t442 == 0) = true := beq_iff_eq.mpr c10
    have c10b1 : (t442 != 0) = false := bne_eq_false_iff_eq.mpr c10
    clear c10
    by_cases c11 : t446 = 0
    · rw [if_pos c11] at H
      have c11b0 : (t446 == 0) = true := beq_iff_eq.mpr c11
      have c11b1 : (t446 != 0) = false := bne_eq_false_iff_eq.mpr c11
      clear c11
      by_cases c12 : t461 = 0
      · rw [if_pos c12] at H
        have c12b0 : (t461 == 0) = true := beq_iff_eq.mpr c12
        have c12b1 : (t461 != 0) = false := bne_eq_false_iff_eq.mpr c12
        clear c12
        by_cases c13 : t448 = true
        · subst c13
          have H1 : ((bordereauref6_Same.f k t451 t452 t453 t454 t455 t456 t457 (Go.bits .and .i64 a2 1099511627775) t420 t421 t422 t423 t424 t425).bind fun t464 => (if t464 = true then (if (t447.length : Int) = (t439.length : Int) then ((bordereauref6_Same.f k t419 t420 t421 t422 t423 t424 t425 t428 t429 t430 t431 t432 t433 t434).bind fun t465 => (if (((strOfNums t439).toList == (strOfNums t443).toList) == t465) = true then ((bordereaulaw6_known.f k).bind fun t466 => (some t466)) else (none))) else (none)) else (none))) = some r := by rw [if_pos rfl] at H; exact H
          clear H
          have H := H1
          clear H1
          replace H := Option.bind_eq_some_iff.mp H
          obtain ⟨t464, A140, H⟩ := H
          replace H : (if t464 = true then (if (t447.length : Int) = (t439.length : Int) then ((bordereauref6_Same.f k t419 t420 t421 t422 t423 t424 t425 t428 t429 t430 t431 t432 t433 t434).bind fun t465 => (if (((strOfNums t439).toList == (strOfNums t443).toList) == t465) = true then ((bordereaulaw6_known.f k).bind fun t466 => (some t466)) else (none))) else (none)) else (none)) = some r := H
          have A14 := Aside0.mk A140
          clear A140
          by_cases c15 : t464 = true
          · subst c15
            have H1 : (if (t447.length : Int) = (t439.length : Int) then ((bordereauref6_Same.f k t419 t420 t421 t422 t423 t424 t425 t428 t429 t430 t431 t432 t433 t434).bind fun t465 => (if (((strOfNums t439).toList == (strOfNums t443).toList) == t465) = true then ((bordereaulaw6_known.f k).bind fun t466 => (some t466)) else (none))) else (none)) = some r := by rw [if_pos rfl] at H; exact H
            clear H
            have H := H1
            clear H1
            by_cases c16 : (t447.length : Int) = (t439.length : Int)
            · rw [if_pos c16] at H
              have c16b0 : ((t447.length : Int) == (t439.length : Int)) = true := beq_iff_eq.mpr c16
              have c16b1 : ((t447.length : Int) != (t439.length : Int)) = false := bne_eq_false_iff_eq.mpr c16
              have c16b2 : (t447.length == t439.length) = true := by first | simpa using c16 | (simp at c16 ⊢; omega)
              clear c16
              replace H := Option.bind_eq_some_iff.mp H
              obtain ⟨t465, A170, H⟩ := H
              replace H : (if (((strOfNums t439).toList == (strOfNums t443).toList) == t465) = true then ((bordereaulaw6_known.f k).bind fun t466 => (some t466)) else (none)) = some r := H
              have A17 := Aside0.mk A170
              clear A170
              by_cases c18 : (((strOfNums t439).toList == (strOfNums t443).toList) == t465) = true
              · rw [if_pos c18] at H
                have c18b0 : (((strOfNums t439).toList == (strOfNums t443).toList) == t465) = true := c18
                (try (have c18b1 : decide (((strOfNums t439).toList == (strOfNums t443).toList) = t465) = true := by simpa using c18))
                (try (have c18b2 : (((strOfNums t439).toList == (strOfNums t443).toList) == t465) = true := by simpa using c18))
                clear c18
                replace H := Option.bind_eq_some_iff.mp H
                obtain ⟨t466, A190, H⟩ := H
                replace H : (some t466) = some r := H
                have A19 := Aside0.mk A190
                clear A190
                obtain rfl := Option.some.inj H
                go_enter Try.func14, Try.ntmps14
                try go_wp2_with (first | (go_at_call 41; (with_reducible refine (bordereaukeep_Tape_Batch_boxed.calls k _ _ l0 0 5 t419 t420 t421 t422 t423 t424 t425 _ ?side1 ?side2 A4.out).mono ?_); (case side1 => exact cgo_ (HR0.out)); (case side2 => exact HC0.out); rintro e w20 ⟨v426, rfl, ho0, hb⟩; have n0_ := Aside0.mk (Kd.R_lower ho0 (below_size (bel_ HB))); have n1_ := Aside0.mk (below_step (bel_ HB) hb); clear HB; have HO427 := n0_; have HB := n1_; clear n0_ n1_; (try clear hb); (try clear hb2); (try clear hk); (try clear hi); (try clear ho0)) | (go_at_call 41; (with_reducible refine (bordereaukeep_Tape_Batch_boxed.calls k _ _ l1 0 5 t428 t429 t430 t431 t432 t433 t434 _ ?side1 ?side2 A5.out).mono ?_); (case side1 => exact cgo_ ((Kd.C_below HR1.out HB.out))); (case side2 => exact HC1.out); rintro e w21 ⟨v435, rfl, ho0, hb⟩; have n0_ := Aside0.mk (Kd.R_elder' (rgo_ HO427) (Kd.R_base ho0) hb); have n1_ := Aside0.mk (Kd.R_lower (Kd.R_new' ho0 (Kd.R_lt (rgo_ HO427))) (below_size (bel_ HB))); have n2_ := Aside0.mk (below_step (bel_ HB) hb); clear HO427 HB; have HO427 := n0_; have HO436 := n1_; have HB := n2_; clear n0_ n1_ n2_; (try clear hb); (try clear hb2); (try clear hk); (try clear hi); (try clear ho0)) | ((with_reducible refine gate_dst (N := 7) rfl ?_); (try (refine gate_guard (by rfl) ?_; dsimp only)); refine box_event ?hg (N := 7) ?hd (cs := #[.int .i64 0, .int .i64 0, .int .i64 0, .int .i64 0, .bool false, .int .i64 0, .slice none 0 0]) (t := 56) ?hr ?_; (case hd => rfl); (case hg => rfl); (case hr => first | (go_simp; done) | (go_simp; rfl)); intro gb437 hg w22 hbox hb; have n0_ := Aside0.mk (Kd.R_below (rgo_ HO427) hb); have n1_ := Aside0.mk (Kd.R_below (rgo_ HO436) hb); have n2_ := Aside0.mk (below_step (bel_ HB) hb); have n3_ := Aside0.mk (hbox); have n4_ := Aside0.mk ((by rw [hg]; exact (below_size (bel_ HB)) : w.heap.size ≤ gb437)); have n5_ := Aside0.mk ((by rw [hg]; exact (below_size (bel_ HB)) : w.heap.size ≤ gb437)); clear HO427 HO436 HB; have HO427 := n0_; have HO436 := n1_; have HB := n2_; have BK437 := n3_; have GW437 := n4_; have GE437 := n5_; clear n0_ n1_ n2_ n3_ n4_ n5_; clear hb hbox hg) | ((with_reducible refine gate_dst (N := 8) rfl ?_); (try (refine gate_guard (by rfl) ?_; dsimp only)); refine box_event ?hg (N := 8) ?hd (cs := #[.int .i64 0, .int .i64 0, .int .i64 0, .int .i64 0, .bool false, .int .i64 0, .slice none 0 0]) (t := 56) ?hr ?_; (case hd => rfl); (case hg => rfl); (case hr => first | (go_simp; done) | (go_simp; rfl)); intro gb438 hg w23 hbox hb; have n0_ := Aside0.mk (Kd.R_below (rgo_ HO427) hb); have n1_ := Aside0.mk (Kd.R_below (rgo_ HO436) hb); have n2_ := Aside0.mk (blk_below (g := gb437) (o := .cells #[.int .i64 0, .int .i64 0, .int .i64 0, .int .i64 0, .bool false, .int .i64 0, .slice none 0 0] 56 (0, 0)) (blk_ BK437) hb); have n3_ := Aside0.mk (below_step (bel_ HB) hb); have n4_ := Aside0.mk (hbox); have n5_ := Aside0.mk ((by rw [hg]; exact (below_size (bel_ HB)) : w.heap.size ≤ gb438)); have n6_ := Aside0.mk ((by rw [hg]; exact (below_size (bel_ HB)) : w.heap.size ≤ gb438)); have n7_ := Aside0.mk ((by rw [hg]; exact Nat.ne_of_lt (blk_lt (g := gb437) (o := .cells #[.int .i64 0, .int .i64 0, .int .i64 0, .int .i64 0, .bool false, .int .i64 0, .slice none 0 0] 56 (0, 0)) (blk_ BK437)) : gb437 ≠ gb438)); have n8_ := Aside0.mk ((by rw [hg]; exact Nat.ne_of_gt (blk_lt (g := gb437) (o := .cells #[.int .i64 0, .int .i64 0, .int .i64 0, .int .i64 0, .bool false, .int .i64 0, .slice none 0 0] 56 (0, 0)) (blk_ BK437)) : gb438 ≠ gb437)); clear HO427 HO436 BK437 HB; have HO427 := n0_; have HO436 := n1_; have BK437 := n2_; have HB := n3_; have BK438 := n4_; have GW438 := n5_; have GE438 := n6_; have NB437_438 := n7_; have NB438_437 := n8_; clear n0_ n1_ n2_ n3_ n4_ n5_ n6_ n7_ n8_; clear hb hbox hg; have hnb24 := NB437_438.out; have hnc24 := NB438_437.out; obtain ⟨hcz25_0, hcz25_1, hcz25_2, hcz25_3, hcz25_4, hcz25_5, hcz25_6⟩ := cells7_ BK437.out; have hfz25_ := blk_frozen BK437.out; obtain ⟨Ao26, co26, eo26⟩ := Kd.R_slice HO427.out; subst eo26; obtain ⟨hcz27_0, hcz27_1, hcz27_2, hcz27_3, hcz27_4, hcz27_5, hcz27_6⟩ := cells7_ BK438.out; have hfz27_ := blk_frozen BK438.out; obtain ⟨Ao28, co28, eo28⟩ := Kd.R_slice HO436.out; subst eo28) | ((with_reducible refine gate_callee (f := 49) rfl ?_); refine goesL_ (some 30) rfl rfl Try.func49 (by kernel_rfl) rfl #[.agg #[.int .i64 t419, .int .i64 t420, .int .i64 t421, .int .i64 t422, .bool t423, .int .i64 t424, .slice Ao26 t425.length co26]] rfl (by (try simp only [List.map_toArray, List.map_cons, List.map_nil]); first | done | rfl | (simp only [List.length_drop, List.length_take]; rfl)) ?_; (with_reducible refine (batch_Bytes.calls k t419 t420 t421 t422 t423 t424 _ _ t425 t439 t442 _ ?side1 ?side2 A6.out).mono ?_); (case side1 => refine (Kd.R_reads' (e := 71) (base := w.heap.size) (ok := fun k_ => (True ∧ some k_ ≠ (.slice Ao28 t434.length co28 : Value).ownBlock)) (n := t425.length) (c := co26) ?_).2.2; exact (by (with_reducible repeat (first | apply Kd.R_alloc | apply Kd.R_drewN | apply Kd.R_drew)); exact (Kd.R_mono (Kd.R_mono (Kd.R_far (p := ⟨gb438, 6, none⟩) (Kd.R_far (p := ⟨gb438, 5, none⟩) (Kd.R_far (p := ⟨gb438, 4, none⟩) (Kd.R_far (p := ⟨gb438, 3, none⟩) (Kd.R_far (p := ⟨gb438, 2, none⟩) (Kd.R_far (p := ⟨gb438, 1, none⟩) (Kd.R_far (p := ⟨gb438, 0, none⟩) (Kd.R_far (p := ⟨gb437, 6, none⟩) (Kd.R_far (p := ⟨gb437, 5, none⟩) (Kd.R_far (p := ⟨gb437, 4, none⟩) (Kd.R_far (p := ⟨gb437, 3, none⟩) (Kd.R_far (p := ⟨gb437, 2, none⟩) (Kd.R_far (p := ⟨gb437, 1, none⟩) (Kd.R_far (p := ⟨gb437, 0, none⟩) (Kd.R_types (Kd.R_types HO427.out BK437.out (by decide)) BK438.out (by decide)) (fun _ hk => hk.1.2) (.int .i64 t419)) (fun _ hk => hk.1.2) (.int .i64 t420)) (fun _ hk => hk.1.2) (.int .i64 t421)) (fun _ hk => hk.1.2) (.int .i64 t422)) (fun _ hk => hk.1.2) (.bool t423)) (fun _ hk => hk.1.2) (.int .i64 t424)) (fun _ hk => hk.1.2) (.slice Ao26 t425.length co26)) (fun _ hk => hk.2) (.int .i64 t428)) (fun _ hk => hk.2) (.int .i64 t429)) (fun _ hk => hk.2) (.int .i64 t430)) (fun _ hk => hk.2) (.int .i64 t431)) (fun _ hk => hk.2) (.bool t432)) (fun _ hk => hk.2) (.int .i64 t433)) (fun _ hk => hk.2) (.slice Ao28 t434.length co28)) (fun _ h_ => h_.1)) (fun _ h_ => h_.1)))); (case side2 => exact (Kd.R_reads' HO427.out).2.1); rintro e w29 ⟨v440, rfl, ho0, hb⟩; refine ⟨_, rfl, ?_⟩; have n0_ := Aside0.mk (Kd.R_below (by (with_reducible repeat (first | apply Kd.R_alloc | apply Kd.R_drewN | apply Kd.R_drew)); exact (Kd.R_mono (Kd.R_mono (Kd.R_far (p := ⟨gb438, 6, none⟩) (Kd.R_far (p := ⟨gb438, 5, none⟩) (Kd.R_far (p := ⟨gb438, 4, none⟩) (Kd.R_far (p := ⟨gb438, 3, none⟩) (Kd.R_far (p := ⟨gb438, 2, none⟩) (Kd.R_far (p := ⟨gb438, 1, none⟩) (Kd.R_far (p := ⟨gb438, 0, none⟩) (Kd.R_far (p := ⟨gb437, 6, none⟩) (Kd.R_far (p := ⟨gb437, 5, none⟩) (Kd.R_far (p := ⟨gb437, 4, none⟩) (Kd.R_far (p := ⟨gb437, 3, none⟩) (Kd.R_far (p := ⟨gb437, 2, none⟩) (Kd.R_far (p := ⟨gb437, 1, none⟩) (Kd.R_far (p := ⟨gb437, 0, none⟩) (Kd.R_types (Kd.R_types HO427.out BK437.out (by decide)) BK438.out (by decide)) (fun _ hk => hk.1.2) (.int .i64 t419)) (fun _ hk => hk.1.2) (.int .i64 t420)) (fun _ hk => hk.1.2) (.int .i64 t421)) (fun _ hk => hk.1.2) (.int .i64 t422)) (fun _ hk => hk.1.2) (.bool t423)) (fun _ hk => hk.1.2) (.int .i64 t424)) (fun _ hk => hk.1.2) (.slice Ao26 t425.length co26)) (fun _ hk => hk.2) (.int .i64 t428)) (fun _ hk => hk.2) (.int .i64 t429)) (fun _ hk => hk.2) (.int .i64 t430)) (fun _ hk => hk.2) (.int .i64 t431)) (fun _ hk => hk.2) (.bool t432)) (fun _ hk => hk.2) (.int .i64 t433)) (fun _ hk => hk.2) (.slice Ao28 t434.length co28)) (fun _ h_ => h_.1)) (fun _ h_ => h_.1))) hb); have n1_ := Aside0.mk (Kd.R_below (by (with_reducible repeat (first | apply Kd.R_alloc | apply Kd.R_drewN | apply Kd.R_drew)); exact (Kd.R_mono (Kd.R_mono (Kd.R_far (p := ⟨gb438, 6, none⟩) (Kd.R_far (p := ⟨gb438, 5, none⟩) (Kd.R_far (p := ⟨gb438, 4, none⟩) (Kd.R_far (p := ⟨gb438, 3, none⟩) (Kd.R_far (p := ⟨gb438, 2, none⟩) (Kd.R_far (p := ⟨gb438, 1, none⟩) (Kd.R_far (p := ⟨gb438, 0, none⟩) (Kd.R_far (p := ⟨gb437, 6, none⟩) (Kd.R_far (p := ⟨gb437, 5, none⟩) (Kd.R_far (p := ⟨gb437, 4, none⟩) (Kd.R_far (p := ⟨gb437, 3, none⟩) (Kd.R_far (p := ⟨gb437, 2, none⟩) (Kd.R_far (p := ⟨gb437, 1, none⟩) (Kd.R_far (p := ⟨gb437, 0, none⟩) (Kd.R_types (Kd.R_types HO436.out BK437.out (by decide)) BK438.out (by decide)) (fun _ hk => hk.1.2) (.int .i64 t419)) (fun _ hk => hk.1.2) (.int .i64 t420)) (fun _ hk => hk.1.2) (.int .i64 t421)) (fun _ hk => hk.1.2) (.int .i64 t422)) (fun _ hk => hk.1.2) (.bool t423)) (fun _ hk => hk.1.2) (.int .i64 t424)) (fun _ hk => hk.1.2) (.slice Ao26 t425.length co26)) (fun _ hk => hk.2) (.int .i64 t428)) (fun _ hk => hk.2) (.int .i64 t429)) (fun _ hk => hk.2) (.int .i64 t430)) (fun _ hk => hk.2) (.int .i64 t431)) (fun _ hk => hk.2) (.bool t432)) (fun _ hk => hk.2) (.int .i64 t433)) (fun _ hk => hk.2) (.slice Ao28 t434.length co28)) (fun _ h_ => h_.1)) (fun _ h_ => h_.1))) hb); have n2_ := Aside0.mk (Kd.R_lower ho0 (below_size (bel_ HB))); have n3_ := Aside0.mk (blk_below (g := gb437) (o := .cells #[.int .i64 t419, .int .i64 t420, .int .i64 t421, .int .i64 t422, .bool t423, .int .i64 t424, .slice Ao26 t425.length co26] 56 (0, 0)) (by (with_reducible repeat (first | refine blk_drewN ?_ _ | refine blk_drew ?_ | refine blk_alloc ?_ _)); refine blk_far ?_ NB437_438.out _; (with_reducible repeat (first | refine blk_drewN ?_ _ | refine blk_drew ?_ | refine blk_alloc ?_ _)); refine blk_far ?_ NB437_438.out _; (with_reducible repeat (first | refine blk_drewN ?_ _ | refine blk_drew ?_ | refine blk_alloc ?_ _)); refine blk_far ?_ NB437_438.out _; (with_reducible repeat (first | refine blk_drewN ?_ _ | refine blk_drew ?_ | refine blk_alloc ?_ _)); refine blk_far ?_ NB437_438.out _; (with_reducible repeat (first | refine blk_drewN ?_ _ | refine blk_drew ?_ | refine blk_alloc ?_ _)); refine blk_far ?_ NB437_438.out _; (with_reducible repeat (first | refine blk_drewN ?_ _ | refine blk_drew ?_ | refine blk_alloc ?_ _)); refine blk_far ?_ NB437_438.out _; (with_reducible repeat (first | refine blk_drewN ?_ _ | refine blk_drew ?_ | refine blk_alloc ?_ _)); refine blk_far ?_ NB437_438.out _; (with_reducible repeat (first | refine blk_drewN ?_ _ | refine blk_drew ?_ | refine blk_alloc ?_ _)); refine blk_put (cs := #[.int .i64 t419, .int .i64 t420, .int .i64 t421, .int .i64 t422, .bool t423, .int .i64 t424, .slice none 0 0]) ?_ 6 _ rfl; (with_reducible repeat (first | refine blk_drewN ?_ _ | refine blk_drew ?_ | refine blk_alloc ?_ _)); refine blk_put (cs := #[.int .i64 t419, .int .i64 t420, .int .i64 t421, .int .i64 t422, .bool t423, .int .i64 0, .slice none 0 0]) ?_ 5 _ rfl; (with_reducible repeat (first | refine blk_drewN ?_ _ | refine blk_drew ?_ | refine blk_alloc ?_ _)); refine blk_put (cs := #[.int .i64 t419, .int .i64 t420, .int .i64 t421, .int .i64 t422, .bool false, .int .i64 0, .slice none 0 0]) ?_ 4 _ rfl; (with_reducible repeat (first | refine blk_drewN ?_ _ | refine blk_drew ?_ | refine blk_alloc ?_ _)); refine blk_put (cs := #[.int .i64 t419, .int .i64 t420, .int .i64 t421, .int .i64 0, .bool false, .int .i64 0, .slice none 0 0]) ?_ 3 _ rfl; (with_reducible repeat (first | refine blk_drewN ?_ _ | refine blk_drew ?_ | refine blk_alloc ?_ _)); refine blk_put (cs := #[.int .i64 t419, .int .i64 t420, .int .i64 0, .int .i64 0, .bool false, .int .i64 0, .slice none 0 0]) ?_ 2 _ rfl; (with_reducible repeat (first | refine blk_drewN ?_ _ | refine blk_drew ?_ | refine blk_alloc ?_ _)); refine blk_put (cs := #[.int .i64 t419, .int .i64 0, .int .i64 0, .int .i64 0, .bool false, .int .i64 0, .slice none 0 0]) ?_ 1 _ rfl; (with_reducible repeat (first | refine blk_drewN ?_ _ | refine blk_drew ?_ | refine blk_alloc ?_ _)); refine blk_put (cs := #[.int .i64 0, .int .i64 0, .int .i64 0, .int .i64 0, .bool false, .int .i64 0, .slice none 0 0]) ?_ 0 _ rfl; (with_reducible repeat (first | refine blk_drewN ?_ _ | refine blk_drew ?_ | refine blk_alloc ?_ _)); exact BK437.out) hb); have n4_ := Aside0.mk (blk_below (g := gb438) (o := .cells #[.int .i64 t428, .int .i64 t429, .int .i64 t430, .int .i64 t431, .bool t432, .int .i64 t433, .slice Ao28 t434.length co28] 56 (0, 0)) (by (with_reducible repeat (first | refine blk_drewN ?_ _ | refine blk_drew ?_ | refine blk_alloc ?_ _)); refine blk_put (cs := #[.int .i64 t428, .int .i64 t429, .int .i64 t430, .int .i64 t431, .bool t432, .int .i64 t433, .slice none 0 0]) ?_ 6 _ rfl; (with_reducible repeat (first | refine blk_drewN ?_ _ | refine blk_drew ?_ | refine blk_alloc ?_ _)); refine blk_put (cs := #[.int .i64 t428, .int .i64 t429, .int .i64 t430, .int .i64 t431, .bool t432, .int .i64 0, .slice none 0 0]) ?_ 5 _ rfl; (with_reducible repeat (first | refine blk_drewN ?_ _ | refine blk_drew ?_ | refine blk_alloc ?_ _)); refine blk_put (cs := #[.int .i64 t428, .int .i64 t429, .int .i64 t430, .int .i64 t431, .bool false, .int .i64 0, .slice none 0 0]) ?_ 4 _ rfl; (with_reducible repeat (first | refine blk_drewN ?_ _ | refine blk_drew ?_ | refine blk_alloc ?_ _)); refine blk_put (cs := #[.int .i64 t428, .int .i64 t429, .int .i64 t430, .int .i64 0, .bool false, .int .i64 0, .slice none 0 0]) ?_ 3 _ rfl; (with_reducible repeat (first | refine blk_drewN ?_ _ | refine blk_drew ?_ | refine blk_alloc ?_ _)); refine blk_put (cs := #[.int .i64 t428, .int .i64 t429, .int .i64 0, .int .i64 0, .bool false, .int .i64 0, .slice none 0 0]) ?_ 2 _ rfl; (with_reducible repeat (first | refine blk_drewN ?_ _ | refine blk_drew ?_ | refine blk_alloc ?_ _)); refine blk_put (cs := #[.int .i64 t428, .int .i64 0, .int .i64 0, .int .i64 0, .bool false, .int .i64 0, .slice none 0 0]) ?_ 1 _ rfl; (with_reducible repeat (first | refine blk_drewN ?_ _ | refine blk_drew ?_ | refine blk_alloc ?_ _)); refine blk_put (cs := #[.int .i64 0, .int .i64 0, .int .i64 0, .int .i64 0, .bool false, .int .i64 0, .slice none 0 0]) ?_ 0 _ rfl; (with_reducible repeat (first | refine blk_drewN ?_ _ | refine blk_drew ?_ | refine blk_alloc ?_ _)); refine blk_far ?_ NB438_437.out _; (with_reducible repeat (first | refine blk_drewN ?_ _ | refine blk_drew ?_ | refine blk_alloc ?_ _)); refine blk_far ?_ NB438_437.out _; (with_reducible repeat (first | refine blk_drewN ?_ _ | refine blk_drew ?_ | refine blk_alloc ?_ _)); refine blk_far ?_ NB438_437.out _; (with_reducible repeat (first | refine blk_drewN ?_ _ | refine blk_drew ?_ | refine blk_alloc ?_ _)); refine blk_far ?_ NB438_437.out _; (with_reducible repeat (first | refine blk_drewN ?_ _ | refine blk_drew ?_ | refine blk_alloc ?_ _)); refine blk_far ?_ NB438_437.out _; (with_reducible repeat (first | refine blk_drewN ?_ _ | refine blk_drew ?_ | refine blk_alloc ?_ _)); refine blk_far ?_ NB438_437.out _; (with_reducible repeat (first | refine blk_drewN ?_ _ | refine blk_drew ?_ | refine blk_alloc ?_ _)); refine blk_far ?_ NB438_437.out _; (with_reducible repeat (first | refine blk_drewN ?_ _ | refine blk_drew ?_ | refine blk_alloc ?_ _)); exact BK438.out) hb); have n5_ := Aside0.mk (below_step (bel_ HB) hb); clear HO427 HO436 BK437 BK438 HB; have HO427 := n0_; have HO436 := n1_; have HO441 := n2_; have BK437 := n3_; have BK438 := n4_; have HB := n5_; clear n0_ n1_ n2_ n3_ n4_ n5_; (try clear hb); (try clear hb2); (try clear hk); (try clear hi); (try clear ho0); obtain ⟨hcz30_0, hcz30_1, hcz30_2, hcz30_3, hcz30_4, hcz30_5, hcz30_6⟩ := cells7_ BK438.out; have hfz30_ := blk_frozen BK438.out) | ((with_reducible refine gate_callee (f := 49) rfl ?_); refine goesL_ (some 35) rfl rfl Try.func49 (by kernel_rfl) rfl #[.agg #[.int .i64 t428, .int .i64 t429, .int .i64 t430, .int .i64 t431, .bool t432, .int .i64 t433, .slice Ao28 t434.length co28]] rfl (by (try simp only [List.map_toArray, List.map_cons, List.map_nil]); first | done | rfl | (simp only [List.length_drop, List.length_take]; rfl)) ?_; (with_reducible refine (batch_Bytes.calls k t428 t429 t430 t431 t432 t433 _ _ t434 t443 t446 _ ?side1 ?side2 A7.out).mono ?_); (case side1 => exact cgo_ ((Kd.R_reads' HO436.out).2.2)); (case side2 => exact (Kd.R_reads' HO436.out).2.1); rintro e w31 ⟨v444, rfl, ho0, hb⟩; refine ⟨_, rfl, ?_⟩; have n0_ := Aside0.mk (Kd.R_below (rgo_ HO427) hb); have n1_ := Aside0.mk (Kd.R_below (rgo_ HO436) hb); have n2_ := Aside0.mk (Kd.R_elder' (rgo_ HO441) (Kd.R_base ho0) hb); have n3_ := Aside0.mk (Kd.R_lower (Kd.R_new' ho0 (Kd.R_lt (rgo_ HO441))) (below_size (bel_ HB))); have n4_ := Aside0.mk (blk_below (g := gb437) (o := .cells #[.int .i64 t419, .int .i64 t420, .int .i64 t421, .int .i64 t422, .bool t423, .int .i64 t424, .slice Ao26 t425.length co26] 56 (0, 0)) (blk_ BK437) hb); have n5_ := Aside0.mk (blk_below (g := gb438) (o := .cells #[.int .i64 t428, .int .i64 t429, .int .i64 t430, .int .i64 t431, .bool t432, .int .i64 t433, .slice Ao28 t434.length co28] 56 (0, 0)) (blk_ BK438) hb); have n6_ := Aside0.mk (below_step (bel_ HB) hb); clear HO427 HO436 HO441 BK437 BK438 HB; have HO427 := n0_; have HO436 := n1_; have HO441 := n2_; have HO445 := n3_; have BK437 := n4_; have BK438 := n5_; have HB := n6_; clear n0_ n1_ n2_ n3_ n4_ n5_ n6_; (try clear hb); (try clear hb2); (try clear hk); (try clear hi); (try clear ho0); obtain ⟨Ao32, co32, eo32⟩ := Kd.R_slice HO441.out; subst eo32) | ((with_reducible refine gate_callee (f := 50) rfl ?_); refine goesL_ (some 43) rfl rfl Try.func50 (by kernel_rfl) rfl #[.slice Ao32 t439.length co32, .int .i64 (Go.bits .and .i64 a2 1099511627775)] rfl (by (try simp only [List.map_toArray, List.map_cons, List.map_nil]); first | done | rfl | (simp only [List.length_drop, List.length_take]; rfl)) ?_; (with_reducible refine (batch_Rebase.calls k _ _ t439 (Go.bits .and .i64 a2 1099511627775) t447 true _ ?side1 ?side2 A8.out).mono ?_); (case side1 => exact cgo_ ((Kd.R_reads' HO441.out).2.2)); (case side2 => exact (Kd.R_reads' HO441.out).2.1); rintro e w33 ⟨v449, rfl, ho0, hb⟩; refine ⟨_, rfl, ?_⟩; have n0_ := Aside0.mk (Kd.R_below (rgo_ HO427) hb); have n1_ := Aside0.mk (Kd.R_below (rgo_ HO436) hb); have n2_ := Aside0.mk (Kd.R_elder' (rgo_ HO441) (Kd.R_base ho0) hb); have n3_ := Aside0.mk (Kd.R_elder' (rgo_ HO445) (Kd.R_base ho0) hb); have n4_ := Aside0.mk (Kd.R_lower (Kd.R_new' (Kd.R_new' ho0 (Kd.R_lt (rgo_ HO441))) (Kd.R_lt (rgo_ HO445))) (below_size (bel_ HB))); have n5_ := Aside0.mk (blk_below (g := gb437) (o := .cells #[.int .i64 t419, .int .i64 t420, .int .i64 t421, .int .i64 t422, .bool t423, .int .i64 t424, .slice Ao26 t425.length co26] 56 (0, 0)) (blk_ BK437) hb); have n6_ := Aside0.mk (blk_below (g := gb438) (o := .cells #[.int .i64 t428, .int .i64 t429, .int .i64 t430, .int .i64 t431, .bool t432, .int .i64 t433, .slice Ao28 t434.length co28] 56 (0, 0)) (blk_ BK438) hb); have n7_ := Aside0.mk (below_step (bel_ HB) hb); clear HO427 HO436 HO441 HO445 BK437 BK438 HB; have HO427 := n0_; have HO436 := n1_; have HO441 := n2_; have HO445 := n3_; have HO450 := n4_; have BK437 := n5_; have BK438 := n6_; have HB := n7_; clear n0_ n1_ n2_ n3_ n4_ n5_ n6_ n7_; (try clear hb); (try clear hb2); (try clear hk); (try clear hi); (try clear ho0); obtain ⟨Ao34, co34, eo34⟩ := Kd.R_slice HO450.out; subst eo34) | ((with_reducible refine gate_callee (f := 51) rfl ?_); refine goesL_ (some 48) rfl rfl Try.func51 (by kernel_rfl) rfl #[.slice Ao34 t447.length co34] rfl (by (try simp only [List.map_toArray, List.map_cons, List.map_nil]); first | done | rfl | (simp only [List.length_drop, List.length_take]; rfl)) ?_; (with_reducible refine (batch_Read.calls k _ _ t447 t451 t452 t453 t454 t455 t456 t457 t460 t461 _ ?side1 ?side2 A9.out).mono ?_); (case side1 => exact cgo_ ((Kd.R_reads' HO450.out).2.2)); (case side2 => exact (Kd.R_reads' HO450.out).2.1); rintro e w35 ⟨v458, rfl, ho0, hb⟩; refine ⟨_, rfl, ?_⟩; have n0_ := Aside0.mk (Kd.R_elder' (rgo_ HO427) (Kd.R_base ho0) hb); have n1_ := Aside0.mk (Kd.R_elder' (rgo_ HO436) (Kd.R_base ho0) hb); have n2_ := Aside0.mk (Kd.R_below (rgo_ HO441) hb); have n3_ := Aside0.mk (Kd.R_below (rgo_ HO445) hb); have n4_ := Aside0.mk (Kd.R_below (rgo_ HO450) hb); have n5_ := Aside0.mk (Kd.R_lower (Kd.R_new' (Kd.R_new' ho0 (Kd.R_lt (rgo_ HO427))) (Kd.R_lt (rgo_ HO436))) (below_size (bel_ HB))); have n6_ := Aside0.mk (blk_below (g := gb437) (o := .cells #[.int .i64 t419, .int .i64 t420, .int .i64 t421, .int .i64 t422, .bool t423, .int .i64 t424, .slice Ao26 t425.length co26] 56 (0, 0)) (blk_ BK437) hb); have n7_ := Aside0.mk (blk_below (g := gb438) (o := .cells #[.int .i64 t428, .int .i64 t429, .int .i64 t430, .int .i64 t431, .bool t432, .int .i64 t433, .slice Ao28 t434.length co28] 56 (0, 0)) (blk_ BK438) hb); have n8_ := Aside0.mk (below_step (bel_ HB) hb); clear HO427 HO436 HO441 HO445 HO450 BK437 BK438 HB; have HO427 := n0_; have HO436 := n1_; have HO441 := n2_; have HO445 := n3_; have HO450 := n4_; have HO459 := n5_; have BK437 := n6_; have BK438 := n7_; have HB := n8_; clear n0_ n1_ n2_ n3_ n4_ n5_ n6_ n7_ n8_; (try clear hb); (try clear hb2); (try clear hk); (try clear hi); (try clear ho0)) | ((with_reducible refine gate_dst (N := 16) rfl ?_); (try (refine gate_guard (by rfl) ?_; dsimp only)); refine box_event ?hg (N := 16) ?hd (cs := #[.int .i64 0, .int .i64 0, .int .i64 0, .int .i64 0, .bool false, .int .i64 0, .slice none 0 0]) (t := 56) ?hr ?_; (case hd => rfl); (case hg => rfl); (case hr => first | (go_simp; done) | (go_simp; rfl)); intro gb462 hg w36 hbox hb; have n0_ := Aside0.mk (Kd.R_below (rgo_ HO427) hb); have n1_ := Aside0.mk (Kd.R_below (rgo_ HO436) hb); have n2_ := Aside0.mk (Kd.R_below (rgo_ HO441) hb); have n3_ := Aside0.mk (Kd.R_below (rgo_ HO445) hb); have n4_ := Aside0.mk (Kd.R_below (rgo_ HO450) hb); have n5_ := Aside0.mk (Kd.R_below (rgo_ HO459) hb); have n6_ := Aside0.mk (blk_below (g := gb437) (o := .cells #[.int .i64 t419, .int .i64 t420, .int .i64 t421, .int .i64 t422, .bool t423, .int .i64 t424, .slice Ao26 t425.length co26] 56 (0, 0)) (blk_ BK437) hb); have n7_ := Aside0.mk (blk_below (g := gb438) (o := .cells #[.int .i64 t428, .int .i64 t429, .int .i64 t430, .int .i64 t431, .bool t432, .int .i64 t433, .slice Ao28 t434.length co28] 56 (0, 0)) (blk_ BK438) hb); have n8_ := Aside0.mk (below_step (bel_ HB) hb); have n9_ := Aside0.mk (hbox); have n10_ := Aside0.mk ((by rw [hg]; exact (below_size (bel_ HB)) : w.heap.size ≤ gb462)); have n11_ := Aside0.mk ((by rw [hg]; exact (below_size (bel_ HB)) : w.heap.size ≤ gb462)); have n12_ := Aside0.mk ((by rw [hg]; exact Nat.ne_of_lt (blk_lt (g := gb437) (o := .cells #[.int .i64 t419, .int .i64 t420, .int .i64 t421, .int .i64 t422, .bool t423, .int .i64 t424, .slice Ao26 t425.length co26] 56 (0, 0)) (blk_ BK437)) : gb437 ≠ gb462)); have n13_ := Aside0.mk ((by rw [hg]; exact Nat.ne_of_gt (blk_lt (g := gb437) (o := .cells #[.int .i64 t419, .int .i64 t420, .int .i64 t421, .int .i64 t422, .bool t423, .int .i64 t424, .slice Ao26 t425.length co26] 56 (0, 0)) (blk_ BK437)) : gb462 ≠ gb437)); have n14_ := Aside0.mk ((by rw [hg]; exact Nat.ne_of_lt (blk_lt (g := gb438) (o := .cells #[.int .i64 t428, .int .i64 t429, .int .i64 t430, .int .i64 t431, .bool t432, .int .i64 t433, .slice Ao28 t434.length co28] 56 (0, 0)) (blk_ BK438)) : gb438 ≠ gb462)); have n15_ := Aside0.mk ((by rw [hg]; exact Nat.ne_of_gt (blk_lt (g := gb438) (o := .cells #[.int .i64 t428, .int .i64 t429, .int .i64 t430, .int .i64 t431, .bool t432, .int .i64 t433, .slice Ao28 t434.length co28] 56 (0, 0)) (blk_ BK438)) : gb462 ≠ gb438)); clear HO427 HO436 HO441 HO445 HO450 HO459 BK437 BK438 HB; have HO427 := n0_; have HO436 := n1_; have HO441 := n2_; have HO445 := n3_; have HO450 := n4_; have HO459 := n5_; have BK437 := n6_; have BK438 := n7_; have HB := n8_; have BK462 := n9_; have GW462 := n10_; have GE462 := n11_; have NB437_462 := n12_; have NB462_437 := n13_; have NB438_462 := n14_; have NB462_438 := n15_; clear n0_ n1_ n2_ n3_ n4_ n5_ n6_ n7_ n8_ n9_ n10_ n11_ n12_ n13_ n14_ n15_; clear hb hbox hg; have hnb37 := NB462_437.out; have hnc37 := NB437_462.out; have hnb38 := NB462_438.out; have hnc38 := NB438_462.out; obtain ⟨hcz39_0, hcz39_1, hcz39_2, hcz39_3, hcz39_4, hcz39_5, hcz39_6⟩ := cells7_ BK462.out; have hfz39_ := blk_frozen BK462.out; obtain ⟨Ao40, co40, eo40⟩ := Kd.R_slice HO459.out; subst eo40; obtain ⟨hcz41_0, hcz41_1, hcz41_2, hcz41_3, hcz41_4, hcz41_5, hcz41_6⟩ := cells7_ BK437.out; have hfz41_ := blk_frozen BK437.out) | ((with_reducible refine gate_dst (N := 19) rfl ?_); (try (refine gate_guard (by rfl) ?_; dsimp only)); refine box_event ?hg (N := 19) ?hd (cs := #[.int .i64 0, .int .i64 0, .int .i64 0, .int .i64 0, .bool false, .int .i64 0, .slice none 0 0]) (t := 56) ?hr ?_; (case hd => rfl); (case hg => rfl); (case hr => first | (go_simp; done) | (go_simp; rfl)); intro gb463 hg w42 hbox hb; have n0_ := Aside0.mk (Kd.R_below (by (with_reducible repeat (first | apply Kd.R_alloc | apply Kd.R_drewN | apply Kd.R_drew)); exact (Kd.R_mono (Kd.R_far (p := ⟨gb462, 6, none⟩) (Kd.R_far (p := ⟨gb462, 5, none⟩) (Kd.R_far (p := ⟨gb462, 4, none⟩) (Kd.R_far (p := ⟨gb462, 3, none⟩) (Kd.R_far (p := ⟨gb462, 2, none⟩) (Kd.R_far (p := ⟨gb462, 1, none⟩) (Kd.R_far (p := ⟨gb462, 0, none⟩) (Kd.R_types HO427.out BK462.out (by decide)) (fun _ hk => hk.2) (.int .i64 t451)) (fun _ hk => hk.2) (.int .i64 t452)) (fun _ hk => hk.2) (.int .i64 t453)) (fun _ hk => hk.2) (.int .i64 t454)) (fun _ hk => hk.2) (.bool t455)) (fun _ hk => hk.2) (.int .i64 t456)) (fun _ hk => hk.2) (.slice Ao40 t457.length co40)) (fun _ h_ => h_.1))) hb); have n1_ := Aside0.mk (Kd.R_below (by (with_reducible repeat (first | apply Kd.R_alloc | apply Kd.R_drewN | apply Kd.R_drew)); exact (Kd.R_mono (Kd.R_far (p := ⟨gb462, 6, none⟩) (Kd.R_far (p := ⟨gb462, 5, none⟩) (Kd.R_far (p := ⟨gb462, 4, none⟩) (Kd.R_far (p := ⟨gb462, 3, none⟩) (Kd.R_far (p := ⟨gb462, 2, none⟩) (Kd.R_far (p := ⟨gb462, 1, none⟩) (Kd.R_far (p := ⟨gb462, 0, none⟩) (Kd.R_types HO436.out BK462.out (by decide)) (fun _ hk => hk.2) (.int .i64 t451)) (fun _ hk => hk.2) (.int .i64 t452)) (fun _ hk => hk.2) (.int .i64 t453)) (fun _ hk => hk.2) (.int .i64 t454)) (fun _ hk => hk.2) (.bool t455)) (fun _ hk => hk.2) (.int .i64 t456)) (fun _ hk => hk.2) (.slice Ao40 t457.length co40)) (fun _ h_ => h_.1))) hb); have n2_ := Aside0.mk (Kd.R_below (by (with_reducible repeat (first | apply Kd.R_alloc | apply Kd.R_drewN | apply Kd.R_drew)); exact (Kd.R_mono (Kd.R_far (p := ⟨gb462, 6, none⟩) (Kd.R_far (p := ⟨gb462, 5, none⟩) (Kd.R_far (p := ⟨gb462, 4, none⟩) (Kd.R_far (p := ⟨gb462, 3, none⟩) (Kd.R_far (p := ⟨gb462, 2, none⟩) (Kd.R_far (p := ⟨gb462, 1, none⟩) (Kd.R_far (p := ⟨gb462, 0, none⟩) (Kd.R_types HO441.out BK462.out (by decide)) (fun _ hk => hk.2) (.int .i64 t451)) (fun _ hk => hk.2) (.int .i64 t452)) (fun _ hk => hk.2) (.int .i64 t453)) (fun _ hk => hk.2) (.int .i64 t454)) (fun _ hk => hk.2) (.bool t455)) (fun _ hk => hk.2) (.int .i64 t456)) (fun _ hk => hk.2) (.slice Ao40 t457.length co40)) (fun _ h_ => h_.1))) hb); have n3_ := Aside0.mk (Kd.R_below (by (with_reducible repeat (first | apply Kd.R_alloc | apply Kd.R_drewN | apply Kd.R_drew)); exact (Kd.R_mono (Kd.R_far (p := ⟨gb462, 6, none⟩) (Kd.R_far (p := ⟨gb462, 5, none⟩) (Kd.R_far (p := ⟨gb462, 4, none⟩) (Kd.R_far (p := ⟨gb462, 3, none⟩) (Kd.R_far (p := ⟨gb462, 2, none⟩) (Kd.R_far (p := ⟨gb462, 1, none⟩) (Kd.R_far (p := ⟨gb462, 0, none⟩) (Kd.R_types HO445.out BK462.out (by decide)) (fun _ hk => hk.2) (.int .i64 t451)) (fun _ hk => hk.2) (.int .i64 t452)) (fun _ hk => hk.2) (.int .i64 t453)) (fun _ hk => hk.2) (.int .i64 t454)) (fun _ hk => hk.2) (.bool t455)) (fun _ hk => hk.2) (.int .i64 t456)) (fun _ hk => hk.2) (.slice Ao40 t457.length co40)) (fun _ h_ => h_.1))) hb); have n4_ := Aside0.mk (Kd.R_below (by (with_reducible repeat (first | apply Kd.R_alloc | apply Kd.R_drewN | apply Kd.R_drew)); exact (Kd.R_mono (Kd.R_far (p := ⟨gb462, 6, none⟩) (Kd.R_far (p := ⟨gb462, 5, none⟩) (Kd.R_far (p := ⟨gb462, 4, none⟩) (Kd.R_far (p := ⟨gb462, 3, none⟩) (Kd.R_far (p := ⟨gb462, 2, none⟩) (Kd.R_far (p := ⟨gb462, 1, none⟩) (Kd.R_far (p := ⟨gb462, 0, none⟩) (Kd.R_types HO450.out BK462.out (by decide)) (fun _ hk => hk.2) (.int .i64 t451)) (fun _ hk => hk.2) (.int .i64 t452)) (fun _ hk => hk.2) (.int .i64 t453)) (fun _ hk => hk.2) (.int .i64 t454)) (fun _ hk => hk.2) (.bool t455)) (fun _ hk => hk.2) (.int .i64 t456)) (fun _ hk => hk.2) (.slice Ao40 t457.length co40)) (fun _ h_ => h_.1))) hb); have n5_ := Aside0.mk (Kd.R_below (by (with_reducible repeat (first | apply Kd.R_alloc | apply Kd.R_drewN | apply Kd.R_drew)); exact (Kd.R_mono (Kd.R_far (p := ⟨gb462, 6, none⟩) (Kd.R_far (p := ⟨gb462, 5, none⟩) (Kd.R_far (p := ⟨gb462, 4, none⟩) (Kd.R_far (p := ⟨gb462, 3, none⟩) (Kd.R_far (p := ⟨gb462, 2, none⟩) (Kd.R_far (p := ⟨gb462, 1, none⟩) (Kd.R_far (p := ⟨gb462, 0, none⟩) (Kd.R_types HO459.out BK462.out (by decide)) (fun _ hk => hk.2) (.int .i64 t451)) (fun _ hk => hk.2) (.int .i64 t452)) (fun _ hk => hk.2) (.int .i64 t453)) (fun _ hk => hk.2) (.int .i64 t454)) (fun _ hk => hk.2) (.bool t455)) (fun _ hk => hk.2) (.int .i64 t456)) (fun _ hk => hk.2) (.slice Ao40 t457.length co40)) (fun _ h_ => h_.1))) hb); have n6_ := Aside0.mk (blk_below (g := gb437) (o := .cells #[.int .i64 t419, .int .i64 t420, .int .i64 t421, .int .i64 t422, .bool t423, .int .i64 t424, .slice Ao26 t425.length co26] 56 (0, 0)) (by (with_reducible repeat (first | refine blk_drewN ?_ _ | refine blk_drew ?_ | refine blk_alloc ?_ _)); refine blk_far ?_ NB437_462.out _; (with_reducible repeat (first | refine blk_drewN ?_ _ | refine blk_drew ?_ | refine blk_alloc ?_ _)); refine blk_far ?_ NB437_462.out _; (with_reducible repeat (first | refine blk_drewN ?_ _ | refine blk_drew ?_ | refine blk_alloc ?_ _)); refine blk_far ?_ NB437_462.out _; (with_reducible repeat (first | refine blk_drewN ?_ _ | refine blk_drew ?_ | refine blk_alloc ?_ _)); refine blk_far ?_ NB437_462.out _; (with_reducible repeat (first | refine blk_drewN ?_ _ | refine blk_drew ?_ | refine blk_alloc ?_ _)); refine blk_far ?_ NB437_462.out _; (with_reducible repeat (first | refine blk_drewN ?_ _ | refine blk_drew ?_ | refine blk_alloc ?_ _)); refine blk_far ?_ NB437_462.out _; (with_reducible repeat (first | refine blk_drewN ?_ _ | refine blk_drew ?_ | refine blk_alloc ?_ _)); refine blk_far ?_ NB437_462.out _; (with_reducible repeat (first | refine blk_drewN ?_ _ | refine blk_drew ?_ | refine blk_alloc ?_ _)); exact BK437.out) hb); have n7_ := Aside0.mk (blk_below (g := gb438) (o := .cells #[.int .i64 t428, .int .i64 t429, .int .i64 t430, .int .i64 t431, .bool t432, .int .i64 t433, .slice Ao28 t434.length co28] 56 (0, 0)) (by (with_reducible repeat (first | refine blk_drewN ?_ _ | refine blk_drew ?_ | refine blk_alloc ?_ _)); refine blk_far ?_ NB438_462.out _; (with_reducible repeat (first | refine blk_drewN ?_ _ | refine blk_drew ?_ | refine blk_alloc ?_ _)); refine blk_far ?_ NB438_462.out _; (with_reducible repeat (first | refine blk_drewN ?_ _ | refine blk_drew ?_ | refine blk_alloc ?_ _)); refine blk_far ?_ NB438_462.out _; (with_reducible repeat (first | refine blk_drewN ?_ _ | refine blk_drew ?_ | refine blk_alloc ?_ _)); refine blk_far ?_ NB438_462.out _; (with_reducible repeat (first | refine blk_drewN ?_ _ | refine blk_drew ?_ | refine blk_alloc ?_ _)); refine blk_far ?_ NB438_462.out _; (with_reducible repeat (first | refine blk_drewN ?_ _ | refine blk_drew ?_ | refine blk_alloc ?_ _)); refine blk_far ?_ NB438_462.out _; (with_reducible repeat (first | refine blk_drewN ?_ _ | refine blk_drew ?_ | refine blk_alloc ?_ _)); refine blk_far ?_ NB438_462.out _; (with_reducible repeat (first | refine blk_drewN ?_ _ | refine blk_drew ?_ | refine blk_alloc ?_ _)); exact BK438.out) hb); have n8_ := Aside0.mk (blk_below (g := gb462) (o := .cells #[.int .i64 t451, .int .i64 t452, .int .i64 t453, .int .i64 t454, .bool t455, .int .i64 t456, .slice Ao40 t457.length co40] 56 (0, 0)) (by (with_reducible repeat (first | refine blk_drewN ?_ _ | refine blk_drew ?_ | refine blk_alloc ?_ _)); refine blk_put (cs := #[.int .i64 t451, .int .i64 t452, .int .i64 t453, .int .i64 t454, .bool t455, .int .i64 t456, .slice none 0 0]) ?_ 6 _ rfl; (with_reducible repeat (first | refine blk_drewN ?_ _ | refine blk_drew ?_ | refine blk_alloc ?_ _)); refine blk_put (cs := #[.int .i64 t451, .int .i64 t452, .int .i64 t453, .int .i64 t454, .bool t455, .int .i64 0, .slice none 0 0]) ?_ 5 _ rfl; (with_reducible repeat (first | refine blk_drewN ?_ _ | refine blk_drew ?_ | refine blk_alloc ?_ _)); refine blk_put (cs := #[.int .i64 t451, .int .i64 t452, .int .i64 t453, .int .i64 t454, .bool false, .int .i64 0, .slice none 0 0]) ?_ 4 _ rfl; (with_reducible repeat (first | refine blk_drewN ?_ _ | refine blk_drew ?_ | refine blk_alloc ?_ _)); refine blk_put (cs := #[.int .i64 t451, .int .i64 t452, .int .i64 t453, .int .i64 0, .bool false, .int .i64 0, .slice none 0 0]) ?_ 3 _ rfl; (with_reducible repeat (first | refine blk_drewN ?_ _ | refine blk_drew ?_ | refine blk_alloc ?_ _)); refine blk_put (cs := #[.int .i64 t451, .int .i64 t452, .int .i64 0, .int .i64 0, .bool false, .int .i64 0, .slice none 0 0]) ?_ 2 _ rfl; (with_reducible repeat (first | refine blk_drewN ?_ _ | refine blk_drew ?_ | refine blk_alloc ?_ _)); refine blk_put (cs := #[.int .i64 t451, .int .i64 0, .int .i64 0, .int .i64 0, .bool false, .int .i64 0, .slice none 0 0]) ?_ 1 _ rfl; (with_reducible repeat (first | refine blk_drewN ?_ _ | refine blk_drew ?_ | refine blk_alloc ?_ _)); refine blk_put (cs := #[.int .i64 0, .int .i64 0, .int .i64 0, .int .i64 0, .bool false, .int .i64 0, .slice none 0 0]) ?_ 0 _ rfl; (with_reducible repeat (first | refine blk_drewN ?_ _ | refine blk_drew ?_ | refine blk_alloc ?_ _)); exact BK462.out) hb); have n9_ := Aside0.mk (below_step (bel_ HB) hb); have n10_ := Aside0.mk (hbox); have n11_ := Aside0.mk ((by rw [hg]; exact (below_size (bel_ HB)) : w.heap.size ≤ gb463)); have n12_ := Aside0.mk ((by rw [hg]; exact (below_size (bel_ HB)) : w.heap.size ≤ gb463)); have n13_ := Aside0.mk ((by rw [hg]; exact Nat.ne_of_lt (blk_lt (g := gb437) (o := .cells #[.int .i64 t419, .int .i64 t420, .int .i64 t421, .int .i64 t422, .bool t423, .int .i64 t424, .slice Ao26 t425.length co26] 56 (0, 0)) (by (with_reducible repeat (first | refine blk_drewN ?_ _ | refine blk_drew ?_ | refine blk_alloc ?_ _)); refine blk_far ?_ NB437_462.out _; (with_reducible repeat (first | refine blk_drewN ?_ _ | refine blk_drew ?_ | refine blk_alloc ?_ _)); refine blk_far ?_ NB437_462.out _; (with_reducible repeat (first | refine blk_drewN ?_ _ | refine blk_drew ?_ | refine blk_alloc ?_ _)); refine blk_far ?_ NB437_462.out _; (with_reducible repeat (first | refine blk_drewN ?_ _ | refine blk_drew ?_ | refine blk_alloc ?_ _)); refine blk_far ?_ NB437_462.out _; (with_reducible repeat (first | refine blk_drewN ?_ _ | refine blk_drew ?_ | refine blk_alloc ?_ _)); refine blk_far ?_ NB437_462.out _; (with_reducible repeat (first | refine blk_drewN ?_ _ | refine blk_drew ?_ | refine blk_alloc ?_ _)); refine blk_far ?_ NB437_462.out _; (with_reducible repeat (first | refine blk_drewN ?_ _ | refine blk_drew ?_ | refine blk_alloc ?_ _)); refine blk_far ?_ NB437_462.out _; (with_reducible repeat (first | refine blk_drewN ?_ _ | refine blk_drew ?_ | refine blk_alloc ?_ _)); exact BK437.out)) : gb437 ≠ gb463)); have n14_ := Aside0.mk ((by rw [hg]; exact Nat.ne_of_gt (blk_lt (g := gb437) (o := .cells #[.int .i64 t419, .int .i64 t420, .int .i64 t421, .int .i64 t422, .bool t423, .int .i64 t424, .slice Ao26 t425.length co26] 56 (0, 0)) (by (with_reducible repeat (first | refine blk_drewN ?_ _ | refine blk_drew ?_ | refine blk_alloc ?_ _)); refine blk_far ?_ NB437_462.out _; (with_reducible repeat (first | refine blk_drewN ?_ _ | refine blk_drew ?_ | refine blk_alloc ?_ _)); refine blk_far ?_ NB437_462.out _; (with_reducible repeat (first | refine blk_drewN ?_ _ | refine blk_drew ?_ | refine blk_alloc ?_ _)); refine blk_far ?_ NB437_462.out _; (with_reducible repeat (first | refine blk_drewN ?_ _ | refine blk_drew ?_ | refine blk_alloc ?_ _)); refine blk_far ?_ NB437_462.out _; (with_reducible repeat (first | refine blk_drewN ?_ _ | refine blk_drew ?_ | refine blk_alloc ?_ _)); refine blk_far ?_ NB437_462.out _; (with_reducible repeat (first | refine blk_drewN ?_ _ | refine blk_drew ?_ | refine blk_alloc ?_ _)); refine blk_far ?_ NB437_462.out _; (with_reducible repeat (first | refine blk_drewN ?_ _ | refine blk_drew ?_ | refine blk_alloc ?_ _)); refine blk_far ?_ NB437_462.out _; (with_reducible repeat (first | refine blk_drewN ?_ _ | refine blk_drew ?_ | refine blk_alloc ?_ _)); exact BK437.out)) : gb463 ≠ gb437)); have n15_ := Aside0.mk ((by rw [hg]; exact Nat.ne_of_lt (blk_lt (g := gb438) (o := .cells #[.int .i64 t428, .int .i64 t429, .int .i64 t430, .int .i64 t431, .bool t432, .int .i64 t433, .slice Ao28 t434.length co28] 56 (0, 0)) (by (with_reducible repeat (first | refine blk_drewN ?_ _ | refine blk_drew ?_ | refine blk_alloc ?_ _)); refine blk_far ?_ NB438_462.out _; (with_reducible repeat (first | refine blk_drewN ?_ _ | refine blk_drew ?_ | refine blk_alloc ?_ _)); refine blk_far ?_ NB438_462.out _; (with_reducible repeat (first | refine blk_drewN ?_ _ | refine blk_drew ?_ | refine blk_alloc ?_ _)); refine blk_far ?_ NB438_462.out _; (with_reducible repeat (first | refine blk_drewN ?_ _ | refine blk_drew ?_ | refine blk_alloc ?_ _)); refine blk_far ?_ NB438_462.out _; (with_reducible repeat (first | refine blk_drewN ?_ _ | refine blk_drew ?_ | refine blk_alloc ?_ _)); refine blk_far ?_ NB438_462.out _; (with_reducible repeat (first | refine blk_drewN ?_ _ | refine blk_drew ?_ | refine blk_alloc ?_ _)); refine blk_far ?_ NB438_462.out _; (with_reducible repeat (first | refine blk_drewN ?_ _ | refine blk_drew ?_ | refine blk_alloc ?_ _)); refine blk_far ?_ NB438_462.out _; (with_reducible repeat (first | refine blk_drewN ?_ _ | refine blk_drew ?_ | refine blk_alloc ?_ _)); exact BK438.out)) : gb438 ≠ gb463)); have n16_ := Aside0.mk ((by rw [hg]; exact Nat.ne_of_gt (blk_lt (g := gb438) (o := .cells #[.int .i64 t428, .int .i64 t429, .int .i64 t430, .int .i64 t431, .bool t432, .int .i64 t433, .slice Ao28 t434.length co28] 56 (0, 0)) (by (with_reducible repeat (first | refine blk_drewN ?_ _ | refine blk_drew ?_ | refine blk_alloc ?_ _)); refine blk_far ?_ NB438_462.out _; (with_reducible repeat (first | refine blk_drewN ?_ _ | refine blk_drew ?_ | refine blk_alloc ?_ _)); refine blk_far ?_ NB438_462.out _; (with_reducible repeat (first | refine blk_drewN ?_ _ | refine blk_drew ?_ | refine blk_alloc ?_ _)); refine blk_far ?_ NB438_462.out _; (with_reducible repeat (first | refine blk_drewN ?_ _ | refine blk_drew ?_ | refine blk_alloc ?_ _)); refine blk_far ?_ NB438_462.out _; (with_reducible repeat (first | refine blk_drewN ?_ _ | refine blk_drew ?_ | refine blk_alloc ?_ _)); refine blk_far ?_ NB438_462.out _; (with_reducible repeat (first | refine blk_drewN ?_ _ | refine blk_drew ?_ | refine blk_alloc ?_ _)); refine blk_far ?_ NB438_462.out _; (with_reducible repeat (first | refine blk_drewN ?_ _ | refine blk_drew ?_ | refine blk_alloc ?_ _)); refine blk_far ?_ NB438_462.out _; (with_reducible repeat (first | refine blk_drewN ?_ _ | refine blk_drew ?_ | refine blk_alloc ?_ _)); exact BK438.out)) : gb463 ≠ gb438)); have n17_ := Aside0.mk ((by rw [hg]; exact Nat.ne_of_lt (blk_lt (g := gb462) (o := .cells #[.int .i64 t451, .int .i64 t452, .int .i64 t453, .int .i64 t454, .bool t455, .int .i64 t456, .slice Ao40 t457.length co40] 56 (0, 0)) (by (with_reducible repeat (first | refine blk_drewN ?_ _ | refine blk_drew ?_ | refine blk_alloc ?_ _)); refine blk_put (cs := #[.int .i64 t451, .int .i64 t452, .int .i64 t453, .int .i64 t454, .bool t455, .int .i64 t456, .slice none 0 0]) ?_ 6 _ rfl; (with_reducible repeat (first | refine blk_drewN ?_ _ | refine blk_drew ?_ | refine blk_alloc ?_ _)); refine blk_put (cs := #[.int .i64 t451, .int .i64 t452, .int .i64 t453, .int .i64 t454, .bool t455, .int .i64 0, .slice none 0 0]) ?_ 5 _ rfl; (with_reducible repeat (first | refine blk_drewN ?_ _ | refine blk_drew ?_ | refine blk_alloc ?_ _)); refine blk_put (cs := #[.int .i64 t451, .int .i64 t452, .int .i64 t453, .int .i64 t454, .bool false, .int .i64 0, .slice none 0 0]) ?_ 4 _ rfl; (with_reducible repeat (first | refine blk_drewN ?_ _ | refine blk_drew ?_ | refine blk_alloc ?_ _)); refine blk_put (cs := #[.int .i64 t451, .int .i64 t452, .int .i64 t453, .int .i64 0, .bool false, .int .i64 0, .slice none 0 0]) ?_ 3 _ rfl; (with_reducible repeat (first | refine blk_drewN ?_ _ | refine blk_drew ?_ | refine blk_alloc ?_ _)); refine blk_put (cs := #[.int .i64 t451, .int .i64 t452, .int .i64 0, .int .i64 0, .bool false, .int .i64 0, .slice none 0 0]) ?_ 2 _ rfl; (with_reducible repeat (first | refine blk_drewN ?_ _ | refine blk_drew ?_ | refine blk_alloc ?_ _)); refine blk_put (cs := #[.int .i64 t451, .int .i64 0, .int .i64 0, .int .i64 0, .bool false, .int .i64 0, .slice none 0 0]) ?_ 1 _ rfl; (with_reducible repeat (first | refine blk_drewN ?_ _ | refine blk_drew ?_ | refine blk_alloc ?_ _)); refine blk_put (cs := #[.int .i64 0, .int .i64 0, .int .i64 0, .int .i64 0, .bool false, .int .i64 0, .slice none 0 0]) ?_ 0 _ rfl; (with_reducible repeat (first | refine blk_drewN ?_ _ | refine blk_drew ?_ | refine blk_alloc ?_ _)); exact BK462.out)) : gb462 ≠ gb463)); have n18_ := Aside0.mk ((by rw [hg]; exact Nat.ne_of_gt (blk_lt (g := gb462) (o := .cells #[.int .i64 t451, .int .i64 t452, .int .i64 t453, .int .i64 t454, .bool t455, .int .i64 t456, .slice Ao40 t457.length co40] 56 (0, 0)) (by (with_reducible repeat (first | refine blk_drewN ?_ _ | refine blk_drew ?_ | refine blk_alloc ?_ _)); refine blk_put (cs := #[.int .i64 t451, .int .i64 t452, .int .i64 t453, .int .i64 t454, .bool t455, .int .i64 t456, .slice none 0 0]) ?_ 6 _ rfl; (with_reducible repeat (first | refine blk_drewN ?_ _ | refine blk_drew ?_ | refine blk_alloc ?_ _)); refine blk_put (cs := #[.int .i64 t451, .int .i64 t452, .int .i64 t453, .int .i64 t454, .bool t455, .int .i64 0, .slice none 0 0]) ?_ 5 _ rfl; (with_reducible repeat (first | refine blk_drewN ?_ _ | refine blk_drew ?_ | refine blk_alloc ?_ _)); refine blk_put (cs := #[.int .i64 t451, .int .i64 t452, .int .i64 t453, .int .i64 t454, .bool false, .int .i64 0, .slice none 0 0]) ?_ 4 _ rfl; (with_reducible repeat (first | refine blk_drewN ?_ _ | refine blk_drew ?_ | refine blk_alloc ?_ _)); refine blk_put (cs := #[.int .i64 t451, .int .i64 t452, .int .i64 t453, .int .i64 0, .bool false, .int .i64 0, .slice none 0 0]) ?_ 3 _ rfl; (with_reducible repeat (first | refine blk_drewN ?_ _ | refine blk_drew ?_ | refine blk_alloc ?_ _)); refine blk_put (cs := #[.int .i64 t451, .int .i64 t452, .int .i64 0, .int .i64 0, .bool false, .int .i64 0, .slice none 0 0]) ?_ 2 _ rfl; (with_reducible repeat (first | refine blk_drewN ?_ _ | refine blk_drew ?_ | refine blk_alloc ?_ _)); refine blk_put (cs := #[.int .i64 t451, .int .i64 0, .int .i64 0, .int .i64 0, .bool false, .int .i64 0, .slice none 0 0]) ?_ 1 _ rfl; (with_reducible repeat (first | refine blk_drewN ?_ _ | refine blk_drew ?_ | refine blk_alloc ?_ _)); refine blk_put (cs := #[.int .i64 0, .int .i64 0, .int .i64 0, .int .i64 0, .bool false, .int .i64 0, .slice none 0 0]) ?_ 0 _ rfl; (with_reducible repeat (first | refine blk_drewN ?_ _ | refine blk_drew ?_ | refine blk_alloc ?_ _)); exact BK462.out)) : gb463 ≠ gb462)); clear HO427 HO436 HO441 HO445 HO450 HO459 BK437 BK438 BK462 HB; have HO427 := n0_; have HO436 := n1_; have HO441 := n2_; have HO445 := n3_; have HO450 := n4_; have HO459 := n5_; have BK437 := n6_; have BK438 := n7_; have BK462 := n8_; have HB := n9_; have BK463 := n10_; have GW463 := n11_; have GE463 := n12_; have NB437_463 := n13_; have NB463_437 := n14_; have NB438_463 := n15_; have NB463_438 := n16_; have NB462_463 := n17_; have NB463_462 := n18_; clear n0_ n1_ n2_ n3_ n4_ n5_ n6_ n7_ n8_ n9_ n10_ n11_ n12_ n13_ n14_ n15_ n16_ n17_ n18_; clear hb hbox hg; have hnb43 := NB463_437.out; have hnc43 := NB437_463.out; have hnb44 := NB463_438.out; have hnc44 := NB438_463.out; have hnb45 := NB463_462.out; have hnc45 := NB462_463.out; obtain ⟨hcz46_0, hcz46_1, hcz46_2, hcz46_3, hcz46_4, hcz46_5, hcz46_6⟩ := cells7_ BK463.out; have hfz46_ := blk_frozen BK463.out))
                have n0_ : Aside0 (Kd.R k71 71 ((((((((w42.setCell ⟨gb463, 0, none⟩ (.int .i64 t419)).setCell ⟨gb463, 1, none⟩ (.int .i64 t420)).setCell ⟨gb463, 2, none⟩ (.int .i64 t421)).setCell ⟨gb463, 3, none⟩ (.int .i64 t422)).setCell ⟨gb463, 4, none⟩ (.bool t423)).setCell ⟨gb463, 5, none⟩ (.int .i64 t424)).setCell ⟨gb463, 6, none⟩ (.slice Ao26 t425.length co26)).setCell ⟨gb463, 0, none⟩ (.int .i64 (Go.bits .and .i64 a2 1099511627775))) w.heap.size (fun k_ => some k_ ≠ (.slice Ao28 t434.length co28 : Value).ownBlock ∧ some k_ ≠ (.slice Ao40 t457.length co40 : Value).ownBlock) (.slice Ao26 t425.length co26) t425) := ⟨by (with_reducible repeat (first | apply Kd.R_alloc | apply Kd.R_drewN | apply Kd.R_drew)); exact Kd.R_mono (Kd.R_far (p := ⟨gb463, 0, none⟩) (Kd.R_far (p := ⟨gb463, 6, none⟩) (Kd.R_far (p := ⟨gb463, 5, none⟩) (Kd.R_far (p := ⟨gb463, 4, none⟩) (Kd.R_far (p := ⟨gb463, 3, none⟩) (Kd.R_far (p := ⟨gb463, 2, none⟩) (Kd.R_far (p := ⟨gb463, 1, none⟩) (Kd.R_far (p := ⟨gb463, 0, none⟩) (Kd.R_types HO427.out BK463.out (by decide)) (fun _ hk => hk.2) (.int .i64 t419)) (fun _ hk => hk.2) (.int .i64 t420)) (fun _ hk => hk.2) (.int .i64 t421)) (fun _ hk => hk.2) (.int .i64 t422)) (fun _ hk => hk.2) (.bool t423)) (fun _ hk => hk.2) (.int .i64 t424)) (fun _ hk => hk.2) (.slice Ao26 t425.length co26)) (fun _ hk => hk.2) (.int .i64 (Go.bits .and .i64 a2 1099511627775))) (fun _ hk => ⟨hk.1.1.2, hk.1.2⟩)⟩
                have n1_ : Aside0 (Kd.R k71 71 ((((((((w42.setCell ⟨gb463, 0, none⟩ (.int .i64 t419)).setCell ⟨gb463, 1, none⟩ (.int .i64 t420)).setCell ⟨gb463, 2, none⟩ (.int .i64 t421)).setCell ⟨gb463, 3, none⟩ (.int .i64 t422)).setCell ⟨gb463, 4, none⟩ (.bool t423)).setCell ⟨gb463, 5, none⟩ (.int .i64 t424)).setCell ⟨gb463, 6, none⟩ (.slice Ao26 t425.length co26)).setCell ⟨gb463, 0, none⟩ (.int .i64 (Go.bits .and .i64 a2 1099511627775))) w.heap.size (fun k_ => some k_ ≠ (.slice Ao26 t425.length co26 : Value).ownBlock ∧ some k_ ≠ (.slice Ao40 t457.length co40 : Value).ownBlock) (.slice Ao28 t434.length co28) t434) := ⟨by (with_reducible repeat (first | apply Kd.R_alloc | apply Kd.R_drewN | apply Kd.R_drew)); exact Kd.R_mono (Kd.R_far (p := ⟨gb463, 0, none⟩) (Kd.R_far (p := ⟨gb463, 6, none⟩) (Kd.R_far (p := ⟨gb463, 5, none⟩) (Kd.R_far (p := ⟨gb463, 4, none⟩) (Kd.R_far (p := ⟨gb463, 3, none⟩) (Kd.R_far (p := ⟨gb463, 2, none⟩) (Kd.R_far (p := ⟨gb463, 1, none⟩) (Kd.R_far (p := ⟨gb463, 0, none⟩) (Kd.R_types HO436.out BK463.out (by decide)) (fun _ hk => hk.2) (.int .i64 t419)) (fun _ hk => hk.2) (.int .i64 t420)) (fun _ hk => hk.2) (.int .i64 t421)) (fun _ hk => hk.2) (.int .i64 t422)) (fun _ hk => hk.2) (.bool t423)) (fun _ hk => hk.2) (.int .i64 t424)) (fun _ hk => hk.2) (.slice Ao26 t425.length co26)) (fun _ hk => hk.2) (.int .i64 (Go.bits .and .i64 a2 1099511627775))) (fun _ hk => ⟨hk.1.1.2, hk.1.2⟩)⟩
                have n2_ : Aside0 (Kd.R (Kd.int .u8) 5 ((((((((w42.setCell ⟨gb463, 0, none⟩ (.int .i64 t419)).setCell ⟨gb463, 1, none⟩ (.int .i64 t420)).setCell ⟨gb463, 2, none⟩ (.int .i64 t421)).setCell ⟨gb463, 3, none⟩ (.int .i64 t422)).setCell ⟨gb463, 4, none⟩ (.bool t423)).setCell ⟨gb463, 5, none⟩ (.int .i64 t424)).setCell ⟨gb463, 6, none⟩ (.slice Ao26 t425.length co26)).setCell ⟨gb463, 0, none⟩ (.int .i64 (Go.bits .and .i64 a2 1099511627775))) w.heap.size (fun k_ => some k_ ≠ (v444 : Value).ownBlock ∧ some k_ ≠ (.slice Ao34 t447.length co34 : Value).ownBlock) (.slice Ao32 t439.length co32) t439) := ⟨by (with_reducible repeat (first | apply Kd.R_alloc | apply Kd.R_drewN | apply Kd.R_drew)); exact Kd.R_mono (Kd.R_far (p := ⟨gb463, 0, none⟩) (Kd.R_far (p := ⟨gb463, 6, none⟩) (Kd.R_far (p := ⟨gb463, 5, none⟩) (Kd.R_far (p := ⟨gb463, 4, none⟩) (Kd.R_far (p := ⟨gb463, 3, none⟩) (Kd.R_far (p := ⟨gb463, 2, none⟩) (Kd.R_far (p := ⟨gb463, 1, none⟩) (Kd.R_far (p := ⟨gb463, 0, none⟩) (Kd.R_types HO441.out BK463.out (by decide)) (fun _ hk => hk.2) (.int .i64 t419)) (fun _ hk => hk.2) (.int .i64 t420)) (fun _ hk => hk.2) (.int .i64 t421)) (fun _ hk => hk.2) (.int .i64 t422)) (fun _ hk => hk.2) (.bool t423)) (fun _ hk => hk.2) (.int .i64 t424)) (fun _ hk => hk.2) (.slice Ao26 t425.length co26)) (fun _ hk => hk.2) (.int .i64 (Go.bits .and .i64 a2 1099511627775))) (fun _ hk => ⟨hk.1.1.2, hk.1.2⟩)⟩
                have n3_ : Aside0 (Kd.R (Kd.int .u8) 5 ((((((((w42.setCell ⟨gb463, 0, none⟩ (.int .i64 t419)).setCell ⟨gb463, 1, none⟩ (.int .i64 t420)).setCell ⟨gb463, 2, none⟩ (.int .i64 t421)).setCell ⟨gb463, 3, none⟩ (.int .i64 t422)).setCell ⟨gb463, 4, none⟩ (.bool t423)).setCell ⟨gb463, 5, none⟩ (.int .i64 t424)).setCell ⟨gb463, 6, none⟩ (.slice Ao26 t425.length co26)).setCell ⟨gb463, 0, none⟩ (.int .i64 (Go.bits .and .i64 a2 1099511627775))) w.heap.size (fun k_ => some k_ ≠ (.slice Ao32 t439.length co32 : Value).ownBlock ∧ some k_ ≠ (.slice Ao34 t447.length co34 : Value).ownBlock) v444 t443) := ⟨by (with_reducible repeat (first | apply Kd.R_alloc | apply Kd.R_drewN | apply Kd.R_drew)); exact Kd.R_mono (Kd.R_far (p := ⟨gb463, 0, none⟩) (Kd.R_far (p := ⟨gb463, 6, none⟩) (Kd.R_far (p := ⟨gb463, 5, none⟩) (Kd.R_far (p := ⟨gb463, 4, none⟩) (Kd.R_far (p := ⟨gb463, 3, none⟩) (Kd.R_far (p := ⟨gb463, 2, none⟩) (Kd.R_far (p := ⟨gb463, 1, none⟩) (Kd.R_far (p := ⟨gb463, 0, none⟩) (Kd.R_types HO445.out BK463.out (by decide)) (fun _ hk => hk.2) (.int .i64 t419)) (fun _ hk => hk.2) (.int .i64 t420)) (fun _ hk => hk.2) (.int .i64 t421)) (fun _ hk => hk.2) (.int .i64 t422)) (fun _ hk => hk.2) (.bool t423)) (fun _ hk => hk.2) (.int .i64 t424)) (fun _ hk => hk.2) (.slice Ao26 t425.length co26)) (fun _ hk => hk.2) (.int .i64 (Go.bits .and .i64 a2 1099511627775))) (fun _ hk => ⟨hk.1.1.2, hk.1.2⟩)⟩
                have n4_ : Aside0 (Kd.R (Kd.int .u8) 5 ((((((((w42.setCell ⟨gb463, 0, none⟩ (.int .i64 t419)).setCell ⟨gb463, 1, none⟩ (.int .i64 t420)).setCell ⟨gb463, 2, none⟩ (.int .i64 t421)).setCell ⟨gb463, 3, none⟩ (.int .i64 t422)).setCell ⟨gb463, 4, none⟩ (.bool t423)).setCell ⟨gb463, 5, none⟩ (.int .i64 t424)).setCell ⟨gb463, 6, none⟩ (.slice Ao26 t425.length co26)).setCell ⟨gb463, 0, none⟩ (.int .i64 (Go.bits .and .i64 a2 1099511627775))) w.heap.size (fun k_ => some k_ ≠ (.slice Ao32 t439.length co32 : Value).ownBlock ∧ some k_ ≠ (v444 : Value).ownBlock) (.slice Ao34 t447.length co34) t447) := ⟨by (with_reducible repeat (first | apply Kd.R_alloc | apply Kd.R_drewN | apply Kd.R_drew)); exact Kd.R_mono (Kd.R_far (p := ⟨gb463, 0, none⟩) (Kd.R_far (p := ⟨gb463, 6, none⟩) (Kd.R_far (p := ⟨gb463, 5, none⟩) (Kd.R_far (p := ⟨gb463, 4, none⟩) (Kd.R_far (p := ⟨gb463, 3, none⟩) (Kd.R_far (p := ⟨gb463, 2, none⟩) (Kd.R_far (p := ⟨gb463, 1, none⟩) (Kd.R_far (p := ⟨gb463, 0, none⟩) (Kd.R_types HO450.out BK463.out (by decide)) (fun _ hk => hk.2) (.int .i64 t419)) (fun _ hk => hk.2) (.int .i64 t420)) (fun _ hk => hk.2) (.int .i64 t421)) (fun _ hk => hk.2) (.int .i64 t422)) (fun _ hk => hk.2) (.bool t423)) (fun _ hk => hk.2) (.int .i64 t424)) (fun _ hk => hk.2) (.slice Ao26 t425.length co26)) (fun _ hk => hk.2) (.int .i64 (Go.bits .and .i64 a2 1099511627775))) (fun _ hk => ⟨hk.1.1.2, hk.1.2⟩)⟩
                have n5_ : Aside0 (Kd.R k71 71 ((((((((w42.setCell ⟨gb463, 0, none⟩ (.int .i64 t419)).setCell ⟨gb463, 1, none⟩ (.int .i64 t420)).setCell ⟨gb463, 2, none⟩ (.int .i64 t421)).setCell ⟨gb463, 3, none⟩ (.int .i64 t422)).setCell ⟨gb463, 4, none⟩ (.bool t423)).setCell ⟨gb463, 5, none⟩ (.int .i64 t424)).setCell ⟨gb463, 6, none⟩ (.slice Ao26 t425.length co26)).setCell ⟨gb463, 0, none⟩ (.int .i64 (Go.bits .and .i64 a2 1099511627775))) w.heap.size (fun k_ => some k_ ≠ (.slice Ao26 t425.length co26 : Value).ownBlock ∧ some k_ ≠ (.slice Ao28 t434.length co28 : Value).ownBlock) (.slice Ao40 t457.length co40) t457) := ⟨by (with_reducible repeat (first | apply Kd.R_alloc | apply Kd.R_drewN | apply Kd.R_drew)); exact Kd.R_mono (Kd.R_far (p := ⟨gb463, 0, none⟩) (Kd.R_far (p := ⟨gb463, 6, none⟩) (Kd.R_far (p := ⟨gb463, 5, none⟩) (Kd.R_far (p := ⟨gb463, 4, none⟩) (Kd.R_far (p := ⟨gb463, 3, none⟩) (Kd.R_far (p := ⟨gb463, 2, none⟩) (Kd.R_far (p := ⟨gb463, 1, none⟩) (Kd.R_far (p := ⟨gb463, 0, none⟩) (Kd.R_types HO459.out BK463.out (by decide)) (fun _ hk => hk.2) (.int .i64 t419)) (fun _ hk => hk.2) (.int .i64 t420)) (fun _ hk => hk.2) (.int .i64 t421)) (fun _ hk => hk.2) (.int .i64 t422)) (fun _ hk => hk.2) (.bool t423)) (fun _ hk => hk.2) (.int .i64 t424)) (fun _ hk => hk.2) (.slice Ao26 t425.length co26)) (fun _ hk => hk.2) (.int .i64 (Go.bits .and .i64 a2 1099511627775))) (fun _ hk => ⟨hk.1.1.2, hk.1.2⟩)⟩
                have n6_ : Aside0 (((((((((w42.setCell ⟨gb463, 0, none⟩ (.int .i64 t419)).setCell ⟨gb463, 1, none⟩ (.int .i64 t420)).setCell ⟨gb463, 2, none⟩ (.int .i64 t421)).setCell ⟨gb463, 3, none⟩ (.int .i64 t422)).setCell ⟨gb463, 4, none⟩ (.bool t423)).setCell ⟨gb463, 5, none⟩ (.int .i64 t424)).setCell ⟨gb463, 6, none⟩ (.slice Ao26 t425.length co26)).setCell ⟨gb463, 0, none⟩ (.int .i64 (Go.bits .and .i64 a2 1099511627775))).heap[gb437]? = some (.cells #[.int .i64 t419, .int .i64 t420, .int .i64 t421, .int .i64 t422, .bool t423, .int .i64 t424, .slice Ao26 t425.length co26] 56 (0, 0))) := ⟨by (with_reducible repeat (first | refine blk_drewN ?_ _ | refine blk_drew ?_ | refine blk_alloc ?_ _)); refine blk_far ?_ NB437_463.out _; (with_reducible repeat (first | refine blk_drewN ?_ _ | refine blk_drew ?_ | refine blk_alloc ?_ _)); refine blk_far ?_ NB437_463.out _; (with_reducible repeat (first | refine blk_drewN ?_ _ | refine blk_drew ?_ | refine blk_alloc ?_ _)); refine blk_far ?_ NB437_463.out _; (with_reducible repeat (first | refine blk_drewN ?_ _ | refine blk_drew ?_ | refine blk_alloc ?_ _)); refine blk_far ?_ NB437_463.out _; (with_reducible repeat (first | refine blk_drewN ?_ _ | refine blk_drew ?_ | refine blk_alloc ?_ _)); refine blk_far ?_ NB437_463.out _; (with_reducible repeat (first | refine blk_drewN ?_ _ | refine blk_drew ?_ | refine blk_alloc ?_ _)); refine blk_far ?_ NB437_463.out _; (with_reducible repeat (first | refine blk_drewN ?_ _ | refine blk_drew ?_ | refine blk_alloc ?_ _)); refine blk_far ?_ NB437_463.out _; (with_reducible repeat (first | refine blk_drewN ?_ _ | refine blk_drew ?_ | refine blk_alloc ?_ _)); refine blk_far ?_ NB437_463.out _; (with_reducible repeat (first | refine blk_drewN ?_ _ | refine blk_drew ?_ | refine blk_alloc ?_ _)); exact BK437.out⟩
                have n7_ : Aside0 (((((((((w42.setCell ⟨gb463, 0, none⟩ (.int .i64 t419)).setCell ⟨gb463, 1, none⟩ (.int .i64 t420)).setCell ⟨gb463, 2, none⟩ (.int .i64 t421)).setCell ⟨gb463, 3, none⟩ (.int .i64 t422)).setCell ⟨gb463, 4, none⟩ (.bool t423)).setCell ⟨gb463, 5, none⟩ (.int .i64 t424)).setCell ⟨gb463, 6, none⟩ (.slice Ao26 t425.length co26)).setCell ⟨gb463, 0, none⟩ (.int .i64 (Go.bits .and .i64 a2 1099511627775))).heap[gb438]? = some (.cells #[.int .i64 t428, .int .i64 t429, .int .i64 t430, .int .i64 t431, .bool t432, .int .i64 t433, .slice Ao28 t434.length co28] 56 (0, 0))) := ⟨by (with_reducible repeat (first | refine blk_drewN ?_ _ | refine blk_drew ?_ | refine blk_alloc ?_ _)); refine blk_far ?_ NB438_463.out _; (with_reducible repeat (first | refine blk_drewN ?_ _ | refine blk_drew ?_ | refine blk_alloc ?_ _)); refine blk_far ?_ NB438_463.out _; (with_reducible repeat (first | refine blk_drewN ?_ _ | refine blk_drew ?_ | refine blk_alloc ?_ _)); refine blk_far ?_ NB438_463.out _; (with_reducible repeat (first | refine blk_drewN ?_ _ | refine blk_drew ?_ | refine blk_alloc ?_ _)); refine blk_far ?_ NB438_463.out _; (with_reducible repeat (first | refine blk_drewN ?_ _ | refine blk_drew ?_ | refine blk_alloc ?_ _)); refine blk_far ?_ NB438_463.out _; (with_reducible repeat (first | refine blk_drewN ?_ _ | refine blk_drew ?_ | refine blk_alloc ?_ _)); refine blk_far ?_ NB438_463.out _; (with_reducible repeat (first | refine blk_drewN ?_ _ | refine blk_drew ?_ | refine blk_alloc ?_ _)); refine blk_far ?_ NB438_463.out _; (with_reducible repeat (first | refine blk_drewN ?_ _ | refine blk_drew ?_ | refine blk_alloc ?_ _)); refine blk_far ?_ NB438_463.out _; (with_reducible repeat (first | refine blk_drewN ?_ _ | refine blk_drew ?_ | refine blk_alloc ?_ _)); exact BK438.out⟩
                have n8_ : Aside0 (((((((((w42.setCell ⟨gb463, 0, none⟩ (.int .i64 t419)).setCell ⟨gb463, 1, none⟩ (.int .i64 t420)).setCell ⟨gb463, 2, none⟩ (.int .i64 t421)).setCell ⟨gb463, 3, none⟩ (.int .i64 t422)).setCell ⟨gb463, 4, none⟩ (.bool t423)).setCell ⟨gb463, 5, none⟩ (.int .i64 t424)).setCell ⟨gb463, 6, none⟩ (.slice Ao26 t425.length co26)).setCell ⟨gb463, 0, none⟩ (.int .i64 (Go.bits .and .i64 a2 1099511627775))).heap[gb462]? = some (.cells #[.int .i64 t451, .int .i64 t452, .int .i64 t453, .int .i64 t454, .bool t455, .int .i64 t456, .slice Ao40 t457.length co40] 56 (0, 0))) := ⟨by (with_reducible repeat (first | refine blk_drewN ?_ _ | refine blk_drew ?_ | refine blk_alloc ?_ _)); refine blk_far ?_ NB462_463.out _; (with_reducible repeat (first | refine blk_drewN ?_ _ | refine blk_drew ?_ | refine blk_alloc ?_ _)); refine blk_far ?_ NB462_463.out _; (with_reducible repeat (first | refine blk_drewN ?_ _ | refine blk_drew ?_ | refine blk_alloc ?_ _)); refine blk_far ?_ NB462_463.out _; (with_reducible repeat (first | refine blk_drewN ?_ _ | refine blk_drew ?_ | refine blk_alloc ?_ _)); refine blk_far ?_ NB462_463.out _; (with_reducible repeat (first | refine blk_drewN ?_ _ | refine blk_drew ?_ | refine blk_alloc ?_ _)); refine blk_far ?_ NB462_463.out _; (with_reducible repeat (first | refine blk_drewN ?_ _ | refine blk_drew ?_ | refine blk_alloc ?_ _)); refine blk_far ?_ NB462_463.out _; (with_reducible repeat (first | refine blk_drewN ?_ _ | refine blk_drew ?_ | refine blk_alloc ?_ _)); refine blk_far ?_ NB462_463.out _; (with_reducible repeat (first | refine blk_drewN ?_ _ | refine blk_drew ?_ | refine blk_alloc ?_ _)); refine blk_far ?_ NB462_463.out _; (with_reducible repeat (first | refine blk_drewN ?_ _ | refine blk_drew ?_ | refine blk_alloc ?_ _)); exact BK462.out⟩
                have n9_ : Aside0 (((((((((w42.setCell ⟨gb463, 0, none⟩ (.int .i64 t419)).setCell ⟨gb463, 1, none⟩ (.int .i64 t420)).setCell ⟨gb463, 2, none⟩ (.int .i64 t421)).setCell ⟨gb463, 3, none⟩ (.int .i64 t422)).setCell ⟨gb463, 4, none⟩ (.bool t423)).setCell ⟨gb463, 5, none⟩ (.int .i64 t424)).setCell ⟨gb463, 6, none⟩ (.slice Ao26 t425.length co26)).setCell ⟨gb463, 0, none⟩ (.int .i64 (Go.bits .and .i64 a2 1099511627775))).heap[gb463]? = some (.cells #[.int .i64 (Go.bits .and .i64 a2 1099511627775), .int .i64 t420, .int .i64 t421, .int .i64 t422, .bool t423, .int .i64 t424, .slice Ao26 t425.length co26] 56 (0, 0))) := ⟨by (with_reducible repeat (first | refine blk_drewN ?_ _ | refine blk_drew ?_ | refine blk_alloc ?_ _)); refine blk_put (cs := #[.int .i64 t419, .int .i64 t420, .int .i64 t421, .int .i64 t422, .bool t423, .int .i64 t424, .slice Ao26 t425.length co26]) ?_ 0 _ rfl; (with_reducible repeat (first | refine blk_drewN ?_ _ | refine blk_drew ?_ | refine blk_alloc ?_ _)); refine blk_put (cs := #[.int .i64 t419, .int .i64 t420, .int .i64 t421, .int .i64 t422, .bool t423, .int .i64 t424, .slice none 0 0]) ?_ 6 _ rfl; (with_reducible repeat (first | refine blk_drewN ?_ _ | refine blk_drew ?_ | refine blk_alloc ?_ _)); refine blk_put (cs := #[.int .i64 t419, .int .i64 t420, .int .i64 t421, .int .i64 t422, .bool t423, .int .i64 0, .slice none 0 0]) ?_ 5 _ rfl; (with_reducible repeat (first | refine blk_drewN ?_ _ | refine blk_drew ?_ | refine blk_alloc ?_ _)); refine blk_put (cs := #[.int .i64 t419, .int .i64 t420, .int .i64 t421, .int .i64 t422, .bool false, .int .i64 0, .slice none 0 0]) ?_ 4 _ rfl; (with_reducible repeat (first | refine blk_drewN ?_ _ | refine blk_drew ?_ | refine blk_alloc ?_ _)); refine blk_put (cs := #[.int .i64 t419, .int .i64 t420, .int .i64 t421, .int .i64 0, .bool false, .int .i64 0, .slice none 0 0]) ?_ 3 _ rfl; (with_reducible repeat (first | refine blk_drewN ?_ _ | refine blk_drew ?_ | refine blk_alloc ?_ _)); refine blk_put (cs := #[.int .i64 t419, .int .i64 t420, .int .i64 0, .int .i64 0, .bool false, .int .i64 0, .slice none 0 0]) ?_ 2 _ rfl; (with_reducible repeat (first | refine blk_drewN ?_ _ | refine blk_drew ?_ | refine blk_alloc ?_ _)); refine blk_put (cs := #[.int .i64 t419, .int .i64 0, .int .i64 0, .int .i64 0, .bool false, .int .i64 0, .slice none 0 0]) ?_ 1 _ rfl; (with_reducible repeat (first | refine blk_drewN ?_ _ | refine blk_drew ?_ | refine blk_alloc ?_ _)); refine blk_put (cs := #[.int .i64 0, .int .i64 0, .int .i64 0, .int .i64 0, .bool false, .int .i64 0, .slice none 0 0]) ?_ 0 _ rfl; (with_reducible repeat (first | refine blk_drewN ?_ _ | refine blk_drew ?_ | refine blk_alloc ?_ _)); exact BK463.out⟩
                have n10_ : Aside0 (Below w.heap.size w ((((((((w42.setCell ⟨gb463, 0, none⟩ (.int .i64 t419)).setCell ⟨gb463, 1, none⟩ (.int .i64 t420)).setCell ⟨gb463, 2, none⟩ (.int .i64 t421)).setCell ⟨gb463, 3, none⟩ (.int .i64 t422)).setCell ⟨gb463, 4, none⟩ (.bool t423)).setCell ⟨gb463, 5, none⟩ (.int .i64 t424)).setCell ⟨gb463, 6, none⟩ (.slice Ao26 t425.length co26)).setCell ⟨gb463, 0, none⟩ (.int .i64 (Go.bits .and .i64 a2 1099511627775)))) := ⟨by repeat (first | (with_reducible first | exact HB.out | apply below_alloc | apply pw_below_drewN | apply below_drew1 | refine below_set ?_ GE437.out | refine below_set ?_ GE438.out | refine below_set ?_ GE462.out | refine below_set ?_ GE463.out) | exact HB.out)⟩
                (try clear HO427)
                (try clear HO436)
                (try clear HO441)
                (try clear HO445)
                (try clear HO450)
                (try clear HO459)
                (try clear BK437)
                (try clear BK438)
                (try clear BK462)
                (try clear BK463)
                (try clear HB)
                generalize ((((((((w42.setCell ⟨gb463, 0, none⟩ (.int .i64 t419)).setCell ⟨gb463, 1, none⟩ (.int .i64 t420)).setCell ⟨gb463, 2, none⟩ (.int .i64 t421)).setCell ⟨gb463, 3, none⟩ (.int .i64 t422)).setCell ⟨gb463, 4, none⟩ (.bool t423)).setCell ⟨gb463, 5, none⟩ (.int .i64 t424)).setCell ⟨gb463, 6, none⟩ (.slice Ao26 t425.length co26)).setCell ⟨gb463, 0, none⟩ (.int .i64 (Go.bits .and .i64 a2 1099511627775))) = w47 at n0_ n1_ n2_ n3_ n4_ n5_ n6_ n7_ n8_ n9_ n10_ ⊢
                have HO427 := n0_
                have HO436 := n1_
                have HO441 := n2_
                have HO445 := n3_
                have HO450 := n4_
                have HO459 := n5_
                have BK437 := n6_
                have BK438 := n7_
                have BK462 := n8_
                have BK463 := n9_
                have HB := n10_
                clear n0_ n1_ n2_ n3_ n4_ n5_ n6_ n7_ n8_ n9_ n10_
                have n0_ := Aside0.mk (Kd.R_drew HO427.out)
                have n1_ := Aside0.mk (Kd.R_drew HO436.out)
                have n2_ := Aside0.mk (Kd.R_drew HO441.out)
                have n3_ := Aside0.mk (Kd.R_drew HO445.out)
                have n4_ := Aside0.mk (Kd.R_drew HO450.out)
                have n5_ := Aside0.mk (Kd.R_drew HO459.out)
                have n6_ := Aside0.mk (blk_drew BK437.out)
                have n7_ := Aside0.mk (blk_drew BK438.out)
                have n8_ := Aside0.mk (blk_drew BK462.out)
                have n9_ := Aside0.mk (blk_drew BK463.out)
                have n10_ := Aside0.mk (below_drew1 HB.out)
                clear HO427
                clear HO436
                clear HO441
                clear HO445
                clear HO450
                clear HO459
                clear BK437
                clear BK438
                clear BK462
                clear BK463
                clear HB
                have HO427 := n0_
                have HO436 := n1_
                have HO441 := n2_
                have HO445 := n3_
                have HO450 := n4_
                have HO459 := n5_
                have BK437 := n6_
                have BK438 := n7_
                have BK462 := n8_
                have BK463 := n9_
                have HB := n10_
                clear n0_ n1_ n2_ n3_ n4_ n5_ n6_ n7_ n8_ n9_ n10_
                refine start_ (n := 40) (S := fun w' => w'.cell? ⟨gb462, 0, none⟩ = some (.int .i64 t451) ∧ w'.cell? ⟨gb462, 1, none⟩ = some (.int .i64 t452) ∧ w'.cell? ⟨gb462, 2, none⟩ = some (.int .i64 t453) ∧ w'.cell? ⟨gb462, 3, none⟩ = some (.int .i64 t454) ∧ w'.cell? ⟨gb462, 4, none⟩ = some (.bool t455) ∧ w'.cell? ⟨gb462, 5, none⟩ = some (.int .i64 t456) ∧ w'.cell? ⟨gb462, 6, none⟩ = some (.slice Ao40 t457.length co40) ∧ w'.cell? ⟨gb463, 0, none⟩ = some (.int .i64 (Go.bits .and .i64 a2 1099511627775)) ∧ w'.cell? ⟨gb463, 1, none⟩ = some (.int .i64 t420) ∧ w'.cell? ⟨gb463, 2, none⟩ = some (.int .i64 t421) ∧ w'.cell? ⟨gb463, 3, none⟩ = some (.int .i64 t422) ∧ w'.cell? ⟨gb463, 4, none⟩ = some (.bool t423) ∧ w'.cell? ⟨gb463, 5, none⟩ = some (.int .i64 t424) ∧ w'.cell? ⟨gb463, 6, none⟩ = some (.slice Ao26 t425.length co26) ∧ w'.cell? ⟨gb437, 0, none⟩ = some (.int .i64 t419) ∧ w'.cell? ⟨gb437, 1, none⟩ = some (.int .i64 t420) ∧ w'.cell? ⟨gb437, 2, none⟩ = some (.int .i64 t421) ∧ w'.cell? ⟨gb437, 3, none⟩ = some (.int .i64 t422) ∧ w'.cell? ⟨gb437, 4, none⟩ = some (.bool t423) ∧ w'.cell? ⟨gb437, 5, none⟩ = some (.int .i64 t424) ∧ w'.cell? ⟨gb437, 6, none⟩ = some (.slice Ao26 t425.length co26) ∧ w'.cell? ⟨gb438, 0, none⟩ = some (.int .i64 t428) ∧ w'.cell? ⟨gb438, 1, none⟩ = some (.int .i64 t429) ∧ w'.cell? ⟨gb438, 2, none⟩ = some (.int .i64 t430) ∧ w'.cell? ⟨gb438, 3, none⟩ = some (.int .i64 t431) ∧ w'.cell? ⟨gb438, 4, none⟩ = some (.bool t432) ∧ w'.cell? ⟨gb438, 5, none⟩ = some (.int .i64 t433) ∧ w'.cell? ⟨gb438, 6, none⟩ = some (.slice Ao28 t434.length co28)) (ds := []) #[false, false, false, false, false, false, false, false, false, false, false, false, false, false, false, false, false, false, false, false, false, false, false, false, false, false, false, false, false, false, false, false, false, false, false, false, false, false, false, false] (by kernel_rfl) rfl rfl ⟨(blk_cell BK462.out 0).trans rfl, (blk_cell BK462.out 1).trans rfl, (blk_cell BK462.out 2).trans rfl, (blk_cell BK462.out 3).trans rfl, (blk_cell BK462.out 4).trans rfl, (blk_cell BK462.out 5).trans rfl, (blk_cell BK462.out 6).trans rfl, (blk_cell BK463.out 0).trans rfl, (blk_cell BK463.out 1).trans rfl, (blk_cell BK463.out 2).trans rfl, (blk_cell BK463.out 3).trans rfl, (blk_cell BK463.out 4).trans rfl, (blk_cell BK463.out 5).trans rfl, (blk_cell BK463.out 6).trans rfl, (blk_cell BK437.out 0).trans rfl, (blk_cell BK437.out 1).trans rfl, (blk_cell BK437.out 2).trans rfl, (blk_cell BK437.out 3).trans rfl, (blk_cell BK437.out 4).trans rfl, (blk_cell BK437.out 5).trans rfl, (blk_cell BK437.out 6).trans rfl, (blk_cell BK438.out 0).trans rfl, (blk_cell BK438.out 1).trans rfl, (blk_cell BK438.out 2).trans rfl, (blk_cell BK438.out 3).trans rfl, (blk_cell BK438.out 4).trans rfl, (blk_cell BK438.out 5).trans rfl, (blk_cell BK438.out 6).trans rfl⟩ (fun hHeld => ?_); refine with_tabW bordereaulaw6_BatchRebased.tab9 bordereaulaw6_BatchRebased.bits9 (fun HT_ HW_ => ?_)
                generalize w47.drew = w48 at HO427 HO436 HO441 HO445 HO450 HO459 BK437 BK438 BK462 BK463 HB hHeld ⊢
                refine pure_ (i := 0) (N := some 55) (v := ?_) (a' := ?_) #[true, false, false, false, false, false, false, false, false, false, false, false, false, false, false, false, false, false, false, false, false, false, false, false, false, false, false, false, false, false, false, false, false, false, false, false, false, false, false, false] rfl rfl (any_of HT_.out (by kernel_rfl)) (fun _ _ _ h => h) (Or.inl ⟨by rfl, ?_⟩) ?_ ?_
                rotate_left
                · intro w'
                  go_simp
                  with_reducible rfl
                rotate_left
                · simp only [Act.put, List.setIfInBounds_toArray, List.set_cons_zero, List.set_cons_succ, i64_w, i32_w]
                  rfl
                refine pure_ (i := 1) (N := some 56) (v := ?_) (a' := ?_) #[true, true, false, false, false, false, false, false, false, false, false, false, false, false, false, false, false, false, false, false, false, false, false, false, false, false, false, false, false, false, false, false, false, false, false, false, false, false, false, false] rfl rfl (any_of HT_.out (by kernel_rfl)) (fun _ _ _ h => h) (Or.inl ⟨by rfl, ?_⟩) ?_ ?_
                rotate_left
                · intro w'
                  go_simp
                  with_reducible rfl
                rotate_left
                · simp only [Act.put, List.setIfInBounds_toArray, List.set_cons_zero, List.set_cons_succ, i64_w, i32_w]
                  rfl
                refine pure_ (i := 2) (N := some 57) (v := ?_) (a' := ?_) #[true, true, true, false, false, false, false, false, false, false, false, false, false, false, false, false, false, false, false, false, false, false, false, false, false, false, false, false, false, false, false, false, false, false, false, false, false, false, false, false] rfl rfl (any_of HT_.out (by kernel_rfl)) (fun _ _ _ h => h) (Or.inl ⟨by rfl, ?_⟩) ?_ ?_
                rotate_left
                · intro w'
                  go_simp
                  with_reducible rfl
                rotate_left
                · simp only [Act.put, List.setIfInBounds_toArray, List.set_cons_zero, List.set_cons_succ, i64_w, i32_w]
                  rfl
                refine pure_ (i := 3) (N := some 58) (v := ?_) (a' := ?_) #[true, true, true, true, false, false, false, false, false, false, false, false, false, false, false, false, false, false, false, false, false, false, false, false, false, false, false, false, false, false, false, false, false, false, false, false, false, false, false, false] rfl rfl (any_of HT_.out (by kernel_rfl)) (fun _ _ _ h => h) (Or.inl ⟨by rfl, ?_⟩) ?_ ?_
                rotate_left
                · intro w'
                  go_simp
                  with_reducible rfl
                rotate_left
                · simp only [Act.put, List.setIfInBounds_toArray, List.set_cons_zero, List.set_cons_succ, i64_w, i32_w]
                  rfl
                refine pure_ (i := 4) (N := some 59) (v := ?_) (a' := ?_) #[true, true, true, true, true, false, false, false, false, false, false, false, false, false, false, false, false, false, false, false, false, false, false, false, false, false, false, false, false, false, false, false, false, false, false, false, false, false, false, false] rfl rfl (any_of HT_.out (by kernel_rfl)) (fun _ _ _ h => h) (Or.inl ⟨by rfl, ?_⟩) ?_ ?_
                rotate_left
                · intro w'
                  go_simp
                  with_reducible rfl
                rotate_left
                · simp only [Act.put, List.setIfInBounds_toArray, List.set_cons_zero, List.set_cons_succ, i64_w, i32_w]
                  rfl
                refine pure_ (i := 5) (N := some 60) (v := ?_) (a' := ?_) #[true, true, true, true, true, true, false, false, false, false, false, false, false, false, false, false, false, false, false, false, false, false, false, false, false, false, false, false, false, false, false, false, false, false, false, false, false, false, false, false] rfl rfl (any_of HT_.out (by kernel_rfl)) (fun _ _ _ h => h) (Or.inl ⟨by rfl, ?_⟩) ?_ ?_
                rotate_left
                · intro w'
                  go_simp
                  with_reducible rfl
                rotate_left
                · simp only [Act.put, List.setIfInBounds_toArray, List.set_cons_zero, List.set_cons_succ, i64_w, i32_w]
                  rfl
                refine pure_ (i := 6) (N := some 61) (v := ?_) (a' := ?_) #[true, true, true, true, true, true, true, false, false, false, false, false, false, false, false, false, false, false, false, false, false, false, false, false, false, false, false, false, false, false, false, false, false, false, false, false, false, false, false, false] rfl rfl (any_of HT_.out (by kernel_rfl)) (fun _ _ _ h => h) (Or.inl ⟨by rfl, ?_⟩) ?_ ?_
                rotate_left
                · intro w'
                  go_simp
                  with_reducible rfl
                rotate_left
                · simp only [Act.put, List.setIfInBounds_toArray, List.set_cons_zero, List.set_cons_succ, i64_w, i32_w]
                  rfl
                refine pure_ (i := 7) (N := some 62) (v := ?_) (a' := ?_) #[true, true, true, true, true, true, true, true, false, false, false, false, false, false, false, false, false, false, false, false, false, false, false, false, false, false, false, false, false, false, false, false, false, false, false, false, false, false, false, false] rfl rfl (any_of HT_.out (by kernel_rfl)) (fun _ _ _ h => h) (Or.inl ⟨by rfl, ?_⟩) ?_ ?_
                rotate_left
                · intro w'
                  go_simp
                  with_reducible rfl
                rotate_left
                · simp only [Act.put, List.setIfInBounds_toArray, List.set_cons_zero, List.set_cons_succ, i64_w, i32_w]
                  rfl
                refine pure_ (i := 8) (N := some 63) (v := ?_) (a' := ?_) #[true, true, true, true, true, true, true, true, true, false, false, false, false, false, false, false, false, false, false, false, false, false, false, false, false, false, false, false, false, false, false, false, false, false, false, false, false, false, false, false] rfl rfl (any_of HT_.out (by kernel_rfl)) (fun _ _ _ h => h) (Or.inl ⟨by rfl, ?_⟩) ?_ ?_
                rotate_left
                · intro w'
                  go_simp
                  with_reducible rfl
                rotate_left
                · simp only [Act.put, List.setIfInBounds_toArray, List.set_cons_zero, List.set_cons_succ, i64_w, i32_w]
                  rfl
                refine pure_ (i := 9) (N := some 64) (v := ?_) (a' := ?_) #[true, true, true, true, true, true, true, true, true, true, false, false, false, false, false, false, false, false, false, false, false, false, false, false, false, false, false, false, false, false, false, false, false, false, false, false, false, false, false, false] rfl rfl (any_of HT_.out (by kernel_rfl)) (fun _ _ _ h => h) (Or.inl ⟨by rfl, ?_⟩) ?_ ?_
                rotate_left
                · intro w'
                  go_simp
                  with_reducible rfl
                rotate_left
                · simp only [Act.put, List.setIfInBounds_toArray, List.set_cons_zero, List.set_cons_succ, i64_w, i32_w]
                  rfl
                refine pure_ (i := 10) (N := some 65) (v := ?_) (a' := ?_) #[true, true, true, true, true, true, true, true, true, true, true, false, false, false, false, false, false, false, false, false, false, false, false, false, false, false, false, false, false, false, false, false, false, false, false, false, false, false, false, false] rfl rfl (any_of HT_.out (by kernel_rfl)) (fun _ _ _ h => h) (Or.inl ⟨by rfl, ?_⟩) ?_ ?_
                rotate_left
                · intro w'
                  go_simp
                  with_reducible rfl
                rotate_left
                · simp only [Act.put, List.setIfInBounds_toArray, List.set_cons_zero, List.set_cons_succ, i64_w, i32_w]
                  rfl
                refine pure_ (i := 11) (N := some 66) (v := ?_) (a' := ?_) #[true, true, true, true, true, true, true, true, true, true, true, true, false, false, false, false, false, false, false, false, false, false, false, false, false, false, false, false, false, false, false, false, false, false, false, false, false, false, false, false] rfl rfl (any_of HT_.out (by kernel_rfl)) (fun _ _ _ h => h) (Or.inl ⟨by rfl, ?_⟩) ?_ ?_
                rotate_left
                · intro w'
                  go_simp
                  with_reducible rfl
                rotate_left
                · simp only [Act.put, List.setIfInBounds_toArray, List.set_cons_zero, List.set_cons_succ, i64_w, i32_w]
                  rfl
                refine pure_ (i := 12) (N := some 67) (v := ?_) (a' := ?_) #[true, true, true, true, true, true, true, true, true, true, true, true, true, false, false, false, false, false, false, false, false, false, false, false, false, false, false, false, false, false, false, false, false, false, false, false, false, false, false, false] rfl rfl (any_of HT_.out (by kernel_rfl)) (fun _ _ _ h => h) (Or.inl ⟨by rfl, ?_⟩) ?_ ?_
                rotate_left
                · intro w'
                  go_simp
                  with_reducible rfl
                rotate_left
                · simp only [Act.put, List.setIfInBounds_toArray, List.set_cons_zero, List.set_cons_succ, i64_w, i32_w]
                  rfl
                refine pure_ (i := 13) (N := some 68) (v := ?_) (a' := ?_) #[true, true, true, true, true, true, true, true, true, true, true, true, true, true, false, false, false, false, false, false, false, false, false, false, false, false, false, false, false, false, false, false, false, false, false, false, false, false, false, false] rfl rfl (any_of HT_.out (by kernel_rfl)) (fun _ _ _ h => h) (Or.inl ⟨by rfl, ?_⟩) ?_ ?_
                rotate_left
                · intro w'
                  go_simp
                  with_reducible rfl
                rotate_left
                · simp only [Act.put, List.setIfInBounds_toArray, List.set_cons_zero, List.set_cons_succ, i64_w, i32_w]
                  rfl
                refine take_ (i := 14) (N := some 69) (v := ?_) (a' := ?_) #[true, true, true, true, true, true, true, true, true, true, true, true, true, true, true, false, false, false, false, false, false, false, false, false, false, false, false, false, false, false, false, false, false, false, false, false, false, false, false, false] rfl rfl (take_ofW HT_.out HW_.out (by kernel_rfl)) (fun _ _ _ h => h) (Or.inl ⟨by rfl, ?_⟩) hHeld ?_ ?_
                rotate_left
                · rintro w' ⟨s0, s1, s2, s3, s4, s5, s6, s7, s8, s9, s10, s11, s12, s13, s14, s15, s16, s17, s18, s19, s20, s21, s22, s23, s24, s25, s26, s27⟩
                  go_simp
                  with_reducible rfl
                rotate_left
                · simp only [Act.put, List.setIfInBounds_toArray, List.set_cons_zero, List.set_cons_succ, i64_w, i32_w]
                  rfl
                refine take_ (i := 15) (N := some 70) (v := ?_) (a' := ?_) #[true, true, true, true, true, true, true, true, true, true, true, true, true, true, true, true, false, false, false, false, false, false, false, false, false, false, false, false, false, false, false, false, false, false, false, false, false, false, false, false] rfl rfl (take_ofW HT_.out HW_.out (by kernel_rfl)) (fun _ _ _ h => h) (Or.inl ⟨by rfl, ?_⟩) hHeld ?_ ?_
                rotate_left
                · rintro w' ⟨s0, s1, s2, s3, s4, s5, s6, s7, s8, s9, s10, s11, s12, s13, s14, s15, s16, s17, s18, s19, s20, s21, s22, s23, s24, s25, s26, s27⟩
                  go_simp
                  with_reducible rfl
                rotate_left
                · simp only [Act.put, List.setIfInBounds_toArray, List.set_cons_zero, List.set_cons_succ, i64_w, i32_w]
                  rfl
                refine one_ (i := 16) (N := some 71) #[true, true, true, true, true, true, true, true, true, true, true, true, true, true, true, true, true, false, false, false, false, false, false, false, false, false, false, false, false, false, false, false, false, false, false, false, false, false, false, false] rfl rfl (one_of HT_.out (by kernel_rfl)) (by decide) (fun K hK => ?_)
                refine goes_ Try.func48 (by kernel_rfl) rfl #[.agg #[.int .i64 t451, .int .i64 t452, .int .i64 t453, .int .i64 t454, .bool t455, .int .i64 t456, .slice Ao40 t457.length co40], .agg #[.int .i64 (Go.bits .and .i64 a2 1099511627775), .int .i64 t420, .int .i64 t421, .int .i64 t422, .bool t423, .int .i64 t424, .slice Ao26 t425.length co26]] (by rfl) rfl rfl (by (try simp only [List.map_toArray, List.map_cons, List.map_nil]); first | done | rfl | (simp only [List.length_drop, List.length_take]; rfl)) ?_
                with_reducible refine (bordereauref6_Same.calls k t451 t452 t453 t454 t455 t456 _ _ t457 (Go.bits .and .i64 a2 1099511627775) t420 t421 t422 t423 t424 _ _ t425 true _ ?side1 ?side2 ?side3 ?side4 A14.out).mono ?_
                (case side1 => exact cgo_ ((Kd.R_reads' HO459.out).2.2))
                (case side2 => exact (Kd.R_reads' HO459.out).2.1)
                (case side3 => exact cgo_ ((Kd.R_reads' HO427.out).2.2))
                (case side4 => exact (Kd.R_reads' HO427.out).2.1)
                rintro e w49 ⟨rfl, hb⟩
                refine ⟨_, rfl, ?_⟩
                have n0_ := Aside0.mk (Kd.R_below (rgo_ HO427) hb)
                have n1_ := Aside0.mk (Kd.R_below (rgo_ HO436) hb)
                have n2_ := Aside0.mk (Kd.R_below (rgo_ HO441) hb)
                have n3_ := Aside0.mk (Kd.R_below (rgo_ HO445) hb)
                have n4_ := Aside0.mk (Kd.R_below (rgo_ HO450) hb)
                have n5_ := Aside0.mk (Kd.R_below (rgo_ HO459) hb)
                have n6_ := Aside0.mk (blk_below (g := gb437) (o := .cells #[.int .i64 t419, .int .i64 t420, .int .i64 t421, .int .i64 t422, .bool t423, .int .i64 t424, .slice Ao26 t425.length co26] 56 (0, 0)) (blk_ BK437) hb)
                have n7_ := Aside0.mk (blk_below (g := gb438) (o := .cells #[.int .i64 t428, .int .i64 t429, .int .i64 t430, .int .i64 t431, .bool t432, .int .i64 t433, .slice Ao28 t434.length co28] 56 (0, 0)) (blk_ BK438) hb)
                have n8_ := Aside0.mk (blk_below (g := gb462) (o := .cells #[.int .i64 t451, .int .i64 t452, .int .i64 t453, .int .i64 t454, .bool t455, .int .i64 t456, .slice Ao40 t457.length co40] 56 (0, 0)) (blk_ BK462) hb)
                have n9_ := Aside0.mk (blk_below (g := gb463) (o := .cells #[.int .i64 (Go.bits .and .i64 a2 1099511627775), .int .i64 t420, .int .i64 t421, .int .i64 t422, .bool t423, .int .i64 t424, .slice Ao26 t425.length co26] 56 (0, 0)) (blk_ BK463) hb)
                have n10_ := Aside0.mk (below_step (bel_ HB) hb)
                clear HO427
                clear HO436
                clear HO441
                clear HO445
                clear HO450
                clear HO459
                clear BK437
                clear BK438
                clear BK462
                clear BK463
                clear HB
                have HO427 := n0_
                have HO436 := n1_
                have HO441 := n2_
                have HO445 := n3_
                have HO450 := n4_
                have HO459 := n5_
                have BK437 := n6_
                have BK438 := n7_
                have BK462 := n8_
                have BK463 := n9_
                have HB := n10_
                clear n0_ n1_ n2_ n3_ n4_ n5_ n6_ n7_ n8_ n9_ n10_
                (try clear hb)
                (try clear hb2)
                (try clear hk)
                (try clear hi)
                refine hK.out _ _ ⟨(blk_cell BK462.out 0).trans rfl, (blk_cell BK462.out 1).trans rfl, (blk_cell BK462.out 2).trans rfl, (blk_cell BK462.out 3).trans rfl, (blk_cell BK462.out 4).trans rfl, (blk_cell BK462.out 5).trans rfl, (blk_cell BK462.out 6).trans rfl, (blk_cell BK463.out 0).trans rfl, (blk_cell BK463.out 1).trans rfl, (blk_cell BK463.out 2).trans rfl, (blk_cell BK463.out 3).trans rfl, (blk_cell BK463.out 4).trans rfl, (blk_cell BK463.out 5).trans rfl, (blk_cell BK463.out 6).trans rfl, (blk_cell BK437.out 0).trans rfl, (blk_cell BK437.out 1).trans rfl, (blk_cell BK437.out 2).trans rfl, (blk_cell BK437.out 3).trans rfl, (blk_cell BK437.out 4).trans rfl, (blk_cell BK437.out 5).trans rfl, (blk_cell BK437.out 6).trans rfl, (blk_cell BK438.out 0).trans rfl, (blk_cell BK438.out 1).trans rfl, (blk_cell BK438.out 2).trans rfl, (blk_cell BK438.out 3).trans rfl, (blk_cell BK438.out 4).trans rfl, (blk_cell BK438.out 5).trans rfl, (blk_cell BK438.out 6).trans rfl⟩ (fun hHeld => ?_)
                clear hK K
                refine norm_ (a' := ?_) ?_ ?_
                rotate_left
                · show Act.put _ (some 71) _ = _
                  simp only [Act.put, List.setIfInBounds_toArray, List.set_cons_zero, List.set_cons_succ, i64_w, i32_w]
                  rfl
                refine pure_ (i := 17) (N := some 72) (v := ?_) (a' := ?_) #[true, true, true, true, true, true, true, true, true, true, true, true, true, true, true, true, true, true, false, false, false, false, false, false, false, false, false, false, false, false, false, false, false, false, false, false, false, false, false, false] rfl rfl (any_of HT_.out (by kernel_rfl)) (fun _ _ _ h => h) (Or.inl ⟨by rfl, ?_⟩) ?_ ?_
                rotate_left
                · intro w'
                  go_simp
                  with_reducible rfl
                rotate_left
                · simp only [Act.put, List.setIfInBounds_toArray, List.set_cons_zero, List.set_cons_succ, i64_w, i32_w]
                  rfl
                refine pure_ (i := 18) (N := some 73) (v := ?_) (a' := ?_) #[true, true, true, true, true, true, true, true, true, true, true, true, true, true, true, true, true, true, true, false, false, false, false, false, false, false, false, false, false, false, false, false, false, false, false, false, false, false, false, false] rfl rfl (any_of HT_.out (by kernel_rfl)) (fun _ _ _ h => h) (Or.inl ⟨by rfl, ?_⟩) ?_ ?_
                rotate_left
                · intro w'
                  go_simp
                  with_reducible rfl
                rotate_left
                · simp only [Act.put, List.setIfInBounds_toArray, List.set_cons_zero, List.set_cons_succ, i64_w, i32_w]
                  rfl
                refine pure_ (i := 19) (N := some 74) (v := ?_) (a' := ?_) #[true, true, true, true, true, true, true, true, true, true, true, true, true, true, true, true, true, true, true, true, false, false, false, false, false, false, false, false, false, false, false, false, false, false, false, false, false, false, false, false] rfl rfl (any_of HT_.out (by kernel_rfl)) (fun _ _ _ h => h) (Or.inl ⟨by rfl, ?_⟩) ?_ ?_
                rotate_left
                · intro w'
                  go_simp
                  with_reducible rfl
                rotate_left
                · simp only [Act.put, List.setIfInBounds_toArray, List.set_cons_zero, List.set_cons_succ, i64_w, i32_w]
                  rfl
                refine pure_ (i := 20) (N := some 75) (v := ?_) (a' := ?_) #[true, true, true, true, true, true, true, true, true, true, true, true, true, true, true, true, true, true, true, true, true, false, false, false, false, false, false, false, false, false, false, false, false, false, false, false, false, false, false, false] rfl rfl (any_of HT_.out (by kernel_rfl)) (fun _ _ _ h => h) (Or.inl ⟨by rfl, ?_⟩) ?_ ?_
                rotate_left
                · intro w'
                  go_simp
                  with_reducible rfl
                rotate_left
                · simp only [Act.put, List.setIfInBounds_toArray, List.set_cons_zero, List.set_cons_succ, i64_w, i32_w]
                  rfl
                refine pure_ (i := 21) (N := some 76) (v := ?_) (a' := ?_) #[true, true, true, true, true, true, true, true, true, true, true, true, true, true, true, true, true, true, true, true, true, true, false, false, false, false, false, false, false, false, false, false, false, false, false, false, false, false, false, false] rfl rfl (any_of HT_.out (by kernel_rfl)) (fun _ _ _ h => h) (Or.inl ⟨by rfl, ?_⟩) ?_ ?_
                rotate_left
                · intro w'
                  go_simp
                  with_reducible rfl
                rotate_left
                · simp only [Act.put, List.setIfInBounds_toArray, List.set_cons_zero, List.set_cons_succ, i64_w, i32_w]
                  rfl
                refine pure_ (i := 22) (N := some 77) (v := ?_) (a' := ?_) #[true, true, true, true, true, true, true, true, true, true, true, true, true, true, true, true, true, true, true, true, true, true, true, false, false, false, false, false, false, false, false, false, false, false, false, false, false, false, false, false] rfl rfl (any_of HT_.out (by kernel_rfl)) (fun _ _ _ h => h) (Or.inl ⟨by rfl, ?_⟩) ?_ ?_
                rotate_left
                · intro w'
                  go_simp
                  with_reducible rfl
                rotate_left
                · simp only [Act.put, List.setIfInBounds_toArray, List.set_cons_zero, List.set_cons_succ, i64_w, i32_w]
                  rfl
                refine pure_ (i := 23) (N := some 78) (v := ?_) (a' := ?_) #[true, true, true, true, true, true, true, true, true, true, true, true, true, true, true, true, true, true, true, true, true, true, true, true, false, false, false, false, false, false, false, false, false, false, false, false, false, false, false, false] rfl rfl (any_of HT_.out (by kernel_rfl)) (fun _ _ _ h => h) (Or.inl ⟨by rfl, ?_⟩) ?_ ?_
                rotate_left
                · intro w'
                  go_simp
                  with_reducible rfl
                rotate_left
                · simp only [Act.put, List.setIfInBounds_toArray, List.set_cons_zero, List.set_cons_succ, i64_w, i32_w]
                  rfl
                refine pure_ (i := 24) (N := some 79) (v := ?_) (a' := ?_) #[true, true, true, true, true, true, true, true, true, true, true, true, true, true, true, true, true, true, true, true, true, true, true, true, true, false, false, false, false, false, false, false, false, false, false, false, false, false, false, false] rfl rfl (any_of HT_.out (by kernel_rfl)) (fun _ _ _ h => h) (Or.inl ⟨by rfl, ?_⟩) ?_ ?_
                rotate_left
                · intro w'
                  go_simp
                  with_reducible rfl
                rotate_left
                · simp only [Act.put, List.setIfInBounds_toArray, List.set_cons_zero, List.set_cons_succ, i64_w, i32_w]
                  rfl
                refine pure_ (i := 25) (N := some 80) (v := ?_) (a' := ?_) #[true, true, true, true, true, true, true, true, true, true, true, true, true, true, true, true, true, true, true, true, true, true, true, true, true, true, false, false, false, false, false, false, false, false, false, false, false, false, false, false] rfl rfl (any_of HT_.out (by kernel_rfl)) (fun _ _ _ h => h) (Or.inl ⟨by rfl, ?_⟩) ?_ ?_
                rotate_left
                · intro w'
                  go_simp
                  with_reducible rfl
                rotate_left
                · simp only [Act.put, List.setIfInBounds_toArray, List.set_cons_zero, List.set_cons_succ, i64_w, i32_w]
                  rfl
                refine pure_ (i := 26) (N := some 81) (v := ?_) (a' := ?_) #[true, true, true, true, true, true, true, true, true, true, true, true, true, true, true, true, true, true, true, true, true, true, true, true, true, true, true, false, false, false, false, false, false, false, false, false, false, false, false, false] rfl rfl (any_of HT_.out (by kernel_rfl)) (fun _ _ _ h => h) (Or.inl ⟨by rfl, ?_⟩) ?_ ?_
                rotate_left
                · intro w'
                  go_simp
                  with_reducible rfl
                rotate_left
                · simp only [Act.put, List.setIfInBounds_toArray, List.set_cons_zero, List.set_cons_succ, i64_w, i32_w]
                  rfl
                refine pure_ (i := 28) (N := some 83) (v := ?_) (a' := ?_) #[true, true, true, true, true, true, true, true, true, true, true, true, true, true, true, true, true, true, true, true, true, true, true, true, true, true, true, false, true, false, false, false, false, false, false, false, false, false, false, false] rfl rfl (any_of HT_.out (by kernel_rfl)) (fun _ _ _ h => h) (Or.inl ⟨by rfl, ?_⟩) ?_ ?_
                rotate_left
                · intro w'
                  go_simp
                  with_reducible rfl
                rotate_left
                · simp only [Act.put, List.setIfInBounds_toArray, List.set_cons_zero, List.set_cons_succ, i64_w, i32_w]
                  rfl
                refine take_ (i := 31) (N := some 86) (v := ?_) (a' := ?_) #[true, true, true, true, true, true, true, true, true, true, true, true, true, true, true, true, true, true, true, true, true, true, true, true, true, true, true, false, true, false, false, true, false, false, false, false, false, false, false, false] rfl rfl (take_ofW HT_.out HW_.out (by kernel_rfl)) (fun _ _ _ h => h) (Or.inl ⟨by rfl, ?_⟩) hHeld ?_ ?_
                rotate_left
                · rintro w' ⟨s0, s1, s2, s3, s4, s5, s6, s7, s8, s9, s10, s11, s12, s13, s14, s15, s16, s17, s18, s19, s20, s21, s22, s23, s24, s25, s26, s27⟩
                  go_simp
                  with_reducible rfl
                rotate_left
                · simp only [Act.put, List.setIfInBounds_toArray, List.set_cons_zero, List.set_cons_succ, i64_w, i32_w]
                  rfl
                refine take_ (i := 32) (N := some 87) (v := ?_) (a' := ?_) #[true, true, true, true, true, true, true, true, true, true, true, true, true, true, true, true, true, true, true, true, true, true, true, true, true, true, true, false, true, false, false, true, true, false, false, false, false, false, false, false] rfl rfl (take_ofW HT_.out HW_.out (by kernel_rfl)) (fun _ _ _ h => h) (Or.inl ⟨by rfl, ?_⟩) hHeld ?_ ?_
                rotate_left
                · rintro w' ⟨s0, s1, s2, s3, s4, s5, s6, s7, s8, s9, s10, s11, s12, s13, s14, s15, s16, s17, s18, s19, s20, s21, s22, s23, s24, s25, s26, s27⟩
                  go_simp
                  with_reducible rfl
                rotate_left
                · simp only [Act.put, List.setIfInBounds_toArray, List.set_cons_zero, List.set_cons_succ, i64_w, i32_w]
                  rfl
                refine join_ (σ := Unit) 6 #[true, true, true, true, true, true, true, true, true, true, true, true, true, true, true, true, true, true, true, true, true, true, true, true, true, true, true, true, true, true, true, true, true, true, false, false, false, false, false, false] (fun s_ => [(82, .string (strOfNums t439)), (84, .string (strOfNums t443)), (88, .bool t465), (85, .bool ((strOfNums t439).toList == (strOfNums t443).toList))]) (fun s_ w' => (w'.cell? ⟨gb462, 0, none⟩ = some (.int .i64 t451) ∧ w'.cell? ⟨gb462, 1, none⟩ = some (.int .i64 t452) ∧ w'.cell? ⟨gb462, 2, none⟩ = some (.int .i64 t453) ∧ w'.cell? ⟨gb462, 3, none⟩ = some (.int .i64 t454) ∧ w'.cell? ⟨gb462, 4, none⟩ = some (.bool t455) ∧ w'.cell? ⟨gb462, 5, none⟩ = some (.int .i64 t456) ∧ w'.cell? ⟨gb462, 6, none⟩ = some (.slice Ao40 t457.length co40) ∧ w'.cell? ⟨gb463, 0, none⟩ = some (.int .i64 (Go.bits .and .i64 a2 1099511627775)) ∧ w'.cell? ⟨gb463, 1, none⟩ = some (.int .i64 t420) ∧ w'.cell? ⟨gb463, 2, none⟩ = some (.int .i64 t421) ∧ w'.cell? ⟨gb463, 3, none⟩ = some (.int .i64 t422) ∧ w'.cell? ⟨gb463, 4, none⟩ = some (.bool t423) ∧ w'.cell? ⟨gb463, 5, none⟩ = some (.int .i64 t424) ∧ w'.cell? ⟨gb463, 6, none⟩ = some (.slice Ao26 t425.length co26) ∧ w'.cell? ⟨gb437, 0, none⟩ = some (.int .i64 t419) ∧ w'.cell? ⟨gb437, 1, none⟩ = some (.int .i64 t420) ∧ w'.cell? ⟨gb437, 2, none⟩ = some (.int .i64 t421) ∧ w'.cell? ⟨gb437, 3, none⟩ = some (.int .i64 t422) ∧ w'.cell? ⟨gb437, 4, none⟩ = some (.bool t423) ∧ w'.cell? ⟨gb437, 5, none⟩ = some (.int .i64 t424) ∧ w'.cell? ⟨gb437, 6, none⟩ = some (.slice Ao26 t425.length co26) ∧ w'.cell? ⟨gb438, 0, none⟩ = some (.int .i64 t428) ∧ w'.cell? ⟨gb438, 1, none⟩ = some (.int .i64 t429) ∧ w'.cell? ⟨gb438, 2, none⟩ = some (.int .i64 t430) ∧ w'.cell? ⟨gb438, 3, none⟩ = some (.int .i64 t431) ∧ w'.cell? ⟨gb438, 4, none⟩ = some (.bool t432) ∧ w'.cell? ⟨gb438, 5, none⟩ = some (.int .i64 t433) ∧ w'.cell? ⟨gb438, 6, none⟩ = some (.slice Ao28 t434.length co28)) ∧ (Kd.R k71 71 w' w.heap.size (fun k_ => some k_ ≠ (.slice Ao28 t434.length co28 : Value).ownBlock ∧ some k_ ≠ (.slice Ao40 t457.length co40 : Value).ownBlock) (.slice Ao26 t425.length co26) t425) ∧ (Kd.R k71 71 w' w.heap.size (fun k_ => some k_ ≠ (.slice Ao26 t425.length co26 : Value).ownBlock ∧ some k_ ≠ (.slice Ao40 t457.length co40 : Value).ownBlock) (.slice Ao28 t434.length co28) t434) ∧ (Kd.R (Kd.int .u8) 5 w' w.heap.size (fun k_ => some k_ ≠ (v444 : Value).ownBlock ∧ some k_ ≠ (.slice Ao34 t447.length co34 : Value).ownBlock) (.slice Ao32 t439.length co32) t439) ∧ (Kd.R (Kd.int .u8) 5 w' w.heap.size (fun k_ => some k_ ≠ (.slice Ao32 t439.length co32 : Value).ownBlock ∧ some k_ ≠ (.slice Ao34 t447.length co34 : Value).ownBlock) v444 t443) ∧ (Kd.R (Kd.int .u8) 5 w' w.heap.size (fun k_ => some k_ ≠ (.slice Ao32 t439.length co32 : Value).ownBlock ∧ some k_ ≠ (v444 : Value).ownBlock) (.slice Ao34 t447.length co34) t447) ∧ (Kd.R k71 71 w' w.heap.size (fun k_ => some k_ ≠ (.slice Ao26 t425.length co26 : Value).ownBlock ∧ some k_ ≠ (.slice Ao28 t434.length co28 : Value).ownBlock) (.slice Ao40 t457.length co40) t457) ∧ (w'.heap[gb437]? = some (.cells #[.int .i64 t419, .int .i64 t420, .int .i64 t421, .int .i64 t422, .bool t423, .int .i64 t424, .slice Ao26 t425.length co26] 56 (0, 0))) ∧ (w'.heap[gb438]? = some (.cells #[.int .i64 t428, .int .i64 t429, .int .i64 t430, .int .i64 t431, .bool t432, .int .i64 t433, .slice Ao28 t434.length co28] 56 (0, 0))) ∧ (w'.heap[gb462]? = some (.cells #[.int .i64 t451, .int .i64 t452, .int .i64 t453, .int .i64 t454, .bool t455, .int .i64 t456, .slice Ao40 t457.length co40] 56 (0, 0))) ∧ (w'.heap[gb463]? = some (.cells #[.int .i64 (Go.bits .and .i64 a2 1099511627775), .int .i64 t420, .int .i64 t421, .int .i64 t422, .bool t423, .int .i64 t424, .slice Ao26 t425.length co26] 56 (0, 0))) ∧ (Below w.heap.size w w')) ?_ ?_
                rotate_left
                · intro hJ27_29_33
                  refine join_ (σ := Unit) 7 #[true, true, true, true, true, true, true, true, true, true, true, true, true, true, true, true, true, true, true, true, true, true, true, true, true, true, true, true, true, true, true, true, true, false, false, false, false, false, false, false] (fun s_ => [(82, .string (strOfNums t439)), (84, .string (strOfNums t443)), (85, .bool ((strOfNums t439).toList == (strOfNums t443).toList))]) (fun s_ w' => (w'.cell? ⟨gb462, 0, none⟩ = some (.int .i64 t451) ∧ w'.cell? ⟨gb462, 1, none⟩ = some (.int .i64 t452) ∧ w'.cell? ⟨gb462, 2, none⟩ = some (.int .i64 t453) ∧ w'.cell? ⟨gb462, 3, none⟩ = some (.int .i64 t454) ∧ w'.cell? ⟨gb462, 4, none⟩ = some (.bool t455) ∧ w'.cell? ⟨gb462, 5, none⟩ = some (.int .i64 t456) ∧ w'.cell? ⟨gb462, 6, none⟩ = some (.slice Ao40 t457.length co40) ∧ w'.cell? ⟨gb463, 0, none⟩ = some (.int .i64 (Go.bits .and .i64 a2 1099511627775)) ∧ w'.cell? ⟨gb463, 1, none⟩ = some (.int .i64 t420) ∧ w'.cell? ⟨gb463, 2, none⟩ = some (.int .i64 t421) ∧ w'.cell? ⟨gb463, 3, none⟩ = some (.int .i64 t422) ∧ w'.cell? ⟨gb463, 4, none⟩ = some (.bool t423) ∧ w'.cell? ⟨gb463, 5, none⟩ = some (.int .i64 t424) ∧ w'.cell? ⟨gb463, 6, none⟩ = some (.slice Ao26 t425.length co26) ∧ w'.cell? ⟨gb437, 0, none⟩ = some (.int .i64 t419) ∧ w'.cell? ⟨gb437, 1, none⟩ = some (.int .i64 t420) ∧ w'.cell? ⟨gb437, 2, none⟩ = some (.int .i64 t421) ∧ w'.cell? ⟨gb437, 3, none⟩ = some (.int .i64 t422) ∧ w'.cell? ⟨gb437, 4, none⟩ = some (.bool t423) ∧ w'.cell? ⟨gb437, 5, none⟩ = some (.int .i64 t424) ∧ w'.cell? ⟨gb437, 6, none⟩ = some (.slice Ao26 t425.length co26) ∧ w'.cell? ⟨gb438, 0, none⟩ = some (.int .i64 t428) ∧ w'.cell? ⟨gb438, 1, none⟩ = some (.int .i64 t429) ∧ w'.cell? ⟨gb438, 2, none⟩ = some (.int .i64 t430) ∧ w'.cell? ⟨gb438, 3, none⟩ = some (.int .i64 t431) ∧ w'.cell? ⟨gb438, 4, none⟩ = some (.bool t432) ∧ w'.cell? ⟨gb438, 5, none⟩ = some (.int .i64 t433) ∧ w'.cell? ⟨gb438, 6, none⟩ = some (.slice Ao28 t434.length co28)) ∧ (Kd.R k71 71 w' w.heap.size (fun k_ => some k_ ≠ (.slice Ao28 t434.length co28 : Value).ownBlock ∧ some k_ ≠ (.slice Ao40 t457.length co40 : Value).ownBlock) (.slice Ao26 t425.length co26) t425) ∧ (Kd.R k71 71 w' w.heap.size (fun k_ => some k_ ≠ (.slice Ao26 t425.length co26 : Value).ownBlock ∧ some k_ ≠ (.slice Ao40 t457.length co40 : Value).ownBlock) (.slice Ao28 t434.length co28) t434) ∧ (Kd.R (Kd.int .u8) 5 w' w.heap.size (fun k_ => some k_ ≠ (v444 : Value).ownBlock ∧ some k_ ≠ (.slice Ao34 t447.length co34 : Value).ownBlock) (.slice Ao32 t439.length co32) t439) ∧ (Kd.R (Kd.int .u8) 5 w' w.heap.size (fun k_ => some k_ ≠ (.slice Ao32 t439.length co32 : Value).ownBlock ∧ some k_ ≠ (.slice Ao34 t447.length co34 : Value).ownBlock) v444 t443) ∧ (Kd.R (Kd.int .u8) 5 w' w.heap.size (fun k_ => some k_ ≠ (.slice Ao32 t439.length co32 : Value).ownBlock ∧ some k_ ≠ (v444 : Value).ownBlock) (.slice Ao34 t447.length co34) t447) ∧ (Kd.R k71 71 w' w.heap.size (fun k_ => some k_ ≠ (.slice Ao26 t425.length co26 : Value).ownBlock ∧ some k_ ≠ (.slice Ao28 t434.length co28 : Value).ownBlock) (.slice Ao40 t457.length co40) t457) ∧ (w'.heap[gb437]? = some (.cells #[.int .i64 t419, .int .i64 t420, .int .i64 t421, .int .i64 t422, .bool t423, .int .i64 t424, .slice Ao26 t425.length co26] 56 (0, 0))) ∧ (w'.heap[gb438]? = some (.cells #[.int .i64 t428, .int .i64 t429, .int .i64 t430, .int .i64 t431, .bool t432, .int .i64 t433, .slice Ao28 t434.length co28] 56 (0, 0))) ∧ (w'.heap[gb462]? = some (.cells #[.int .i64 t451, .int .i64 t452, .int .i64 t453, .int .i64 t454, .bool t455, .int .i64 t456, .slice Ao40 t457.length co40] 56 (0, 0))) ∧ (w'.heap[gb463]? = some (.cells #[.int .i64 (Go.bits .and .i64 a2 1099511627775), .int .i64 t420, .int .i64 t421, .int .i64 t422, .bool t423, .int .i64 t424, .slice Ao26 t425.length co26] 56 (0, 0))) ∧ (Below w.heap.size w w')) ?_ ?_
                  rotate_left
                  · intro hJ27_29
                    refine join_ (σ := Unit) 8 #[true, true, true, true, true, true, true, true, true, true, true, true, true, true, true, true, true, true, true, true, true, true, true, true, true, true, true, true, true, false, false, true, true, true, false, false, false, false, false, false] (fun s_ => [(82, .string (strOfNums t439)), (88, .bool t465)]) (fun s_ w' => (w'.cell? ⟨gb462, 0, none⟩ = some (.int .i64 t451) ∧ w'.cell? ⟨gb462, 1, none⟩ = some (.int .i64 t452) ∧ w'.cell? ⟨gb462, 2, none⟩ = some (.int .i64 t453) ∧ w'.cell? ⟨gb462, 3, none⟩ = some (.int .i64 t454) ∧ w'.cell? ⟨gb462, 4, none⟩ = some (.bool t455) ∧ w'.cell? ⟨gb462, 5, none⟩ = some (.int .i64 t456) ∧ w'.cell? ⟨gb462, 6, none⟩ = some (.slice Ao40 t457.length co40) ∧ w'.cell? ⟨gb463, 0, none⟩ = some (.int .i64 (Go.bits .and .i64 a2 1099511627775)) ∧ w'.cell? ⟨gb463, 1, none⟩ = some (.int .i64 t420) ∧ w'.cell? ⟨gb463, 2, none⟩ = some (.int .i64 t421) ∧ w'.cell? ⟨gb463, 3, none⟩ = some (.int .i64 t422) ∧ w'.cell? ⟨gb463, 4, none⟩ = some (.bool t423) ∧ w'.cell? ⟨gb463, 5, none⟩ = some (.int .i64 t424) ∧ w'.cell? ⟨gb463, 6, none⟩ = some (.slice Ao26 t425.length co26) ∧ w'.cell? ⟨gb437, 0, none⟩ = some (.int .i64 t419) ∧ w'.cell? ⟨gb437, 1, none⟩ = some (.int .i64 t420) ∧ w'.cell? ⟨gb437, 2, none⟩ = some (.int .i64 t421) ∧ w'.cell? ⟨gb437, 3, none⟩ = some (.int .i64 t422) ∧ w'.cell? ⟨gb437, 4, none⟩ = some (.bool t423) ∧ w'.cell? ⟨gb437, 5, none⟩ = some (.int .i64 t424) ∧ w'.cell? ⟨gb437, 6, none⟩ = some (.slice Ao26 t425.length co26) ∧ w'.cell? ⟨gb438, 0, none⟩ = some (.int .i64 t428) ∧ w'.cell? ⟨gb438, 1, none⟩ = some (.int .i64 t429) ∧ w'.cell? ⟨gb438, 2, none⟩ = some (.int .i64 t430) ∧ w'.cell? ⟨gb438, 3, none⟩ = some (.int .i64 t431) ∧ w'.cell? ⟨gb438, 4, none⟩ = some (.bool t432) ∧ w'.cell? ⟨gb438, 5, none⟩ = some (.int .i64 t433) ∧ w'.cell? ⟨gb438, 6, none⟩ = some (.slice Ao28 t434.length co28)) ∧ (Kd.R k71 71 w' w.heap.size (fun k_ => some k_ ≠ (.slice Ao28 t434.length co28 : Value).ownBlock ∧ some k_ ≠ (.slice Ao40 t457.length co40 : Value).ownBlock) (.slice Ao26 t425.length co26) t425) ∧ (Kd.R k71 71 w' w.heap.size (fun k_ => some k_ ≠ (.slice Ao26 t425.length co26 : Value).ownBlock ∧ some k_ ≠ (.slice Ao40 t457.length co40 : Value).ownBlock) (.slice Ao28 t434.length co28) t434) ∧ (Kd.R (Kd.int .u8) 5 w' w.heap.size (fun k_ => some k_ ≠ (v444 : Value).ownBlock ∧ some k_ ≠ (.slice Ao34 t447.length co34 : Value).ownBlock) (.slice Ao32 t439.length co32) t439) ∧ (Kd.R (Kd.int .u8) 5 w' w.heap.size (fun k_ => some k_ ≠ (.slice Ao32 t439.length co32 : Value).ownBlock ∧ some k_ ≠ (.slice Ao34 t447.length co34 : Value).ownBlock) v444 t443) ∧ (Kd.R (Kd.int .u8) 5 w' w.heap.size (fun k_ => some k_ ≠ (.slice Ao32 t439.length co32 : Value).ownBlock ∧ some k_ ≠ (v444 : Value).ownBlock) (.slice Ao34 t447.length co34) t447) ∧ (Kd.R k71 71 w' w.heap.size (fun k_ => some k_ ≠ (.slice Ao26 t425.length co26 : Value).ownBlock ∧ some k_ ≠ (.slice Ao28 t434.length co28 : Value).ownBlock) (.slice Ao40 t457.length co40) t457) ∧ (w'.heap[gb437]? = some (.cells #[.int .i64 t419, .int .i64 t420, .int .i64 t421, .int .i64 t422, .bool t423, .int .i64 t424, .slice Ao26 t425.length co26] 56 (0, 0))) ∧ (w'.heap[gb438]? = some (.cells #[.int .i64 t428, .int .i64 t429, .int .i64 t430, .int .i64 t431, .bool t432, .int .i64 t433, .slice Ao28 t434.length co28] 56 (0, 0))) ∧ (w'.heap[gb462]? = some (.cells #[.int .i64 t451, .int .i64 t452, .int .i64 t453, .int .i64 t454, .bool t455, .int .i64 t456, .slice Ao40 t457.length co40] 56 (0, 0))) ∧ (w'.heap[gb463]? = some (.cells #[.int .i64 (Go.bits .and .i64 a2 1099511627775), .int .i64 t420, .int .i64 t421, .int .i64 t422, .bool t423, .int .i64 t424, .slice Ao26 t425.length co26] 56 (0, 0))) ∧ (Below w.heap.size w w')) ?_ ?_
                    rotate_left
                    · intro hJ27_33
                      refine join_ (σ := Unit) 8 #[true, true, true, true, true, true, true, true, true, true, true, true, true, true, true, true, true, true, true, true, true, true, true, true, true, true, true, false, true, true, false, true, true, true, false, false, false, false, false, false] (fun s_ => [(84, .string (strOfNums t443)), (88, .bool t465)]) (fun s_ w' => (w'.cell? ⟨gb462, 0, none⟩ = some (.int .i64 t451) ∧ w'.cell? ⟨gb462, 1, none⟩ = some (.int .i64 t452) ∧ w'.cell? ⟨gb462, 2, none⟩ = some (.int .i64 t453) ∧ w'.cell? ⟨gb462, 3, none⟩ = some (.int .i64 t454) ∧ w'.cell? ⟨gb462, 4, none⟩ = some (.bool t455) ∧ w'.cell? ⟨gb462, 5, none⟩ = some (.int .i64 t456) ∧ w'.cell? ⟨gb462, 6, none⟩ = some (.slice Ao40 t457.length co40) ∧ w'.cell? ⟨gb463, 0, none⟩ = some (.int .i64 (Go.bits .and .i64 a2 1099511627775)) ∧ w'.cell? ⟨gb463, 1, none⟩ = some (.int .i64 t420) ∧ w'.cell? ⟨gb463, 2, none⟩ = some (.int .i64 t421) ∧ w'.cell? ⟨gb463, 3, none⟩ = some (.int .i64 t422) ∧ w'.cell? ⟨gb463, 4, none⟩ = some (.bool t423) ∧ w'.cell? ⟨gb463, 5, none⟩ = some (.int .i64 t424) ∧ w'.cell? ⟨gb463, 6, none⟩ = some (.slice Ao26 t425.length co26) ∧ w'.cell? ⟨gb437, 0, none⟩ = some (.int .i64 t419) ∧ w'.cell? ⟨gb437, 1, none⟩ = some (.int .i64 t420) ∧ w'.cell? ⟨gb437, 2, none⟩ = some (.int .i64 t421) ∧ w'.cell? ⟨gb437, 3, none⟩ = some (.int .i64 t422) ∧ w'.cell? ⟨gb437, 4, none⟩ = some (.bool t423) ∧ w'.cell? ⟨gb437, 5, none⟩ = some (.int .i64 t424) ∧ w'.cell? ⟨gb437, 6, none⟩ = some (.slice Ao26 t425.length co26) ∧ w'.cell? ⟨gb438, 0, none⟩ = some (.int .i64 t428) ∧ w'.cell? ⟨gb438, 1, none⟩ = some (.int .i64 t429) ∧ w'.cell? ⟨gb438, 2, none⟩ = some (.int .i64 t430) ∧ w'.cell? ⟨gb438, 3, none⟩ = some (.int .i64 t431) ∧ w'.cell? ⟨gb438, 4, none⟩ = some (.bool t432) ∧ w'.cell? ⟨gb438, 5, none⟩ = some (.int .i64 t433) ∧ w'.cell? ⟨gb438, 6, none⟩ = some (.slice Ao28 t434.length co28)) ∧ (Kd.R k71 71 w' w.heap.size (fun k_ => some k_ ≠ (.slice Ao28 t434.length co28 : Value).ownBlock ∧ some k_ ≠ (.slice Ao40 t457.length co40 : Value).ownBlock) (.slice Ao26 t425.length co26) t425) ∧ (Kd.R k71 71 w' w.heap.size (fun k_ => some k_ ≠ (.slice Ao26 t425.length co26 : Value).ownBlock ∧ some k_ ≠ (.slice Ao40 t457.length co40 : Value).ownBlock) (.slice Ao28 t434.length co28) t434) ∧ (Kd.R (Kd.int .u8) 5 w' w.heap.size (fun k_ => some k_ ≠ (v444 : Value).ownBlock ∧ some k_ ≠ (.slice Ao34 t447.length co34 : Value).ownBlock) (.slice Ao32 t439.length co32) t439) ∧ (Kd.R (Kd.int .u8) 5 w' w.heap.size (fun k_ => some k_ ≠ (.slice Ao32 t439.length co32 : Value).ownBlock ∧ some k_ ≠ (.slice Ao34 t447.length co34 : Value).ownBlock) v444 t443) ∧ (Kd.R (Kd.int .u8) 5 w' w.heap.size (fun k_ => some k_ ≠ (.slice Ao32 t439.length co32 : Value).ownBlock ∧ some k_ ≠ (v444 : Value).ownBlock) (.slice Ao34 t447.length co34) t447) ∧ (Kd.R k71 71 w' w.heap.size (fun k_ => some k_ ≠ (.slice Ao26 t425.length co26 : Value).ownBlock ∧ some k_ ≠ (.slice Ao28 t434.length co28 : Value).ownBlock) (.slice Ao40 t457.length co40) t457) ∧ (w'.heap[gb437]? = some (.cells #[.int .i64 t419, .int .i64 t420, .int .i64 t421, .int .i64 t422, .bool t423, .int .i64 t424, .slice Ao26 t425.length co26] 56 (0, 0))) ∧ (w'.heap[gb438]? = some (.cells #[.int .i64 t428, .int .i64 t429, .int .i64 t430, .int .i64 t431, .bool t432, .int .i64 t433, .slice Ao28 t434.length co28] 56 (0, 0))) ∧ (w'.heap[gb462]? = some (.cells #[.int .i64 t451, .int .i64 t452, .int .i64 t453, .int .i64 t454, .bool t455, .int .i64 t456, .slice Ao40 t457.length co40] 56 (0, 0))) ∧ (w'.heap[gb463]? = some (.cells #[.int .i64 (Go.bits .and .i64 a2 1099511627775), .int .i64 t420, .int .i64 t421, .int .i64 t422, .bool t423, .int .i64 t424, .slice Ao26 t425.length co26] 56 (0, 0))) ∧ (Below w.heap.size w w')) ?_ ?_
                      rotate_left
                      · intro hJ29_33
                        refine join_ (σ := Unit) 9 #[true, true, true, true, true, true, true, true, true, true, true, true, true, true, true, true, true, true, true, true, true, true, true, true, true, true, true, true, true, false, false, true, true, false, false, false, false, false, false, false] (fun s_ => [(82, .string (strOfNums t439))]) (fun s_ w' => (w'.cell? ⟨gb462, 0, none⟩ = some (.int .i64 t451) ∧ w'.cell? ⟨gb462, 1, none⟩ = some (.int .i64 t452) ∧ w'.cell? ⟨gb462, 2, none⟩ = some (.int .i64 t453) ∧ w'.cell? ⟨gb462, 3, none⟩ = some (.int .i64 t454) ∧ w'.cell? ⟨gb462, 4, none⟩ = some (.bool t455) ∧ w'.cell? ⟨gb462, 5, none⟩ = some (.int .i64 t456) ∧ w'.cell? ⟨gb462, 6, none⟩ = some (.slice Ao40 t457.length co40) ∧ w'.cell? ⟨gb463, 0, none⟩ = some (.int .i64 (Go.bits .and .i64 a2 1099511627775)) ∧ w'.cell? ⟨gb463, 1, none⟩ = some (.int .i64 t420) ∧ w'.cell? ⟨gb463, 2, none⟩ = some (.int .i64 t421) ∧ w'.cell? ⟨gb463, 3, none⟩ = some (.int .i64 t422) ∧ w'.cell? ⟨gb463, 4, none⟩ = some (.bool t423) ∧ w'.cell? ⟨gb463, 5, none⟩ = some (.int .i64 t424) ∧ w'.cell? ⟨gb463, 6, none⟩ = some (.slice Ao26 t425.length co26) ∧ w'.cell? ⟨gb437, 0, none⟩ = some (.int .i64 t419) ∧ w'.cell? ⟨gb437, 1, none⟩ = some (.int .i64 t420) ∧ w'.cell? ⟨gb437, 2, none⟩ = some (.int .i64 t421) ∧ w'.cell? ⟨gb437, 3, none⟩ = some (.int .i64 t422) ∧ w'.cell? ⟨gb437, 4, none⟩ = some (.bool t423) ∧ w'.cell? ⟨gb437, 5, none⟩ = some (.int .i64 t424) ∧ w'.cell? ⟨gb437, 6, none⟩ = some (.slice Ao26 t425.length co26) ∧ w'.cell? ⟨gb438, 0, none⟩ = some (.int .i64 t428) ∧ w'.cell? ⟨gb438, 1, none⟩ = some (.int .i64 t429) ∧ w'.cell? ⟨gb438, 2, none⟩ = some (.int .i64 t430) ∧ w'.cell? ⟨gb438, 3, none⟩ = some (.int .i64 t431) ∧ w'.cell? ⟨gb438, 4, none⟩ = some (.bool t432) ∧ w'.cell? ⟨gb438, 5, none⟩ = some (.int .i64 t433) ∧ w'.cell? ⟨gb438, 6, none⟩ = some (.slice Ao28 t434.length co28)) ∧ (Kd.R k71 71 w' w.heap.size (fun k_ => some k_ ≠ (.slice Ao28 t434.length co28 : Value).ownBlock ∧ some k_ ≠ (.slice Ao40 t457.length co40 : Value).ownBlock) (.slice Ao26 t425.length co26) t425) ∧ (Kd.R k71 71 w' w.heap.size (fun k_ => some k_ ≠ (.slice Ao26 t425.length co26 : Value).ownBlock ∧ some k_ ≠ (.slice Ao40 t457.length co40 : Value).ownBlock) (.slice Ao28 t434.length co28) t434) ∧ (Kd.R (Kd.int .u8) 5 w' w.heap.size (fun k_ => some k_ ≠ (v444 : Value).ownBlock ∧ some k_ ≠ (.slice Ao34 t447.length co34 : Value).ownBlock) (.slice Ao32 t439.length co32) t439) ∧ (Kd.R (Kd.int .u8) 5 w' w.heap.size (fun k_ => some k_ ≠ (.slice Ao32 t439.length co32 : Value).ownBlock ∧ some k_ ≠ (.slice Ao34 t447.length co34 : Value).ownBlock) v444 t443) ∧ (Kd.R (Kd.int .u8) 5 w' w.heap.size (fun k_ => some k_ ≠ (.slice Ao32 t439.length co32 : Value).ownBlock ∧ some k_ ≠ (v444 : Value).ownBlock) (.slice Ao34 t447.length co34) t447) ∧ (Kd.R k71 71 w' w.heap.size (fun k_ => some k_ ≠ (.slice Ao26 t425.length co26 : Value).ownBlock ∧ some k_ ≠ (.slice Ao28 t434.length co28 : Value).ownBlock) (.slice Ao40 t457.length co40) t457) ∧ (w'.heap[gb437]? = some (.cells #[.int .i64 t419, .int .i64 t420, .int .i64 t421, .int .i64 t422, .bool t423, .int .i64 t424, .slice Ao26 t425.length co26] 56 (0, 0))) ∧ (w'.heap[gb438]? = some (.cells #[.int .i64 t428, .int .i64 t429, .int .i64 t430, .int .i64 t431, .bool t432, .int .i64 t433, .slice Ao28 t434.length co28] 56 (0, 0))) ∧ (w'.heap[gb462]? = some (.cells #[.int .i64 t451, .int .i64 t452, .int .i64 t453, .int .i64 t454, .bool t455, .int .i64 t456, .slice Ao40 t457.length co40] 56 (0, 0))) ∧ (w'.heap[gb463]? = some (.cells #[.int .i64 (Go.bits .and .i64 a2 1099511627775), .int .i64 t420, .int .i64 t421, .int .i64 t422, .bool t423, .int .i64 t424, .slice Ao26 t425.length co26] 56 (0, 0))) ∧ (Below w.heap.size w w')) ?_ ?_
                        rotate_left
                        · intro hJ27
                          refine join_ (σ := Unit) 9 #[true, true, true, true, true, true, true, true, true, true, true, true, true, true, true, true, true, true, true, true, true, true, true, true, true, true, true, false, true, true, false, true, true, false, false, false, false, false, false, false] (fun s_ => [(84, .string (strOfNums t443))]) (fun s_ w' => (w'.cell? ⟨gb462, 0, none⟩ = some (.int .i64 t451) ∧ w'.cell? ⟨gb462, 1, none⟩ = some (.int .i64 t452) ∧ w'.cell? ⟨gb462, 2, none⟩ = some (.int .i64 t453) ∧ w'.cell? ⟨gb462, 3, none⟩ = some (.int .i64 t454) ∧ w'.cell? ⟨gb462, 4, none⟩ = some (.bool t455) ∧ w'.cell? ⟨gb462, 5, none⟩ = some (.int .i64 t456) ∧ w'.cell? ⟨gb462, 6, none⟩ = some (.slice Ao40 t457.length co40) ∧ w'.cell? ⟨gb463, 0, none⟩ = some (.int .i64 (Go.bits .and .i64 a2 1099511627775)) ∧ w'.cell? ⟨gb463, 1, none⟩ = some (.int .i64 t420) ∧ w'.cell? ⟨gb463, 2, none⟩ = some (.int .i64 t421) ∧ w'.cell? ⟨gb463, 3, none⟩ = some (.int .i64 t422) ∧ w'.cell? ⟨gb463, 4, none⟩ = some (.bool t423) ∧ w'.cell? ⟨gb463, 5, none⟩ = some (.int .i64 t424) ∧ w'.cell? ⟨gb463, 6, none⟩ = some (.slice Ao26 t425.length co26) ∧ w'.cell? ⟨gb437, 0, none⟩ = some (.int .i64 t419) ∧ w'.cell? ⟨gb437, 1, none⟩ = some (.int .i64 t420) ∧ w'.cell? ⟨gb437, 2, none⟩ = some (.int .i64 t421) ∧ w'.cell? ⟨gb437, 3, none⟩ = some (.int .i64 t422) ∧ w'.cell? ⟨gb437, 4, none⟩ = some (.bool t423) ∧ w'.cell? ⟨gb437, 5, none⟩ = some (.int .i64 t424) ∧ w'.cell? ⟨gb437, 6, none⟩ = some (.slice Ao26 t425.length co26) ∧ w'.cell? ⟨gb438, 0, none⟩ = some (.int .i64 t428) ∧ w'.cell? ⟨gb438, 1, none⟩ = some (.int .i64 t429) ∧ w'.cell? ⟨gb438, 2, none⟩ = some (.int .i64 t430) ∧ w'.cell? ⟨gb438, 3, none⟩ = some (.int .i64 t431) ∧ w'.cell? ⟨gb438, 4, none⟩ = some (.bool t432) ∧ w'.cell? ⟨gb438, 5, none⟩ = some (.int .i64 t433) ∧ w'.cell? ⟨gb438, 6, none⟩ = some (.slice Ao28 t434.length co28)) ∧ (Kd.R k71 71 w' w.heap.size (fun k_ => some k_ ≠ (.slice Ao28 t434.length co28 : Value).ownBlock ∧ some k_ ≠ (.slice Ao40 t457.length co40 : Value).ownBlock) (.slice Ao26 t425.length co26) t425) ∧ (Kd.R k71 71 w' w.heap.size (fun k_ => some k_ ≠ (.slice Ao26 t425.length co26 : Value).ownBlock ∧ some k_ ≠ (.slice Ao40 t457.length co40 : Value).ownBlock) (.slice Ao28 t434.length co28) t434) ∧ (Kd.R (Kd.int .u8) 5 w' w.heap.size (fun k_ => some k_ ≠ (v444 : Value).ownBlock ∧ some k_ ≠ (.slice Ao34 t447.length co34 : Value).ownBlock) (.slice Ao32 t439.length co32) t439) ∧ (Kd.R (Kd.int .u8) 5 w' w.heap.size (fun k_ => some k_ ≠ (.slice Ao32 t439.length co32 : Value).ownBlock ∧ some k_ ≠ (.slice Ao34 t447.length co34 : Value).ownBlock) v444 t443) ∧ (Kd.R (Kd.int .u8) 5 w' w.heap.size (fun k_ => some k_ ≠ (.slice Ao32 t439.length co32 : Value).ownBlock ∧ some k_ ≠ (v444 : Value).ownBlock) (.slice Ao34 t447.length co34) t447) ∧ (Kd.R k71 71 w' w.heap.size (fun k_ => some k_ ≠ (.slice Ao26 t425.length co26 : Value).ownBlock ∧ some k_ ≠ (.slice Ao28 t434.length co28 : Value).ownBlock) (.slice Ao40 t457.length co40) t457) ∧ (w'.heap[gb437]? = some (.cells #[.int .i64 t419, .int .i64 t420, .int .i64 t421, .int .i64 t422, .bool t423, .int .i64 t424, .slice Ao26 t425.length co26] 56 (0, 0))) ∧ (w'.heap[gb438]? = some (.cells #[.int .i64 t428, .int .i64 t429, .int .i64 t430, .int .i64 t431, .bool t432, .int .i64 t433, .slice Ao28 t434.length co28] 56 (0, 0))) ∧ (w'.heap[gb462]? = some (.cells #[.int .i64 t451, .int .i64 t452, .int .i64 t453, .int .i64 t454, .bool t455, .int .i64 t456, .slice Ao40 t457.length co40] 56 (0, 0))) ∧ (w'.heap[gb463]? = some (.cells #[.int .i64 (Go.bits .and .i64 a2 1099511627775), .int .i64 t420, .int .i64 t421, .int .i64 t422, .bool t423, .int .i64 t424, .slice Ao26 t425.length co26] 56 (0, 0))) ∧ (Below w.heap.size w w')) ?_ ?_
                          rotate_left
                          · intro hJ29
                            refine join_ (σ := Unit) 9 #[true, true, true, true, true, true, true, true, true, true, true, true, true, true, true, true, true, true, true, true, true, true, true, true, true, true, true, false, true, false, false, true, true, true, false, false, false, false, false, false] (fun s_ => [(88, .bool t465)]) (fun s_ w' => (w'.cell? ⟨gb462, 0, none⟩ = some (.int .i64 t451) ∧ w'.cell? ⟨gb462, 1, none⟩ = some (.int .i64 t452) ∧ w'.cell? ⟨gb462, 2, none⟩ = some (.int .i64 t453) ∧ w'.cell? ⟨gb462, 3, none⟩ = some (.int .i64 t454) ∧ w'.cell? ⟨gb462, 4, none⟩ = some (.bool t455) ∧ w'.cell? ⟨gb462, 5, none⟩ = some (.int .i64 t456) ∧ w'.cell? ⟨gb462, 6, none⟩ = some (.slice Ao40 t457.length co40) ∧ w'.cell? ⟨gb463, 0, none⟩ = some (.int .i64 (Go.bits .and .i64 a2 1099511627775)) ∧ w'.cell? ⟨gb463, 1, none⟩ = some (.int .i64 t420) ∧ w'.cell? ⟨gb463, 2, none⟩ = some (.int .i64 t421) ∧ w'.cell? ⟨gb463, 3, none⟩ = some (.int .i64 t422) ∧ w'.cell? ⟨gb463, 4, none⟩ = some (.bool t423) ∧ w'.cell? ⟨gb463, 5, none⟩ = some (.int .i64 t424) ∧ w'.cell? ⟨gb463, 6, none⟩ = some (.slice Ao26 t425.length co26) ∧ w'.cell? ⟨gb437, 0, none⟩ = some (.int .i64 t419) ∧ w'.cell? ⟨gb437, 1, none⟩ = some (.int .i64 t420) ∧ w'.cell? ⟨gb437, 2, none⟩ = some (.int .i64 t421) ∧ w'.cell? ⟨gb437, 3, none⟩ = some (.int .i64 t422) ∧ w'.cell? ⟨gb437, 4, none⟩ = some (.bool t423) ∧ w'.cell? ⟨gb437, 5, none⟩ = some (.int .i64 t424) ∧ w'.cell? ⟨gb437, 6, none⟩ = some (.slice Ao26 t425.length co26) ∧ w'.cell? ⟨gb438, 0, none⟩ = some (.int .i64 t428) ∧ w'.cell? ⟨gb438, 1, none⟩ = some (.int .i64 t429) ∧ w'.cell? ⟨gb438, 2, none⟩ = some (.int .i64 t430) ∧ w'.cell? ⟨gb438, 3, none⟩ = some (.int .i64 t431) ∧ w'.cell? ⟨gb438, 4, none⟩ = some (.bool t432) ∧ w'.cell? ⟨gb438, 5, none⟩ = some (.int .i64 t433) ∧ w'.cell? ⟨gb438, 6, none⟩ = some (.slice Ao28 t434.length co28)) ∧ (Kd.R k71 71 w' w.heap.size (fun k_ => some k_ ≠ (.slice Ao28 t434.length co28 : Value).ownBlock ∧ some k_ ≠ (.slice Ao40 t457.length co40 : Value).ownBlock) (.slice Ao26 t425.length co26) t425) ∧ (Kd.R k71 71 w' w.heap.size (fun k_ => some k_ ≠ (.slice Ao26 t425.length co26 : Value).ownBlock ∧ some k_ ≠ (.slice Ao40 t457.length co40 : Value).ownBlock) (.slice Ao28 t434.length co28) t434) ∧ (Kd.R (Kd.int .u8) 5 w' w.heap.size (fun k_ => some k_ ≠ (v444 : Value).ownBlock ∧ some k_ ≠ (.slice Ao34 t447.length co34 : Value).ownBlock) (.slice Ao32 t439.length co32) t439) ∧ (Kd.R (Kd.int .u8) 5 w' w.heap.size (fun k_ => some k_ ≠ (.slice Ao32 t439.length co32 : Value).ownBlock ∧ some k_ ≠ (.slice Ao34 t447.length co34 : Value).ownBlock) v444 t443) ∧ (Kd.R (Kd.int .u8) 5 w' w.heap.size (fun k_ => some k_ ≠ (.slice Ao32 t439.length co32 : Value).ownBlock ∧ some k_ ≠ (v444 : Value).ownBlock) (.slice Ao34 t447.length co34) t447) ∧ (Kd.R k71 71 w' w.heap.size (fun k_ => some k_ ≠ (.slice Ao26 t425.length co26 : Value).ownBlock ∧ some k_ ≠ (.slice Ao28 t434.length co28 : Value).ownBlock) (.slice Ao40 t457.length co40) t457) ∧ (w'.heap[gb437]? = some (.cells #[.int .i64 t419, .int .i64 t420, .int .i64 t421, .int .i64 t422, .bool t423, .int .i64 t424, .slice Ao26 t425.length co26] 56 (0, 0))) ∧ (w'.heap[gb438]? = some (.cells #[.int .i64 t428, .int .i64 t429, .int .i64 t430, .int .i64 t431, .bool t432, .int .i64 t433, .slice Ao28 t434.length co28] 56 (0, 0))) ∧ (w'.heap[gb462]? = some (.cells #[.int .i64 t451, .int .i64 t452, .int .i64 t453, .int .i64 t454, .bool t455, .int .i64 t456, .slice Ao40 t457.length co40] 56 (0, 0))) ∧ (w'.heap[gb463]? = some (.cells #[.int .i64 (Go.bits .and .i64 a2 1099511627775), .int .i64 t420, .int .i64 t421, .int .i64 t422, .bool t423, .int .i64 t424, .slice Ao26 t425.length co26] 56 (0, 0))) ∧ (Below w.heap.size w w')) ?_ ?_
                            rotate_left
                            · intro hJ33
                              refine three_ (i := 27) (j := 29) (k := 33) (Ni := some 82) (Nj := some 84) (Nk := some 88) #[true, true, true, true, true, true, true, true, true, true, true, true, true, true, true, true, true, true, true, true, true, true, true, true, true, true, true, true, true, false, false, true, true, false, false, false, false, false, false, false] #[true, true, true, true, true, true, true, true, true, true, true, true, true, true, true, true, true, true, true, true, true, true, true, true, true, true, true, false, true, true, false, true, true, false, false, false, false, false, false, false] #[true, true, true, true, true, true, true, true, true, true, true, true, true, true, true, true, true, true, true, true, true, true, true, true, true, true, true, false, true, false, false, true, true, true, false, false, false, false, false, false] rfl rfl rfl rfl rfl rfl (three_of HT_.out (by kernel_rfl)) (by decide) (by decide) (by decide) (fun K hK => ?_) (fun K hK => ?_) (fun K hK => ?_)
                              · skip
                                have hcv50 := own_string (P := Try.prog) Try.underlying34 Try.underlying5 Try.underlying9 (Kd.own_of_R HO441.out)
                                refine value_ (w1 := ?_) (v := ?_) (by rfl) rfl ?_ ?_
                                rotate_left 2
                                · go_simp
                                  constructor
                                  · rfl
                                  · rfl
                                clear hcv50
                                refine hK.out _ _ ⟨(blk_cell BK462.out 0).trans rfl, (blk_cell BK462.out 1).trans rfl, (blk_cell BK462.out 2).trans rfl, (blk_cell BK462.out 3).trans rfl, (blk_cell BK462.out 4).trans rfl, (blk_cell BK462.out 5).trans rfl, (blk_cell BK462.out 6).trans rfl, (blk_cell BK463.out 0).trans rfl, (blk_cell BK463.out 1).trans rfl, (blk_cell BK463.out 2).trans rfl, (blk_cell BK463.out 3).trans rfl, (blk_cell BK463.out 4).trans rfl, (blk_cell BK463.out 5).trans rfl, (blk_cell BK463.out 6).trans rfl, (blk_cell BK437.out 0).trans rfl, (blk_cell BK437.out 1).trans rfl, (blk_cell BK437.out 2).trans rfl, (blk_cell BK437.out 3).trans rfl, (blk_cell BK437.out 4).trans rfl, (blk_cell BK437.out 5).trans rfl, (blk_cell BK437.out 6).trans rfl, (blk_cell BK438.out 0).trans rfl, (blk_cell BK438.out 1).trans rfl, (blk_cell BK438.out 2).trans rfl, (blk_cell BK438.out 3).trans rfl, (blk_cell BK438.out 4).trans rfl, (blk_cell BK438.out 5).trans rfl, (blk_cell BK438.out 6).trans rfl⟩ (fun hHeld => ?_)
                                clear hK K
                                refine norm_ (a' := ?_) ?_ ?_
                                rotate_left
                                · show Act.put _ (some 82) _ = _
                                  simp only [Act.put, List.setIfInBounds_toArray, List.set_cons_zero, List.set_cons_succ, i64_w, i32_w]
                                  rfl
                                exact norm_ (by first | (simp only [putAll, Act.put, List.setIfInBounds_toArray, List.set_cons_zero, List.set_cons_succ]; done) | (simp only [putAll, Act.put, List.setIfInBounds_toArray, List.set_cons_zero, List.set_cons_succ]; rfl)) (hJ27 () _ ⟨hHeld, (rgo_ HO427), (rgo_ HO436), (rgo_ HO441), (rgo_ HO445), (rgo_ HO450), (rgo_ HO459), (blk_ BK437), (blk_ BK438), (blk_ BK462), (blk_ BK463), (bel_ HB)⟩)
                              · skip
                                have hcv50 := own_string (P := Try.prog) Try.underlying34 Try.underlying5 Try.underlying9 (Kd.own_of_R HO445.out)
                                refine value_ (w1 := ?_) (v := ?_) (by rfl) rfl ?_ ?_
                                rotate_left 2
                                · go_simp
                                  constructor
                                  · rfl
                                  · rfl
                                clear hcv50
                                refine hK.out _ _ ⟨(blk_cell BK462.out 0).trans rfl, (blk_cell BK462.out 1).trans rfl, (blk_cell BK462.out 2).trans rfl, (blk_cell BK462.out 3).trans rfl, (blk_cell BK462.out 4).trans rfl, (blk_cell BK462.out 5).trans rfl, (blk_cell BK462.out 6).trans rfl, (blk_cell BK463.out 0).trans rfl, (blk_cell BK463.out 1).trans rfl, (blk_cell BK463.out 2).trans rfl, (blk_cell BK463.out 3).trans rfl, (blk_cell BK463.out 4).trans rfl, (blk_cell BK463.out 5).trans rfl, (blk_cell BK463.out 6).trans rfl, (blk_cell BK437.out 0).trans rfl, (blk_cell BK437.out 1).trans rfl, (blk_cell BK437.out 2).trans rfl, (blk_cell BK437.out 3).trans rfl, (blk_cell BK437.out 4).trans rfl, (blk_cell BK437.out 5).trans rfl, (blk_cell BK437.out 6).trans rfl, (blk_cell BK438.out 0).trans rfl, (blk_cell BK438.out 1).trans rfl, (blk_cell BK438.out 2).trans rfl, (blk_cell BK438.out 3).trans rfl, (blk_cell BK438.out 4).trans rfl, (blk_cell BK438.out 5).trans rfl, (blk_cell BK438.out 6).trans rfl⟩ (fun hHeld => ?_)
                                clear hK K
                                refine norm_ (a' := ?_) ?_ ?_
                                rotate_left
                                · show Act.put _ (some 84) _ = _
                                  simp only [Act.put, List.setIfInBounds_toArray, List.set_cons_zero, List.set_cons_succ, i64_w, i32_w]
                                  rfl
                                exact norm_ (by first | (simp only [putAll, Act.put, List.setIfInBounds_toArray, List.set_cons_zero, List.set_cons_succ]; done) | (simp only [putAll, Act.put, List.setIfInBounds_toArray, List.set_cons_zero, List.set_cons_succ]; rfl)) (hJ29 () _ ⟨hHeld, (rgo_ HO427), (rgo_ HO436), (rgo_ HO441), (rgo_ HO445), (rgo_ HO450), (rgo_ HO459), (blk_ BK437), (blk_ BK438), (blk_ BK462), (blk_ BK463), (bel_ HB)⟩)
                              · skip
                                refine goes_ Try.func48 (by kernel_rfl) rfl #[.agg #[.int .i64 t419, .int .i64 t420, .int .i64 t421, .int .i64 t422, .bool t423, .int .i64 t424, .slice Ao26 t425.length co26], .agg #[.int .i64 t428, .int .i64 t429, .int .i64 t430, .int .i64 t431, .bool t432, .int .i64 t433, .slice Ao28 t434.length co28]] (by rfl) rfl rfl (by (try simp only [List.map_toArray, List.map_cons, List.map_nil]); first | done | rfl | (simp only [List.length_drop, List.length_take]; rfl)) ?_
                                with_reducible refine (bordereauref6_Same.calls k t419 t420 t421 t422 t423 t424 _ _ t425 t428 t429 t430 t431 t432 t433 _ _ t434 t465 _ ?side1 ?side2 ?side3 ?side4 A17.out).mono ?_
                                (case side1 => exact cgo_ ((Kd.R_reads' HO427.out).2.2))
                                (case side2 => exact (Kd.R_reads' HO427.out).2.1)
                                (case side3 => exact cgo_ ((Kd.R_reads' HO436.out).2.2))
                                (case side4 => exact (Kd.R_reads' HO436.out).2.1)
                                rintro e w50 ⟨rfl, hb⟩
                                refine ⟨_, rfl, ?_⟩
                                have n0_ := Aside0.mk (Kd.R_below (rgo_ HO427) hb)
                                have n1_ := Aside0.mk (Kd.R_below (rgo_ HO436) hb)
                                have n2_ := Aside0.mk (Kd.R_below (rgo_ HO441) hb)
                                have n3_ := Aside0.mk (Kd.R_below (rgo_ HO445) hb)
                                have n4_ := Aside0.mk (Kd.R_below (rgo_ HO450) hb)
                                have n5_ := Aside0.mk (Kd.R_below (rgo_ HO459) hb)
                                have n6_ := Aside0.mk (blk_below (g := gb437) (o := .cells #[.int .i64 t419, .int .i64 t420, .int .i64 t421, .int .i64 t422, .bool t423, .int .i64 t424, .slice Ao26 t425.length co26] 56 (0, 0)) (blk_ BK437) hb)
                                have n7_ := Aside0.mk (blk_below (g := gb438) (o := .cells #[.int .i64 t428, .int .i64 t429, .int .i64 t430, .int .i64 t431, .bool t432, .int .i64 t433, .slice Ao28 t434.length co28] 56 (0, 0)) (blk_ BK438) hb)
                                have n8_ := Aside0.mk (blk_below (g := gb462) (o := .cells #[.int .i64 t451, .int .i64 t452, .int .i64 t453, .int .i64 t454, .bool t455, .int .i64 t456, .slice Ao40 t457.length co40] 56 (0, 0)) (blk_ BK462) hb)
                                have n9_ := Aside0.mk (blk_below (g := gb463) (o := .cells #[.int .i64 (Go.bits .and .i64 a2 1099511627775), .int .i64 t420, .int .i64 t421, .int .i64 t422, .bool t423, .int .i64 t424, .slice Ao26 t425.length co26] 56 (0, 0)) (blk_ BK463) hb)
                                have n10_ := Aside0.mk (below_step (bel_ HB) hb)
                                clear HO427
                                clear HO436
                                clear HO441
                                clear HO445
                                clear HO450
                                clear HO459
                                clear BK437
                                clear BK438
                                clear BK462
                                clear BK463
                                clear HB
                                have HO427 := n0_
                                have HO436 := n1_
                                have HO441 := n2_
                                have HO445 := n3_
                                have HO450 := n4_
                                have HO459 := n5_
                                have BK437 := n6_
                                have BK438 := n7_
                                have BK462 := n8_
                                have BK463 := n9_
                                have HB := n10_
                                clear n0_ n1_ n2_ n3_ n4_ n5_ n6_ n7_ n8_ n9_ n10_
                                (try clear hb)
                                (try clear hb2)
                                (try clear hk)
                                (try clear hi)
                                refine hK.out _ _ ⟨(blk_cell BK462.out 0).trans rfl, (blk_cell BK462.out 1).trans rfl, (blk_cell BK462.out 2).trans rfl, (blk_cell BK462.out 3).trans rfl, (blk_cell BK462.out 4).trans rfl, (blk_cell BK462.out 5).trans rfl, (blk_cell BK462.out 6).trans rfl, (blk_cell BK463.out 0).trans rfl, (blk_cell BK463.out 1).trans rfl, (blk_cell BK463.out 2).trans rfl, (blk_cell BK463.out 3).trans rfl, (blk_cell BK463.out 4).trans rfl, (blk_cell BK463.out 5).trans rfl, (blk_cell BK463.out 6).trans rfl, (blk_cell BK437.out 0).trans rfl, (blk_cell BK437.out 1).trans rfl, (blk_cell BK437.out 2).trans rfl, (blk_cell BK437.out 3).trans rfl, (blk_cell BK437.out 4).trans rfl, (blk_cell BK437.out 5).trans rfl, (blk_cell BK437.out 6).trans rfl, (blk_cell BK438.out 0).trans rfl, (blk_cell BK438.out 1).trans rfl, (blk_cell BK438.out 2).trans rfl, (blk_cell BK438.out 3).trans rfl, (blk_cell BK438.out 4).trans rfl, (blk_cell BK438.out 5).trans rfl, (blk_cell BK438.out 6).trans rfl⟩ (fun hHeld => ?_)
                                clear hK K
                                refine norm_ (a' := ?_) ?_ ?_
                                rotate_left
                                · show Act.put _ (some 88) _ = _
                                  simp only [Act.put, List.setIfInBounds_toArray, List.set_cons_zero, List.set_cons_succ, i64_w, i32_w]
                                  rfl
                                exact norm_ (by first | (simp only [putAll, Act.put, List.setIfInBounds_toArray, List.set_cons_zero, List.set_cons_succ]; done) | (simp only [putAll, Act.put, List.setIfInBounds_toArray, List.set_cons_zero, List.set_cons_succ]; rfl)) (hJ33 () _ ⟨hHeld, (rgo_ HO427), (rgo_ HO436), (rgo_ HO441), (rgo_ HO445), (rgo_ HO450), (rgo_ HO459), (blk_ BK437), (blk_ BK438), (blk_ BK462), (blk_ BK463), (bel_ HB)⟩)
                            · skip
                              rintro _ w51 ⟨hS_, h0_, h1_, h2_, h3_, h4_, h5_, h6_, h7_, h8_, h9_, h10_⟩
                              have n0_ : Aside0 (Kd.R k71 71 w51 w.heap.size (fun k_ => some k_ ≠ (.slice Ao28 t434.length co28 : Value).ownBlock ∧ some k_ ≠ (.slice Ao40 t457.length co40 : Value).ownBlock) (.slice Ao26 t425.length co26) t425) := ⟨h0_⟩
                              have n1_ : Aside0 (Kd.R k71 71 w51 w.heap.size (fun k_ => some k_ ≠ (.slice Ao26 t425.length co26 : Value).ownBlock ∧ some k_ ≠ (.slice Ao40 t457.length co40 : Value).ownBlock) (.slice Ao28 t434.length co28) t434) := ⟨h1_⟩
                              have n2_ : Aside0 (Kd.R (Kd.int .u8) 5 w51 w.heap.size (fun k_ => some k_ ≠ (v444 : Value).ownBlock ∧ some k_ ≠ (.slice Ao34 t447.length co34 : Value).ownBlock) (.slice Ao32 t439.length co32) t439) := ⟨h2_⟩
                              have n3_ : Aside0 (Kd.R (Kd.int .u8) 5 w51 w.heap.size (fun k_ => some k_ ≠ (.slice Ao32 t439.length co32 : Value).ownBlock ∧ some k_ ≠ (.slice Ao34 t447.length co34 : Value).ownBlock) v444 t443) := ⟨h3_⟩
                              have n4_ : Aside0 (Kd.R (Kd.int .u8) 5 w51 w.heap.size (fun k_ => some k_ ≠ (.slice Ao32 t439.length co32 : Value).ownBlock ∧ some k_ ≠ (v444 : Value).ownBlock) (.slice Ao34 t447.length co34) t447) := ⟨h4_⟩
                              have n5_ : Aside0 (Kd.R k71 71 w51 w.heap.size (fun k_ => some k_ ≠ (.slice Ao26 t425.length co26 : Value).ownBlock ∧ some k_ ≠ (.slice Ao28 t434.length co28 : Value).ownBlock) (.slice Ao40 t457.length co40) t457) := ⟨h5_⟩
                              have n6_ : Aside0 (w51.heap[gb437]? = some (.cells #[.int .i64 t419, .int .i64 t420, .int .i64 t421, .int .i64 t422, .bool t423, .int .i64 t424, .slice Ao26 t425.length co26] 56 (0, 0))) := ⟨h6_⟩
                              have n7_ : Aside0 (w51.heap[gb438]? = some (.cells #[.int .i64 t428, .int .i64 t429, .int .i64 t430, .int .i64 t431, .bool t432, .int .i64 t433, .slice Ao28 t434.length co28] 56 (0, 0))) := ⟨h7_⟩
                              have n8_ : Aside0 (w51.heap[gb462]? = some (.cells #[.int .i64 t451, .int .i64 t452, .int .i64 t453, .int .i64 t454, .bool t455, .int .i64 t456, .slice Ao40 t457.length co40] 56 (0, 0))) := ⟨h8_⟩
                              have n9_ : Aside0 (w51.heap[gb463]? = some (.cells #[.int .i64 (Go.bits .and .i64 a2 1099511627775), .int .i64 t420, .int .i64 t421, .int .i64 t422, .bool t423, .int .i64 t424, .slice Ao26 t425.length co26] 56 (0, 0))) := ⟨h9_⟩
                              have n10_ : Aside0 (Below w.heap.size w w51) := ⟨h10_⟩
                              clear HO427
                              clear HO436
                              clear HO441
                              clear HO445
                              clear HO450
                              clear HO459
                              clear BK437
                              clear BK438
                              clear BK462
                              clear BK463
                              clear HB
                              clear h0_ h1_ h2_ h3_ h4_ h5_ h6_ h7_ h8_ h9_ h10_
                              have HO427 := n0_
                              have HO436 := n1_
                              have HO441 := n2_
                              have HO445 := n3_
                              have HO450 := n4_
                              have HO459 := n5_
                              have BK437 := n6_
                              have BK438 := n7_
                              have BK462 := n8_
                              have BK463 := n9_
                              have HB := n10_
                              clear n0_ n1_ n2_ n3_ n4_ n5_ n6_ n7_ n8_ n9_ n10_
                              have hHeld : w51.cell? ⟨gb462, 0, none⟩ = some (.int .i64 t451) ∧ w51.cell? ⟨gb462, 1, none⟩ = some (.int .i64 t452) ∧ w51.cell? ⟨gb462, 2, none⟩ = some (.int .i64 t453) ∧ w51.cell? ⟨gb462, 3, none⟩ = some (.int .i64 t454) ∧ w51.cell? ⟨gb462, 4, none⟩ = some (.bool t455) ∧ w51.cell? ⟨gb462, 5, none⟩ = some (.int .i64 t456) ∧ w51.cell? ⟨gb462, 6, none⟩ = some (.slice Ao40 t457.length co40) ∧ w51.cell? ⟨gb463, 0, none⟩ = some (.int .i64 (Go.bits .and .i64 a2 1099511627775)) ∧ w51.cell? ⟨gb463, 1, none⟩ = some (.int .i64 t420) ∧ w51.cell? ⟨gb463, 2, none⟩ = some (.int .i64 t421) ∧ w51.cell? ⟨gb463, 3, none⟩ = some (.int .i64 t422) ∧ w51.cell? ⟨gb463, 4, none⟩ = some (.bool t423) ∧ w51.cell? ⟨gb463, 5, none⟩ = some (.int .i64 t424) ∧ w51.cell? ⟨gb463, 6, none⟩ = some (.slice Ao26 t425.length co26) ∧ w51.cell? ⟨gb437, 0, none⟩ = some (.int .i64 t419) ∧ w51.cell? ⟨gb437, 1, none⟩ = some (.int .i64 t420) ∧ w51.cell? ⟨gb437, 2, none⟩ = some (.int .i64 t421) ∧ w51.cell? ⟨gb437, 3, none⟩ = some (.int .i64 t422) ∧ w51.cell? ⟨gb437, 4, none⟩ = some (.bool t423) ∧ w51.cell? ⟨gb437, 5, none⟩ = some (.int .i64 t424) ∧ w51.cell? ⟨gb437, 6, none⟩ = some (.slice Ao26 t425.length co26) ∧ w51.cell? ⟨gb438, 0, none⟩ = some (.int .i64 t428) ∧ w51.cell? ⟨gb438, 1, none⟩ = some (.int .i64 t429) ∧ w51.cell? ⟨gb438, 2, none⟩ = some (.int .i64 t430) ∧ w51.cell? ⟨gb438, 3, none⟩ = some (.int .i64 t431) ∧ w51.cell? ⟨gb438, 4, none⟩ = some (.bool t432) ∧ w51.cell? ⟨gb438, 5, none⟩ = some (.int .i64 t433) ∧ w51.cell? ⟨gb438, 6, none⟩ = some (.slice Ao28 t434.length co28) := hS_
                              refine norm_ (a' := ?_) ?_ ?_
                              rotate_left
                              · simp only [putAll, Act.put, List.setIfInBounds_toArray, List.set_cons_zero, List.set_cons_succ]
                                rfl
                              refine two_ (i := 27) (j := 29) (Ni := some 82) (Nj := some 84) #[true, true, true, true, true, true, true, true, true, true, true, true, true, true, true, true, true, true, true, true, true, true, true, true, true, true, true, true, true, false, false, true, true, true, false, false, false, false, false, false] #[true, true, true, true, true, true, true, true, true, true, true, true, true, true, true, true, true, true, true, true, true, true, true, true, true, true, true, false, true, true, false, true, true, true, false, false, false, false, false, false] rfl rfl rfl rfl (two_of HT_.out (by kernel_rfl)) (by decide) (by decide) (fun K hK => ?_) (fun K hK => ?_)
                              · skip
                                have hcv52 := own_string (P := Try.prog) Try.underlying34 Try.underlying5 Try.underlying9 (Kd.own_of_R HO441.out)
                                refine value_ (w1 := ?_) (v := ?_) (by rfl) rfl ?_ ?_
                                rotate_left 2
                                · go_simp
                                  constructor
                                  · rfl
                                  · rfl
                                clear hcv52
                                refine hK.out _ _ ⟨(blk_cell BK462.out 0).trans rfl, (blk_cell BK462.out 1).trans rfl, (blk_cell BK462.out 2).trans rfl, (blk_cell BK462.out 3).trans rfl, (blk_cell BK462.out 4).trans rfl, (blk_cell BK462.out 5).trans rfl, (blk_cell BK462.out 6).trans rfl, (blk_cell BK463.out 0).trans rfl, (blk_cell BK463.out 1).trans rfl, (blk_cell BK463.out 2).trans rfl, (blk_cell BK463.out 3).trans rfl, (blk_cell BK463.out 4).trans rfl, (blk_cell BK463.out 5).trans rfl, (blk_cell BK463.out 6).trans rfl, (blk_cell BK437.out 0).trans rfl, (blk_cell BK437.out 1).trans rfl, (blk_cell BK437.out 2).trans rfl, (blk_cell BK437.out 3).trans rfl, (blk_cell BK437.out 4).trans rfl, (blk_cell BK437.out 5).trans rfl, (blk_cell BK437.out 6).trans rfl, (blk_cell BK438.out 0).trans rfl, (blk_cell BK438.out 1).trans rfl, (blk_cell BK438.out 2).trans rfl, (blk_cell BK438.out 3).trans rfl, (blk_cell BK438.out 4).trans rfl, (blk_cell BK438.out 5).trans rfl, (blk_cell BK438.out 6).trans rfl⟩ (fun hHeld => ?_)
                                clear hK K
                                refine norm_ (a' := ?_) ?_ ?_
                                rotate_left
                                · show Act.put _ (some 82) _ = _
                                  simp only [Act.put, List.setIfInBounds_toArray, List.set_cons_zero, List.set_cons_succ, i64_w, i32_w]
                                  rfl
                                exact norm_ (by first | (simp only [putAll, Act.put, List.setIfInBounds_toArray, List.set_cons_zero, List.set_cons_succ]; done) | (simp only [putAll, Act.put, List.setIfInBounds_toArray, List.set_cons_zero, List.set_cons_succ]; rfl)) (hJ27_33 () _ ⟨hHeld, (rgo_ HO427), (rgo_ HO436), (rgo_ HO441), (rgo_ HO445), (rgo_ HO450), (rgo_ HO459), (blk_ BK437), (blk_ BK438), (blk_ BK462), (blk_ BK463), (bel_ HB)⟩)
                              · skip
                                have hcv52 := own_string (P := Try.prog) Try.underlying34 Try.underlying5 Try.underlying9 (Kd.own_of_R HO445.out)
                                refine value_ (w1 := ?_) (v := ?_) (by rfl) rfl ?_ ?_
                                rotate_left 2
                                · go_simp
                                  constructor
                                  · rfl
                                  · rfl
                                clear hcv52
                                refine hK.out _ _ ⟨(blk_cell BK462.out 0).trans rfl, (blk_cell BK462.out 1).trans rfl, (blk_cell BK462.out 2).trans rfl, (blk_cell BK462.out 3).trans rfl, (blk_cell BK462.out 4).trans rfl, (blk_cell BK462.out 5).trans rfl, (blk_cell BK462.out 6).trans rfl, (blk_cell BK463.out 0).trans rfl, (blk_cell BK463.out 1).trans rfl, (blk_cell BK463.out 2).trans rfl, (blk_cell BK463.out 3).trans rfl, (blk_cell BK463.out 4).trans rfl, (blk_cell BK463.out 5).trans rfl, (blk_cell BK463.out 6).trans rfl, (blk_cell BK437.out 0).trans rfl, (blk_cell BK437.out 1).trans rfl, (blk_cell BK437.out 2).trans rfl, (blk_cell BK437.out 3).trans rfl, (blk_cell BK437.out 4).trans rfl, (blk_cell BK437.out 5).trans rfl, (blk_cell BK437.out 6).trans rfl, (blk_cell BK438.out 0).trans rfl, (blk_cell BK438.out 1).trans rfl, (blk_cell BK438.out 2).trans rfl, (blk_cell BK438.out 3).trans rfl, (blk_cell BK438.out 4).trans rfl, (blk_cell BK438.out 5).trans rfl, (blk_cell BK438.out 6).trans rfl⟩ (fun hHeld => ?_)
                                clear hK K
                                refine norm_ (a' := ?_) ?_ ?_
                                rotate_left
                                · show Act.put _ (some 84) _ = _
                                  simp only [Act.put, List.setIfInBounds_toArray, List.set_cons_zero, List.set_cons_succ, i64_w, i32_w]
                                  rfl
                                exact norm_ (by first | (simp only [putAll, Act.put, List.setIfInBounds_toArray, List.set_cons_zero, List.set_cons_succ]; done) | (simp only [putAll, Act.put, List.setIfInBounds_toArray, List.set_cons_zero, List.set_cons_succ]; rfl)) (hJ29_33 () _ ⟨hHeld, (rgo_ HO427), (rgo_ HO436), (rgo_ HO441), (rgo_ HO445), (rgo_ HO450), (rgo_ HO459), (blk_ BK437), (blk_ BK438), (blk_ BK462), (blk_ BK463), (bel_ HB)⟩)
                          · skip
                            rintro _ w51 ⟨hS_, h0_, h1_, h2_, h3_, h4_, h5_, h6_, h7_, h8_, h9_, h10_⟩
                            have n0_ : Aside0 (Kd.R k71 71 w51 w.heap.size (fun k_ => some k_ ≠ (.slice Ao28 t434.length co28 : Value).ownBlock ∧ some k_ ≠ (.slice Ao40 t457.length co40 : Value).ownBlock) (.slice Ao26 t425.length co26) t425) := ⟨h0_⟩
                            have n1_ : Aside0 (Kd.R k71 71 w51 w.heap.size (fun k_ => some k_ ≠ (.slice Ao26 t425.length co26 : Value).ownBlock ∧ some k_ ≠ (.slice Ao40 t457.length co40 : Value).ownBlock) (.slice Ao28 t434.length co28) t434) := ⟨h1_⟩
                            have n2_ : Aside0 (Kd.R (Kd.int .u8) 5 w51 w.heap.size (fun k_ => some k_ ≠ (v444 : Value).ownBlock ∧ some k_ ≠ (.slice Ao34 t447.length co34 : Value).ownBlock) (.slice Ao32 t439.length co32) t439) := ⟨h2_⟩
                            have n3_ : Aside0 (Kd.R (Kd.int .u8) 5 w51 w.heap.size (fun k_ => some k_ ≠ (.slice Ao32 t439.length co32 : Value).ownBlock ∧ some k_ ≠ (.slice Ao34 t447.length co34 : Value).ownBlock) v444 t443) := ⟨h3_⟩
                            have n4_ : Aside0 (Kd.R (Kd.int .u8) 5 w51 w.heap.size (fun k_ => some k_ ≠ (.slice Ao32 t439.length co32 : Value).ownBlock ∧ some k_ ≠ (v444 : Value).ownBlock) (.slice Ao34 t447.length co34) t447) := ⟨h4_⟩
                            have n5_ : Aside0 (Kd.R k71 71 w51 w.heap.size (fun k_ => some k_ ≠ (.slice Ao26 t425.length co26 : Value).ownBlock ∧ some k_ ≠ (.slice Ao28 t434.length co28 : Value).ownBlock) (.slice Ao40 t457.length co40) t457) := ⟨h5_⟩
                            have n6_ : Aside0 (w51.heap[gb437]? = some (.cells #[.int .i64 t419, .int .i64 t420, .int .i64 t421, .int .i64 t422, .bool t423, .int .i64 t424, .slice Ao26 t425.length co26] 56 (0, 0))) := ⟨h6_⟩
                            have n7_ : Aside0 (w51.heap[gb438]? = some (.cells #[.int .i64 t428, .int .i64 t429, .int .i64 t430, .int .i64 t431, .bool t432, .int .i64 t433, .slice Ao28 t434.length co28] 56 (0, 0))) := ⟨h7_⟩
                            have n8_ : Aside0 (w51.heap[gb462]? = some (.cells #[.int .i64 t451, .int .i64 t452, .int .i64 t453, .int .i64 t454, .bool t455, .int .i64 t456, .slice Ao40 t457.length co40] 56 (0, 0))) := ⟨h8_⟩
                            have n9_ : Aside0 (w51.heap[gb463]? = some (.cells #[.int .i64 (Go.bits .and .i64 a2 1099511627775), .int .i64 t420, .int .i64 t421, .int .i64 t422, .bool t423, .int .i64 t424, .slice Ao26 t425.length co26] 56 (0, 0))) := ⟨h9_⟩
                            have n10_ : Aside0 (Below w.heap.size w w51) := ⟨h10_⟩
                            clear HO427
                            clear HO436
                            clear HO441
                            clear HO445
                            clear HO450
                            clear HO459
                            clear BK437
                            clear BK438
                            clear BK462
                            clear BK463
                            clear HB
                            clear h0_ h1_ h2_ h3_ h4_ h5_ h6_ h7_ h8_ h9_ h10_
                            have HO427 := n0_
                            have HO436 := n1_
                            have HO441 := n2_
                            have HO445 := n3_
                            have HO450 := n4_
                            have HO459 := n5_
                            have BK437 := n6_
                            have BK438 := n7_
                            have BK462 := n8_
                            have BK463 := n9_
                            have HB := n10_
                            clear n0_ n1_ n2_ n3_ n4_ n5_ n6_ n7_ n8_ n9_ n10_
                            have hHeld : w51.cell? ⟨gb462, 0, none⟩ = some (.int .i64 t451) ∧ w51.cell? ⟨gb462, 1, none⟩ = some (.int .i64 t452) ∧ w51.cell? ⟨gb462, 2, none⟩ = some (.int .i64 t453) ∧ w51.cell? ⟨gb462, 3, none⟩ = some (.int .i64 t454) ∧ w51.cell? ⟨gb462, 4, none⟩ = some (.bool t455) ∧ w51.cell? ⟨gb462, 5, none⟩ = some (.int .i64 t456) ∧ w51.cell? ⟨gb462, 6, none⟩ = some (.slice Ao40 t457.length co40) ∧ w51.cell? ⟨gb463, 0, none⟩ = some (.int .i64 (Go.bits .and .i64 a2 1099511627775)) ∧ w51.cell? ⟨gb463, 1, none⟩ = some (.int .i64 t420) ∧ w51.cell? ⟨gb463, 2, none⟩ = some (.int .i64 t421) ∧ w51.cell? ⟨gb463, 3, none⟩ = some (.int .i64 t422) ∧ w51.cell? ⟨gb463, 4, none⟩ = some (.bool t423) ∧ w51.cell? ⟨gb463, 5, none⟩ = some (.int .i64 t424) ∧ w51.cell? ⟨gb463, 6, none⟩ = some (.slice Ao26 t425.length co26) ∧ w51.cell? ⟨gb437, 0, none⟩ = some (.int .i64 t419) ∧ w51.cell? ⟨gb437, 1, none⟩ = some (.int .i64 t420) ∧ w51.cell? ⟨gb437, 2, none⟩ = some (.int .i64 t421) ∧ w51.cell? ⟨gb437, 3, none⟩ = some (.int .i64 t422) ∧ w51.cell? ⟨gb437, 4, none⟩ = some (.bool t423) ∧ w51.cell? ⟨gb437, 5, none⟩ = some (.int .i64 t424) ∧ w51.cell? ⟨gb437, 6, none⟩ = some (.slice Ao26 t425.length co26) ∧ w51.cell? ⟨gb438, 0, none⟩ = some (.int .i64 t428) ∧ w51.cell? ⟨gb438, 1, none⟩ = some (.int .i64 t429) ∧ w51.cell? ⟨gb438, 2, none⟩ = some (.int .i64 t430) ∧ w51.cell? ⟨gb438, 3, none⟩ = some (.int .i64 t431) ∧ w51.cell? ⟨gb438, 4, none⟩ = some (.bool t432) ∧ w51.cell? ⟨gb438, 5, none⟩ = some (.int .i64 t433) ∧ w51.cell? ⟨gb438, 6, none⟩ = some (.slice Ao28 t434.length co28) := hS_
                            refine norm_ (a' := ?_) ?_ ?_
                            rotate_left
                            · simp only [putAll, Act.put, List.setIfInBounds_toArray, List.set_cons_zero, List.set_cons_succ]
                              rfl
                            refine two_ (i := 27) (j := 33) (Ni := some 82) (Nj := some 88) #[true, true, true, true, true, true, true, true, true, true, true, true, true, true, true, true, true, true, true, true, true, true, true, true, true, true, true, true, true, true, false, true, true, false, false, false, false, false, false, false] #[true, true, true, true, true, true, true, true, true, true, true, true, true, true, true, true, true, true, true, true, true, true, true, true, true, true, true, false, true, true, false, true, true, true, false, false, false, false, false, false] rfl rfl rfl rfl (two_of HT_.out (by kernel_rfl)) (by decide) (by decide) (fun K hK => ?_) (fun K hK => ?_)
                            · skip
                              have hcv52 := own_string (P := Try.prog) Try.underlying34 Try.underlying5 Try.underlying9 (Kd.own_of_R HO441.out)
                              refine value_ (w1 := ?_) (v := ?_) (by rfl) rfl ?_ ?_
                              rotate_left 2
                              · go_simp
                                constructor
                                · rfl
                                · rfl
                              clear hcv52
                              refine hK.out _ _ ⟨(blk_cell BK462.out 0).trans rfl, (blk_cell BK462.out 1).trans rfl, (blk_cell BK462.out 2).trans rfl, (blk_cell BK462.out 3).trans rfl, (blk_cell BK462.out 4).trans rfl, (blk_cell BK462.out 5).trans rfl, (blk_cell BK462.out 6).trans rfl, (blk_cell BK463.out 0).trans rfl, (blk_cell BK463.out 1).trans rfl, (blk_cell BK463.out 2).trans rfl, (blk_cell BK463.out 3).trans rfl, (blk_cell BK463.out 4).trans rfl, (blk_cell BK463.out 5).trans rfl, (blk_cell BK463.out 6).trans rfl, (blk_cell BK437.out 0).trans rfl, (blk_cell BK437.out 1).trans rfl, (blk_cell BK437.out 2).trans rfl, (blk_cell BK437.out 3).trans rfl, (blk_cell BK437.out 4).trans rfl, (blk_cell BK437.out 5).trans rfl, (blk_cell BK437.out 6).trans rfl, (blk_cell BK438.out 0).trans rfl, (blk_cell BK438.out 1).trans rfl, (blk_cell BK438.out 2).trans rfl, (blk_cell BK438.out 3).trans rfl, (blk_cell BK438.out 4).trans rfl, (blk_cell BK438.out 5).trans rfl, (blk_cell BK438.out 6).trans rfl⟩ (fun hHeld => ?_)
                              clear hK K
                              refine norm_ (a' := ?_) ?_ ?_
                              rotate_left
                              · show Act.put _ (some 82) _ = _
                                simp only [Act.put, List.setIfInBounds_toArray, List.set_cons_zero, List.set_cons_succ, i64_w, i32_w]
                                rfl
                              refine pure_ (i := 30) (N := some 85) (v := ?_) (a' := ?_) #[true, true, true, true, true, true, true, true, true, true, true, true, true, true, true, true, true, true, true, true, true, true, true, true, true, true, true, true, true, true, true, true, true, false, false, false, false, false, false, false] rfl rfl (any_of HT_.out (by kernel_rfl)) (fun _ _ _ h => h) (Or.inl ⟨by rfl, ?_⟩) ?_ ?_
                              rotate_left
                              · intro w'
                                go_simp
                                with_reducible rfl
                              rotate_left
                              · simp only [Act.put, List.setIfInBounds_toArray, List.set_cons_zero, List.set_cons_succ, i64_w, i32_w]
                                rfl
                              exact norm_ (by first | (simp only [putAll, Act.put, List.setIfInBounds_toArray, List.set_cons_zero, List.set_cons_succ]; done) | (simp only [putAll, Act.put, List.setIfInBounds_toArray, List.set_cons_zero, List.set_cons_succ]; rfl)) (hJ27_29 () _ ⟨hHeld, (rgo_ HO427), (rgo_ HO436), (rgo_ HO441), (rgo_ HO445), (rgo_ HO450), (rgo_ HO459), (blk_ BK437), (blk_ BK438), (blk_ BK462), (blk_ BK463), (bel_ HB)⟩)
                            · skip
                              refine goes_ Try.func48 (by kernel_rfl) rfl #[.agg #[.int .i64 t419, .int .i64 t420, .int .i64 t421, .int .i64 t422, .bool t423, .int .i64 t424, .slice Ao26 t425.length co26], .agg #[.int .i64 t428, .int .i64 t429, .int .i64 t430, .int .i64 t431, .bool t432, .int .i64 t433, .slice Ao28 t434.length co28]] (by rfl) rfl rfl (by (try simp only [List.map_toArray, List.map_cons, List.map_nil]); first | done | rfl | (simp only [List.length_drop, List.length_take]; rfl)) ?_
                              with_reducible refine (bordereauref6_Same.calls k t419 t420 t421 t422 t423 t424 _ _ t425 t428 t429 t430 t431 t432 t433 _ _ t434 t465 _ ?side1 ?side2 ?side3 ?side4 A17.out).mono ?_
                              (case side1 => exact cgo_ ((Kd.R_reads' HO427.out).2.2))
                              (case side2 => exact (Kd.R_reads' HO427.out).2.1)
                              (case side3 => exact cgo_ ((Kd.R_reads' HO436.out).2.2))
                              (case side4 => exact (Kd.R_reads' HO436.out).2.1)
                              rintro e w52 ⟨rfl, hb⟩
                              refine ⟨_, rfl, ?_⟩
                              have n0_ := Aside0.mk (Kd.R_below (rgo_ HO427) hb)
                              have n1_ := Aside0.mk (Kd.R_below (rgo_ HO436) hb)
                              have n2_ := Aside0.mk (Kd.R_below (rgo_ HO441) hb)
                              have n3_ := Aside0.mk (Kd.R_below (rgo_ HO445) hb)
                              have n4_ := Aside0.mk (Kd.R_below (rgo_ HO450) hb)
                              have n5_ := Aside0.mk (Kd.R_below (rgo_ HO459) hb)
                              have n6_ := Aside0.mk (blk_below (g := gb437) (o := .cells #[.int .i64 t419, .int .i64 t420, .int .i64 t421, .int .i64 t422, .bool t423, .int .i64 t424, .slice Ao26 t425.length co26] 56 (0, 0)) (blk_ BK437) hb)
                              have n7_ := Aside0.mk (blk_below (g := gb438) (o := .cells #[.int .i64 t428, .int .i64 t429, .int .i64 t430, .int .i64 t431, .bool t432, .int .i64 t433, .slice Ao28 t434.length co28] 56 (0, 0)) (blk_ BK438) hb)
                              have n8_ := Aside0.mk (blk_below (g := gb462) (o := .cells #[.int .i64 t451, .int .i64 t452, .int .i64 t453, .int .i64 t454, .bool t455, .int .i64 t456, .slice Ao40 t457.length co40] 56 (0, 0)) (blk_ BK462) hb)
                              have n9_ := Aside0.mk (blk_below (g := gb463) (o := .cells #[.int .i64 (Go.bits .and .i64 a2 1099511627775), .int .i64 t420, .int .i64 t421, .int .i64 t422, .bool t423, .int .i64 t424, .slice Ao26 t425.length co26] 56 (0, 0)) (blk_ BK463) hb)
                              have n10_ := Aside0.mk (below_step (bel_ HB) hb)
                              clear HO427
                              clear HO436
                              clear HO441
                              clear HO445
                              clear HO450
                              clear HO459
                              clear BK437
                              clear BK438
                              clear BK462
                              clear BK463
                              clear HB
                              have HO427 := n0_
                              have HO436 := n1_
                              have HO441 := n2_
                              have HO445 := n3_
                              have HO450 := n4_
                              have HO459 := n5_
                              have BK437 := n6_
                              have BK438 := n7_
                              have BK462 := n8_
                              have BK463 := n9_
                              have HB := n10_
                              clear n0_ n1_ n2_ n3_ n4_ n5_ n6_ n7_ n8_ n9_ n10_
                              (try clear hb)
                              (try clear hb2)
                              (try clear hk)
                              (try clear hi)
                              refine hK.out _ _ ⟨(blk_cell BK462.out 0).trans rfl, (blk_cell BK462.out 1).trans rfl, (blk_cell BK462.out 2).trans rfl, (blk_cell BK462.out 3).trans rfl, (blk_cell BK462.out 4).trans rfl, (blk_cell BK462.out 5).trans rfl, (blk_cell BK462.out 6).trans rfl, (blk_cell BK463.out 0).trans rfl, (blk_cell BK463.out 1).trans rfl, (blk_cell BK463.out 2).trans rfl, (blk_cell BK463.out 3).trans rfl, (blk_cell BK463.out 4).trans rfl, (blk_cell BK463.out 5).trans rfl, (blk_cell BK463.out 6).trans rfl, (blk_cell BK437.out 0).trans rfl, (blk_cell BK437.out 1).trans rfl, (blk_cell BK437.out 2).trans rfl, (blk_cell BK437.out 3).trans rfl, (blk_cell BK437.out 4).trans rfl, (blk_cell BK437.out 5).trans rfl, (blk_cell BK437.out 6).trans rfl, (blk_cell BK438.out 0).trans rfl, (blk_cell BK438.out 1).trans rfl, (blk_cell BK438.out 2).trans rfl, (blk_cell BK438.out 3).trans rfl, (blk_cell BK438.out 4).trans rfl, (blk_cell BK438.out 5).trans rfl, (blk_cell BK438.out 6).trans rfl⟩ (fun hHeld => ?_)
                              clear hK K
                              refine norm_ (a' := ?_) ?_ ?_
                              rotate_left
                              · show Act.put _ (some 88) _ = _
                                simp only [Act.put, List.setIfInBounds_toArray, List.set_cons_zero, List.set_cons_succ, i64_w, i32_w]
                                rfl
                              exact norm_ (by first | (simp only [putAll, Act.put, List.setIfInBounds_toArray, List.set_cons_zero, List.set_cons_succ]; done) | (simp only [putAll, Act.put, List.setIfInBounds_toArray, List.set_cons_zero, List.set_cons_succ]; rfl)) (hJ29_33 () _ ⟨hHeld, (rgo_ HO427), (rgo_ HO436), (rgo_ HO441), (rgo_ HO445), (rgo_ HO450), (rgo_ HO459), (blk_ BK437), (blk_ BK438), (blk_ BK462), (blk_ BK463), (bel_ HB)⟩)
                        · skip
                          rintro _ w51 ⟨hS_, h0_, h1_, h2_, h3_, h4_, h5_, h6_, h7_, h8_, h9_, h10_⟩
                          have n0_ : Aside0 (Kd.R k71 71 w51 w.heap.size (fun k_ => some k_ ≠ (.slice Ao28 t434.length co28 : Value).ownBlock ∧ some k_ ≠ (.slice Ao40 t457.length co40 : Value).ownBlock) (.slice Ao26 t425.length co26) t425) := ⟨h0_⟩
                          have n1_ : Aside0 (Kd.R k71 71 w51 w.heap.size (fun k_ => some k_ ≠ (.slice Ao26 t425.length co26 : Value).ownBlock ∧ some k_ ≠ (.slice Ao40 t457.length co40 : Value).ownBlock) (.slice Ao28 t434.length co28) t434) := ⟨h1_⟩
                          have n2_ : Aside0 (Kd.R (Kd.int .u8) 5 w51 w.heap.size (fun k_ => some k_ ≠ (v444 : Value).ownBlock ∧ some k_ ≠ (.slice Ao34 t447.length co34 : Value).ownBlock) (.slice Ao32 t439.length co32) t439) := ⟨h2_⟩
                          have n3_ : Aside0 (Kd.R (Kd.int .u8) 5 w51 w.heap.size (fun k_ => some k_ ≠ (.slice Ao32 t439.length co32 : Value).ownBlock ∧ some k_ ≠ (.slice Ao34 t447.length co34 : Value).ownBlock) v444 t443) := ⟨h3_⟩
                          have n4_ : Aside0 (Kd.R (Kd.int .u8) 5 w51 w.heap.size (fun k_ => some k_ ≠ (.slice Ao32 t439.length co32 : Value).ownBlock ∧ some k_ ≠ (v444 : Value).ownBlock) (.slice Ao34 t447.length co34) t447) := ⟨h4_⟩
                          have n5_ : Aside0 (Kd.R k71 71 w51 w.heap.size (fun k_ => some k_ ≠ (.slice Ao26 t425.length co26 : Value).ownBlock ∧ some k_ ≠ (.slice Ao28 t434.length co28 : Value).ownBlock) (.slice Ao40 t457.length co40) t457) := ⟨h5_⟩
                          have n6_ : Aside0 (w51.heap[gb437]? = some (.cells #[.int .i64 t419, .int .i64 t420, .int .i64 t421, .int .i64 t422, .bool t423, .int .i64 t424, .slice Ao26 t425.length co26] 56 (0, 0))) := ⟨h6_⟩
                          have n7_ : Aside0 (w51.heap[gb438]? = some (.cells #[.int .i64 t428, .int .i64 t429, .int .i64 t430, .int .i64 t431, .bool t432, .int .i64 t433, .slice Ao28 t434.length co28] 56 (0, 0))) := ⟨h7_⟩
                          have n8_ : Aside0 (w51.heap[gb462]? = some (.cells #[.int .i64 t451, .int .i64 t452, .int .i64 t453, .int .i64 t454, .bool t455, .int .i64 t456, .slice Ao40 t457.length co40] 56 (0, 0))) := ⟨h8_⟩
                          have n9_ : Aside0 (w51.heap[gb463]? = some (.cells #[.int .i64 (Go.bits .and .i64 a2 1099511627775), .int .i64 t420, .int .i64 t421, .int .i64 t422, .bool t423, .int .i64 t424, .slice Ao26 t425.length co26] 56 (0, 0))) := ⟨h9_⟩
                          have n10_ : Aside0 (Below w.heap.size w w51) := ⟨h10_⟩
                          clear HO427
                          clear HO436
                          clear HO441
                          clear HO445
                          clear HO450
                          clear HO459
                          clear BK437
                          clear BK438
                          clear BK462
                          clear BK463
                          clear HB
                          clear h0_ h1_ h2_ h3_ h4_ h5_ h6_ h7_ h8_ h9_ h10_
                          have HO427 := n0_
                          have HO436 := n1_
                          have HO441 := n2_
                          have HO445 := n3_
                          have HO450 := n4_
                          have HO459 := n5_
                          have BK437 := n6_
                          have BK438 := n7_
                          have BK462 := n8_
                          have BK463 := n9_
                          have HB := n10_
                          clear n0_ n1_ n2_ n3_ n4_ n5_ n6_ n7_ n8_ n9_ n10_
                          have hHeld : w51.cell? ⟨gb462, 0, none⟩ = some (.int .i64 t451) ∧ w51.cell? ⟨gb462, 1, none⟩ = some (.int .i64 t452) ∧ w51.cell? ⟨gb462, 2, none⟩ = some (.int .i64 t453) ∧ w51.cell? ⟨gb462, 3, none⟩ = some (.int .i64 t454) ∧ w51.cell? ⟨gb462, 4, none⟩ = some (.bool t455) ∧ w51.cell? ⟨gb462, 5, none⟩ = some (.int .i64 t456) ∧ w51.cell? ⟨gb462, 6, none⟩ = some (.slice Ao40 t457.length co40) ∧ w51.cell? ⟨gb463, 0, none⟩ = some (.int .i64 (Go.bits .and .i64 a2 1099511627775)) ∧ w51.cell? ⟨gb463, 1, none⟩ = some (.int .i64 t420) ∧ w51.cell? ⟨gb463, 2, none⟩ = some (.int .i64 t421) ∧ w51.cell? ⟨gb463, 3, none⟩ = some (.int .i64 t422) ∧ w51.cell? ⟨gb463, 4, none⟩ = some (.bool t423) ∧ w51.cell? ⟨gb463, 5, none⟩ = some (.int .i64 t424) ∧ w51.cell? ⟨gb463, 6, none⟩ = some (.slice Ao26 t425.length co26) ∧ w51.cell? ⟨gb437, 0, none⟩ = some (.int .i64 t419) ∧ w51.cell? ⟨gb437, 1, none⟩ = some (.int .i64 t420) ∧ w51.cell? ⟨gb437, 2, none⟩ = some (.int .i64 t421) ∧ w51.cell? ⟨gb437, 3, none⟩ = some (.int .i64 t422) ∧ w51.cell? ⟨gb437, 4, none⟩ = some (.bool t423) ∧ w51.cell? ⟨gb437, 5, none⟩ = some (.int .i64 t424) ∧ w51.cell? ⟨gb437, 6, none⟩ = some (.slice Ao26 t425.length co26) ∧ w51.cell? ⟨gb438, 0, none⟩ = some (.int .i64 t428) ∧ w51.cell? ⟨gb438, 1, none⟩ = some (.int .i64 t429) ∧ w51.cell? ⟨gb438, 2, none⟩ = some (.int .i64 t430) ∧ w51.cell? ⟨gb438, 3, none⟩ = some (.int .i64 t431) ∧ w51.cell? ⟨gb438, 4, none⟩ = some (.bool t432) ∧ w51.cell? ⟨gb438, 5, none⟩ = some (.int .i64 t433) ∧ w51.cell? ⟨gb438, 6, none⟩ = some (.slice Ao28 t434.length co28) := hS_
                          refine norm_ (a' := ?_) ?_ ?_
                          rotate_left
                          · simp only [putAll, Act.put, List.setIfInBounds_toArray, List.set_cons_zero, List.set_cons_succ]
                            rfl
                          refine two_ (i := 29) (j := 33) (Ni := some 84) (Nj := some 88) #[true, true, true, true, true, true, true, true, true, true, true, true, true, true, true, true, true, true, true, true, true, true, true, true, true, true, true, true, true, true, false, true, true, false, false, false, false, false, false, false] #[true, true, true, true, true, true, true, true, true, true, true, true, true, true, true, true, true, true, true, true, true, true, true, true, true, true, true, true, true, false, false, true, true, true, false, false, false, false, false, false] rfl rfl rfl rfl (two_of HT_.out (by kernel_rfl)) (by decide) (by decide) (fun K hK => ?_) (fun K hK => ?_)
                          · skip
                            have hcv52 := own_string (P := Try.prog) Try.underlying34 Try.underlying5 Try.underlying9 (Kd.own_of_R HO445.out)
                            refine value_ (w1 := ?_) (v := ?_) (by rfl) rfl ?_ ?_
                            rotate_left 2
                            · go_simp
                              constructor
                              · rfl
                              · rfl
                            clear hcv52
                            refine hK.out _ _ ⟨(blk_cell BK462.out 0).trans rfl, (blk_cell BK462.out 1).trans rfl, (blk_cell BK462.out 2).trans rfl, (blk_cell BK462.out 3).trans rfl, (blk_cell BK462.out 4).trans rfl, (blk_cell BK462.out 5).trans rfl, (blk_cell BK462.out 6).trans rfl, (blk_cell BK463.out 0).trans rfl, (blk_cell BK463.out 1).trans rfl, (blk_cell BK463.out 2).trans rfl, (blk_cell BK463.out 3).trans rfl, (blk_cell BK463.out 4).trans rfl, (blk_cell BK463.out 5).trans rfl, (blk_cell BK463.out 6).trans rfl, (blk_cell BK437.out 0).trans rfl, (blk_cell BK437.out 1).trans rfl, (blk_cell BK437.out 2).trans rfl, (blk_cell BK437.out 3).trans rfl, (blk_cell BK437.out 4).trans rfl, (blk_cell BK437.out 5).trans rfl, (blk_cell BK437.out 6).trans rfl, (blk_cell BK438.out 0).trans rfl, (blk_cell BK438.out 1).trans rfl, (blk_cell BK438.out 2).trans rfl, (blk_cell BK438.out 3).trans rfl, (blk_cell BK438.out 4).trans rfl, (blk_cell BK438.out 5).trans rfl, (blk_cell BK438.out 6).trans rfl⟩ (fun hHeld => ?_)
                            clear hK K
                            refine norm_ (a' := ?_) ?_ ?_
                            rotate_left
                            · show Act.put _ (some 84) _ = _
                              simp only [Act.put, List.setIfInBounds_toArray, List.set_cons_zero, List.set_cons_succ, i64_w, i32_w]
                              rfl
                            refine pure_ (i := 30) (N := some 85) (v := ?_) (a' := ?_) #[true, true, true, true, true, true, true, true, true, true, true, true, true, true, true, true, true, true, true, true, true, true, true, true, true, true, true, true, true, true, true, true, true, false, false, false, false, false, false, false] rfl rfl (any_of HT_.out (by kernel_rfl)) (fun _ _ _ h => h) (Or.inl ⟨by rfl, ?_⟩) ?_ ?_
                            rotate_left
                            · intro w'
                              go_simp
                              with_reducible rfl
                            rotate_left
                            · simp only [Act.put, List.setIfInBounds_toArray, List.set_cons_zero, List.set_cons_succ, i64_w, i32_w]
                              rfl
                            exact norm_ (by first | (simp only [putAll, Act.put, List.setIfInBounds_toArray, List.set_cons_zero, List.set_cons_succ]; done) | (simp only [putAll, Act.put, List.setIfInBounds_toArray, List.set_cons_zero, List.set_cons_succ]; rfl)) (hJ27_29 () _ ⟨hHeld, (rgo_ HO427), (rgo_ HO436), (rgo_ HO441), (rgo_ HO445), (rgo_ HO450), (rgo_ HO459), (blk_ BK437), (blk_ BK438), (blk_ BK462), (blk_ BK463), (bel_ HB)⟩)
                          · skip
                            refine goes_ Try.func48 (by kernel_rfl) rfl #[.agg #[.int .i64 t419, .int .i64 t420, .int .i64 t421, .int .i64 t422, .bool t423, .int .i64 t424, .slice Ao26 t425.length co26], .agg #[.int .i64 t428, .int .i64 t429, .int .i64 t430, .int .i64 t431, .bool t432, .int .i64 t433, .slice Ao28 t434.length co28]] (by rfl) rfl rfl (by (try simp only [List.map_toArray, List.map_cons, List.map_nil]); first | done | rfl | (simp only [List.length_drop, List.length_take]; rfl)) ?_
                            with_reducible refine (bordereauref6_Same.calls k t419 t420 t421 t422 t423 t424 _ _ t425 t428 t429 t430 t431 t432 t433 _ _ t434 t465 _ ?side1 ?side2 ?side3 ?side4 A17.out).mono ?_
                            (case side1 => exact cgo_ ((Kd.R_reads' HO427.out).2.2))
                            (case side2 => exact (Kd.R_reads' HO427.out).2.1)
                            (case side3 => exact cgo_ ((Kd.R_reads' HO436.out).2.2))
                            (case side4 => exact (Kd.R_reads' HO436.out).2.1)
                            rintro e w52 ⟨rfl, hb⟩
                            refine ⟨_, rfl, ?_⟩
                            have n0_ := Aside0.mk (Kd.R_below (rgo_ HO427) hb)
                            have n1_ := Aside0.mk (Kd.R_below (rgo_ HO436) hb)
                            have n2_ := Aside0.mk (Kd.R_below (rgo_ HO441) hb)
                            have n3_ := Aside0.mk (Kd.R_below (rgo_ HO445) hb)
                            have n4_ := Aside0.mk (Kd.R_below (rgo_ HO450) hb)
                            have n5_ := Aside0.mk (Kd.R_below (rgo_ HO459) hb)
                            have n6_ := Aside0.mk (blk_below (g := gb437) (o := .cells #[.int .i64 t419, .int .i64 t420, .int .i64 t421, .int .i64 t422, .bool t423, .int .i64 t424, .slice Ao26 t425.length co26] 56 (0, 0)) (blk_ BK437) hb)
                            have n7_ := Aside0.mk (blk_below (g := gb438) (o := .cells #[.int .i64 t428, .int .i64 t429, .int .i64 t430, .int .i64 t431, .bool t432, .int .i64 t433, .slice Ao28 t434.length co28] 56 (0, 0)) (blk_ BK438) hb)
                            have n8_ := Aside0.mk (blk_below (g := gb462) (o := .cells #[.int .i64 t451, .int .i64 t452, .int .i64 t453, .int .i64 t454, .bool t455, .int .i64 t456, .slice Ao40 t457.length co40] 56 (0, 0)) (blk_ BK462) hb)
                            have n9_ := Aside0.mk (blk_below (g := gb463) (o := .cells #[.int .i64 (Go.bits .and .i64 a2 1099511627775), .int .i64 t420, .int .i64 t421, .int .i64 t422, .bool t423, .int .i64 t424, .slice Ao26 t425.length co26] 56 (0, 0)) (blk_ BK463) hb)
                            have n10_ := Aside0.mk (below_step (bel_ HB) hb)
                            clear HO427
                            clear HO436
                            clear HO441
                            clear HO445
                            clear HO450
                            clear HO459
                            clear BK437
                            clear BK438
                            clear BK462
                            clear BK463
                            clear HB
                            have HO427 := n0_
                            have HO436 := n1_
                            have HO441 := n2_
                            have HO445 := n3_
                            have HO450 := n4_
                            have HO459 := n5_
                            have BK437 := n6_
                            have BK438 := n7_
                            have BK462 := n8_
                            have BK463 := n9_
                            have HB := n10_
                            clear n0_ n1_ n2_ n3_ n4_ n5_ n6_ n7_ n8_ n9_ n10_
                            (try clear hb)
                            (try clear hb2)
                            (try clear hk)
                            (try clear hi)
                            refine hK.out _ _ ⟨(blk_cell BK462.out 0).trans rfl, (blk_cell BK462.out 1).trans rfl, (blk_cell BK462.out 2).trans rfl, (blk_cell BK462.out 3).trans rfl, (blk_cell BK462.out 4).trans rfl, (blk_cell BK462.out 5).trans rfl, (blk_cell BK462.out 6).trans rfl, (blk_cell BK463.out 0).trans rfl, (blk_cell BK463.out 1).trans rfl, (blk_cell BK463.out 2).trans rfl, (blk_cell BK463.out 3).trans rfl, (blk_cell BK463.out 4).trans rfl, (blk_cell BK463.out 5).trans rfl, (blk_cell BK463.out 6).trans rfl, (blk_cell BK437.out 0).trans rfl, (blk_cell BK437.out 1).trans rfl, (blk_cell BK437.out 2).trans rfl, (blk_cell BK437.out 3).trans rfl, (blk_cell BK437.out 4).trans rfl, (blk_cell BK437.out 5).trans rfl, (blk_cell BK437.out 6).trans rfl, (blk_cell BK438.out 0).trans rfl, (blk_cell BK438.out 1).trans rfl, (blk_cell BK438.out 2).trans rfl, (blk_cell BK438.out 3).trans rfl, (blk_cell BK438.out 4).trans rfl, (blk_cell BK438.out 5).trans rfl, (blk_cell BK438.out 6).trans rfl⟩ (fun hHeld => ?_)
                            clear hK K
                            refine norm_ (a' := ?_) ?_ ?_
                            rotate_left
                            · show Act.put _ (some 88) _ = _
                              simp only [Act.put, List.setIfInBounds_toArray, List.set_cons_zero, List.set_cons_succ, i64_w, i32_w]
                              rfl
                            exact norm_ (by first | (simp only [putAll, Act.put, List.setIfInBounds_toArray, List.set_cons_zero, List.set_cons_succ]; done) | (simp only [putAll, Act.put, List.setIfInBounds_toArray, List.set_cons_zero, List.set_cons_succ]; rfl)) (hJ27_33 () _ ⟨hHeld, (rgo_ HO427), (rgo_ HO436), (rgo_ HO441), (rgo_ HO445), (rgo_ HO450), (rgo_ HO459), (blk_ BK437), (blk_ BK438), (blk_ BK462), (blk_ BK463), (bel_ HB)⟩)
                      · skip
                        rintro _ w52 ⟨hS_, h0_, h1_, h2_, h3_, h4_, h5_, h6_, h7_, h8_, h9_, h10_⟩
                        have n0_ : Aside0 (Kd.R k71 71 w52 w.heap.size (fun k_ => some k_ ≠ (.slice Ao28 t434.length co28 : Value).ownBlock ∧ some k_ ≠ (.slice Ao40 t457.length co40 : Value).ownBlock) (.slice Ao26 t425.length co26) t425) := ⟨h0_⟩
                        have n1_ : Aside0 (Kd.R k71 71 w52 w.heap.size (fun k_ => some k_ ≠ (.slice Ao26 t425.length co26 : Value).ownBlock ∧ some k_ ≠ (.slice Ao40 t457.length co40 : Value).ownBlock) (.slice Ao28 t434.length co28) t434) := ⟨h1_⟩
                        have n2_ : Aside0 (Kd.R (Kd.int .u8) 5 w52 w.heap.size (fun k_ => some k_ ≠ (v444 : Value).ownBlock ∧ some k_ ≠ (.slice Ao34 t447.length co34 : Value).ownBlock) (.slice Ao32 t439.length co32) t439) := ⟨h2_⟩
                        have n3_ : Aside0 (Kd.R (Kd.int .u8) 5 w52 w.heap.size (fun k_ => some k_ ≠ (.slice Ao32 t439.length co32 : Value).ownBlock ∧ some k_ ≠ (.slice Ao34 t447.length co34 : Value).ownBlock) v444 t443) := ⟨h3_⟩
                        have n4_ : Aside0 (Kd.R (Kd.int .u8) 5 w52 w.heap.size (fun k_ => some k_ ≠ (.slice Ao32 t439.length co32 : Value).ownBlock ∧ some k_ ≠ (v444 : Value).ownBlock) (.slice Ao34 t447.length co34) t447) := ⟨h4_⟩
                        have n5_ : Aside0 (Kd.R k71 71 w52 w.heap.size (fun k_ => some k_ ≠ (.slice Ao26 t425.length co26 : Value).ownBlock ∧ some k_ ≠ (.slice Ao28 t434.length co28 : Value).ownBlock) (.slice Ao40 t457.length co40) t457) := ⟨h5_⟩
                        have n6_ : Aside0 (w52.heap[gb437]? = some (.cells #[.int .i64 t419, .int .i64 t420, .int .i64 t421, .int .i64 t422, .bool t423, .int .i64 t424, .slice Ao26 t425.length co26] 56 (0, 0))) := ⟨h6_⟩
                        have n7_ : Aside0 (w52.heap[gb438]? = some (.cells #[.int .i64 t428, .int .i64 t429, .int .i64 t430, .int .i64 t431, .bool t432, .int .i64 t433, .slice Ao28 t434.length co28] 56 (0, 0))) := ⟨h7_⟩
                        have n8_ : Aside0 (w52.heap[gb462]? = some (.cells #[.int .i64 t451, .int .i64 t452, .int .i64 t453, .int .i64 t454, .bool t455, .int .i64 t456, .slice Ao40 t457.length co40] 56 (0, 0))) := ⟨h8_⟩
                        have n9_ : Aside0 (w52.heap[gb463]? = some (.cells #[.int .i64 (Go.bits .and .i64 a2 1099511627775), .int .i64 t420, .int .i64 t421, .int .i64 t422, .bool t423, .int .i64 t424, .slice Ao26 t425.length co26] 56 (0, 0))) := ⟨h9_⟩
                        have n10_ : Aside0 (Below w.heap.size w w52) := ⟨h10_⟩
                        clear HO427
                        clear HO436
                        clear HO441
                        clear HO445
                        clear HO450
                        clear HO459
                        clear BK437
                        clear BK438
                        clear BK462
                        clear BK463
                        clear HB
                        clear h0_ h1_ h2_ h3_ h4_ h5_ h6_ h7_ h8_ h9_ h10_
                        have HO427 := n0_
                        have HO436 := n1_
                        have HO441 := n2_
                        have HO445 := n3_
                        have HO450 := n4_
                        have HO459 := n5_
                        have BK437 := n6_
                        have BK438 := n7_
                        have BK462 := n8_
                        have BK463 := n9_
                        have HB := n10_
                        clear n0_ n1_ n2_ n3_ n4_ n5_ n6_ n7_ n8_ n9_ n10_
                        have hHeld : w52.cell? ⟨gb462, 0, none⟩ = some (.int .i64 t451) ∧ w52.cell? ⟨gb462, 1, none⟩ = some (.int .i64 t452) ∧ w52.cell? ⟨gb462, 2, none⟩ = some (.int .i64 t453) ∧ w52.cell? ⟨gb462, 3, none⟩ = some (.int .i64 t454) ∧ w52.cell? ⟨gb462, 4, none⟩ = some (.bool t455) ∧ w52.cell? ⟨gb462, 5, none⟩ = some (.int .i64 t456) ∧ w52.cell? ⟨gb462, 6, none⟩ = some (.slice Ao40 t457.length co40) ∧ w52.cell? ⟨gb463, 0, none⟩ = some (.int .i64 (Go.bits .and .i64 a2 1099511627775)) ∧ w52.cell? ⟨gb463, 1, none⟩ = some (.int .i64 t420) ∧ w52.cell? ⟨gb463, 2, none⟩ = some (.int .i64 t421) ∧ w52.cell? ⟨gb463, 3, none⟩ = some (.int .i64 t422) ∧ w52.cell? ⟨gb463, 4, none⟩ = some (.bool t423) ∧ w52.cell? ⟨gb463, 5, none⟩ = some (.int .i64 t424) ∧ w52.cell? ⟨gb463, 6, none⟩ = some (.slice Ao26 t425.length co26) ∧ w52.cell? ⟨gb437, 0, none⟩ = some (.int .i64 t419) ∧ w52.cell? ⟨gb437, 1, none⟩ = some (.int .i64 t420) ∧ w52.cell? ⟨gb437, 2, none⟩ = some (.int .i64 t421) ∧ w52.cell? ⟨gb437, 3, none⟩ = some (.int .i64 t422) ∧ w52.cell? ⟨gb437, 4, none⟩ = some (.bool t423) ∧ w52.cell? ⟨gb437, 5, none⟩ = some (.int .i64 t424) ∧ w52.cell? ⟨gb437, 6, none⟩ = some (.slice Ao26 t425.length co26) ∧ w52.cell? ⟨gb438, 0, none⟩ = some (.int .i64 t428) ∧ w52.cell? ⟨gb438, 1, none⟩ = some (.int .i64 t429) ∧ w52.cell? ⟨gb438, 2, none⟩ = some (.int .i64 t430) ∧ w52.cell? ⟨gb438, 3, none⟩ = some (.int .i64 t431) ∧ w52.cell? ⟨gb438, 4, none⟩ = some (.bool t432) ∧ w52.cell? ⟨gb438, 5, none⟩ = some (.int .i64 t433) ∧ w52.cell? ⟨gb438, 6, none⟩ = some (.slice Ao28 t434.length co28) := hS_
                        refine norm_ (a' := ?_) ?_ ?_
                        rotate_left
                        · simp only [putAll, Act.put, List.setIfInBounds_toArray, List.set_cons_zero, List.set_cons_succ]
                          rfl
                        refine one_ (i := 27) (N := some 82) #[true, true, true, true, true, true, true, true, true, true, true, true, true, true, true, true, true, true, true, true, true, true, true, true, true, true, true, true, true, true, false, true, true, true, false, false, false, false, false, false] rfl rfl (one_of HT_.out (by kernel_rfl)) (by decide) (fun K hK => ?_)
                        have hcv53 := own_string (P := Try.prog) Try.underlying34 Try.underlying5 Try.underlying9 (Kd.own_of_R HO441.out)
                        refine value_ (w1 := ?_) (v := ?_) (by rfl) rfl ?_ ?_
                        rotate_left 2
                        · go_simp
                          constructor
                          · rfl
                          · rfl
                        clear hcv53
                        refine hK.out _ _ ⟨(blk_cell BK462.out 0).trans rfl, (blk_cell BK462.out 1).trans rfl, (blk_cell BK462.out 2).trans rfl, (blk_cell BK462.out 3).trans rfl, (blk_cell BK462.out 4).trans rfl, (blk_cell BK462.out 5).trans rfl, (blk_cell BK462.out 6).trans rfl, (blk_cell BK463.out 0).trans rfl, (blk_cell BK463.out 1).trans rfl, (blk_cell BK463.out 2).trans rfl, (blk_cell BK463.out 3).trans rfl, (blk_cell BK463.out 4).trans rfl, (blk_cell BK463.out 5).trans rfl, (blk_cell BK463.out 6).trans rfl, (blk_cell BK437.out 0).trans rfl, (blk_cell BK437.out 1).trans rfl, (blk_cell BK437.out 2).trans rfl, (blk_cell BK437.out 3).trans rfl, (blk_cell BK437.out 4).trans rfl, (blk_cell BK437.out 5).trans rfl, (blk_cell BK437.out 6).trans rfl, (blk_cell BK438.out 0).trans rfl, (blk_cell BK438.out 1).trans rfl, (blk_cell BK438.out 2).trans rfl, (blk_cell BK438.out 3).trans rfl, (blk_cell BK438.out 4).trans rfl, (blk_cell BK438.out 5).trans rfl, (blk_cell BK438.out 6).trans rfl⟩ (fun hHeld => ?_)
                        clear hK K
                        refine norm_ (a' := ?_) ?_ ?_
                        rotate_left
                        · show Act.put _ (some 82) _ = _
                          simp only [Act.put, List.setIfInBounds_toArray, List.set_cons_zero, List.set_cons_succ, i64_w, i32_w]
                          rfl
                        refine pure_ (i := 30) (N := some 85) (v := ?_) (a' := ?_) #[true, true, true, true, true, true, true, true, true, true, true, true, true, true, true, true, true, true, true, true, true, true, true, true, true, true, true, true, true, true, true, true, true, true, false, false, false, false, false, false] rfl rfl (any_of HT_.out (by kernel_rfl)) (fun _ _ _ h => h) (Or.inl ⟨by rfl, ?_⟩) ?_ ?_
                        rotate_left
                        · intro w'
                          go_simp
                          with_reducible rfl
                        rotate_left
                        · simp only [Act.put, List.setIfInBounds_toArray, List.set_cons_zero, List.set_cons_succ, i64_w, i32_w]
                          rfl
                        exact norm_ (by first | (simp only [putAll, Act.put, List.setIfInBounds_toArray, List.set_cons_zero, List.set_cons_succ]; done) | (simp only [putAll, Act.put, List.setIfInBounds_toArray, List.set_cons_zero, List.set_cons_succ]; rfl)) (hJ27_29_33 () _ ⟨hHeld, (rgo_ HO427), (rgo_ HO436), (rgo_ HO441), (rgo_ HO445), (rgo_ HO450), (rgo_ HO459), (blk_ BK437), (blk_ BK438), (blk_ BK462), (blk_ BK463), (bel_ HB)⟩)
                    · skip
                      rintro _ w52 ⟨hS_, h0_, h1_, h2_, h3_, h4_, h5_, h6_, h7_, h8_, h9_, h10_⟩
                      have n0_ : Aside0 (Kd.R k71 71 w52 w.heap.size (fun k_ => some k_ ≠ (.slice Ao28 t434.length co28 : Value).ownBlock ∧ some k_ ≠ (.slice Ao40 t457.length co40 : Value).ownBlock) (.slice Ao26 t425.length co26) t425) := ⟨h0_⟩
                      have n1_ : Aside0 (Kd.R k71 71 w52 w.heap.size (fun k_ => some k_ ≠ (.slice Ao26 t425.length co26 : Value).ownBlock ∧ some k_ ≠ (.slice Ao40 t457.length co40 : Value).ownBlock) (.slice Ao28 t434.length co28) t434) := ⟨h1_⟩
                      have n2_ : Aside0 (Kd.R (Kd.int .u8) 5 w52 w.heap.size (fun k_ => some k_ ≠ (v444 : Value).ownBlock ∧ some k_ ≠ (.slice Ao34 t447.length co34 : Value).ownBlock) (.slice Ao32 t439.length co32) t439) := ⟨h2_⟩
                      have n3_ : Aside0 (Kd.R (Kd.int .u8) 5 w52 w.heap.size (fun k_ => some k_ ≠ (.slice Ao32 t439.length co32 : Value).ownBlock ∧ some k_ ≠ (.slice Ao34 t447.length co34 : Value).ownBlock) v444 t443) := ⟨h3_⟩
                      have n4_ : Aside0 (Kd.R (Kd.int .u8) 5 w52 w.heap.size (fun k_ => some k_ ≠ (.slice Ao32 t439.length co32 : Value).ownBlock ∧ some k_ ≠ (v444 : Value).ownBlock) (.slice Ao34 t447.length co34) t447) := ⟨h4_⟩
                      have n5_ : Aside0 (Kd.R k71 71 w52 w.heap.size (fun k_ => some k_ ≠ (.slice Ao26 t425.length co26 : Value).ownBlock ∧ some k_ ≠ (.slice Ao28 t434.length co28 : Value).ownBlock) (.slice Ao40 t457.length co40) t457) := ⟨h5_⟩
                      have n6_ : Aside0 (w52.heap[gb437]? = some (.cells #[.int .i64 t419, .int .i64 t420, .int .i64 t421, .int .i64 t422, .bool t423, .int .i64 t424, .slice Ao26 t425.length co26] 56 (0, 0))) := ⟨h6_⟩
                      have n7_ : Aside0 (w52.heap[gb438]? = some (.cells #[.int .i64 t428, .int .i64 t429, .int .i64 t430, .int .i64 t431, .bool t432, .int .i64 t433, .slice Ao28 t434.length co28] 56 (0, 0))) := ⟨h7_⟩
                      have n8_ : Aside0 (w52.heap[gb462]? = some (.cells #[.int .i64 t451, .int .i64 t452, .int .i64 t453, .int .i64 t454, .bool t455, .int .i64 t456, .slice Ao40 t457.length co40] 56 (0, 0))) := ⟨h8_⟩
                      have n9_ : Aside0 (w52.heap[gb463]? = some (.cells #[.int .i64 (Go.bits .and .i64 a2 1099511627775), .int .i64 t420, .int .i64 t421, .int .i64 t422, .bool t423, .int .i64 t424, .slice Ao26 t425.length co26] 56 (0, 0))) := ⟨h9_⟩
                      have n10_ : Aside0 (Below w.heap.size w w52) := ⟨h10_⟩
                      clear HO427
                      clear HO436
                      clear HO441
                      clear HO445
                      clear HO450
                      clear HO459
                      clear BK437
                      clear BK438
                      clear BK462
                      clear BK463
                      clear HB
                      clear h0_ h1_ h2_ h3_ h4_ h5_ h6_ h7_ h8_ h9_ h10_
                      have HO427 := n0_
                      have HO436 := n1_
                      have HO441 := n2_
                      have HO445 := n3_
                      have HO450 := n4_
                      have HO459 := n5_
                      have BK437 := n6_
                      have BK438 := n7_
                      have BK462 := n8_
                      have BK463 := n9_
                      have HB := n10_
                      clear n0_ n1_ n2_ n3_ n4_ n5_ n6_ n7_ n8_ n9_ n10_
                      have hHeld : w52.cell? ⟨gb462, 0, none⟩ = some (.int .i64 t451) ∧ w52.cell? ⟨gb462, 1, none⟩ = some (.int .i64 t452) ∧ w52.cell? ⟨gb462, 2, none⟩ = some (.int .i64 t453) ∧ w52.cell? ⟨gb462, 3, none⟩ = some (.int .i64 t454) ∧ w52.cell? ⟨gb462, 4, none⟩ = some (.bool t455) ∧ w52.cell? ⟨gb462, 5, none⟩ = some (.int .i64 t456) ∧ w52.cell? ⟨gb462, 6, none⟩ = some (.slice Ao40 t457.length co40) ∧ w52.cell? ⟨gb463, 0, none⟩ = some (.int .i64 (Go.bits .and .i64 a2 1099511627775)) ∧ w52.cell? ⟨gb463, 1, none⟩ = some (.int .i64 t420) ∧ w52.cell? ⟨gb463, 2, none⟩ = some (.int .i64 t421) ∧ w52.cell? ⟨gb463, 3, none⟩ = some (.int .i64 t422) ∧ w52.cell? ⟨gb463, 4, none⟩ = some (.bool t423) ∧ w52.cell? ⟨gb463, 5, none⟩ = some (.int .i64 t424) ∧ w52.cell? ⟨gb463, 6, none⟩ = some (.slice Ao26 t425.length co26) ∧ w52.cell? ⟨gb437, 0, none⟩ = some (.int .i64 t419) ∧ w52.cell? ⟨gb437, 1, none⟩ = some (.int .i64 t420) ∧ w52.cell? ⟨gb437, 2, none⟩ = some (.int .i64 t421) ∧ w52.cell? ⟨gb437, 3, none⟩ = some (.int .i64 t422) ∧ w52.cell? ⟨gb437, 4, none⟩ = some (.bool t423) ∧ w52.cell? ⟨gb437, 5, none⟩ = some (.int .i64 t424) ∧ w52.cell? ⟨gb437, 6, none⟩ = some (.slice Ao26 t425.length co26) ∧ w52.cell? ⟨gb438, 0, none⟩ = some (.int .i64 t428) ∧ w52.cell? ⟨gb438, 1, none⟩ = some (.int .i64 t429) ∧ w52.cell? ⟨gb438, 2, none⟩ = some (.int .i64 t430) ∧ w52.cell? ⟨gb438, 3, none⟩ = some (.int .i64 t431) ∧ w52.cell? ⟨gb438, 4, none⟩ = some (.bool t432) ∧ w52.cell? ⟨gb438, 5, none⟩ = some (.int .i64 t433) ∧ w52.cell? ⟨gb438, 6, none⟩ = some (.slice Ao28 t434.length co28) := hS_
                      refine norm_ (a' := ?_) ?_ ?_
                      rotate_left
                      · simp only [putAll, Act.put, List.setIfInBounds_toArray, List.set_cons_zero, List.set_cons_succ]
                        rfl
                      refine one_ (i := 29) (N := some 84) #[true, true, true, true, true, true, true, true, true, true, true, true, true, true, true, true, true, true, true, true, true, true, true, true, true, true, true, true, true, true, false, true, true, true, false, false, false, false, false, false] rfl rfl (one_of HT_.out (by kernel_rfl)) (by decide) (fun K hK => ?_)
                      have hcv53 := own_string (P := Try.prog) Try.underlying34 Try.underlying5 Try.underlying9 (Kd.own_of_R HO445.out)
                      refine value_ (w1 := ?_) (v := ?_) (by rfl) rfl ?_ ?_
                      rotate_left 2
                      · go_simp
                        constructor
                        · rfl
                        · rfl
                      clear hcv53
                      refine hK.out _ _ ⟨(blk_cell BK462.out 0).trans rfl, (blk_cell BK462.out 1).trans rfl, (blk_cell BK462.out 2).trans rfl, (blk_cell BK462.out 3).trans rfl, (blk_cell BK462.out 4).trans rfl, (blk_cell BK462.out 5).trans rfl, (blk_cell BK462.out 6).trans rfl, (blk_cell BK463.out 0).trans rfl, (blk_cell BK463.out 1).trans rfl, (blk_cell BK463.out 2).trans rfl, (blk_cell BK463.out 3).trans rfl, (blk_cell BK463.out 4).trans rfl, (blk_cell BK463.out 5).trans rfl, (blk_cell BK463.out 6).trans rfl, (blk_cell BK437.out 0).trans rfl, (blk_cell BK437.out 1).trans rfl, (blk_cell BK437.out 2).trans rfl, (blk_cell BK437.out 3).trans rfl, (blk_cell BK437.out 4).trans rfl, (blk_cell BK437.out 5).trans rfl, (blk_cell BK437.out 6).trans rfl, (blk_cell BK438.out 0).trans rfl, (blk_cell BK438.out 1).trans rfl, (blk_cell BK438.out 2).trans rfl, (blk_cell BK438.out 3).trans rfl, (blk_cell BK438.out 4).trans rfl, (blk_cell BK438.out 5).trans rfl, (blk_cell BK438.out 6).trans rfl⟩ (fun hHeld => ?_)
                      clear hK K
                      refine norm_ (a' := ?_) ?_ ?_
                      rotate_left
                      · show Act.put _ (some 84) _ = _
                        simp only [Act.put, List.setIfInBounds_toArray, List.set_cons_zero, List.set_cons_succ, i64_w, i32_w]
                        rfl
                      refine pure_ (i := 30) (N := some 85) (v := ?_) (a' := ?_) #[true, true, true, true, true, true, true, true, true, true, true, true, true, true, true, true, true, true, true, true, true, true, true, true, true, true, true, true, true, true, true, true, true, true, false, false, false, false, false, false] rfl rfl (any_of HT_.out (by kernel_rfl)) (fun _ _ _ h => h) (Or.inl ⟨by rfl, ?_⟩) ?_ ?_
                      rotate_left
                      · intro w'
                        go_simp
                        with_reducible rfl
                      rotate_left
                      · simp only [Act.put, List.setIfInBounds_toArray, List.set_cons_zero, List.set_cons_succ, i64_w, i32_w]
                        rfl
                      exact norm_ (by first | (simp only [putAll, Act.put, List.setIfInBounds_toArray, List.set_cons_zero, List.set_cons_succ]; done) | (simp only [putAll, Act.put, List.setIfInBounds_toArray, List.set_cons_zero, List.set_cons_succ]; rfl)) (hJ27_29_33 () _ ⟨hHeld, (rgo_ HO427), (rgo_ HO436), (rgo_ HO441), (rgo_ HO445), (rgo_ HO450), (rgo_ HO459), (blk_ BK437), (blk_ BK438), (blk_ BK462), (blk_ BK463), (bel_ HB)⟩)
                  · skip
                    rintro _ w52 ⟨hS_, h0_, h1_, h2_, h3_, h4_, h5_, h6_, h7_, h8_, h9_, h10_⟩
                    have n0_ : Aside0 (Kd.R k71 71 w52 w.heap.size (fun k_ => some k_ ≠ (.slice Ao28 t434.length co28 : Value).ownBlock ∧ some k_ ≠ (.slice Ao40 t457.length co40 : Value).ownBlock) (.slice Ao26 t425.length co26) t425) := ⟨h0_⟩
                    have n1_ : Aside0 (Kd.R k71 71 w52 w.heap.size (fun k_ => some k_ ≠ (.slice Ao26 t425.length co26 : Value).ownBlock ∧ some k_ ≠ (.slice Ao40 t457.length co40 : Value).ownBlock) (.slice Ao28 t434.length co28) t434) := ⟨h1_⟩
                    have n2_ : Aside0 (Kd.R (Kd.int .u8) 5 w52 w.heap.size (fun k_ => some k_ ≠ (v444 : Value).ownBlock ∧ some k_ ≠ (.slice Ao34 t447.length co34 : Value).ownBlock) (.slice Ao32 t439.length co32) t439) := ⟨h2_⟩
                    have n3_ : Aside0 (Kd.R (Kd.int .u8) 5 w52 w.heap.size (fun k_ => some k_ ≠ (.slice Ao32 t439.length co32 : Value).ownBlock ∧ some k_ ≠ (.slice Ao34 t447.length co34 : Value).ownBlock) v444 t443) := ⟨h3_⟩
                    have n4_ : Aside0 (Kd.R (Kd.int .u8) 5 w52 w.heap.size (fun k_ => some k_ ≠ (.slice Ao32 t439.length co32 : Value).ownBlock ∧ some k_ ≠ (v444 : Value).ownBlock) (.slice Ao34 t447.length co34) t447) := ⟨h4_⟩
                    have n5_ : Aside0 (Kd.R k71 71 w52 w.heap.size (fun k_ => some k_ ≠ (.slice Ao26 t425.length co26 : Value).ownBlock ∧ some k_ ≠ (.slice Ao28 t434.length co28 : Value).ownBlock) (.slice Ao40 t457.length co40) t457) := ⟨h5_⟩
                    have n6_ : Aside0 (w52.heap[gb437]? = some (.cells #[.int .i64 t419, .int .i64 t420, .int .i64 t421, .int .i64 t422, .bool t423, .int .i64 t424, .slice Ao26 t425.length co26] 56 (0, 0))) := ⟨h6_⟩
                    have n7_ : Aside0 (w52.heap[gb438]? = some (.cells #[.int .i64 t428, .int .i64 t429, .int .i64 t430, .int .i64 t431, .bool t432, .int .i64 t433, .slice Ao28 t434.length co28] 56 (0, 0))) := ⟨h7_⟩
                    have n8_ : Aside0 (w52.heap[gb462]? = some (.cells #[.int .i64 t451, .int .i64 t452, .int .i64 t453, .int .i64 t454, .bool t455, .int .i64 t456, .slice Ao40 t457.length co40] 56 (0, 0))) := ⟨h8_⟩
                    have n9_ : Aside0 (w52.heap[gb463]? = some (.cells #[.int .i64 (Go.bits .and .i64 a2 1099511627775), .int .i64 t420, .int .i64 t421, .int .i64 t422, .bool t423, .int .i64 t424, .slice Ao26 t425.length co26] 56 (0, 0))) := ⟨h9_⟩
                    have n10_ : Aside0 (Below w.heap.size w w52) := ⟨h10_⟩
                    clear HO427
                    clear HO436
                    clear HO441
                    clear HO445
                    clear HO450
                    clear HO459
                    clear BK437
                    clear BK438
                    clear BK462
                    clear BK463
                    clear HB
                    clear h0_ h1_ h2_ h3_ h4_ h5_ h6_ h7_ h8_ h9_ h10_
                    have HO427 := n0_
                    have HO436 := n1_
                    have HO441 := n2_
                    have HO445 := n3_
                    have HO450 := n4_
                    have HO459 := n5_
                    have BK437 := n6_
                    have BK438 := n7_
                    have BK462 := n8_
                    have BK463 := n9_
                    have HB := n10_
                    clear n0_ n1_ n2_ n3_ n4_ n5_ n6_ n7_ n8_ n9_ n10_
                    have hHeld : w52.cell? ⟨gb462, 0, none⟩ = some (.int .i64 t451) ∧ w52.cell? ⟨gb462, 1, none⟩ = some (.int .i64 t452) ∧ w52.cell? ⟨gb462, 2, none⟩ = some (.int .i64 t453) ∧ w52.cell? ⟨gb462, 3, none⟩ = some (.int .i64 t454) ∧ w52.cell? ⟨gb462, 4, none⟩ = some (.bool t455) ∧ w52.cell? ⟨gb462, 5, none⟩ = some (.int .i64 t456) ∧ w52.cell? ⟨gb462, 6, none⟩ = some (.slice Ao40 t457.length co40) ∧ w52.cell? ⟨gb463, 0, none⟩ = some (.int .i64 (Go.bits .and .i64 a2 1099511627775)) ∧ w52.cell? ⟨gb463, 1, none⟩ = some (.int .i64 t420) ∧ w52.cell? ⟨gb463, 2, none⟩ = some (.int .i64 t421) ∧ w52.cell? ⟨gb463, 3, none⟩ = some (.int .i64 t422) ∧ w52.cell? ⟨gb463, 4, none⟩ = some (.bool t423) ∧ w52.cell? ⟨gb463, 5, none⟩ = some (.int .i64 t424) ∧ w52.cell? ⟨gb463, 6, none⟩ = some (.slice Ao26 t425.length co26) ∧ w52.cell? ⟨gb437, 0, none⟩ = some (.int .i64 t419) ∧ w52.cell? ⟨gb437, 1, none⟩ = some (.int .i64 t420) ∧ w52.cell? ⟨gb437, 2, none⟩ = some (.int .i64 t421) ∧ w52.cell? ⟨gb437, 3, none⟩ = some (.int .i64 t422) ∧ w52.cell? ⟨gb437, 4, none⟩ = some (.bool t423) ∧ w52.cell? ⟨gb437, 5, none⟩ = some (.int .i64 t424) ∧ w52.cell? ⟨gb437, 6, none⟩ = some (.slice Ao26 t425.length co26) ∧ w52.cell? ⟨gb438, 0, none⟩ = some (.int .i64 t428) ∧ w52.cell? ⟨gb438, 1, none⟩ = some (.int .i64 t429) ∧ w52.cell? ⟨gb438, 2, none⟩ = some (.int .i64 t430) ∧ w52.cell? ⟨gb438, 3, none⟩ = some (.int .i64 t431) ∧ w52.cell? ⟨gb438, 4, none⟩ = some (.bool t432) ∧ w52.cell? ⟨gb438, 5, none⟩ = some (.int .i64 t433) ∧ w52.cell? ⟨gb438, 6, none⟩ = some (.slice Ao28 t434.length co28) := hS_
                    refine norm_ (a' := ?_) ?_ ?_
                    rotate_left
                    · simp only [putAll, Act.put, List.setIfInBounds_toArray, List.set_cons_zero, List.set_cons_succ]
                      rfl
                    refine one_ (i := 33) (N := some 88) #[true, true, true, true, true, true, true, true, true, true, true, true, true, true, true, true, true, true, true, true, true, true, true, true, true, true, true, true, true, true, true, true, true, true, false, false, false, false, false, false] rfl rfl (one_of HT_.out (by kernel_rfl)) (by decide) (fun K hK => ?_)
                    refine goes_ Try.func48 (by kernel_rfl) rfl #[.agg #[.int .i64 t419, .int .i64 t420, .int .i64 t421, .int .i64 t422, .bool t423, .int .i64 t424, .slice Ao26 t425.length co26], .agg #[.int .i64 t428, .int .i64 t429, .int .i64 t430, .int .i64 t431, .bool t432, .int .i64 t433, .slice Ao28 t434.length co28]] (by rfl) rfl rfl (by (try simp only [List.map_toArray, List.map_cons, List.map_nil]); first | done | rfl | (simp only [List.length_drop, List.length_take]; rfl)) ?_
                    with_reducible refine (bordereauref6_Same.calls k t419 t420 t421 t422 t423 t424 _ _ t425 t428 t429 t430 t431 t432 t433 _ _ t434 t465 _ ?side1 ?side2 ?side3 ?side4 A17.out).mono ?_
                    (case side1 => exact cgo_ ((Kd.R_reads' HO427.out).2.2))
                    (case side2 => exact (Kd.R_reads' HO427.out).2.1)
                    (case side3 => exact cgo_ ((Kd.R_reads' HO436.out).2.2))
                    (case side4 => exact (Kd.R_reads' HO436.out).2.1)
                    rintro e w53 ⟨rfl, hb⟩
                    refine ⟨_, rfl, ?_⟩
                    have n0_ := Aside0.mk (Kd.R_below (rgo_ HO427) hb)
                    have n1_ := Aside0.mk (Kd.R_below (rgo_ HO436) hb)
                    have n2_ := Aside0.mk (Kd.R_below (rgo_ HO441) hb)
                    have n3_ := Aside0.mk (Kd.R_below (rgo_ HO445) hb)
                    have n4_ := Aside0.mk (Kd.R_below (rgo_ HO450) hb)
                    have n5_ := Aside0.mk (Kd.R_below (rgo_ HO459) hb)
                    have n6_ := Aside0.mk (blk_below (g := gb437) (o := .cells #[.int .i64 t419, .int .i64 t420, .int .i64 t421, .int .i64 t422, .bool t423, .int .i64 t424, .slice Ao26 t425.length co26] 56 (0, 0)) (blk_ BK437) hb)
                    have n7_ := Aside0.mk (blk_below (g := gb438) (o := .cells #[.int .i64 t428, .int .i64 t429, .int .i64 t430, .int .i64 t431, .bool t432, .int .i64 t433, .slice Ao28 t434.length co28] 56 (0, 0)) (blk_ BK438) hb)
                    have n8_ := Aside0.mk (blk_below (g := gb462) (o := .cells #[.int .i64 t451, .int .i64 t452, .int .i64 t453, .int .i64 t454, .bool t455, .int .i64 t456, .slice Ao40 t457.length co40] 56 (0, 0)) (blk_ BK462) hb)
                    have n9_ := Aside0.mk (blk_below (g := gb463) (o := .cells #[.int .i64 (Go.bits .and .i64 a2 1099511627775), .int .i64 t420, .int .i64 t421, .int .i64 t422, .bool t423, .int .i64 t424, .slice Ao26 t425.length co26] 56 (0, 0)) (blk_ BK463) hb)
                    have n10_ := Aside0.mk (below_step (bel_ HB) hb)
                    clear HO427
                    clear HO436
                    clear HO441
                    clear HO445
                    clear HO450
                    clear HO459
                    clear BK437
                    clear BK438
                    clear BK462
                    clear BK463
                    clear HB
                    have HO427 := n0_
                    have HO436 := n1_
                    have HO441 := n2_
                    have HO445 := n3_
                    have HO450 := n4_
                    have HO459 := n5_
                    have BK437 := n6_
                    have BK438 := n7_
                    have BK462 := n8_
                    have BK463 := n9_
                    have HB := n10_
                    clear n0_ n1_ n2_ n3_ n4_ n5_ n6_ n7_ n8_ n9_ n10_
                    (try clear hb)
                    (try clear hb2)
                    (try clear hk)
                    (try clear hi)
                    refine hK.out _ _ ⟨(blk_cell BK462.out 0).trans rfl, (blk_cell BK462.out 1).trans rfl, (blk_cell BK462.out 2).trans rfl, (blk_cell BK462.out 3).trans rfl, (blk_cell BK462.out 4).trans rfl, (blk_cell BK462.out 5).trans rfl, (blk_cell BK462.out 6).trans rfl, (blk_cell BK463.out 0).trans rfl, (blk_cell BK463.out 1).trans rfl, (blk_cell BK463.out 2).trans rfl, (blk_cell BK463.out 3).trans rfl, (blk_cell BK463.out 4).trans rfl, (blk_cell BK463.out 5).trans rfl, (blk_cell BK463.out 6).trans rfl, (blk_cell BK437.out 0).trans rfl, (blk_cell BK437.out 1).trans rfl, (blk_cell BK437.out 2).trans rfl, (blk_cell BK437.out 3).trans rfl, (blk_cell BK437.out 4).trans rfl, (blk_cell BK437.out 5).trans rfl, (blk_cell BK437.out 6).trans rfl, (blk_cell BK438.out 0).trans rfl, (blk_cell BK438.out 1).trans rfl, (blk_cell BK438.out 2).trans rfl, (blk_cell BK438.out 3).trans rfl, (blk_cell BK438.out 4).trans rfl, (blk_cell BK438.out 5).trans rfl, (blk_cell BK438.out 6).trans rfl⟩ (fun hHeld => ?_)
                    clear hK K
                    refine norm_ (a' := ?_) ?_ ?_
                    rotate_left
                    · show Act.put _ (some 88) _ = _
                      simp only [Act.put, List.setIfInBounds_toArray, List.set_cons_zero, List.set_cons_succ, i64_w, i32_w]
                      rfl
                    exact norm_ (by first | (simp only [putAll, Act.put, List.setIfInBounds_toArray, List.set_cons_zero, List.set_cons_succ]; done) | (simp only [putAll, Act.put, List.setIfInBounds_toArray, List.set_cons_zero, List.set_cons_succ]; rfl)) (hJ27_29_33 () _ ⟨hHeld, (rgo_ HO427), (rgo_ HO436), (rgo_ HO441), (rgo_ HO445), (rgo_ HO450), (rgo_ HO459), (blk_ BK437), (blk_ BK438), (blk_ BK462), (blk_ BK463), (bel_ HB)⟩)
                rintro _ w53 ⟨hS_, h0_, h1_, h2_, h3_, h4_, h5_, h6_, h7_, h8_, h9_, h10_⟩
                have n0_ : Aside0 (Kd.R k71 71 w53 w.heap.size (fun k_ => some k_ ≠ (.slice Ao28 t434.length co28 : Value).ownBlock ∧ some k_ ≠ (.slice Ao40 t457.length co40 : Value).ownBlock) (.slice Ao26 t425.length co26) t425) := ⟨h0_⟩
                have n1_ : Aside0 (Kd.R k71 71 w53 w.heap.size (fun k_ => some k_ ≠ (.slice Ao26 t425.length co26 : Value).ownBlock ∧ some k_ ≠ (.slice Ao40 t457.length co40 : Value).ownBlock) (.slice Ao28 t434.length co28) t434) := ⟨h1_⟩
                have n2_ : Aside0 (Kd.R (Kd.int .u8) 5 w53 w.heap.size (fun k_ => some k_ ≠ (v444 : Value).ownBlock ∧ some k_ ≠ (.slice Ao34 t447.length co34 : Value).ownBlock) (.slice Ao32 t439.length co32) t439) := ⟨h2_⟩
                have n3_ : Aside0 (Kd.R (Kd.int .u8) 5 w53 w.heap.size (fun k_ => some k_ ≠ (.slice Ao32 t439.length co32 : Value).ownBlock ∧ some k_ ≠ (.slice Ao34 t447.length co34 : Value).ownBlock) v444 t443) := ⟨h3_⟩
                have n4_ : Aside0 (Kd.R (Kd.int .u8) 5 w53 w.heap.size (fun k_ => some k_ ≠ (.slice Ao32 t439.length co32 : Value).ownBlock ∧ some k_ ≠ (v444 : Value).ownBlock) (.slice Ao34 t447.length co34) t447) := ⟨h4_⟩
                have n5_ : Aside0 (Kd.R k71 71 w53 w.heap.size (fun k_ => some k_ ≠ (.slice Ao26 t425.length co26 : Value).ownBlock ∧ some k_ ≠ (.slice Ao28 t434.length co28 : Value).ownBlock) (.slice Ao40 t457.length co40) t457) := ⟨h5_⟩
                have n6_ : Aside0 (w53.heap[gb437]? = some (.cells #[.int .i64 t419, .int .i64 t420, .int .i64 t421, .int .i64 t422, .bool t423, .int .i64 t424, .slice Ao26 t425.length co26] 56 (0, 0))) := ⟨h6_⟩
                have n7_ : Aside0 (w53.heap[gb438]? = some (.cells #[.int .i64 t428, .int .i64 t429, .int .i64 t430, .int .i64 t431, .bool t432, .int .i64 t433, .slice Ao28 t434.length co28] 56 (0, 0))) := ⟨h7_⟩
                have n8_ : Aside0 (w53.heap[gb462]? = some (.cells #[.int .i64 t451, .int .i64 t452, .int .i64 t453, .int .i64 t454, .bool t455, .int .i64 t456, .slice Ao40 t457.length co40] 56 (0, 0))) := ⟨h8_⟩
                have n9_ : Aside0 (w53.heap[gb463]? = some (.cells #[.int .i64 (Go.bits .and .i64 a2 1099511627775), .int .i64 t420, .int .i64 t421, .int .i64 t422, .bool t423, .int .i64 t424, .slice Ao26 t425.length co26] 56 (0, 0))) := ⟨h9_⟩
                have n10_ : Aside0 (Below w.heap.size w w53) := ⟨h10_⟩
                clear HO427
                clear HO436
                clear HO441
                clear HO445
                clear HO450
                clear HO459
                clear BK437
                clear BK438
                clear BK462
                clear BK463
                clear HB
                clear h0_ h1_ h2_ h3_ h4_ h5_ h6_ h7_ h8_ h9_ h10_
                have HO427 := n0_
                have HO436 := n1_
                have HO441 := n2_
                have HO445 := n3_
                have HO450 := n4_
                have HO459 := n5_
                have BK437 := n6_
                have BK438 := n7_
                have BK462 := n8_
                have BK463 := n9_
                have HB := n10_
                clear n0_ n1_ n2_ n3_ n4_ n5_ n6_ n7_ n8_ n9_ n10_
                have hHeld : w53.cell? ⟨gb462, 0, none⟩ = some (.int .i64 t451) ∧ w53.cell? ⟨gb462, 1, none⟩ = some (.int .i64 t452) ∧ w53.cell? ⟨gb462, 2, none⟩ = some (.int .i64 t453) ∧ w53.cell? ⟨gb462, 3, none⟩ = some (.int .i64 t454) ∧ w53.cell? ⟨gb462, 4, none⟩ = some (.bool t455) ∧ w53.cell? ⟨gb462, 5, none⟩ = some (.int .i64 t456) ∧ w53.cell? ⟨gb462, 6, none⟩ = some (.slice Ao40 t457.length co40) ∧ w53.cell? ⟨gb463, 0, none⟩ = some (.int .i64 (Go.bits .and .i64 a2 1099511627775)) ∧ w53.cell? ⟨gb463, 1, none⟩ = some (.int .i64 t420) ∧ w53.cell? ⟨gb463, 2, none⟩ = some (.int .i64 t421) ∧ w53.cell? ⟨gb463, 3, none⟩ = some (.int .i64 t422) ∧ w53.cell? ⟨gb463, 4, none⟩ = some (.bool t423) ∧ w53.cell? ⟨gb463, 5, none⟩ = some (.int .i64 t424) ∧ w53.cell? ⟨gb463, 6, none⟩ = some (.slice Ao26 t425.length co26) ∧ w53.cell? ⟨gb437, 0, none⟩ = some (.int .i64 t419) ∧ w53.cell? ⟨gb437, 1, none⟩ = some (.int .i64 t420) ∧ w53.cell? ⟨gb437, 2, none⟩ = some (.int .i64 t421) ∧ w53.cell? ⟨gb437, 3, none⟩ = some (.int .i64 t422) ∧ w53.cell? ⟨gb437, 4, none⟩ = some (.bool t423) ∧ w53.cell? ⟨gb437, 5, none⟩ = some (.int .i64 t424) ∧ w53.cell? ⟨gb437, 6, none⟩ = some (.slice Ao26 t425.length co26) ∧ w53.cell? ⟨gb438, 0, none⟩ = some (.int .i64 t428) ∧ w53.cell? ⟨gb438, 1, none⟩ = some (.int .i64 t429) ∧ w53.cell? ⟨gb438, 2, none⟩ = some (.int .i64 t430) ∧ w53.cell? ⟨gb438, 3, none⟩ = some (.int .i64 t431) ∧ w53.cell? ⟨gb438, 4, none⟩ = some (.bool t432) ∧ w53.cell? ⟨gb438, 5, none⟩ = some (.int .i64 t433) ∧ w53.cell? ⟨gb438, 6, none⟩ = some (.slice Ao28 t434.length co28) := hS_
                refine norm_ (a' := ?_) ?_ ?_
                rotate_left
                · simp only [putAll, Act.put, List.setIfInBounds_toArray, List.set_cons_zero, List.set_cons_succ]
                  rfl
                refine pure_ (i := 34) (N := some 89) (v := ?_) (a' := ?_) #[true, true, true, true, true, true, true, true, true, true, true, true, true, true, true, true, true, true, true, true, true, true, true, true, true, true, true, true, true, true, true, true, true, true, true, false, false, false, false, false] rfl rfl (any_of HT_.out (by kernel_rfl)) (fun _ _ _ h => h) (Or.inl ⟨by rfl, ?_⟩) ?_ ?_
                rotate_left
                · intro w'
                  go_simp
                  with_reducible rfl
                rotate_left
                · simp only [Act.put, List.setIfInBounds_toArray, List.set_cons_zero, List.set_cons_succ, i64_w, i32_w]
                  rfl
                refine pure_ (i := 35) (N := some 90) (v := ?_) (a' := ?_) #[true, true, true, true, true, true, true, true, true, true, true, true, true, true, true, true, true, true, true, true, true, true, true, true, true, true, true, true, true, true, true, true, true, true, true, true, false, false, false, false] rfl rfl (any_of HT_.out (by kernel_rfl)) (fun _ _ _ h => h) (Or.inl ⟨by rfl, ?_⟩) ?_ ?_
                rotate_left
                · intro w'
                  go_simp
                  with_reducible rfl
                rotate_left
                · simp only [Act.put, List.setIfInBounds_toArray, List.set_cons_zero, List.set_cons_succ, i64_w, i32_w]
                  rfl
                refine pure_ (i := 36) (N := some 91) (v := ?_) (a' := ?_) #[true, true, true, true, true, true, true, true, true, true, true, true, true, true, true, true, true, true, true, true, true, true, true, true, true, true, true, true, true, true, true, true, true, true, true, true, true, false, false, false] rfl rfl (any_of HT_.out (by kernel_rfl)) (fun _ _ _ h => h) (Or.inl ⟨by rfl, ?_⟩) ?_ ?_
                rotate_left
                · intro w'
                  go_simp
                  with_reducible rfl
                rotate_left
                · simp only [Act.put, List.setIfInBounds_toArray, List.set_cons_zero, List.set_cons_succ, i64_w, i32_w]
                  rfl
                refine one_ (i := 37) (N := some 92) #[true, true, true, true, true, true, true, true, true, true, true, true, true, true, true, true, true, true, true, true, true, true, true, true, true, true, true, true, true, true, true, true, true, true, true, true, true, true, false, false] rfl rfl (one_of HT_.out (by kernel_rfl)) (by decide) (fun K hK => ?_)
                refine goes_ Try.func46 (by kernel_rfl) rfl #[] (by rfl) rfl rfl (by (try simp only [List.map_toArray, List.map_cons, List.map_nil]); first | done | rfl | (simp only [List.length_drop, List.length_take]; rfl)) ?_
                with_reducible refine (bordereaulaw6_known.calls k  t466 _ A19.out).mono ?_
                rintro e w54 ⟨rfl, hb⟩
                refine ⟨_, rfl, ?_⟩
                have n0_ := Aside0.mk (Kd.R_below (rgo_ HO427) hb)
                have n1_ := Aside0.mk (Kd.R_below (rgo_ HO436) hb)
                have n2_ := Aside0.mk (Kd.R_below (rgo_ HO441) hb)
                have n3_ := Aside0.mk (Kd.R_below (rgo_ HO445) hb)
                have n4_ := Aside0.mk (Kd.R_below (rgo_ HO450) hb)
                have n5_ := Aside0.mk (Kd.R_below (rgo_ HO459) hb)
                have n6_ := Aside0.mk (blk_below (g := gb437) (o := .cells #[.int .i64 t419, .int .i64 t420, .int .i64 t421, .int .i64 t422, .bool t423, .int .i64 t424, .slice Ao26 t425.length co26] 56 (0, 0)) (blk_ BK437) hb)
                have n7_ := Aside0.mk (blk_below (g := gb438) (o := .cells #[.int .i64 t428, .int .i64 t429, .int .i64 t430, .int .i64 t431, .bool t432, .int .i64 t433, .slice Ao28 t434.length co28] 56 (0, 0)) (blk_ BK438) hb)
                have n8_ := Aside0.mk (blk_below (g := gb462) (o := .cells #[.int .i64 t451, .int .i64 t452, .int .i64 t453, .int .i64 t454, .bool t455, .int .i64 t456, .slice Ao40 t457.length co40] 56 (0, 0)) (blk_ BK462) hb)
                have n9_ := Aside0.mk (blk_below (g := gb463) (o := .cells #[.int .i64 (Go.bits .and .i64 a2 1099511627775), .int .i64 t420, .int .i64 t421, .int .i64 t422, .bool t423, .int .i64 t424, .slice Ao26 t425.length co26] 56 (0, 0)) (blk_ BK463) hb)
                have n10_ := Aside0.mk (below_step (bel_ HB) hb)
                clear HO427
                clear HO436
                clear HO441
                clear HO445
                clear HO450
                clear HO459
                clear BK437
                clear BK438
                clear BK462
                clear BK463
                clear HB
                have HO427 := n0_
                have HO436 := n1_
                have HO441 := n2_
                have HO445 := n3_
                have HO450 := n4_
                have HO459 := n5_
                have BK437 := n6_
                have BK438 := n7_
                have BK462 := n8_
                have BK463 := n9_
                have HB := n10_
                clear n0_ n1_ n2_ n3_ n4_ n5_ n6_ n7_ n8_ n9_ n10_
                (try clear hb)
                (try clear hb2)
                (try clear hk)
                (try clear hi)
                refine hK.out _ _ ⟨(blk_cell BK462.out 0).trans rfl, (blk_cell BK462.out 1).trans rfl, (blk_cell BK462.out 2).trans rfl, (blk_cell BK462.out 3).trans rfl, (blk_cell BK462.out 4).trans rfl, (blk_cell BK462.out 5).trans rfl, (blk_cell BK462.out 6).trans rfl, (blk_cell BK463.out 0).trans rfl, (blk_cell BK463.out 1).trans rfl, (blk_cell BK463.out 2).trans rfl, (blk_cell BK463.out 3).trans rfl, (blk_cell BK463.out 4).trans rfl, (blk_cell BK463.out 5).trans rfl, (blk_cell BK463.out 6).trans rfl, (blk_cell BK437.out 0).trans rfl, (blk_cell BK437.out 1).trans rfl, (blk_cell BK437.out 2).trans rfl, (blk_cell BK437.out 3).trans rfl, (blk_cell BK437.out 4).trans rfl, (blk_cell BK437.out 5).trans rfl, (blk_cell BK437.out 6).trans rfl, (blk_cell BK438.out 0).trans rfl, (blk_cell BK438.out 1).trans rfl, (blk_cell BK438.out 2).trans rfl, (blk_cell BK438.out 3).trans rfl, (blk_cell BK438.out 4).trans rfl, (blk_cell BK438.out 5).trans rfl, (blk_cell BK438.out 6).trans rfl⟩ (fun hHeld => ?_)
                clear hK K
                refine norm_ (a' := ?_) ?_ ?_
                rotate_left
                · show Act.put _ (some 92) _ = _
                  simp only [Act.put, List.setIfInBounds_toArray, List.set_cons_zero, List.set_cons_succ, i64_w, i32_w]
                  rfl
                refine pure_ (i := 38) (N := some 93) (v := ?_) (a' := ?_) #[true, true, true, true, true, true, true, true, true, true, true, true, true, true, true, true, true, true, true, true, true, true, true, true, true, true, true, true, true, true, true, true, true, true, true, true, true, true, true, false] rfl rfl (any_of HT_.out (by kernel_rfl)) (fun _ _ _ h => h) (Or.inl ⟨by rfl, ?_⟩) ?_ ?_
                rotate_left
                · intro w'
                  go_simp
                  with_reducible rfl
                rotate_left
                · simp only [Act.put, List.setIfInBounds_toArray, List.set_cons_zero, List.set_cons_succ, i64_w, i32_w]
                  rfl
                refine pure_ (i := 39) (N := some 6) (v := ?_) (a' := ?_) #[true, true, true, true, true, true, true, true, true, true, true, true, true, true, true, true, true, true, true, true, true, true, true, true, true, true, true, true, true, true, true, true, true, true, true, true, true, true, true, true] rfl rfl (any_of HT_.out (by kernel_rfl)) (fun _ _ _ h => h) (Or.inl ⟨by rfl, ?_⟩) ?_ ?_
                rotate_left
                · intro w'
                  go_simp
                  with_reducible rfl
                rotate_left
                · simp only [Act.put, List.setIfInBounds_toArray, List.set_cons_zero, List.set_cons_succ, i64_w, i32_w]
                  rfl
                refine done_ (done_of HT_.out (by kernel_rfl)) ?_
                try go_wp2
                go_ret
                exact ⟨by first | rfl | (simp [errW_none, errW_some] <;> rfl) | (simp [*, errW_none, errW_some] <;> rfl), by repeat (first | (with_reducible first | exact HB.out | apply below_alloc | apply pw_below_drewN | apply below_drew1 | refine below_set ?_ GE437.out | refine below_set ?_ GE438.out | refine below_set ?_ GE462.out | refine below_set ?_ GE463.out) | exact HB.out)⟩
              · rw [if_neg c18] at H
                have c18b0 : (((strOfNums t439).toList == (strOfNums t443).toList) == t465) = false := by simpa using c18
                (try (have c18b1 : decide (((strOfNums t439).toList == (strOfNums t443).toList) = t465) = false := by simpa using c18))
                (try (have c18b2 : (((strOfNums t439).toList == (strOfNums t443).toList) == t465) = false := by simpa using c18))
                (try (have c18b3 : ¬ (((strOfNums t439).toList == (strOfNums t443).toList) = t465) := by simpa using c18))
                clear c18
                exact absurd H (by simp)
            · rw [if_neg c16] at H
              have c16b0 : ((t447.length : Int) == (t439.length : Int)) = false := beq_eq_false_iff_ne.mpr c16
              have c16b1 : ((t447.length : Int) != (t439.length : Int)) = true := bne_iff_ne.mpr c16
              have c16b2 : (t447.length == t439.length) = false := by first | simpa using c16 | (simp at c16 ⊢; omega)
              exact absurd H (by simp)
          · replace c15 := Bool.eq_false_iff.mpr c15
            subst c15
            have H1 : (none) = some r := by rw [if_neg (show ¬ (false = true) by decide)] at H; exact H
            clear H
            have H := H1
            clear H1
            exact absurd H (by simp)
        · replace c13 := Bool.eq_false_iff.mpr c13
          subst c13
          have H1 : (none) = some r := by rw [if_neg (show ¬ (false = true) by decide)] at H; exact H
          clear H
          have H := H1
          clear H1
          exact absurd H (by simp)
      · rw [if_neg c12] at H
        have c12b0 : (t461 == 0) = false := beq_eq_false_iff_ne.mpr c12
        have c12b1 : (t461 != 0) = true := bne_iff_ne.mpr c12
        exact absurd H (by simp)
    · rw [if_neg c11] at H
      have c11b0 : (t446 == 0) = false := beq_eq_false_iff_ne.mpr c11
      have c11b1 : (t446 != 0) = true := bne_iff_ne.mpr c11
      exact absurd H (by simp)
  · rw [if_neg c10] at H
    have c10b0 : (t442 == 0) = false := beq_eq_false_iff_ne.mpr c10
    have c10b1 : (t442 != 0) = true := bne_iff_ne.mpr c10
    exact absurd H (by simp)

/-- THE ONE PURE STATEMENT of bordereaulaw6_BatchRebased: yours. -/
def bordereaulaw6_BatchRebased.Pure : Prop := ∀ (l0 : List Int) (l1 : List Int) (a2 : Int), l0.length ≤ maxLen → l0.length * 8 ≤ 140737488351232 → (∀ x ∈ l0, (Lit.int .i64 x).wf = true) → l1.length ≤ maxLen → l1.length * 8 ≤ 140737488351232 → (∀ x ∈ l1, (Lit.int .i64 x).wf = true) → (Lit.int .i64 a2).wf = true → ∃ k, bordereaulaw6_BatchRebased.f k l0 l1 a2 = some true
theorem bordereaulaw6_BatchRebased.walk (P : bordereaulaw6_BatchRebased.Pure) (a0 : Option Addr) (len0 cap0 : Nat) (z0 : List Int) (a1 : Option Addr) (len1 cap1 : Nat) (z1 : List Int) (a2 : Int) (w : World) (w0 : (a0 = none ∧ len0 = 0 ∧ cap0 = 0 ∧ z0 = []) ∨ ∃ x, a0 = some x ∧ len0 ≤ cap0 ∧ cap0 ≤ maxLen ∧ z0.length = cap0 ∧ (∀ i, i < z0.length → w.cell? (x.add i) = some (.int .i64 (z0.getD i 0))) ∧ ∀ n ∈ z0, (Lit.int .i64 n).wf = true) (y0 : len0 * 8 ≤ 140737488351232) (w1 : (a1 = none ∧ len1 = 0 ∧ cap1 = 0 ∧ z1 = []) ∨ ∃ x, a1 = some x ∧ len1 ≤ cap1 ∧ cap1 ≤ maxLen ∧ z1.length = cap1 ∧ (∀ i, i < z1.length → w.cell? (x.add i) = some (.int .i64 (z1.getD i 0))) ∧ ∀ n ∈ z1, (Lit.int .i64 n).wf = true) (y1 : len1 * 8 ≤ 140737488351232) (w2 : (Lit.int .i64 a2).wf = true) :
    Calls Try.prog 14 #[.slice a0 len0 cap0, .slice a1 len1 cap1, .int .i64 a2] w fun e w' => e = .returned (.bool true) ∧ Below w.heap.size w w' := by
  obtain ⟨l0, rfl, hr0, hm0, hw0, hc0⟩ := ReadsInt.ofRowC w0
  obtain ⟨l1, rfl, hr1, hm1, hw1, hc1⟩ := ReadsInt.ofRowC w1
  obtain ⟨k, h⟩ := P l0 l1 a2 hm0 y0 hw0 hm1 y1 hw1 w2
  refine (bordereaulaw6_BatchRebased.calls k _ _ l0 _ _ l1 a2 true w (Kd.C_of_reads (d := (0 : Int)) (h1 := fun _ => rfl) hr0) hc0 (Kd.C_of_reads (d := (0 : Int)) (h1 := fun _ => rfl) hr1) hc1 h).mono ?_
  rintro e w' ⟨rfl, hd⟩
  exact ⟨rfl, hd⟩

end Go.Proofs.Ytknclghaofmnhaa.PBR
