-- Written by a program of this session (wip/print/myprint.sh).
import Derived.Test.YtddgichochdgcaaPMx0
import Derived.Test.YtddgichochdgcaaPMx1
namespace Go.Proofs.Ytddgichochdgcaa.PM
open Go.RowKit Go.Proofs.YtddgichochdgcaaV.PrintWords Go.Proofs.YtddgichochdgcaaV.PrintLast Go.Proofs.YtddgichochdgcaaV.PrintMore
attribute [local go_sem] max2_int min2_int max_two min_two max_three min_three max_four min_four   -- for this text's walks alone
set_option linter.unusedVariables false
set_option linter.unusedSimpArgs false

/-! ### bordereaulaw2_known: function 30 -/
def bordereaulaw2_known.f (k : Nat)  : Option (Bool) := (varint_Get.f k (([128, 0] : List Int))).bind fun bt138 => ((varint_Get.f k (([1, 9] : List Int))).bind fun bt143 => ((varint_Cut.f k (([4, 97, 98, 99] : List Int)) 2).bind fun bt148 => ((varint_Cut.f k (([4, 97, 98, 99] : List Int)) 1).bind fun bt153 => (if 7 ≤ 281474976710656 then ((varint_Back.f k (List.replicate 7 0)).bind fun bt158 => ((varint_Long.f k ([] : List Int) (-5)).bind fun t160 => ((varint_Back.f k t160).bind fun bt163 => ((varint_Put.f k ([] : List Int) (-1)).bind fun t165 => (if (strOfNums t165).toList = ([1] : List UInt8) then (if bt138.1 = 0 then (if bt138.2 = 0 then (if bt143.1 = (-1) then (if bt143.2 = 1 then (if bt148.1.toList = ([97, 98] : List UInt8) then (if bt148.2 = 3 then (if bt153.2 = 0 then (if bt158.2 = true then (none) else (if bt163.1 = (-5) then (some bt163.2) else (none))) else (none)) else (none)) else (none)) else (none)) else (none)) else (none)) else (none)) else (none)))))) else (none)))))
theorem bordereaulaw2_known.mono : ∀ k, LeO (bordereaulaw2_known.f k ) (bordereaulaw2_known.f (k + 1) ) := by
  intro  k
  unfold bordereaulaw2_known.f
  repeat' first
      | (with_reducible exact varint_Back.mono _ _)
      | (with_reducible exact varint_Cut.mono _ _ _)
      | (with_reducible exact varint_Get.mono _ _)
      | (with_reducible exact varint_Long.mono _ _ _)
      | (with_reducible exact varint_Put.mono _ _ _)
      | (with_reducible exact LeO.refl _)
      | (with_reducible exact LeO.none _)
      | (with_reducible refine LeO.ite ?_ ?_)
      | (with_reducible refine LeO.bind ?_ (fun _ => ?_))
      | exact varint_Back.mono _ _
      | exact varint_Cut.mono _ _ _
      | exact varint_Get.mono _ _
      | exact varint_Long.mono _ _ _
      | exact varint_Put.mono _ _ _
      | exact LeO.none _
      | refine LeO.ite ?_ ?_
      | refine LeO.bind ?_ (fun _ => ?_)
set_option maxHeartbeats 8000000 in
set_option maxRecDepth 100000 in
theorem bordereaulaw2_known.calls (k : Nat)  (r : Bool) (w : World) (h : bordereaulaw2_known.f k  = some r) :
    Calls Try.prog 30 #[] w fun e w' => e = .returned (.bool r) ∧ Below w.heap.size w w' := by
  have HB := Aside0.mk (Below.refl w.heap.size w)
  have H : ((varint_Get.f k (([128, 0] : List Int))).bind fun bt138 => ((varint_Get.f k (([1, 9] : List Int))).bind fun bt143 => ((varint_Cut.f k (([4, 97, 98, 99] : List Int)) 2).bind fun bt148 => ((varint_Cut.f k (([4, 97, 98, 99] : List Int)) 1).bind fun bt153 => (if 7 ≤ 281474976710656 then ((varint_Back.f k (List.replicate 7 0)).bind fun bt158 => ((varint_Long.f k ([] : List Int) (-5)).bind fun t160 => ((varint_Back.f k t160).bind fun bt163 => ((varint_Put.f k ([] : List Int) (-1)).bind fun t165 => (if (strOfNums t165).toList = ([1] : List UInt8) then (if bt138.1 = 0 then (if bt138.2 = 0 then (if bt143.1 = (-1) then (if bt143.2 = 1 then (if bt148.1.toList = ([97, 98] : List UInt8) then (if bt148.2 = 3 then (if bt153.2 = 0 then (if bt158.2 = true then (none) else (if bt163.1 = (-5) then (some bt163.2) else (none))) else (none)) else (none)) else (none)) else (none)) else (none)) else (none)) else (none)) else (none)))))) else (none)))))) = some r := h
  clear h
  obtain ⟨y135, hy135⟩ : ∃ y_ : List Int, y_ = (([128, 0] : List Int)) := ⟨_, rfl⟩
  replace H : ((varint_Get.f k y135).bind fun bt138 => ((varint_Get.f k (([1, 9] : List Int))).bind fun bt143 => ((varint_Cut.f k (([4, 97, 98, 99] : List Int)) 2).bind fun bt148 => ((varint_Cut.f k (([4, 97, 98, 99] : List Int)) 1).bind fun bt153 => (if 7 ≤ 281474976710656 then ((varint_Back.f k (List.replicate 7 0)).bind fun bt158 => ((varint_Long.f k ([] : List Int) (-5)).bind fun t160 => ((varint_Back.f k t160).bind fun bt163 => ((varint_Put.f k ([] : List Int) (-1)).bind fun t165 => (if (strOfNums t165).toList = ([1] : List UInt8) then (if bt138.1 = 0 then (if bt138.2 = 0 then (if bt143.1 = (-1) then (if bt143.2 = 1 then (if bt148.1.toList = ([97, 98] : List UInt8) then (if bt148.2 = 3 then (if bt153.2 = 0 then (if bt158.2 = true then (none) else (if bt163.1 = (-5) then (some bt163.2) else (none))) else (none)) else (none)) else (none)) else (none)) else (none)) else (none)) else (none)) else (none)))))) else (none)))))) = some r := by first | (rw [hy135]; with_reducible exact H) | (have H2_ := (Option.bind_some _ _).symm.trans H; rw [hy135]; with_reducible exact H2_) | (have H2_ := (Option.bind_some _ _).symm.trans H; with_reducible exact H2_) | with_reducible exact H | (rw [hy135]; exact H) | exact H
  have Ny135 := Aside0.mk hy135
  clear hy135
  replace H := Option.bind_eq_some_iff.mp H
  obtain ⟨⟨t138, t139⟩, A10, H⟩ := H
  replace H : ((varint_Get.f k (([1, 9] : List Int))).bind fun bt143 => ((varint_Cut.f k (([4, 97, 98, 99] : List Int)) 2).bind fun bt148 => ((varint_Cut.f k (([4, 97, 98, 99] : List Int)) 1).bind fun bt153 => (if 7 ≤ 281474976710656 then ((varint_Back.f k (List.replicate 7 0)).bind fun bt158 => ((varint_Long.f k ([] : List Int) (-5)).bind fun t160 => ((varint_Back.f k t160).bind fun bt163 => ((varint_Put.f k ([] : List Int) (-1)).bind fun t165 => (if (strOfNums t165).toList = ([1] : List UInt8) then (if t138 = 0 then (if t139 = 0 then (if bt143.1 = (-1) then (if bt143.2 = 1 then (if bt148.1.toList = ([97, 98] : List UInt8) then (if bt148.2 = 3 then (if bt153.2 = 0 then (if bt158.2 = true then (none) else (if bt163.1 = (-5) then (some bt163.2) else (none))) else (none)) else (none)) else (none)) else (none)) else (none)) else (none)) else (none)) else (none)))))) else (none))))) = some r := H
  have A1 := Aside0.mk A10
  clear A10
  obtain ⟨y140, hy140⟩ : ∃ y_ : List Int, y_ = (([1, 9] : List Int)) := ⟨_, rfl⟩
  replace H : ((varint_Get.f k y140).bind fun bt143 => ((varint_Cut.f k (([4, 97, 98, 99] : List Int)) 2).bind fun bt148 => ((varint_Cut.f k (([4, 97, 98, 99] : List Int)) 1).bind fun bt153 => (if 7 ≤ 281474976710656 then ((varint_Back.f k (List.replicate 7 0)).bind fun bt158 => ((varint_Long.f k ([] : List Int) (-5)).bind fun t160 => ((varint_Back.f k t160).bind fun bt163 => ((varint_Put.f k ([] : List Int) (-1)).bind fun t165 => (if (strOfNums t165).toList = ([1] : List UInt8) then (if t138 = 0 then (if t139 = 0 then (if bt143.1 = (-1) then (if bt143.2 = 1 then (if bt148.1.toList = ([97, 98] : List UInt8) then (if bt148.2 = 3 then (if bt153.2 = 0 then (if bt158.2 = true then (none) else (if bt163.1 = (-5) then (some bt163.2) else (none))) else (none)) else (none)) else (none)) else (none)) else (none)) else (none)) else (none)) else (none)))))) else (none))))) = some r := by first | (rw [hy140]; with_reducible exact H) | (have H2_ := (Option.bind_some _ _).symm.trans H; rw [hy140]; with_reducible exact H2_) | (have H2_ := (Option.bind_some _ _).symm.trans H; with_reducible exact H2_) | with_reducible exact H | (rw [hy140]; exact H) | exact H
  have Ny140 := Aside0.mk hy140
  clear hy140
  replace H := Option.bind_eq_some_iff.mp H
  obtain ⟨⟨t143, t144⟩, A20, H⟩ := H
  replace H : ((varint_Cut.f k (([4, 97, 98, 99] : List Int)) 2).bind fun bt148 => ((varint_Cut.f k (([4, 97, 98, 99] : List Int)) 1).bind fun bt153 => (if 7 ≤ 281474976710656 then ((varint_Back.f k (List.replicate 7 0)).bind fun bt158 => ((varint_Long.f k ([] : List Int) (-5)).bind fun t160 => ((varint_Back.f k t160).bind fun bt163 => ((varint_Put.f k ([] : List Int) (-1)).bind fun t165 => (if (strOfNums t165).toList = ([1] : List UInt8) then (if t138 = 0 then (if t139 = 0 then (if t143 = (-1) then (if t144 = 1 then (if bt148.1.toList = ([97, 98] : List UInt8) then (if bt148.2 = 3 then (if bt153.2 = 0 then (if bt158.2 = true then (none) else (if bt163.1 = (-5) then (some bt163.2) else (none))) else (none)) else (none)) else (none)) else (none)) else (none)) else (none)) else (none)) else (none)))))) else (none)))) = some r := H
  have A2 := Aside0.mk A20
  clear A20
  obtain ⟨y145, hy145⟩ : ∃ y_ : List Int, y_ = (([4, 97, 98, 99] : List Int)) := ⟨_, rfl⟩
  replace H : ((varint_Cut.f k y145 2).bind fun bt148 => ((varint_Cut.f k (([4, 97, 98, 99] : List Int)) 1).bind fun bt153 => (if 7 ≤ 281474976710656 then ((varint_Back.f k (List.replicate 7 0)).bind fun bt158 => ((varint_Long.f k ([] : List Int) (-5)).bind fun t160 => ((varint_Back.f k t160).bind fun bt163 => ((varint_Put.f k ([] : List Int) (-1)).bind fun t165 => (if (strOfNums t165).toList = ([1] : List UInt8) then (if t138 = 0 then (if t139 = 0 then (if t143 = (-1) then (if t144 = 1 then (if bt148.1.toList = ([97, 98] : List UInt8) then (if bt148.2 = 3 then (if bt153.2 = 0 then (if bt158.2 = true then (none) else (if bt163.1 = (-5) then (some bt163.2) else (none))) else (none)) else (none)) else (none)) else (none)) else (none)) else (none)) else (none)) else (none)))))) else (none)))) = some r := by first | (rw [hy145]; with_reducible exact H) | (have H2_ := (Option.bind_some _ _).symm.trans H; rw [hy145]; with_reducible exact H2_) | (have H2_ := (Option.bind_some _ _).symm.trans H; with_reducible exact H2_) | with_reducible exact H | (rw [hy145]; exact H) | exact H
  have Ny145 := Aside0.mk hy145
  clear hy145
  replace H := Option.bind_eq_some_iff.mp H
  obtain ⟨⟨t148, t149⟩, A30, H⟩ := H
  replace H : ((varint_Cut.f k (([4, 97, 98, 99] : List Int)) 1).bind fun bt153 => (if 7 ≤ 281474976710656 then ((varint_Back.f k (List.replicate 7 0)).bind fun bt158 => ((varint_Long.f k ([] : List Int) (-5)).bind fun t160 => ((varint_Back.f k t160).bind fun bt163 => ((varint_Put.f k ([] : List Int) (-1)).bind fun t165 => (if (strOfNums t165).toList = ([1] : List UInt8) then (if t138 = 0 then (if t139 = 0 then (if t143 = (-1) then (if t144 = 1 then (if t148.toList = ([97, 98] : List UInt8) then (if t149 = 3 then (if bt153.2 = 0 then (if bt158.2 = true then (none) else (if bt163.1 = (-5) then (some bt163.2) else (none))) else (none)) else (none)) else (none)) else (none)) else (none)) else (none)) else (none)) else (none)))))) else (none))) = some r := H
  have A3 := Aside0.mk A30
  clear A30
  obtain ⟨y150, hy150⟩ : ∃ y_ : List Int, y_ = (([4, 97, 98, 99] : List Int)) := ⟨_, rfl⟩
  replace H : ((varint_Cut.f k y150 1).bind fun bt153 => (if 7 ≤ 281474976710656 then ((varint_Back.f k (List.replicate 7 0)).bind fun bt158 => ((varint_Long.f k ([] : List Int) (-5)).bind fun t160 => ((varint_Back.f k t160).bind fun bt163 => ((varint_Put.f k ([] : List Int) (-1)).bind fun t165 => (if (strOfNums t165).toList = ([1] : List UInt8) then (if t138 = 0 then (if t139 = 0 then (if t143 = (-1) then (if t144 = 1 then (if t148.toList = ([97, 98] : List UInt8) then (if t149 = 3 then (if bt153.2 = 0 then (if bt158.2 = true then (none) else (if bt163.1 = (-5) then (some bt163.2) else (none))) else (none)) else (none)) else (none)) else (none)) else (none)) else (none)) else (none)) else (none)))))) else (none))) = some r := by first | (rw [hy150]; with_reducible exact H) | (have H2_ := (Option.bind_some _ _).symm.trans H; rw [hy150]; with_reducible exact H2_) | (have H2_ := (Option.bind_some _ _).symm.trans H; with_reducible exact H2_) | with_reducible exact H | (rw [hy150]; exact H) | exact H
  have Ny150 := Aside0.mk hy150
  clear hy150
  replace H := Option.bind_eq_some_iff.mp H
  obtain ⟨⟨t153, t154⟩, A40, H⟩ := H
  replace H : (if 7 ≤ 281474976710656 then ((varint_Back.f k (List.replicate 7 0)).bind fun bt158 => ((varint_Long.f k ([] : List Int) (-5)).bind fun t160 => ((varint_Back.f k t160).bind fun bt163 => ((varint_Put.f k ([] : List Int) (-1)).bind fun t165 => (if (strOfNums t165).toList = ([1] : List UInt8) then (if t138 = 0 then (if t139 = 0 then (if t143 = (-1) then (if t144 = 1 then (if t148.toList = ([97, 98] : List UInt8) then (if t149 = 3 then (if t154 = 0 then (if bt158.2 = true then (none) else (if bt163.1 = (-5) then (some bt163.2) else (none))) else (none)) else (none)) else (none)) else (none)) else (none)) else (none)) else (none)) else (none)))))) else (none)) = some r := H
  have A4 := Aside0.mk A40
  clear A40
  by_cases c5 : 7 ≤ 281474976710656
  · rw [if_pos c5] at H
    have c5b0 := eq_true c5
    have c5b1 : decide (7 ≤ 281474976710656) = true := decide_eq_true c5
    clear c5
    obtain ⟨y155, hy155⟩ : ∃ y_ : List Int, y_ = (List.replicate 7 0) := ⟨_, rfl⟩
    replace H : ((varint_Back.f k y155).bind fun bt158 => ((varint_Long.f k ([] : List Int) (-5)).bind fun t160 => ((varint_Back.f k t160).bind fun bt163 => ((varint_Put.f k ([] : List Int) (-1)).bind fun t165 => (if (strOfNums t165).toList = ([1] : List UInt8) then (if t138 = 0 then (if t139 = 0 then (if t143 = (-1) then (if t144 = 1 then (if t148.toList = ([97, 98] : List UInt8) then (if t149 = 3 then (if t154 = 0 then (if bt158.2 = true then (none) else (if bt163.1 = (-5) then (some bt163.2) else (none))) else (none)) else (none)) else (none)) else (none)) else (none)) else (none)) else (none)) else (none)))))) = some r := by first | (rw [hy155]; with_reducible exact H) | (have H2_ := (Option.bind_some _ _).symm.trans H; rw [hy155]; with_reducible exact H2_) | (have H2_ := (Option.bind_some _ _).symm.trans H; with_reducible exact H2_) | with_reducible exact H | (rw [hy155]; exact H) | exact H
    have Ny155 := Aside0.mk hy155
    clear hy155
    replace H := Option.bind_eq_some_iff.mp H
    obtain ⟨⟨t158, t159⟩, A60, H⟩ := H
    replace H : ((varint_Long.f k ([] : List Int) (-5)).bind fun t160 => ((varint_Back.f k t160).bind fun bt163 => ((varint_Put.f k ([] : List Int) (-1)).bind fun t165 => (if (strOfNums t165).toList = ([1] : List UInt8) then (if t138 = 0 then (if t139 = 0 then (if t143 = (-1) then (if t144 = 1 then (if t148.toList = ([97, 98] : List UInt8) then (if t149 = 3 then (if t154 = 0 then (if t159 = true then (none) else (if bt163.1 = (-5) then (some bt163.2) else (none))) else (none)) else (none)) else (none)) else (none)) else (none)) else (none)) else (none)) else (none))))) = some r := H
    have A6 := Aside0.mk A60
    clear A60
    replace H := Option.bind_eq_some_iff.mp H
    obtain ⟨t160, A70, H⟩ := H
    replace H : ((varint_Back.f k t160).bind fun bt163 => ((varint_Put.f k ([] : List Int) (-1)).bind fun t165 => (if (strOfNums t165).toList = ([1] : List UInt8) then (if t138 = 0 then (if t139 = 0 then (if t143 = (-1) then (if t144 = 1 then (if t148.toList = ([97, 98] : List UInt8) then (if t149 = 3 then (if t154 = 0 then (if t159 = true then (none) else (if bt163.1 = (-5) then (some bt163.2) else (none))) else (none)) else (none)) else (none)) else (none)) else (none)) else (none)) else (none)) else (none)))) = some r := H
    have A7 := Aside0.mk A70
    clear A70
    replace H := Option.bind_eq_some_iff.mp H
    obtain ⟨⟨t163, t164⟩, A80, H⟩ := H
    replace H : ((varint_Put.f k ([] : List Int) (-1)).bind fun t165 => (if (strOfNums t165).toList = ([1] : List UInt8) then (if t138 = 0 then (if t139 = 0 then (if t143 = (-1) then (if t144 = 1 then (if t148.toList = ([97, 98] : List UInt8) then (if t149 = 3 then (if t154 = 0 then (if t159 = true then (none) else (if t163 = (-5) then (some t164) else (none))) else (none)) else (none)) else (none)) else (none)) else (none)) else (none)) else (none)) else (none))) = some r := H
    have A8 := Aside0.mk A80
    clear A80
    replace H := Option.bind_eq_some_iff.mp H
    obtain ⟨t165, A90, H⟩ := H
    replace H : (if (strOfNums t165).toList = ([1] : List UInt8) then (if t138 = 0 then (if t139 = 0 then (if t143 = (-1) then (if t144 = 1 then (if t148.toList = ([97, 98] : List UInt8) then (if t149 = 3 then (if t154 = 0 then (if t159 = true then (none) else (if t163 = (-5) then (some t164) else (none))) else (none)) else (none)) else (none)) else (none)) else (none)) else (none)) else (none)) else (none)) = some r := H
    have A9 := Aside0.mk A90
    clear A90
    by_cases c10 : (strOfNums t165).toList = ([1] : List UInt8)
    · rw [if_pos c10] at H
      have c10b0 : ((strOfNums t165).toList == ([1] : List UInt8)) = true := beq_iff_eq.mpr c10
      have c10b1 : ((strOfNums t165).toList != ([1] : List UInt8)) = false := bne_eq_false_iff_eq.mpr c10
      clear c10
      by_cases c11 : t138 = 0
      · rw [if_pos c11] at H
        have c11b0 : (t138 == 0) = true := beq_iff_eq.mpr c11
        have c11b1 : (t138 != 0) = false := bne_eq_false_iff_eq.mpr c11
        clear c11
        by_cases c12 : t139 = 0
        · rw [if_pos c12] at H
          have c12b0 : (t139 == 0) = true := beq_iff_eq.mpr c12
          have c12b1 : (t139 != 0) = false := bne_eq_false_iff_eq.mpr c12
          clear c12
          by_cases c13 : t143 = (-1)
          · rw [if_pos c13] at H
            have c13b0 : (t143 == (-1)) = true := beq_iff_eq.mpr c13
            have c13b1 : (t143 != (-1)) = false := bne_eq_false_iff_eq.mpr c13
            clear c13
            by_cases c14 : t144 = 1
            · rw [if_pos c14] at H
              have c14b0 : (t144 == 1) = true := beq_iff_eq.mpr c14
              have c14b1 : (t144 != 1) = false := bne_eq_false_iff_eq.mpr c14
              clear c14
              by_cases c15 : t148.toList = ([97, 98] : List UInt8)
              · rw [if_pos c15] at H
                have c15b0 : (t148.toList == ([97, 98] : List UInt8)) = true := beq_iff_eq.mpr c15
                have c15b1 : (t148.toList != ([97, 98] : List UInt8)) = false := bne_eq_false_iff_eq.mpr c15
                clear c15
                by_cases c16 : t149 = 3
                · rw [if_pos c16] at H
                  have c16b0 : (t149 == 3) = true := beq_iff_eq.mpr c16
                  have c16b1 : (t149 != 3) = false := bne_eq_false_iff_eq.mpr c16
                  clear c16
                  by_cases c17 : t154 = 0
                  · rw [if_pos c17] at H
                    have c17b0 : (t154 == 0) = true := beq_iff_eq.mpr c17
                    have c17b1 : (t154 != 0) = false := bne_eq_false_iff_eq.mpr c17
                    clear c17
                    by_cases c18 : t159 = true
                    · subst c18
                      have H1 : (none) = some r := by rw [if_pos rfl] at H; exact H
                      clear H
                      have H := H1
                      clear H1
                      exact absurd H (by simp)
                    · replace c18 := Bool.eq_false_iff.mpr c18
                      subst c18
                      have H1 : (if t163 = (-5) then (some t164) else (none)) = some r := by rw [if_neg (show ¬ (false = true) by decide)] at H; exact H
                      clear H
                      have H := H1
                      clear H1
                      by_cases c19 : t163 = (-5)
                      · rw [if_pos c19] at H
                        have c19b0 : (t163 == (-5)) = true := beq_iff_eq.mpr c19
                        have c19b1 : (t163 != (-5)) = false := bne_eq_false_iff_eq.mpr c19
                        clear c19
                        obtain rfl := Option.some.inj H
                        go_enter Try.func30, Try.ntmps30
                        go_wp2_with (first | ((with_reducible refine gate_dst (N := 14) rfl ?_); refine Kd.R_lit (Kd.int .u8) _ 5 ?hg (N := 14) ?hd (xs := ([128, 0] : List Int)) (inner := [.int .u8 128, .int .u8 0]) (ok := fun _ => True) (okp := fun _ => True) ?hr ?hp (fun _ hk => hk) trivial (Below.refl _ _) (Nat.le_refl _) (by simp) ?_; (case hd => rfl); (case hg => rfl); (case hr => first | (go_simp; done) | (go_simp; rfl)); (case hp => exact (Reps.one (show Kd.M (Kd.int .u8) _ _ _ 128 [.int .u8 128] from rfl) (Reps.one (show Kd.M (Kd.int .u8) _ _ _ 0 [.int .u8 0] from rfl) (Reps.none _ _)))); intro v136 w20 ho21 hb hg_ hnew_; clear hg_ hnew_; (first | rw [← Ny135.out] at ho21 | (simp only [Int.reduceToNat] at ho21; rw [← Ny135.out] at ho21)); have n0_ := Aside0.mk (Kd.R_lower ho21 (below_size (by repeat (first | (with_reducible first | exact HB.out | apply below_alloc | apply pw_below_drewN | apply below_drew1) | exact HB.out)))); have n1_ := Aside0.mk (below_step (by repeat (first | (with_reducible first | exact HB.out | apply below_alloc | apply pw_below_drewN | apply below_drew1) | exact HB.out)) hb); clear HB; have HO137 := n0_; have HB := n1_; clear n0_ n1_; clear hb ho21; obtain ⟨Ao22, co22, eo22⟩ := Kd.R_slice HO137.out; subst eo22) | ((with_reducible refine gate_callee (f := 29) rfl ?_); refine goesL_ (some 15) rfl rfl Try.func29 (by kernel_rfl) rfl #[.slice Ao22 y135.length co22] rfl (by (try simp only [List.map_toArray, List.map_cons, List.map_nil]); first | done | rfl | (simp only [List.length_drop, List.length_take]; rfl)) ?_; (with_reducible refine (varint_Get.calls k _ _ y135 t138 t139 _ ?side1 ?side2 A1.out).mono ?_); (case side1 => repeat (first | exact (Kd.R_reads' HO137.out).2.2 | (with_reducible refine Kd.C_alloc ?_ _) | (with_reducible refine Kd.C_drewN ?_ _) | (with_reducible refine Kd.C_drew ?_))); (case side2 => exact (Kd.R_reads' HO137.out).2.1); rintro e w23 ⟨rfl, hb⟩; refine ⟨_, rfl, ?_⟩; have n0_ := Aside0.mk (Kd.R_below (by (with_reducible repeat (first | apply Kd.R_alloc | apply Kd.R_drewN | apply Kd.R_drew)); exact HO137.out) hb); have n1_ := Aside0.mk (below_step (by repeat (first | (with_reducible first | exact HB.out | apply below_alloc | apply pw_below_drewN | apply below_drew1) | exact HB.out)) hb); clear HO137; clear HB; have HO137 := n0_; have HB := n1_; clear n0_ n1_; (try clear hb); (try clear hb2); (try clear hk); (try clear hi)) | ((with_reducible refine gate_dst (N := 19) rfl ?_); refine Kd.R_lit (Kd.int .u8) _ 5 ?hg (N := 19) ?hd (xs := ([1, 9] : List Int)) (inner := [.int .u8 1, .int .u8 9]) (ok := fun _ => True) (okp := fun _ => True) ?hr ?hp (fun _ hk => hk) trivial (Below.refl _ _) (Nat.le_refl _) (by simp) ?_; (case hd => rfl); (case hg => rfl); (case hr => first | (go_simp; done) | (go_simp; rfl)); (case hp => exact (Reps.one (show Kd.M (Kd.int .u8) _ _ _ 1 [.int .u8 1] from rfl) (Reps.one (show Kd.M (Kd.int .u8) _ _ _ 9 [.int .u8 9] from rfl) (Reps.none _ _)))); intro v141 w24 ho25 hb hg_ hnew_; clear hg_ hnew_; (first | rw [← Ny140.out] at ho25 | (simp only [Int.reduceToNat] at ho25; rw [← Ny140.out] at ho25)); have n0_ := Aside0.mk (Kd.R_elder' (by (with_reducible repeat (first | apply Kd.R_alloc | apply Kd.R_drewN | apply Kd.R_drew)); exact HO137.out) (Kd.R_base ho25) hb); have n1_ := Aside0.mk (Kd.R_lower (Kd.R_new' ho25 (Kd.R_lt (by (with_reducible repeat (first | apply Kd.R_alloc | apply Kd.R_drewN | apply Kd.R_drew)); exact HO137.out))) (below_size (by repeat (first | (with_reducible first | exact HB.out | apply below_alloc | apply pw_below_drewN | apply below_drew1) | exact HB.out)))); have n2_ := Aside0.mk (below_step (by repeat (first | (with_reducible first | exact HB.out | apply below_alloc | apply pw_below_drewN | apply below_drew1) | exact HB.out)) hb); clear HO137; clear HB; have HO137 := n0_; have HO142 := n1_; have HB := n2_; clear n0_ n1_ n2_; clear hb ho25; obtain ⟨Ao26, co26, eo26⟩ := Kd.R_slice HO142.out; subst eo26) | ((with_reducible refine gate_callee (f := 29) rfl ?_); refine goesL_ (some 20) rfl rfl Try.func29 (by kernel_rfl) rfl #[.slice Ao26 y140.length co26] rfl (by (try simp only [List.map_toArray, List.map_cons, List.map_nil]); first | done | rfl | (simp only [List.length_drop, List.length_take]; rfl)) ?_; (with_reducible refine (varint_Get.calls k _ _ y140 t143 t144 _ ?side1 ?side2 A2.out).mono ?_); (case side1 => repeat (first | exact (Kd.R_reads' HO142.out).2.2 | (with_reducible refine Kd.C_alloc ?_ _) | (with_reducible refine Kd.C_drewN ?_ _) | (with_reducible refine Kd.C_drew ?_))); (case side2 => exact (Kd.R_reads' HO142.out).2.1); rintro e w27 ⟨rfl, hb⟩; refine ⟨_, rfl, ?_⟩; have n0_ := Aside0.mk (Kd.R_below (by (with_reducible repeat (first | apply Kd.R_alloc | apply Kd.R_drewN | apply Kd.R_drew)); exact HO137.out) hb); have n1_ := Aside0.mk (Kd.R_below (by (with_reducible repeat (first | apply Kd.R_alloc | apply Kd.R_drewN | apply Kd.R_drew)); exact HO142.out) hb); have n2_ := Aside0.mk (below_step (by repeat (first | (with_reducible first | exact HB.out | apply below_alloc | apply pw_below_drewN | apply below_drew1) | exact HB.out)) hb); clear HO137; clear HO142; clear HB; have HO137 := n0_; have HO142 := n1_; have HB := n2_; clear n0_ n1_ n2_; (try clear hb); (try clear hb2); (try clear hk); (try clear hi)) | ((with_reducible refine gate_dst (N := 24) rfl ?_); refine Kd.R_lit (Kd.int .u8) _ 5 ?hg (N := 24) ?hd (xs := ([4, 97, 98, 99] : List Int)) (inner := [.int .u8 4, .int .u8 97, .int .u8 98, .int .u8 99]) (ok := fun _ => True) (okp := fun _ => True) ?hr ?hp (fun _ hk => hk) trivial (Below.refl _ _) (Nat.le_refl _) (by simp) ?_; (case hd => rfl); (case hg => rfl); (case hr => first | (go_simp; done) | (go_simp; rfl)); (case hp => exact (Reps.one (show Kd.M (Kd.int .u8) _ _ _ 4 [.int .u8 4] from rfl) (Reps.one (show Kd.M (Kd.int .u8) _ _ _ 97 [.int .u8 97] from rfl) (Reps.one (show Kd.M (Kd.int .u8) _ _ _ 98 [.int .u8 98] from rfl) (Reps.one (show Kd.M (Kd.int .u8) _ _ _ 99 [.int .u8 99] from rfl) (Reps.none _ _)))))); intro v146 w28 ho29 hb hg_ hnew_; clear hg_ hnew_; (first | rw [← Ny145.out] at ho29 | (simp only [Int.reduceToNat] at ho29; rw [← Ny145.out] at ho29)); have n0_ := Aside0.mk (Kd.R_elder' (by (with_reducible repeat (first | apply Kd.R_alloc | apply Kd.R_drewN | apply Kd.R_drew)); exact HO137.out) (Kd.R_base ho29) hb); have n1_ := Aside0.mk (Kd.R_elder' (by (with_reducible repeat (first | apply Kd.R_alloc | apply Kd.R_drewN | apply Kd.R_drew)); exact HO142.out) (Kd.R_base ho29) hb); have n2_ := Aside0.mk (Kd.R_lower (Kd.R_new' (Kd.R_new' ho29 (Kd.R_lt (by (with_reducible repeat (first | apply Kd.R_alloc | apply Kd.R_drewN | apply Kd.R_drew)); exact HO137.out))) (Kd.R_lt (by (with_reducible repeat (first | apply Kd.R_alloc | apply Kd.R_drewN | apply Kd.R_drew)); exact HO142.out))) (below_size (by repeat (first | (with_reducible first | exact HB.out | apply below_alloc | apply pw_below_drewN | apply below_drew1) | exact HB.out)))); have n3_ := Aside0.mk (below_step (by repeat (first | (with_reducible first | exact HB.out | apply below_alloc | apply pw_below_drewN | apply below_drew1) | exact HB.out)) hb); clear HO137; clear HO142; clear HB; have HO137 := n0_; have HO142 := n1_; have HO147 := n2_; have HB := n3_; clear n0_ n1_ n2_ n3_; clear hb ho29; obtain ⟨Ao30, co30, eo30⟩ := Kd.R_slice HO147.out; subst eo30) | ((with_reducible refine gate_callee (f := 37) rfl ?_); refine goesL_ (some 25) rfl rfl Try.func37 (by kernel_rfl) rfl #[.slice Ao30 y145.length co30, .int .i64 2] rfl (by (try simp only [List.map_toArray, List.map_cons, List.map_nil]); first | done | rfl | (simp only [List.length_drop, List.length_take]; rfl)) ?_; (with_reducible refine (varint_Cut.calls k _ _ y145 2 t148 t149 _ ?side1 ?side2 A3.out).mono ?_); (case side1 => repeat (first | exact (Kd.R_reads' HO147.out).2.2 | (with_reducible refine Kd.C_alloc ?_ _) | (with_reducible refine Kd.C_drewN ?_ _) | (with_reducible refine Kd.C_drew ?_))); (case side2 => exact (Kd.R_reads' HO147.out).2.1); rintro e w31 ⟨rfl, hb⟩; refine ⟨_, rfl, ?_⟩; have n0_ := Aside0.mk (Kd.R_below (by (with_reducible repeat (first | apply Kd.R_alloc | apply Kd.R_drewN | apply Kd.R_drew)); exact HO137.out) hb); have n1_ := Aside0.mk (Kd.R_below (by (with_reducible repeat (first | apply Kd.R_alloc | apply Kd.R_drewN | apply Kd.R_drew)); exact HO142.out) hb); have n2_ := Aside0.mk (Kd.R_below (by (with_reducible repeat (first | apply Kd.R_alloc | apply Kd.R_drewN | apply Kd.R_drew)); exact HO147.out) hb); have n3_ := Aside0.mk (below_step (by repeat (first | (with_reducible first | exact HB.out | apply below_alloc | apply pw_below_drewN | apply below_drew1) | exact HB.out)) hb); clear HO137; clear HO142; clear HO147; clear HB; have HO137 := n0_; have HO142 := n1_; have HO147 := n2_; have HB := n3_; clear n0_ n1_ n2_ n3_; (try clear hb); (try clear hb2); (try clear hk); (try clear hi)) | ((with_reducible refine gate_dst (N := 29) rfl ?_); refine Kd.R_lit (Kd.int .u8) _ 5 ?hg (N := 29) ?hd (xs := ([4, 97, 98, 99] : List Int)) (inner := [.int .u8 4, .int .u8 97, .int .u8 98, .int .u8 99]) (ok := fun _ => True) (okp := fun _ => True) ?hr ?hp (fun _ hk => hk) trivial (Below.refl _ _) (Nat.le_refl _) (by simp) ?_; (case hd => rfl); (case hg => rfl); (case hr => first | (go_simp; done) | (go_simp; rfl)); (case hp => exact (Reps.one (show Kd.M (Kd.int .u8) _ _ _ 4 [.int .u8 4] from rfl) (Reps.one (show Kd.M (Kd.int .u8) _ _ _ 97 [.int .u8 97] from rfl) (Reps.one (show Kd.M (Kd.int .u8) _ _ _ 98 [.int .u8 98] from rfl) (Reps.one (show Kd.M (Kd.int .u8) _ _ _ 99 [.int .u8 99] from rfl) (Reps.none _ _)))))); intro v151 w32 ho33 hb hg_ hnew_; clear hg_ hnew_; (first | rw [← Ny150.out] at ho33 | (simp only [Int.reduceToNat] at ho33; rw [← Ny150.out] at ho33)); have n0_ := Aside0.mk (Kd.R_elder' (by (with_reducible repeat (first | apply Kd.R_alloc | apply Kd.R_drewN | apply Kd.R_drew)); exact HO137.out) (Kd.R_base ho33) hb); have n1_ := Aside0.mk (Kd.R_elder' (by (with_reducible repeat (first | apply Kd.R_alloc | apply Kd.R_drewN | apply Kd.R_drew)); exact HO142.out) (Kd.R_base ho33) hb); have n2_ := Aside0.mk (Kd.R_elder' (by (with_reducible repeat (first | apply Kd.R_alloc | apply Kd.R_drewN | apply Kd.R_drew)); exact HO147.out) (Kd.R_base ho33) hb); have n3_ := Aside0.mk (Kd.R_lower (Kd.R_new' (Kd.R_new' (Kd.R_new' ho33 (Kd.R_lt (by (with_reducible repeat (first | apply Kd.R_alloc | apply Kd.R_drewN | apply Kd.R_drew)); exact HO137.out))) (Kd.R_lt (by (with_reducible repeat (first | apply Kd.R_alloc | apply Kd.R_drewN | apply Kd.R_drew)); exact HO142.out))) (Kd.R_lt (by (with_reducible repeat (first | apply Kd.R_alloc | apply Kd.R_drewN | apply Kd.R_drew)); exact HO147.out))) (below_size (by repeat (first | (with_reducible first | exact HB.out | apply below_alloc | apply pw_below_drewN | apply below_drew1) | exact HB.out)))); have n4_ := Aside0.mk (below_step (by repeat (first | (with_reducible first | exact HB.out | apply below_alloc | apply pw_below_drewN | apply below_drew1) | exact HB.out)) hb); clear HO137; clear HO142; clear HO147; clear HB; have HO137 := n0_; have HO142 := n1_; have HO147 := n2_; have HO152 := n3_; have HB := n4_; clear n0_ n1_ n2_ n3_ n4_; clear hb ho33; obtain ⟨Ao34, co34, eo34⟩ := Kd.R_slice HO152.out; subst eo34) | ((with_reducible refine gate_callee (f := 37) rfl ?_); refine goesL_ (some 30) rfl rfl Try.func37 (by kernel_rfl) rfl #[.slice Ao34 y150.length co34, .int .i64 1] rfl (by (try simp only [List.map_toArray, List.map_cons, List.map_nil]); first | done | rfl | (simp only [List.length_drop, List.length_take]; rfl)) ?_; (with_reducible refine (varint_Cut.calls k _ _ y150 1 t153 t154 _ ?side1 ?side2 A4.out).mono ?_); (case side1 => repeat (first | exact (Kd.R_reads' HO152.out).2.2 | (with_reducible refine Kd.C_alloc ?_ _) | (with_reducible refine Kd.C_drewN ?_ _) | (with_reducible refine Kd.C_drew ?_))); (case side2 => exact (Kd.R_reads' HO152.out).2.1); rintro e w35 ⟨rfl, hb⟩; refine ⟨_, rfl, ?_⟩; have n0_ := Aside0.mk (Kd.R_below (by (with_reducible repeat (first | apply Kd.R_alloc | apply Kd.R_drewN | apply Kd.R_drew)); exact HO137.out) hb); have n1_ := Aside0.mk (Kd.R_below (by (with_reducible repeat (first | apply Kd.R_alloc | apply Kd.R_drewN | apply Kd.R_drew)); exact HO142.out) hb); have n2_ := Aside0.mk (Kd.R_below (by (with_reducible repeat (first | apply Kd.R_alloc | apply Kd.R_drewN | apply Kd.R_drew)); exact HO147.out) hb); have n3_ := Aside0.mk (Kd.R_below (by (with_reducible repeat (first | apply Kd.R_alloc | apply Kd.R_drewN | apply Kd.R_drew)); exact HO152.out) hb); have n4_ := Aside0.mk (below_step (by repeat (first | (with_reducible first | exact HB.out | apply below_alloc | apply pw_below_drewN | apply below_drew1) | exact HB.out)) hb); clear HO137; clear HO142; clear HO147; clear HO152; clear HB; have HO137 := n0_; have HO142 := n1_; have HO147 := n2_; have HO152 := n3_; have HB := n4_; clear n0_ n1_ n2_ n3_ n4_; (try clear hb); (try clear hb2); (try clear hk); (try clear hi)) | ((with_reducible refine gate_dst (N := 34) rfl ?_); refine Kd.R_make (Kd.int .u8) _ 5 rfl (N := 34) rfl 29 _ _ rfl 7 rfl rfl Try.underlying29 (.int .u8 0) 1 info5 rfl (by decide) (by omega) 0 (ok := fun _ => True) (okp := fun _ => True) rfl (fun _ hk => hk) trivial (by omega) (by omega) (Below.refl _ _) (Nat.le_refl _) ?_; intro v156 w36 ho37 hb hg_ hnew_; clear hg_ hnew_; (first | rw [← Ny155.out] at ho37 | (simp only [Int.reduceToNat] at ho37; rw [← Ny155.out] at ho37)); have n0_ := Aside0.mk (Kd.R_elder' (by (with_reducible repeat (first | apply Kd.R_alloc | apply Kd.R_drewN | apply Kd.R_drew)); exact HO137.out) (Kd.R_base ho37) hb); have n1_ := Aside0.mk (Kd.R_elder' (by (with_reducible repeat (first | apply Kd.R_alloc | apply Kd.R_drewN | apply Kd.R_drew)); exact HO142.out) (Kd.R_base ho37) hb); have n2_ := Aside0.mk (Kd.R_elder' (by (with_reducible repeat (first | apply Kd.R_alloc | apply Kd.R_drewN | apply Kd.R_drew)); exact HO147.out) (Kd.R_base ho37) hb); have n3_ := Aside0.mk (Kd.R_elder' (by (with_reducible repeat (first | apply Kd.R_alloc | apply Kd.R_drewN | apply Kd.R_drew)); exact HO152.out) (Kd.R_base ho37) hb); have n4_ := Aside0.mk (Kd.R_lower (Kd.R_new' (Kd.R_new' (Kd.R_new' (Kd.R_new' ho37 (Kd.R_lt (by (with_reducible repeat (first | apply Kd.R_alloc | apply Kd.R_drewN | apply Kd.R_drew)); exact HO137.out))) (Kd.R_lt (by (with_reducible repeat (first | apply Kd.R_alloc | apply Kd.R_drewN | apply Kd.R_drew)); exact HO142.out))) (Kd.R_lt (by (with_reducible repeat (first | apply Kd.R_alloc | apply Kd.R_drewN | apply Kd.R_drew)); exact HO147.out))) (Kd.R_lt (by (with_reducible repeat (first | apply Kd.R_alloc | apply Kd.R_drewN | apply Kd.R_drew)); exact HO152.out))) (below_size (by repeat (first | (with_reducible first | exact HB.out | apply below_alloc | apply pw_below_drewN | apply below_drew1) | exact HB.out)))); have n5_ := Aside0.mk (below_step (by repeat (first | (with_reducible first | exact HB.out | apply below_alloc | apply pw_below_drewN | apply below_drew1) | exact HB.out)) hb); clear HO137; clear HO142; clear HO147; clear HO152; clear HB; have HO137 := n0_; have HO142 := n1_; have HO147 := n2_; have HO152 := n3_; have HO157 := n4_; have HB := n5_; clear n0_ n1_ n2_ n3_ n4_ n5_; clear hb ho37; obtain ⟨Ao38, co38, eo38⟩ := Kd.R_slice HO157.out; subst eo38) | ((with_reducible refine gate_callee (f := 32) rfl ?_); refine goesL_ (some 35) rfl rfl Try.func32 (by kernel_rfl) rfl #[.slice Ao38 y155.length co38] rfl (by (try simp only [List.map_toArray, List.map_cons, List.map_nil]); first | done | rfl | (simp only [List.length_drop, List.length_take]; rfl)) ?_; (with_reducible refine (varint_Back.calls k _ _ y155 t158 false _ ?side1 ?side2 A6.out).mono ?_); (case side1 => repeat (first | exact (Kd.R_reads' HO157.out).2.2 | (with_reducible refine Kd.C_alloc ?_ _) | (with_reducible refine Kd.C_drewN ?_ _) | (with_reducible refine Kd.C_drew ?_))); (case side2 => exact (Kd.R_reads' HO157.out).2.1); rintro e w' ⟨rfl, ⟨nd, rfl⟩⟩; refine ⟨_, rfl, ?_⟩) | ((with_reducible refine gate_callee (f := 31) rfl ?_); refine goesL_ (some 39) rfl rfl Try.func31 (by kernel_rfl) rfl #[.slice none 0 0, .int .i64 (-5)] rfl (by (try simp only [List.map_toArray, List.map_cons, List.map_nil]); first | done | rfl | (simp only [List.length_drop, List.length_take]; rfl)) ?_; (refine (varint_Long.calls k _ _ ([] : List Int) (-5) t160 _ ?side1 ?side2 A7.out).mono ?_); (case side1 => exact Kd.C_nil _ _); (case side2 => exact Nat.le_refl _); rintro e w39 ⟨v161, rfl, ho0, hb⟩; refine ⟨_, rfl, ?_⟩; have n0_ := Aside0.mk (Kd.R_elder' (by (with_reducible repeat (first | apply Kd.R_alloc | apply Kd.R_drewN | apply Kd.R_drew)); exact HO137.out) (Kd.R_base ho0) hb); have n1_ := Aside0.mk (Kd.R_elder' (by (with_reducible repeat (first | apply Kd.R_alloc | apply Kd.R_drewN | apply Kd.R_drew)); exact HO142.out) (Kd.R_base ho0) hb); have n2_ := Aside0.mk (Kd.R_elder' (by (with_reducible repeat (first | apply Kd.R_alloc | apply Kd.R_drewN | apply Kd.R_drew)); exact HO147.out) (Kd.R_base ho0) hb); have n3_ := Aside0.mk (Kd.R_elder' (by (with_reducible repeat (first | apply Kd.R_alloc | apply Kd.R_drewN | apply Kd.R_drew)); exact HO152.out) (Kd.R_base ho0) hb); have n4_ := Aside0.mk (Kd.R_elder' (by (with_reducible repeat (first | apply Kd.R_alloc | apply Kd.R_drewN | apply Kd.R_drew)); exact HO157.out) (Kd.R_base ho0) hb); have n5_ := Aside0.mk (Kd.R_lower (Kd.R_new' (Kd.R_new' (Kd.R_new' (Kd.R_new' (Kd.R_new' ho0 (Kd.R_lt (by (with_reducible repeat (first | apply Kd.R_alloc | apply Kd.R_drewN | apply Kd.R_drew)); exact HO137.out))) (Kd.R_lt (by (with_reducible repeat (first | apply Kd.R_alloc | apply Kd.R_drewN | apply Kd.R_drew)); exact HO142.out))) (Kd.R_lt (by (with_reducible repeat (first | apply Kd.R_alloc | apply Kd.R_drewN | apply Kd.R_drew)); exact HO147.out))) (Kd.R_lt (by (with_reducible repeat (first | apply Kd.R_alloc | apply Kd.R_drewN | apply Kd.R_drew)); exact HO152.out))) (Kd.R_lt (by (with_reducible repeat (first | apply Kd.R_alloc | apply Kd.R_drewN | apply Kd.R_drew)); exact HO157.out))) (below_size (by repeat (first | (with_reducible first | exact HB.out | apply below_alloc | apply pw_below_drewN | apply below_drew1) | exact HB.out)))); have n6_ := Aside0.mk (below_step (by repeat (first | (with_reducible first | exact HB.out | apply below_alloc | apply pw_below_drewN | apply below_drew1) | exact HB.out)) hb); clear HO137; clear HO142; clear HO147; clear HO152; clear HO157; clear HB; have HO137 := n0_; have HO142 := n1_; have HO147 := n2_; have HO152 := n3_; have HO157 := n4_; have HO162 := n5_; have HB := n6_; clear n0_ n1_ n2_ n3_ n4_ n5_ n6_; (try clear hb); (try clear hb2); (try clear hk); (try clear hi); (try clear ho0); obtain ⟨Ao40, co40, eo40⟩ := Kd.R_slice HO162.out; subst eo40) | ((with_reducible refine gate_callee (f := 32) rfl ?_); refine goesL_ (some 40) rfl rfl Try.func32 (by kernel_rfl) rfl #[.slice Ao40 t160.length co40] rfl (by (try simp only [List.map_toArray, List.map_cons, List.map_nil]); first | done | rfl | (simp only [List.length_drop, List.length_take]; rfl)) ?_; (with_reducible refine (varint_Back.calls k _ _ t160 t163 t164 _ ?side1 ?side2 A8.out).mono ?_); (case side1 => repeat (first | exact (Kd.R_reads' HO162.out).2.2 | (with_reducible refine Kd.C_alloc ?_ _) | (with_reducible refine Kd.C_drewN ?_ _) | (with_reducible refine Kd.C_drew ?_))); (case side2 => exact (Kd.R_reads' HO162.out).2.1); rintro e w' ⟨rfl, ⟨nd, rfl⟩⟩; refine ⟨_, rfl, ?_⟩) | ((with_reducible refine gate_callee (f := 28) rfl ?_); refine goesL_ (some 43) rfl rfl Try.func28 (by kernel_rfl) rfl #[.slice none 0 0, .int .i64 (-1)] rfl (by (try simp only [List.map_toArray, List.map_cons, List.map_nil]); first | done | rfl | (simp only [List.length_drop, List.length_take]; rfl)) ?_; (refine (varint_Put.calls k _ _ ([] : List Int) (-1) t165 _ ?side1 ?side2 A9.out).mono ?_); (case side1 => exact Kd.C_nil _ _); (case side2 => exact Nat.le_refl _); rintro e w41 ⟨v166, rfl, ho0, hb⟩; refine ⟨_, rfl, ?_⟩; have n0_ := Aside0.mk (Kd.R_elder' (by (with_reducible repeat (first | apply Kd.R_alloc | apply Kd.R_drewN | apply Kd.R_drew)); exact HO137.out) (Kd.R_base ho0) hb); have n1_ := Aside0.mk (Kd.R_elder' (by (with_reducible repeat (first | apply Kd.R_alloc | apply Kd.R_drewN | apply Kd.R_drew)); exact HO142.out) (Kd.R_base ho0) hb); have n2_ := Aside0.mk (Kd.R_elder' (by (with_reducible repeat (first | apply Kd.R_alloc | apply Kd.R_drewN | apply Kd.R_drew)); exact HO147.out) (Kd.R_base ho0) hb); have n3_ := Aside0.mk (Kd.R_elder' (by (with_reducible repeat (first | apply Kd.R_alloc | apply Kd.R_drewN | apply Kd.R_drew)); exact HO152.out) (Kd.R_base ho0) hb); have n4_ := Aside0.mk (Kd.R_elder' (by (with_reducible repeat (first | apply Kd.R_alloc | apply Kd.R_drewN | apply Kd.R_drew)); exact HO157.out) (Kd.R_base ho0) hb); have n5_ := Aside0.mk (Kd.R_elder' (by (with_reducible repeat (first | apply Kd.R_alloc | apply Kd.R_drewN | apply Kd.R_drew)); exact HO162.out) (Kd.R_base ho0) hb); have n6_ := Aside0.mk (Kd.R_lower (Kd.R_new' (Kd.R_new' (Kd.R_new' (Kd.R_new' (Kd.R_new' (Kd.R_new' ho0 (Kd.R_lt (by (with_reducible repeat (first | apply Kd.R_alloc | apply Kd.R_drewN | apply Kd.R_drew)); exact HO137.out))) (Kd.R_lt (by (with_reducible repeat (first | apply Kd.R_alloc | apply Kd.R_drewN | apply Kd.R_drew)); exact HO142.out))) (Kd.R_lt (by (with_reducible repeat (first | apply Kd.R_alloc | apply Kd.R_drewN | apply Kd.R_drew)); exact HO147.out))) (Kd.R_lt (by (with_reducible repeat (first | apply Kd.R_alloc | apply Kd.R_drewN | apply Kd.R_drew)); exact HO152.out))) (Kd.R_lt (by (with_reducible repeat (first | apply Kd.R_alloc | apply Kd.R_drewN | apply Kd.R_drew)); exact HO157.out))) (Kd.R_lt (by (with_reducible repeat (first | apply Kd.R_alloc | apply Kd.R_drewN | apply Kd.R_drew)); exact HO162.out))) (below_size (by repeat (first | (with_reducible first | exact HB.out | apply below_alloc | apply pw_below_drewN | apply below_drew1) | exact HB.out)))); have n7_ := Aside0.mk (below_step (by repeat (first | (with_reducible first | exact HB.out | apply below_alloc | apply pw_below_drewN | apply below_drew1) | exact HB.out)) hb); clear HO137; clear HO142; clear HO147; clear HO152; clear HO157; clear HO162; clear HB; have HO137 := n0_; have HO142 := n1_; have HO147 := n2_; have HO152 := n3_; have HO157 := n4_; have HO162 := n5_; have HO167 := n6_; have HB := n7_; clear n0_ n1_ n2_ n3_ n4_ n5_ n6_ n7_; (try clear hb); (try clear hb2); (try clear hk); (try clear hi); (try clear ho0); have hcv42 := own_string (P := Try.prog) Try.underlying29 Try.underlying5 Try.underlying9 (Kd.own_of_R HO167.out); have hcv43 := fun (m_ : Nat) => own_string (P := Try.prog) Try.underlying29 Try.underlying5 Try.underlying9 (Kd.own_of_R (Kd.R_drewN HO167.out m_))))
                        go_ret
                        exact ⟨by first | rfl | (simp [errW_none, errW_some] <;> rfl) | (simp [*, errW_none, errW_some] <;> rfl), by repeat (first | (with_reducible first | exact HB.out | apply below_alloc | apply pw_below_drewN | apply below_drew1) | exact HB.out)⟩
                      · rw [if_neg c19] at H
                        exact absurd H (by simp)
                  · rw [if_neg c17] at H
                    exact absurd H (by simp)
                · rw [if_neg c16] at H
                  exact absurd H (by simp)
              · rw [if_neg c15] at H
                exact absurd H (by simp)
            · rw [if_neg c14] at H
              exact absurd H (by simp)
          · rw [if_neg c13] at H
            exact absurd H (by simp)
        · rw [if_neg c12] at H
          exact absurd H (by simp)
      · rw [if_neg c11] at H
        exact absurd H (by simp)
    · rw [if_neg c10] at H
      exact absurd H (by simp)
  · rw [if_neg c5] at H
    exact absurd H (by simp)

/-! ### bordereaulaw2_VarintRows: function 9 -/
mutual
def bordereaulaw2_VarintRows.l0 : Nat → List Int → Int → List Int → Int → Int → Option (Bool)
  | 0, _, _, _, _, _ => none
  | k + 1, x0, x1, x5, x6, x7 => if x7 < x6 then (if 0 ≤ x7 then (if x7 < (x0.length : Int) then ((varint_Put.f k x5 (rd x0 x7)).bind fun t169 => (bordereaulaw2_VarintRows.l0 k x0 x1 t169 x6 (wrap64 (x7 + 1)))) else (none)) else (none)) else (bordereaulaw2_VarintRows.l1 k x0 x1 x5 x6 0 0)
def bordereaulaw2_VarintRows.l1 : Nat → List Int → Int → List Int → Int → Int → Int → Option (Bool)
  | 0, _, _, _, _, _, _ => none
  | k + 1, x0, x1, x5, x6, x8, x9 => if x9 < x6 then (if 0 ≤ x8 then (if x8 ≤ (x5.length : Int) then ((varint_Get.f k (x5.drop (x8 : Int).toNat)).bind fun bt176 => (if 0 ≤ x9 then (if x9 < (x0.length : Int) then (if bt176.1 = (rd x0 x9) then (if bt176.2 < 1 then (none) else (if bt176.1 ≥ (-64) then (if ((bt176.2 == 1) != (decide (bt176.1 < 64))) = true then (none) else (bordereaulaw2_VarintRows.l1 k x0 x1 x5 x6 (wrap64 (x8 + bt176.2)) (wrap64 (x9 + 1)))) else (if ((bt176.2 == 1) != false) = true then (none) else (bordereaulaw2_VarintRows.l1 k x0 x1 x5 x6 (wrap64 (x8 + bt176.2)) (wrap64 (x9 + 1)))))) else (none)) else (none)) else (none))) else (none)) else (none)) else ((bordereaubook_Within.f k x1 0 (x5.length : Int)).bind fun t179 => (if 0 ≤ t179 then (if t179 ≤ (x5.length : Int) then ((varint_Get.f k (x5.take (t179 : Int).toNat)).bind fun bt184 => (if x8 = (x5.length : Int) then (if bt184.2 = 0 then (if bt184.1 = 0 then ((bordereaulaw2_known.f k).bind fun t186 => (some t186)) else (if x6 > 0 then (if 0 < (x0.length : Int) then (if bt184.1 = (rd x0 0) then ((bordereaulaw2_known.f k).bind fun t188 => (some t188)) else (none)) else (none)) else (none))) else (if x6 > 0 then (if 0 < (x0.length : Int) then (if bt184.1 = (rd x0 0) then ((bordereaulaw2_known.f k).bind fun t190 => (some t190)) else (none)) else (none)) else (none))) else (none))) else (none)) else (none)))
end
def bordereaulaw2_VarintRows.f (k : Nat) (l0 : List Int) (a1 : Int) : Option (Bool) := bordereaulaw2_VarintRows.l0 k l0 a1 ([] : List Int) (mn (l0.length : Int) 20) 0
theorem bordereaulaw2_VarintRows.mono_l : ∀ k, (∀ y0 y1 y2 y3 y4, LeO (bordereaulaw2_VarintRows.l0 k y0 y1 y2 y3 y4) (bordereaulaw2_VarintRows.l0 (k + 1) y0 y1 y2 y3 y4)) ∧ (∀ y0 y1 y2 y3 y4 y5, LeO (bordereaulaw2_VarintRows.l1 k y0 y1 y2 y3 y4 y5) (bordereaulaw2_VarintRows.l1 (k + 1) y0 y1 y2 y3 y4 y5))
  | 0 => ⟨fun _ _ _ _ _ r h => by simp [bordereaulaw2_VarintRows.l0] at h, fun _ _ _ _ _ _ r h => by simp [bordereaulaw2_VarintRows.l1] at h⟩
  | k + 1 => by
    obtain ⟨ih0, ih1⟩ := bordereaulaw2_VarintRows.mono_l k
    refine ⟨?_, ?_⟩
    · intro y0 y1 y2 y3 y4
      unfold bordereaulaw2_VarintRows.l0
      repeat' first
      | (with_reducible exact ih0 _ _ _ _ _)
      | (with_reducible exact ih1 _ _ _ _ _ _)
      | (with_reducible exact bordereaubook_Within.mono _ _ _ _)
      | (with_reducible exact bordereaulaw2_known.mono _)
      | (with_reducible exact varint_Get.mono _ _)
      | (with_reducible exact varint_Put.mono _ _ _)
      | (with_reducible exact LeO.refl _)
      | (with_reducible exact LeO.none _)
      | (with_reducible refine LeO.ite ?_ ?_)
      | (with_reducible refine LeO.bind ?_ (fun _ => ?_))
      | exact ih0 _ _ _ _ _
      | exact ih1 _ _ _ _ _ _
      | exact bordereaubook_Within.mono _ _ _ _
      | exact bordereaulaw2_known.mono _
      | exact varint_Get.mono _ _
      | exact varint_Put.mono _ _ _
      | exact LeO.none _
      | refine LeO.ite ?_ ?_
      | refine LeO.bind ?_ (fun _ => ?_)
    · intro y0 y1 y2 y3 y4 y5
      unfold bordereaulaw2_VarintRows.l1
      repeat' first
      | (with_reducible exact ih0 _ _ _ _ _)
      | (with_reducible exact ih1 _ _ _ _ _ _)
      | (with_reducible exact bordereaubook_Within.mono _ _ _ _)
      | (with_reducible exact bordereaulaw2_known.mono _)
      | (with_reducible exact varint_Get.mono _ _)
      | (with_reducible exact varint_Put.mono _ _ _)
      | (with_reducible exact LeO.refl _)
      | (with_reducible exact LeO.none _)
      | (with_reducible refine LeO.ite ?_ ?_)
      | (with_reducible refine LeO.bind ?_ (fun _ => ?_))
      | exact ih0 _ _ _ _ _
      | exact ih1 _ _ _ _ _ _
      | exact bordereaubook_Within.mono _ _ _ _
      | exact bordereaulaw2_known.mono _
      | exact varint_Get.mono _ _
      | exact varint_Put.mono _ _ _
      | exact LeO.none _
      | refine LeO.ite ?_ ?_
      | refine LeO.bind ?_ (fun _ => ?_)
theorem bordereaulaw2_VarintRows.mono : ∀ a0 a1 k, LeO (bordereaulaw2_VarintRows.f k a0 a1) (bordereaulaw2_VarintRows.f (k + 1) a0 a1) := by
  intro a0 a1 k
  obtain ⟨ih0, ih1⟩ := bordereaulaw2_VarintRows.mono_l k
  unfold bordereaulaw2_VarintRows.f
  repeat' first
      | (with_reducible exact ih0 _ _ _ _ _)
      | (with_reducible exact ih1 _ _ _ _ _ _)
      | (with_reducible exact bordereaubook_Within.mono _ _ _ _)
      | (with_reducible exact bordereaulaw2_known.mono _)
      | (with_reducible exact varint_Get.mono _ _)
      | (with_reducible exact varint_Put.mono _ _ _)
      | (with_reducible exact LeO.refl _)
      | (with_reducible exact LeO.none _)
      | (with_reducible refine LeO.ite ?_ ?_)
      | (with_reducible refine LeO.bind ?_ (fun _ => ?_))
      | exact ih0 _ _ _ _ _
      | exact ih1 _ _ _ _ _ _
      | exact bordereaubook_Within.mono _ _ _ _
      | exact bordereaulaw2_known.mono _
      | exact varint_Get.mono _ _
      | exact varint_Put.mono _ _ _
      | exact LeO.none _
      | refine LeO.ite ?_ ?_
      | refine LeO.bind ?_ (fun _ => ?_)
set_option maxHeartbeats 8000000 in
set_option maxRecDepth 100000 in
theorem bordereaulaw2_VarintRows.calls (k : Nat) (A0 : Option Addr) (c0 : Nat) (l0 : List Int) (a1 : Int) (r : Bool) (w : World) (hr0 : Kd.C (Kd.int .i64) w A0 l0.length l0) (hc0 : l0.length ≤ c0) (h : bordereaulaw2_VarintRows.f k l0 a1 = some r) :
    Calls Try.prog 9 #[.slice A0 l0.length c0, .int .i64 a1] w fun e w' => e = .returned (.bool r) ∧ Below w.heap.size w w' := by
  have HR0 := Aside0.mk hr0
  have HC0 := Aside0.mk hc0
  clear hr0 hc0
  have HB := Aside0.mk (Below.refl w.heap.size w)
  have H : (bordereaulaw2_VarintRows.l0 k l0 a1 ([] : List Int) (mn (l0.length : Int) 20) 0) = some r := h
  clear h
  obtain ⟨ji3, hji3⟩ : ∃ j_ : Int, (mn (l0.length : Int) 20) = j_ := ⟨_, rfl⟩
  replace H : (bordereaulaw2_VarintRows.l0 k l0 a1 ([] : List Int) ji3 0) = some r := by first | (rw [hji3] at H; exact H) | (simp only [hji3] at H ⊢; exact H)
  (try (have hji3h : ji3 ≤ 20 := by (rw [← hji3]; unfold mn; (repeat' split) <;> omega)))
  (try (have hji3g : ji3 ≤ 64 := by omega))
  (try (have hji3l : 0 ≤ ji3 := by (rw [← hji3]; unfold mn; (repeat' split) <;> omega)))
  (try (have hji3m : 0 ≤ ji3 := by omega))
  have hji3_ : (if 20 < (l0.length : Int) then 20 else (l0.length : Int)) = ji3 := hji3
  have H' := Aside0.mk H
  clear H
  go_enter Try.func9, Try.ntmps9
  go_wp2
  go_loopg [5, 7] k (fun kq v5 v7 w' => ∃ (x5_1 : List Int) (x7_1 : Int), v7 = .int .i64 x7_1 ∧ Aside0 (bordereaulaw2_VarintRows.l0 kq l0 a1 x5_1 ji3 x7_1 = some r) ∧ Aside0 (kq ≤ k) ∧ Aside0 (Kd.R (Kd.int .u8) 5 w' w.heap.size (fun _ => True) v5 x5_1) ∧ Aside0 (Below w.heap.size w w'))
  case atStart => exact ⟨(([] : List Int)), (0), (by first | rfl | (simp; done) | (simp [*]; done)), H', ⟨Nat.le_refl _⟩, ⟨by first | exact Kd.R_nil _ _ _ _ _ | exact Kd.N_nil _ _ _ _ _ | exact Kd.V_nil _ _ _ _ _ | exact Kd.Q_nil _ _ _ _ _ | exact Kd.S_nil _ _ _ _ _⟩, ⟨by repeat (first | (with_reducible first | exact HB.out | apply below_alloc | apply pw_below_drewN | apply below_drew1) | exact HB.out)⟩⟩
  case round =>
    clear H'
    try clear p2
    obtain ⟨x5_1, x7_1, rfl, HA, HK1, HO_5, HB⟩ := hrel
    cases gk with
    | zero => exact absurd HA.out (by simp [bordereaulaw2_VarintRows.l0])
    | succ k1 =>
      have H := HA.out
      clear HA
      simp only [bordereaulaw2_VarintRows.l0] at H
      by_cases c4 : x7_1 < ji3
      · rw [if_pos c4] at H
        have c4b0 : decide (x7_1 < ji3) = true := decide_eq_true c4
        clear c4
        by_cases c5 : 0 ≤ x7_1
        · rw [if_pos c5] at H
          have c5b0 : decide (0 ≤ x7_1) = true := decide_eq_true c5
          clear c5
          by_cases c6 : x7_1 < (l0.length : Int)
          · rw [if_pos c6] at H
            have c6b0 : decide (x7_1 < (l0.length : Int)) = true := decide_eq_true c6
            clear c6
            replace H := Option.bind_eq_some_iff.mp H
            obtain ⟨t169, A70, H⟩ := H
            replace H : (bordereaulaw2_VarintRows.l0 k1 l0 a1 t169 ji3 (wrap64 (x7_1 + 1))) = some r := H
            have A7 := Aside0.mk A70
            clear A70
            have H' := Aside0.mk H
            clear H
            have p168 : 0 ≤ (x7_1 : Int) := of_decide_eq_true (by first | (with_reducible assumption) | assumption)
            have q168 : x7_1 < (l0.length : Int) := of_decide_eq_true (by first | (with_reducible assumption) | assumption)
            obtain ⟨ad168, e168, hx168_0⟩ := Kd.at_int HR0.out x7_1 p168 q168
            cases e168
            replace hx168_0 := (HB.out.cell (World.block_lt_of_cell? w _ hx168_0)).trans hx168_0
            replace p168 := eq_true p168
            replace q168 := eq_true q168
            obtain ⟨Ao8, co8, eo8⟩ := Kd.R_slice HO_5.out
            subst eo8
            go_wp2_with (first | ((with_reducible refine gate_callee (f := 28) rfl ?_); refine goesL_ (some 27) rfl rfl Try.func28 (by kernel_rfl) rfl #[.slice Ao8 x5_1.length co8, .int .i64 (rd l0 x7_1)] rfl (by (try simp only [List.map_toArray, List.map_cons, List.map_nil]); first | done | rfl | (simp only [List.length_drop, List.length_take]; rfl)) ?_; (with_reducible refine (varint_Put.calls k1 _ _ x5_1 (rd l0 x7_1) t169 _ ?side1 ?side2 A7.out).mono ?_); (case side1 => repeat (first | exact (Kd.R_reads' HO_5.out).2.2 | (with_reducible refine Kd.C_alloc ?_ _) | (with_reducible refine Kd.C_drewN ?_ _) | (with_reducible refine Kd.C_drew ?_))); (case side2 => exact (Kd.R_reads' HO_5.out).2.1); rintro e w9 ⟨v170, rfl, ho0, hb⟩; refine ⟨_, rfl, ?_⟩; have n0_ := Aside0.mk (Kd.R_elder' (by (with_reducible repeat (first | apply Kd.R_alloc | apply Kd.R_drewN | apply Kd.R_drew)); exact HO_5.out) (Kd.R_base ho0) hb); have n1_ := Aside0.mk (Kd.R_lower (Kd.R_new' ho0 (Kd.R_lt (by (with_reducible repeat (first | apply Kd.R_alloc | apply Kd.R_drewN | apply Kd.R_drew)); exact HO_5.out))) (below_size (by repeat (first | (with_reducible first | exact HB.out | apply below_alloc | apply pw_below_drewN | apply below_drew1) | exact HB.out)))); have n2_ := Aside0.mk (below_step (by repeat (first | (with_reducible first | exact HB.out | apply below_alloc | apply pw_below_drewN | apply below_drew1) | exact HB.out)) hb); clear HO_5; clear HB; have HO_5 := n0_; have HO171 := n1_; have HB := n2_; clear n0_ n1_ n2_; (try clear hb); (try clear hb2); (try clear hk); (try clear hi); (try clear ho0)))
            go_roundg k1
            case measure => have := HK1.out; omega
            case rel => exact ⟨(t169), (wrap64 (x7_1 + 1)), (by first | rfl | (simp; done) | (simp [*]; done)), H', ⟨by have := HK1.out; omega⟩, ⟨by (with_reducible repeat (first | apply Kd.R_alloc | apply Kd.R_drewN | apply Kd.R_drew)); exact Kd.R_mono HO171.out (fun _ hk => trivial)⟩, ⟨by repeat (first | (with_reducible first | exact HB.out | apply below_alloc | apply pw_below_drewN | apply below_drew1) | exact HB.out)⟩⟩
          · rw [if_neg c6] at H
            exact absurd H (by simp)
        · rw [if_neg c5] at H
          exact absurd H (by simp)
      · rw [if_neg c4] at H
        have c4b0 : decide (x7_1 < ji3) = false := decide_eq_false c4
        clear c4
        have H' := Aside0.mk H
        clear H
        go_wp2
        go_loopg [8, 9] k1 (fun kq v8 v9 w' => ∃ (x8_2 : Int) (x9_2 : Int), v8 = .int .i64 x8_2 ∧ v9 = .int .i64 x9_2 ∧ Aside0 (bordereaulaw2_VarintRows.l1 kq l0 a1 x5_1 ji3 x8_2 x9_2 = some r) ∧ Aside0 (kq ≤ k1) ∧ Aside0 (Kd.R (Kd.int .u8) 5 w' w.heap.size (fun _ => True) u5 x5_1) ∧ Aside0 (Below w.heap.size w w'))
        case atStart => exact ⟨(0), (0), (by first | rfl | (simp; done) | (simp [*]; done)), (by first | rfl | (simp; done) | (simp [*]; done)), H', ⟨Nat.le_refl _⟩, ⟨by (with_reducible repeat (first | apply Kd.R_alloc | apply Kd.R_drewN | apply Kd.R_drew)); exact HO_5.out⟩, ⟨by repeat (first | (with_reducible first | exact HB.out | apply below_alloc | apply pw_below_drewN | apply below_drew1) | exact HB.out)⟩⟩
        case round =>
          clear H'
          try clear p1
          try clear q1
          try clear hx1
          try clear c2
          try clear p2
          try clear c4
          try clear c4b0
          try clear c5
          try clear c5b0
          try clear c6
          try clear c6b0
          try clear p6
          try clear c9
          try clear hx168_0
          try clear p168
          try clear p2
          try clear q168
          obtain ⟨x8_2, x9_2, rfl, rfl, HA, HK2, HO_5, HB⟩ := hrel
          cases gk with
          | zero => exact absurd HA.out (by simp [bordereaulaw2_VarintRows.l1])
          | succ k2 =>
            have H := HA.out
            clear HA
            simp only [bordereaulaw2_VarintRows.l1] at H
            by_cases c10 : x9_2 < ji3
            · rw [if_pos c10] at H
              have c10b0 : decide (x9_2 < ji3) = true := decide_eq_true c10
              clear c10
              by_cases c11 : 0 ≤ x8_2
              · rw [if_pos c11] at H
                have c11b0 := eq_true c11
                have c11b1 : decide (0 ≤ x8_2) = true := decide_eq_true c11
                clear c11
                by_cases c12 : x8_2 ≤ (x5_1.length : Int)
                · rw [if_pos c12] at H
                  have c12b0 := eq_true c12
                  have c12b1 : decide (x8_2 ≤ (x5_1.length : Int)) = true := decide_eq_true c12
                  clear c12
                  obtain ⟨y172, hy172⟩ : ∃ y_ : List Int, y_ = (x5_1.drop (x8_2 : Int).toNat) := ⟨_, rfl⟩
                  replace H : ((varint_Get.f k2 y172).bind fun bt176 => (if 0 ≤ x9_2 then (if x9_2 < (l0.length : Int) then (if bt176.1 = (rd l0 x9_2) then (if bt176.2 < 1 then (none) else (if bt176.1 ≥ (-64) then (if ((bt176.2 == 1) != (decide (bt176.1 < 64))) = true then (none) else (bordereaulaw2_VarintRows.l1 k2 l0 a1 x5_1 ji3 (wrap64 (x8_2 + bt176.2)) (wrap64 (x9_2 + 1)))) else (if ((bt176.2 == 1) != false) = true then (none) else (bordereaulaw2_VarintRows.l1 k2 l0 a1 x5_1 ji3 (wrap64 (x8_2 + bt176.2)) (wrap64 (x9_2 + 1)))))) else (none)) else (none)) else (none))) = some r := by first | (rw [hy172]; with_reducible exact H) | (have H2_ := (Option.bind_some _ _).symm.trans H; rw [hy172]; with_reducible exact H2_) | (have H2_ := (Option.bind_some _ _).symm.trans H; with_reducible exact H2_) | with_reducible exact H | (rw [hy172]; exact H) | exact H
                  have Ny172 := Aside0.mk hy172
                  clear hy172
                  replace H := Option.bind_eq_some_iff.mp H
                  obtain ⟨⟨t176, t177⟩, A130, H⟩ := H
                  replace H : (if 0 ≤ x9_2 then (if x9_2 < (l0.length : Int) then (if t176 = (rd l0 x9_2) then (if t177 < 1 then (none) else (if t176 ≥ (-64) then (if ((t177 == 1) != (decide (t176 < 64))) = true then (none) else (bordereaulaw2_VarintRows.l1 k2 l0 a1 x5_1 ji3 (wrap64 (x8_2 + t177)) (wrap64 (x9_2 + 1)))) else (if ((t177 == 1) != false) = true then (none) else (bordereaulaw2_VarintRows.l1 k2 l0 a1 x5_1 ji3 (wrap64 (x8_2 + t177)) (wrap64 (x9_2 + 1)))))) else (none)) else (none)) else (none)) = some r := H
                  have A13 := Aside0.mk A130
                  clear A130
                  by_cases c14 : 0 ≤ x9_2
                  · rw [if_pos c14] at H
                    have c14b0 : decide (0 ≤ x9_2) = true := decide_eq_true c14
                    clear c14
                    by_cases c15 : x9_2 < (l0.length : Int)
                    · rw [if_pos c15] at H
                      have c15b0 : decide (x9_2 < (l0.length : Int)) = true := decide_eq_true c15
                      clear c15
                      by_cases c16 : t176 = (rd l0 x9_2)
                      · rw [if_pos c16] at H
                        have c16b0 : (t176 == (rd l0 x9_2)) = true := beq_iff_eq.mpr c16
                        have c16b1 : (t176 != (rd l0 x9_2)) = false := bne_eq_false_iff_eq.mpr c16
                        clear c16
                        by_cases c17 : t177 < 1
                        · rw [if_pos c17] at H
                          exact absurd H (by simp)
                        · rw [if_neg c17] at H
                          have c17b0 : decide (t177 < 1) = false := decide_eq_false c17
                          clear c17
                          by_cases c18 : t176 ≥ (-64)
                          · rw [if_pos c18] at H
                            have c18b0 : decide ((-64) ≤ t176) = true := decide_eq_true c18
                            clear c18
                            by_cases c19 : ((t177 == 1) != (decide (t176 < 64))) = true
                            · rw [if_pos c19] at H
                              exact absurd H (by simp)
                            · rw [if_neg c19] at H
                              have c19b0 : ((t177 == 1) != (decide (t176 < 64))) = false := by simpa using c19
                              (try (have c19b1 : decide ((t177 == 1) = (decide (t176 < 64))) = true := by simpa using c19))
                              (try (have c19b2 : ((t177 == 1) == (decide (t176 < 64))) = true := by simpa using c19))
                              clear c19
                              have H' := Aside0.mk H
                              clear H
                              obtain ⟨Ao21, co21, eo21⟩ := Kd.R_slice HO_5.out
                              subst eo21
                              have q20 : (x8_2 : Int) ≤ ((x5_1.length : Int) : Int) := of_decide_eq_true (by first | (with_reducible assumption) | assumption)
                              obtain ⟨i020, hi020, _, hsz20, _⟩ := info_parts info5
                              have hroom20 : x5_1.length ≤ co21 := (Kd.R_reads' HO_5.out).2.1
                              have hC20 : Kd.C (Kd.int .u8) _ Ao21 x5_1.length x5_1 := (Kd.R_reads' HO_5.out).2.2
                              have q020 : (0 : Int) ≤ (x8_2 : Int) := of_decide_eq_true (by first | (with_reducible assumption) | assumption)
                              have hcut20 := cut_from (P := Try.prog) 29 5 .i64 Try.underlying29 hi020 1 hsz20 Ao21 x5_1.length co21 x8_2 q020 q20
                              have hr20 := Kd.C_drop (m := (x8_2 : Int).toNat) (c := co21) hC20 (by omega) hroom20
                              obtain ⟨A20, hA20⟩ : ∃ A1, A1 = (if co21 = (x8_2 : Int).toNat then Ao21 else (Ao21 : Option Addr).map (·.add ((x8_2 : Int).toNat * 1))) := ⟨_, rfl⟩
                              obtain ⟨c20, hc20⟩ : ∃ c1, c1 = co21 - (x8_2 : Int).toNat := ⟨_, rfl⟩
                              have hy20 : y172.length = x5_1.length - (x8_2 : Int).toNat := (by rw [Ny172.out, List.length_drop] <;> omega)
                              rw [show (x5_1).drop (x8_2 : Int).toNat = y172 from Ny172.out.symm] at hr20
                              replace hr20 : Kd.C (Kd.int .u8) _ A20 y172.length y172 := (by rw [hA20]; exact hr20)
                              rw [← hy20, ← hA20, ← hc20] at hcut20
                              have HR175 := Aside0.mk hr20
                              have HC175 := Aside0.mk (show y172.length ≤ c20 from by rw [hy20, hc20]; exact Nat.sub_le_sub_right hroom20 _)
                              clear hr20 hC20 hroom20 hi020 hsz20 hc20
                              have KY20 := Aside0.mk hy20
                              have KA20 := Aside0.mk hA20
                              clear hy20 hA20
                              have KL20 := Aside0.mk (show (x8_2 : Int).toNat ≤ x5_1.length from by omega)
                              replace q20 := eq_true q20
                              go_wp2_with (first | ((with_reducible refine gate_callee (f := 29) rfl ?_); refine goesL_ (some 37) rfl rfl Try.func29 (by kernel_rfl) rfl #[.slice A20 y172.length c20] rfl (by (try simp only [List.map_toArray, List.map_cons, List.map_nil]); first | done | rfl | (simp only [List.length_drop, List.length_take]; rfl)) ?_; (with_reducible refine (varint_Get.calls k2 _ _ y172 t176 t177 _ ?side1 ?side2 A13.out).mono ?_); (case side1 => repeat (first | exact (by repeat (first | (with_reducible exact HR175.out) | (with_reducible refine Kd.C_alloc ?_ _) | (with_reducible refine Kd.C_drewN ?_ _) | (with_reducible refine Kd.C_drew ?_) | exact HR175.out)) | (with_reducible refine Kd.C_alloc ?_ _) | (with_reducible refine Kd.C_drewN ?_ _) | (with_reducible refine Kd.C_drew ?_))); (case side2 => exact HC175.out); rintro e w22 ⟨rfl, hb⟩; refine ⟨_, rfl, ?_⟩; have n0_ := Aside0.mk (Kd.R_below (by (with_reducible repeat (first | apply Kd.R_alloc | apply Kd.R_drewN | apply Kd.R_drew)); exact HO_5.out) hb); have n1_ := Aside0.mk (Kd.C_below (by repeat (first | (with_reducible exact HR175.out) | (with_reducible refine Kd.C_alloc ?_ _) | (with_reducible refine Kd.C_drewN ?_ _) | (with_reducible refine Kd.C_drew ?_) | exact HR175.out)) hb); have n2_ := Aside0.mk (below_step (by repeat (first | (with_reducible first | exact HB.out | apply below_alloc | apply pw_below_drewN | apply below_drew1) | exact HB.out)) hb); clear HO_5; clear HR175; clear HB; have HO_5 := n0_; have HR175 := n1_; have HB := n2_; clear n0_ n1_ n2_; (try clear hb); (try clear hb2); (try clear hk); (try clear hi); have p178 : 0 ≤ (x9_2 : Int) := of_decide_eq_true (by first | (with_reducible assumption) | assumption); have q178 : x9_2 < (l0.length : Int) := of_decide_eq_true (by first | (with_reducible assumption) | assumption); obtain ⟨ad178, e178, hx178_0⟩ := Kd.at_int HR0.out x9_2 p178 q178; cases e178; replace hx178_0 := (HB.out.cell (World.block_lt_of_cell? w _ hx178_0)).trans hx178_0; replace p178 := eq_true p178; replace q178 := eq_true q178))
                              go_roundg k2
                              case measure => have := HK1.out; have := HK2.out; omega
                              case rel => exact ⟨(wrap64 (x8_2 + t177)), (wrap64 (x9_2 + 1)), (by first | rfl | (simp; done) | (simp [*]; done)), (by first | rfl | (simp; done) | (simp [*]; done)), H', ⟨by have := HK1.out; have := HK2.out; omega⟩, ⟨by (with_reducible repeat (first | apply Kd.R_alloc | apply Kd.R_drewN | apply Kd.R_drew)); exact HO_5.out⟩, ⟨by repeat (first | (with_reducible first | exact HB.out | apply below_alloc | apply pw_below_drewN | apply below_drew1) | exact HB.out)⟩⟩
                          · rw [if_neg c18] at H
                            have c18b0 : decide ((-64) ≤ t176) = false := decide_eq_false c18
                            clear c18
                            by_cases c23 : ((t177 == 1) != false) = true
                            · rw [if_pos c23] at H
                              exact absurd H (by simp)
                            · rw [if_neg c23] at H
                              have c23b0 : ((t177 == 1) != false) = false := by simpa using c23
                              (try (have c23b1 : decide ((t177 == 1) = false) = true := by simpa using c23))
                              (try (have c23b2 : ((t177 == 1) == false) = true := by simpa using c23))
                              clear c23
                              have H' := Aside0.mk H
                              clear H
                              obtain ⟨Ao25, co25, eo25⟩ := Kd.R_slice HO_5.out
                              subst eo25
                              have q24 : (x8_2 : Int) ≤ ((x5_1.length : Int) : Int) := of_decide_eq_true (by first | (with_reducible assumption) | assumption)
                              obtain ⟨i024, hi024, _, hsz24, _⟩ := info_parts info5
                              have hroom24 : x5_1.length ≤ co25 := (Kd.R_reads' HO_5.out).2.1
                              have hC24 : Kd.C (Kd.int .u8) _ Ao25 x5_1.length x5_1 := (Kd.R_reads' HO_5.out).2.2
                              have q024 : (0 : Int) ≤ (x8_2 : Int) := of_decide_eq_true (by first | (with_reducible assumption) | assumption)
                              have hcut24 := cut_from (P := Try.prog) 29 5 .i64 Try.underlying29 hi024 1 hsz24 Ao25 x5_1.length co25 x8_2 q024 q24
                              have hr24 := Kd.C_drop (m := (x8_2 : Int).toNat) (c := co25) hC24 (by omega) hroom24
                              obtain ⟨A24, hA24⟩ : ∃ A1, A1 = (if co25 = (x8_2 : Int).toNat then Ao25 else (Ao25 : Option Addr).map (·.add ((x8_2 : Int).toNat * 1))) := ⟨_, rfl⟩
                              obtain ⟨c24, hc24⟩ : ∃ c1, c1 = co25 - (x8_2 : Int).toNat := ⟨_, rfl⟩
                              have hy24 : y172.length = x5_1.length - (x8_2 : Int).toNat := (by rw [Ny172.out, List.length_drop] <;> omega)
                              rw [show (x5_1).drop (x8_2 : Int).toNat = y172 from Ny172.out.symm] at hr24
                              replace hr24 : Kd.C (Kd.int .u8) _ A24 y172.length y172 := (by rw [hA24]; exact hr24)
                              rw [← hy24, ← hA24, ← hc24] at hcut24
                              have HR175 := Aside0.mk hr24
                              have HC175 := Aside0.mk (show y172.length ≤ c24 from by rw [hy24, hc24]; exact Nat.sub_le_sub_right hroom24 _)
                              clear hr24 hC24 hroom24 hi024 hsz24 hc24
                              have KY24 := Aside0.mk hy24
                              have KA24 := Aside0.mk hA24
                              clear hy24 hA24
                              have KL24 := Aside0.mk (show (x8_2 : Int).toNat ≤ x5_1.length from by omega)
                              replace q24 := eq_true q24
                              go_wp2_with (first | ((with_reducible refine gate_callee (f := 29) rfl ?_); refine goesL_ (some 37) rfl rfl Try.func29 (by kernel_rfl) rfl #[.slice A24 y172.length c24] rfl (by (try simp only [List.map_toArray, List.map_cons, List.map_nil]); first | done | rfl | (simp only [List.length_drop, List.length_take]; rfl)) ?_; (with_reducible refine (varint_Get.calls k2 _ _ y172 t176 t177 _ ?side1 ?side2 A13.out).mono ?_); (case side1 => repeat (first | exact (by repeat (first | (with_reducible exact HR175.out) | (with_reducible refine Kd.C_alloc ?_ _) | (with_reducible refine Kd.C_drewN ?_ _) | (with_reducible refine Kd.C_drew ?_) | exact HR175.out)) | (with_reducible refine Kd.C_alloc ?_ _) | (with_reducible refine Kd.C_drewN ?_ _) | (with_reducible refine Kd.C_drew ?_))); (case side2 => exact HC175.out); rintro e w26 ⟨rfl, hb⟩; refine ⟨_, rfl, ?_⟩; have n0_ := Aside0.mk (Kd.R_below (by (with_reducible repeat (first | apply Kd.R_alloc | apply Kd.R_drewN | apply Kd.R_drew)); exact HO_5.out) hb); have n1_ := Aside0.mk (Kd.C_below (by repeat (first | (with_reducible exact HR175.out) | (with_reducible refine Kd.C_alloc ?_ _) | (with_reducible refine Kd.C_drewN ?_ _) | (with_reducible refine Kd.C_drew ?_) | exact HR175.out)) hb); have n2_ := Aside0.mk (below_step (by repeat (first | (with_reducible first | exact HB.out | apply below_alloc | apply pw_below_drewN | apply below_drew1) | exact HB.out)) hb); clear HO_5; clear HR175; clear HB; have HO_5 := n0_; have HR175 := n1_; have HB := n2_; clear n0_ n1_ n2_; (try clear hb); (try clear hb2); (try clear hk); (try clear hi); have p178 : 0 ≤ (x9_2 : Int) := of_decide_eq_true (by first | (with_reducible assumption) | assumption); have q178 : x9_2 < (l0.length : Int) := of_decide_eq_true (by first | (with_reducible assumption) | assumption); obtain ⟨ad178, e178, hx178_0⟩ := Kd.at_int HR0.out x9_2 p178 q178; cases e178; replace hx178_0 := (HB.out.cell (World.block_lt_of_cell? w _ hx178_0)).trans hx178_0; replace p178 := eq_true p178; replace q178 := eq_true q178))
                              go_roundg k2
                              case measure => have := HK1.out; have := HK2.out; omega
                              case rel => exact ⟨(wrap64 (x8_2 + t177)), (wrap64 (x9_2 + 1)), (by first | rfl | (simp; done) | (simp [*]; done)), (by first | rfl | (simp; done) | (simp [*]; done)), H', ⟨by have := HK1.out; have := HK2.out; omega⟩, ⟨by (with_reducible repeat (first | apply Kd.R_alloc | apply Kd.R_drewN | apply Kd.R_drew)); exact HO_5.out⟩, ⟨by repeat (first | (with_reducible first | exact HB.out | apply below_alloc | apply pw_below_drewN | apply below_drew1) | exact HB.out)⟩⟩
                      · rw [if_neg c16] at H
                        exact absurd H (by simp)
                    · rw [if_neg c15] at H
                      exact absurd H (by simp)
                  · rw [if_neg c14] at H
                    exact absurd H (by simp)
                · rw [if_neg c12] at H
                  exact absurd H (by simp)
              · rw [if_neg c11] at H
                exact absurd H (by simp)
            · rw [if_neg c10] at H
              have c10b0 : decide (x9_2 < ji3) = false := decide_eq_false c10
              clear c10
              replace H := Option.bind_eq_some_iff.mp H
              obtain ⟨t179, A270, H⟩ := H
              replace H : (if 0 ≤ t179 then (if t179 ≤ (x5_1.length : Int) then ((varint_Get.f k2 (x5_1.take (t179 : Int).toNat)).bind fun bt184 => (if x8_2 = (x5_1.length : Int) then (if bt184.2 = 0 then (if bt184.1 = 0 then ((bordereaulaw2_known.f k2).bind fun t186 => (some t186)) else (if ji3 > 0 then (if 0 < (l0.length : Int) then (if bt184.1 = (rd l0 0) then ((bordereaulaw2_known.f k2).bind fun t188 => (some t188)) else (none)) else (none)) else (none))) else (if ji3 > 0 then (if 0 < (l0.length : Int) then (if bt184.1 = (rd l0 0) then ((bordereaulaw2_known.f k2).bind fun t190 => (some t190)) else (none)) else (none)) else (none))) else (none))) else (none)) else (none)) = some r := H
              have A27 := Aside0.mk A270
              clear A270
              by_cases c28 : 0 ≤ t179
              · rw [if_pos c28] at H
                have c28b0 := eq_true c28
                have c28b1 : decide (0 ≤ t179) = true := decide_eq_true c28
                clear c28
                by_cases c29 : t179 ≤ (x5_1.length : Int)
                · rw [if_pos c29] at H
                  have c29b0 := eq_true c29
                  have c29b1 : decide (t179 ≤ (x5_1.length : Int)) = true := decide_eq_true c29
                  clear c29
                  obtain ⟨y180, hy180⟩ : ∃ y_ : List Int, y_ = (x5_1.take (t179 : Int).toNat) := ⟨_, rfl⟩
                  replace H : ((varint_Get.f k2 y180).bind fun bt184 => (if x8_2 = (x5_1.length : Int) then (if bt184.2 = 0 then (if bt184.1 = 0 then ((bordereaulaw2_known.f k2).bind fun t186 => (some t186)) else (if ji3 > 0 then (if 0 < (l0.length : Int) then (if bt184.1 = (rd l0 0) then ((bordereaulaw2_known.f k2).bind fun t188 => (some t188)) else (none)) else (none)) else (none))) else (if ji3 > 0 then (if 0 < (l0.length : Int) then (if bt184.1 = (rd l0 0) then ((bordereaulaw2_known.f k2).bind fun t190 => (some t190)) else (none)) else (none)) else (none))) else (none))) = some r := by first | (rw [hy180]; with_reducible exact H) | (have H2_ := (Option.bind_some _ _).symm.trans H; rw [hy180]; with_reducible exact H2_) | (have H2_ := (Option.bind_some _ _).symm.trans H; with_reducible exact H2_) | with_reducible exact H | (rw [hy180]; exact H) | exact H
                  have Ny180 := Aside0.mk hy180
                  clear hy180
                  replace H := Option.bind_eq_some_iff.mp H
                  obtain ⟨⟨t184, t185⟩, A300, H⟩ := H
                  replace H : (if x8_2 = (x5_1.length : Int) then (if t185 = 0 then (if t184 = 0 then ((bordereaulaw2_known.f k2).bind fun t186 => (some t186)) else (if ji3 > 0 then (if 0 < (l0.length : Int) then (if t184 = (rd l0 0) then ((bordereaulaw2_known.f k2).bind fun t188 => (some t188)) else (none)) else (none)) else (none))) else (if ji3 > 0 then (if 0 < (l0.length : Int) then (if t184 = (rd l0 0) then ((bordereaulaw2_known.f k2).bind fun t190 => (some t190)) else (none)) else (none)) else (none))) else (none)) = some r := H
                  have A30 := Aside0.mk A300
                  clear A300
                  by_cases c31 : x8_2 = (x5_1.length : Int)
                  · rw [if_pos c31] at H
                    have c31b0 : (x8_2 == (x5_1.length : Int)) = true := beq_iff_eq.mpr c31
                    have c31b1 : (x8_2 != (x5_1.length : Int)) = false := bne_eq_false_iff_eq.mpr c31
                    clear c31
                    by_cases c32 : t185 = 0
                    · rw [if_pos c32] at H
                      have c32b0 : (t185 == 0) = true := beq_iff_eq.mpr c32
                      have c32b1 : (t185 != 0) = false := bne_eq_false_iff_eq.mpr c32
                      clear c32
                      by_cases c33 : t184 = 0
                      · rw [if_pos c33] at H
                        have c33b0 : (t184 == 0) = true := beq_iff_eq.mpr c33
                        have c33b1 : (t184 != 0) = false := bne_eq_false_iff_eq.mpr c33
                        clear c33
                        replace H := Option.bind_eq_some_iff.mp H
                        obtain ⟨t186, A340, H⟩ := H
                        replace H : (some t186) = some r := H
                        have A34 := Aside0.mk A340
                        clear A340
                        obtain rfl := Option.some.inj H
                        obtain ⟨Ao35, co35, eo35⟩ := Kd.R_slice HO_5.out
                        subst eo35
                        go_wp2_with (first | ((with_reducible refine gate_callee (f := 23) rfl ?_); refine goesL_ (some 69) rfl rfl Try.func23 (by kernel_rfl) rfl #[.int .i64 a1, .int .i64 0, .int .i64 (x5_1.length : Int)] rfl (by (try simp only [List.map_toArray, List.map_cons, List.map_nil]); first | done | rfl | (simp only [List.length_drop, List.length_take]; rfl)) ?_; (with_reducible refine (bordereaubook_Within.calls k2 a1 0 (x5_1.length : Int) t179 _ A27.out).mono ?_); rintro e w' ⟨rfl, ⟨nd, rfl⟩⟩; refine ⟨_, rfl, ?_⟩; have q36 : (t179 : Int) ≤ ((x5_1.length : Int) : Int) := of_decide_eq_true (by first | (with_reducible assumption) | assumption); obtain ⟨i036, hi036, _, hsz36, _⟩ := info_parts info5; have hroom36 : x5_1.length ≤ co35 := (Kd.R_reads' HO_5.out).2.1; have hC36 : Kd.C (Kd.int .u8) _ Ao35 x5_1.length x5_1 := (Kd.R_reads' HO_5.out).2.2; have hcut36 := cut_to (P := Try.prog) 29 5 .i64 Try.underlying29 hi036 Ao35 x5_1.length co35 t179 (of_decide_eq_true (by first | (with_reducible assumption) | assumption)) q36 hroom36; have hr36 := Kd.C_take (m := (t179 : Int).toNat) hC36 (by omega); have hy36 : y180.length = (t179 : Int).toNat := (by rw [Ny180.out, List.length_take]; omega); rw [← Ny180.out] at hr36; rw [← hy36] at hcut36; have HR183 := Aside0.mk hr36; have HC183 := Aside0.mk (show y180.length ≤ co35 from by omega); clear hr36 hC36 hroom36 hi036 hsz36; have KY36 := Aside0.mk hy36; clear hy36; have KL36 := Aside0.mk (show (t179 : Int).toNat ≤ x5_1.length from by omega); replace q36 := eq_true q36) | ((with_reducible refine gate_callee (f := 29) rfl ?_); refine goesL_ (some 71) rfl rfl Try.func29 (by kernel_rfl) rfl #[.slice Ao35 y180.length co35] rfl (by (try simp only [List.map_toArray, List.map_cons, List.map_nil]); first | done | rfl | (simp only [List.length_drop, List.length_take]; rfl)) ?_; (with_reducible refine (varint_Get.calls k2 _ _ y180 t184 t185 _ ?side1 ?side2 A30.out).mono ?_); (case side1 => repeat (first | exact (by repeat (first | (with_reducible exact HR183.out) | (with_reducible refine Kd.C_alloc ?_ _) | (with_reducible refine Kd.C_drewN ?_ _) | (with_reducible refine Kd.C_drew ?_) | exact HR183.out)) | (with_reducible refine Kd.C_alloc ?_ _) | (with_reducible refine Kd.C_drewN ?_ _) | (with_reducible refine Kd.C_drew ?_))); (case side2 => exact HC183.out); rintro e w37 ⟨rfl, hb⟩; refine ⟨_, rfl, ?_⟩; have n0_ := Aside0.mk (Kd.R_below (by (with_reducible repeat (first | apply Kd.R_alloc | apply Kd.R_drewN | apply Kd.R_drew)); exact HO_5.out) hb); have n1_ := Aside0.mk (Kd.C_below (by repeat (first | (with_reducible exact HR183.out) | (with_reducible refine Kd.C_alloc ?_ _) | (with_reducible refine Kd.C_drewN ?_ _) | (with_reducible refine Kd.C_drew ?_) | exact HR183.out)) hb); have n2_ := Aside0.mk (below_step (by repeat (first | (with_reducible first | exact HB.out | apply below_alloc | apply pw_below_drewN | apply below_drew1) | exact HB.out)) hb); clear HO_5; clear HR183; clear HB; have HO_5 := n0_; have HR183 := n1_; have HB := n2_; clear n0_ n1_ n2_; (try clear hb); (try clear hb2); (try clear hk); (try clear hi)) | (go_at_call 30; (with_reducible refine (bordereaulaw2_known.calls k2  t186 _ A34.out).mono ?_); rintro e w38 ⟨rfl, hb⟩; have n0_ := Aside0.mk (Kd.R_below (by (with_reducible repeat (first | apply Kd.R_alloc | apply Kd.R_drewN | apply Kd.R_drew)); exact HO_5.out) hb); have n1_ := Aside0.mk (Kd.C_below (by repeat (first | (with_reducible exact HR183.out) | (with_reducible refine Kd.C_alloc ?_ _) | (with_reducible refine Kd.C_drewN ?_ _) | (with_reducible refine Kd.C_drew ?_) | exact HR183.out)) hb); have n2_ := Aside0.mk (below_step (by repeat (first | (with_reducible first | exact HB.out | apply below_alloc | apply pw_below_drewN | apply below_drew1) | exact HB.out)) hb); clear HO_5; clear HR183; clear HB; have HO_5 := n0_; have HR183 := n1_; have HB := n2_; clear n0_ n1_ n2_; (try clear hb); (try clear hb2); (try clear hk); (try clear hi)))
                        go_ret
                        exact ⟨by first | rfl | (simp [errW_none, errW_some] <;> rfl) | (simp only [← hji3]; first | rfl | (simp [errW_none, errW_some] <;> rfl)) | (simp [*, errW_none, errW_some] <;> rfl), by repeat (first | (with_reducible first | exact HB.out | apply below_alloc | apply pw_below_drewN | apply below_drew1) | exact HB.out)⟩
                      · rw [if_neg c33] at H
                        have c33b0 : (t184 == 0) = false := beq_eq_false_iff_ne.mpr c33
                        have c33b1 : (t184 != 0) = true := bne_iff_ne.mpr c33
                        by_cases c39 : ji3 > 0
                        · rw [if_pos c39] at H
                          have c39b0 : decide (0 < ji3) = true := decide_eq_true c39
                          clear c39
                          by_cases c40 : 0 < (l0.length : Int)
                          · rw [if_pos c40] at H
                            have c40b0 : decide (0 < (l0.length : Int)) = true := decide_eq_true c40
                            have c40b1 : decide (0 < l0.length) = true := decide_eq_true (by omega)
                            clear c40
                            by_cases c41 : t184 = (rd l0 0)
                            · rw [if_pos c41] at H
                              have c41b0 : (t184 == (rd l0 0)) = true := beq_iff_eq.mpr c41
                              have c41b1 : (t184 != (rd l0 0)) = false := bne_eq_false_iff_eq.mpr c41
                              clear c41
                              replace H := Option.bind_eq_some_iff.mp H
                              obtain ⟨t188, A420, H⟩ := H
                              replace H : (some t188) = some r := H
                              have A42 := Aside0.mk A420
                              clear A420
                              obtain rfl := Option.some.inj H
                              obtain ⟨Ao43, co43, eo43⟩ := Kd.R_slice HO_5.out
                              subst eo43
                              go_wp2_with (first | ((with_reducible refine gate_callee (f := 23) rfl ?_); refine goesL_ (some 69) rfl rfl Try.func23 (by kernel_rfl) rfl #[.int .i64 a1, .int .i64 0, .int .i64 (x5_1.length : Int)] rfl (by (try simp only [List.map_toArray, List.map_cons, List.map_nil]); first | done | rfl | (simp only [List.length_drop, List.length_take]; rfl)) ?_; (with_reducible refine (bordereaubook_Within.calls k2 a1 0 (x5_1.length : Int) t179 _ A27.out).mono ?_); rintro e w' ⟨rfl, ⟨nd, rfl⟩⟩; refine ⟨_, rfl, ?_⟩; have q44 : (t179 : Int) ≤ ((x5_1.length : Int) : Int) := of_decide_eq_true (by first | (with_reducible assumption) | assumption); obtain ⟨i044, hi044, _, hsz44, _⟩ := info_parts info5; have hroom44 : x5_1.length ≤ co43 := (Kd.R_reads' HO_5.out).2.1; have hC44 : Kd.C (Kd.int .u8) _ Ao43 x5_1.length x5_1 := (Kd.R_reads' HO_5.out).2.2; have hcut44 := cut_to (P := Try.prog) 29 5 .i64 Try.underlying29 hi044 Ao43 x5_1.length co43 t179 (of_decide_eq_true (by first | (with_reducible assumption) | assumption)) q44 hroom44; have hr44 := Kd.C_take (m := (t179 : Int).toNat) hC44 (by omega); have hy44 : y180.length = (t179 : Int).toNat := (by rw [Ny180.out, List.length_take]; omega); rw [← Ny180.out] at hr44; rw [← hy44] at hcut44; have HR183 := Aside0.mk hr44; have HC183 := Aside0.mk (show y180.length ≤ co43 from by omega); clear hr44 hC44 hroom44 hi044 hsz44; have KY44 := Aside0.mk hy44; clear hy44; have KL44 := Aside0.mk (show (t179 : Int).toNat ≤ x5_1.length from by omega); replace q44 := eq_true q44) | ((with_reducible refine gate_callee (f := 29) rfl ?_); refine goesL_ (some 71) rfl rfl Try.func29 (by kernel_rfl) rfl #[.slice Ao43 y180.length co43] rfl (by (try simp only [List.map_toArray, List.map_cons, List.map_nil]); first | done | rfl | (simp only [List.length_drop, List.length_take]; rfl)) ?_; (with_reducible refine (varint_Get.calls k2 _ _ y180 t184 t185 _ ?side1 ?side2 A30.out).mono ?_); (case side1 => repeat (first | exact (by repeat (first | (with_reducible exact HR183.out) | (with_reducible refine Kd.C_alloc ?_ _) | (with_reducible refine Kd.C_drewN ?_ _) | (with_reducible refine Kd.C_drew ?_) | exact HR183.out)) | (with_reducible refine Kd.C_alloc ?_ _) | (with_reducible refine Kd.C_drewN ?_ _) | (with_reducible refine Kd.C_drew ?_))); (case side2 => exact HC183.out); rintro e w45 ⟨rfl, hb⟩; refine ⟨_, rfl, ?_⟩; have n0_ := Aside0.mk (Kd.R_below (by (with_reducible repeat (first | apply Kd.R_alloc | apply Kd.R_drewN | apply Kd.R_drew)); exact HO_5.out) hb); have n1_ := Aside0.mk (Kd.C_below (by repeat (first | (with_reducible exact HR183.out) | (with_reducible refine Kd.C_alloc ?_ _) | (with_reducible refine Kd.C_drewN ?_ _) | (with_reducible refine Kd.C_drew ?_) | exact HR183.out)) hb); have n2_ := Aside0.mk (below_step (by repeat (first | (with_reducible first | exact HB.out | apply below_alloc | apply pw_below_drewN | apply below_drew1) | exact HB.out)) hb); clear HO_5; clear HR183; clear HB; have HO_5 := n0_; have HR183 := n1_; have HB := n2_; clear n0_ n1_ n2_; (try clear hb); (try clear hb2); (try clear hk); (try clear hi); have p187 : 0 ≤ (0 : Int) := (by omega); have q187 : 0 < (l0.length : Int) := of_decide_eq_true (by first | (with_reducible assumption) | assumption); obtain ⟨ad187, e187, hx187_0⟩ := Kd.at_int HR0.out 0 p187 q187; cases e187; have qi187 : (0 < l0.length) = True := eq_true (by omega); (try rw [show ((0 : Int)).toNat = 0 from rfl] at hx187_0); (try rw [Addr.add_zero'] at hx187_0); replace hx187_0 := (HB.out.cell (World.block_lt_of_cell? w _ hx187_0)).trans hx187_0; replace p187 := eq_true p187; replace q187 := eq_true q187) | (go_at_call 30; (with_reducible refine (bordereaulaw2_known.calls k2  t188 _ A42.out).mono ?_); rintro e w46 ⟨rfl, hb⟩; have n0_ := Aside0.mk (Kd.R_below (by (with_reducible repeat (first | apply Kd.R_alloc | apply Kd.R_drewN | apply Kd.R_drew)); exact HO_5.out) hb); have n1_ := Aside0.mk (Kd.C_below (by repeat (first | (with_reducible exact HR183.out) | (with_reducible refine Kd.C_alloc ?_ _) | (with_reducible refine Kd.C_drewN ?_ _) | (with_reducible refine Kd.C_drew ?_) | exact HR183.out)) hb); have n2_ := Aside0.mk (below_step (by repeat (first | (with_reducible first | exact HB.out | apply below_alloc | apply pw_below_drewN | apply below_drew1) | exact HB.out)) hb); clear HO_5; clear HR183; clear HB; have HO_5 := n0_; have HR183 := n1_; have HB := n2_; clear n0_ n1_ n2_; (try clear hb); (try clear hb2); (try clear hk); (try clear hi)))
                              go_ret
                              exact ⟨by first | rfl | (simp [errW_none, errW_some] <;> rfl) | (simp only [← hji3]; first | rfl | (simp [errW_none, errW_some] <;> rfl)) | (simp [*, errW_none, errW_some] <;> rfl), by repeat (first | (with_reducible first | exact HB.out | apply below_alloc | apply pw_below_drewN | apply below_drew1) | exact HB.out)⟩
                            · rw [if_neg c41] at H
                              exact absurd H (by simp)
                          · rw [if_neg c40] at H
                            exact absurd H (by simp)
                        · rw [if_neg c39] at H
                          exact absurd H (by simp)
                    · rw [if_neg c32] at H
                      have c32b0 : (t185 == 0) = false := beq_eq_false_iff_ne.mpr c32
                      have c32b1 : (t185 != 0) = true := bne_iff_ne.mpr c32
                      by_cases c47 : ji3 > 0
                      · rw [if_pos c47] at H
                        have c47b0 : decide (0 < ji3) = true := decide_eq_true c47
                        clear c47
                        by_cases c48 : 0 < (l0.length : Int)
                        · rw [if_pos c48] at H
                          have c48b0 : decide (0 < (l0.length : Int)) = true := decide_eq_true c48
                          have c48b1 : decide (0 < l0.length) = true := decide_eq_true (by omega)
                          clear c48
                          by_cases c49 : t184 = (rd l0 0)
                          · rw [if_pos c49] at H
                            have c49b0 : (t184 == (rd l0 0)) = true := beq_iff_eq.mpr c49
                            have c49b1 : (t184 != (rd l0 0)) = false := bne_eq_false_iff_eq.mpr c49
                            clear c49
                            replace H := Option.bind_eq_some_iff.mp H
                            obtain ⟨t190, A500, H⟩ := H
                            replace H : (some t190) = some r := H
                            have A50 := Aside0.mk A500
                            clear A500
                            obtain rfl := Option.some.inj H
                            obtain ⟨Ao51, co51, eo51⟩ := Kd.R_slice HO_5.out
                            subst eo51
                            go_wp2_with (first | ((with_reducible refine gate_callee (f := 23) rfl ?_); refine goesL_ (some 69) rfl rfl Try.func23 (by kernel_rfl) rfl #[.int .i64 a1, .int .i64 0, .int .i64 (x5_1.length : Int)] rfl (by (try simp only [List.map_toArray, List.map_cons, List.map_nil]); first | done | rfl | (simp only [List.length_drop, List.length_take]; rfl)) ?_; (with_reducible refine (bordereaubook_Within.calls k2 a1 0 (x5_1.length : Int) t179 _ A27.out).mono ?_); rintro e w' ⟨rfl, ⟨nd, rfl⟩⟩; refine ⟨_, rfl, ?_⟩; have q52 : (t179 : Int) ≤ ((x5_1.length : Int) : Int) := of_decide_eq_true (by first | (with_reducible assumption) | assumption); obtain ⟨i052, hi052, _, hsz52, _⟩ := info_parts info5; have hroom52 : x5_1.length ≤ co51 := (Kd.R_reads' HO_5.out).2.1; have hC52 : Kd.C (Kd.int .u8) _ Ao51 x5_1.length x5_1 := (Kd.R_reads' HO_5.out).2.2; have hcut52 := cut_to (P := Try.prog) 29 5 .i64 Try.underlying29 hi052 Ao51 x5_1.length co51 t179 (of_decide_eq_true (by first | (with_reducible assumption) | assumption)) q52 hroom52; have hr52 := Kd.C_take (m := (t179 : Int).toNat) hC52 (by omega); have hy52 : y180.length = (t179 : Int).toNat := (by rw [Ny180.out, List.length_take]; omega); rw [← Ny180.out] at hr52; rw [← hy52] at hcut52; have HR183 := Aside0.mk hr52; have HC183 := Aside0.mk (show y180.length ≤ co51 from by omega); clear hr52 hC52 hroom52 hi052 hsz52; have KY52 := Aside0.mk hy52; clear hy52; have KL52 := Aside0.mk (show (t179 : Int).toNat ≤ x5_1.length from by omega); replace q52 := eq_true q52) | ((with_reducible refine gate_callee (f := 29) rfl ?_); refine goesL_ (some 71) rfl rfl Try.func29 (by kernel_rfl) rfl #[.slice Ao51 y180.length co51] rfl (by (try simp only [List.map_toArray, List.map_cons, List.map_nil]); first | done | rfl | (simp only [List.length_drop, List.length_take]; rfl)) ?_; (with_reducible refine (varint_Get.calls k2 _ _ y180 t184 t185 _ ?side1 ?side2 A30.out).mono ?_); (case side1 => repeat (first | exact (by repeat (first | (with_reducible exact HR183.out) | (with_reducible refine Kd.C_alloc ?_ _) | (with_reducible refine Kd.C_drewN ?_ _) | (with_reducible refine Kd.C_drew ?_) | exact HR183.out)) | (with_reducible refine Kd.C_alloc ?_ _) | (with_reducible refine Kd.C_drewN ?_ _) | (with_reducible refine Kd.C_drew ?_))); (case side2 => exact HC183.out); rintro e w53 ⟨rfl, hb⟩; refine ⟨_, rfl, ?_⟩; have n0_ := Aside0.mk (Kd.R_below (by (with_reducible repeat (first | apply Kd.R_alloc | apply Kd.R_drewN | apply Kd.R_drew)); exact HO_5.out) hb); have n1_ := Aside0.mk (Kd.C_below (by repeat (first | (with_reducible exact HR183.out) | (with_reducible refine Kd.C_alloc ?_ _) | (with_reducible refine Kd.C_drewN ?_ _) | (with_reducible refine Kd.C_drew ?_) | exact HR183.out)) hb); have n2_ := Aside0.mk (below_step (by repeat (first | (with_reducible first | exact HB.out | apply below_alloc | apply pw_below_drewN | apply below_drew1) | exact HB.out)) hb); clear HO_5; clear HR183; clear HB; have HO_5 := n0_; have HR183 := n1_; have HB := n2_; clear n0_ n1_ n2_; (try clear hb); (try clear hb2); (try clear hk); (try clear hi); have p189 : 0 ≤ (0 : Int) := (by omega); have q189 : 0 < (l0.length : Int) := of_decide_eq_true (by first | (with_reducible assumption) | assumption); obtain ⟨ad189, e189, hx189_0⟩ := Kd.at_int HR0.out 0 p189 q189; cases e189; have qi189 : (0 < l0.length) = True := eq_true (by omega); (try rw [show ((0 : Int)).toNat = 0 from rfl] at hx189_0); (try rw [Addr.add_zero'] at hx189_0); replace hx189_0 := (HB.out.cell (World.block_lt_of_cell? w _ hx189_0)).trans hx189_0; replace p189 := eq_true p189; replace q189 := eq_true q189) | (go_at_call 30; (with_reducible refine (bordereaulaw2_known.calls k2  t190 _ A50.out).mono ?_); rintro e w54 ⟨rfl, hb⟩; have n0_ := Aside0.mk (Kd.R_below (by (with_reducible repeat (first | apply Kd.R_alloc | apply Kd.R_drewN | apply Kd.R_drew)); exact HO_5.out) hb); have n1_ := Aside0.mk (Kd.C_below (by repeat (first | (with_reducible exact HR183.out) | (with_reducible refine Kd.C_alloc ?_ _) | (with_reducible refine Kd.C_drewN ?_ _) | (with_reducible refine Kd.C_drew ?_) | exact HR183.out)) hb); have n2_ := Aside0.mk (below_step (by repeat (first | (with_reducible first | exact HB.out | apply below_alloc | apply pw_below_drewN | apply below_drew1) | exact HB.out)) hb); clear HO_5; clear HR183; clear HB; have HO_5 := n0_; have HR183 := n1_; have HB := n2_; clear n0_ n1_ n2_; (try clear hb); (try clear hb2); (try clear hk); (try clear hi)))
                            go_ret
                            exact ⟨by first | rfl | (simp [errW_none, errW_some] <;> rfl) | (simp only [← hji3]; first | rfl | (simp [errW_none, errW_some] <;> rfl)) | (simp [*, errW_none, errW_some] <;> rfl), by repeat (first | (with_reducible first | exact HB.out | apply below_alloc | apply pw_below_drewN | apply below_drew1) | exact HB.out)⟩
                          · rw [if_neg c49] at H
                            exact absurd H (by simp)
                        · rw [if_neg c48] at H
                          exact absurd H (by simp)
                      · rw [if_neg c47] at H
                        exact absurd H (by simp)
                  · rw [if_neg c31] at H
                    exact absurd H (by simp)
                · rw [if_neg c29] at H
                  exact absurd H (by simp)
              · rw [if_neg c28] at H
                exact absurd H (by simp)

/-- THE ONE PURE STATEMENT of bordereaulaw2_VarintRows: yours. -/
def bordereaulaw2_VarintRows.Pure : Prop := ∀ (l0 : List Int) (a1 : Int), l0.length ≤ maxLen → l0.length * 8 ≤ 140737488351232 → (∀ x ∈ l0, (Lit.int .i64 x).wf = true) → (Lit.int .i64 a1).wf = true → ∃ k, bordereaulaw2_VarintRows.f k l0 a1 = some true
theorem bordereaulaw2_VarintRows.walk (P : bordereaulaw2_VarintRows.Pure) (a0 : Option Addr) (len0 cap0 : Nat) (z0 : List Int) (a1 : Int) (w : World) (w0 : (a0 = none ∧ len0 = 0 ∧ cap0 = 0 ∧ z0 = []) ∨ ∃ x, a0 = some x ∧ len0 ≤ cap0 ∧ cap0 ≤ maxLen ∧ z0.length = cap0 ∧ (∀ i, i < z0.length → w.cell? (x.add i) = some (.int .i64 (z0.getD i 0))) ∧ ∀ n ∈ z0, (Lit.int .i64 n).wf = true) (y0 : len0 * 8 ≤ 140737488351232) (w1 : (Lit.int .i64 a1).wf = true) :
    Calls Try.prog 9 #[.slice a0 len0 cap0, .int .i64 a1] w fun e w' => e = .returned (.bool true) ∧ Below w.heap.size w w' := by
  obtain ⟨l0, rfl, hr0, hm0, hw0, hc0⟩ := ReadsInt.ofRowC w0
  obtain ⟨k, h⟩ := P l0 a1 hm0 y0 hw0 w1
  refine (bordereaulaw2_VarintRows.calls k _ _ l0 a1 true w (Kd.C_of_reads (d := (0 : Int)) (h1 := fun _ => rfl) hr0) hc0 h).mono ?_
  rintro e w' ⟨rfl, hd⟩
  exact ⟨rfl, hd⟩

/-! ### bordereauref1_Put: function 33 -/
def bordereauref1_Put.l0 : Nat → List Int → Int → Option (List Int)
  | 0, _, _ => none
  | k + 1, x5, x6 => if x6 ≥ 128 then (if x5.length < 140737488355328 then (bordereauref1_Put.l0 k (x5 ++ [Go.bits .or .u8 ((x6) % 256) 128]) (x6 / 128)) else (none)) else (if x5.length < 140737488355328 then (some (x5 ++ [(x6) % 256])) else (none))
def bordereauref1_Put.f (k : Nat) (l0 : List Int) (a1 : Int) : Option (List Int) := (some (([] : List Int) : List Int)).bind fun y191 => (if y191.length + l0.length < 140737488355328 then (bordereauref1_Put.l0 k (y191 ++ l0) (Go.bits .xor .u64 (IntKind.u64.wrap (wrap64 (a1 * 2))) (IntKind.u64.wrap (a1 / 9223372036854775808)))) else (none))
theorem bordereauref1_Put.mono_l : ∀ k, (∀ y0 y1, LeO (bordereauref1_Put.l0 k y0 y1) (bordereauref1_Put.l0 (k + 1) y0 y1))
  | 0 => fun _ _ r h => by simp [bordereauref1_Put.l0] at h
  | k + 1 => by
    have ih0 := bordereauref1_Put.mono_l k
    · intro y0 y1
      unfold bordereauref1_Put.l0
      repeat' first
      | (with_reducible exact ih0 _ _)
      | (with_reducible exact LeO.refl _)
      | (with_reducible exact LeO.none _)
      | (with_reducible refine LeO.ite ?_ ?_)
      | (with_reducible refine LeO.bind ?_ (fun _ => ?_))
      | exact ih0 _ _
      | exact LeO.none _
      | refine LeO.ite ?_ ?_
      | refine LeO.bind ?_ (fun _ => ?_)
theorem bordereauref1_Put.mono : ∀ a0 a1 k, LeO (bordereauref1_Put.f k a0 a1) (bordereauref1_Put.f (k + 1) a0 a1) := by
  intro a0 a1 k
  have ih0 := bordereauref1_Put.mono_l k
  unfold bordereauref1_Put.f
  repeat' first
      | (with_reducible exact ih0 _ _)
      | (with_reducible exact LeO.refl _)
      | (with_reducible exact LeO.none _)
      | (with_reducible refine LeO.ite ?_ ?_)
      | (with_reducible refine LeO.bind ?_ (fun _ => ?_))
      | exact ih0 _ _
      | exact LeO.none _
      | refine LeO.ite ?_ ?_
      | refine LeO.bind ?_ (fun _ => ?_)
set_option maxHeartbeats 8000000 in
set_option maxRecDepth 100000 in
theorem bordereauref1_Put.calls (k : Nat) (A0 : Option Addr) (c0 : Nat) (l0 : List Int) (a1 : Int) (r : List Int) (w : World) (hr0 : Kd.C (Kd.int .u8) w A0 l0.length l0) (hc0 : l0.length ≤ c0) (h : bordereauref1_Put.f k l0 a1 = some r) :
    Calls Try.prog 33 #[.slice A0 l0.length c0, .int .i64 a1] w fun e w' => ∃ v0_ : Value, e = .returned (v0_) ∧ Kd.R (Kd.int .u8) 5 w' w.heap.size (fun _ => True) v0_ r ∧ Below w.heap.size w w' := by
  have HR0 := Aside0.mk hr0
  have HC0 := Aside0.mk hc0
  clear hr0 hc0
  have HB := Aside0.mk (Below.refl w.heap.size w)
  have H : ((some (([] : List Int) : List Int)).bind fun y191 => (if y191.length + l0.length < 140737488355328 then (bordereauref1_Put.l0 k (y191 ++ l0) (Go.bits .xor .u64 (IntKind.u64.wrap (wrap64 (a1 * 2))) (IntKind.u64.wrap (a1 / 9223372036854775808)))) else (none))) = some r := h
  clear h
  obtain ⟨y191, hy191⟩ : ∃ y_ : List Int, y_ = (([] : List Int)) := ⟨_, rfl⟩
  replace H : (if y191.length + l0.length < 140737488355328 then (bordereauref1_Put.l0 k (y191 ++ l0) (Go.bits .xor .u64 (IntKind.u64.wrap (wrap64 (a1 * 2))) (IntKind.u64.wrap (a1 / 9223372036854775808)))) else (none)) = some r := by first | (rw [hy191]; with_reducible exact H) | (have H2_ := (Option.bind_some _ _).symm.trans H; rw [hy191]; with_reducible exact H2_) | (have H2_ := (Option.bind_some _ _).symm.trans H; with_reducible exact H2_) | with_reducible exact H | (rw [hy191]; exact H) | exact H
  have Ny191 := Aside0.mk hy191
  clear hy191
  by_cases c3 : y191.length + l0.length < 140737488355328
  · rw [if_pos c3] at H
    have LMc3 := Aside0.mk c3
    clear c3
    obtain ⟨y194, hy194⟩ : ∃ y_ : List Int, y_ = (y191 ++ l0) := ⟨_, rfl⟩
    replace H : (bordereauref1_Put.l0 k y194 (Go.bits .xor .u64 (IntKind.u64.wrap (wrap64 (a1 * 2))) (IntKind.u64.wrap (a1 / 9223372036854775808)))) = some r := by first | (rw [hy194]; with_reducible exact H) | (have H2_ := (Option.bind_some _ _).symm.trans H; rw [hy194]; with_reducible exact H2_) | (have H2_ := (Option.bind_some _ _).symm.trans H; with_reducible exact H2_) | with_reducible exact H | (rw [hy194]; exact H) | exact H
    have Ny194 := Aside0.mk hy194
    clear hy194
    have H' := Aside0.mk H
    clear H
    go_enter Try.func33, Try.ntmps33
    go_wp2_with (first | ((with_reducible refine gate_dst (N := 7) rfl ?_); refine Kd.R_lit (Kd.int .u8) _ 5 ?hg (N := 7) ?hd (xs := ([] : List Int)) (inner := []) (ok := fun _ => True) (okp := fun _ => True) ?hr ?hp (fun _ hk => hk) trivial (Below.refl _ _) (Nat.le_refl _) (by simp) ?_; (case hd => rfl); (case hg => rfl); (case hr => first | (go_simp; done) | (go_simp; rfl)); (case hp => exact (Reps.none _ _)); intro v192 w4 ho5 hb hg_ hnew_; clear hg_ hnew_; (first | rw [← Ny191.out] at ho5 | (simp only [Int.reduceToNat] at ho5; rw [← Ny191.out] at ho5)); have n0_ := Aside0.mk (Kd.R_lower ho5 (below_size (by repeat (first | (with_reducible first | exact HB.out | apply below_alloc | apply pw_below_drewN | apply below_drew1) | exact HB.out)))); have n1_ := Aside0.mk (below_step (by repeat (first | (with_reducible first | exact HB.out | apply below_alloc | apply pw_below_drewN | apply below_drew1) | exact HB.out)) hb); clear HB; have HO193 := n0_; have HB := n1_; clear n0_ n1_; clear hb ho5) | ((with_reducible refine gate_builtin (b := .append) (xs := #[.tmp 7, .tmp 8]) rfl ?_); at_builtin; refine Kd.R_append_rows (Kd.int .u8) (w0 := w) w.heap.size rfl (.tmp 7) (.tmp 8) 29 5 (.int .u8 0) 1 rfl Try.underlying29 info5 rfl (by decide) (by omega) v192 y191 l0 _ _ _ (fun _ => True) (fun _ => False) rfl rfl ?aO ?aR (fun _ _ h => h) (fun _ h => h.elim) ?aF ?aB ?aS ?aL ?_; (case aR => repeat (first | exact (Kd.C_below HR0.out HB.out) | (with_reducible refine Kd.C_alloc ?_ _) | (with_reducible refine Kd.C_drewN ?_ _) | (with_reducible refine Kd.C_drew ?_))); (case aB => exact (by repeat (first | (with_reducible first | exact HB.out | apply below_alloc | apply pw_below_drewN | apply below_drew1) | exact HB.out))); (case aF => exact (fun _ _ => trivial)); (case aO => exact (by (with_reducible repeat (first | apply Kd.R_alloc | apply Kd.R_drewN | apply Kd.R_drew)); exact HO193.out)); (case aS => exact (below_size (by repeat (first | (with_reducible first | exact HB.out | apply below_alloc | apply pw_below_drewN | apply below_drew1) | exact HB.out)))); (case aL => have := LMc3.out; omega); intro v195 w6 ho hb hg hat; rw [← Ny194.out] at ho; have n0_ := Aside0.mk (hb); have n1_ := Aside0.mk (ho); clear HB; clear HO193; have HB := n0_; have HO196 := n1_; clear n0_ n1_; clear ho hb hg hat))
    go_loopg [5, 6] k (fun kq v5 v6 w' => ∃ (x5_1 : List Int) (x6_1 : Int), v6 = .int .u64 x6_1 ∧ Aside0 (bordereauref1_Put.l0 kq x5_1 x6_1 = some r) ∧ Aside0 (kq ≤ k) ∧ Aside0 (Kd.R (Kd.int .u8) 5 w' w.heap.size (fun _ => True) v5 x5_1) ∧ Aside0 (Below w.heap.size w w'))
    case atStart => exact ⟨(y194), (Go.bits .xor .u64 (IntKind.u64.wrap (wrap64 (a1 * 2))) (IntKind.u64.wrap (a1 / 9223372036854775808))), (by first | rfl | (simp; done) | (simp [*]; done)), H', ⟨Nat.le_refl _⟩, ⟨by (with_reducible repeat (first | apply Kd.R_alloc | apply Kd.R_drewN | apply Kd.R_drew)); exact HO196.out⟩, ⟨by repeat (first | (with_reducible first | exact HB.out | apply below_alloc | apply pw_below_drewN | apply below_drew1) | exact HB.out)⟩⟩
    case round =>
      clear H'
      try clear p2
      try clear c3
      try clear p6
      obtain ⟨x5_1, x6_1, rfl, HA, HK1, HO_5, HB⟩ := hrel
      cases gk with
      | zero => exact absurd HA.out (by simp [bordereauref1_Put.l0])
      | succ k1 =>
        have H := HA.out
        clear HA
        simp only [bordereauref1_Put.l0] at H
        by_cases c7 : x6_1 ≥ 128
        · rw [if_pos c7] at H
          have c7b0 : decide (128 ≤ x6_1) = true := decide_eq_true c7
          clear c7
          by_cases c8 : x5_1.length < 140737488355328
          · rw [if_pos c8] at H
            have LMc8 := Aside0.mk c8
            clear c8
            obtain ⟨y197, hy197⟩ : ∃ y_ : List Int, y_ = (x5_1 ++ [Go.bits .or .u8 ((x6_1) % 256) 128]) := ⟨_, rfl⟩
            replace H : (bordereauref1_Put.l0 k1 y197 (x6_1 / 128)) = some r := by first | (rw [hy197]; with_reducible exact H) | (have H2_ := (Option.bind_some _ _).symm.trans H; rw [hy197]; with_reducible exact H2_) | (have H2_ := (Option.bind_some _ _).symm.trans H; with_reducible exact H2_) | with_reducible exact H | (rw [hy197]; exact H) | exact H
            have Ny197 := Aside0.mk hy197
            clear hy197
            have H' := Aside0.mk H
            clear H
            go_wp2_with (first | ((with_reducible refine gate_builtin (b := .append) (xs := #[.tmp 19, .tmp 23]) rfl ?_); at_builtin; refine Kd.R_append (Kd.int .u8) (w0 := w) w.heap.size rfl (.tmp 19) (.tmp 23) 29 5 (.int .u8 0) 1 rfl Try.underlying29 info5 rfl (by decide) (by omega) u5 x5_1 (Go.bits .or .u8 ((x6_1) % 256) 128) [.int .u8 (Go.bits .or .u8 ((x6_1) % 256) 128)] (fun _ => True) (fun _ => False) rfl rfl ?aP (fun _ hk => hk.elim) ?aF ?aO ?aB ?aS ?aL ?_; (case aP => exact rfl); (case aB => exact (by repeat (first | (with_reducible first | exact HB.out | apply below_alloc | apply pw_below_drewN | apply below_drew1) | exact HB.out))); (case aF => exact (fun _ _ => trivial)); (case aO => exact (by (with_reducible repeat (first | apply Kd.R_alloc | apply Kd.R_drewN | apply Kd.R_drew)); exact HO_5.out)); (case aS => exact (below_size (by repeat (first | (with_reducible first | exact HB.out | apply below_alloc | apply pw_below_drewN | apply below_drew1) | exact HB.out)))); (case aL => have := LMc8.out; omega); intro v198 w9 ho hb hg hat; rw [← Ny197.out] at ho; have n0_ := Aside0.mk (hb); have n1_ := Aside0.mk (ho); clear HB; clear HO_5; have HB := n0_; have HO199 := n1_; clear n0_ n1_; clear ho hb hg hat))
            go_roundg k1
            case measure => have := HK1.out; omega
            case rel => exact ⟨(y197), (x6_1 / 128), (by first | rfl | (simp; done) | (simp [*]; done)), H', ⟨by have := HK1.out; omega⟩, ⟨by (with_reducible repeat (first | apply Kd.R_alloc | apply Kd.R_drewN | apply Kd.R_drew)); exact HO199.out⟩, ⟨by repeat (first | (with_reducible first | exact HB.out | apply below_alloc | apply pw_below_drewN | apply below_drew1) | exact HB.out)⟩⟩
          · rw [if_neg c8] at H
            exact absurd H (by simp)
        · rw [if_neg c7] at H
          have c7b0 : decide (128 ≤ x6_1) = false := decide_eq_false c7
          clear c7
          by_cases c10 : x5_1.length < 140737488355328
          · rw [if_pos c10] at H
            have LMc10 := Aside0.mk c10
            clear c10
            obtain ⟨y200, hy200⟩ : ∃ y_ : List Int, y_ = (x5_1 ++ [(x6_1) % 256]) := ⟨_, rfl⟩
            replace H : (some y200) = some r := by first | (rw [hy200]; with_reducible exact H) | (have H2_ := (Option.bind_some _ _).symm.trans H; rw [hy200]; with_reducible exact H2_) | (have H2_ := (Option.bind_some _ _).symm.trans H; with_reducible exact H2_) | with_reducible exact H | (rw [hy200]; exact H) | exact H
            have Ny200 := Aside0.mk hy200
            clear hy200
            obtain rfl := Option.some.inj H
            go_wp2_with (first | ((with_reducible refine gate_builtin (b := .append) (xs := #[.tmp 27, .tmp 30]) rfl ?_); at_builtin; refine Kd.R_append (Kd.int .u8) (w0 := w) w.heap.size rfl (.tmp 27) (.tmp 30) 29 5 (.int .u8 0) 1 rfl Try.underlying29 info5 rfl (by decide) (by omega) u5 x5_1 ((x6_1) % 256) [.int .u8 ((x6_1) % 256)] (fun _ => True) (fun _ => False) rfl rfl ?aP (fun _ hk => hk.elim) ?aF ?aO ?aB ?aS ?aL ?_; (case aP => exact rfl); (case aB => exact (by repeat (first | (with_reducible first | exact HB.out | apply below_alloc | apply pw_below_drewN | apply below_drew1) | exact HB.out))); (case aF => exact (fun _ _ => trivial)); (case aO => exact (by (with_reducible repeat (first | apply Kd.R_alloc | apply Kd.R_drewN | apply Kd.R_drew)); exact HO_5.out)); (case aS => exact (below_size (by repeat (first | (with_reducible first | exact HB.out | apply below_alloc | apply pw_below_drewN | apply below_drew1) | exact HB.out)))); (case aL => have := LMc10.out; omega); intro v201 w11 ho hb hg hat; rw [← Ny200.out] at ho; have n0_ := Aside0.mk (hb); have n1_ := Aside0.mk (ho); clear HB; clear HO_5; have HB := n0_; have HO202 := n1_; clear n0_ n1_; clear ho hb hg hat))
            go_ret
            exact ⟨_, by first | rfl | (simp [errW_none, errW_some] <;> rfl) | (simp [*, errW_none, errW_some] <;> rfl), by (with_reducible repeat (first | apply Kd.R_alloc | apply Kd.R_drewN | apply Kd.R_drew)); exact HO202.out, by repeat (first | (with_reducible first | exact HB.out | apply below_alloc | apply pw_below_drewN | apply below_drew1) | exact HB.out)⟩
          · rw [if_neg c10] at H
            exact absurd H (by simp)
  · rw [if_neg c3] at H
    exact absurd H (by simp)

/-! ### bordereauref1_Text: function 36 -/
def bordereauref1_Text.f (k : Nat) (l0 : List Int) (a1 : ByteArray) : Option (List Int) := (bordereauref1_Put.f k l0 (a1.size : Int)).bind fun t203 => (if t203.length + a1.size < 140737488355328 then (some (t203 ++ bytesOf a1)) else (none))
theorem bordereauref1_Text.mono : ∀ a0 a1 k, LeO (bordereauref1_Text.f k a0 a1) (bordereauref1_Text.f (k + 1) a0 a1) := by
  intro a0 a1 k
  unfold bordereauref1_Text.f
  repeat' first
      | (with_reducible exact bordereauref1_Put.mono _ _ _)
      | (with_reducible exact LeO.refl _)
      | (with_reducible exact LeO.none _)
      | (with_reducible refine LeO.ite ?_ ?_)
      | (with_reducible refine LeO.bind ?_ (fun _ => ?_))
      | exact bordereauref1_Put.mono _ _ _
      | exact LeO.none _
      | refine LeO.ite ?_ ?_
      | refine LeO.bind ?_ (fun _ => ?_)
set_option maxHeartbeats 8000000 in
set_option maxRecDepth 100000 in
theorem bordereauref1_Text.calls (k : Nat) (A0 : Option Addr) (c0 : Nat) (l0 : List Int) (a1 : ByteArray) (r : List Int) (w : World) (hr0 : Kd.C (Kd.int .u8) w A0 l0.length l0) (hc0 : l0.length ≤ c0) (h : bordereauref1_Text.f k l0 a1 = some r) :
    Calls Try.prog 36 #[.slice A0 l0.length c0, .string a1] w fun e w' => ∃ v0_ : Value, e = .returned (v0_) ∧ Kd.R (Kd.int .u8) 5 w' w.heap.size (fun _ => True) v0_ r ∧ Below w.heap.size w w' := by
  have HR0 := Aside0.mk hr0
  have HC0 := Aside0.mk hc0
  clear hr0 hc0
  have HB := Aside0.mk (Below.refl w.heap.size w)
  have H : ((bordereauref1_Put.f k l0 (a1.size : Int)).bind fun t203 => (if t203.length + a1.size < 140737488355328 then (some (t203 ++ bytesOf a1)) else (none))) = some r := h
  clear h
  replace H := Option.bind_eq_some_iff.mp H
  obtain ⟨t203, A30, H⟩ := H
  replace H : (if t203.length + a1.size < 140737488355328 then (some (t203 ++ bytesOf a1)) else (none)) = some r := H
  have A3 := Aside0.mk A30
  clear A30
  by_cases c4 : t203.length + a1.size < 140737488355328
  · rw [if_pos c4] at H
    have LMc4 := Aside0.mk c4
    clear c4
    obtain ⟨y206, hy206⟩ : ∃ y_ : List Int, y_ = (t203 ++ bytesOf a1) := ⟨_, rfl⟩
    replace H : (some y206) = some r := by first | (rw [hy206]; with_reducible exact H) | (have H2_ := (Option.bind_some _ _).symm.trans H; rw [hy206]; with_reducible exact H2_) | (have H2_ := (Option.bind_some _ _).symm.trans H; with_reducible exact H2_) | with_reducible exact H | (rw [hy206]; exact H) | exact H
    have Ny206 := Aside0.mk hy206
    clear hy206
    obtain rfl := Option.some.inj H
    go_enter Try.func36, Try.ntmps36
    go_wp2_with (first | ((with_reducible refine gate_callee (f := 33) rfl ?_); refine goesL_ (some 8) rfl rfl Try.func33 (by kernel_rfl) rfl #[.slice A0 l0.length c0, .int .i64 (a1.size : Int)] rfl (by (try simp only [List.map_toArray, List.map_cons, List.map_nil]); first | done | rfl | (simp only [List.length_drop, List.length_take]; rfl)) ?_; (with_reducible refine (bordereauref1_Put.calls k _ _ l0 (a1.size : Int) t203 _ ?side1 ?side2 A3.out).mono ?_); (case side1 => repeat (first | exact HR0.out | (with_reducible refine Kd.C_alloc ?_ _) | (with_reducible refine Kd.C_drewN ?_ _) | (with_reducible refine Kd.C_drew ?_))); (case side2 => exact HC0.out); rintro e w5 ⟨v204, rfl, ho0, hb⟩; refine ⟨_, rfl, ?_⟩; have n0_ := Aside0.mk (Kd.R_lower ho0 (below_size (by repeat (first | (with_reducible first | exact HB.out | apply below_alloc | apply pw_below_drewN | apply below_drew1) | exact HB.out)))); have n1_ := Aside0.mk (below_step (by repeat (first | (with_reducible first | exact HB.out | apply below_alloc | apply pw_below_drewN | apply below_drew1) | exact HB.out)) hb); clear HB; have HO205 := n0_; have HB := n1_; clear n0_ n1_; (try clear hb); (try clear hb2); (try clear hk); (try clear hi); (try clear ho0)) | (at_builtin; refine print_append_str (w0 := w) w.heap.size rfl (.tmp 8) _ 29 9 5 rfl Try.underlying29 Try.underlying9 info5 v204 t203 a1 rfl rfl ?aO ?aB ?aS ?aL ?_; (case aB => exact (by repeat (first | (with_reducible first | exact HB.out | apply below_alloc | apply pw_below_drewN | apply below_drew1) | exact HB.out))); (case aO => exact (Kd.own_of_R (by (with_reducible repeat (first | apply Kd.R_alloc | apply Kd.R_drewN | apply Kd.R_drew)); exact HO205.out))); (case aS => exact (below_size (by repeat (first | (with_reducible first | exact HB.out | apply below_alloc | apply pw_below_drewN | apply below_drew1) | exact HB.out)))); (case aL => have := LMc4.out; omega); intro v207 w6 ho0 hb hg; have ho := Kd.R_of_own (h1 := fun _ => rfl) (ok := fun _ => True) ho0 (fun _ _ => trivial); clear ho0; have hat := True.intro; rw [← Ny206.out] at ho; change Kd.R (Kd.int .u8) 5 w6 w.heap.size (fun _ => True) v207 y206 at ho; have n0_ := Aside0.mk (hb); have n1_ := Aside0.mk (ho); clear HB; clear HO205; have HB := n0_; have HO208 := n1_; clear n0_ n1_; clear ho hb hg hat))
    go_ret
    exact ⟨_, by first | rfl | (simp [errW_none, errW_some] <;> rfl) | (simp [*, errW_none, errW_some] <;> rfl), by (with_reducible repeat (first | apply Kd.R_alloc | apply Kd.R_drewN | apply Kd.R_drew)); exact HO208.out, by repeat (first | (with_reducible first | exact HB.out | apply below_alloc | apply pw_below_drewN | apply below_drew1) | exact HB.out)⟩
  · rw [if_neg c4] at H
    exact absurd H (by simp)

/-! ### varint_Text: function 38 -/
def varint_Text.f (k : Nat) (l0 : List Int) (a1 : ByteArray) : Option (List Int) := (varint_Put.f k l0 (a1.size : Int)).bind fun t209 => (if t209.length + a1.size < 140737488355328 then (some ((t209 ++ bytesOf a1))) else (none))
theorem varint_Text.mono : ∀ a0 a1 k, LeO (varint_Text.f k a0 a1) (varint_Text.f (k + 1) a0 a1) := by
  intro a0 a1 k
  unfold varint_Text.f
  repeat' first
      | (with_reducible exact varint_Put.mono _ _ _)
      | (with_reducible exact LeO.refl _)
      | (with_reducible exact LeO.none _)
      | (with_reducible refine LeO.ite ?_ ?_)
      | (with_reducible refine LeO.bind ?_ (fun _ => ?_))
      | exact varint_Put.mono _ _ _
      | exact LeO.none _
      | refine LeO.ite ?_ ?_
      | refine LeO.bind ?_ (fun _ => ?_)
set_option maxHeartbeats 8000000 in
set_option maxRecDepth 100000 in
theorem varint_Text.calls (k : Nat) (A0 : Option Addr) (c0 : Nat) (l0 : List Int) (a1 : ByteArray) (r : List Int) (w : World) (hr0 : Kd.C (Kd.int .u8) w A0 l0.length l0) (hc0 : l0.length ≤ c0) (h : varint_Text.f k l0 a1 = some r) :
    Calls Try.prog 38 #[.slice A0 l0.length c0, .string a1] w fun e w' => ∃ v0_ : Value, e = .returned (v0_) ∧ Kd.R (Kd.int .u8) 5 w' w.heap.size (fun _ => True) v0_ r ∧ Below w.heap.size w w' := by
  have HR0 := Aside0.mk hr0
  have HC0 := Aside0.mk hc0
  clear hr0 hc0
  have HB := Aside0.mk (Below.refl w.heap.size w)
  have H : ((varint_Put.f k l0 (a1.size : Int)).bind fun t209 => (if t209.length + a1.size < 140737488355328 then (some ((t209 ++ bytesOf a1))) else (none))) = some r := h
  clear h
  replace H := Option.bind_eq_some_iff.mp H
  obtain ⟨t209, A30, H⟩ := H
  replace H : (if t209.length + a1.size < 140737488355328 then (some ((t209 ++ bytesOf a1))) else (none)) = some r := H
  have A3 := Aside0.mk A30
  clear A30
  by_cases c4 : t209.length + a1.size < 140737488355328
  · rw [if_pos c4] at H
    have LMc4 := Aside0.mk c4
    clear c4
    obtain ⟨y212, hy212⟩ : ∃ y_ : List Int, y_ = (t209 ++ bytesOf a1) := ⟨_, rfl⟩
    replace H : (some (y212)) = some r := by first | (rw [hy212]; with_reducible exact H) | (have H2_ := (Option.bind_some _ _).symm.trans H; rw [hy212]; with_reducible exact H2_) | (have H2_ := (Option.bind_some _ _).symm.trans H; with_reducible exact H2_) | with_reducible exact H | (rw [hy212]; exact H) | exact H
    have Ny212 := Aside0.mk hy212
    clear hy212
    obtain ⟨y215, hy215⟩ : ∃ y_ : List Int, y_ = (y212) := ⟨_, rfl⟩
    replace H : (some y215) = some r := by first | (rw [hy215]; with_reducible exact H) | (have H2_ := (Option.bind_some _ _).symm.trans H; rw [hy215]; with_reducible exact H2_) | (have H2_ := (Option.bind_some _ _).symm.trans H; with_reducible exact H2_) | with_reducible exact H | (rw [hy215]; exact H) | exact H
    have Ny215 := Aside0.mk hy215
    clear hy215
    obtain rfl := Option.some.inj H
    go_enter Try.func38, Try.ntmps38
    go_wp2_with (first | ((with_reducible refine gate_callee (f := 28) rfl ?_); refine goesL_ (some 8) rfl rfl Try.func28 (by kernel_rfl) rfl #[.slice A0 l0.length c0, .int .i64 (a1.size : Int)] rfl (by (try simp only [List.map_toArray, List.map_cons, List.map_nil]); first | done | rfl | (simp only [List.length_drop, List.length_take]; rfl)) ?_; (with_reducible refine (varint_Put.calls k _ _ l0 (a1.size : Int) t209 _ ?side1 ?side2 A3.out).mono ?_); (case side1 => repeat (first | exact HR0.out | (with_reducible refine Kd.C_alloc ?_ _) | (with_reducible refine Kd.C_drewN ?_ _) | (with_reducible refine Kd.C_drew ?_))); (case side2 => exact HC0.out); rintro e w5 ⟨v210, rfl, ho0, hb⟩; refine ⟨_, rfl, ?_⟩; have n0_ := Aside0.mk (Kd.R_lower ho0 (below_size (by repeat (first | (with_reducible first | exact HB.out | apply below_alloc | apply pw_below_drewN | apply below_drew1) | exact HB.out)))); have n1_ := Aside0.mk (below_step (by repeat (first | (with_reducible first | exact HB.out | apply below_alloc | apply pw_below_drewN | apply below_drew1) | exact HB.out)) hb); clear HB; have HO211 := n0_; have HB := n1_; clear n0_ n1_; (try clear hb); (try clear hb2); (try clear hk); (try clear hi); (try clear ho0)) | (at_builtin; refine print_append_str (w0 := w) w.heap.size rfl (.tmp 8) _ 29 9 5 rfl Try.underlying29 Try.underlying9 info5 v210 t209 a1 rfl rfl ?aO ?aB ?aS ?aL ?_; (case aB => exact (by repeat (first | (with_reducible first | exact HB.out | apply below_alloc | apply pw_below_drewN | apply below_drew1) | exact HB.out))); (case aO => exact (Kd.own_of_R (by (with_reducible repeat (first | apply Kd.R_alloc | apply Kd.R_drewN | apply Kd.R_drew)); exact HO211.out))); (case aS => exact (below_size (by repeat (first | (with_reducible first | exact HB.out | apply below_alloc | apply pw_below_drewN | apply below_drew1) | exact HB.out)))); (case aL => have := LMc4.out; omega); intro v213 w6 ho0 hb hg; have ho := Kd.R_of_own (h1 := fun _ => rfl) (ok := fun _ => True) ho0 (fun _ _ => trivial); clear ho0; have hat := True.intro; rw [← Ny212.out] at ho; change Kd.R (Kd.int .u8) 5 w6 w.heap.size (fun _ => True) v213 y212 at ho; have n0_ := Aside0.mk (hb); have n1_ := Aside0.mk (ho); clear HB; clear HO211; have HB := n0_; have HO214 := n1_; clear n0_ n1_; clear ho hb hg hat; obtain ⟨Ao7, co7, eo7⟩ := Kd.R_slice HO214.out; subst eo7; have hcl8 := Kd.R_reads' HO214.out; have hr8 := Kd.R_clip HO214.out; rw [← Ny215.out] at hr8; have hy8 : y215.length = y212.length := (by rw [Ny215.out]); have hcall8 : ∀ W : World, Calls Try.prog 44 #[.slice Ao7 y212.length co7] W (fun e w' => e = .returned (.slice Ao7 y215.length y215.length) ∧ w' = W) := fun W => (by rw [hy8]; exact clip44_calls Ao7 y212.length co7 W hcl8.2.1 hcl8.2.2.2.1); (try rw [← hy8] at hr8); clear hy8 hcl8 HO214; have HO217 := Aside0.mk hr8; clear hr8) | (go_at_call 44; refine (hcall8 _).mono ?_; rintro e w' ⟨rfl, rfl⟩))
    go_ret
    exact ⟨_, by first | rfl | (simp [errW_none, errW_some] <;> rfl) | (simp [*, errW_none, errW_some] <;> rfl), by (with_reducible repeat (first | apply Kd.R_alloc | apply Kd.R_drewN | apply Kd.R_drew)); exact HO217.out, by repeat (first | (with_reducible first | exact HB.out | apply below_alloc | apply pw_below_drewN | apply below_drew1) | exact HB.out)⟩
  · rw [if_neg c4] at H
    exact absurd H (by simp)

end Go.Proofs.Ytddgichochdgcaa.PM
