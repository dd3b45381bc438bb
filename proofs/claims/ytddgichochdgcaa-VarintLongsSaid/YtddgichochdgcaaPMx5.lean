-- Written by a program of this session (wip/print/myprint.sh).
import Derived.Test.YtddgichochdgcaaPMx0
import Derived.Test.YtddgichochdgcaaPMx2
namespace Go.Proofs.Ytddgichochdgcaa.PM
open Go.RowKit Go.Proofs.YtddgichochdgcaaV.PrintWords Go.Proofs.YtddgichochdgcaaV.PrintLast Go.Proofs.YtddgichochdgcaaV.PrintMore
attribute [local go_sem] max2_int min2_int max_two min_two max_three min_three max_four min_four   -- for this text's walks alone
set_option linter.unusedVariables false
set_option linter.unusedSimpArgs false

/-! ### bordereauref1_Get: function 47 -/
mutual
def bordereauref1_Get.l0 : Nat → List Int → Int → Int → Option (Int × Int)
  | 0, _, _, _ => none
  | k + 1, x0, x4, x5 => if x5 < (x0.length : Int) then (bordereauref1_Get.j1 k x0 x4 x5 (decide (x5 < 10))) else (bordereauref1_Get.j1 k x0 x4 x5 false)
def bordereauref1_Get.j1 : Nat → List Int → Int → Int → Bool → Option (Int × Int)
  | 0, _, _, _, _ => none
  | k + 1, x0, x4, x5, x14 => if x14 = true then (if 0 ≤ x5 then (if x5 < (x0.length : Int) then (if 0 ≤ (IntKind.u64.wrap (wrap64 (7 * x5))) then (if (rd x0 x5) < 128 then ((bordereauref1_Put.f k ([] : List Int) (Go.bits .xor .i64 (wrap64 ((Go.bits .or .u64 x4 (shl .u64 (IntKind.u64.wrap (Go.bits .and .u8 (rd x0 x5) 127)) (IntKind.u64.wrap (wrap64 (7 * x5))))) / 2)) (wrap64 (-(wrap64 (Go.bits .and .u64 (Go.bits .or .u64 x4 (shl .u64 (IntKind.u64.wrap (Go.bits .and .u8 (rd x0 x5) 127)) (IntKind.u64.wrap (wrap64 (7 * x5))))) 1)))))).bind fun t247 => (if 0 ≤ (wrap64 (x5 + 1)) then (if (wrap64 (x5 + 1)) ≤ (x0.length : Int) then (if (strOfNums t247).toList = (strOfNums (x0.take ((wrap64 (x5 + 1)) : Int).toNat)).toList then (some (Go.bits .xor .i64 (wrap64 ((Go.bits .or .u64 x4 (shl .u64 (IntKind.u64.wrap (Go.bits .and .u8 (rd x0 x5) 127)) (IntKind.u64.wrap (wrap64 (7 * x5))))) / 2)) (wrap64 (-(wrap64 (Go.bits .and .u64 (Go.bits .or .u64 x4 (shl .u64 (IntKind.u64.wrap (Go.bits .and .u8 (rd x0 x5) 127)) (IntKind.u64.wrap (wrap64 (7 * x5))))) 1)))), wrap64 (x5 + 1))) else (some (0, 0))) else (none)) else (none))) else (bordereauref1_Get.l0 k x0 (Go.bits .or .u64 x4 (shl .u64 (IntKind.u64.wrap (Go.bits .and .u8 (rd x0 x5) 127)) (IntKind.u64.wrap (wrap64 (7 * x5))))) (wrap64 (x5 + 1)))) else (none)) else (none)) else (none)) else (some (0, 0))
end
def bordereauref1_Get.f (k : Nat) (l0 : List Int) : Option (Int × Int) := bordereauref1_Get.l0 k l0 0 0
theorem bordereauref1_Get.mono_l : ∀ k, (∀ y0 y1 y2, LeO (bordereauref1_Get.l0 k y0 y1 y2) (bordereauref1_Get.l0 (k + 1) y0 y1 y2)) ∧ (∀ y0 y1 y2 y3, LeO (bordereauref1_Get.j1 k y0 y1 y2 y3) (bordereauref1_Get.j1 (k + 1) y0 y1 y2 y3))
  | 0 => ⟨fun _ _ _ r h => by simp [bordereauref1_Get.l0] at h, fun _ _ _ _ r h => by simp [bordereauref1_Get.j1] at h⟩
  | k + 1 => by
    obtain ⟨ih0, ih1⟩ := bordereauref1_Get.mono_l k
    refine ⟨?_, ?_⟩
    · intro y0 y1 y2
      unfold bordereauref1_Get.l0
      repeat' first
      | (with_reducible exact ih0 _ _ _)
      | (with_reducible exact ih1 _ _ _ _)
      | (with_reducible exact bordereauref1_Put.mono _ _ _)
      | (with_reducible exact LeO.refl _)
      | (with_reducible exact LeO.none _)
      | (with_reducible refine LeO.ite ?_ ?_)
      | (with_reducible refine LeO.bind ?_ (fun _ => ?_))
      | exact ih0 _ _ _
      | exact ih1 _ _ _ _
      | exact bordereauref1_Put.mono _ _ _
      | exact LeO.none _
      | refine LeO.ite ?_ ?_
      | refine LeO.bind ?_ (fun _ => ?_)
    · intro y0 y1 y2 y3
      unfold bordereauref1_Get.j1
      repeat' first
      | (with_reducible exact ih0 _ _ _)
      | (with_reducible exact ih1 _ _ _ _)
      | (with_reducible exact bordereauref1_Put.mono _ _ _)
      | (with_reducible exact LeO.refl _)
      | (with_reducible exact LeO.none _)
      | (with_reducible refine LeO.ite ?_ ?_)
      | (with_reducible refine LeO.bind ?_ (fun _ => ?_))
      | exact ih0 _ _ _
      | exact ih1 _ _ _ _
      | exact bordereauref1_Put.mono _ _ _
      | exact LeO.none _
      | refine LeO.ite ?_ ?_
      | refine LeO.bind ?_ (fun _ => ?_)
theorem bordereauref1_Get.mono : ∀ a0 k, LeO (bordereauref1_Get.f k a0) (bordereauref1_Get.f (k + 1) a0) := by
  intro a0 k
  obtain ⟨ih0, ih1⟩ := bordereauref1_Get.mono_l k
  unfold bordereauref1_Get.f
  repeat' first
      | (with_reducible exact ih0 _ _ _)
      | (with_reducible exact ih1 _ _ _ _)
      | (with_reducible exact bordereauref1_Put.mono _ _ _)
      | (with_reducible exact LeO.refl _)
      | (with_reducible exact LeO.none _)
      | (with_reducible refine LeO.ite ?_ ?_)
      | (with_reducible refine LeO.bind ?_ (fun _ => ?_))
      | exact ih0 _ _ _
      | exact ih1 _ _ _ _
      | exact bordereauref1_Put.mono _ _ _
      | exact LeO.none _
      | refine LeO.ite ?_ ?_
      | refine LeO.bind ?_ (fun _ => ?_)
def bordereauref1_Get.T8 : Bool × List (List Nat × List Nat) := (true, [([], []), ([0], [0]), ([1], [1]), ([], []), ([], []), ([4], [4]), ([3, 5], [3, 5]), ([6], [6]), ([2, 7], [2, 7])])
def bordereauref1_Get.B8 : List Nat := [0, 1, 3, 0, 0, 16, 56, 120, 255]
theorem bordereauref1_Get.tab8 : rtab .any (opsOf Try.f47 8) = bordereauref1_Get.T8 := by kernel_rfl
theorem bordereauref1_Get.bits8 : waitsOk bordereauref1_Get.T8.2 bordereauref1_Get.B8 = true := by kernel_rfl
set_option maxHeartbeats 8000000 in
set_option maxRecDepth 100000 in
theorem bordereauref1_Get.calls (k : Nat) (A0 : Option Addr) (c0 : Nat) (l0 : List Int) (r1 : Int) (r2 : Int) (w : World) (hr0 : Kd.C (Kd.int .u8) w A0 l0.length l0) (hc0 : l0.length ≤ c0) (h : bordereauref1_Get.f k l0 = some (r1, r2)) :
    Calls Try.prog 47 #[.slice A0 l0.length c0] w fun e w' => e = .returned (.tuple #[.int .i64 r1, .int .i64 r2]) ∧ Below w.heap.size w w' := by
  have HR0 := Aside0.mk hr0
  have HC0 := Aside0.mk hc0
  clear hr0 hc0
  have HB := Aside0.mk (Below.refl w.heap.size w)
  have H : (bordereauref1_Get.l0 k l0 0 0) = some (r1, r2) := h
  clear h
  have H' := Aside0.mk H
  clear H
  go_enter Try.func47, Try.ntmps47
  go_wp2
  go_loopg [4, 5] k (fun kq v4 v5 w' => ∃ (x4_1 : Int) (x5_1 : Int), v4 = .int .u64 x4_1 ∧ v5 = .int .i64 x5_1 ∧ Aside0 (bordereauref1_Get.l0 kq l0 x4_1 x5_1 = some (r1, r2)) ∧ Aside0 (kq ≤ k) ∧ Aside0 (Below w.heap.size w w'))
  case atStart => exact ⟨(0), (0), (by first | rfl | (simp; done) | (simp [*]; done)), (by first | rfl | (simp; done) | (simp [*]; done)), H', ⟨Nat.le_refl _⟩, ⟨by repeat (first | (with_reducible first | exact HB.out | apply below_alloc | apply pw_below_drewN | apply below_drew1) | exact HB.out)⟩⟩
  case round =>
    clear H'
    obtain ⟨x4_1, x5_1, rfl, rfl, HA, HK1, HB⟩ := hrel
    cases gk with
    | zero => exact absurd HA.out (by simp [bordereauref1_Get.l0])
    | succ k1 =>
      have H := HA.out
      clear HA
      simp only [bordereauref1_Get.l0] at H
      have HC2 := Aside0.mk H
      clear H
      go_upto_region 3 with (fail)
      go_cut [14] (fun v14 wc => ∃ (kq : Nat) (x14_1 : Bool), v14 = .bool x14_1 ∧ Aside0 (bordereauref1_Get.j1 kq l0 x4_1 x5_1 x14_1 = some (r1, r2)) ∧ Aside0 (kq ≤ k1) ∧ Aside0 (Below w.heap.size w wc))
      case first =>
        have H := HC2.out
        clear HC2
        by_cases c3 : x5_1 < (l0.length : Int)
        · rw [if_pos c3] at H
          have c3b0 : decide (x5_1 < (l0.length : Int)) = true := decide_eq_true c3
          clear c3
          (first | rw [c3b0] | (simp only [i64_w, i32_w]; rw [c3b0]) | skip)
          have H' := Aside0.mk H
          clear H
          go_wp2
          go_meet
          case rel => exact ⟨_, (decide (x5_1 < 10)), (by first | rfl | (simp; done) | (simp [*]; done)), H', ⟨by have := HK1.out; first | omega | exact Nat.le_refl _⟩, ⟨by repeat (first | (with_reducible first | exact HB.out | apply below_alloc | apply pw_below_drewN | apply below_drew1) | exact HB.out)⟩⟩
        · rw [if_neg c3] at H
          have c3b0 : decide (x5_1 < (l0.length : Int)) = false := decide_eq_false c3
          clear c3
          (first | rw [c3b0] | (simp only [i64_w, i32_w]; rw [c3b0]) | skip)
          have H' := Aside0.mk H
          clear H
          go_wp2
          go_meet
          case rel => exact ⟨_, (false), (by first | rfl | (simp; done) | (simp [*]; done)), H', ⟨by have := HK1.out; first | omega | exact Nat.le_refl _⟩, ⟨by repeat (first | (with_reducible first | exact HB.out | apply below_alloc | apply pw_below_drewN | apply below_drew1) | exact HB.out)⟩⟩
      case rest =>
        clear HC2
        try clear p2
        try clear c3
        try clear c3b0
        obtain ⟨kq, x14_1, rfl, HA, HJ1, HB⟩ := hcut
        cases kq with
        | zero => exact absurd HA.out (by simp [bordereauref1_Get.j1])
        | succ kj1 =>
          have H := HA.out
          clear HA
          simp only [bordereauref1_Get.j1] at H
          by_cases c4 : x14_1 = true
          · subst c4
            have H1 : (if 0 ≤ x5_1 then (if x5_1 < (l0.length : Int) then (if 0 ≤ (IntKind.u64.wrap (wrap64 (7 * x5_1))) then (if (rd l0 x5_1) < 128 then ((bordereauref1_Put.f kj1 ([] : List Int) (Go.bits .xor .i64 (wrap64 ((Go.bits .or .u64 x4_1 (shl .u64 (IntKind.u64.wrap (Go.bits .and .u8 (rd l0 x5_1) 127)) (IntKind.u64.wrap (wrap64 (7 * x5_1))))) / 2)) (wrap64 (-(wrap64 (Go.bits .and .u64 (Go.bits .or .u64 x4_1 (shl .u64 (IntKind.u64.wrap (Go.bits .and .u8 (rd l0 x5_1) 127)) (IntKind.u64.wrap (wrap64 (7 * x5_1))))) 1)))))).bind fun t247 => (if 0 ≤ (wrap64 (x5_1 + 1)) then (if (wrap64 (x5_1 + 1)) ≤ (l0.length : Int) then (if (strOfNums t247).toList = (strOfNums (l0.take ((wrap64 (x5_1 + 1)) : Int).toNat)).toList then (some (Go.bits .xor .i64 (wrap64 ((Go.bits .or .u64 x4_1 (shl .u64 (IntKind.u64.wrap (Go.bits .and .u8 (rd l0 x5_1) 127)) (IntKind.u64.wrap (wrap64 (7 * x5_1))))) / 2)) (wrap64 (-(wrap64 (Go.bits .and .u64 (Go.bits .or .u64 x4_1 (shl .u64 (IntKind.u64.wrap (Go.bits .and .u8 (rd l0 x5_1) 127)) (IntKind.u64.wrap (wrap64 (7 * x5_1))))) 1)))), wrap64 (x5_1 + 1))) else (some (0, 0))) else (none)) else (none))) else (bordereauref1_Get.l0 kj1 l0 (Go.bits .or .u64 x4_1 (shl .u64 (IntKind.u64.wrap (Go.bits .and .u8 (rd l0 x5_1) 127)) (IntKind.u64.wrap (wrap64 (7 * x5_1))))) (wrap64 (x5_1 + 1)))) else (none)) else (none)) else (none)) = some (r1, r2) := by rw [if_pos rfl] at H; exact H
            clear H
            have H := H1
            clear H1
            by_cases c5 : 0 ≤ x5_1
            · rw [if_pos c5] at H
              have c5b0 : decide (0 ≤ x5_1) = true := decide_eq_true c5
              clear c5
              by_cases c6 : x5_1 < (l0.length : Int)
              · rw [if_pos c6] at H
                have c6b0 : decide (x5_1 < (l0.length : Int)) = true := decide_eq_true c6
                clear c6
                obtain ⟨ji7, hji7⟩ : ∃ j_ : Int, (IntKind.u64.wrap (wrap64 (7 * x5_1))) = j_ := ⟨_, rfl⟩
                replace H : (if 0 ≤ (ji7) then (if (rd l0 x5_1) < 128 then ((bordereauref1_Put.f kj1 ([] : List Int) (Go.bits .xor .i64 (wrap64 ((Go.bits .or .u64 x4_1 (shl .u64 (IntKind.u64.wrap (Go.bits .and .u8 (rd l0 x5_1) 127)) (ji7))) / 2)) (wrap64 (-(wrap64 (Go.bits .and .u64 (Go.bits .or .u64 x4_1 (shl .u64 (IntKind.u64.wrap (Go.bits .and .u8 (rd l0 x5_1) 127)) (ji7))) 1)))))).bind fun t247 => (if 0 ≤ (wrap64 (x5_1 + 1)) then (if (wrap64 (x5_1 + 1)) ≤ (l0.length : Int) then (if (strOfNums t247).toList = (strOfNums (l0.take ((wrap64 (x5_1 + 1)) : Int).toNat)).toList then (some (Go.bits .xor .i64 (wrap64 ((Go.bits .or .u64 x4_1 (shl .u64 (IntKind.u64.wrap (Go.bits .and .u8 (rd l0 x5_1) 127)) (ji7))) / 2)) (wrap64 (-(wrap64 (Go.bits .and .u64 (Go.bits .or .u64 x4_1 (shl .u64 (IntKind.u64.wrap (Go.bits .and .u8 (rd l0 x5_1) 127)) (ji7))) 1)))), wrap64 (x5_1 + 1))) else (some (0, 0))) else (none)) else (none))) else (bordereauref1_Get.l0 kj1 l0 (Go.bits .or .u64 x4_1 (shl .u64 (IntKind.u64.wrap (Go.bits .and .u8 (rd l0 x5_1) 127)) (ji7))) (wrap64 (x5_1 + 1)))) else (none)) = some (r1, r2) := by first | (rw [hji7] at H; exact H) | (simp only [hji7] at H ⊢; exact H)
                by_cases c8 : 0 ≤ (ji7)
                · rw [if_pos c8] at H
                  have c8b0 := eq_true c8
                  have c8b1 : decide (0 ≤ (ji7)) = true := decide_eq_true c8
                  clear c8
                  obtain ⟨ji9, hji9⟩ : ∃ j_ : Int, (shl .u64 (IntKind.u64.wrap (Go.bits .and .u8 (rd l0 x5_1) 127)) (ji7)) = j_ := ⟨_, rfl⟩
                  replace H : (if (rd l0 x5_1) < 128 then ((bordereauref1_Put.f kj1 ([] : List Int) (Go.bits .xor .i64 (wrap64 ((Go.bits .or .u64 x4_1 (ji9)) / 2)) (wrap64 (-(wrap64 (Go.bits .and .u64 (Go.bits .or .u64 x4_1 (ji9)) 1)))))).bind fun t247 => (if 0 ≤ (wrap64 (x5_1 + 1)) then (if (wrap64 (x5_1 + 1)) ≤ (l0.length : Int) then (if (strOfNums t247).toList = (strOfNums (l0.take ((wrap64 (x5_1 + 1)) : Int).toNat)).toList then (some (Go.bits .xor .i64 (wrap64 ((Go.bits .or .u64 x4_1 (ji9)) / 2)) (wrap64 (-(wrap64 (Go.bits .and .u64 (Go.bits .or .u64 x4_1 (ji9)) 1)))), wrap64 (x5_1 + 1))) else (some (0, 0))) else (none)) else (none))) else (bordereauref1_Get.l0 kj1 l0 (Go.bits .or .u64 x4_1 (ji9)) (wrap64 (x5_1 + 1)))) = some (r1, r2) := by first | (rw [hji9] at H; exact H) | (simp only [hji9] at H ⊢; exact H)
                  have hji9_ : (IntKind.u64.wrap ((IntKind.u64.wrap (Go.bits .and .u8 (rd l0 x5_1) 127)) * 2 ^ min (ji7).toNat 64)) = ji9 := hji9
                  have hji9z : (ji7) ≤ 64 → (IntKind.u64.wrap ((IntKind.u64.wrap (Go.bits .and .u8 (rd l0 x5_1) 127)) * 2 ^ (ji7).toNat)) = ji9 := shl_small hji9
                  by_cases c10 : (rd l0 x5_1) < 128
                  · rw [if_pos c10] at H
                    have c10b0 : decide ((rd l0 x5_1) < 128) = true := decide_eq_true c10
                    clear c10
                    replace H := Option.bind_eq_some_iff.mp H
                    obtain ⟨t247, A110, H⟩ := H
                    replace H : (if 0 ≤ (wrap64 (x5_1 + 1)) then (if (wrap64 (x5_1 + 1)) ≤ (l0.length : Int) then (if (strOfNums t247).toList = (strOfNums (l0.take ((wrap64 (x5_1 + 1)) : Int).toNat)).toList then (some (Go.bits .xor .i64 (wrap64 ((Go.bits .or .u64 x4_1 (ji9)) / 2)) (wrap64 (-(wrap64 (Go.bits .and .u64 (Go.bits .or .u64 x4_1 (ji9)) 1)))), wrap64 (x5_1 + 1))) else (some (0, 0))) else (none)) else (none)) = some (r1, r2) := H
                    have A11 := Aside0.mk A110
                    clear A110
                    obtain ⟨ji12, hji12⟩ : ∃ j_ : Int, (wrap64 (x5_1 + 1)) = j_ := ⟨_, rfl⟩
                    replace H : (if 0 ≤ (ji12) then (if (ji12) ≤ (l0.length : Int) then (if (strOfNums t247).toList = (strOfNums (l0.take ((ji12) : Int).toNat)).toList then (some (Go.bits .xor .i64 (wrap64 ((Go.bits .or .u64 x4_1 (ji9)) / 2)) (wrap64 (-(wrap64 (Go.bits .and .u64 (Go.bits .or .u64 x4_1 (ji9)) 1)))), ji12)) else (some (0, 0))) else (none)) else (none)) = some (r1, r2) := by first | (rw [hji12] at H; exact H) | (simp only [hji12] at H ⊢; exact H)
                    (try rw [hji12] at A11)
                    have hji12w : (IntKind.i64.wrap (x5_1 + 1)) = ji12 := (i64_w _).trans hji12
                    by_cases c13 : 0 ≤ (ji12)
                    · rw [if_pos c13] at H
                      have c13b0 := eq_true c13
                      have c13b1 : decide (0 ≤ (ji12)) = true := decide_eq_true c13
                      clear c13
                      by_cases c14 : (ji12) ≤ (l0.length : Int)
                      · rw [if_pos c14] at H
                        have c14b0 := eq_true c14
                        have c14b1 : decide ((ji12) ≤ (l0.length : Int)) = true := decide_eq_true c14
                        clear c14
                        obtain ⟨y250, hy250⟩ : ∃ y_ : List Int, y_ = (l0.take ((ji12) : Int).toNat) := ⟨_, rfl⟩
                        replace H : (if (strOfNums t247).toList = (strOfNums y250).toList then (some (Go.bits .xor .i64 (wrap64 ((Go.bits .or .u64 x4_1 (ji9)) / 2)) (wrap64 (-(wrap64 (Go.bits .and .u64 (Go.bits .or .u64 x4_1 (ji9)) 1)))), ji12)) else (some (0, 0))) = some (r1, r2) := by first | (rw [hy250]; with_reducible exact H) | (have H2_ := (Option.bind_some _ _).symm.trans H; rw [hy250]; with_reducible exact H2_) | (have H2_ := (Option.bind_some _ _).symm.trans H; with_reducible exact H2_) | with_reducible exact H | (rw [hy250]; exact H) | exact H
                        have Ny250 := Aside0.mk hy250
                        clear hy250
                        by_cases c15 : (strOfNums t247).toList = (strOfNums y250).toList
                        · rw [if_pos c15] at H
                          have c15b0 : ((strOfNums t247).toList == (strOfNums y250).toList) = true := beq_iff_eq.mpr c15
                          have c15b1 : ((strOfNums t247).toList != (strOfNums y250).toList) = false := bne_eq_false_iff_eq.mpr c15
                          clear c15
                          simp only [Option.some.injEq, Prod.mk.injEq] at H
                          obtain ⟨rfl, rfl⟩ := H
                          have p245 : 0 ≤ (x5_1 : Int) := of_decide_eq_true (by first | (with_reducible assumption) | assumption)
                          have q245 : x5_1 < (l0.length : Int) := of_decide_eq_true (by first | (with_reducible assumption) | assumption)
                          obtain ⟨ad245, e245, hx245_0⟩ := Kd.at_int HR0.out x5_1 p245 q245
                          cases e245
                          replace hx245_0 := (HB.out.cell (World.block_lt_of_cell? w _ hx245_0)).trans hx245_0
                          replace p245 := eq_true p245
                          replace q245 := eq_true q245
                          have p246 : 0 ≤ (x5_1 : Int) := of_decide_eq_true (by first | (with_reducible assumption) | assumption)
                          have q246 : x5_1 < (l0.length : Int) := of_decide_eq_true (by first | (with_reducible assumption) | assumption)
                          obtain ⟨ad246, e246, hx246_0⟩ := Kd.at_int HR0.out x5_1 p246 q246
                          obtain rfl : ad245 = ad246 := (by injection e246)
                          replace hx246_0 := (HB.out.cell (World.block_lt_of_cell? w _ hx246_0)).trans hx246_0
                          replace p246 := eq_true p246
                          replace q246 := eq_true q246
                          try go_wp2
                          have n0_ := Aside0.mk (below_drew1 HB.out)
                          clear HB
                          have HB := n0_
                          clear n0_
                          have q17 : ((ji12) : Int) ≤ ((l0.length : Int) : Int) := of_decide_eq_true (by first | (with_reducible assumption) | assumption)
                          obtain ⟨i017, hi017, _, hsz17, _⟩ := info_parts info5
                          have hroom17 : l0.length ≤ c0 := HC0.out
                          have hC17 : Kd.C (Kd.int .u8) _ (some ad245) l0.length l0 := HR0.out
                          have hcut17 := cut_to (P := Try.prog) 29 5 .i64 Try.underlying29 hi017 (some ad245) l0.length c0 (ji12) (of_decide_eq_true (by first | (with_reducible assumption) | assumption)) q17 hroom17
                          have hr17 := Kd.C_take (m := ((ji12) : Int).toNat) hC17 (by omega)
                          have hy17 : y250.length = ((ji12) : Int).toNat := (by rw [Ny250.out, List.length_take]; omega)
                          rw [← Ny250.out] at hr17
                          rw [← hy17] at hcut17
                          have HR253 := Aside0.mk hr17
                          have HC253 := Aside0.mk (show y250.length ≤ c0 from by omega)
                          clear hr17 hC17 hroom17 hi017 hsz17
                          have KY17 := Aside0.mk hy17
                          clear hy17
                          replace q17 := eq_true q17
                          refine start_ (n := 9) (S := fun w' => True) (ds := []) #[false, false, false, false, false, false, false, false, false] (by kernel_rfl) rfl rfl trivial (fun hHeld => ?_); refine with_tabW bordereauref1_Get.tab8 bordereauref1_Get.bits8 (fun HT_ HW_ => ?_)
                          generalize wc.drew = w16 at HB HR253 hHeld ⊢
                          refine pure_ (i := 0) (N := some 42) (v := ?_) (a' := ?_) #[true, false, false, false, false, false, false, false, false] rfl rfl (any_of HT_.out (by kernel_rfl)) (fun _ _ _ h => h) (Or.inl ⟨by rfl, ?_⟩) ?_ ?_
                          rotate_left
                          · intro w'
                            go_simp
                            with_reducible rfl
                          rotate_left
                          · simp only [Act.put, List.setIfInBounds_toArray, List.set_cons_zero, List.set_cons_succ, i64_w, i32_w]
                            rfl
                          refine pure_ (i := 3) (N := some 45) (v := ?_) (a' := ?_) #[true, false, false, true, false, false, false, false, false] rfl rfl (any_of HT_.out (by kernel_rfl)) (fun _ _ _ h => h) (Or.inl ⟨by rfl, ?_⟩) ?_ ?_
                          rotate_left
                          · intro w'
                            go_simp
                            with_reducible rfl
                          rotate_left
                          · simp only [Act.put, List.setIfInBounds_toArray, List.set_cons_zero, List.set_cons_succ, i64_w, i32_w]
                            rfl
                          refine pure_ (i := 4) (N := some 46) (v := ?_) (a' := ?_) #[true, false, false, true, true, false, false, false, false] rfl rfl (any_of HT_.out (by kernel_rfl)) (fun _ _ _ h => h) (Or.inl ⟨by rfl, ?_⟩) ?_ ?_
                          rotate_left
                          · intro w'
                            go_simp
                            with_reducible rfl
                          rotate_left
                          · simp only [Act.put, List.setIfInBounds_toArray, List.set_cons_zero, List.set_cons_succ, i64_w, i32_w]
                            rfl
                          refine pure_ (i := 5) (N := some 47) (v := ?_) (a' := ?_) #[true, false, false, true, true, true, false, false, false] rfl rfl (any_of HT_.out (by kernel_rfl)) (fun _ _ _ h => h) (Or.inl ⟨by rfl, ?_⟩) ?_ ?_
                          rotate_left
                          · intro w'
                            go_simp
                            with_reducible rfl
                          rotate_left
                          · simp only [Act.put, List.setIfInBounds_toArray, List.set_cons_zero, List.set_cons_succ, i64_w, i32_w]
                            rfl
                          refine pure_ (i := 6) (N := some 48) (v := ?_) (a' := ?_) #[true, false, false, true, true, true, true, false, false] rfl rfl (any_of HT_.out (by kernel_rfl)) (fun _ _ _ h => h) (Or.inl ⟨by rfl, ?_⟩) ?_ ?_
                          rotate_left
                          · intro w'
                            go_simp
                            with_reducible rfl
                          rotate_left
                          · simp only [Act.put, List.setIfInBounds_toArray, List.set_cons_zero, List.set_cons_succ, i64_w, i32_w]
                            rfl
                          refine join_ (σ := Value) 1 #[true, true, true, true, true, true, true, true, false] (fun s_ => [(43, s_), (44, .string (strOfNums t247)), (49, .string (strOfNums y250))]) (fun s_ w' => (Kd.R (Kd.int .u8) 5 w' w.heap.size (fun _ => True) s_ t247) ∧ (Below w.heap.size w w')) ?_ ?_
                          rotate_left
                          · intro hCont
                            refine two_ (i := 1) (j := 7) (Ni := some 43) (Nj := some 49) #[true, true, false, true, true, true, true, false, false] #[true, false, false, true, true, true, true, true, false] rfl rfl rfl rfl (two_of HT_.out (by kernel_rfl)) (by decide) (by decide) (fun K hK => ?_) (fun K hK => ?_)
                            · skip
                              refine goes_ Try.func33 (by kernel_rfl) rfl #[.slice none 0 0, .int .i64 (Go.bits .xor .i64 (wrap64 ((Go.bits .or .u64 x4_1 (ji9)) / 2)) (wrap64 (-(wrap64 (Go.bits .and .u64 (Go.bits .or .u64 x4_1 (ji9)) 1)))))] (by rfl) rfl rfl (by (try simp only [List.map_toArray, List.map_cons, List.map_nil]); first | done | (simp only [hji9]; rfl) | rfl | (simp only [List.length_drop, List.length_take]; rfl)) ?_
                              refine (bordereauref1_Put.calls kj1 _ _ ([] : List Int) (Go.bits .xor .i64 (wrap64 ((Go.bits .or .u64 x4_1 (ji9)) / 2)) (wrap64 (-(wrap64 (Go.bits .and .u64 (Go.bits .or .u64 x4_1 (ji9)) 1))))) t247 _ ?side1 ?side2 A11.out).mono ?_
                              (case side1 => exact Kd.C_nil _ _)
                              (case side2 => exact Nat.le_refl _)
                              rintro e w18 ⟨v248, rfl, ho0, hb⟩
                              refine ⟨_, rfl, ?_⟩
                              have n0_ := Aside0.mk (Kd.R_lower ho0 (below_size (by repeat (first | (with_reducible first | exact HB.out | apply below_alloc | apply pw_below_drewN | apply below_drew1) | exact HB.out))))
                              have n1_ := Aside0.mk (below_step (by repeat (first | (with_reducible first | exact HB.out | apply below_alloc | apply pw_below_drewN | apply below_drew1) | exact HB.out)) hb)
                              clear HB
                              have HO249 := n0_
                              have HB := n1_
                              clear n0_ n1_
                              (try clear hb)
                              (try clear hb2)
                              (try clear hk)
                              (try clear hi)
                              (try clear ho0)
                              refine hK.out _ _ trivial (fun hHeld => ?_)
                              clear hK K
                              refine norm_ (a' := ?_) ?_ ?_
                              rotate_left
                              · show Act.put _ (some 43) _ = _
                                simp only [Act.put, List.setIfInBounds_toArray, List.set_cons_zero, List.set_cons_succ, i64_w, i32_w]
                                rfl
                              refine two_ (i := 2) (j := 7) (Ni := some 44) (Nj := some 49) #[true, true, true, true, true, true, true, false, false] #[true, true, false, true, true, true, true, true, false] rfl rfl rfl rfl (two_of HT_.out (by kernel_rfl)) (by decide) (by decide) (fun K hK => ?_) (fun K hK => ?_)
                              · skip
                                have hcv19 := own_string (P := Try.prog) Try.underlying29 Try.underlying5 Try.underlying9 (Kd.own_of_R HO249.out)
                                refine value_ (w1 := ?_) (v := ?_) (by rfl) rfl ?_ ?_
                                rotate_left 2
                                · go_simp
                                  constructor
                                  · rfl
                                  · rfl
                                clear hcv19
                                refine hK.out _ _ trivial (fun hHeld => ?_)
                                clear hK K
                                refine norm_ (a' := ?_) ?_ ?_
                                rotate_left
                                · show Act.put _ (some 44) _ = _
                                  simp only [Act.put, List.setIfInBounds_toArray, List.set_cons_zero, List.set_cons_succ, i64_w, i32_w]
                                  rfl
                                refine one_ (i := 7) (N := some 49) #[true, true, true, true, true, true, true, true, false] rfl rfl (one_of HT_.out (by kernel_rfl)) (by decide) (fun K hK => ?_)
                                have hcv20 := Kd.C_string (P := Try.prog) (A := (some ad245)) (c := c0) Try.underlying29 Try.underlying5 Try.underlying9 (Kd.C_below HR253.out HB.out)
                                refine value_ (w1 := ?_) (v := ?_) (by rfl) rfl ?_ ?_
                                rotate_left 2
                                · go_simp
                                  constructor
                                  · rfl
                                  · rfl
                                clear hcv20
                                refine hK.out _ _ trivial (fun hHeld => ?_)
                                clear hK K
                                refine norm_ (a' := ?_) ?_ ?_
                                rotate_left
                                · show Act.put _ (some 49) _ = _
                                  simp only [Act.put, List.setIfInBounds_toArray, List.set_cons_zero, List.set_cons_succ, i64_w, i32_w]
                                  rfl
                                exact norm_ (by simp only [putAll, Act.put, List.setIfInBounds_toArray, List.set_cons_zero, List.set_cons_succ]) (hCont (v248) _ ⟨(by (with_reducible repeat (first | apply Kd.R_alloc | apply Kd.R_drewN | apply Kd.R_drew)); exact HO249.out), (by repeat (first | (with_reducible first | exact HB.out | apply below_alloc | apply pw_below_drewN | apply below_drew1) | exact HB.out))⟩)
                              · skip
                                have hcv19 := Kd.C_string (P := Try.prog) (A := (some ad245)) (c := c0) Try.underlying29 Try.underlying5 Try.underlying9 (Kd.C_below HR253.out HB.out)
                                refine value_ (w1 := ?_) (v := ?_) (by rfl) rfl ?_ ?_
                                rotate_left 2
                                · go_simp
                                  constructor
                                  · rfl
                                  · rfl
                                clear hcv19
                                refine hK.out _ _ trivial (fun hHeld => ?_)
                                clear hK K
                                refine norm_ (a' := ?_) ?_ ?_
                                rotate_left
                                · show Act.put _ (some 49) _ = _
                                  simp only [Act.put, List.setIfInBounds_toArray, List.set_cons_zero, List.set_cons_succ, i64_w, i32_w]
                                  rfl
                                refine one_ (i := 2) (N := some 44) #[true, true, true, true, true, true, true, true, false] rfl rfl (one_of HT_.out (by kernel_rfl)) (by decide) (fun K hK => ?_)
                                have hcv20 := own_string (P := Try.prog) Try.underlying29 Try.underlying5 Try.underlying9 (Kd.own_of_R HO249.out)
                                refine value_ (w1 := ?_) (v := ?_) (by rfl) rfl ?_ ?_
                                rotate_left 2
                                · go_simp
                                  constructor
                                  · rfl
                                  · rfl
                                clear hcv20
                                refine hK.out _ _ trivial (fun hHeld => ?_)
                                clear hK K
                                refine norm_ (a' := ?_) ?_ ?_
                                rotate_left
                                · show Act.put _ (some 44) _ = _
                                  simp only [Act.put, List.setIfInBounds_toArray, List.set_cons_zero, List.set_cons_succ, i64_w, i32_w]
                                  rfl
                                exact norm_ (by simp only [putAll, Act.put, List.setIfInBounds_toArray, List.set_cons_zero, List.set_cons_succ]) (hCont (v248) _ ⟨(by (with_reducible repeat (first | apply Kd.R_alloc | apply Kd.R_drewN | apply Kd.R_drew)); exact HO249.out), (by repeat (first | (with_reducible first | exact HB.out | apply below_alloc | apply pw_below_drewN | apply below_drew1) | exact HB.out))⟩)
                            · skip
                              have hcv18 := Kd.C_string (P := Try.prog) (A := (some ad245)) (c := c0) Try.underlying29 Try.underlying5 Try.underlying9 (Kd.C_below HR253.out HB.out)
                              refine value_ (w1 := ?_) (v := ?_) (by rfl) rfl ?_ ?_
                              rotate_left 2
                              · go_simp
                                constructor
                                · rfl
                                · rfl
                              clear hcv18
                              refine hK.out _ _ trivial (fun hHeld => ?_)
                              clear hK K
                              refine norm_ (a' := ?_) ?_ ?_
                              rotate_left
                              · show Act.put _ (some 49) _ = _
                                simp only [Act.put, List.setIfInBounds_toArray, List.set_cons_zero, List.set_cons_succ, i64_w, i32_w]
                                rfl
                              refine one_ (i := 1) (N := some 43) #[true, true, false, true, true, true, true, true, false] rfl rfl (one_of HT_.out (by kernel_rfl)) (by decide) (fun K hK => ?_)
                              refine goes_ Try.func33 (by kernel_rfl) rfl #[.slice none 0 0, .int .i64 (Go.bits .xor .i64 (wrap64 ((Go.bits .or .u64 x4_1 (ji9)) / 2)) (wrap64 (-(wrap64 (Go.bits .and .u64 (Go.bits .or .u64 x4_1 (ji9)) 1)))))] (by rfl) rfl rfl (by (try simp only [List.map_toArray, List.map_cons, List.map_nil]); first | done | (simp only [hji9]; rfl) | rfl | (simp only [List.length_drop, List.length_take]; rfl)) ?_
                              refine (bordereauref1_Put.calls kj1 _ _ ([] : List Int) (Go.bits .xor .i64 (wrap64 ((Go.bits .or .u64 x4_1 (ji9)) / 2)) (wrap64 (-(wrap64 (Go.bits .and .u64 (Go.bits .or .u64 x4_1 (ji9)) 1))))) t247 _ ?side1 ?side2 A11.out).mono ?_
                              (case side1 => exact Kd.C_nil _ _)
                              (case side2 => exact Nat.le_refl _)
                              rintro e w19 ⟨v248, rfl, ho0, hb⟩
                              refine ⟨_, rfl, ?_⟩
                              have n0_ := Aside0.mk (Kd.R_lower ho0 (below_size (by repeat (first | (with_reducible first | exact HB.out | apply below_alloc | apply pw_below_drewN | apply below_drew1) | exact HB.out))))
                              have n1_ := Aside0.mk (below_step (by repeat (first | (with_reducible first | exact HB.out | apply below_alloc | apply pw_below_drewN | apply below_drew1) | exact HB.out)) hb)
                              clear HB
                              have HO249 := n0_
                              have HB := n1_
                              clear n0_ n1_
                              (try clear hb)
                              (try clear hb2)
                              (try clear hk)
                              (try clear hi)
                              (try clear ho0)
                              refine hK.out _ _ trivial (fun hHeld => ?_)
                              clear hK K
                              refine norm_ (a' := ?_) ?_ ?_
                              rotate_left
                              · show Act.put _ (some 43) _ = _
                                simp only [Act.put, List.setIfInBounds_toArray, List.set_cons_zero, List.set_cons_succ, i64_w, i32_w]
                                rfl
                              refine one_ (i := 2) (N := some 44) #[true, true, true, true, true, true, true, true, false] rfl rfl (one_of HT_.out (by kernel_rfl)) (by decide) (fun K hK => ?_)
                              have hcv20 := own_string (P := Try.prog) Try.underlying29 Try.underlying5 Try.underlying9 (Kd.own_of_R HO249.out)
                              refine value_ (w1 := ?_) (v := ?_) (by rfl) rfl ?_ ?_
                              rotate_left 2
                              · go_simp
                                constructor
                                · rfl
                                · rfl
                              clear hcv20
                              refine hK.out _ _ trivial (fun hHeld => ?_)
                              clear hK K
                              refine norm_ (a' := ?_) ?_ ?_
                              rotate_left
                              · show Act.put _ (some 44) _ = _
                                simp only [Act.put, List.setIfInBounds_toArray, List.set_cons_zero, List.set_cons_succ, i64_w, i32_w]
                                rfl
                              exact norm_ (by simp only [putAll, Act.put, List.setIfInBounds_toArray, List.set_cons_zero, List.set_cons_succ]) (hCont (v248) _ ⟨(by (with_reducible repeat (first | apply Kd.R_alloc | apply Kd.R_drewN | apply Kd.R_drew)); exact HO249.out), (by repeat (first | (with_reducible first | exact HB.out | apply below_alloc | apply pw_below_drewN | apply below_drew1) | exact HB.out))⟩)
                          rintro v248 w21 ⟨h0_, h1_⟩
                          have n0_ : Aside0 (Kd.R (Kd.int .u8) 5 w21 w.heap.size (fun _ => True) v248 t247) := ⟨h0_⟩
                          have n1_ : Aside0 (Below w.heap.size w w21) := ⟨h1_⟩
                          clear HB
                          clear h0_ h1_
                          have HO249 := n0_
                          have HB := n1_
                          clear n0_ n1_
                          have hHeld := trivial
                          refine norm_ (a' := ?_) ?_ ?_
                          rotate_left
                          · simp only [putAll, Act.put, List.setIfInBounds_toArray, List.set_cons_zero, List.set_cons_succ]
                            rfl
                          refine pure_ (i := 8) (N := some 50) (v := ?_) (a' := ?_) #[true, true, true, true, true, true, true, true, true] rfl rfl (any_of HT_.out (by kernel_rfl)) (fun _ _ _ h => h) (Or.inl ⟨by rfl, ?_⟩) ?_ ?_
                          rotate_left
                          · intro w'
                            go_simp
                            with_reducible rfl
                          rotate_left
                          · simp only [Act.put, List.setIfInBounds_toArray, List.set_cons_zero, List.set_cons_succ, i64_w, i32_w]
                            rfl
                          refine done_ (done_of HT_.out (by kernel_rfl)) ?_
                          try go_wp2
                          go_ret2
                          exact ⟨by first | rfl | (simp [errW_none, errW_some] <;> rfl) | (simp only [← hji7, ← hji9, ← hji12]; first | rfl | (simp [errW_none, errW_some] <;> rfl)) | (simp [*, errW_none, errW_some] <;> rfl), by repeat (first | (with_reducible first | exact HB.out | apply below_alloc | apply pw_below_drewN | apply below_drew1) | exact HB.out)⟩
                        · rw [if_neg c15] at H
                          have c15b0 : ((strOfNums t247).toList == (strOfNums y250).toList) = false := beq_eq_false_iff_ne.mpr c15
                          have c15b1 : ((strOfNums t247).toList != (strOfNums y250).toList) = true := bne_iff_ne.mpr c15
                          simp only [Option.some.injEq, Prod.mk.injEq] at H
                          obtain ⟨rfl, rfl⟩ := H
                          have p245 : 0 ≤ (x5_1 : Int) := of_decide_eq_true (by first | (with_reducible assumption) | assumption)
                          have q245 : x5_1 < (l0.length : Int) := of_decide_eq_true (by first | (with_reducible assumption) | assumption)
                          obtain ⟨ad245, e245, hx245_0⟩ := Kd.at_int HR0.out x5_1 p245 q245
                          cases e245
                          replace hx245_0 := (HB.out.cell (World.block_lt_of_cell? w _ hx245_0)).trans hx245_0
                          replace p245 := eq_true p245
                          replace q245 := eq_true q245
                          have p246 : 0 ≤ (x5_1 : Int) := of_decide_eq_true (by first | (with_reducible assumption) | assumption)
                          have q246 : x5_1 < (l0.length : Int) := of_decide_eq_true (by first | (with_reducible assumption) | assumption)
                          obtain ⟨ad246, e246, hx246_0⟩ := Kd.at_int HR0.out x5_1 p246 q246
                          obtain rfl : ad245 = ad246 := (by injection e246)
                          replace hx246_0 := (HB.out.cell (World.block_lt_of_cell? w _ hx246_0)).trans hx246_0
                          replace p246 := eq_true p246
                          replace q246 := eq_true q246
                          try go_wp2
                          have n0_ := Aside0.mk (below_drew1 HB.out)
                          clear HB
                          have HB := n0_
                          clear n0_
                          have q23 : ((ji12) : Int) ≤ ((l0.length : Int) : Int) := of_decide_eq_true (by first | (with_reducible assumption) | assumption)
                          obtain ⟨i023, hi023, _, hsz23, _⟩ := info_parts info5
                          have hroom23 : l0.length ≤ c0 := HC0.out
                          have hC23 : Kd.C (Kd.int .u8) _ (some ad245) l0.length l0 := HR0.out
                          have hcut23 := cut_to (P := Try.prog) 29 5 .i64 Try.underlying29 hi023 (some ad245) l0.length c0 (ji12) (of_decide_eq_true (by first | (with_reducible assumption) | assumption)) q23 hroom23
                          have hr23 := Kd.C_take (m := ((ji12) : Int).toNat) hC23 (by omega)
                          have hy23 : y250.length = ((ji12) : Int).toNat := (by rw [Ny250.out, List.length_take]; omega)
                          rw [← Ny250.out] at hr23
                          rw [← hy23] at hcut23
                          have HR253 := Aside0.mk hr23
                          have HC253 := Aside0.mk (show y250.length ≤ c0 from by omega)
                          clear hr23 hC23 hroom23 hi023 hsz23
                          have KY23 := Aside0.mk hy23
                          clear hy23
                          replace q23 := eq_true q23
                          refine start_ (n := 9) (S := fun w' => True) (ds := []) #[false, false, false, false, false, false, false, false, false] (by kernel_rfl) rfl rfl trivial (fun hHeld => ?_); refine with_tabW bordereauref1_Get.tab8 bordereauref1_Get.bits8 (fun HT_ HW_ => ?_)
                          generalize wc.drew = w22 at HB HR253 hHeld ⊢
                          refine pure_ (i := 0) (N := some 42) (v := ?_) (a' := ?_) #[true, false, false, false, false, false, false, false, false] rfl rfl (any_of HT_.out (by kernel_rfl)) (fun _ _ _ h => h) (Or.inl ⟨by rfl, ?_⟩) ?_ ?_
                          rotate_left
                          · intro w'
                            go_simp
                            with_reducible rfl
                          rotate_left
                          · simp only [Act.put, List.setIfInBounds_toArray, List.set_cons_zero, List.set_cons_succ, i64_w, i32_w]
                            rfl
                          refine pure_ (i := 3) (N := some 45) (v := ?_) (a' := ?_) #[true, false, false, true, false, false, false, false, false] rfl rfl (any_of HT_.out (by kernel_rfl)) (fun _ _ _ h => h) (Or.inl ⟨by rfl, ?_⟩) ?_ ?_
                          rotate_left
                          · intro w'
                            go_simp
                            with_reducible rfl
                          rotate_left
                          · simp only [Act.put, List.setIfInBounds_toArray, List.set_cons_zero, List.set_cons_succ, i64_w, i32_w]
                            rfl
                          refine pure_ (i := 4) (N := some 46) (v := ?_) (a' := ?_) #[true, false, false, true, true, false, false, false, false] rfl rfl (any_of HT_.out (by kernel_rfl)) (fun _ _ _ h => h) (Or.inl ⟨by rfl, ?_⟩) ?_ ?_
                          rotate_left
                          · intro w'
                            go_simp
                            with_reducible rfl
                          rotate_left
                          · simp only [Act.put, List.setIfInBounds_toArray, List.set_cons_zero, List.set_cons_succ, i64_w, i32_w]
                            rfl
                          refine pure_ (i := 5) (N := some 47) (v := ?_) (a' := ?_) #[true, false, false, true, true, true, false, false, false] rfl rfl (any_of HT_.out (by kernel_rfl)) (fun _ _ _ h => h) (Or.inl ⟨by rfl, ?_⟩) ?_ ?_
                          rotate_left
                          · intro w'
                            go_simp
                            with_reducible rfl
                          rotate_left
                          · simp only [Act.put, List.setIfInBounds_toArray, List.set_cons_zero, List.set_cons_succ, i64_w, i32_w]
                            rfl
                          refine pure_ (i := 6) (N := some 48) (v := ?_) (a' := ?_) #[true, false, false, true, true, true, true, false, false] rfl rfl (any_of HT_.out (by kernel_rfl)) (fun _ _ _ h => h) (Or.inl ⟨by rfl, ?_⟩) ?_ ?_
                          rotate_left
                          · intro w'
                            go_simp
                            with_reducible rfl
                          rotate_left
                          · simp only [Act.put, List.setIfInBounds_toArray, List.set_cons_zero, List.set_cons_succ, i64_w, i32_w]
                            rfl
                          refine join_ (σ := Value) 1 #[true, true, true, true, true, true, true, true, false] (fun s_ => [(43, s_), (44, .string (strOfNums t247)), (49, .string (strOfNums y250))]) (fun s_ w' => (Kd.R (Kd.int .u8) 5 w' w.heap.size (fun _ => True) s_ t247) ∧ (Below w.heap.size w w')) ?_ ?_
                          rotate_left
                          · intro hCont
                            refine two_ (i := 1) (j := 7) (Ni := some 43) (Nj := some 49) #[true, true, false, true, true, true, true, false, false] #[true, false, false, true, true, true, true, true, false] rfl rfl rfl rfl (two_of HT_.out (by kernel_rfl)) (by decide) (by decide) (fun K hK => ?_) (fun K hK => ?_)
                            · skip
                              refine goes_ Try.func33 (by kernel_rfl) rfl #[.slice none 0 0, .int .i64 (Go.bits .xor .i64 (wrap64 ((Go.bits .or .u64 x4_1 (ji9)) / 2)) (wrap64 (-(wrap64 (Go.bits .and .u64 (Go.bits .or .u64 x4_1 (ji9)) 1)))))] (by rfl) rfl rfl (by (try simp only [List.map_toArray, List.map_cons, List.map_nil]); first | done | (simp only [hji9]; rfl) | rfl | (simp only [List.length_drop, List.length_take]; rfl)) ?_
                              refine (bordereauref1_Put.calls kj1 _ _ ([] : List Int) (Go.bits .xor .i64 (wrap64 ((Go.bits .or .u64 x4_1 (ji9)) / 2)) (wrap64 (-(wrap64 (Go.bits .and .u64 (Go.bits .or .u64 x4_1 (ji9)) 1))))) t247 _ ?side1 ?side2 A11.out).mono ?_
                              (case side1 => exact Kd.C_nil _ _)
                              (case side2 => exact Nat.le_refl _)
                              rintro e w24 ⟨v248, rfl, ho0, hb⟩
                              refine ⟨_, rfl, ?_⟩
                              have n0_ := Aside0.mk (Kd.R_lower ho0 (below_size (by repeat (first | (with_reducible first | exact HB.out | apply below_alloc | apply pw_below_drewN | apply below_drew1) | exact HB.out))))
                              have n1_ := Aside0.mk (below_step (by repeat (first | (with_reducible first | exact HB.out | apply below_alloc | apply pw_below_drewN | apply below_drew1) | exact HB.out)) hb)
                              clear HB
                              have HO249 := n0_
                              have HB := n1_
                              clear n0_ n1_
                              (try clear hb)
                              (try clear hb2)
                              (try clear hk)
                              (try clear hi)
                              (try clear ho0)
                              refine hK.out _ _ trivial (fun hHeld => ?_)
                              clear hK K
                              refine norm_ (a' := ?_) ?_ ?_
                              rotate_left
                              · show Act.put _ (some 43) _ = _
                                simp only [Act.put, List.setIfInBounds_toArray, List.set_cons_zero, List.set_cons_succ, i64_w, i32_w]
                                rfl
                              refine two_ (i := 2) (j := 7) (Ni := some 44) (Nj := some 49) #[true, true, true, true, true, true, true, false, false] #[true, true, false, true, true, true, true, true, false] rfl rfl rfl rfl (two_of HT_.out (by kernel_rfl)) (by decide) (by decide) (fun K hK => ?_) (fun K hK => ?_)
                              · skip
                                have hcv25 := own_string (P := Try.prog) Try.underlying29 Try.underlying5 Try.underlying9 (Kd.own_of_R HO249.out)
                                refine value_ (w1 := ?_) (v := ?_) (by rfl) rfl ?_ ?_
                                rotate_left 2
                                · go_simp
                                  constructor
                                  · rfl
                                  · rfl
                                clear hcv25
                                refine hK.out _ _ trivial (fun hHeld => ?_)
                                clear hK K
                                refine norm_ (a' := ?_) ?_ ?_
                                rotate_left
                                · show Act.put _ (some 44) _ = _
                                  simp only [Act.put, List.setIfInBounds_toArray, List.set_cons_zero, List.set_cons_succ, i64_w, i32_w]
                                  rfl
                                refine one_ (i := 7) (N := some 49) #[true, true, true, true, true, true, true, true, false] rfl rfl (one_of HT_.out (by kernel_rfl)) (by decide) (fun K hK => ?_)
                                have hcv26 := Kd.C_string (P := Try.prog) (A := (some ad245)) (c := c0) Try.underlying29 Try.underlying5 Try.underlying9 (Kd.C_below HR253.out HB.out)
                                refine value_ (w1 := ?_) (v := ?_) (by rfl) rfl ?_ ?_
                                rotate_left 2
                                · go_simp
                                  constructor
                                  · rfl
                                  · rfl
                                clear hcv26
                                refine hK.out _ _ trivial (fun hHeld => ?_)
                                clear hK K
                                refine norm_ (a' := ?_) ?_ ?_
                                rotate_left
                                · show Act.put _ (some 49) _ = _
                                  simp only [Act.put, List.setIfInBounds_toArray, List.set_cons_zero, List.set_cons_succ, i64_w, i32_w]
                                  rfl
                                exact norm_ (by simp only [putAll, Act.put, List.setIfInBounds_toArray, List.set_cons_zero, List.set_cons_succ]) (hCont (v248) _ ⟨(by (with_reducible repeat (first | apply Kd.R_alloc | apply Kd.R_drewN | apply Kd.R_drew)); exact HO249.out), (by repeat (first | (with_reducible first | exact HB.out | apply below_alloc | apply pw_below_drewN | apply below_drew1) | exact HB.out))⟩)
                              · skip
                                have hcv25 := Kd.C_string (P := Try.prog) (A := (some ad245)) (c := c0) Try.underlying29 Try.underlying5 Try.underlying9 (Kd.C_below HR253.out HB.out)
                                refine value_ (w1 := ?_) (v := ?_) (by rfl) rfl ?_ ?_
                                rotate_left 2
                                · go_simp
                                  constructor
                                  · rfl
                                  · rfl
                                clear hcv25
                                refine hK.out _ _ trivial (fun hHeld => ?_)
                                clear hK K
                                refine norm_ (a' := ?_) ?_ ?_
                                rotate_left
                                · show Act.put _ (some 49) _ = _
                                  simp only [Act.put, List.setIfInBounds_toArray, List.set_cons_zero, List.set_cons_succ, i64_w, i32_w]
                                  rfl
                                refine one_ (i := 2) (N := some 44) #[true, true, true, true, true, true, true, true, false] rfl rfl (one_of HT_.out (by kernel_rfl)) (by decide) (fun K hK => ?_)
                                have hcv26 := own_string (P := Try.prog) Try.underlying29 Try.underlying5 Try.underlying9 (Kd.own_of_R HO249.out)
                                refine value_ (w1 := ?_) (v := ?_) (by rfl) rfl ?_ ?_
                                rotate_left 2
                                · go_simp
                                  constructor
                                  · rfl
                                  · rfl
                                clear hcv26
                                refine hK.out _ _ trivial (fun hHeld => ?_)
                                clear hK K
                                refine norm_ (a' := ?_) ?_ ?_
                                rotate_left
                                · show Act.put _ (some 44) _ = _
                                  simp only [Act.put, List.setIfInBounds_toArray, List.set_cons_zero, List.set_cons_succ, i64_w, i32_w]
                                  rfl
                                exact norm_ (by simp only [putAll, Act.put, List.setIfInBounds_toArray, List.set_cons_zero, List.set_cons_succ]) (hCont (v248) _ ⟨(by (with_reducible repeat (first | apply Kd.R_alloc | apply Kd.R_drewN | apply Kd.R_drew)); exact HO249.out), (by repeat (first | (with_reducible first | exact HB.out | apply below_alloc | apply pw_below_drewN | apply below_drew1) | exact HB.out))⟩)
                            · skip
                              have hcv24 := Kd.C_string (P := Try.prog) (A := (some ad245)) (c := c0) Try.underlying29 Try.underlying5 Try.underlying9 (Kd.C_below HR253.out HB.out)
                              refine value_ (w1 := ?_) (v := ?_) (by rfl) rfl ?_ ?_
                              rotate_left 2
                              · go_simp
                                constructor
                                · rfl
                                · rfl
                              clear hcv24
                              refine hK.out _ _ trivial (fun hHeld => ?_)
                              clear hK K
                              refine norm_ (a' := ?_) ?_ ?_
                              rotate_left
                              · show Act.put _ (some 49) _ = _
                                simp only [Act.put, List.setIfInBounds_toArray, List.set_cons_zero, List.set_cons_succ, i64_w, i32_w]
                                rfl
                              refine one_ (i := 1) (N := some 43) #[true, true, false, true, true, true, true, true, false] rfl rfl (one_of HT_.out (by kernel_rfl)) (by decide) (fun K hK => ?_)
                              refine goes_ Try.func33 (by kernel_rfl) rfl #[.slice none 0 0, .int .i64 (Go.bits .xor .i64 (wrap64 ((Go.bits .or .u64 x4_1 (ji9)) / 2)) (wrap64 (-(wrap64 (Go.bits .and .u64 (Go.bits .or .u64 x4_1 (ji9)) 1)))))] (by rfl) rfl rfl (by (try simp only [List.map_toArray, List.map_cons, List.map_nil]); first | done | (simp only [hji9]; rfl) | rfl | (simp only [List.length_drop, List.length_take]; rfl)) ?_
                              refine (bordereauref1_Put.calls kj1 _ _ ([] : List Int) (Go.bits .xor .i64 (wrap64 ((Go.bits .or .u64 x4_1 (ji9)) / 2)) (wrap64 (-(wrap64 (Go.bits .and .u64 (Go.bits .or .u64 x4_1 (ji9)) 1))))) t247 _ ?side1 ?side2 A11.out).mono ?_
                              (case side1 => exact Kd.C_nil _ _)
                              (case side2 => exact Nat.le_refl _)
                              rintro e w25 ⟨v248, rfl, ho0, hb⟩
                              refine ⟨_, rfl, ?_⟩
                              have n0_ := Aside0.mk (Kd.R_lower ho0 (below_size (by repeat (first | (with_reducible first | exact HB.out | apply below_alloc | apply pw_below_drewN | apply below_drew1) | exact HB.out))))
                              have n1_ := Aside0.mk (below_step (by repeat (first | (with_reducible first | exact HB.out | apply below_alloc | apply pw_below_drewN | apply below_drew1) | exact HB.out)) hb)
                              clear HB
                              have HO249 := n0_
                              have HB := n1_
                              clear n0_ n1_
                              (try clear hb)
                              (try clear hb2)
                              (try clear hk)
                              (try clear hi)
                              (try clear ho0)
                              refine hK.out _ _ trivial (fun hHeld => ?_)
                              clear hK K
                              refine norm_ (a' := ?_) ?_ ?_
                              rotate_left
                              · show Act.put _ (some 43) _ = _
                                simp only [Act.put, List.setIfInBounds_toArray, List.set_cons_zero, List.set_cons_succ, i64_w, i32_w]
                                rfl
                              refine one_ (i := 2) (N := some 44) #[true, true, true, true, true, true, true, true, false] rfl rfl (one_of HT_.out (by kernel_rfl)) (by decide) (fun K hK => ?_)
                              have hcv26 := own_string (P := Try.prog) Try.underlying29 Try.underlying5 Try.underlying9 (Kd.own_of_R HO249.out)
                              refine value_ (w1 := ?_) (v := ?_) (by rfl) rfl ?_ ?_
                              rotate_left 2
                              · go_simp
                                constructor
                                · rfl
                                · rfl
                              clear hcv26
                              refine hK.out _ _ trivial (fun hHeld => ?_)
                              clear hK K
                              refine norm_ (a' := ?_) ?_ ?_
                              rotate_left
                              · show Act.put _ (some 44) _ = _
                                simp only [Act.put, List.setIfInBounds_toArray, List.set_cons_zero, List.set_cons_succ, i64_w, i32_w]
                                rfl
                              exact norm_ (by simp only [putAll, Act.put, List.setIfInBounds_toArray, List.set_cons_zero, List.set_cons_succ]) (hCont (v248) _ ⟨(by (with_reducible repeat (first | apply Kd.R_alloc | apply Kd.R_drewN | apply Kd.R_drew)); exact HO249.out), (by repeat (first | (with_reducible first | exact HB.out | apply below_alloc | apply pw_below_drewN | apply below_drew1) | exact HB.out))⟩)
                          rintro v248 w27 ⟨h0_, h1_⟩
                          have n0_ : Aside0 (Kd.R (Kd.int .u8) 5 w27 w.heap.size (fun _ => True) v248 t247) := ⟨h0_⟩
                          have n1_ : Aside0 (Below w.heap.size w w27) := ⟨h1_⟩
                          clear HB
                          clear h0_ h1_
                          have HO249 := n0_
                          have HB := n1_
                          clear n0_ n1_
                          have hHeld := trivial
                          refine norm_ (a' := ?_) ?_ ?_
                          rotate_left
                          · simp only [putAll, Act.put, List.setIfInBounds_toArray, List.set_cons_zero, List.set_cons_succ]
                            rfl
                          refine pure_ (i := 8) (N := some 50) (v := ?_) (a' := ?_) #[true, true, true, true, true, true, true, true, true] rfl rfl (any_of HT_.out (by kernel_rfl)) (fun _ _ _ h => h) (Or.inl ⟨by rfl, ?_⟩) ?_ ?_
                          rotate_left
                          · intro w'
                            go_simp
                            with_reducible rfl
                          rotate_left
                          · simp only [Act.put, List.setIfInBounds_toArray, List.set_cons_zero, List.set_cons_succ, i64_w, i32_w]
                            rfl
                          refine done_ (done_of HT_.out (by kernel_rfl)) ?_
                          try go_wp2
                          go_ret2
                          exact ⟨by first | rfl | (simp [errW_none, errW_some] <;> rfl) | (simp only [← hji7, ← hji9, ← hji12]; first | rfl | (simp [errW_none, errW_some] <;> rfl)) | (simp [*, errW_none, errW_some] <;> rfl), by repeat (first | (with_reducible first | exact HB.out | apply below_alloc | apply pw_below_drewN | apply below_drew1) | exact HB.out)⟩
                      · rw [if_neg c14] at H
                        exact absurd H (by simp)
                    · rw [if_neg c13] at H
                      exact absurd H (by simp)
                  · rw [if_neg c10] at H
                    have c10b0 : decide ((rd l0 x5_1) < 128) = false := decide_eq_false c10
                    clear c10
                    have H' := Aside0.mk H
                    clear H
                    have p245 : 0 ≤ (x5_1 : Int) := of_decide_eq_true (by first | (with_reducible assumption) | assumption)
                    have q245 : x5_1 < (l0.length : Int) := of_decide_eq_true (by first | (with_reducible assumption) | assumption)
                    obtain ⟨ad245, e245, hx245_0⟩ := Kd.at_int HR0.out x5_1 p245 q245
                    cases e245
                    replace hx245_0 := (HB.out.cell (World.block_lt_of_cell? w _ hx245_0)).trans hx245_0
                    replace p245 := eq_true p245
                    replace q245 := eq_true q245
                    have p246 : 0 ≤ (x5_1 : Int) := of_decide_eq_true (by first | (with_reducible assumption) | assumption)
                    have q246 : x5_1 < (l0.length : Int) := of_decide_eq_true (by first | (with_reducible assumption) | assumption)
                    obtain ⟨ad246, e246, hx246_0⟩ := Kd.at_int HR0.out x5_1 p246 q246
                    obtain rfl : ad245 = ad246 := (by injection e246)
                    replace hx246_0 := (HB.out.cell (World.block_lt_of_cell? w _ hx246_0)).trans hx246_0
                    replace p246 := eq_true p246
                    replace q246 := eq_true q246
                    go_wp2
                    go_roundg kj1
                    case measure => have := HK1.out; have := HJ1.out; omega
                    case rel => exact ⟨(Go.bits .or .u64 x4_1 (ji9)), (wrap64 (x5_1 + 1)), (by first | rfl | (simp; done) | (simp only [← hji9] <;> (first | rfl | simp)) | (simp [*]; done)), (by first | rfl | (simp; done) | (simp [*]; done)), H', ⟨by have := HK1.out; have := HJ1.out; omega⟩, ⟨by repeat (first | (with_reducible first | exact HB.out | apply below_alloc | apply pw_below_drewN | apply below_drew1) | exact HB.out)⟩⟩
                · rw [if_neg c8] at H
                  exact absurd H (by simp)
              · rw [if_neg c6] at H
                exact absurd H (by simp)
            · rw [if_neg c5] at H
              exact absurd H (by simp)
          · replace c4 := Bool.eq_false_iff.mpr c4
            subst c4
            have H1 : (some (0, 0)) = some (r1, r2) := by rw [if_neg (show ¬ (false = true) by decide)] at H; exact H
            clear H
            have H := H1
            clear H1
            simp only [Option.some.injEq, Prod.mk.injEq] at H
            obtain ⟨rfl, rfl⟩ := H
            go_wp2
            go_ret2
            exact ⟨by first | rfl | (simp [errW_none, errW_some] <;> rfl) | (simp [*, errW_none, errW_some] <;> rfl), by repeat (first | (with_reducible first | exact HB.out | apply below_alloc | apply pw_below_drewN | apply below_drew1) | exact HB.out)⟩

/-! ### bordereauref1_Cut: function 48 -/
def bordereauref1_Cut.f (k : Nat) (l0 : List Int) (a1 : Int) : Option (ByteArray × Int) := (bordereauref1_Get.f k l0).bind fun bt254 => (if bt254.2 = 0 then (some ((⟨#[]⟩ : ByteArray), 0)) else (if bt254.1 < 0 then (some ((⟨#[]⟩ : ByteArray), 0)) else (if bt254.1 > a1 then (some ((⟨#[]⟩ : ByteArray), 0)) else (if bt254.1 > (wrap64 ((l0.length : Int) - bt254.2)) then (some ((⟨#[]⟩ : ByteArray), 0)) else (if 0 ≤ bt254.2 then (if bt254.2 ≤ (wrap64 (bt254.2 + bt254.1)) then (if (wrap64 (bt254.2 + bt254.1)) ≤ (l0.length : Int) then (some (strOfNums ((l0.take ((wrap64 (bt254.2 + bt254.1)) : Int).toNat).drop (bt254.2 : Int).toNat), wrap64 (bt254.2 + bt254.1))) else (none)) else (none)) else (none))))))
theorem bordereauref1_Cut.mono : ∀ a0 a1 k, LeO (bordereauref1_Cut.f k a0 a1) (bordereauref1_Cut.f (k + 1) a0 a1) := by
  intro a0 a1 k
  unfold bordereauref1_Cut.f
  repeat' first
      | (with_reducible exact bordereauref1_Get.mono _ _)
      | (with_reducible exact LeO.refl _)
      | (with_reducible exact LeO.none _)
      | (with_reducible refine LeO.ite ?_ ?_)
      | (with_reducible refine LeO.bind ?_ (fun _ => ?_))
      | exact bordereauref1_Get.mono _ _
      | exact LeO.none _
      | refine LeO.ite ?_ ?_
      | refine LeO.bind ?_ (fun _ => ?_)
set_option maxHeartbeats 8000000 in
set_option maxRecDepth 100000 in
theorem bordereauref1_Cut.calls (k : Nat) (A0 : Option Addr) (c0 : Nat) (l0 : List Int) (a1 : Int) (r1 : ByteArray) (r2 : Int) (w : World) (hr0 : Kd.C (Kd.int .u8) w A0 l0.length l0) (hc0 : l0.length ≤ c0) (h : bordereauref1_Cut.f k l0 a1 = some (r1, r2)) :
    Calls Try.prog 48 #[.slice A0 l0.length c0, .int .i64 a1] w fun e w' => e = .returned (.tuple #[.string r1, .int .i64 r2]) ∧ Below w.heap.size w w' := by
  have HR0 := Aside0.mk hr0
  have HC0 := Aside0.mk hc0
  clear hr0 hc0
  have HB := Aside0.mk (Below.refl w.heap.size w)
  have H : ((bordereauref1_Get.f k l0).bind fun bt254 => (if bt254.2 = 0 then (some ((⟨#[]⟩ : ByteArray), 0)) else (if bt254.1 < 0 then (some ((⟨#[]⟩ : ByteArray), 0)) else (if bt254.1 > a1 then (some ((⟨#[]⟩ : ByteArray), 0)) else (if bt254.1 > (wrap64 ((l0.length : Int) - bt254.2)) then (some ((⟨#[]⟩ : ByteArray), 0)) else (if 0 ≤ bt254.2 then (if bt254.2 ≤ (wrap64 (bt254.2 + bt254.1)) then (if (wrap64 (bt254.2 + bt254.1)) ≤ (l0.length : Int) then (some (strOfNums ((l0.take ((wrap64 (bt254.2 + bt254.1)) : Int).toNat).drop (bt254.2 : Int).toNat), wrap64 (bt254.2 + bt254.1))) else (none)) else (none)) else (none))))))) = some (r1, r2) := h
  clear h
  replace H := Option.bind_eq_some_iff.mp H
  obtain ⟨⟨t254, t255⟩, A30, H⟩ := H
  replace H : (if t255 = 0 then (some ((⟨#[]⟩ : ByteArray), 0)) else (if t254 < 0 then (some ((⟨#[]⟩ : ByteArray), 0)) else (if t254 > a1 then (some ((⟨#[]⟩ : ByteArray), 0)) else (if t254 > (wrap64 ((l0.length : Int) - t255)) then (some ((⟨#[]⟩ : ByteArray), 0)) else (if 0 ≤ t255 then (if t255 ≤ (wrap64 (t255 + t254)) then (if (wrap64 (t255 + t254)) ≤ (l0.length : Int) then (some (strOfNums ((l0.take ((wrap64 (t255 + t254)) : Int).toNat).drop (t255 : Int).toNat), wrap64 (t255 + t254))) else (none)) else (none)) else (none)))))) = some (r1, r2) := H
  have A3 := Aside0.mk A30
  clear A30
  by_cases c4 : t255 = 0
  · rw [if_pos c4] at H
    have c4b0 : (t255 == 0) = true := beq_iff_eq.mpr c4
    have c4b1 : (t255 != 0) = false := bne_eq_false_iff_eq.mpr c4
    clear c4
    simp only [Option.some.injEq, Prod.mk.injEq] at H
    obtain ⟨rfl, rfl⟩ := H
    go_enter Try.func48, Try.ntmps48
    go_wp2_with (first | ((with_reducible refine gate_callee (f := 47) rfl ?_); refine goesL_ (some 10) rfl rfl Try.func47 (by kernel_rfl) rfl #[.slice A0 l0.length c0] rfl (by (try simp only [List.map_toArray, List.map_cons, List.map_nil]); first | done | rfl | (simp only [List.length_drop, List.length_take]; rfl)) ?_; (with_reducible refine (bordereauref1_Get.calls k _ _ l0 t254 t255 _ ?side1 ?side2 A3.out).mono ?_); (case side1 => repeat (first | exact HR0.out | (with_reducible refine Kd.C_alloc ?_ _) | (with_reducible refine Kd.C_drewN ?_ _) | (with_reducible refine Kd.C_drew ?_))); (case side2 => exact HC0.out); rintro e w5 ⟨rfl, hb⟩; refine ⟨_, rfl, ?_⟩; have n0_ := Aside0.mk (below_step (by repeat (first | (with_reducible first | exact HB.out | apply below_alloc | apply pw_below_drewN | apply below_drew1) | exact HB.out)) hb); clear HB; have HB := n0_; clear n0_; (try clear hb); (try clear hb2); (try clear hk); (try clear hi)))
    go_ret2
    exact ⟨by first | rfl | (simp [errW_none, errW_some] <;> rfl) | (simp [*, errW_none, errW_some] <;> rfl), by repeat (first | (with_reducible first | exact HB.out | apply below_alloc | apply pw_below_drewN | apply below_drew1) | exact HB.out)⟩
  · rw [if_neg c4] at H
    have c4b0 : (t255 == 0) = false := beq_eq_false_iff_ne.mpr c4
    have c4b1 : (t255 != 0) = true := bne_iff_ne.mpr c4
    by_cases c6 : t254 < 0
    · rw [if_pos c6] at H
      have c6b0 : decide (t254 < 0) = true := decide_eq_true c6
      clear c6
      simp only [Option.some.injEq, Prod.mk.injEq] at H
      obtain ⟨rfl, rfl⟩ := H
      go_enter Try.func48, Try.ntmps48
      go_wp2_with (first | ((with_reducible refine gate_callee (f := 47) rfl ?_); refine goesL_ (some 10) rfl rfl Try.func47 (by kernel_rfl) rfl #[.slice A0 l0.length c0] rfl (by (try simp only [List.map_toArray, List.map_cons, List.map_nil]); first | done | rfl | (simp only [List.length_drop, List.length_take]; rfl)) ?_; (with_reducible refine (bordereauref1_Get.calls k _ _ l0 t254 t255 _ ?side1 ?side2 A3.out).mono ?_); (case side1 => repeat (first | exact HR0.out | (with_reducible refine Kd.C_alloc ?_ _) | (with_reducible refine Kd.C_drewN ?_ _) | (with_reducible refine Kd.C_drew ?_))); (case side2 => exact HC0.out); rintro e w7 ⟨rfl, hb⟩; refine ⟨_, rfl, ?_⟩; have n0_ := Aside0.mk (below_step (by repeat (first | (with_reducible first | exact HB.out | apply below_alloc | apply pw_below_drewN | apply below_drew1) | exact HB.out)) hb); clear HB; have HB := n0_; clear n0_; (try clear hb); (try clear hb2); (try clear hk); (try clear hi)))
      go_ret2
      exact ⟨by first | rfl | (simp [errW_none, errW_some] <;> rfl) | (simp [*, errW_none, errW_some] <;> rfl), by repeat (first | (with_reducible first | exact HB.out | apply below_alloc | apply pw_below_drewN | apply below_drew1) | exact HB.out)⟩
    · rw [if_neg c6] at H
      have c6b0 : decide (t254 < 0) = false := decide_eq_false c6
      clear c6
      by_cases c8 : t254 > a1
      · rw [if_pos c8] at H
        have c8b0 : decide (a1 < t254) = true := decide_eq_true c8
        clear c8
        simp only [Option.some.injEq, Prod.mk.injEq] at H
        obtain ⟨rfl, rfl⟩ := H
        go_enter Try.func48, Try.ntmps48
        go_wp2_with (first | ((with_reducible refine gate_callee (f := 47) rfl ?_); refine goesL_ (some 10) rfl rfl Try.func47 (by kernel_rfl) rfl #[.slice A0 l0.length c0] rfl (by (try simp only [List.map_toArray, List.map_cons, List.map_nil]); first | done | rfl | (simp only [List.length_drop, List.length_take]; rfl)) ?_; (with_reducible refine (bordereauref1_Get.calls k _ _ l0 t254 t255 _ ?side1 ?side2 A3.out).mono ?_); (case side1 => repeat (first | exact HR0.out | (with_reducible refine Kd.C_alloc ?_ _) | (with_reducible refine Kd.C_drewN ?_ _) | (with_reducible refine Kd.C_drew ?_))); (case side2 => exact HC0.out); rintro e w9 ⟨rfl, hb⟩; refine ⟨_, rfl, ?_⟩; have n0_ := Aside0.mk (below_step (by repeat (first | (with_reducible first | exact HB.out | apply below_alloc | apply pw_below_drewN | apply below_drew1) | exact HB.out)) hb); clear HB; have HB := n0_; clear n0_; (try clear hb); (try clear hb2); (try clear hk); (try clear hi)))
        go_ret2
        exact ⟨by first | rfl | (simp [errW_none, errW_some] <;> rfl) | (simp [*, errW_none, errW_some] <;> rfl), by repeat (first | (with_reducible first | exact HB.out | apply below_alloc | apply pw_below_drewN | apply below_drew1) | exact HB.out)⟩
      · rw [if_neg c8] at H
        have c8b0 : decide (a1 < t254) = false := decide_eq_false c8
        clear c8
        by_cases c10 : t254 > (wrap64 ((l0.length : Int) - t255))
        · rw [if_pos c10] at H
          have c10b0 : decide ((wrap64 ((l0.length : Int) - t255)) < t254) = true := decide_eq_true c10
          clear c10
          simp only [Option.some.injEq, Prod.mk.injEq] at H
          obtain ⟨rfl, rfl⟩ := H
          go_enter Try.func48, Try.ntmps48
          go_wp2_with (first | ((with_reducible refine gate_callee (f := 47) rfl ?_); refine goesL_ (some 10) rfl rfl Try.func47 (by kernel_rfl) rfl #[.slice A0 l0.length c0] rfl (by (try simp only [List.map_toArray, List.map_cons, List.map_nil]); first | done | rfl | (simp only [List.length_drop, List.length_take]; rfl)) ?_; (with_reducible refine (bordereauref1_Get.calls k _ _ l0 t254 t255 _ ?side1 ?side2 A3.out).mono ?_); (case side1 => repeat (first | exact HR0.out | (with_reducible refine Kd.C_alloc ?_ _) | (with_reducible refine Kd.C_drewN ?_ _) | (with_reducible refine Kd.C_drew ?_))); (case side2 => exact HC0.out); rintro e w11 ⟨rfl, hb⟩; refine ⟨_, rfl, ?_⟩; have n0_ := Aside0.mk (below_step (by repeat (first | (with_reducible first | exact HB.out | apply below_alloc | apply pw_below_drewN | apply below_drew1) | exact HB.out)) hb); clear HB; have HB := n0_; clear n0_; (try clear hb); (try clear hb2); (try clear hk); (try clear hi)))
          go_ret2
          exact ⟨by first | rfl | (simp [errW_none, errW_some] <;> rfl) | (simp [*, errW_none, errW_some] <;> rfl), by repeat (first | (with_reducible first | exact HB.out | apply below_alloc | apply pw_below_drewN | apply below_drew1) | exact HB.out)⟩
        · rw [if_neg c10] at H
          have c10b0 : decide ((wrap64 ((l0.length : Int) - t255)) < t254) = false := decide_eq_false c10
          clear c10
          by_cases c12 : 0 ≤ t255
          · rw [if_pos c12] at H
            have c12b0 := eq_true c12
            have c12b1 : decide (0 ≤ t255) = true := decide_eq_true c12
            clear c12
            by_cases c13 : t255 ≤ (wrap64 (t255 + t254))
            · rw [if_pos c13] at H
              have c13b0 := eq_true c13
              have c13b1 : decide (t255 ≤ (wrap64 (t255 + t254))) = true := decide_eq_true c13
              by_cases c14 : (wrap64 (t255 + t254)) ≤ (l0.length : Int)
              · rw [if_pos c14] at H
                have c14b0 := eq_true c14
                have c14b1 : decide ((wrap64 (t255 + t254)) ≤ (l0.length : Int)) = true := decide_eq_true c14
                obtain ⟨y256, hy256⟩ : ∃ y_ : List Int, y_ = ((l0.take ((wrap64 (t255 + t254)) : Int).toNat).drop (t255 : Int).toNat) := ⟨_, rfl⟩
                replace H : (some (strOfNums y256, wrap64 (t255 + t254))) = some (r1, r2) := by first | (rw [hy256]; with_reducible exact H) | (have H2_ := (Option.bind_some _ _).symm.trans H; rw [hy256]; with_reducible exact H2_) | (have H2_ := (Option.bind_some _ _).symm.trans H; with_reducible exact H2_) | with_reducible exact H | (rw [hy256]; exact H) | exact H
                have Ny256 := Aside0.mk hy256
                clear hy256
                simp only [Option.some.injEq, Prod.mk.injEq] at H
                obtain ⟨rfl, rfl⟩ := H
                go_enter Try.func48, Try.ntmps48
                go_wp2_with (first | ((with_reducible refine gate_callee (f := 47) rfl ?_); refine goesL_ (some 10) rfl rfl Try.func47 (by kernel_rfl) rfl #[.slice A0 l0.length c0] rfl (by (try simp only [List.map_toArray, List.map_cons, List.map_nil]); first | done | rfl | (simp only [List.length_drop, List.length_take]; rfl)) ?_; (with_reducible refine (bordereauref1_Get.calls k _ _ l0 t254 t255 _ ?side1 ?side2 A3.out).mono ?_); (case side1 => repeat (first | exact HR0.out | (with_reducible refine Kd.C_alloc ?_ _) | (with_reducible refine Kd.C_drewN ?_ _) | (with_reducible refine Kd.C_drew ?_))); (case side2 => exact HC0.out); rintro e w15 ⟨rfl, hb⟩; refine ⟨_, rfl, ?_⟩; have n0_ := Aside0.mk (below_step (by repeat (first | (with_reducible first | exact HB.out | apply below_alloc | apply pw_below_drewN | apply below_drew1) | exact HB.out)) hb); clear HB; have HB := n0_; clear n0_; (try clear hb); (try clear hb2); (try clear hk); (try clear hi); have q16 : ((wrap64 (t255 + t254)) : Int) ≤ ((l0.length : Int) : Int) := of_decide_eq_true (by first | (with_reducible assumption) | assumption); obtain ⟨i016, hi016, _, hsz16, _⟩ := info_parts info5; have hroom16 : l0.length ≤ c0 := HC0.out; have hC16 : Kd.C (Kd.int .u8) _ A0 l0.length l0 := HR0.out; have ql16 : (t255 : Int) ≤ ((wrap64 (t255 + t254)) : Int) := of_decide_eq_true (by first | (with_reducible assumption) | assumption); have q016 : (0 : Int) ≤ (t255 : Int) := of_decide_eq_true (by first | (with_reducible assumption) | assumption); have hcut16 := cut_mid (P := Try.prog) 29 5 .i64 .i64 Try.underlying29 hi016 1 hsz16 A0 l0.length c0 t255 (wrap64 (t255 + t254)) q016 ql16 q16 hroom16; have hr16 := Kd.C_mid (lo := (t255 : Int).toNat) (hi := ((wrap64 (t255 + t254)) : Int).toNat) (c := c0) hC16 (by omega) (by omega) hroom16; obtain ⟨A16, hA16⟩ : ∃ A1, A1 = (if c0 = (t255 : Int).toNat then A0 else (A0 : Option Addr).map (·.add ((t255 : Int).toNat * 1))) := ⟨_, rfl⟩; obtain ⟨c16, hc16⟩ : ∃ c1, c1 = c0 - (t255 : Int).toNat := ⟨_, rfl⟩; have hy16 : y256.length = ((wrap64 (t255 + t254)) : Int).toNat - (t255 : Int).toNat := (by rw [Ny256.out, List.length_drop, List.length_take] <;> omega); rw [show ((l0).take ((wrap64 (t255 + t254)) : Int).toNat).drop (t255 : Int).toNat = y256 from Ny256.out.symm] at hr16; replace hr16 : Kd.C (Kd.int .u8) _ A16 y256.length y256 := (by rw [hA16]; exact hr16); rw [← hy16, ← hA16, ← hc16] at hcut16; have HR259 := Aside0.mk hr16; have HC259 := Aside0.mk (show y256.length ≤ c16 from by rw [hy16, hc16]; exact Nat.sub_le_sub_right (Nat.le_trans (by omega) hroom16) _); clear hr16 hC16 hroom16 hi016 hsz16 hc16; have KY16 := Aside0.mk hy16; have KA16 := Aside0.mk hA16; clear hy16 hA16; replace q16 := eq_true q16; have hcv17 := Kd.C_string (P := Try.prog) (A := A16) (c := c16) Try.underlying29 Try.underlying5 Try.underlying9 (Kd.C_below HR259.out HB.out); have hcv18 := fun (m_ : Nat) => Kd.C_string (P := Try.prog) (A := A16) (c := c16) Try.underlying29 Try.underlying5 Try.underlying9 (Kd.C_drewN ((Kd.C_below HR259.out HB.out)) m_)))
                go_ret2
                exact ⟨by first | rfl | (simp [errW_none, errW_some] <;> rfl) | (simp [*, errW_none, errW_some] <;> rfl), by repeat (first | (with_reducible first | exact HB.out | apply below_alloc | apply pw_below_drewN | apply below_drew1) | exact HB.out)⟩
              · rw [if_neg c14] at H
                exact absurd H (by simp)
            · rw [if_neg c13] at H
              exact absurd H (by simp)
          · rw [if_neg c12] at H
            exact absurd H (by simp)

end Go.Proofs.Ytddgichochdgcaa.PM
