-- Written by a program of this session (wip/print/myprint.sh).
import Derived.Test.YtddgichochdgcaaPTx0
import Derived.Test.YtddgichochdgcaaPTx1
namespace Go.Proofs.Ytddgichochdgcaa.PT
open Go.RowKit Go.Proofs.YtddgichochdgcaaV.PrintWords Go.Proofs.YtddgichochdgcaaV.PrintLast Go.Proofs.YtddgichochdgcaaV.PrintMore
attribute [local go_sem] max2_int min2_int max_two min_two max_three min_three max_four min_four   -- for this text's walks alone
set_option linter.unusedVariables false
set_option linter.unusedSimpArgs false

/-! ### bordereaulaw1_CrcTurns: function 7 -/
mutual
def bordereaulaw1_CrcTurns.l0 : Nat → Int → List Int → Int → List Int → Int → Option (Bool)
  | 0, _, _, _, _, _ => none
  | k + 1, x2, x7, x8, x9, x10 => if x10 < 4 then (if 0 ≤ (wrap64 ((wrap64 (4 + x8)) + x10)) then (if (wrap64 ((wrap64 (4 + x8)) + x10)) < (x9.length : Int) then (if 0 ≤ (IntKind.u64.wrap (wrap64 (8 * x10))) then (bordereaulaw1_CrcTurns.l0 k x2 x7 x8 (x9.set ((wrap64 ((wrap64 (4 + x8)) + x10)) : Int).toNat (Go.bits .xor .u8 (rd x9 (wrap64 ((wrap64 (4 + x8)) + x10))) ((shr .u32 x2 (IntKind.u64.wrap (wrap64 (8 * x10)))) % 256))) (wrap64 (x10 + 1))) else (none)) else (none)) else (none)) else ((crc_Check.f k x9).bind fun bt149 => (if (bt149.2 == (x2 == 0)) = true then (if 4 ≤ (x9.length : Int) then ((crc_Of.f k (x9.drop 4)).bind fun t157 => ((crc_Of.f k x7).bind fun t158 => (if ((t157 == t158) == (x2 == 0)) = true then ((bordereaulaw1_known.f k).bind fun t159 => (some t159)) else (none)))) else (none)) else (none)))
def bordereaulaw1_CrcTurns.l100 : Nat → Int → List Int → Int → List Int → Int → Option (Bool)
  | 0, _, _, _, _, _ => none
  | k + 1, x2, x7, x8, x9, x10 => if x10 < 4 then (if 0 ≤ (wrap64 ((wrap64 (4 + x8)) + x10)) then (if (wrap64 ((wrap64 (4 + x8)) + x10)) < (x9.length : Int) then (if 0 ≤ (IntKind.u64.wrap (wrap64 (8 * x10))) then (bordereaulaw1_CrcTurns.l100 k x2 x7 x8 (x9.set ((wrap64 ((wrap64 (4 + x8)) + x10)) : Int).toNat (Go.bits .xor .u8 (rd x9 (wrap64 ((wrap64 (4 + x8)) + x10))) ((shr .u32 x2 (IntKind.u64.wrap (wrap64 (8 * x10)))) % 256))) (wrap64 (x10 + 1))) else (none)) else (none)) else (none)) else ((crc_Check.f k x9).bind fun bt177 => (if (bt177.2 == (x2 == 0)) = true then (if 4 ≤ (x9.length : Int) then ((crc_Of.f k (x9.drop 4)).bind fun t185 => ((crc_Of.f k x7).bind fun t186 => (if ((t185 == t186) == (x2 == 0)) = true then ((bordereaulaw1_known.f k).bind fun t187 => (some t187)) else (none)))) else (none)) else (none)))
end
def bordereaulaw1_CrcTurns.f (k : Nat) (l0 : List Int) (a1 : Int) (a2 : Int) : Option (Bool) := if (l0.length : Int) > 200 then (if 200 ≤ (l0.length : Int) then ((some (l0.take 200 : List Int)).bind fun y128 => ((some (([] : List Int) : List Int)).bind fun y132 => (if y132.length + y128.length < 140737488355328 then ((some (y132 ++ y128 : List Int)).bind fun y135 => ((some (([1, 2, 3, 4] : List Int) : List Int)).bind fun y138 => (if y135.length + y138.length < 140737488355328 then ((some (y135 ++ y138 : List Int)).bind fun y141 => (if (wrap64 ((y141.length : Int) - 3)) = 0 then (none) else ((crc_Put.f k y141).bind fun t144 => (if (t144.length : Int) = (wrap64 ((y141.length : Int) + 4)) then (bordereaulaw1_CrcTurns.l0 k a2 y141 (Int.tmod (wrap64 ((wrap64 ((Int.tmod a1 (wrap64 ((y141.length : Int) - 3))) + (y141.length : Int))) - 3)) (wrap64 ((y141.length : Int) - 3))) t144 0) else (none))))) else (none)))) else (none)))) else (none)) else ((some (([] : List Int) : List Int)).bind fun y160 => (if y160.length + l0.length < 140737488355328 then ((some (y160 ++ l0 : List Int)).bind fun y163 => ((some (([1, 2, 3, 4] : List Int) : List Int)).bind fun y166 => (if y163.length + y166.length < 140737488355328 then ((some (y163 ++ y166 : List Int)).bind fun y169 => (if (wrap64 ((y169.length : Int) - 3)) = 0 then (none) else ((crc_Put.f k y169).bind fun t172 => (if (t172.length : Int) = (wrap64 ((y169.length : Int) + 4)) then (bordereaulaw1_CrcTurns.l100 k a2 y169 (Int.tmod (wrap64 ((wrap64 ((Int.tmod a1 (wrap64 ((y169.length : Int) - 3))) + (y169.length : Int))) - 3)) (wrap64 ((y169.length : Int) - 3))) t172 0) else (none))))) else (none)))) else (none)))
theorem bordereaulaw1_CrcTurns.mono_l : ∀ k, (∀ y0 y1 y2 y3 y4, LeO (bordereaulaw1_CrcTurns.l0 k y0 y1 y2 y3 y4) (bordereaulaw1_CrcTurns.l0 (k + 1) y0 y1 y2 y3 y4)) ∧ (∀ y0 y1 y2 y3 y4, LeO (bordereaulaw1_CrcTurns.l100 k y0 y1 y2 y3 y4) (bordereaulaw1_CrcTurns.l100 (k + 1) y0 y1 y2 y3 y4))
  | 0 => ⟨fun _ _ _ _ _ r h => by simp [bordereaulaw1_CrcTurns.l0] at h, fun _ _ _ _ _ r h => by simp [bordereaulaw1_CrcTurns.l100] at h⟩
  | k + 1 => by
    obtain ⟨ih0, ih1⟩ := bordereaulaw1_CrcTurns.mono_l k
    refine ⟨?_, ?_⟩
    · intro y0 y1 y2 y3 y4
      unfold bordereaulaw1_CrcTurns.l0
      repeat' first
      | (with_reducible exact ih0 _ _ _ _ _)
      | (with_reducible exact ih1 _ _ _ _ _)
      | (with_reducible exact bordereaulaw1_known.mono _)
      | (with_reducible exact crc_Check.mono _ _)
      | (with_reducible exact crc_Of.mono _ _)
      | (with_reducible exact crc_Put.mono _ _)
      | (with_reducible exact LeO.refl _)
      | (with_reducible exact LeO.none _)
      | (with_reducible refine LeO.ite ?_ ?_)
      | (with_reducible refine LeO.bind ?_ (fun _ => ?_))
      | exact ih0 _ _ _ _ _
      | exact ih1 _ _ _ _ _
      | exact bordereaulaw1_known.mono _
      | exact crc_Check.mono _ _
      | exact crc_Of.mono _ _
      | exact crc_Put.mono _ _
      | exact LeO.none _
      | refine LeO.ite ?_ ?_
      | refine LeO.bind ?_ (fun _ => ?_)
    · intro y0 y1 y2 y3 y4
      unfold bordereaulaw1_CrcTurns.l100
      repeat' first
      | (with_reducible exact ih0 _ _ _ _ _)
      | (with_reducible exact ih1 _ _ _ _ _)
      | (with_reducible exact bordereaulaw1_known.mono _)
      | (with_reducible exact crc_Check.mono _ _)
      | (with_reducible exact crc_Of.mono _ _)
      | (with_reducible exact crc_Put.mono _ _)
      | (with_reducible exact LeO.refl _)
      | (with_reducible exact LeO.none _)
      | (with_reducible refine LeO.ite ?_ ?_)
      | (with_reducible refine LeO.bind ?_ (fun _ => ?_))
      | exact ih0 _ _ _ _ _
      | exact ih1 _ _ _ _ _
      | exact bordereaulaw1_known.mono _
      | exact crc_Check.mono _ _
      | exact crc_Of.mono _ _
      | exact crc_Put.mono _ _
      | exact LeO.none _
      | refine LeO.ite ?_ ?_
      | refine LeO.bind ?_ (fun _ => ?_)
theorem bordereaulaw1_CrcTurns.mono : ∀ a0 a1 a2 k, LeO (bordereaulaw1_CrcTurns.f k a0 a1 a2) (bordereaulaw1_CrcTurns.f (k + 1) a0 a1 a2) := by
  intro a0 a1 a2 k
  obtain ⟨ih0, ih1⟩ := bordereaulaw1_CrcTurns.mono_l k
  unfold bordereaulaw1_CrcTurns.f
  repeat' first
      | (with_reducible exact ih0 _ _ _ _ _)
      | (with_reducible exact ih1 _ _ _ _ _)
      | (with_reducible exact bordereaulaw1_known.mono _)
      | (with_reducible exact crc_Check.mono _ _)
      | (with_reducible exact crc_Of.mono _ _)
      | (with_reducible exact crc_Put.mono _ _)
      | (with_reducible exact LeO.refl _)
      | (with_reducible exact LeO.none _)
      | (with_reducible refine LeO.ite ?_ ?_)
      | (with_reducible refine LeO.bind ?_ (fun _ => ?_))
      | exact ih0 _ _ _ _ _
      | exact ih1 _ _ _ _ _
      | exact bordereaulaw1_known.mono _
      | exact crc_Check.mono _ _
      | exact crc_Of.mono _ _
      | exact crc_Put.mono _ _
      | exact LeO.none _
      | refine LeO.ite ?_ ?_
      | refine LeO.bind ?_ (fun _ => ?_)
set_option maxHeartbeats 8000000 in
set_option maxRecDepth 100000 in
theorem bordereaulaw1_CrcTurns.calls (k : Nat) (A0 : Option Addr) (c0 : Nat) (l0 : List Int) (a1 : Int) (a2 : Int) (r : Bool) (w : World) (hr0 : Kd.C (Kd.int .u8) w A0 l0.length l0) (hc0 : l0.length ≤ c0) (h : bordereaulaw1_CrcTurns.f k l0 a1 a2 = some r) :
    Calls Try.prog 7 #[.slice A0 l0.length c0, .int .i64 a1, .int .u32 a2] w fun e w' => e = .returned (.bool r) ∧ Below w.heap.size w w' := by
  have HR0 := Aside0.mk hr0
  have HC0 := Aside0.mk hc0
  clear hr0 hc0
  have HB := Aside0.mk (Below.refl w.heap.size w)
  have H : (if (l0.length : Int) > 200 then (if 200 ≤ (l0.length : Int) then ((some (l0.take 200 : List Int)).bind fun y128 => ((some (([] : List Int) : List Int)).bind fun y132 => (if y132.length + y128.length < 140737488355328 then ((some (y132 ++ y128 : List Int)).bind fun y135 => ((some (([1, 2, 3, 4] : List Int) : List Int)).bind fun y138 => (if y135.length + y138.length < 140737488355328 then ((some (y135 ++ y138 : List Int)).bind fun y141 => (if (wrap64 ((y141.length : Int) - 3)) = 0 then (none) else ((crc_Put.f k y141).bind fun t144 => (if (t144.length : Int) = (wrap64 ((y141.length : Int) + 4)) then (bordereaulaw1_CrcTurns.l0 k a2 y141 (Int.tmod (wrap64 ((wrap64 ((Int.tmod a1 (wrap64 ((y141.length : Int) - 3))) + (y141.length : Int))) - 3)) (wrap64 ((y141.length : Int) - 3))) t144 0) else (none))))) else (none)))) else (none)))) else (none)) else ((some (([] : List Int) : List Int)).bind fun y160 => (if y160.length + l0.length < 140737488355328 then ((some (y160 ++ l0 : List Int)).bind fun y163 => ((some (([1, 2, 3, 4] : List Int) : List Int)).bind fun y166 => (if y163.length + y166.length < 140737488355328 then ((some (y163 ++ y166 : List Int)).bind fun y169 => (if (wrap64 ((y169.length : Int) - 3)) = 0 then (none) else ((crc_Put.f k y169).bind fun t172 => (if (t172.length : Int) = (wrap64 ((y169.length : Int) + 4)) then (bordereaulaw1_CrcTurns.l100 k a2 y169 (Int.tmod (wrap64 ((wrap64 ((Int.tmod a1 (wrap64 ((y169.length : Int) - 3))) + (y169.length : Int))) - 3)) (wrap64 ((y169.length : Int) - 3))) t172 0) else (none))))) else (none)))) else (none)))) = some r := h
  clear h
  by_cases c4 : (l0.length : Int) > 200
  · rw [if_pos c4] at H
    have c4b0 : decide (200 < (l0.length : Int)) = true := decide_eq_true c4
    have c4b1 : decide (200 < l0.length) = true := decide_eq_true (by omega)
    clear c4
    by_cases c5 : 200 ≤ (l0.length : Int)
    · rw [if_pos c5] at H
      have c5b0 := eq_true c5
      have c5b1 : decide (200 ≤ (l0.length : Int)) = true := decide_eq_true c5
      clear c5
      obtain ⟨y128, hy128⟩ : ∃ y_ : List Int, y_ = (l0.take 200) := ⟨_, rfl⟩
      replace H : ((some (([] : List Int) : List Int)).bind fun y132 => (if y132.length + y128.length < 140737488355328 then ((some (y132 ++ y128 : List Int)).bind fun y135 => ((some (([1, 2, 3, 4] : List Int) : List Int)).bind fun y138 => (if y135.length + y138.length < 140737488355328 then ((some (y135 ++ y138 : List Int)).bind fun y141 => (if (wrap64 ((y141.length : Int) - 3)) = 0 then (none) else ((crc_Put.f k y141).bind fun t144 => (if (t144.length : Int) = (wrap64 ((y141.length : Int) + 4)) then (bordereaulaw1_CrcTurns.l0 k a2 y141 (Int.tmod (wrap64 ((wrap64 ((Int.tmod a1 (wrap64 ((y141.length : Int) - 3))) + (y141.length : Int))) - 3)) (wrap64 ((y141.length : Int) - 3))) t144 0) else (none))))) else (none)))) else (none))) = some r := by first | (rw [hy128]; with_reducible exact H) | (have H2_ := (Option.bind_some _ _).symm.trans H; rw [hy128]; with_reducible exact H2_) | (have H2_ := (Option.bind_some _ _).symm.trans H; with_reducible exact H2_) | with_reducible exact H | (rw [hy128]; exact H) | exact H
      have Ny128 := Aside0.mk hy128
      clear hy128
      obtain ⟨y132, hy132⟩ : ∃ y_ : List Int, y_ = (([] : List Int)) := ⟨_, rfl⟩
      replace H : (if y132.length + y128.length < 140737488355328 then ((some (y132 ++ y128 : List Int)).bind fun y135 => ((some (([1, 2, 3, 4] : List Int) : List Int)).bind fun y138 => (if y135.length + y138.length < 140737488355328 then ((some (y135 ++ y138 : List Int)).bind fun y141 => (if (wrap64 ((y141.length : Int) - 3)) = 0 then (none) else ((crc_Put.f k y141).bind fun t144 => (if (t144.length : Int) = (wrap64 ((y141.length : Int) + 4)) then (bordereaulaw1_CrcTurns.l0 k a2 y141 (Int.tmod (wrap64 ((wrap64 ((Int.tmod a1 (wrap64 ((y141.length : Int) - 3))) + (y141.length : Int))) - 3)) (wrap64 ((y141.length : Int) - 3))) t144 0) else (none))))) else (none)))) else (none)) = some r := by first | (rw [hy132]; with_reducible exact H) | (have H2_ := (Option.bind_some _ _).symm.trans H; rw [hy132]; with_reducible exact H2_) | (have H2_ := (Option.bind_some _ _).symm.trans H; with_reducible exact H2_) | with_reducible exact H | (rw [hy132]; exact H) | exact H
      have Ny132 := Aside0.mk hy132
      clear hy132
      by_cases c6 : y132.length + y128.length < 140737488355328
      · rw [if_pos c6] at H
        have LMc6 := Aside0.mk c6
        clear c6
        obtain ⟨y135, hy135⟩ : ∃ y_ : List Int, y_ = (y132 ++ y128) := ⟨_, rfl⟩
        replace H : ((some (([1, 2, 3, 4] : List Int) : List Int)).bind fun y138 => (if y135.length + y138.length < 140737488355328 then ((some (y135 ++ y138 : List Int)).bind fun y141 => (if (wrap64 ((y141.length : Int) - 3)) = 0 then (none) else ((crc_Put.f k y141).bind fun t144 => (if (t144.length : Int) = (wrap64 ((y141.length : Int) + 4)) then (bordereaulaw1_CrcTurns.l0 k a2 y141 (Int.tmod (wrap64 ((wrap64 ((Int.tmod a1 (wrap64 ((y141.length : Int) - 3))) + (y141.length : Int))) - 3)) (wrap64 ((y141.length : Int) - 3))) t144 0) else (none))))) else (none))) = some r := by first | (rw [hy135]; with_reducible exact H) | (have H2_ := (Option.bind_some _ _).symm.trans H; rw [hy135]; with_reducible exact H2_) | (have H2_ := (Option.bind_some _ _).symm.trans H; with_reducible exact H2_) | with_reducible exact H | (rw [hy135]; exact H) | exact H
        have Ny135 := Aside0.mk hy135
        clear hy135
        obtain ⟨y138, hy138⟩ : ∃ y_ : List Int, y_ = (([1, 2, 3, 4] : List Int)) := ⟨_, rfl⟩
        replace H : (if y135.length + y138.length < 140737488355328 then ((some (y135 ++ y138 : List Int)).bind fun y141 => (if (wrap64 ((y141.length : Int) - 3)) = 0 then (none) else ((crc_Put.f k y141).bind fun t144 => (if (t144.length : Int) = (wrap64 ((y141.length : Int) + 4)) then (bordereaulaw1_CrcTurns.l0 k a2 y141 (Int.tmod (wrap64 ((wrap64 ((Int.tmod a1 (wrap64 ((y141.length : Int) - 3))) + (y141.length : Int))) - 3)) (wrap64 ((y141.length : Int) - 3))) t144 0) else (none))))) else (none)) = some r := by first | (rw [hy138]; with_reducible exact H) | (have H2_ := (Option.bind_some _ _).symm.trans H; rw [hy138]; with_reducible exact H2_) | (have H2_ := (Option.bind_some _ _).symm.trans H; with_reducible exact H2_) | with_reducible exact H | (rw [hy138]; exact H) | exact H
        have Ny138 := Aside0.mk hy138
        clear hy138
        by_cases c7 : y135.length + y138.length < 140737488355328
        · rw [if_pos c7] at H
          have LMc7 := Aside0.mk c7
          clear c7
          obtain ⟨y141, hy141⟩ : ∃ y_ : List Int, y_ = (y135 ++ y138) := ⟨_, rfl⟩
          replace H : (if (wrap64 ((y141.length : Int) - 3)) = 0 then (none) else ((crc_Put.f k y141).bind fun t144 => (if (t144.length : Int) = (wrap64 ((y141.length : Int) + 4)) then (bordereaulaw1_CrcTurns.l0 k a2 y141 (Int.tmod (wrap64 ((wrap64 ((Int.tmod a1 (wrap64 ((y141.length : Int) - 3))) + (y141.length : Int))) - 3)) (wrap64 ((y141.length : Int) - 3))) t144 0) else (none)))) = some r := by first | (rw [hy141]; with_reducible exact H) | (have H2_ := (Option.bind_some _ _).symm.trans H; rw [hy141]; with_reducible exact H2_) | (have H2_ := (Option.bind_some _ _).symm.trans H; with_reducible exact H2_) | with_reducible exact H | (rw [hy141]; exact H) | exact H
          have Ny141 := Aside0.mk hy141
          clear hy141
          by_cases c8 : (wrap64 ((y141.length : Int) - 3)) = 0
          · rw [if_pos c8] at H
            exact absurd H (by simp)
          · rw [if_neg c8] at H
            have c8b0 : ((wrap64 ((y141.length : Int) - 3)) == 0) = false := beq_eq_false_iff_ne.mpr c8
            have c8b1 : ((wrap64 ((y141.length : Int) - 3)) != 0) = true := bne_iff_ne.mpr c8
            replace H := Option.bind_eq_some_iff.mp H
            obtain ⟨t144, A90, H⟩ := H
            replace H : (if (t144.length : Int) = (wrap64 ((y141.length : Int) + 4)) then (bordereaulaw1_CrcTurns.l0 k a2 y141 (Int.tmod (wrap64 ((wrap64 ((Int.tmod a1 (wrap64 ((y141.length : Int) - 3))) + (y141.length : Int))) - 3)) (wrap64 ((y141.length : Int) - 3))) t144 0) else (none)) = some r := H
            have A9 := Aside0.mk A90
            clear A90
            by_cases c10 : (t144.length : Int) = (wrap64 ((y141.length : Int) + 4))
            · rw [if_pos c10] at H
              have c10b0 : ((t144.length : Int) == (wrap64 ((y141.length : Int) + 4))) = true := beq_iff_eq.mpr c10
              have c10b1 : ((t144.length : Int) != (wrap64 ((y141.length : Int) + 4))) = false := bne_eq_false_iff_eq.mpr c10
              clear c10
              have H' := Aside0.mk H
              clear H
              have q11 : (200 : Int) ≤ ((l0.length : Int) : Int) := of_decide_eq_true (by first | (with_reducible assumption) | assumption)
              obtain ⟨i011, hi011, _, hsz11, _⟩ := info_parts info5
              have hroom11 : l0.length ≤ c0 := HC0.out
              have hC11 : Kd.C (Kd.int .u8) _ A0 l0.length l0 := HR0.out
              have hcut11 := cut_to (P := Try.prog) 29 5 .i64 Try.underlying29 hi011 A0 l0.length c0 200 (by omega) q11 hroom11
              have hr11 := Kd.C_take (m := 200) hC11 (by omega)
              have hy11 : y128.length = (200 : Int).toNat := (by rw [Ny128.out, List.length_take]; omega)
              rw [← Ny128.out] at hr11
              rw [← hy11] at hcut11
              have HR131 := Aside0.mk hr11
              have HC131 := Aside0.mk (show y128.length ≤ c0 from by omega)
              clear hr11 hC11 hroom11 hi011 hsz11
              have KY11 := Aside0.mk hy11
              clear hy11
              replace q11 := eq_true q11
              go_enter Try.func7, Try.ntmps7
              go_wp2_with (first | ((with_reducible refine gate_dst (N := 18) rfl ?_); refine Kd.R_lit (Kd.int .u8) _ 5 ?hg (N := 18) ?hd (xs := ([] : List Int)) (inner := []) (ok := fun _ => True) (okp := fun _ => True) ?hr ?hp (fun _ hk => hk) trivial (Below.refl _ _) (Nat.le_refl _) (by simp) ?_; (case hd => rfl); (case hg => rfl); (case hr => first | (go_simp; done) | (go_simp; rfl)); (case hp => exact (Reps.none _ _)); intro v133 w12 ho13 hb hg_ hnew_; clear hg_ hnew_; (first | rw [← Ny132.out] at ho13 | (simp only [Int.reduceToNat] at ho13; rw [← Ny132.out] at ho13)); have n0_ := Aside0.mk (Kd.R_lower ho13 (below_size (by repeat (first | (with_reducible first | exact HB.out | apply below_alloc | apply pw_below_drewN | apply below_drew1) | exact HB.out)))); have n1_ := Aside0.mk (below_step (by repeat (first | (with_reducible first | exact HB.out | apply below_alloc | apply pw_below_drewN | apply below_drew1) | exact HB.out)) hb); clear HB; have HO134 := n0_; have HB := n1_; clear n0_ n1_; clear hb ho13) | ((with_reducible refine gate_builtin (b := .append) (xs := #[.tmp 18, .tmp 19]) rfl ?_); at_builtin; refine Kd.R_append_rows (Kd.int .u8) (w0 := w) w.heap.size rfl (.tmp 18) (.tmp 19) 29 5 (.int .u8 0) 1 rfl Try.underlying29 info5 rfl (by decide) (by omega) v133 y132 y128 _ _ _ (fun _ => True) (fun _ => False) rfl rfl ?aO ?aR (fun _ _ h => h) (fun _ h => h.elim) ?aF ?aB ?aS ?aL ?_; (case aR => repeat (first | exact (Kd.C_below HR131.out HB.out) | (with_reducible refine Kd.C_alloc ?_ _) | (with_reducible refine Kd.C_drewN ?_ _) | (with_reducible refine Kd.C_drew ?_))); (case aB => exact (by repeat (first | (with_reducible first | exact HB.out | apply below_alloc | apply pw_below_drewN | apply below_drew1) | exact HB.out))); (case aF => exact (fun _ _ => trivial)); (case aO => exact (by (with_reducible repeat (first | apply Kd.R_alloc | apply Kd.R_drewN | apply Kd.R_drew)); exact HO134.out)); (case aS => exact (below_size (by repeat (first | (with_reducible first | exact HB.out | apply below_alloc | apply pw_below_drewN | apply below_drew1) | exact HB.out)))); (case aL => have := LMc6.out; omega); intro v136 w14 ho hb hg hat; rw [← Ny135.out] at ho; have n0_ := Aside0.mk (hb); have n1_ := Aside0.mk (ho); clear HB; clear HO134; have HB := n0_; have HO137 := n1_; clear n0_ n1_; clear ho hb hg hat) | ((with_reducible refine gate_dst (N := 21) rfl ?_); refine Kd.R_lit (Kd.int .u8) _ 5 ?hg (N := 21) ?hd (xs := ([1, 2, 3, 4] : List Int)) (inner := [.int .u8 1, .int .u8 2, .int .u8 3, .int .u8 4]) (ok := fun _ => True) (okp := fun _ => True) ?hr ?hp (fun _ hk => hk) trivial (Below.refl _ _) (Nat.le_refl _) (by simp) ?_; (case hd => rfl); (case hg => rfl); (case hr => first | (go_simp; done) | (go_simp; rfl)); (case hp => exact (Reps.one (show Kd.M (Kd.int .u8) _ _ _ 1 [.int .u8 1] from rfl) (Reps.one (show Kd.M (Kd.int .u8) _ _ _ 2 [.int .u8 2] from rfl) (Reps.one (show Kd.M (Kd.int .u8) _ _ _ 3 [.int .u8 3] from rfl) (Reps.one (show Kd.M (Kd.int .u8) _ _ _ 4 [.int .u8 4] from rfl) (Reps.none _ _)))))); intro v139 w15 ho16 hb hg_ hnew_; clear hg_ hnew_; (first | rw [← Ny138.out] at ho16 | (simp only [Int.reduceToNat] at ho16; rw [← Ny138.out] at ho16)); have n0_ := Aside0.mk (Kd.R_elder' (by (with_reducible repeat (first | apply Kd.R_alloc | apply Kd.R_drewN | apply Kd.R_drew)); exact HO137.out) (Kd.R_base ho16) hb); have n1_ := Aside0.mk (Kd.R_lower (Kd.R_new' ho16 (Kd.R_lt (by (with_reducible repeat (first | apply Kd.R_alloc | apply Kd.R_drewN | apply Kd.R_drew)); exact HO137.out))) (below_size (by repeat (first | (with_reducible first | exact HB.out | apply below_alloc | apply pw_below_drewN | apply below_drew1) | exact HB.out)))); have n2_ := Aside0.mk (below_step (by repeat (first | (with_reducible first | exact HB.out | apply below_alloc | apply pw_below_drewN | apply below_drew1) | exact HB.out)) hb); clear HO137; clear HB; have HO137 := n0_; have HO140 := n1_; have HB := n2_; clear n0_ n1_ n2_; clear hb ho16; obtain ⟨Ao18, co18, eo18⟩ := Kd.R_slice HO140.out; subst eo18) | ((with_reducible refine gate_builtin (b := .append) (xs := #[.tmp 20, .tmp 21]) rfl ?_); at_builtin; refine Kd.R_append_rows (Kd.int .u8) (w0 := w) w.heap.size rfl (.tmp 20) (.tmp 21) 29 5 (.int .u8 0) 1 rfl Try.underlying29 info5 rfl (by decide) (by omega) v136 y135 y138 _ _ _ (fun k_ => some k_ ≠ (.slice Ao18 y138.length co18 : Value).ownBlock) (fun _ => False) rfl rfl ?aO ?aR (fun _ _ h => h) (fun _ h => h.elim) ?aF ?aB ?aS ?aL ?_; (case aR => repeat (first | exact (Kd.R_reads' HO140.out).2.2 | (with_reducible refine Kd.C_alloc ?_ _) | (with_reducible refine Kd.C_drewN ?_ _) | (with_reducible refine Kd.C_drew ?_))); (case aB => exact (by repeat (first | (with_reducible first | exact HB.out | apply below_alloc | apply pw_below_drewN | apply below_drew1) | exact HB.out))); (case aF => exact (fun k_ hk => Kd.fresh' (Kd.R_lt (by (with_reducible repeat (first | apply Kd.R_alloc | apply Kd.R_drewN | apply Kd.R_drew)); exact HO140.out)) k_ hk)); (case aO => exact (by (with_reducible repeat (first | apply Kd.R_alloc | apply Kd.R_drewN | apply Kd.R_drew)); exact Kd.R_mono HO137.out (fun _ hk => hk.2))); (case aS => exact (below_size (by repeat (first | (with_reducible first | exact HB.out | apply below_alloc | apply pw_below_drewN | apply below_drew1) | exact HB.out)))); (case aL => have := LMc7.out; omega); intro v142 w17 ho hb hg hat; rw [← Ny141.out] at ho; have n0_ := Aside0.mk (Kd.R_after (ok := (fun _ => True)) (by (with_reducible repeat (first | apply Kd.R_alloc | apply Kd.R_drewN | apply Kd.R_drew)); exact HO140.out) hg hat); have n1_ := Aside0.mk (hb); have n2_ := Aside0.mk (ho); clear HO140; clear HB; clear HO137; have HO140 := n0_; have HB := n1_; have HO143 := n2_; clear n0_ n1_ n2_; clear ho hb hg hat; obtain ⟨Ao19, co19, eo19⟩ := Kd.R_slice HO143.out; subst eo19) | ((with_reducible refine gate_callee (f := 24) rfl ?_); refine goesL_ (some 37) rfl rfl Try.func24 (by kernel_rfl) rfl #[.slice Ao19 y141.length co19] rfl (by (try simp only [List.map_toArray, List.map_cons, List.map_nil]); first | done | rfl | (simp only [List.length_drop, List.length_take]; rfl)) ?_; (with_reducible refine (crc_Put.calls k _ _ y141 t144 _ ?side1 ?side2 A9.out).mono ?_); (case side1 => repeat (first | exact (Kd.R_reads' HO143.out).2.2 | (with_reducible refine Kd.C_alloc ?_ _) | (with_reducible refine Kd.C_drewN ?_ _) | (with_reducible refine Kd.C_drew ?_))); (case side2 => exact (Kd.R_reads' HO143.out).2.1); rintro e w20 ⟨v145, rfl, ho0, hb⟩; refine ⟨_, rfl, ?_⟩; have n0_ := Aside0.mk (Kd.R_elder' (by (with_reducible repeat (first | apply Kd.R_alloc | apply Kd.R_drewN | apply Kd.R_drew)); exact HO140.out) (Kd.R_base ho0) hb); have n1_ := Aside0.mk (Kd.R_elder' (by (with_reducible repeat (first | apply Kd.R_alloc | apply Kd.R_drewN | apply Kd.R_drew)); exact HO143.out) (Kd.R_base ho0) hb); have n2_ := Aside0.mk (Kd.R_lower (Kd.R_new' (Kd.R_new' ho0 (Kd.R_lt (by (with_reducible repeat (first | apply Kd.R_alloc | apply Kd.R_drewN | apply Kd.R_drew)); exact HO140.out))) (Kd.R_lt (by (with_reducible repeat (first | apply Kd.R_alloc | apply Kd.R_drewN | apply Kd.R_drew)); exact HO143.out))) (below_size (by repeat (first | (with_reducible first | exact HB.out | apply below_alloc | apply pw_below_drewN | apply below_drew1) | exact HB.out)))); have n3_ := Aside0.mk (below_step (by repeat (first | (with_reducible first | exact HB.out | apply below_alloc | apply pw_below_drewN | apply below_drew1) | exact HB.out)) hb); clear HO140; clear HO143; clear HB; have HO140 := n0_; have HO143 := n1_; have HO146 := n2_; have HB := n3_; clear n0_ n1_ n2_ n3_; (try clear hb); (try clear hb2); (try clear hk); (try clear hi); (try clear ho0); obtain ⟨Ao21, co21, eo21⟩ := Kd.R_slice HO146.out; subst eo21))
              go_loopg [10] k (fun kq v10 w' => ∃ (x9_1 : List Int) (x10_1 : Int), v10 = .int .i64 x10_1 ∧ Aside0 (bordereaulaw1_CrcTurns.l0 kq a2 y141 (Int.tmod (wrap64 ((wrap64 ((Int.tmod a1 (wrap64 ((y141.length : Int) - 3))) + (y141.length : Int))) - 3)) (wrap64 ((y141.length : Int) - 3))) x9_1 x10_1 = some r) ∧ Aside0 (kq ≤ k) ∧ Aside0 (Kd.R (Kd.int .u8) 5 w' w.heap.size (fun k_ => some k_ ≠ ((.slice Ao21 t144.length co21) : Value).ownBlock) (.slice Ao19 y141.length co19) y141) ∧ Aside0 (Kd.R (Kd.int .u8) 5 w' w.heap.size (fun k_ => some k_ ≠ ((.slice Ao19 y141.length co19) : Value).ownBlock) (.slice Ao21 t144.length co21) x9_1) ∧ Aside0 (Below w.heap.size w w'))
              case atStart => exact ⟨(t144), (0), (by first | rfl | (simp; done) | (simp [*]; done)), H', ⟨Nat.le_refl _⟩, ⟨by (with_reducible repeat (first | apply Kd.R_alloc | apply Kd.R_drewN | apply Kd.R_drew)); exact Kd.R_mono HO143.out (fun _ hk => hk.2)⟩, ⟨by (with_reducible repeat (first | apply Kd.R_alloc | apply Kd.R_drewN | apply Kd.R_drew)); exact Kd.R_mono HO146.out (fun _ hk => hk.2)⟩, ⟨by repeat (first | (with_reducible first | exact HB.out | apply below_alloc | apply pw_below_drewN | apply below_drew1) | exact HB.out)⟩⟩
              case round =>
                clear H'
                try clear c1
                try clear q1
                try clear c2
                try clear p2
                try clear c4
                try clear c4b0
                try clear c4b1
                try clear c5
                try clear c5b0
                try clear c5b1
                try clear c6
                try clear p6
                try clear c7
                try clear c8
                try clear c8b0
                try clear c8b1
                try clear c10
                try clear c10b0
                try clear c10b1
                try clear q11
                try clear q11
                obtain ⟨x9_1, x10_1, rfl, HA, HK1, HO_7, HO_9, HB⟩ := hrel
                have hl9_1 := (Kd.R_reads' HO_9.out).1
                rw [hl9_1] at HO_9
                (try simp only [hl9_1])
                (try simp only [hl9_1] at HO_7)
                cases gk with
                | zero => exact absurd HA.out (by simp [bordereaulaw1_CrcTurns.l0])
                | succ k1 =>
                  have H := HA.out
                  clear HA
                  simp only [bordereaulaw1_CrcTurns.l0] at H
                  by_cases c22 : x10_1 < 4
                  · rw [if_pos c22] at H
                    have c22b0 : decide (x10_1 < 4) = true := decide_eq_true c22
                    clear c22
                    obtain ⟨ji23, hji23⟩ : ∃ j_ : Int, (wrap64 ((wrap64 (4 + (Int.tmod (wrap64 ((wrap64 ((Int.tmod a1 (wrap64 ((y141.length : Int) - 3))) + (y141.length : Int))) - 3)) (wrap64 ((y141.length : Int) - 3))))) + x10_1)) = j_ := ⟨_, rfl⟩
                    replace H : (if 0 ≤ (ji23) then (if (ji23) < (x9_1.length : Int) then (if 0 ≤ (IntKind.u64.wrap (wrap64 (8 * x10_1))) then (bordereaulaw1_CrcTurns.l0 k1 a2 y141 (Int.tmod (wrap64 ((wrap64 ((Int.tmod a1 (wrap64 ((y141.length : Int) - 3))) + (y141.length : Int))) - 3)) (wrap64 ((y141.length : Int) - 3))) (x9_1.set ((ji23) : Int).toNat (Go.bits .xor .u8 (rd x9_1 (ji23)) ((shr .u32 a2 (IntKind.u64.wrap (wrap64 (8 * x10_1)))) % 256))) (wrap64 (x10_1 + 1))) else (none)) else (none)) else (none)) = some r := by first | (rw [hji23] at H; exact H) | (simp only [hji23] at H ⊢; exact H)
                    have hji23w : (IntKind.i64.wrap ((wrap64 (4 + (Int.tmod (wrap64 ((wrap64 ((Int.tmod a1 (wrap64 ((y141.length : Int) - 3))) + (y141.length : Int))) - 3)) (wrap64 ((y141.length : Int) - 3))))) + x10_1)) = ji23 := (i64_w _).trans hji23
                    by_cases c24 : 0 ≤ (ji23)
                    · rw [if_pos c24] at H
                      have c24b0 : decide (0 ≤ (ji23)) = true := decide_eq_true c24
                      clear c24
                      by_cases c25 : (ji23) < (x9_1.length : Int)
                      · rw [if_pos c25] at H
                        have c25b0 : decide ((ji23) < (x9_1.length : Int)) = true := decide_eq_true c25
                        clear c25
                        obtain ⟨ji26, hji26⟩ : ∃ j_ : Int, (IntKind.u64.wrap (wrap64 (8 * x10_1))) = j_ := ⟨_, rfl⟩
                        replace H : (if 0 ≤ (ji26) then (bordereaulaw1_CrcTurns.l0 k1 a2 y141 (Int.tmod (wrap64 ((wrap64 ((Int.tmod a1 (wrap64 ((y141.length : Int) - 3))) + (y141.length : Int))) - 3)) (wrap64 ((y141.length : Int) - 3))) (x9_1.set ((ji23) : Int).toNat (Go.bits .xor .u8 (rd x9_1 (ji23)) ((shr .u32 a2 (ji26)) % 256))) (wrap64 (x10_1 + 1))) else (none)) = some r := by first | (rw [hji26] at H; exact H) | (simp only [hji26] at H ⊢; exact H)
                        by_cases c27 : 0 ≤ (ji26)
                        · rw [if_pos c27] at H
                          have c27b0 := eq_true c27
                          have c27b1 : decide (0 ≤ (ji26)) = true := decide_eq_true c27
                          clear c27
                          obtain ⟨ji28, hji28⟩ : ∃ j_ : Int, (shr .u32 a2 (ji26)) = j_ := ⟨_, rfl⟩
                          replace H : (bordereaulaw1_CrcTurns.l0 k1 a2 y141 (Int.tmod (wrap64 ((wrap64 ((Int.tmod a1 (wrap64 ((y141.length : Int) - 3))) + (y141.length : Int))) - 3)) (wrap64 ((y141.length : Int) - 3))) (x9_1.set ((ji23) : Int).toNat (Go.bits .xor .u8 (rd x9_1 (ji23)) ((ji28) % 256))) (wrap64 (x10_1 + 1))) = some r := by first | (rw [hji28] at H; exact H) | (simp only [hji28] at H ⊢; exact H)
                          have hji28_ : (a2 / 2 ^ min (ji26).toNat 32) = ji28 := hji28
                          have hji28z : (ji26) ≤ 32 → (a2 / 2 ^ (ji26).toNat) = ji28 := shr_small hji28
                          obtain ⟨y148, hy148⟩ : ∃ y_ : List Int, y_ = (x9_1.set ((ji23) : Int).toNat (Go.bits .xor .u8 (rd x9_1 (ji23)) ((ji28) % 256))) := ⟨_, rfl⟩
                          replace H : (bordereaulaw1_CrcTurns.l0 k1 a2 y141 (Int.tmod (wrap64 ((wrap64 ((Int.tmod a1 (wrap64 ((y141.length : Int) - 3))) + (y141.length : Int))) - 3)) (wrap64 ((y141.length : Int) - 3))) y148 (wrap64 (x10_1 + 1))) = some r := by first | (rw [hy148]; with_reducible exact H) | (have H2_ := (Option.bind_some _ _).symm.trans H; rw [hy148]; with_reducible exact H2_) | (have H2_ := (Option.bind_some _ _).symm.trans H; with_reducible exact H2_) | with_reducible exact H | (rw [hy148]; exact H) | exact H
                          have Ny148 := Aside0.mk hy148
                          clear hy148
                          have H' := Aside0.mk H
                          clear H
                          have p147 : 0 ≤ ((ji23) : Int) := of_decide_eq_true (by first | (with_reducible assumption) | assumption)
                          have q147 : (ji23) < (x9_1.length : Int) := of_decide_eq_true (by first | (with_reducible assumption) | assumption)
                          obtain ⟨ad147, e147, hx147_0⟩ := Kd.at_int (Kd.R_reads' HO_9.out).2.2 (ji23) p147 q147
                          cases e147
                          replace p147 := eq_true p147
                          replace q147 := eq_true q147
                          have p29 : 0 ≤ ((ji23) : Int) := of_decide_eq_true (by first | (with_reducible assumption) | assumption)
                          have q29 : ((ji23) : Int) < ((x9_1.length : Int) : Int) := of_decide_eq_true (by first | (with_reducible assumption) | assumption)
                          obtain ⟨go29, co29, eo29, gb29, gl29, cl29, HG29⟩ := Kd.R_form HO_9.out (by omega)
                          (first | cases eo29 | (injection eo29 with ea_ en_ ec_; (first | subst ea_ | (injection ea_ with ea_; subst ea_)); subst ec_; clear en_))
                          have GB29 := Aside0.mk gb29
                          have GG29 := Aside0.mk HG29
                          clear gb29 gl29 HG29
                          (first | simp only [add_plain] at hx147_0 | skip)
                          obtain ⟨hx29_0, hf29_0⟩ := Kd.R_celln 0 HO_9.out ((ji23) : Int) p29 q29
                          replace p29 := eq_true p29
                          replace q29 := eq_true q29
                          have HP30 := Kd.R_putg HO_9.out ((ji23) : Int) (Go.bits .xor .u8 (rd x9_1 (ji23)) ((ji28) % 256))
                          go_wp2_with (first | ((with_reducible refine gate_store (t := 5) (p := 62) rfl ?_); refine store_event (t := 5) (p := 62) (v := ?vo_w31) (w1 := (wr.setCell ⟨go29, ((ji23) : Int).toNat, none⟩ (.int .u8 (Go.bits .xor .u8 (rd x9_1 (ji23)) ((ji28) % 256))))) ?hg ?ho ?hn ?hr ?_; (case ho => rfl); (case hg => rfl); (case hn => rfl); (case hr => first | (go_simp; done) | (go_simp; rfl)); intro w31 hw; have hg : wr.grownBy w31 (some go29) := (by rw [hw]; exact HP30.2); have hp_ : Kd.R (Kd.int .u8) 5 w31 w.heap.size (fun k_ => some k_ ≠ (.slice Ao19 y141.length co19 : Value).ownBlock) (.slice (some ⟨go29, 0, none⟩) x9_1.length co21) y148 := (by rw [hw, Ny148.out]; exact HP30.1); clear HP30; have n0_ := Aside0.mk (Kd.R_after (v := (.slice (some ⟨go29, 0, none⟩) x9_1.length co21)) (v1 := (.slice (some ⟨go29, 0, none⟩) x9_1.length co21)) (ok := (fun _ => True)) (by (with_reducible repeat (first | apply Kd.R_alloc | apply Kd.R_drewN | apply Kd.R_drew)); exact Kd.R_mono HO_7.out (fun _ hk => ⟨trivial, hk⟩)) hg (.inl rfl)); have n1_ := Aside0.mk (hp_); have n2_ := Aside0.mk ((by rw [hw]; exact below_set (HB.out) GB29.out : Below w.heap.size w w31)); clear HO_7; clear HO_9; clear HB; have HO_7 := n0_; have HO_9 := n1_; have HB := n2_; clear n0_ n1_ n2_; clear hg hw hp_))
                          (try simp only [← hl9_1])
                          go_roundg k1
                          case measure => have := HK1.out; omega
                          case rel => exact ⟨(y148), (wrap64 (x10_1 + 1)), (by first | rfl | (simp; done) | (simp [*]; done)), H', ⟨by have := HK1.out; omega⟩, ⟨by (try simp only [hl9_1]); (with_reducible repeat (first | apply Kd.R_alloc | apply Kd.R_drewN | apply Kd.R_drew)); exact Kd.R_mono HO_7.out (fun _ hk => hk.2)⟩, ⟨by (try simp only [hl9_1]); (with_reducible repeat (first | apply Kd.R_alloc | apply Kd.R_drewN | apply Kd.R_drew)); exact HO_9.out⟩, ⟨by repeat (first | (with_reducible first | exact HB.out | apply below_alloc | apply pw_below_drewN | apply below_drew1) | exact HB.out)⟩⟩
                        · rw [if_neg c27] at H
                          exact absurd H (by simp)
                      · rw [if_neg c25] at H
                        exact absurd H (by simp)
                    · rw [if_neg c24] at H
                      exact absurd H (by simp)
                  · rw [if_neg c22] at H
                    have c22b0 : decide (x10_1 < 4) = false := decide_eq_false c22
                    clear c22
                    replace H := Option.bind_eq_some_iff.mp H
                    obtain ⟨⟨t149, t150⟩, A320, H⟩ := H
                    replace H : (if (t150 == (a2 == 0)) = true then (if 4 ≤ (x9_1.length : Int) then ((crc_Of.f k1 (x9_1.drop 4)).bind fun t157 => ((crc_Of.f k1 y141).bind fun t158 => (if ((t157 == t158) == (a2 == 0)) = true then ((bordereaulaw1_known.f k1).bind fun t159 => (some t159)) else (none)))) else (none)) else (none)) = some r := H
                    have A32 := Aside0.mk A320
                    clear A320
                    by_cases c33 : (t150 == (a2 == 0)) = true
                    · rw [if_pos c33] at H
                      have c33b0 : (t150 == (a2 == 0)) = true := c33
                      (try (have c33b1 : decide (t150 = (a2 == 0)) = true := by simpa using c33))
                      (try (have c33b2 : (t150 == (a2 == 0)) = true := by simpa using c33))
                      clear c33
                      by_cases c34 : 4 ≤ (x9_1.length : Int)
                      · rw [if_pos c34] at H
                        have c34b0 := eq_true c34
                        have c34b1 : decide (4 ≤ (x9_1.length : Int)) = true := decide_eq_true c34
                        clear c34
                        obtain ⟨y153, hy153⟩ : ∃ y_ : List Int, y_ = (x9_1.drop 4) := ⟨_, rfl⟩
                        replace H : ((crc_Of.f k1 y153).bind fun t157 => ((crc_Of.f k1 y141).bind fun t158 => (if ((t157 == t158) == (a2 == 0)) = true then ((bordereaulaw1_known.f k1).bind fun t159 => (some t159)) else (none)))) = some r := by first | (rw [hy153]; with_reducible exact H) | (have H2_ := (Option.bind_some _ _).symm.trans H; rw [hy153]; with_reducible exact H2_) | (have H2_ := (Option.bind_some _ _).symm.trans H; with_reducible exact H2_) | with_reducible exact H | (rw [hy153]; exact H) | exact H
                        have Ny153 := Aside0.mk hy153
                        clear hy153
                        replace H := Option.bind_eq_some_iff.mp H
                        obtain ⟨t157, A350, H⟩ := H
                        replace H : ((crc_Of.f k1 y141).bind fun t158 => (if ((t157 == t158) == (a2 == 0)) = true then ((bordereaulaw1_known.f k1).bind fun t159 => (some t159)) else (none))) = some r := H
                        have A35 := Aside0.mk A350
                        clear A350
                        replace H := Option.bind_eq_some_iff.mp H
                        obtain ⟨t158, A360, H⟩ := H
                        replace H : (if ((t157 == t158) == (a2 == 0)) = true then ((bordereaulaw1_known.f k1).bind fun t159 => (some t159)) else (none)) = some r := H
                        have A36 := Aside0.mk A360
                        clear A360
                        by_cases c37 : ((t157 == t158) == (a2 == 0)) = true
                        · rw [if_pos c37] at H
                          have c37b0 : ((t157 == t158) == (a2 == 0)) = true := c37
                          (try (have c37b1 : decide ((t157 == t158) = (a2 == 0)) = true := by simpa using c37))
                          (try (have c37b2 : ((t157 == t158) == (a2 == 0)) = true := by simpa using c37))
                          clear c37
                          replace H := Option.bind_eq_some_iff.mp H
                          obtain ⟨t159, A380, H⟩ := H
                          replace H : (some t159) = some r := H
                          have A38 := Aside0.mk A380
                          clear A380
                          obtain rfl := Option.some.inj H
                          go_wp2_with (first | ((with_reducible refine gate_callee (f := 25) rfl ?_); refine goesL_ (some 65) rfl rfl Try.func25 (by kernel_rfl) rfl #[.slice Ao21 x9_1.length co21] rfl (by (try simp only [List.map_toArray, List.map_cons, List.map_nil]); first | done | rfl | (simp only [List.length_drop, List.length_take]; rfl)) ?_; (with_reducible refine (crc_Check.calls k1 _ _ x9_1 t149 t150 _ ?side1 ?side2 A32.out).mono ?_); (case side1 => repeat (first | exact (Kd.R_reads' HO_9.out).2.2 | (with_reducible refine Kd.C_alloc ?_ _) | (with_reducible refine Kd.C_drewN ?_ _) | (with_reducible refine Kd.C_drew ?_))); (case side2 => exact (Kd.R_reads' HO_9.out).2.1); rintro e w39 ⟨v151, rfl, ho0, hb⟩; refine ⟨_, rfl, ?_⟩; have n0_ := Aside0.mk (Kd.R_elder' (by (with_reducible repeat (first | apply Kd.R_alloc | apply Kd.R_drewN | apply Kd.R_drew)); exact HO_7.out) (Kd.R_base ho0) hb); have n1_ := Aside0.mk (Kd.R_elder' (by (with_reducible repeat (first | apply Kd.R_alloc | apply Kd.R_drewN | apply Kd.R_drew)); exact HO_9.out) (Kd.R_base ho0) hb); have n2_ := Aside0.mk (Kd.R_lower (Kd.R_new' (Kd.R_new' ho0 (Kd.R_lt (by (with_reducible repeat (first | apply Kd.R_alloc | apply Kd.R_drewN | apply Kd.R_drew)); exact HO_7.out))) (Kd.R_lt (by (with_reducible repeat (first | apply Kd.R_alloc | apply Kd.R_drewN | apply Kd.R_drew)); exact HO_9.out))) (below_size (by repeat (first | (with_reducible first | exact HB.out | apply below_alloc | apply pw_below_drewN | apply below_drew1) | exact HB.out)))); have n3_ := Aside0.mk (below_step (by repeat (first | (with_reducible first | exact HB.out | apply below_alloc | apply pw_below_drewN | apply below_drew1) | exact HB.out)) hb); clear HO_7; clear HO_9; clear HB; have HO_7 := n0_; have HO_9 := n1_; have HO152 := n2_; have HB := n3_; clear n0_ n1_ n2_ n3_; (try clear hb); (try clear hb2); (try clear hk); (try clear hi); (try clear ho0); have q40 : (4 : Int) ≤ ((x9_1.length : Int) : Int) := of_decide_eq_true (by first | (with_reducible assumption) | assumption); obtain ⟨i040, hi040, _, hsz40, _⟩ := info_parts info5; have hroom40 : x9_1.length ≤ co21 := (Kd.R_reads' HO_9.out).2.1; have hC40 : Kd.C (Kd.int .u8) _ Ao21 x9_1.length x9_1 := (Kd.R_reads' HO_9.out).2.2; have hcut40 := cut_from (P := Try.prog) 29 5 .i64 Try.underlying29 hi040 1 hsz40 Ao21 x9_1.length co21 4 (by omega) q40; have hr40 := Kd.C_drop (m := (4 : Int).toNat) (c := co21) hC40 (by omega) hroom40; obtain ⟨A40, hA40⟩ : ∃ A1, A1 = (if co21 = (4 : Int).toNat then Ao21 else (Ao21 : Option Addr).map (·.add ((4 : Int).toNat * 1))) := ⟨_, rfl⟩; obtain ⟨c40, hc40⟩ : ∃ c1, c1 = co21 - (4 : Int).toNat := ⟨_, rfl⟩; have hy40 : y153.length = x9_1.length - (4 : Int).toNat := (by rw [Ny153.out, List.length_drop] <;> omega); rw [show (x9_1).drop (4 : Int).toNat = y153 from Ny153.out.symm] at hr40; replace hr40 : Kd.C (Kd.int .u8) _ A40 y153.length y153 := (by rw [hA40]; exact hr40); rw [← hy40, ← hA40, ← hc40] at hcut40; have HR156 := Aside0.mk hr40; have HC156 := Aside0.mk (show y153.length ≤ c40 from by rw [hy40, hc40]; exact Nat.sub_le_sub_right hroom40 _); clear hr40 hC40 hroom40 hi040 hsz40 hc40; have KY40 := Aside0.mk hy40; have KA40 := Aside0.mk hA40; clear hy40 hA40; have KL40 := Aside0.mk (show 4 ≤ x9_1.length from by omega); replace q40 := eq_true q40) | (go_at_call 26; (with_reducible refine (crc_Of.calls k1 _ _ y153 t157 _ ?side1 ?side2 A35.out).mono ?_); (case side1 => repeat (first | exact (by repeat (first | (with_reducible exact HR156.out) | (with_reducible refine Kd.C_alloc ?_ _) | (with_reducible refine Kd.C_drewN ?_ _) | (with_reducible refine Kd.C_drew ?_) | exact HR156.out)) | (with_reducible refine Kd.C_alloc ?_ _) | (with_reducible refine Kd.C_drewN ?_ _) | (with_reducible refine Kd.C_drew ?_))); (case side2 => exact HC156.out); rintro e w' ⟨rfl, ⟨nd, rfl⟩⟩) | (go_at_call 26; (with_reducible refine (crc_Of.calls k1 _ _ y141 t158 _ ?side1 ?side2 A36.out).mono ?_); (case side1 => repeat (first | exact (Kd.R_reads' HO_7.out).2.2 | (with_reducible refine Kd.C_alloc ?_ _) | (with_reducible refine Kd.C_drewN ?_ _) | (with_reducible refine Kd.C_drew ?_))); (case side2 => exact (Kd.R_reads' HO_7.out).2.1); rintro e w' ⟨rfl, ⟨nd, rfl⟩⟩) | (go_at_call 22; (with_reducible refine (bordereaulaw1_known.calls k1  t159 _ A38.out).mono ?_); rintro e w41 ⟨rfl, hb⟩; have n0_ := Aside0.mk (Kd.R_below (by (with_reducible repeat (first | apply Kd.R_alloc | apply Kd.R_drewN | apply Kd.R_drew)); exact HO_7.out) hb); have n1_ := Aside0.mk (Kd.R_below (by (with_reducible repeat (first | apply Kd.R_alloc | apply Kd.R_drewN | apply Kd.R_drew)); exact HO_9.out) hb); have n2_ := Aside0.mk (Kd.R_below (by (with_reducible repeat (first | apply Kd.R_alloc | apply Kd.R_drewN | apply Kd.R_drew)); exact HO152.out) hb); have n3_ := Aside0.mk (Kd.C_below (by repeat (first | (with_reducible exact HR156.out) | (with_reducible refine Kd.C_alloc ?_ _) | (with_reducible refine Kd.C_drewN ?_ _) | (with_reducible refine Kd.C_drew ?_) | exact HR156.out)) hb); have n4_ := Aside0.mk (below_step (by repeat (first | (with_reducible first | exact HB.out | apply below_alloc | apply pw_below_drewN | apply below_drew1) | exact HB.out)) hb); clear HO_7; clear HO_9; clear HO152; clear HR156; clear HB; have HO_7 := n0_; have HO_9 := n1_; have HO152 := n2_; have HR156 := n3_; have HB := n4_; clear n0_ n1_ n2_ n3_ n4_; (try clear hb); (try clear hb2); (try clear hk); (try clear hi)))
                          go_ret
                          exact ⟨by first | rfl | (simp [errW_none, errW_some] <;> rfl) | (simp [*, errW_none, errW_some] <;> rfl), by repeat (first | (with_reducible first | exact HB.out | apply below_alloc | apply pw_below_drewN | apply below_drew1) | exact HB.out)⟩
                        · rw [if_neg c37] at H
                          exact absurd H (by simp)
                      · rw [if_neg c34] at H
                        exact absurd H (by simp)
                    · rw [if_neg c33] at H
                      exact absurd H (by simp)
            · rw [if_neg c10] at H
              exact absurd H (by simp)
        · rw [if_neg c7] at H
          exact absurd H (by simp)
      · rw [if_neg c6] at H
        exact absurd H (by simp)
    · rw [if_neg c5] at H
      exact absurd H (by simp)
  · rw [if_neg c4] at H
    have c4b0 : decide (200 < (l0.length : Int)) = false := decide_eq_false c4
    have c4b1 : decide (200 < l0.length) = false := decide_eq_false (by omega)
    clear c4
    obtain ⟨y160, hy160⟩ : ∃ y_ : List Int, y_ = (([] : List Int)) := ⟨_, rfl⟩
    replace H : (if y160.length + l0.length < 140737488355328 then ((some (y160 ++ l0 : List Int)).bind fun y163 => ((some (([1, 2, 3, 4] : List Int) : List Int)).bind fun y166 => (if y163.length + y166.length < 140737488355328 then ((some (y163 ++ y166 : List Int)).bind fun y169 => (if (wrap64 ((y169.length : Int) - 3)) = 0 then (none) else ((crc_Put.f k y169).bind fun t172 => (if (t172.length : Int) = (wrap64 ((y169.length : Int) + 4)) then (bordereaulaw1_CrcTurns.l100 k a2 y169 (Int.tmod (wrap64 ((wrap64 ((Int.tmod a1 (wrap64 ((y169.length : Int) - 3))) + (y169.length : Int))) - 3)) (wrap64 ((y169.length : Int) - 3))) t172 0) else (none))))) else (none)))) else (none)) = some r := by first | (rw [hy160]; with_reducible exact H) | (have H2_ := (Option.bind_some _ _).symm.trans H; rw [hy160]; with_reducible exact H2_) | (have H2_ := (Option.bind_some _ _).symm.trans H; with_reducible exact H2_) | with_reducible exact H | (rw [hy160]; exact H) | exact H
    have Ny160 := Aside0.mk hy160
    clear hy160
    by_cases c42 : y160.length + l0.length < 140737488355328
    · rw [if_pos c42] at H
      have LMc42 := Aside0.mk c42
      clear c42
      obtain ⟨y163, hy163⟩ : ∃ y_ : List Int, y_ = (y160 ++ l0) := ⟨_, rfl⟩
      replace H : ((some (([1, 2, 3, 4] : List Int) : List Int)).bind fun y166 => (if y163.length + y166.length < 140737488355328 then ((some (y163 ++ y166 : List Int)).bind fun y169 => (if (wrap64 ((y169.length : Int) - 3)) = 0 then (none) else ((crc_Put.f k y169).bind fun t172 => (if (t172.length : Int) = (wrap64 ((y169.length : Int) + 4)) then (bordereaulaw1_CrcTurns.l100 k a2 y169 (Int.tmod (wrap64 ((wrap64 ((Int.tmod a1 (wrap64 ((y169.length : Int) - 3))) + (y169.length : Int))) - 3)) (wrap64 ((y169.length : Int) - 3))) t172 0) else (none))))) else (none))) = some r := by first | (rw [hy163]; with_reducible exact H) | (have H2_ := (Option.bind_some _ _).symm.trans H; rw [hy163]; with_reducible exact H2_) | (have H2_ := (Option.bind_some _ _).symm.trans H; with_reducible exact H2_) | with_reducible exact H | (rw [hy163]; exact H) | exact H
      have Ny163 := Aside0.mk hy163
      clear hy163
      obtain ⟨y166, hy166⟩ : ∃ y_ : List Int, y_ = (([1, 2, 3, 4] : List Int)) := ⟨_, rfl⟩
      replace H : (if y163.length + y166.length < 140737488355328 then ((some (y163 ++ y166 : List Int)).bind fun y169 => (if (wrap64 ((y169.length : Int) - 3)) = 0 then (none) else ((crc_Put.f k y169).bind fun t172 => (if (t172.length : Int) = (wrap64 ((y169.length : Int) + 4)) then (bordereaulaw1_CrcTurns.l100 k a2 y169 (Int.tmod (wrap64 ((wrap64 ((Int.tmod a1 (wrap64 ((y169.length : Int) - 3))) + (y169.length : Int))) - 3)) (wrap64 ((y169.length : Int) - 3))) t172 0) else (none))))) else (none)) = some r := by first | (rw [hy166]; with_reducible exact H) | (have H2_ := (Option.bind_some _ _).symm.trans H; rw [hy166]; with_reducible exact H2_) | (have H2_ := (Option.bind_some _ _).symm.trans H; with_reducible exact H2_) | with_reducible exact H | (rw [hy166]; exact H) | exact H
      have Ny166 := Aside0.mk hy166
      clear hy166
      by_cases c43 : y163.length + y166.length < 140737488355328
      · rw [if_pos c43] at H
        have LMc43 := Aside0.mk c43
        clear c43
        obtain ⟨y169, hy169⟩ : ∃ y_ : List Int, y_ = (y163 ++ y166) := ⟨_, rfl⟩
        replace H : (if (wrap64 ((y169.length : Int) - 3)) = 0 then (none) else ((crc_Put.f k y169).bind fun t172 => (if (t172.length : Int) = (wrap64 ((y169.length : Int) + 4)) then (bordereaulaw1_CrcTurns.l100 k a2 y169 (Int.tmod (wrap64 ((wrap64 ((Int.tmod a1 (wrap64 ((y169.length : Int) - 3))) + (y169.length : Int))) - 3)) (wrap64 ((y169.length : Int) - 3))) t172 0) else (none)))) = some r := by first | (rw [hy169]; with_reducible exact H) | (have H2_ := (Option.bind_some _ _).symm.trans H; rw [hy169]; with_reducible exact H2_) | (have H2_ := (Option.bind_some _ _).symm.trans H; with_reducible exact H2_) | with_reducible exact H | (rw [hy169]; exact H) | exact H
        have Ny169 := Aside0.mk hy169
        clear hy169
        by_cases c44 : (wrap64 ((y169.length : Int) - 3)) = 0
        · rw [if_pos c44] at H
          exact absurd H (by simp)
        · rw [if_neg c44] at H
          have c44b0 : ((wrap64 ((y169.length : Int) - 3)) == 0) = false := beq_eq_false_iff_ne.mpr c44
          have c44b1 : ((wrap64 ((y169.length : Int) - 3)) != 0) = true := bne_iff_ne.mpr c44
          replace H := Option.bind_eq_some_iff.mp H
          obtain ⟨t172, A450, H⟩ := H
          replace H : (if (t172.length : Int) = (wrap64 ((y169.length : Int) + 4)) then (bordereaulaw1_CrcTurns.l100 k a2 y169 (Int.tmod (wrap64 ((wrap64 ((Int.tmod a1 (wrap64 ((y169.length : Int) - 3))) + (y169.length : Int))) - 3)) (wrap64 ((y169.length : Int) - 3))) t172 0) else (none)) = some r := H
          have A45 := Aside0.mk A450
          clear A450
          by_cases c46 : (t172.length : Int) = (wrap64 ((y169.length : Int) + 4))
          · rw [if_pos c46] at H
            have c46b0 : ((t172.length : Int) == (wrap64 ((y169.length : Int) + 4))) = true := beq_iff_eq.mpr c46
            have c46b1 : ((t172.length : Int) != (wrap64 ((y169.length : Int) + 4))) = false := bne_eq_false_iff_eq.mpr c46
            clear c46
            have H' := Aside0.mk H
            clear H
            go_enter Try.func7, Try.ntmps7
            go_wp2_with (first | ((with_reducible refine gate_dst (N := 18) rfl ?_); refine Kd.R_lit (Kd.int .u8) _ 5 ?hg (N := 18) ?hd (xs := ([] : List Int)) (inner := []) (ok := fun _ => True) (okp := fun _ => True) ?hr ?hp (fun _ hk => hk) trivial (Below.refl _ _) (Nat.le_refl _) (by simp) ?_; (case hd => rfl); (case hg => rfl); (case hr => first | (go_simp; done) | (go_simp; rfl)); (case hp => exact (Reps.none _ _)); intro v161 w47 ho48 hb hg_ hnew_; clear hg_ hnew_; (first | rw [← Ny160.out] at ho48 | (simp only [Int.reduceToNat] at ho48; rw [← Ny160.out] at ho48)); have n0_ := Aside0.mk (Kd.R_lower ho48 (below_size (by repeat (first | (with_reducible first | exact HB.out | apply below_alloc | apply pw_below_drewN | apply below_drew1) | exact HB.out)))); have n1_ := Aside0.mk (below_step (by repeat (first | (with_reducible first | exact HB.out | apply below_alloc | apply pw_below_drewN | apply below_drew1) | exact HB.out)) hb); clear HB; have HO162 := n0_; have HB := n1_; clear n0_ n1_; clear hb ho48) | ((with_reducible refine gate_builtin (b := .append) (xs := #[.tmp 18, .tmp 19]) rfl ?_); at_builtin; refine Kd.R_append_rows (Kd.int .u8) (w0 := w) w.heap.size rfl (.tmp 18) (.tmp 19) 29 5 (.int .u8 0) 1 rfl Try.underlying29 info5 rfl (by decide) (by omega) v161 y160 l0 _ _ _ (fun _ => True) (fun _ => False) rfl rfl ?aO ?aR (fun _ _ h => h) (fun _ h => h.elim) ?aF ?aB ?aS ?aL ?_; (case aR => repeat (first | exact (Kd.C_below HR0.out HB.out) | (with_reducible refine Kd.C_alloc ?_ _) | (with_reducible refine Kd.C_drewN ?_ _) | (with_reducible refine Kd.C_drew ?_))); (case aB => exact (by repeat (first | (with_reducible first | exact HB.out | apply below_alloc | apply pw_below_drewN | apply below_drew1) | exact HB.out))); (case aF => exact (fun _ _ => trivial)); (case aO => exact (by (with_reducible repeat (first | apply Kd.R_alloc | apply Kd.R_drewN | apply Kd.R_drew)); exact HO162.out)); (case aS => exact (below_size (by repeat (first | (with_reducible first | exact HB.out | apply below_alloc | apply pw_below_drewN | apply below_drew1) | exact HB.out)))); (case aL => have := LMc42.out; omega); intro v164 w49 ho hb hg hat; rw [← Ny163.out] at ho; have n0_ := Aside0.mk (hb); have n1_ := Aside0.mk (ho); clear HB; clear HO162; have HB := n0_; have HO165 := n1_; clear n0_ n1_; clear ho hb hg hat) | ((with_reducible refine gate_dst (N := 21) rfl ?_); refine Kd.R_lit (Kd.int .u8) _ 5 ?hg (N := 21) ?hd (xs := ([1, 2, 3, 4] : List Int)) (inner := [.int .u8 1, .int .u8 2, .int .u8 3, .int .u8 4]) (ok := fun _ => True) (okp := fun _ => True) ?hr ?hp (fun _ hk => hk) trivial (Below.refl _ _) (Nat.le_refl _) (by simp) ?_; (case hd => rfl); (case hg => rfl); (case hr => first | (go_simp; done) | (go_simp; rfl)); (case hp => exact (Reps.one (show Kd.M (Kd.int .u8) _ _ _ 1 [.int .u8 1] from rfl) (Reps.one (show Kd.M (Kd.int .u8) _ _ _ 2 [.int .u8 2] from rfl) (Reps.one (show Kd.M (Kd.int .u8) _ _ _ 3 [.int .u8 3] from rfl) (Reps.one (show Kd.M (Kd.int .u8) _ _ _ 4 [.int .u8 4] from rfl) (Reps.none _ _)))))); intro v167 w50 ho51 hb hg_ hnew_; clear hg_ hnew_; (first | rw [← Ny166.out] at ho51 | (simp only [Int.reduceToNat] at ho51; rw [← Ny166.out] at ho51)); have n0_ := Aside0.mk (Kd.R_elder' (by (with_reducible repeat (first | apply Kd.R_alloc | apply Kd.R_drewN | apply Kd.R_drew)); exact HO165.out) (Kd.R_base ho51) hb); have n1_ := Aside0.mk (Kd.R_lower (Kd.R_new' ho51 (Kd.R_lt (by (with_reducible repeat (first | apply Kd.R_alloc | apply Kd.R_drewN | apply Kd.R_drew)); exact HO165.out))) (below_size (by repeat (first | (with_reducible first | exact HB.out | apply below_alloc | apply pw_below_drewN | apply below_drew1) | exact HB.out)))); have n2_ := Aside0.mk (below_step (by repeat (first | (with_reducible first | exact HB.out | apply below_alloc | apply pw_below_drewN | apply below_drew1) | exact HB.out)) hb); clear HO165; clear HB; have HO165 := n0_; have HO168 := n1_; have HB := n2_; clear n0_ n1_ n2_; clear hb ho51; obtain ⟨Ao53, co53, eo53⟩ := Kd.R_slice HO168.out; subst eo53) | ((with_reducible refine gate_builtin (b := .append) (xs := #[.tmp 20, .tmp 21]) rfl ?_); at_builtin; refine Kd.R_append_rows (Kd.int .u8) (w0 := w) w.heap.size rfl (.tmp 20) (.tmp 21) 29 5 (.int .u8 0) 1 rfl Try.underlying29 info5 rfl (by decide) (by omega) v164 y163 y166 _ _ _ (fun k_ => some k_ ≠ (.slice Ao53 y166.length co53 : Value).ownBlock) (fun _ => False) rfl rfl ?aO ?aR (fun _ _ h => h) (fun _ h => h.elim) ?aF ?aB ?aS ?aL ?_; (case aR => repeat (first | exact (Kd.R_reads' HO168.out).2.2 | (with_reducible refine Kd.C_alloc ?_ _) | (with_reducible refine Kd.C_drewN ?_ _) | (with_reducible refine Kd.C_drew ?_))); (case aB => exact (by repeat (first | (with_reducible first | exact HB.out | apply below_alloc | apply pw_below_drewN | apply below_drew1) | exact HB.out))); (case aF => exact (fun k_ hk => Kd.fresh' (Kd.R_lt (by (with_reducible repeat (first | apply Kd.R_alloc | apply Kd.R_drewN | apply Kd.R_drew)); exact HO168.out)) k_ hk)); (case aO => exact (by (with_reducible repeat (first | apply Kd.R_alloc | apply Kd.R_drewN | apply Kd.R_drew)); exact Kd.R_mono HO165.out (fun _ hk => hk.2))); (case aS => exact (below_size (by repeat (first | (with_reducible first | exact HB.out | apply below_alloc | apply pw_below_drewN | apply below_drew1) | exact HB.out)))); (case aL => have := LMc43.out; omega); intro v170 w52 ho hb hg hat; rw [← Ny169.out] at ho; have n0_ := Aside0.mk (Kd.R_after (ok := (fun _ => True)) (by (with_reducible repeat (first | apply Kd.R_alloc | apply Kd.R_drewN | apply Kd.R_drew)); exact HO168.out) hg hat); have n1_ := Aside0.mk (hb); have n2_ := Aside0.mk (ho); clear HO168; clear HB; clear HO165; have HO168 := n0_; have HB := n1_; have HO171 := n2_; clear n0_ n1_ n2_; clear ho hb hg hat; obtain ⟨Ao54, co54, eo54⟩ := Kd.R_slice HO171.out; subst eo54) | ((with_reducible refine gate_callee (f := 24) rfl ?_); refine goesL_ (some 37) rfl rfl Try.func24 (by kernel_rfl) rfl #[.slice Ao54 y169.length co54] rfl (by (try simp only [List.map_toArray, List.map_cons, List.map_nil]); first | done | rfl | (simp only [List.length_drop, List.length_take]; rfl)) ?_; (with_reducible refine (crc_Put.calls k _ _ y169 t172 _ ?side1 ?side2 A45.out).mono ?_); (case side1 => repeat (first | exact (Kd.R_reads' HO171.out).2.2 | (with_reducible refine Kd.C_alloc ?_ _) | (with_reducible refine Kd.C_drewN ?_ _) | (with_reducible refine Kd.C_drew ?_))); (case side2 => exact (Kd.R_reads' HO171.out).2.1); rintro e w55 ⟨v173, rfl, ho0, hb⟩; refine ⟨_, rfl, ?_⟩; have n0_ := Aside0.mk (Kd.R_elder' (by (with_reducible repeat (first | apply Kd.R_alloc | apply Kd.R_drewN | apply Kd.R_drew)); exact HO168.out) (Kd.R_base ho0) hb); have n1_ := Aside0.mk (Kd.R_elder' (by (with_reducible repeat (first | apply Kd.R_alloc | apply Kd.R_drewN | apply Kd.R_drew)); exact HO171.out) (Kd.R_base ho0) hb); have n2_ := Aside0.mk (Kd.R_lower (Kd.R_new' (Kd.R_new' ho0 (Kd.R_lt (by (with_reducible repeat (first | apply Kd.R_alloc | apply Kd.R_drewN | apply Kd.R_drew)); exact HO168.out))) (Kd.R_lt (by (with_reducible repeat (first | apply Kd.R_alloc | apply Kd.R_drewN | apply Kd.R_drew)); exact HO171.out))) (below_size (by repeat (first | (with_reducible first | exact HB.out | apply below_alloc | apply pw_below_drewN | apply below_drew1) | exact HB.out)))); have n3_ := Aside0.mk (below_step (by repeat (first | (with_reducible first | exact HB.out | apply below_alloc | apply pw_below_drewN | apply below_drew1) | exact HB.out)) hb); clear HO168; clear HO171; clear HB; have HO168 := n0_; have HO171 := n1_; have HO174 := n2_; have HB := n3_; clear n0_ n1_ n2_ n3_; (try clear hb); (try clear hb2); (try clear hk); (try clear hi); (try clear ho0); obtain ⟨Ao56, co56, eo56⟩ := Kd.R_slice HO174.out; subst eo56))
            go_loopg [10] k (fun kq v10 w' => ∃ (x9_1 : List Int) (x10_1 : Int), v10 = .int .i64 x10_1 ∧ Aside0 (bordereaulaw1_CrcTurns.l100 kq a2 y169 (Int.tmod (wrap64 ((wrap64 ((Int.tmod a1 (wrap64 ((y169.length : Int) - 3))) + (y169.length : Int))) - 3)) (wrap64 ((y169.length : Int) - 3))) x9_1 x10_1 = some r) ∧ Aside0 (kq ≤ k) ∧ Aside0 (Kd.R (Kd.int .u8) 5 w' w.heap.size (fun k_ => some k_ ≠ ((.slice Ao56 t172.length co56) : Value).ownBlock) (.slice Ao54 y169.length co54) y169) ∧ Aside0 (Kd.R (Kd.int .u8) 5 w' w.heap.size (fun k_ => some k_ ≠ ((.slice Ao54 y169.length co54) : Value).ownBlock) (.slice Ao56 t172.length co56) x9_1) ∧ Aside0 (Below w.heap.size w w'))
            case atStart => exact ⟨(t172), (0), (by first | rfl | (simp; done) | (simp [*]; done)), H', ⟨Nat.le_refl _⟩, ⟨by (with_reducible repeat (first | apply Kd.R_alloc | apply Kd.R_drewN | apply Kd.R_drew)); exact Kd.R_mono HO171.out (fun _ hk => hk.2)⟩, ⟨by (with_reducible repeat (first | apply Kd.R_alloc | apply Kd.R_drewN | apply Kd.R_drew)); exact Kd.R_mono HO174.out (fun _ hk => hk.2)⟩, ⟨by repeat (first | (with_reducible first | exact HB.out | apply below_alloc | apply pw_below_drewN | apply below_drew1) | exact HB.out)⟩⟩
            case round =>
              clear H'
              try clear c1
              try clear p1
              try clear q1
              try clear hx1
              try clear c2
              try clear p2
              try clear q2
              try clear hx2
              try clear c3
              try clear c4
              try clear c4b0
              try clear c4b1
              try clear q4
              try clear c5
              try clear c5b0
              try clear c5b1
              try clear c6
              try clear p6
              try clear c7
              try clear c8
              try clear c8b0
              try clear c8b1
              try clear c10
              try clear c10b0
              try clear c10b1
              try clear q11
              try clear p14
              try clear q14
              try clear hx14
              try clear c22
              try clear c22b0
              try clear c24
              try clear c24b0
              try clear c25
              try clear c25b0
              try clear c27
              try clear c27b0
              try clear c27b1
              try clear p29
              try clear q29
              try clear hx29
              try clear hf29
              try clear c33
              try clear c33b0
              try clear c33b1
              try clear c33b2
              try clear c34
              try clear c34b0
              try clear c34b1
              try clear c37
              try clear c37b0
              try clear c37b1
              try clear c37b2
              try clear c40
              try clear q40
              try clear c42
              try clear c43
              try clear c44
              try clear c44b0
              try clear c44b1
              try clear c46
              try clear c46b0
              try clear c46b1
              try clear hx147_0
              try clear hx29_0
              try clear p147
              try clear p2
              try clear p29
              try clear p6
              try clear q1
              try clear q11
              try clear q147
              try clear q29
              try clear q40
              obtain ⟨x9_1, x10_1, rfl, HA, HK1, HO_7, HO_9, HB⟩ := hrel
              have hl9_1 := (Kd.R_reads' HO_9.out).1
              rw [hl9_1] at HO_9
              (try simp only [hl9_1])
              (try simp only [hl9_1] at HO_7)
              cases gk with
              | zero => exact absurd HA.out (by simp [bordereaulaw1_CrcTurns.l100])
              | succ k1 =>
                have H := HA.out
                clear HA
                simp only [bordereaulaw1_CrcTurns.l100] at H
                by_cases c57 : x10_1 < 4
                · rw [if_pos c57] at H
                  have c57b0 : decide (x10_1 < 4) = true := decide_eq_true c57
                  clear c57
                  obtain ⟨ji58, hji58⟩ : ∃ j_ : Int, (wrap64 ((wrap64 (4 + (Int.tmod (wrap64 ((wrap64 ((Int.tmod a1 (wrap64 ((y169.length : Int) - 3))) + (y169.length : Int))) - 3)) (wrap64 ((y169.length : Int) - 3))))) + x10_1)) = j_ := ⟨_, rfl⟩
                  replace H : (if 0 ≤ (ji58) then (if (ji58) < (x9_1.length : Int) then (if 0 ≤ (IntKind.u64.wrap (wrap64 (8 * x10_1))) then (bordereaulaw1_CrcTurns.l100 k1 a2 y169 (Int.tmod (wrap64 ((wrap64 ((Int.tmod a1 (wrap64 ((y169.length : Int) - 3))) + (y169.length : Int))) - 3)) (wrap64 ((y169.length : Int) - 3))) (x9_1.set ((ji58) : Int).toNat (Go.bits .xor .u8 (rd x9_1 (ji58)) ((shr .u32 a2 (IntKind.u64.wrap (wrap64 (8 * x10_1)))) % 256))) (wrap64 (x10_1 + 1))) else (none)) else (none)) else (none)) = some r := by first | (rw [hji58] at H; exact H) | (simp only [hji58] at H ⊢; exact H)
                  have hji58w : (IntKind.i64.wrap ((wrap64 (4 + (Int.tmod (wrap64 ((wrap64 ((Int.tmod a1 (wrap64 ((y169.length : Int) - 3))) + (y169.length : Int))) - 3)) (wrap64 ((y169.length : Int) - 3))))) + x10_1)) = ji58 := (i64_w _).trans hji58
                  by_cases c59 : 0 ≤ (ji58)
                  · rw [if_pos c59] at H
                    have c59b0 : decide (0 ≤ (ji58)) = true := decide_eq_true c59
                    clear c59
                    by_cases c60 : (ji58) < (x9_1.length : Int)
                    · rw [if_pos c60] at H
                      have c60b0 : decide ((ji58) < (x9_1.length : Int)) = true := decide_eq_true c60
                      clear c60
                      obtain ⟨ji61, hji61⟩ : ∃ j_ : Int, (IntKind.u64.wrap (wrap64 (8 * x10_1))) = j_ := ⟨_, rfl⟩
                      replace H : (if 0 ≤ (ji61) then (bordereaulaw1_CrcTurns.l100 k1 a2 y169 (Int.tmod (wrap64 ((wrap64 ((Int.tmod a1 (wrap64 ((y169.length : Int) - 3))) + (y169.length : Int))) - 3)) (wrap64 ((y169.length : Int) - 3))) (x9_1.set ((ji58) : Int).toNat (Go.bits .xor .u8 (rd x9_1 (ji58)) ((shr .u32 a2 (ji61)) % 256))) (wrap64 (x10_1 + 1))) else (none)) = some r := by first | (rw [hji61] at H; exact H) | (simp only [hji61] at H ⊢; exact H)
                      by_cases c62 : 0 ≤ (ji61)
                      · rw [if_pos c62] at H
                        have c62b0 := eq_true c62
                        have c62b1 : decide (0 ≤ (ji61)) = true := decide_eq_true c62
                        clear c62
                        obtain ⟨ji63, hji63⟩ : ∃ j_ : Int, (shr .u32 a2 (ji61)) = j_ := ⟨_, rfl⟩
                        replace H : (bordereaulaw1_CrcTurns.l100 k1 a2 y169 (Int.tmod (wrap64 ((wrap64 ((Int.tmod a1 (wrap64 ((y169.length : Int) - 3))) + (y169.length : Int))) - 3)) (wrap64 ((y169.length : Int) - 3))) (x9_1.set ((ji58) : Int).toNat (Go.bits .xor .u8 (rd x9_1 (ji58)) ((ji63) % 256))) (wrap64 (x10_1 + 1))) = some r := by first | (rw [hji63] at H; exact H) | (simp only [hji63] at H ⊢; exact H)
                        have hji63_ : (a2 / 2 ^ min (ji61).toNat 32) = ji63 := hji63
                        have hji63z : (ji61) ≤ 32 → (a2 / 2 ^ (ji61).toNat) = ji63 := shr_small hji63
                        obtain ⟨y176, hy176⟩ : ∃ y_ : List Int, y_ = (x9_1.set ((ji58) : Int).toNat (Go.bits .xor .u8 (rd x9_1 (ji58)) ((ji63) % 256))) := ⟨_, rfl⟩
                        replace H : (bordereaulaw1_CrcTurns.l100 k1 a2 y169 (Int.tmod (wrap64 ((wrap64 ((Int.tmod a1 (wrap64 ((y169.length : Int) - 3))) + (y169.length : Int))) - 3)) (wrap64 ((y169.length : Int) - 3))) y176 (wrap64 (x10_1 + 1))) = some r := by first | (rw [hy176]; with_reducible exact H) | (have H2_ := (Option.bind_some _ _).symm.trans H; rw [hy176]; with_reducible exact H2_) | (have H2_ := (Option.bind_some _ _).symm.trans H; with_reducible exact H2_) | with_reducible exact H | (rw [hy176]; exact H) | exact H
                        have Ny176 := Aside0.mk hy176
                        clear hy176
                        have H' := Aside0.mk H
                        clear H
                        have p175 : 0 ≤ ((ji58) : Int) := of_decide_eq_true (by first | (with_reducible assumption) | assumption)
                        have q175 : (ji58) < (x9_1.length : Int) := of_decide_eq_true (by first | (with_reducible assumption) | assumption)
                        obtain ⟨ad175, e175, hx175_0⟩ := Kd.at_int (Kd.R_reads' HO_9.out).2.2 (ji58) p175 q175
                        cases e175
                        replace p175 := eq_true p175
                        replace q175 := eq_true q175
                        have p64 : 0 ≤ ((ji58) : Int) := of_decide_eq_true (by first | (with_reducible assumption) | assumption)
                        have q64 : ((ji58) : Int) < ((x9_1.length : Int) : Int) := of_decide_eq_true (by first | (with_reducible assumption) | assumption)
                        obtain ⟨go64, co64, eo64, gb64, gl64, cl64, HG64⟩ := Kd.R_form HO_9.out (by omega)
                        (first | cases eo64 | (injection eo64 with ea_ en_ ec_; (first | subst ea_ | (injection ea_ with ea_; subst ea_)); subst ec_; clear en_))
                        have GB64 := Aside0.mk gb64
                        have GG64 := Aside0.mk HG64
                        clear gb64 gl64 HG64
                        (first | simp only [add_plain] at hx175_0 | skip)
                        obtain ⟨hx64_0, hf64_0⟩ := Kd.R_celln 0 HO_9.out ((ji58) : Int) p64 q64
                        replace p64 := eq_true p64
                        replace q64 := eq_true q64
                        have HP65 := Kd.R_putg HO_9.out ((ji58) : Int) (Go.bits .xor .u8 (rd x9_1 (ji58)) ((ji63) % 256))
                        go_wp2_with (first | ((with_reducible refine gate_store (t := 5) (p := 62) rfl ?_); refine store_event (t := 5) (p := 62) (v := ?vo_w66) (w1 := (wr.setCell ⟨go64, ((ji58) : Int).toNat, none⟩ (.int .u8 (Go.bits .xor .u8 (rd x9_1 (ji58)) ((ji63) % 256))))) ?hg ?ho ?hn ?hr ?_; (case ho => rfl); (case hg => rfl); (case hn => rfl); (case hr => first | (go_simp; done) | (go_simp; rfl)); intro w66 hw; have hg : wr.grownBy w66 (some go64) := (by rw [hw]; exact HP65.2); have hp_ : Kd.R (Kd.int .u8) 5 w66 w.heap.size (fun k_ => some k_ ≠ (.slice Ao54 y169.length co54 : Value).ownBlock) (.slice (some ⟨go64, 0, none⟩) x9_1.length co56) y176 := (by rw [hw, Ny176.out]; exact HP65.1); clear HP65; have n0_ := Aside0.mk (Kd.R_after (v := (.slice (some ⟨go64, 0, none⟩) x9_1.length co56)) (v1 := (.slice (some ⟨go64, 0, none⟩) x9_1.length co56)) (ok := (fun _ => True)) (by (with_reducible repeat (first | apply Kd.R_alloc | apply Kd.R_drewN | apply Kd.R_drew)); exact Kd.R_mono HO_7.out (fun _ hk => ⟨trivial, hk⟩)) hg (.inl rfl)); have n1_ := Aside0.mk (hp_); have n2_ := Aside0.mk ((by rw [hw]; exact below_set (HB.out) GB64.out : Below w.heap.size w w66)); clear HO_7; clear HO_9; clear HB; have HO_7 := n0_; have HO_9 := n1_; have HB := n2_; clear n0_ n1_ n2_; clear hg hw hp_))
                        (try simp only [← hl9_1])
                        go_roundg k1
                        case measure => have := HK1.out; omega
                        case rel => exact ⟨(y176), (wrap64 (x10_1 + 1)), (by first | rfl | (simp; done) | (simp [*]; done)), H', ⟨by have := HK1.out; omega⟩, ⟨by (try simp only [hl9_1]); (with_reducible repeat (first | apply Kd.R_alloc | apply Kd.R_drewN | apply Kd.R_drew)); exact Kd.R_mono HO_7.out (fun _ hk => hk.2)⟩, ⟨by (try simp only [hl9_1]); (with_reducible repeat (first | apply Kd.R_alloc | apply Kd.R_drewN | apply Kd.R_drew)); exact HO_9.out⟩, ⟨by repeat (first | (with_reducible first | exact HB.out | apply below_alloc | apply pw_below_drewN | apply below_drew1) | exact HB.out)⟩⟩
                      · rw [if_neg c62] at H
                        exact absurd H (by simp)
                    · rw [if_neg c60] at H
                      exact absurd H (by simp)
                  · rw [if_neg c59] at H
                    exact absurd H (by simp)
                · rw [if_neg c57] at H
                  have c57b0 : decide (x10_1 < 4) = false := decide_eq_false c57
                  clear c57
                  replace H := Option.bind_eq_some_iff.mp H
                  obtain ⟨⟨t177, t178⟩, A670, H⟩ := H
                  replace H : (if (t178 == (a2 == 0)) = true then (if 4 ≤ (x9_1.length : Int) then ((crc_Of.f k1 (x9_1.drop 4)).bind fun t185 => ((crc_Of.f k1 y169).bind fun t186 => (if ((t185 == t186) == (a2 == 0)) = true then ((bordereaulaw1_known.f k1).bind fun t187 => (some t187)) else (none)))) else (none)) else (none)) = some r := H
                  have A67 := Aside0.mk A670
                  clear A670
                  by_cases c68 : (t178 == (a2 == 0)) = true
                  · rw [if_pos c68] at H
                    have c68b0 : (t178 == (a2 == 0)) = true := c68
                    (try (have c68b1 : decide (t178 = (a2 == 0)) = true := by simpa using c68))
                    (try (have c68b2 : (t178 == (a2 == 0)) = true := by simpa using c68))
                    clear c68
                    by_cases c69 : 4 ≤ (x9_1.length : Int)
                    · rw [if_pos c69] at H
                      have c69b0 := eq_true c69
                      have c69b1 : decide (4 ≤ (x9_1.length : Int)) = true := decide_eq_true c69
                      clear c69
                      obtain ⟨y181, hy181⟩ : ∃ y_ : List Int, y_ = (x9_1.drop 4) := ⟨_, rfl⟩
                      replace H : ((crc_Of.f k1 y181).bind fun t185 => ((crc_Of.f k1 y169).bind fun t186 => (if ((t185 == t186) == (a2 == 0)) = true then ((bordereaulaw1_known.f k1).bind fun t187 => (some t187)) else (none)))) = some r := by first | (rw [hy181]; with_reducible exact H) | (have H2_ := (Option.bind_some _ _).symm.trans H; rw [hy181]; with_reducible exact H2_) | (have H2_ := (Option.bind_some _ _).symm.trans H; with_reducible exact H2_) | with_reducible exact H | (rw [hy181]; exact H) | exact H
                      have Ny181 := Aside0.mk hy181
                      clear hy181
                      replace H := Option.bind_eq_some_iff.mp H
                      obtain ⟨t185, A700, H⟩ := H
                      replace H : ((crc_Of.f k1 y169).bind fun t186 => (if ((t185 == t186) == (a2 == 0)) = true then ((bordereaulaw1_known.f k1).bind fun t187 => (some t187)) else (none))) = some r := H
                      have A70 := Aside0.mk A700
                      clear A700
                      replace H := Option.bind_eq_some_iff.mp H
                      obtain ⟨t186, A710, H⟩ := H
                      replace H : (if ((t185 == t186) == (a2 == 0)) = true then ((bordereaulaw1_known.f k1).bind fun t187 => (some t187)) else (none)) = some r := H
                      have A71 := Aside0.mk A710
                      clear A710
                      by_cases c72 : ((t185 == t186) == (a2 == 0)) = true
                      · rw [if_pos c72] at H
                        have c72b0 : ((t185 == t186) == (a2 == 0)) = true := c72
                        (try (have c72b1 : decide ((t185 == t186) = (a2 == 0)) = true := by simpa using c72))
                        (try (have c72b2 : ((t185 == t186) == (a2 == 0)) = true := by simpa using c72))
                        clear c72
                        replace H := Option.bind_eq_some_iff.mp H
                        obtain ⟨t187, A730, H⟩ := H
                        replace H : (some t187) = some r := H
                        have A73 := Aside0.mk A730
                        clear A730
                        obtain rfl := Option.some.inj H
                        go_wp2_with (first | ((with_reducible refine gate_callee (f := 25) rfl ?_); refine goesL_ (some 65) rfl rfl Try.func25 (by kernel_rfl) rfl #[.slice Ao56 x9_1.length co56] rfl (by (try simp only [List.map_toArray, List.map_cons, List.map_nil]); first | done | rfl | (simp only [List.length_drop, List.length_take]; rfl)) ?_; (with_reducible refine (crc_Check.calls k1 _ _ x9_1 t177 t178 _ ?side1 ?side2 A67.out).mono ?_); (case side1 => repeat (first | exact (Kd.R_reads' HO_9.out).2.2 | (with_reducible refine Kd.C_alloc ?_ _) | (with_reducible refine Kd.C_drewN ?_ _) | (with_reducible refine Kd.C_drew ?_))); (case side2 => exact (Kd.R_reads' HO_9.out).2.1); rintro e w74 ⟨v179, rfl, ho0, hb⟩; refine ⟨_, rfl, ?_⟩; have n0_ := Aside0.mk (Kd.R_elder' (by (with_reducible repeat (first | apply Kd.R_alloc | apply Kd.R_drewN | apply Kd.R_drew)); exact HO_7.out) (Kd.R_base ho0) hb); have n1_ := Aside0.mk (Kd.R_elder' (by (with_reducible repeat (first | apply Kd.R_alloc | apply Kd.R_drewN | apply Kd.R_drew)); exact HO_9.out) (Kd.R_base ho0) hb); have n2_ := Aside0.mk (Kd.R_lower (Kd.R_new' (Kd.R_new' ho0 (Kd.R_lt (by (with_reducible repeat (first | apply Kd.R_alloc | apply Kd.R_drewN | apply Kd.R_drew)); exact HO_7.out))) (Kd.R_lt (by (with_reducible repeat (first | apply Kd.R_alloc | apply Kd.R_drewN | apply Kd.R_drew)); exact HO_9.out))) (below_size (by repeat (first | (with_reducible first | exact HB.out | apply below_alloc | apply pw_below_drewN | apply below_drew1) | exact HB.out)))); have n3_ := Aside0.mk (below_step (by repeat (first | (with_reducible first | exact HB.out | apply below_alloc | apply pw_below_drewN | apply below_drew1) | exact HB.out)) hb); clear HO_7; clear HO_9; clear HB; have HO_7 := n0_; have HO_9 := n1_; have HO180 := n2_; have HB := n3_; clear n0_ n1_ n2_ n3_; (try clear hb); (try clear hb2); (try clear hk); (try clear hi); (try clear ho0); have q75 : (4 : Int) ≤ ((x9_1.length : Int) : Int) := of_decide_eq_true (by first | (with_reducible assumption) | assumption); obtain ⟨i075, hi075, _, hsz75, _⟩ := info_parts info5; have hroom75 : x9_1.length ≤ co56 := (Kd.R_reads' HO_9.out).2.1; have hC75 : Kd.C (Kd.int .u8) _ Ao56 x9_1.length x9_1 := (Kd.R_reads' HO_9.out).2.2; have hcut75 := cut_from (P := Try.prog) 29 5 .i64 Try.underlying29 hi075 1 hsz75 Ao56 x9_1.length co56 4 (by omega) q75; have hr75 := Kd.C_drop (m := (4 : Int).toNat) (c := co56) hC75 (by omega) hroom75; obtain ⟨A75, hA75⟩ : ∃ A1, A1 = (if co56 = (4 : Int).toNat then Ao56 else (Ao56 : Option Addr).map (·.add ((4 : Int).toNat * 1))) := ⟨_, rfl⟩; obtain ⟨c75, hc75⟩ : ∃ c1, c1 = co56 - (4 : Int).toNat := ⟨_, rfl⟩; have hy75 : y181.length = x9_1.length - (4 : Int).toNat := (by rw [Ny181.out, List.length_drop] <;> omega); rw [show (x9_1).drop (4 : Int).toNat = y181 from Ny181.out.symm] at hr75; replace hr75 : Kd.C (Kd.int .u8) _ A75 y181.length y181 := (by rw [hA75]; exact hr75); rw [← hy75, ← hA75, ← hc75] at hcut75; have HR184 := Aside0.mk hr75; have HC184 := Aside0.mk (show y181.length ≤ c75 from by rw [hy75, hc75]; exact Nat.sub_le_sub_right hroom75 _); clear hr75 hC75 hroom75 hi075 hsz75 hc75; have KY75 := Aside0.mk hy75; have KA75 := Aside0.mk hA75; clear hy75 hA75; have KL75 := Aside0.mk (show 4 ≤ x9_1.length from by omega); replace q75 := eq_true q75) | (go_at_call 26; (with_reducible refine (crc_Of.calls k1 _ _ y181 t185 _ ?side1 ?side2 A70.out).mono ?_); (case side1 => repeat (first | exact (by repeat (first | (with_reducible exact HR184.out) | (with_reducible refine Kd.C_alloc ?_ _) | (with_reducible refine Kd.C_drewN ?_ _) | (with_reducible refine Kd.C_drew ?_) | exact HR184.out)) | (with_reducible refine Kd.C_alloc ?_ _) | (with_reducible refine Kd.C_drewN ?_ _) | (with_reducible refine Kd.C_drew ?_))); (case side2 => exact HC184.out); rintro e w' ⟨rfl, ⟨nd, rfl⟩⟩) | (go_at_call 26; (with_reducible refine (crc_Of.calls k1 _ _ y169 t186 _ ?side1 ?side2 A71.out).mono ?_); (case side1 => repeat (first | exact (Kd.R_reads' HO_7.out).2.2 | (with_reducible refine Kd.C_alloc ?_ _) | (with_reducible refine Kd.C_drewN ?_ _) | (with_reducible refine Kd.C_drew ?_))); (case side2 => exact (Kd.R_reads' HO_7.out).2.1); rintro e w' ⟨rfl, ⟨nd, rfl⟩⟩) | (go_at_call 22; (with_reducible refine (bordereaulaw1_known.calls k1  t187 _ A73.out).mono ?_); rintro e w76 ⟨rfl, hb⟩; have n0_ := Aside0.mk (Kd.R_below (by (with_reducible repeat (first | apply Kd.R_alloc | apply Kd.R_drewN | apply Kd.R_drew)); exact HO_7.out) hb); have n1_ := Aside0.mk (Kd.R_below (by (with_reducible repeat (first | apply Kd.R_alloc | apply Kd.R_drewN | apply Kd.R_drew)); exact HO_9.out) hb); have n2_ := Aside0.mk (Kd.R_below (by (with_reducible repeat (first | apply Kd.R_alloc | apply Kd.R_drewN | apply Kd.R_drew)); exact HO180.out) hb); have n3_ := Aside0.mk (Kd.C_below (by repeat (first | (with_reducible exact HR184.out) | (with_reducible refine Kd.C_alloc ?_ _) | (with_reducible refine Kd.C_drewN ?_ _) | (with_reducible refine Kd.C_drew ?_) | exact HR184.out)) hb); have n4_ := Aside0.mk (below_step (by repeat (first | (with_reducible first | exact HB.out | apply below_alloc | apply pw_below_drewN | apply below_drew1) | exact HB.out)) hb); clear HO_7; clear HO_9; clear HO180; clear HR184; clear HB; have HO_7 := n0_; have HO_9 := n1_; have HO180 := n2_; have HR184 := n3_; have HB := n4_; clear n0_ n1_ n2_ n3_ n4_; (try clear hb); (try clear hb2); (try clear hk); (try clear hi)))
                        go_ret
                        exact ⟨by first | rfl | (simp [errW_none, errW_some] <;> rfl) | (simp [*, errW_none, errW_some] <;> rfl), by repeat (first | (with_reducible first | exact HB.out | apply below_alloc | apply pw_below_drewN | apply below_drew1) | exact HB.out)⟩
                      · rw [if_neg c72] at H
                        exact absurd H (by simp)
                    · rw [if_neg c69] at H
                      exact absurd H (by simp)
                  · rw [if_neg c68] at H
                    exact absurd H (by simp)
          · rw [if_neg c46] at H
            exact absurd H (by simp)
      · rw [if_neg c43] at H
        exact absurd H (by simp)
    · rw [if_neg c42] at H
      exact absurd H (by simp)

/-- THE ONE PURE STATEMENT of bordereaulaw1_CrcTurns: yours. -/
def bordereaulaw1_CrcTurns.Pure : Prop := ∀ (l0 : List Int) (a1 : Int) (a2 : Int), l0.length ≤ maxLen → l0.length * 1 ≤ 140737488351232 → (∀ x ∈ l0, (Lit.int .u8 x).wf = true) → (Lit.int .i64 a1).wf = true → (Lit.int .u32 a2).wf = true → ∃ k, bordereaulaw1_CrcTurns.f k l0 a1 a2 = some true
theorem bordereaulaw1_CrcTurns.walk (P : bordereaulaw1_CrcTurns.Pure) (a0 : Option Addr) (len0 cap0 : Nat) (z0 : List Int) (a1 : Int) (a2 : Int) (w : World) (w0 : (a0 = none ∧ len0 = 0 ∧ cap0 = 0 ∧ z0 = []) ∨ ∃ x, a0 = some x ∧ len0 ≤ cap0 ∧ cap0 ≤ maxLen ∧ z0.length = cap0 ∧ (∀ i, i < z0.length → w.cell? (x.add i) = some (.int .u8 (z0.getD i 0))) ∧ ∀ n ∈ z0, (Lit.int .u8 n).wf = true) (y0 : len0 * 1 ≤ 140737488351232) (w1 : (Lit.int .i64 a1).wf = true) (w2 : (Lit.int .u32 a2).wf = true) :
    Calls Try.prog 7 #[.slice a0 len0 cap0, .int .i64 a1, .int .u32 a2] w fun e w' => e = .returned (.bool true) ∧ Below w.heap.size w w' := by
  obtain ⟨l0, rfl, hr0, hm0, hw0, hc0⟩ := ReadsInt.ofRowC w0
  obtain ⟨k, h⟩ := P l0 a1 a2 hm0 y0 hw0 w1 w2
  refine (bordereaulaw1_CrcTurns.calls k _ _ l0 a1 a2 true w (Kd.C_of_reads (d := (0 : Int)) (h1 := fun _ => rfl) hr0) hc0 h).mono ?_
  rintro e w' ⟨rfl, hd⟩
  exact ⟨rfl, hd⟩

end Go.Proofs.Ytddgichochdgcaa.PT
