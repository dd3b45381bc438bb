-- Written by a program of this session (wip/print/myprint.sh).
import Derived.Test.YtddgichochdgcaaPMx0
import Derived.Test.YtddgichochdgcaaPMx1
import Derived.Test.YtddgichochdgcaaPMx2
import Derived.Test.YtddgichochdgcaaPMx4
import Derived.Test.YtddgichochdgcaaPMx5
namespace Go.Proofs.Ytddgichochdgcaa.PM
open Go.RowKit Go.Proofs.YtddgichochdgcaaV.PrintWords Go.Proofs.YtddgichochdgcaaV.PrintLast Go.Proofs.YtddgichochdgcaaV.PrintMore
attribute [local go_sem] max2_int min2_int max_two min_two max_three min_three max_four min_four   -- for this text's walks alone
set_option linter.unusedVariables false
set_option linter.unusedSimpArgs false

/-! ### bordereauref1_Back: function 49 -/
def bordereauref1_Back.l0 : Nat → List Int → Int → Int → Option (Int × Bool)
  | 0, _, _, _ => none
  | k + 1, x0, x4, x5 => if x5 < 8 then (if 0 ≤ x5 then (if x5 < (x0.length : Int) then (bordereauref1_Back.l0 k x0 (Go.bits .or .u64 (IntKind.u64.wrap (x4 * 256)) (IntKind.u64.wrap (rd x0 x5))) (wrap64 (x5 + 1))) else (none)) else (none)) else (some (wrap64 (x4), true))
def bordereauref1_Back.f (k : Nat) (l0 : List Int) : Option (Int × Bool) := if (l0.length : Int) < 8 then (some (0, false)) else (bordereauref1_Back.l0 k l0 0 0)
theorem bordereauref1_Back.mono_l : ∀ k, (∀ y0 y1 y2, LeO (bordereauref1_Back.l0 k y0 y1 y2) (bordereauref1_Back.l0 (k + 1) y0 y1 y2))
  | 0 => fun _ _ _ r h => by simp [bordereauref1_Back.l0] at h
  | k + 1 => by
    have ih0 := bordereauref1_Back.mono_l k
    · intro y0 y1 y2
      unfold bordereauref1_Back.l0
      repeat' first
      | (with_reducible exact ih0 _ _ _)
      | (with_reducible exact LeO.refl _)
      | (with_reducible exact LeO.none _)
      | (with_reducible refine LeO.ite ?_ ?_)
      | (with_reducible refine LeO.bind ?_ (fun _ => ?_))
      | exact ih0 _ _ _
      | exact LeO.none _
      | refine LeO.ite ?_ ?_
      | refine LeO.bind ?_ (fun _ => ?_)
theorem bordereauref1_Back.mono : ∀ a0 k, LeO (bordereauref1_Back.f k a0) (bordereauref1_Back.f (k + 1) a0) := by
  intro a0 k
  have ih0 := bordereauref1_Back.mono_l k
  unfold bordereauref1_Back.f
  repeat' first
      | (with_reducible exact ih0 _ _ _)
      | (with_reducible exact LeO.refl _)
      | (with_reducible exact LeO.none _)
      | (with_reducible refine LeO.ite ?_ ?_)
      | (with_reducible refine LeO.bind ?_ (fun _ => ?_))
      | exact ih0 _ _ _
      | exact LeO.none _
      | refine LeO.ite ?_ ?_
      | refine LeO.bind ?_ (fun _ => ?_)
set_option maxHeartbeats 8000000 in
set_option maxRecDepth 100000 in
theorem bordereauref1_Back.calls (k : Nat) (A0 : Option Addr) (c0 : Nat) (l0 : List Int) (r1 : Int) (r2 : Bool) (w : World) (hr0 : Kd.C (Kd.int .u8) w A0 l0.length l0) (hc0 : l0.length ≤ c0) (h : bordereauref1_Back.f k l0 = some (r1, r2)) :
    Calls Try.prog 49 #[.slice A0 l0.length c0] w fun e w' => e = .returned (.tuple #[.int .i64 r1, .bool r2]) ∧ Drawn0 w w' := by
  have HR0 := Aside0.mk hr0
  have HC0 := Aside0.mk hc0
  clear hr0 hc0
  have H : (if (l0.length : Int) < 8 then (some (0, false)) else (bordereauref1_Back.l0 k l0 0 0)) = some (r1, r2) := h
  clear h
  by_cases c2 : (l0.length : Int) < 8
  · rw [if_pos c2] at H
    have c2b0 : decide ((l0.length : Int) < 8) = true := decide_eq_true c2
    have c2b1 : decide (l0.length < 8) = true := decide_eq_true (by omega)
    clear c2
    simp only [Option.some.injEq, Prod.mk.injEq] at H
    obtain ⟨rfl, rfl⟩ := H
    go_enter Try.func49, Try.ntmps49
    go_wp2
    go_ret2
    exact ⟨by first | rfl | (simp; done) | (simp [*]; done), by repeat (first | exact Drawn0.refl _ | apply Drawn0.step)⟩
  · rw [if_neg c2] at H
    have c2b0 : decide ((l0.length : Int) < 8) = false := decide_eq_false c2
    have c2b1 : decide (l0.length < 8) = false := decide_eq_false (by omega)
    clear c2
    have H' := Aside0.mk H
    clear H
    go_enter Try.func49, Try.ntmps49
    go_wp2
    go_loopg [4, 5] k (fun kq v4 v5 w' => ∃ (x4_1 : Int) (x5_1 : Int), v4 = .int .u64 x4_1 ∧ v5 = .int .i64 x5_1 ∧ Aside0 (bordereauref1_Back.l0 kq l0 x4_1 x5_1 = some (r1, r2)) ∧ Aside0 (kq ≤ k) ∧ Drawn0 w w')
    case atStart => exact ⟨(0), (0), (by first | rfl | (simp; done) | (simp [*]; done)), (by first | rfl | (simp; done) | (simp [*]; done)), H', ⟨Nat.le_refl _⟩, by repeat (first | exact Drawn0.refl _ | apply Drawn0.step)⟩
    case round =>
      clear H'
      try clear c2
      try clear c2b0
      try clear c2b1
      try clear p2
      obtain ⟨x4_1, x5_1, rfl, rfl, HA, HK1, ⟨m1, rfl⟩⟩ := hrel
      cases gk with
      | zero => exact absurd HA.out (by simp [bordereauref1_Back.l0])
      | succ k1 =>
        have H := HA.out
        clear HA
        simp only [bordereauref1_Back.l0] at H
        by_cases c3 : x5_1 < 8
        · rw [if_pos c3] at H
          have c3b0 : decide (x5_1 < 8) = true := decide_eq_true c3
          clear c3
          by_cases c4 : 0 ≤ x5_1
          · rw [if_pos c4] at H
            have c4b0 : decide (0 ≤ x5_1) = true := decide_eq_true c4
            clear c4
            by_cases c5 : x5_1 < (l0.length : Int)
            · rw [if_pos c5] at H
              have c5b0 : decide (x5_1 < (l0.length : Int)) = true := decide_eq_true c5
              clear c5
              have H' := Aside0.mk H
              clear H
              have p260 : 0 ≤ (x5_1 : Int) := of_decide_eq_true (by first | (with_reducible assumption) | assumption)
              have q260 : x5_1 < (l0.length : Int) := of_decide_eq_true (by first | (with_reducible assumption) | assumption)
              obtain ⟨ad260, e260, hx260_0⟩ := Kd.at_int HR0.out x5_1 p260 q260
              cases e260
              replace p260 := eq_true p260
              replace q260 := eq_true q260
              go_wp2
              go_roundg k1
              case measure => have := HK1.out; omega
              case rel => exact ⟨(Go.bits .or .u64 (IntKind.u64.wrap (x4_1 * 256)) (IntKind.u64.wrap (rd l0 x5_1))), (wrap64 (x5_1 + 1)), (by first | rfl | (simp; done) | (simp [*]; done)), (by first | rfl | (simp; done) | (simp [*]; done)), H', ⟨by have := HK1.out; omega⟩, by repeat (first | exact Drawn0.refl _ | apply Drawn0.step)⟩
            · rw [if_neg c5] at H
              exact absurd H (by simp)
          · rw [if_neg c4] at H
            exact absurd H (by simp)
        · rw [if_neg c3] at H
          have c3b0 : decide (x5_1 < 8) = false := decide_eq_false c3
          clear c3
          simp only [Option.some.injEq, Prod.mk.injEq] at H
          obtain ⟨rfl, rfl⟩ := H
          go_wp2
          go_ret2
          exact ⟨by first | rfl | (simp; done) | (simp [*]; done), by repeat (first | exact Drawn0.refl _ | apply Drawn0.step)⟩

/-! ### bordereaulaw2_reads: function 35 -/
def bordereaulaw2_reads.f (k : Nat) (l0 : List Int) (a1 : Int) : Option (Bool) := (varint_Get.f k l0).bind fun bt261 => ((bordereauref1_Get.f k l0).bind fun bt263 => ((varint_Cut.f k l0 a1).bind fun bt265 => ((bordereauref1_Cut.f k l0 a1).bind fun bt267 => ((varint_Back.f k l0).bind fun bt269 => ((bordereauref1_Back.f k l0).bind fun bt271 => (if bt261.1 = bt263.1 then (if bt261.2 = bt263.2 then (if bt265.1.toList = bt267.1.toList then (if bt265.2 = bt267.2 then (if bt269.1 = bt271.1 then (some (bt269.2 == bt271.2)) else (none)) else (none)) else (none)) else (none)) else (none)))))))
theorem bordereaulaw2_reads.mono : ∀ a0 a1 k, LeO (bordereaulaw2_reads.f k a0 a1) (bordereaulaw2_reads.f (k + 1) a0 a1) := by
  intro a0 a1 k
  unfold bordereaulaw2_reads.f
  repeat' first
      | (with_reducible exact bordereauref1_Back.mono _ _)
      | (with_reducible exact bordereauref1_Cut.mono _ _ _)
      | (with_reducible exact bordereauref1_Get.mono _ _)
      | (with_reducible exact varint_Back.mono _ _)
      | (with_reducible exact varint_Cut.mono _ _ _)
      | (with_reducible exact varint_Get.mono _ _)
      | (with_reducible exact LeO.refl _)
      | (with_reducible exact LeO.none _)
      | (with_reducible refine LeO.ite ?_ ?_)
      | (with_reducible refine LeO.bind ?_ (fun _ => ?_))
      | exact bordereauref1_Back.mono _ _
      | exact bordereauref1_Cut.mono _ _ _
      | exact bordereauref1_Get.mono _ _
      | exact varint_Back.mono _ _
      | exact varint_Cut.mono _ _ _
      | exact varint_Get.mono _ _
      | exact LeO.none _
      | refine LeO.ite ?_ ?_
      | refine LeO.bind ?_ (fun _ => ?_)
set_option maxHeartbeats 8000000 in
set_option maxRecDepth 100000 in
theorem bordereaulaw2_reads.calls (k : Nat) (A0 : Option Addr) (c0 : Nat) (l0 : List Int) (a1 : Int) (r : Bool) (w : World) (hr0 : Kd.C (Kd.int .u8) w A0 l0.length l0) (hc0 : l0.length ≤ c0) (h : bordereaulaw2_reads.f k l0 a1 = some r) :
    Calls Try.prog 35 #[.slice A0 l0.length c0, .int .i64 a1] w fun e w' => e = .returned (.bool r) ∧ Below w.heap.size w w' := by
  have HR0 := Aside0.mk hr0
  have HC0 := Aside0.mk hc0
  clear hr0 hc0
  have HB := Aside0.mk (Below.refl w.heap.size w)
  have H : ((varint_Get.f k l0).bind fun bt261 => ((bordereauref1_Get.f k l0).bind fun bt263 => ((varint_Cut.f k l0 a1).bind fun bt265 => ((bordereauref1_Cut.f k l0 a1).bind fun bt267 => ((varint_Back.f k l0).bind fun bt269 => ((bordereauref1_Back.f k l0).bind fun bt271 => (if bt261.1 = bt263.1 then (if bt261.2 = bt263.2 then (if bt265.1.toList = bt267.1.toList then (if bt265.2 = bt267.2 then (if bt269.1 = bt271.1 then (some (bt269.2 == bt271.2)) else (none)) else (none)) else (none)) else (none)) else (none)))))))) = some r := h
  clear h
  replace H := Option.bind_eq_some_iff.mp H
  obtain ⟨⟨t261, t262⟩, A30, H⟩ := H
  replace H : ((bordereauref1_Get.f k l0).bind fun bt263 => ((varint_Cut.f k l0 a1).bind fun bt265 => ((bordereauref1_Cut.f k l0 a1).bind fun bt267 => ((varint_Back.f k l0).bind fun bt269 => ((bordereauref1_Back.f k l0).bind fun bt271 => (if t261 = bt263.1 then (if t262 = bt263.2 then (if bt265.1.toList = bt267.1.toList then (if bt265.2 = bt267.2 then (if bt269.1 = bt271.1 then (some (bt269.2 == bt271.2)) else (none)) else (none)) else (none)) else (none)) else (none))))))) = some r := H
  have A3 := Aside0.mk A30
  clear A30
  replace H := Option.bind_eq_some_iff.mp H
  obtain ⟨⟨t263, t264⟩, A40, H⟩ := H
  replace H : ((varint_Cut.f k l0 a1).bind fun bt265 => ((bordereauref1_Cut.f k l0 a1).bind fun bt267 => ((varint_Back.f k l0).bind fun bt269 => ((bordereauref1_Back.f k l0).bind fun bt271 => (if t261 = t263 then (if t262 = t264 then (if bt265.1.toList = bt267.1.toList then (if bt265.2 = bt267.2 then (if bt269.1 = bt271.1 then (some (bt269.2 == bt271.2)) else (none)) else (none)) else (none)) else (none)) else (none)))))) = some r := H
  have A4 := Aside0.mk A40
  clear A40
  replace H := Option.bind_eq_some_iff.mp H
  obtain ⟨⟨t265, t266⟩, A50, H⟩ := H
  replace H : ((bordereauref1_Cut.f k l0 a1).bind fun bt267 => ((varint_Back.f k l0).bind fun bt269 => ((bordereauref1_Back.f k l0).bind fun bt271 => (if t261 = t263 then (if t262 = t264 then (if t265.toList = bt267.1.toList then (if t266 = bt267.2 then (if bt269.1 = bt271.1 then (some (bt269.2 == bt271.2)) else (none)) else (none)) else (none)) else (none)) else (none))))) = some r := H
  have A5 := Aside0.mk A50
  clear A50
  replace H := Option.bind_eq_some_iff.mp H
  obtain ⟨⟨t267, t268⟩, A60, H⟩ := H
  replace H : ((varint_Back.f k l0).bind fun bt269 => ((bordereauref1_Back.f k l0).bind fun bt271 => (if t261 = t263 then (if t262 = t264 then (if t265.toList = t267.toList then (if t266 = t268 then (if bt269.1 = bt271.1 then (some (bt269.2 == bt271.2)) else (none)) else (none)) else (none)) else (none)) else (none)))) = some r := H
  have A6 := Aside0.mk A60
  clear A60
  replace H := Option.bind_eq_some_iff.mp H
  obtain ⟨⟨t269, t270⟩, A70, H⟩ := H
  replace H : ((bordereauref1_Back.f k l0).bind fun bt271 => (if t261 = t263 then (if t262 = t264 then (if t265.toList = t267.toList then (if t266 = t268 then (if t269 = bt271.1 then (some (t270 == bt271.2)) else (none)) else (none)) else (none)) else (none)) else (none))) = some r := H
  have A7 := Aside0.mk A70
  clear A70
  replace H := Option.bind_eq_some_iff.mp H
  obtain ⟨⟨t271, t272⟩, A80, H⟩ := H
  replace H : (if t261 = t263 then (if t262 = t264 then (if t265.toList = t267.toList then (if t266 = t268 then (if t269 = t271 then (some (t270 == t272)) else (none)) else (none)) else (none)) else (none)) else (none)) = some r := H
  have A8 := Aside0.mk A80
  clear A80
  by_cases c9 : t261 = t263
  · rw [if_pos c9] at H
    have c9b0 : (t261 == t263) = true := beq_iff_eq.mpr c9
    have c9b1 : (t261 != t263) = false := bne_eq_false_iff_eq.mpr c9
    clear c9
    by_cases c10 : t262 = t264
    · rw [if_pos c10] at H
      have c10b0 : (t262 == t264) = true := beq_iff_eq.mpr c10
      have c10b1 : (t262 != t264) = false := bne_eq_false_iff_eq.mpr c10
      clear c10
      by_cases c11 : t265.toList = t267.toList
      · rw [if_pos c11] at H
        have c11b0 : (t265.toList == t267.toList) = true := beq_iff_eq.mpr c11
        have c11b1 : (t265.toList != t267.toList) = false := bne_eq_false_iff_eq.mpr c11
        clear c11
        by_cases c12 : t266 = t268
        · rw [if_pos c12] at H
          have c12b0 : (t266 == t268) = true := beq_iff_eq.mpr c12
          have c12b1 : (t266 != t268) = false := bne_eq_false_iff_eq.mpr c12
          clear c12
          by_cases c13 : t269 = t271
          · rw [if_pos c13] at H
            have c13b0 : (t269 == t271) = true := beq_iff_eq.mpr c13
            have c13b1 : (t269 != t271) = false := bne_eq_false_iff_eq.mpr c13
            clear c13
            obtain rfl := Option.some.inj H
            go_enter Try.func35, Try.ntmps35
            go_wp2_with (first | ((with_reducible refine gate_callee (f := 29) rfl ?_); refine goesL_ (some 19) rfl rfl Try.func29 (by kernel_rfl) rfl #[.slice A0 l0.length c0] rfl (by (try simp only [List.map_toArray, List.map_cons, List.map_nil]); first | done | rfl | (simp only [List.length_drop, List.length_take]; rfl)) ?_; (with_reducible refine (varint_Get.calls k _ _ l0 t261 t262 _ ?side1 ?side2 A3.out).mono ?_); (case side1 => repeat (first | exact HR0.out | (with_reducible refine Kd.C_alloc ?_ _) | (with_reducible refine Kd.C_drewN ?_ _) | (with_reducible refine Kd.C_drew ?_))); (case side2 => exact HC0.out); rintro e w14 ⟨rfl, hb⟩; refine ⟨_, rfl, ?_⟩; have n0_ := Aside0.mk (below_step (by repeat (first | (with_reducible first | exact HB.out | apply below_alloc | apply pw_below_drewN | apply below_drew1) | exact HB.out)) hb); clear HB; have HB := n0_; clear n0_; (try clear hb); (try clear hb2); (try clear hk); (try clear hi)) | ((with_reducible refine gate_callee (f := 47) rfl ?_); refine goesL_ (some 24) rfl rfl Try.func47 (by kernel_rfl) rfl #[.slice A0 l0.length c0] rfl (by (try simp only [List.map_toArray, List.map_cons, List.map_nil]); first | done | rfl | (simp only [List.length_drop, List.length_take]; rfl)) ?_; (with_reducible refine (bordereauref1_Get.calls k _ _ l0 t263 t264 _ ?side1 ?side2 A4.out).mono ?_); (case side1 => repeat (first | exact (Kd.C_below HR0.out HB.out) | (with_reducible refine Kd.C_alloc ?_ _) | (with_reducible refine Kd.C_drewN ?_ _) | (with_reducible refine Kd.C_drew ?_))); (case side2 => exact HC0.out); rintro e w15 ⟨rfl, hb⟩; refine ⟨_, rfl, ?_⟩; have n0_ := Aside0.mk (below_step (by repeat (first | (with_reducible first | exact HB.out | apply below_alloc | apply pw_below_drewN | apply below_drew1) | exact HB.out)) hb); clear HB; have HB := n0_; clear n0_; (try clear hb); (try clear hb2); (try clear hk); (try clear hi)) | ((with_reducible refine gate_callee (f := 37) rfl ?_); refine goesL_ (some 30) rfl rfl Try.func37 (by kernel_rfl) rfl #[.slice A0 l0.length c0, .int .i64 a1] rfl (by (try simp only [List.map_toArray, List.map_cons, List.map_nil]); first | done | rfl | (simp only [List.length_drop, List.length_take]; rfl)) ?_; (with_reducible refine (varint_Cut.calls k _ _ l0 a1 t265 t266 _ ?side1 ?side2 A5.out).mono ?_); (case side1 => repeat (first | exact (Kd.C_below HR0.out HB.out) | (with_reducible refine Kd.C_alloc ?_ _) | (with_reducible refine Kd.C_drewN ?_ _) | (with_reducible refine Kd.C_drew ?_))); (case side2 => exact HC0.out); rintro e w16 ⟨rfl, hb⟩; refine ⟨_, rfl, ?_⟩; have n0_ := Aside0.mk (below_step (by repeat (first | (with_reducible first | exact HB.out | apply below_alloc | apply pw_below_drewN | apply below_drew1) | exact HB.out)) hb); clear HB; have HB := n0_; clear n0_; (try clear hb); (try clear hb2); (try clear hk); (try clear hi)) | ((with_reducible refine gate_callee (f := 48) rfl ?_); refine goesL_ (some 36) rfl rfl Try.func48 (by kernel_rfl) rfl #[.slice A0 l0.length c0, .int .i64 a1] rfl (by (try simp only [List.map_toArray, List.map_cons, List.map_nil]); first | done | rfl | (simp only [List.length_drop, List.length_take]; rfl)) ?_; (with_reducible refine (bordereauref1_Cut.calls k _ _ l0 a1 t267 t268 _ ?side1 ?side2 A6.out).mono ?_); (case side1 => repeat (first | exact (Kd.C_below HR0.out HB.out) | (with_reducible refine Kd.C_alloc ?_ _) | (with_reducible refine Kd.C_drewN ?_ _) | (with_reducible refine Kd.C_drew ?_))); (case side2 => exact HC0.out); rintro e w17 ⟨rfl, hb⟩; refine ⟨_, rfl, ?_⟩; have n0_ := Aside0.mk (below_step (by repeat (first | (with_reducible first | exact HB.out | apply below_alloc | apply pw_below_drewN | apply below_drew1) | exact HB.out)) hb); clear HB; have HB := n0_; clear n0_; (try clear hb); (try clear hb2); (try clear hk); (try clear hi)) | ((with_reducible refine gate_callee (f := 32) rfl ?_); refine goesL_ (some 41) rfl rfl Try.func32 (by kernel_rfl) rfl #[.slice A0 l0.length c0] rfl (by (try simp only [List.map_toArray, List.map_cons, List.map_nil]); first | done | rfl | (simp only [List.length_drop, List.length_take]; rfl)) ?_; (with_reducible refine (varint_Back.calls k _ _ l0 t269 t270 _ ?side1 ?side2 A7.out).mono ?_); (case side1 => repeat (first | exact (Kd.C_below HR0.out HB.out) | (with_reducible refine Kd.C_alloc ?_ _) | (with_reducible refine Kd.C_drewN ?_ _) | (with_reducible refine Kd.C_drew ?_))); (case side2 => exact HC0.out); rintro e w' ⟨rfl, ⟨nd, rfl⟩⟩; refine ⟨_, rfl, ?_⟩) | ((with_reducible refine gate_callee (f := 49) rfl ?_); refine goesL_ (some 46) rfl rfl Try.func49 (by kernel_rfl) rfl #[.slice A0 l0.length c0] rfl (by (try simp only [List.map_toArray, List.map_cons, List.map_nil]); first | done | rfl | (simp only [List.length_drop, List.length_take]; rfl)) ?_; (with_reducible refine (bordereauref1_Back.calls k _ _ l0 t271 t272 _ ?side1 ?side2 A8.out).mono ?_); (case side1 => repeat (first | exact (Kd.C_below HR0.out (by repeat (first | (with_reducible first | exact HB.out | apply below_alloc | apply pw_below_drewN | apply below_drew1) | exact HB.out))) | (with_reducible refine Kd.C_alloc ?_ _) | (with_reducible refine Kd.C_drewN ?_ _) | (with_reducible refine Kd.C_drew ?_))); (case side2 => exact HC0.out); rintro e w' ⟨rfl, ⟨nd, rfl⟩⟩; refine ⟨_, rfl, ?_⟩))
            go_ret
            exact ⟨by first | rfl | (simp [errW_none, errW_some] <;> rfl) | (simp [*, errW_none, errW_some] <;> rfl), by repeat (first | (with_reducible first | exact HB.out | apply below_alloc | apply pw_below_drewN | apply below_drew1) | exact HB.out)⟩
          · rw [if_neg c13] at H
            exact absurd H (by simp)
        · rw [if_neg c12] at H
          exact absurd H (by simp)
      · rw [if_neg c11] at H
        exact absurd H (by simp)
    · rw [if_neg c10] at H
      exact absurd H (by simp)
  · rw [if_neg c9] at H
    exact absurd H (by simp)

/-! ### bordereaulaw2_VarintTells: function 12 -/
def bordereaulaw2_VarintTells.j0 : Nat → List Int → Int → ByteArray → Int → Int → Option (Bool)
  | 0, _, _, _, _, _ => none
  | k + 1, x0, x1, x2, x3, x4 => (bordereauref1_Put.f k ([] : List Int) x1).bind fun t273 => ((bordereauref1_Text.f k t273 x2).bind fun t276 => (if t276.length + x0.length < 140737488355328 then ((some (t276 ++ x0 : List Int)).bind fun y279 => ((bordereaubook_Within.f k x3 0 (y279.length : Int)).bind fun t282 => ((bordereaulaw2_puts.f k x0 x1 x2).bind fun t283 => (if t283 = true then (if 0 ≤ (IntKind.u64.wrap (Go.bits .and .i64 x1 63)) then ((bordereaulaw2_puts.f k x0 (shr .i64 x1 (IntKind.u64.wrap (Go.bits .and .i64 x1 63))) x2).bind fun t284 => (if t284 = true then ((bordereaulaw2_reads.f k x0 x4).bind fun t285 => (if t285 = true then ((bordereaulaw2_reads.f k y279 (Go.bits .and .i64 x4 63)).bind fun t286 => (if t286 = true then (if 0 ≤ t282 then (if t282 ≤ (y279.length : Int) then ((bordereaulaw2_reads.f k (y279.take (t282 : Int).toNat) 300).bind fun t291 => (if t291 = true then ((bordereaulaw2_reads.f k (y279.drop (t282 : Int).toNat) x4).bind fun t296 => (if t296 = true then ((bordereaulaw2_known.f k).bind fun t297 => (some t297)) else (none))) else (none))) else (none)) else (none)) else (none))) else (none))) else (none))) else (none)) else (none))))) else (none)))
def bordereaulaw2_VarintTells.f (k : Nat) (l0 : List Int) (a1 : Int) (a2 : ByteArray) (a3 : Int) (a4 : Int) : Option (Bool) := if (a2.size : Int) > 200 then (if 0 ≤ 200 then (if 200 ≤ (a2.size : Int) then (bordereaulaw2_VarintTells.j0 k l0 a1 (a2.extract 0 200) a3 a4) else (none)) else (none)) else (bordereaulaw2_VarintTells.j0 k l0 a1 a2 a3 a4)
theorem bordereaulaw2_VarintTells.mono_l : ∀ k, (∀ y0 y1 y2 y3 y4, LeO (bordereaulaw2_VarintTells.j0 k y0 y1 y2 y3 y4) (bordereaulaw2_VarintTells.j0 (k + 1) y0 y1 y2 y3 y4))
  | 0 => fun _ _ _ _ _ r h => by simp [bordereaulaw2_VarintTells.j0] at h
  | k + 1 => by
    have ih0 := bordereaulaw2_VarintTells.mono_l k
    · intro y0 y1 y2 y3 y4
      unfold bordereaulaw2_VarintTells.j0
      repeat' first
      | (with_reducible exact ih0 _ _ _ _ _)
      | (with_reducible exact bordereaubook_Within.mono _ _ _ _)
      | (with_reducible exact bordereaulaw2_known.mono _)
      | (with_reducible exact bordereaulaw2_puts.mono _ _ _ _)
      | (with_reducible exact bordereaulaw2_reads.mono _ _ _)
      | (with_reducible exact bordereauref1_Put.mono _ _ _)
      | (with_reducible exact bordereauref1_Text.mono _ _ _)
      | (with_reducible exact LeO.refl _)
      | (with_reducible exact LeO.none _)
      | (with_reducible refine LeO.ite ?_ ?_)
      | (with_reducible refine LeO.bind ?_ (fun _ => ?_))
      | exact ih0 _ _ _ _ _
      | exact bordereaubook_Within.mono _ _ _ _
      | exact bordereaulaw2_known.mono _
      | exact bordereaulaw2_puts.mono _ _ _ _
      | exact bordereaulaw2_reads.mono _ _ _
      | exact bordereauref1_Put.mono _ _ _
      | exact bordereauref1_Text.mono _ _ _
      | exact LeO.none _
      | refine LeO.ite ?_ ?_
      | refine LeO.bind ?_ (fun _ => ?_)
theorem bordereaulaw2_VarintTells.mono : ∀ a0 a1 a2 a3 a4 k, LeO (bordereaulaw2_VarintTells.f k a0 a1 a2 a3 a4) (bordereaulaw2_VarintTells.f (k + 1) a0 a1 a2 a3 a4) := by
  intro a0 a1 a2 a3 a4 k
  have ih0 := bordereaulaw2_VarintTells.mono_l k
  unfold bordereaulaw2_VarintTells.f
  repeat' first
      | (with_reducible exact ih0 _ _ _ _ _)
      | (with_reducible exact bordereaubook_Within.mono _ _ _ _)
      | (with_reducible exact bordereaulaw2_known.mono _)
      | (with_reducible exact bordereaulaw2_puts.mono _ _ _ _)
      | (with_reducible exact bordereaulaw2_reads.mono _ _ _)
      | (with_reducible exact bordereauref1_Put.mono _ _ _)
      | (with_reducible exact bordereauref1_Text.mono _ _ _)
      | (with_reducible exact LeO.refl _)
      | (with_reducible exact LeO.none _)
      | (with_reducible refine LeO.ite ?_ ?_)
      | (with_reducible refine LeO.bind ?_ (fun _ => ?_))
      | exact ih0 _ _ _ _ _
      | exact bordereaubook_Within.mono _ _ _ _
      | exact bordereaulaw2_known.mono _
      | exact bordereaulaw2_puts.mono _ _ _ _
      | exact bordereaulaw2_reads.mono _ _ _
      | exact bordereauref1_Put.mono _ _ _
      | exact bordereauref1_Text.mono _ _ _
      | exact LeO.none _
      | refine LeO.ite ?_ ?_
      | refine LeO.bind ?_ (fun _ => ?_)
set_option maxHeartbeats 8000000 in
set_option maxRecDepth 100000 in
theorem bordereaulaw2_VarintTells.calls (k : Nat) (A0 : Option Addr) (c0 : Nat) (l0 : List Int) (a1 : Int) (a2 : ByteArray) (a3 : Int) (a4 : Int) (r : Bool) (w : World) (hr0 : Kd.C (Kd.int .u8) w A0 l0.length l0) (hc0 : l0.length ≤ c0) (h : bordereaulaw2_VarintTells.f k l0 a1 a2 a3 a4 = some r) :
    Calls Try.prog 12 #[.slice A0 l0.length c0, .int .i64 a1, .string a2, .int .i64 a3, .int .i64 a4] w fun e w' => e = .returned (.bool r) ∧ Below w.heap.size w w' := by
  have HR0 := Aside0.mk hr0
  have HC0 := Aside0.mk hc0
  clear hr0 hc0
  have HB := Aside0.mk (Below.refl w.heap.size w)
  have H : (if (a2.size : Int) > 200 then (if 0 ≤ 200 then (if 200 ≤ (a2.size : Int) then (bordereaulaw2_VarintTells.j0 k l0 a1 (a2.extract 0 200) a3 a4) else (none)) else (none)) else (bordereaulaw2_VarintTells.j0 k l0 a1 a2 a3 a4)) = some r := h
  clear h
  have HC6 := Aside0.mk H
  clear H
  go_enter Try.func12, Try.ntmps12
  go_upto_if 15 with (fail)
  go_cut [2] (fun v2 wc => ∃ (kq : Nat) (x2_5 : ByteArray), v2 = .string x2_5 ∧ Aside0 (bordereaulaw2_VarintTells.j0 kq l0 a1 x2_5 a3 a4 = some r) ∧ Aside0 (kq ≤ k) ∧ Aside0 (Below w.heap.size w wc))
  case first =>
    have H := HC6.out
    clear HC6
    by_cases c7 : (a2.size : Int) > 200
    · rw [if_pos c7] at H
      have c7b0 : decide (200 < (a2.size : Int)) = true := decide_eq_true c7
      have c7b1 : decide (200 < a2.size) = true := decide_eq_true (by omega)
      clear c7
      (first | rw [c7b0] | (simp only [i64_w, i32_w]; rw [c7b0]) | skip)
      by_cases c8 : 0 ≤ 200
      · rw [if_pos c8] at H
        have c8b0 := eq_true c8
        have c8b1 : decide (0 ≤ 200) = true := decide_eq_true c8
        clear c8
        by_cases c9 : 200 ≤ (a2.size : Int)
        · rw [if_pos c9] at H
          have c9b0 := eq_true c9
          have c9b1 : decide (200 ≤ (a2.size : Int)) = true := decide_eq_true c9
          clear c9
          have H' := Aside0.mk H
          clear H
          go_wp2
          go_meet
          case rel => exact ⟨_, (a2.extract 0 200), (by first | rfl | (simp; done) | (simp [*]; done)), H', ⟨by first | omega | exact Nat.le_refl _⟩, ⟨by repeat (first | (with_reducible first | exact HB.out | apply below_alloc | apply pw_below_drewN | apply below_drew1) | exact HB.out)⟩⟩
        · rw [if_neg c9] at H
          exact absurd H (by simp)
      · rw [if_neg c8] at H
        exact absurd H (by simp)
    · rw [if_neg c7] at H
      have c7b0 : decide (200 < (a2.size : Int)) = false := decide_eq_false c7
      have c7b1 : decide (200 < a2.size) = false := decide_eq_false (by omega)
      clear c7
      (first | rw [c7b0] | (simp only [i64_w, i32_w]; rw [c7b0]) | skip)
      have H' := Aside0.mk H
      clear H
      go_wp2
      go_meet
      case rel => exact ⟨_, (a2), (by first | rfl | (simp; done) | (simp [*]; done)), H', ⟨by first | omega | exact Nat.le_refl _⟩, ⟨by repeat (first | (with_reducible first | exact HB.out | apply below_alloc | apply pw_below_drewN | apply below_drew1) | exact HB.out)⟩⟩
  case rest =>
    clear HC6
    try clear c1
    try clear p2
    try clear c7
    try clear c7b0
    try clear c7b1
    try clear c8
    try clear c8b0
    try clear c8b1
    try clear c9
    try clear c9b0
    try clear c9b1
    obtain ⟨kq, x2_5, rfl, HA, HJ5, HB⟩ := hcut
    cases kq with
    | zero => exact absurd HA.out (by simp [bordereaulaw2_VarintTells.j0])
    | succ kj5 =>
      have H := HA.out
      clear HA
      simp only [bordereaulaw2_VarintTells.j0] at H
      replace H := Option.bind_eq_some_iff.mp H
      obtain ⟨t273, A100, H⟩ := H
      replace H : ((bordereauref1_Text.f kj5 t273 x2_5).bind fun t276 => (if t276.length + l0.length < 140737488355328 then ((some (t276 ++ l0 : List Int)).bind fun y279 => ((bordereaubook_Within.f kj5 a3 0 (y279.length : Int)).bind fun t282 => ((bordereaulaw2_puts.f kj5 l0 a1 x2_5).bind fun t283 => (if t283 = true then (if 0 ≤ (IntKind.u64.wrap (Go.bits .and .i64 a1 63)) then ((bordereaulaw2_puts.f kj5 l0 (shr .i64 a1 (IntKind.u64.wrap (Go.bits .and .i64 a1 63))) x2_5).bind fun t284 => (if t284 = true then ((bordereaulaw2_reads.f kj5 l0 a4).bind fun t285 => (if t285 = true then ((bordereaulaw2_reads.f kj5 y279 (Go.bits .and .i64 a4 63)).bind fun t286 => (if t286 = true then (if 0 ≤ t282 then (if t282 ≤ (y279.length : Int) then ((bordereaulaw2_reads.f kj5 (y279.take (t282 : Int).toNat) 300).bind fun t291 => (if t291 = true then ((bordereaulaw2_reads.f kj5 (y279.drop (t282 : Int).toNat) a4).bind fun t296 => (if t296 = true then ((bordereaulaw2_known.f kj5).bind fun t297 => (some t297)) else (none))) else (none))) else (none)) else (none)) else (none))) else (none))) else (none))) else (none)) else (none))))) else (none))) = some r := H
      have A10 := Aside0.mk A100
      clear A100
      replace H := Option.bind_eq_some_iff.mp H
      obtain ⟨t276, A110, H⟩ := H
      replace H : (if t276.length + l0.length < 140737488355328 then ((some (t276 ++ l0 : List Int)).bind fun y279 => ((bordereaubook_Within.f kj5 a3 0 (y279.length : Int)).bind fun t282 => ((bordereaulaw2_puts.f kj5 l0 a1 x2_5).bind fun t283 => (if t283 = true then (if 0 ≤ (IntKind.u64.wrap (Go.bits .and .i64 a1 63)) then ((bordereaulaw2_puts.f kj5 l0 (shr .i64 a1 (IntKind.u64.wrap (Go.bits .and .i64 a1 63))) x2_5).bind fun t284 => (if t284 = true then ((bordereaulaw2_reads.f kj5 l0 a4).bind fun t285 => (if t285 = true then ((bordereaulaw2_reads.f kj5 y279 (Go.bits .and .i64 a4 63)).bind fun t286 => (if t286 = true then (if 0 ≤ t282 then (if t282 ≤ (y279.length : Int) then ((bordereaulaw2_reads.f kj5 (y279.take (t282 : Int).toNat) 300).bind fun t291 => (if t291 = true then ((bordereaulaw2_reads.f kj5 (y279.drop (t282 : Int).toNat) a4).bind fun t296 => (if t296 = true then ((bordereaulaw2_known.f kj5).bind fun t297 => (some t297)) else (none))) else (none))) else (none)) else (none)) else (none))) else (none))) else (none))) else (none)) else (none))))) else (none)) = some r := H
      have A11 := Aside0.mk A110
      clear A110
      by_cases c12 : t276.length + l0.length < 140737488355328
      · rw [if_pos c12] at H
        have LMc12 := Aside0.mk c12
        clear c12
        obtain ⟨y279, hy279⟩ : ∃ y_ : List Int, y_ = (t276 ++ l0) := ⟨_, rfl⟩
        replace H : ((bordereaubook_Within.f kj5 a3 0 (y279.length : Int)).bind fun t282 => ((bordereaulaw2_puts.f kj5 l0 a1 x2_5).bind fun t283 => (if t283 = true then (if 0 ≤ (IntKind.u64.wrap (Go.bits .and .i64 a1 63)) then ((bordereaulaw2_puts.f kj5 l0 (shr .i64 a1 (IntKind.u64.wrap (Go.bits .and .i64 a1 63))) x2_5).bind fun t284 => (if t284 = true then ((bordereaulaw2_reads.f kj5 l0 a4).bind fun t285 => (if t285 = true then ((bordereaulaw2_reads.f kj5 y279 (Go.bits .and .i64 a4 63)).bind fun t286 => (if t286 = true then (if 0 ≤ t282 then (if t282 ≤ (y279.length : Int) then ((bordereaulaw2_reads.f kj5 (y279.take (t282 : Int).toNat) 300).bind fun t291 => (if t291 = true then ((bordereaulaw2_reads.f kj5 (y279.drop (t282 : Int).toNat) a4).bind fun t296 => (if t296 = true then ((bordereaulaw2_known.f kj5).bind fun t297 => (some t297)) else (none))) else (none))) else (none)) else (none)) else (none))) else (none))) else (none))) else (none)) else (none)))) = some r := by first | (rw [hy279]; with_reducible exact H) | (have H2_ := (Option.bind_some _ _).symm.trans H; rw [hy279]; with_reducible exact H2_) | (have H2_ := (Option.bind_some _ _).symm.trans H; with_reducible exact H2_) | with_reducible exact H | (rw [hy279]; exact H) | exact H
        have Ny279 := Aside0.mk hy279
        clear hy279
        replace H := Option.bind_eq_some_iff.mp H
        obtain ⟨t282, A130, H⟩ := H
        replace H : ((bordereaulaw2_puts.f kj5 l0 a1 x2_5).bind fun t283 => (if t283 = true then (if 0 ≤ (IntKind.u64.wrap (Go.bits .and .i64 a1 63)) then ((bordereaulaw2_puts.f kj5 l0 (shr .i64 a1 (IntKind.u64.wrap (Go.bits .and .i64 a1 63))) x2_5).bind fun t284 => (if t284 = true then ((bordereaulaw2_reads.f kj5 l0 a4).bind fun t285 => (if t285 = true then ((bordereaulaw2_reads.f kj5 y279 (Go.bits .and .i64 a4 63)).bind fun t286 => (if t286 = true then (if 0 ≤ t282 then (if t282 ≤ (y279.length : Int) then ((bordereaulaw2_reads.f kj5 (y279.take (t282 : Int).toNat) 300).bind fun t291 => (if t291 = true then ((bordereaulaw2_reads.f kj5 (y279.drop (t282 : Int).toNat) a4).bind fun t296 => (if t296 = true then ((bordereaulaw2_known.f kj5).bind fun t297 => (some t297)) else (none))) else (none))) else (none)) else (none)) else (none))) else (none))) else (none))) else (none)) else (none))) = some r := H
        have A13 := Aside0.mk A130
        clear A130
        replace H := Option.bind_eq_some_iff.mp H
        obtain ⟨t283, A140, H⟩ := H
        replace H : (if t283 = true then (if 0 ≤ (IntKind.u64.wrap (Go.bits .and .i64 a1 63)) then ((bordereaulaw2_puts.f kj5 l0 (shr .i64 a1 (IntKind.u64.wrap (Go.bits .and .i64 a1 63))) x2_5).bind fun t284 => (if t284 = true then ((bordereaulaw2_reads.f kj5 l0 a4).bind fun t285 => (if t285 = true then ((bordereaulaw2_reads.f kj5 y279 (Go.bits .and .i64 a4 63)).bind fun t286 => (if t286 = true then (if 0 ≤ t282 then (if t282 ≤ (y279.length : Int) then ((bordereaulaw2_reads.f kj5 (y279.take (t282 : Int).toNat) 300).bind fun t291 => (if t291 = true then ((bordereaulaw2_reads.f kj5 (y279.drop (t282 : Int).toNat) a4).bind fun t296 => (if t296 = true then ((bordereaulaw2_known.f kj5).bind fun t297 => (some t297)) else (none))) else (none))) else (none)) else (none)) else (none))) else (none))) else (none))) else (none)) else (none)) = some r := H
        have A14 := Aside0.mk A140
        clear A140
        by_cases c15 : t283 = true
        · subst c15
          have H1 : (if 0 ≤ (IntKind.u64.wrap (Go.bits .and .i64 a1 63)) then ((bordereaulaw2_puts.f kj5 l0 (shr .i64 a1 (IntKind.u64.wrap (Go.bits .and .i64 a1 63))) x2_5).bind fun t284 => (if t284 = true then ((bordereaulaw2_reads.f kj5 l0 a4).bind fun t285 => (if t285 = true then ((bordereaulaw2_reads.f kj5 y279 (Go.bits .and .i64 a4 63)).bind fun t286 => (if t286 = true then (if 0 ≤ t282 then (if t282 ≤ (y279.length : Int) then ((bordereaulaw2_reads.f kj5 (y279.take (t282 : Int).toNat) 300).bind fun t291 => (if t291 = true then ((bordereaulaw2_reads.f kj5 (y279.drop (t282 : Int).toNat) a4).bind fun t296 => (if t296 = true then ((bordereaulaw2_known.f kj5).bind fun t297 => (some t297)) else (none))) else (none))) else (none)) else (none)) else (none))) else (none))) else (none))) else (none)) = some r := by rw [if_pos rfl] at H; exact H
          clear H
          have H := H1
          clear H1
          obtain ⟨ji16, hji16⟩ : ∃ j_ : Int, (IntKind.u64.wrap (Go.bits .and .i64 a1 63)) = j_ := ⟨_, rfl⟩
          replace H : (if 0 ≤ (ji16) then ((bordereaulaw2_puts.f kj5 l0 (shr .i64 a1 (ji16)) x2_5).bind fun t284 => (if t284 = true then ((bordereaulaw2_reads.f kj5 l0 a4).bind fun t285 => (if t285 = true then ((bordereaulaw2_reads.f kj5 y279 (Go.bits .and .i64 a4 63)).bind fun t286 => (if t286 = true then (if 0 ≤ t282 then (if t282 ≤ (y279.length : Int) then ((bordereaulaw2_reads.f kj5 (y279.take (t282 : Int).toNat) 300).bind fun t291 => (if t291 = true then ((bordereaulaw2_reads.f kj5 (y279.drop (t282 : Int).toNat) a4).bind fun t296 => (if t296 = true then ((bordereaulaw2_known.f kj5).bind fun t297 => (some t297)) else (none))) else (none))) else (none)) else (none)) else (none))) else (none))) else (none))) else (none)) = some r := by first | (rw [hji16] at H; exact H) | (simp only [hji16] at H ⊢; exact H)
          (try rw [hji16] at A10)
          (try rw [hji16] at A11)
          (try rw [hji16] at A13)
          (try rw [hji16] at A14)
          by_cases c17 : 0 ≤ (ji16)
          · rw [if_pos c17] at H
            have c17b0 := eq_true c17
            have c17b1 : decide (0 ≤ (ji16)) = true := decide_eq_true c17
            clear c17
            obtain ⟨ji18, hji18⟩ : ∃ j_ : Int, (shr .i64 a1 (ji16)) = j_ := ⟨_, rfl⟩
            replace H : ((bordereaulaw2_puts.f kj5 l0 (ji18) x2_5).bind fun t284 => (if t284 = true then ((bordereaulaw2_reads.f kj5 l0 a4).bind fun t285 => (if t285 = true then ((bordereaulaw2_reads.f kj5 y279 (Go.bits .and .i64 a4 63)).bind fun t286 => (if t286 = true then (if 0 ≤ t282 then (if t282 ≤ (y279.length : Int) then ((bordereaulaw2_reads.f kj5 (y279.take (t282 : Int).toNat) 300).bind fun t291 => (if t291 = true then ((bordereaulaw2_reads.f kj5 (y279.drop (t282 : Int).toNat) a4).bind fun t296 => (if t296 = true then ((bordereaulaw2_known.f kj5).bind fun t297 => (some t297)) else (none))) else (none))) else (none)) else (none)) else (none))) else (none))) else (none))) = some r := by first | (rw [hji18] at H; exact H) | (simp only [hji18] at H ⊢; exact H)
            (try rw [hji18] at A10)
            (try rw [hji18] at A11)
            (try rw [hji18] at A13)
            (try rw [hji18] at A14)
            have hji18_ : (a1 / 2 ^ min (ji16).toNat 64) = ji18 := hji18
            have hji18z : (ji16) ≤ 64 → (a1 / 2 ^ (ji16).toNat) = ji18 := shr_small hji18
            replace H := Option.bind_eq_some_iff.mp H
            obtain ⟨t284, A190, H⟩ := H
            replace H : (if t284 = true then ((bordereaulaw2_reads.f kj5 l0 a4).bind fun t285 => (if t285 = true then ((bordereaulaw2_reads.f kj5 y279 (Go.bits .and .i64 a4 63)).bind fun t286 => (if t286 = true then (if 0 ≤ t282 then (if t282 ≤ (y279.length : Int) then ((bordereaulaw2_reads.f kj5 (y279.take (t282 : Int).toNat) 300).bind fun t291 => (if t291 = true then ((bordereaulaw2_reads.f kj5 (y279.drop (t282 : Int).toNat) a4).bind fun t296 => (if t296 = true then ((bordereaulaw2_known.f kj5).bind fun t297 => (some t297)) else (none))) else (none))) else (none)) else (none)) else (none))) else (none))) else (none)) = some r := H
            have A19 := Aside0.mk A190
            clear A190
            by_cases c20 : t284 = true
            · subst c20
              have H1 : ((bordereaulaw2_reads.f kj5 l0 a4).bind fun t285 => (if t285 = true then ((bordereaulaw2_reads.f kj5 y279 (Go.bits .and .i64 a4 63)).bind fun t286 => (if t286 = true then (if 0 ≤ t282 then (if t282 ≤ (y279.length : Int) then ((bordereaulaw2_reads.f kj5 (y279.take (t282 : Int).toNat) 300).bind fun t291 => (if t291 = true then ((bordereaulaw2_reads.f kj5 (y279.drop (t282 : Int).toNat) a4).bind fun t296 => (if t296 = true then ((bordereaulaw2_known.f kj5).bind fun t297 => (some t297)) else (none))) else (none))) else (none)) else (none)) else (none))) else (none))) = some r := by rw [if_pos rfl] at H; exact H
              clear H
              have H := H1
              clear H1
              replace H := Option.bind_eq_some_iff.mp H
              obtain ⟨t285, A210, H⟩ := H
              replace H : (if t285 = true then ((bordereaulaw2_reads.f kj5 y279 (Go.bits .and .i64 a4 63)).bind fun t286 => (if t286 = true then (if 0 ≤ t282 then (if t282 ≤ (y279.length : Int) then ((bordereaulaw2_reads.f kj5 (y279.take (t282 : Int).toNat) 300).bind fun t291 => (if t291 = true then ((bordereaulaw2_reads.f kj5 (y279.drop (t282 : Int).toNat) a4).bind fun t296 => (if t296 = true then ((bordereaulaw2_known.f kj5).bind fun t297 => (some t297)) else (none))) else (none))) else (none)) else (none)) else (none))) else (none)) = some r := H
              have A21 := Aside0.mk A210
              clear A210
              by_cases c22 : t285 = true
              · subst c22
                have H1 : ((bordereaulaw2_reads.f kj5 y279 (Go.bits .and .i64 a4 63)).bind fun t286 => (if t286 = true then (if 0 ≤ t282 then (if t282 ≤ (y279.length : Int) then ((bordereaulaw2_reads.f kj5 (y279.take (t282 : Int).toNat) 300).bind fun t291 => (if t291 = true then ((bordereaulaw2_reads.f kj5 (y279.drop (t282 : Int).toNat) a4).bind fun t296 => (if t296 = true then ((bordereaulaw2_known.f kj5).bind fun t297 => (some t297)) else (none))) else (none))) else (none)) else (none)) else (none))) = some r := by rw [if_pos rfl] at H; exact H
                clear H
                have H := H1
                clear H1
                replace H := Option.bind_eq_some_iff.mp H
                obtain ⟨t286, A230, H⟩ := H
                replace H : (if t286 = true then (if 0 ≤ t282 then (if t282 ≤ (y279.length : Int) then ((bordereaulaw2_reads.f kj5 (y279.take (t282 : Int).toNat) 300).bind fun t291 => (if t291 = true then ((bordereaulaw2_reads.f kj5 (y279.drop (t282 : Int).toNat) a4).bind fun t296 => (if t296 = true then ((bordereaulaw2_known.f kj5).bind fun t297 => (some t297)) else (none))) else (none))) else (none)) else (none)) else (none)) = some r := H
                have A23 := Aside0.mk A230
                clear A230
                by_cases c24 : t286 = true
                · subst c24
                  have H1 : (if 0 ≤ t282 then (if t282 ≤ (y279.length : Int) then ((bordereaulaw2_reads.f kj5 (y279.take (t282 : Int).toNat) 300).bind fun t291 => (if t291 = true then ((bordereaulaw2_reads.f kj5 (y279.drop (t282 : Int).toNat) a4).bind fun t296 => (if t296 = true then ((bordereaulaw2_known.f kj5).bind fun t297 => (some t297)) else (none))) else (none))) else (none)) else (none)) = some r := by rw [if_pos rfl] at H; exact H
                  clear H
                  have H := H1
                  clear H1
                  by_cases c25 : 0 ≤ t282
                  · rw [if_pos c25] at H
                    have c25b0 := eq_true c25
                    have c25b1 : decide (0 ≤ t282) = true := decide_eq_true c25
                    clear c25
                    by_cases c26 : t282 ≤ (y279.length : Int)
                    · rw [if_pos c26] at H
                      have c26b0 := eq_true c26
                      have c26b1 : decide (t282 ≤ (y279.length : Int)) = true := decide_eq_true c26
                      clear c26
                      obtain ⟨y287, hy287⟩ : ∃ y_ : List Int, y_ = (y279.take (t282 : Int).toNat) := ⟨_, rfl⟩
                      replace H : ((bordereaulaw2_reads.f kj5 y287 300).bind fun t291 => (if t291 = true then ((bordereaulaw2_reads.f kj5 (y279.drop (t282 : Int).toNat) a4).bind fun t296 => (if t296 = true then ((bordereaulaw2_known.f kj5).bind fun t297 => (some t297)) else (none))) else (none))) = some r := by first | (rw [hy287]; with_reducible exact H) | (have H2_ := (Option.bind_some _ _).symm.trans H; rw [hy287]; with_reducible exact H2_) | (have H2_ := (Option.bind_some _ _).symm.trans H; with_reducible exact H2_) | with_reducible exact H | (rw [hy287]; exact H) | exact H
                      have Ny287 := Aside0.mk hy287
                      clear hy287
                      replace H := Option.bind_eq_some_iff.mp H
                      obtain ⟨t291, A270, H⟩ := H
                      replace H : (if t291 = true then ((bordereaulaw2_reads.f kj5 (y279.drop (t282 : Int).toNat) a4).bind fun t296 => (if t296 = true then ((bordereaulaw2_known.f kj5).bind fun t297 => (some t297)) else (none))) else (none)) = some r := H
                      have A27 := Aside0.mk A270
                      clear A270
                      by_cases c28 : t291 = true
                      · subst c28
                        have H1 : ((bordereaulaw2_reads.f kj5 (y279.drop (t282 : Int).toNat) a4).bind fun t296 => (if t296 = true then ((bordereaulaw2_known.f kj5).bind fun t297 => (some t297)) else (none))) = some r := by rw [if_pos rfl] at H; exact H
                        clear H
                        have H := H1
                        clear H1
                        have c29b0 := eq_true (of_decide_eq_true (by first | (with_reducible assumption) | assumption) : 0 ≤ t282)
                        have c30b0 := eq_true (of_decide_eq_true (by first | (with_reducible assumption) | assumption) : t282 ≤ (y279.length : Int))
                        obtain ⟨y292, hy292⟩ : ∃ y_ : List Int, y_ = (y279.drop (t282 : Int).toNat) := ⟨_, rfl⟩
                        replace H : ((bordereaulaw2_reads.f kj5 y292 a4).bind fun t296 => (if t296 = true then ((bordereaulaw2_known.f kj5).bind fun t297 => (some t297)) else (none))) = some r := by first | (rw [hy292]; with_reducible exact H) | (have H2_ := (Option.bind_some _ _).symm.trans H; rw [hy292]; with_reducible exact H2_) | (have H2_ := (Option.bind_some _ _).symm.trans H; with_reducible exact H2_) | with_reducible exact H | (rw [hy292]; exact H) | exact H
                        have Ny292 := Aside0.mk hy292
                        clear hy292
                        replace H := Option.bind_eq_some_iff.mp H
                        obtain ⟨t296, A310, H⟩ := H
                        replace H : (if t296 = true then ((bordereaulaw2_known.f kj5).bind fun t297 => (some t297)) else (none)) = some r := H
                        have A31 := Aside0.mk A310
                        clear A310
                        by_cases c32 : t296 = true
                        · subst c32
                          have H1 : ((bordereaulaw2_known.f kj5).bind fun t297 => (some t297)) = some r := by rw [if_pos rfl] at H; exact H
                          clear H
                          have H := H1
                          clear H1
                          replace H := Option.bind_eq_some_iff.mp H
                          obtain ⟨t297, A330, H⟩ := H
                          replace H : (some t297) = some r := H
                          have A33 := Aside0.mk A330
                          clear A330
                          obtain rfl := Option.some.inj H
                          go_wp2_with (first | ((with_reducible refine gate_callee (f := 33) rfl ?_); refine goesL_ (some 19) rfl rfl Try.func33 (by kernel_rfl) rfl #[.slice none 0 0, .int .i64 a1] rfl (by (try simp only [List.map_toArray, List.map_cons, List.map_nil]); first | done | rfl | (simp only [List.length_drop, List.length_take]; rfl)) ?_; (refine (bordereauref1_Put.calls kj5 _ _ ([] : List Int) a1 t273 _ ?side1 ?side2 A10.out).mono ?_); (case side1 => exact Kd.C_nil _ _); (case side2 => exact Nat.le_refl _); rintro e w34 ⟨v274, rfl, ho0, hb⟩; refine ⟨_, rfl, ?_⟩; have n0_ := Aside0.mk (Kd.R_lower ho0 (below_size (by repeat (first | (with_reducible first | exact HB.out | apply below_alloc | apply pw_below_drewN | apply below_drew1) | exact HB.out)))); have n1_ := Aside0.mk (below_step (by repeat (first | (with_reducible first | exact HB.out | apply below_alloc | apply pw_below_drewN | apply below_drew1) | exact HB.out)) hb); clear HB; have HO275 := n0_; have HB := n1_; clear n0_ n1_; (try clear hb); (try clear hb2); (try clear hk); (try clear hi); (try clear ho0); obtain ⟨Ao35, co35, eo35⟩ := Kd.R_slice HO275.out; subst eo35) | ((with_reducible refine gate_callee (f := 36) rfl ?_); refine goesL_ (some 21) rfl rfl Try.func36 (by kernel_rfl) rfl #[.slice Ao35 t273.length co35, .string x2_5] rfl (by (try simp only [List.map_toArray, List.map_cons, List.map_nil]); first | done | rfl | (simp only [List.length_drop, List.length_take]; rfl)) ?_; (with_reducible refine (bordereauref1_Text.calls kj5 _ _ t273 x2_5 t276 _ ?side1 ?side2 A11.out).mono ?_); (case side1 => repeat (first | exact (Kd.R_reads' HO275.out).2.2 | (with_reducible refine Kd.C_alloc ?_ _) | (with_reducible refine Kd.C_drewN ?_ _) | (with_reducible refine Kd.C_drew ?_))); (case side2 => exact (Kd.R_reads' HO275.out).2.1); rintro e w36 ⟨v277, rfl, ho0, hb⟩; refine ⟨_, rfl, ?_⟩; have n0_ := Aside0.mk (Kd.R_elder' (by (with_reducible repeat (first | apply Kd.R_alloc | apply Kd.R_drewN | apply Kd.R_drew)); exact HO275.out) (Kd.R_base ho0) hb); have n1_ := Aside0.mk (Kd.R_lower (Kd.R_new' ho0 (Kd.R_lt (by (with_reducible repeat (first | apply Kd.R_alloc | apply Kd.R_drewN | apply Kd.R_drew)); exact HO275.out))) (below_size (by repeat (first | (with_reducible first | exact HB.out | apply below_alloc | apply pw_below_drewN | apply below_drew1) | exact HB.out)))); have n2_ := Aside0.mk (below_step (by repeat (first | (with_reducible first | exact HB.out | apply below_alloc | apply pw_below_drewN | apply below_drew1) | exact HB.out)) hb); clear HO275; clear HB; have HO275 := n0_; have HO278 := n1_; have HB := n2_; clear n0_ n1_ n2_; (try clear hb); (try clear hb2); (try clear hk); (try clear hi); (try clear ho0)) | ((with_reducible refine gate_builtin (b := .append) (xs := #[.tmp 21, .tmp 22]) rfl ?_); at_builtin; refine Kd.R_append_rows (Kd.int .u8) (w0 := w) w.heap.size rfl (.tmp 21) (.tmp 22) 29 5 (.int .u8 0) 1 rfl Try.underlying29 info5 rfl (by decide) (by omega) v277 t276 l0 _ _ _ (fun k_ => some k_ ≠ (.slice Ao35 t273.length co35 : Value).ownBlock) (fun _ => False) rfl rfl ?aO ?aR (fun _ _ h => h) (fun _ h => h.elim) ?aF ?aB ?aS ?aL ?_; (case aR => repeat (first | exact (Kd.C_below HR0.out HB.out) | (with_reducible refine Kd.C_alloc ?_ _) | (with_reducible refine Kd.C_drewN ?_ _) | (with_reducible refine Kd.C_drew ?_))); (case aB => exact (by repeat (first | (with_reducible first | exact HB.out | apply below_alloc | apply pw_below_drewN | apply below_drew1) | exact HB.out))); (case aF => exact (fun k_ hk => Kd.fresh' (Kd.R_lt (by (with_reducible repeat (first | apply Kd.R_alloc | apply Kd.R_drewN | apply Kd.R_drew)); exact HO275.out)) k_ hk)); (case aO => exact (by (with_reducible repeat (first | apply Kd.R_alloc | apply Kd.R_drewN | apply Kd.R_drew)); exact Kd.R_mono HO278.out (fun _ hk => hk.2))); (case aS => exact (below_size (by repeat (first | (with_reducible first | exact HB.out | apply below_alloc | apply pw_below_drewN | apply below_drew1) | exact HB.out)))); (case aL => have := LMc12.out; omega); intro v280 w37 ho hb hg hat; rw [← Ny279.out] at ho; have n0_ := Aside0.mk (Kd.R_after (ok := (fun _ => True)) (by (with_reducible repeat (first | apply Kd.R_alloc | apply Kd.R_drewN | apply Kd.R_drew)); exact HO275.out) hg hat); have n1_ := Aside0.mk (hb); have n2_ := Aside0.mk (ho); clear HO275; clear HB; clear HO278; have HO275 := n0_; have HB := n1_; have HO281 := n2_; clear n0_ n1_ n2_; clear ho hb hg hat; obtain ⟨Ao38, co38, eo38⟩ := Kd.R_slice HO281.out; subst eo38) | ((with_reducible refine gate_callee (f := 23) rfl ?_); refine goesL_ (some 27) rfl rfl Try.func23 (by kernel_rfl) rfl #[.int .i64 a3, .int .i64 0, .int .i64 (y279.length : Int)] rfl (by (try simp only [List.map_toArray, List.map_cons, List.map_nil]); first | done | rfl | (simp only [List.length_drop, List.length_take]; rfl)) ?_; (with_reducible refine (bordereaubook_Within.calls kj5 a3 0 (y279.length : Int) t282 _ A13.out).mono ?_); rintro e w' ⟨rfl, ⟨nd, rfl⟩⟩; refine ⟨_, rfl, ?_⟩) | ((with_reducible refine gate_callee (f := 34) rfl ?_); refine goesL_ (some 31) rfl rfl Try.func34 (by kernel_rfl) rfl #[.slice A0 l0.length c0, .int .i64 a1, .string x2_5] rfl (by (try simp only [List.map_toArray, List.map_cons, List.map_nil]); first | done | rfl | (simp only [List.length_drop, List.length_take]; rfl)) ?_; (with_reducible refine (bordereaulaw2_puts.calls kj5 _ _ l0 a1 x2_5 true _ ?side1 ?side2 A14.out).mono ?_); (case side1 => repeat (first | exact (Kd.C_below HR0.out (by repeat (first | (with_reducible first | exact HB.out | apply below_alloc | apply pw_below_drewN | apply below_drew1) | exact HB.out))) | (with_reducible refine Kd.C_alloc ?_ _) | (with_reducible refine Kd.C_drewN ?_ _) | (with_reducible refine Kd.C_drew ?_))); (case side2 => exact HC0.out); rintro e w39 ⟨rfl, hb⟩; refine ⟨_, rfl, ?_⟩; have n0_ := Aside0.mk (Kd.R_below (by (with_reducible repeat (first | apply Kd.R_alloc | apply Kd.R_drewN | apply Kd.R_drew)); exact HO275.out) hb); have n1_ := Aside0.mk (Kd.R_below (by (with_reducible repeat (first | apply Kd.R_alloc | apply Kd.R_drewN | apply Kd.R_drew)); exact HO281.out) hb); have n2_ := Aside0.mk (below_step (by repeat (first | (with_reducible first | exact HB.out | apply below_alloc | apply pw_below_drewN | apply below_drew1) | exact HB.out)) hb); clear HO275; clear HO281; clear HB; have HO275 := n0_; have HO281 := n1_; have HB := n2_; clear n0_ n1_ n2_; (try clear hb); (try clear hb2); (try clear hk); (try clear hi)) | (go_at_call 34; (with_reducible refine (bordereaulaw2_puts.calls kj5 _ _ l0 ji18 x2_5 true _ ?side1 ?side2 A19.out).mono ?_); (case side1 => repeat (first | exact (Kd.C_below HR0.out HB.out) | (with_reducible refine Kd.C_alloc ?_ _) | (with_reducible refine Kd.C_drewN ?_ _) | (with_reducible refine Kd.C_drew ?_))); (case side2 => exact HC0.out); rintro e w40 ⟨rfl, hb⟩; have n0_ := Aside0.mk (Kd.R_below (by (with_reducible repeat (first | apply Kd.R_alloc | apply Kd.R_drewN | apply Kd.R_drew)); exact HO275.out) hb); have n1_ := Aside0.mk (Kd.R_below (by (with_reducible repeat (first | apply Kd.R_alloc | apply Kd.R_drewN | apply Kd.R_drew)); exact HO281.out) hb); have n2_ := Aside0.mk (below_step (by repeat (first | (with_reducible first | exact HB.out | apply below_alloc | apply pw_below_drewN | apply below_drew1) | exact HB.out)) hb); clear HO275; clear HO281; clear HB; have HO275 := n0_; have HO281 := n1_; have HB := n2_; clear n0_ n1_ n2_; (try clear hb); (try clear hb2); (try clear hk); (try clear hi)) | (go_at_call 35; (with_reducible refine (bordereaulaw2_reads.calls kj5 _ _ l0 a4 true _ ?side1 ?side2 A21.out).mono ?_); (case side1 => repeat (first | exact (Kd.C_below HR0.out HB.out) | (with_reducible refine Kd.C_alloc ?_ _) | (with_reducible refine Kd.C_drewN ?_ _) | (with_reducible refine Kd.C_drew ?_))); (case side2 => exact HC0.out); rintro e w41 ⟨rfl, hb⟩; have n0_ := Aside0.mk (Kd.R_below (by (with_reducible repeat (first | apply Kd.R_alloc | apply Kd.R_drewN | apply Kd.R_drew)); exact HO275.out) hb); have n1_ := Aside0.mk (Kd.R_below (by (with_reducible repeat (first | apply Kd.R_alloc | apply Kd.R_drewN | apply Kd.R_drew)); exact HO281.out) hb); have n2_ := Aside0.mk (below_step (by repeat (first | (with_reducible first | exact HB.out | apply below_alloc | apply pw_below_drewN | apply below_drew1) | exact HB.out)) hb); clear HO275; clear HO281; clear HB; have HO275 := n0_; have HO281 := n1_; have HB := n2_; clear n0_ n1_ n2_; (try clear hb); (try clear hb2); (try clear hk); (try clear hi)) | (go_at_call 35; (with_reducible refine (bordereaulaw2_reads.calls kj5 _ _ y279 (Go.bits .and .i64 a4 63) true _ ?side1 ?side2 A23.out).mono ?_); (case side1 => repeat (first | exact (Kd.R_reads' HO281.out).2.2 | (with_reducible refine Kd.C_alloc ?_ _) | (with_reducible refine Kd.C_drewN ?_ _) | (with_reducible refine Kd.C_drew ?_))); (case side2 => exact (Kd.R_reads' HO281.out).2.1); rintro e w42 ⟨rfl, hb⟩; have n0_ := Aside0.mk (Kd.R_below (by (with_reducible repeat (first | apply Kd.R_alloc | apply Kd.R_drewN | apply Kd.R_drew)); exact HO275.out) hb); have n1_ := Aside0.mk (Kd.R_below (by (with_reducible repeat (first | apply Kd.R_alloc | apply Kd.R_drewN | apply Kd.R_drew)); exact HO281.out) hb); have n2_ := Aside0.mk (below_step (by repeat (first | (with_reducible first | exact HB.out | apply below_alloc | apply pw_below_drewN | apply below_drew1) | exact HB.out)) hb); clear HO275; clear HO281; clear HB; have HO275 := n0_; have HO281 := n1_; have HB := n2_; clear n0_ n1_ n2_; (try clear hb); (try clear hb2); (try clear hk); (try clear hi); have q43 : (t282 : Int) ≤ ((y279.length : Int) : Int) := of_decide_eq_true (by first | (with_reducible assumption) | assumption); obtain ⟨i043, hi043, _, hsz43, _⟩ := info_parts info5; have hroom43 : y279.length ≤ co38 := (Kd.R_reads' HO281.out).2.1; have hC43 : Kd.C (Kd.int .u8) _ Ao38 y279.length y279 := (Kd.R_reads' HO281.out).2.2; have hcut43 := cut_to (P := Try.prog) 29 5 .i64 Try.underlying29 hi043 Ao38 y279.length co38 t282 (of_decide_eq_true (by first | (with_reducible assumption) | assumption)) q43 hroom43; have hr43 := Kd.C_take (m := (t282 : Int).toNat) hC43 (by omega); have hy43 : y287.length = (t282 : Int).toNat := (by rw [Ny287.out, List.length_take]; omega); rw [← Ny287.out] at hr43; rw [← hy43] at hcut43; have HR290 := Aside0.mk hr43; have HC290 := Aside0.mk (show y287.length ≤ co38 from by omega); clear hr43 hC43 hroom43 hi043 hsz43; have KY43 := Aside0.mk hy43; clear hy43; have KL43 := Aside0.mk (show (t282 : Int).toNat ≤ y279.length from by omega); replace q43 := eq_true q43) | (go_at_call 35; (with_reducible refine (bordereaulaw2_reads.calls kj5 _ _ y287 300 true _ ?side1 ?side2 A27.out).mono ?_); (case side1 => repeat (first | exact (by repeat (first | (with_reducible exact HR290.out) | (with_reducible refine Kd.C_alloc ?_ _) | (with_reducible refine Kd.C_drewN ?_ _) | (with_reducible refine Kd.C_drew ?_) | exact HR290.out)) | (with_reducible refine Kd.C_alloc ?_ _) | (with_reducible refine Kd.C_drewN ?_ _) | (with_reducible refine Kd.C_drew ?_))); (case side2 => exact HC290.out); rintro e w44 ⟨rfl, hb⟩; have n0_ := Aside0.mk (Kd.R_below (by (with_reducible repeat (first | apply Kd.R_alloc | apply Kd.R_drewN | apply Kd.R_drew)); exact HO275.out) hb); have n1_ := Aside0.mk (Kd.R_below (by (with_reducible repeat (first | apply Kd.R_alloc | apply Kd.R_drewN | apply Kd.R_drew)); exact HO281.out) hb); have n2_ := Aside0.mk (Kd.C_below (by repeat (first | (with_reducible exact HR290.out) | (with_reducible refine Kd.C_alloc ?_ _) | (with_reducible refine Kd.C_drewN ?_ _) | (with_reducible refine Kd.C_drew ?_) | exact HR290.out)) hb); have n3_ := Aside0.mk (below_step (by repeat (first | (with_reducible first | exact HB.out | apply below_alloc | apply pw_below_drewN | apply below_drew1) | exact HB.out)) hb); clear HO275; clear HO281; clear HR290; clear HB; have HO275 := n0_; have HO281 := n1_; have HR290 := n2_; have HB := n3_; clear n0_ n1_ n2_ n3_; (try clear hb); (try clear hb2); (try clear hk); (try clear hi); have q45 : (t282 : Int) ≤ ((y279.length : Int) : Int) := of_decide_eq_true (by first | (with_reducible assumption) | assumption); obtain ⟨i045, hi045, _, hsz45, _⟩ := info_parts info5; have hroom45 : y279.length ≤ co38 := (Kd.R_reads' HO281.out).2.1; have hC45 : Kd.C (Kd.int .u8) _ Ao38 y279.length y279 := (Kd.R_reads' HO281.out).2.2; have q045 : (0 : Int) ≤ (t282 : Int) := of_decide_eq_true (by first | (with_reducible assumption) | assumption); have hcut45 := cut_from (P := Try.prog) 29 5 .i64 Try.underlying29 hi045 1 hsz45 Ao38 y279.length co38 t282 q045 q45; have hr45 := Kd.C_drop (m := (t282 : Int).toNat) (c := co38) hC45 (by omega) hroom45; obtain ⟨A45, hA45⟩ : ∃ A1, A1 = (if co38 = (t282 : Int).toNat then Ao38 else (Ao38 : Option Addr).map (·.add ((t282 : Int).toNat * 1))) := ⟨_, rfl⟩; obtain ⟨c45, hc45⟩ : ∃ c1, c1 = co38 - (t282 : Int).toNat := ⟨_, rfl⟩; have hy45 : y292.length = y279.length - (t282 : Int).toNat := (by rw [Ny292.out, List.length_drop] <;> omega); rw [show (y279).drop (t282 : Int).toNat = y292 from Ny292.out.symm] at hr45; replace hr45 : Kd.C (Kd.int .u8) _ A45 y292.length y292 := (by rw [hA45]; exact hr45); rw [← hy45, ← hA45, ← hc45] at hcut45; have HR295 := Aside0.mk hr45; have HC295 := Aside0.mk (show y292.length ≤ c45 from by rw [hy45, hc45]; exact Nat.sub_le_sub_right hroom45 _); clear hr45 hC45 hroom45 hi045 hsz45 hc45; have KY45 := Aside0.mk hy45; have KA45 := Aside0.mk hA45; clear hy45 hA45; have KL45 := Aside0.mk (show (t282 : Int).toNat ≤ y279.length from by omega); replace q45 := eq_true q45) | (go_at_call 35; (with_reducible refine (bordereaulaw2_reads.calls kj5 _ _ y292 a4 true _ ?side1 ?side2 A31.out).mono ?_); (case side1 => repeat (first | exact (by repeat (first | (with_reducible exact HR295.out) | (with_reducible refine Kd.C_alloc ?_ _) | (with_reducible refine Kd.C_drewN ?_ _) | (with_reducible refine Kd.C_drew ?_) | exact HR295.out)) | (with_reducible refine Kd.C_alloc ?_ _) | (with_reducible refine Kd.C_drewN ?_ _) | (with_reducible refine Kd.C_drew ?_))); (case side2 => exact HC295.out); rintro e w46 ⟨rfl, hb⟩; have n0_ := Aside0.mk (Kd.R_below (by (with_reducible repeat (first | apply Kd.R_alloc | apply Kd.R_drewN | apply Kd.R_drew)); exact HO275.out) hb); have n1_ := Aside0.mk (Kd.R_below (by (with_reducible repeat (first | apply Kd.R_alloc | apply Kd.R_drewN | apply Kd.R_drew)); exact HO281.out) hb); have n2_ := Aside0.mk (Kd.C_below (by repeat (first | (with_reducible exact HR290.out) | (with_reducible refine Kd.C_alloc ?_ _) | (with_reducible refine Kd.C_drewN ?_ _) | (with_reducible refine Kd.C_drew ?_) | exact HR290.out)) hb); have n3_ := Aside0.mk (Kd.C_below (by repeat (first | (with_reducible exact HR295.out) | (with_reducible refine Kd.C_alloc ?_ _) | (with_reducible refine Kd.C_drewN ?_ _) | (with_reducible refine Kd.C_drew ?_) | exact HR295.out)) hb); have n4_ := Aside0.mk (below_step (by repeat (first | (with_reducible first | exact HB.out | apply below_alloc | apply pw_below_drewN | apply below_drew1) | exact HB.out)) hb); clear HO275; clear HO281; clear HR290; clear HR295; clear HB; have HO275 := n0_; have HO281 := n1_; have HR290 := n2_; have HR295 := n3_; have HB := n4_; clear n0_ n1_ n2_ n3_ n4_; (try clear hb); (try clear hb2); (try clear hk); (try clear hi)) | (go_at_call 30; (with_reducible refine (bordereaulaw2_known.calls kj5  t297 _ A33.out).mono ?_); rintro e w47 ⟨rfl, hb⟩; have n0_ := Aside0.mk (Kd.R_below (by (with_reducible repeat (first | apply Kd.R_alloc | apply Kd.R_drewN | apply Kd.R_drew)); exact HO275.out) hb); have n1_ := Aside0.mk (Kd.R_below (by (with_reducible repeat (first | apply Kd.R_alloc | apply Kd.R_drewN | apply Kd.R_drew)); exact HO281.out) hb); have n2_ := Aside0.mk (Kd.C_below (by repeat (first | (with_reducible exact HR290.out) | (with_reducible refine Kd.C_alloc ?_ _) | (with_reducible refine Kd.C_drewN ?_ _) | (with_reducible refine Kd.C_drew ?_) | exact HR290.out)) hb); have n3_ := Aside0.mk (Kd.C_below (by repeat (first | (with_reducible exact HR295.out) | (with_reducible refine Kd.C_alloc ?_ _) | (with_reducible refine Kd.C_drewN ?_ _) | (with_reducible refine Kd.C_drew ?_) | exact HR295.out)) hb); have n4_ := Aside0.mk (below_step (by repeat (first | (with_reducible first | exact HB.out | apply below_alloc | apply pw_below_drewN | apply below_drew1) | exact HB.out)) hb); clear HO275; clear HO281; clear HR290; clear HR295; clear HB; have HO275 := n0_; have HO281 := n1_; have HR290 := n2_; have HR295 := n3_; have HB := n4_; clear n0_ n1_ n2_ n3_ n4_; (try clear hb); (try clear hb2); (try clear hk); (try clear hi)))
                          go_ret
                          exact ⟨by first | rfl | (simp [errW_none, errW_some] <;> rfl) | (simp only [← hji16, ← hji18]; first | rfl | (simp [errW_none, errW_some] <;> rfl)) | (simp [*, errW_none, errW_some] <;> rfl), by repeat (first | (with_reducible first | exact HB.out | apply below_alloc | apply pw_below_drewN | apply below_drew1) | exact HB.out)⟩
                        · replace c32 := Bool.eq_false_iff.mpr c32
                          subst c32
                          have H1 : (none) = some r := by rw [if_neg (show ¬ (false = true) by decide)] at H; exact H
                          clear H
                          have H := H1
                          clear H1
                          exact absurd H (by simp)
                      · replace c28 := Bool.eq_false_iff.mpr c28
                        subst c28
                        have H1 : (none) = some r := by rw [if_neg (show ¬ (false = true) by decide)] at H; exact H
                        clear H
                        have H := H1
                        clear H1
                        exact absurd H (by simp)
                    · rw [if_neg c26] at H
                      exact absurd H (by simp)
                  · rw [if_neg c25] at H
                    exact absurd H (by simp)
                · replace c24 := Bool.eq_false_iff.mpr c24
                  subst c24
                  have H1 : (none) = some r := by rw [if_neg (show ¬ (false = true) by decide)] at H; exact H
                  clear H
                  have H := H1
                  clear H1
                  exact absurd H (by simp)
              · replace c22 := Bool.eq_false_iff.mpr c22
                subst c22
                have H1 : (none) = some r := by rw [if_neg (show ¬ (false = true) by decide)] at H; exact H
                clear H
                have H := H1
                clear H1
                exact absurd H (by simp)
            · replace c20 := Bool.eq_false_iff.mpr c20
              subst c20
              have H1 : (none) = some r := by rw [if_neg (show ¬ (false = true) by decide)] at H; exact H
              clear H
              have H := H1
              clear H1
              exact absurd H (by simp)
          · rw [if_neg c17] at H
            exact absurd H (by simp)
        · replace c15 := Bool.eq_false_iff.mpr c15
          subst c15
          have H1 : (none) = some r := by rw [if_neg (show ¬ (false = true) by decide)] at H; exact H
          clear H
          have H := H1
          clear H1
          exact absurd H (by simp)
      · rw [if_neg c12] at H
        exact absurd H (by simp)

/-- THE ONE PURE STATEMENT of bordereaulaw2_VarintTells: yours. -/
def bordereaulaw2_VarintTells.Pure : Prop := ∀ (l0 : List Int) (a1 : Int) (a2 : ByteArray) (a3 : Int) (a4 : Int), l0.length ≤ maxLen → l0.length * 1 ≤ 140737488351232 → (∀ x ∈ l0, (Lit.int .u8 x).wf = true) → (Lit.int .i64 a1).wf = true → a2.size ≤ 140737488351232 → (Lit.int .i64 a3).wf = true → (Lit.int .i64 a4).wf = true → ∃ k, bordereaulaw2_VarintTells.f k l0 a1 a2 a3 a4 = some true
theorem bordereaulaw2_VarintTells.walk (P : bordereaulaw2_VarintTells.Pure) (a0 : Option Addr) (len0 cap0 : Nat) (z0 : List Int) (a1 : Int) (a2 : ByteArray) (a3 : Int) (a4 : Int) (w : World) (w0 : (a0 = none ∧ len0 = 0 ∧ cap0 = 0 ∧ z0 = []) ∨ ∃ x, a0 = some x ∧ len0 ≤ cap0 ∧ cap0 ≤ maxLen ∧ z0.length = cap0 ∧ (∀ i, i < z0.length → w.cell? (x.add i) = some (.int .u8 (z0.getD i 0))) ∧ ∀ n ∈ z0, (Lit.int .u8 n).wf = true) (y0 : len0 * 1 ≤ 140737488351232) (w1 : (Lit.int .i64 a1).wf = true) (w2 : a2.size ≤ 140737488351232) (w3 : (Lit.int .i64 a3).wf = true) (w4 : (Lit.int .i64 a4).wf = true) :
    Calls Try.prog 12 #[.slice a0 len0 cap0, .int .i64 a1, .string a2, .int .i64 a3, .int .i64 a4] w fun e w' => e = .returned (.bool true) ∧ Below w.heap.size w w' := by
  obtain ⟨l0, rfl, hr0, hm0, hw0, hc0⟩ := ReadsInt.ofRowC w0
  obtain ⟨k, h⟩ := P l0 a1 a2 a3 a4 hm0 y0 hw0 w1 w2 w3 w4
  refine (bordereaulaw2_VarintTells.calls k _ _ l0 a1 a2 a3 a4 true w (Kd.C_of_reads (d := (0 : Int)) (h1 := fun _ => rfl) hr0) hc0 h).mono ?_
  rintro e w' ⟨rfl, hd⟩
  exact ⟨rfl, hd⟩

/-! ### bordereaulaw2_VarintBack: function 13 -/
def bordereaulaw2_VarintBack.j0 : Nat → Int → ByteArray → List Int → Option (Bool)
  | 0, _, _, _ => none
  | k + 1, x0, x1, x2 => (varint_Put.f k ([] : List Int) x0).bind fun t298 => ((some (([] : List Int) : List Int)).bind fun y301 => (if y301.length + t298.length < 140737488355328 then ((some (y301 ++ t298 : List Int)).bind fun y304 => (if y304.length + x2.length < 140737488355328 then ((varint_Get.f k (y304 ++ x2)).bind fun bt310 => ((varint_Text.f k ([] : List Int) x1).bind fun t312 => (if t312.length + x2.length < 140737488355328 then ((varint_Cut.f k (t312 ++ x2) (x1.size : Int)).bind fun bt318 => ((varint_Text.f k ([] : List Int) x1).bind fun t320 => ((varint_Cut.f k t320 (wrap64 ((x1.size : Int) - 1))).bind fun bt323 => ((varint_Long.f k ([] : List Int) x0).bind fun t325 => (if t325.length + x2.length < 140737488355328 then ((varint_Back.f k (t325 ++ x2)).bind fun bt331 => (if (t298.length : Int) = 0 then (none) else (if 0 ≤ (wrap64 ((t298.length : Int) - 1)) then (if (wrap64 ((t298.length : Int) - 1)) ≤ (t298.length : Int) then ((varint_Get.f k (t298.take ((wrap64 ((t298.length : Int) - 1)) : Int).toNat)).bind fun bt337 => (if bt310.1 = x0 then (if bt310.2 = (t298.length : Int) then (if (t298.length : Int) ≤ 10 then (if bt318.1.toList = x1.toList then (if bt318.2 > (x1.size : Int) then (if bt323.2 = 0 then (if bt331.1 = x0 then (if bt331.2 = true then (if bt337.2 = 0 then ((bordereaulaw2_known.f k).bind fun t339 => (some t339)) else (none)) else (none)) else (none)) else (none)) else (none)) else (none)) else (none)) else (none)) else (none))) else (none)) else (none)))) else (none)))))) else (none)))) else (none))) else (none)))
def bordereaulaw2_VarintBack.f (k : Nat) (a0 : Int) (a1 : ByteArray) (l2 : List Int) : Option (Bool) := if (a1.size : Int) > 100 then (if 0 ≤ 100 then (if 100 ≤ (a1.size : Int) then (bordereaulaw2_VarintBack.j0 k a0 (a1.extract 0 100) l2) else (none)) else (none)) else (bordereaulaw2_VarintBack.j0 k a0 a1 l2)
theorem bordereaulaw2_VarintBack.mono_l : ∀ k, (∀ y0 y1 y2, LeO (bordereaulaw2_VarintBack.j0 k y0 y1 y2) (bordereaulaw2_VarintBack.j0 (k + 1) y0 y1 y2))
  | 0 => fun _ _ _ r h => by simp [bordereaulaw2_VarintBack.j0] at h
  | k + 1 => by
    have ih0 := bordereaulaw2_VarintBack.mono_l k
    · intro y0 y1 y2
      unfold bordereaulaw2_VarintBack.j0
      repeat' first
      | (with_reducible exact ih0 _ _ _)
      | (with_reducible exact bordereaulaw2_known.mono _)
      | (with_reducible exact varint_Back.mono _ _)
      | (with_reducible exact varint_Cut.mono _ _ _)
      | (with_reducible exact varint_Get.mono _ _)
      | (with_reducible exact varint_Long.mono _ _ _)
      | (with_reducible exact varint_Put.mono _ _ _)
      | (with_reducible exact varint_Text.mono _ _ _)
      | (with_reducible exact LeO.refl _)
      | (with_reducible exact LeO.none _)
      | (with_reducible refine LeO.ite ?_ ?_)
      | (with_reducible refine LeO.bind ?_ (fun _ => ?_))
      | exact ih0 _ _ _
      | exact bordereaulaw2_known.mono _
      | exact varint_Back.mono _ _
      | exact varint_Cut.mono _ _ _
      | exact varint_Get.mono _ _
      | exact varint_Long.mono _ _ _
      | exact varint_Put.mono _ _ _
      | exact varint_Text.mono _ _ _
      | exact LeO.none _
      | refine LeO.ite ?_ ?_
      | refine LeO.bind ?_ (fun _ => ?_)
theorem bordereaulaw2_VarintBack.mono : ∀ a0 a1 a2 k, LeO (bordereaulaw2_VarintBack.f k a0 a1 a2) (bordereaulaw2_VarintBack.f (k + 1) a0 a1 a2) := by
  intro a0 a1 a2 k
  have ih0 := bordereaulaw2_VarintBack.mono_l k
  unfold bordereaulaw2_VarintBack.f
  repeat' first
      | (with_reducible exact ih0 _ _ _)
      | (with_reducible exact bordereaulaw2_known.mono _)
      | (with_reducible exact varint_Back.mono _ _)
      | (with_reducible exact varint_Cut.mono _ _ _)
      | (with_reducible exact varint_Get.mono _ _)
      | (with_reducible exact varint_Long.mono _ _ _)
      | (with_reducible exact varint_Put.mono _ _ _)
      | (with_reducible exact varint_Text.mono _ _ _)
      | (with_reducible exact LeO.refl _)
      | (with_reducible exact LeO.none _)
      | (with_reducible refine LeO.ite ?_ ?_)
      | (with_reducible refine LeO.bind ?_ (fun _ => ?_))
      | exact ih0 _ _ _
      | exact bordereaulaw2_known.mono _
      | exact varint_Back.mono _ _
      | exact varint_Cut.mono _ _ _
      | exact varint_Get.mono _ _
      | exact varint_Long.mono _ _ _
      | exact varint_Put.mono _ _ _
      | exact varint_Text.mono _ _ _
      | exact LeO.none _
      | refine LeO.ite ?_ ?_
      | refine LeO.bind ?_ (fun _ => ?_)
set_option maxHeartbeats 8000000 in
set_option maxRecDepth 100000 in
theorem bordereaulaw2_VarintBack.calls (k : Nat) (a0 : Int) (a1 : ByteArray) (A2 : Option Addr) (c2 : Nat) (l2 : List Int) (r : Bool) (w : World) (hr2 : Kd.C (Kd.int .u8) w A2 l2.length l2) (hc2 : l2.length ≤ c2) (h : bordereaulaw2_VarintBack.f k a0 a1 l2 = some r) :
    Calls Try.prog 13 #[.int .i64 a0, .string a1, .slice A2 l2.length c2] w fun e w' => e = .returned (.bool r) ∧ Below w.heap.size w w' := by
  have HR2 := Aside0.mk hr2
  have HC2 := Aside0.mk hc2
  clear hr2 hc2
  have HB := Aside0.mk (Below.refl w.heap.size w)
  have H : (if (a1.size : Int) > 100 then (if 0 ≤ 100 then (if 100 ≤ (a1.size : Int) then (bordereaulaw2_VarintBack.j0 k a0 (a1.extract 0 100) l2) else (none)) else (none)) else (bordereaulaw2_VarintBack.j0 k a0 a1 l2)) = some r := h
  clear h
  have HC4 := Aside0.mk H
  clear H
  go_enter Try.func13, Try.ntmps13
  go_upto_if 20 with (fail)
  go_cut [1] (fun v1 wc => ∃ (kq : Nat) (x1_3 : ByteArray), v1 = .string x1_3 ∧ Aside0 (bordereaulaw2_VarintBack.j0 kq a0 x1_3 l2 = some r) ∧ Aside0 (kq ≤ k) ∧ Aside0 (Below w.heap.size w wc))
  case first =>
    have H := HC4.out
    clear HC4
    by_cases c5 : (a1.size : Int) > 100
    · rw [if_pos c5] at H
      have c5b0 : decide (100 < (a1.size : Int)) = true := decide_eq_true c5
      have c5b1 : decide (100 < a1.size) = true := decide_eq_true (by omega)
      clear c5
      (first | rw [c5b0] | (simp only [i64_w, i32_w]; rw [c5b0]) | skip)
      by_cases c6 : 0 ≤ 100
      · rw [if_pos c6] at H
        have c6b0 := eq_true c6
        have c6b1 : decide (0 ≤ 100) = true := decide_eq_true c6
        clear c6
        by_cases c7 : 100 ≤ (a1.size : Int)
        · rw [if_pos c7] at H
          have c7b0 := eq_true c7
          have c7b1 : decide (100 ≤ (a1.size : Int)) = true := decide_eq_true c7
          clear c7
          have H' := Aside0.mk H
          clear H
          go_wp2
          go_meet
          case rel => exact ⟨_, (a1.extract 0 100), (by first | rfl | (simp; done) | (simp [*]; done)), H', ⟨by first | omega | exact Nat.le_refl _⟩, ⟨by repeat (first | (with_reducible first | exact HB.out | apply below_alloc | apply pw_below_drewN | apply below_drew1) | exact HB.out)⟩⟩
        · rw [if_neg c7] at H
          exact absurd H (by simp)
      · rw [if_neg c6] at H
        exact absurd H (by simp)
    · rw [if_neg c5] at H
      have c5b0 : decide (100 < (a1.size : Int)) = false := decide_eq_false c5
      have c5b1 : decide (100 < a1.size) = false := decide_eq_false (by omega)
      clear c5
      (first | rw [c5b0] | (simp only [i64_w, i32_w]; rw [c5b0]) | skip)
      have H' := Aside0.mk H
      clear H
      go_wp2
      go_meet
      case rel => exact ⟨_, (a1), (by first | rfl | (simp; done) | (simp [*]; done)), H', ⟨by first | omega | exact Nat.le_refl _⟩, ⟨by repeat (first | (with_reducible first | exact HB.out | apply below_alloc | apply pw_below_drewN | apply below_drew1) | exact HB.out)⟩⟩
  case rest =>
    clear HC4
    try clear c1
    try clear c2
    try clear p2
    try clear c5
    try clear c5b0
    try clear c5b1
    try clear c6
    try clear c6b0
    try clear c6b1
    try clear c7
    try clear c7b0
    try clear c7b1
    obtain ⟨kq, x1_3, rfl, HA, HJ3, HB⟩ := hcut
    cases kq with
    | zero => exact absurd HA.out (by simp [bordereaulaw2_VarintBack.j0])
    | succ kj3 =>
      have H := HA.out
      clear HA
      simp only [bordereaulaw2_VarintBack.j0] at H
      replace H := Option.bind_eq_some_iff.mp H
      obtain ⟨t298, A80, H⟩ := H
      replace H : ((some (([] : List Int) : List Int)).bind fun y301 => (if y301.length + t298.length < 140737488355328 then ((some (y301 ++ t298 : List Int)).bind fun y304 => (if y304.length + l2.length < 140737488355328 then ((varint_Get.f kj3 (y304 ++ l2)).bind fun bt310 => ((varint_Text.f kj3 ([] : List Int) x1_3).bind fun t312 => (if t312.length + l2.length < 140737488355328 then ((varint_Cut.f kj3 (t312 ++ l2) (x1_3.size : Int)).bind fun bt318 => ((varint_Text.f kj3 ([] : List Int) x1_3).bind fun t320 => ((varint_Cut.f kj3 t320 (wrap64 ((x1_3.size : Int) - 1))).bind fun bt323 => ((varint_Long.f kj3 ([] : List Int) a0).bind fun t325 => (if t325.length + l2.length < 140737488355328 then ((varint_Back.f kj3 (t325 ++ l2)).bind fun bt331 => (if (t298.length : Int) = 0 then (none) else (if 0 ≤ (wrap64 ((t298.length : Int) - 1)) then (if (wrap64 ((t298.length : Int) - 1)) ≤ (t298.length : Int) then ((varint_Get.f kj3 (t298.take ((wrap64 ((t298.length : Int) - 1)) : Int).toNat)).bind fun bt337 => (if bt310.1 = a0 then (if bt310.2 = (t298.length : Int) then (if (t298.length : Int) ≤ 10 then (if bt318.1.toList = x1_3.toList then (if bt318.2 > (x1_3.size : Int) then (if bt323.2 = 0 then (if bt331.1 = a0 then (if bt331.2 = true then (if bt337.2 = 0 then ((bordereaulaw2_known.f kj3).bind fun t339 => (some t339)) else (none)) else (none)) else (none)) else (none)) else (none)) else (none)) else (none)) else (none)) else (none))) else (none)) else (none)))) else (none)))))) else (none)))) else (none))) else (none))) = some r := H
      have A8 := Aside0.mk A80
      clear A80
      obtain ⟨y301, hy301⟩ : ∃ y_ : List Int, y_ = (([] : List Int)) := ⟨_, rfl⟩
      replace H : (if y301.length + t298.length < 140737488355328 then ((some (y301 ++ t298 : List Int)).bind fun y304 => (if y304.length + l2.length < 140737488355328 then ((varint_Get.f kj3 (y304 ++ l2)).bind fun bt310 => ((varint_Text.f kj3 ([] : List Int) x1_3).bind fun t312 => (if t312.length + l2.length < 140737488355328 then ((varint_Cut.f kj3 (t312 ++ l2) (x1_3.size : Int)).bind fun bt318 => ((varint_Text.f kj3 ([] : List Int) x1_3).bind fun t320 => ((varint_Cut.f kj3 t320 (wrap64 ((x1_3.size : Int) - 1))).bind fun bt323 => ((varint_Long.f kj3 ([] : List Int) a0).bind fun t325 => (if t325.length + l2.length < 140737488355328 then ((varint_Back.f kj3 (t325 ++ l2)).bind fun bt331 => (if (t298.length : Int) = 0 then (none) else (if 0 ≤ (wrap64 ((t298.length : Int) - 1)) then (if (wrap64 ((t298.length : Int) - 1)) ≤ (t298.length : Int) then ((varint_Get.f kj3 (t298.take ((wrap64 ((t298.length : Int) - 1)) : Int).toNat)).bind fun bt337 => (if bt310.1 = a0 then (if bt310.2 = (t298.length : Int) then (if (t298.length : Int) ≤ 10 then (if bt318.1.toList = x1_3.toList then (if bt318.2 > (x1_3.size : Int) then (if bt323.2 = 0 then (if bt331.1 = a0 then (if bt331.2 = true then (if bt337.2 = 0 then ((bordereaulaw2_known.f kj3).bind fun t339 => (some t339)) else (none)) else (none)) else (none)) else (none)) else (none)) else (none)) else (none)) else (none)) else (none))) else (none)) else (none)))) else (none)))))) else (none)))) else (none))) else (none)) = some r := by first | (rw [hy301]; with_reducible exact H) | (have H2_ := (Option.bind_some _ _).symm.trans H; rw [hy301]; with_reducible exact H2_) | (have H2_ := (Option.bind_some _ _).symm.trans H; with_reducible exact H2_) | with_reducible exact H | (rw [hy301]; exact H) | exact H
      have Ny301 := Aside0.mk hy301
      clear hy301
      by_cases c9 : y301.length + t298.length < 140737488355328
      · rw [if_pos c9] at H
        have LMc9 := Aside0.mk c9
        clear c9
        obtain ⟨y304, hy304⟩ : ∃ y_ : List Int, y_ = (y301 ++ t298) := ⟨_, rfl⟩
        replace H : (if y304.length + l2.length < 140737488355328 then ((varint_Get.f kj3 (y304 ++ l2)).bind fun bt310 => ((varint_Text.f kj3 ([] : List Int) x1_3).bind fun t312 => (if t312.length + l2.length < 140737488355328 then ((varint_Cut.f kj3 (t312 ++ l2) (x1_3.size : Int)).bind fun bt318 => ((varint_Text.f kj3 ([] : List Int) x1_3).bind fun t320 => ((varint_Cut.f kj3 t320 (wrap64 ((x1_3.size : Int) - 1))).bind fun bt323 => ((varint_Long.f kj3 ([] : List Int) a0).bind fun t325 => (if t325.length + l2.length < 140737488355328 then ((varint_Back.f kj3 (t325 ++ l2)).bind fun bt331 => (if (t298.length : Int) = 0 then (none) else (if 0 ≤ (wrap64 ((t298.length : Int) - 1)) then (if (wrap64 ((t298.length : Int) - 1)) ≤ (t298.length : Int) then ((varint_Get.f kj3 (t298.take ((wrap64 ((t298.length : Int) - 1)) : Int).toNat)).bind fun bt337 => (if bt310.1 = a0 then (if bt310.2 = (t298.length : Int) then (if (t298.length : Int) ≤ 10 then (if bt318.1.toList = x1_3.toList then (if bt318.2 > (x1_3.size : Int) then (if bt323.2 = 0 then (if bt331.1 = a0 then (if bt331.2 = true then (if bt337.2 = 0 then ((bordereaulaw2_known.f kj3).bind fun t339 => (some t339)) else (none)) else (none)) else (none)) else (none)) else (none)) else (none)) else (none)) else (none)) else (none))) else (none)) else (none)))) else (none)))))) else (none)))) else (none)) = some r := by first | (rw [hy304]; with_reducible exact H) | (have H2_ := (Option.bind_some _ _).symm.trans H; rw [hy304]; with_reducible exact H2_) | (have H2_ := (Option.bind_some _ _).symm.trans H; with_reducible exact H2_) | with_reducible exact H | (rw [hy304]; exact H) | exact H
        have Ny304 := Aside0.mk hy304
        clear hy304
        by_cases c10 : y304.length + l2.length < 140737488355328
        · rw [if_pos c10] at H
          have LMc10 := Aside0.mk c10
          clear c10
          obtain ⟨y307, hy307⟩ : ∃ y_ : List Int, y_ = (y304 ++ l2) := ⟨_, rfl⟩
          replace H : ((varint_Get.f kj3 y307).bind fun bt310 => ((varint_Text.f kj3 ([] : List Int) x1_3).bind fun t312 => (if t312.length + l2.length < 140737488355328 then ((varint_Cut.f kj3 (t312 ++ l2) (x1_3.size : Int)).bind fun bt318 => ((varint_Text.f kj3 ([] : List Int) x1_3).bind fun t320 => ((varint_Cut.f kj3 t320 (wrap64 ((x1_3.size : Int) - 1))).bind fun bt323 => ((varint_Long.f kj3 ([] : List Int) a0).bind fun t325 => (if t325.length + l2.length < 140737488355328 then ((varint_Back.f kj3 (t325 ++ l2)).bind fun bt331 => (if (t298.length : Int) = 0 then (none) else (if 0 ≤ (wrap64 ((t298.length : Int) - 1)) then (if (wrap64 ((t298.length : Int) - 1)) ≤ (t298.length : Int) then ((varint_Get.f kj3 (t298.take ((wrap64 ((t298.length : Int) - 1)) : Int).toNat)).bind fun bt337 => (if bt310.1 = a0 then (if bt310.2 = (t298.length : Int) then (if (t298.length : Int) ≤ 10 then (if bt318.1.toList = x1_3.toList then (if bt318.2 > (x1_3.size : Int) then (if bt323.2 = 0 then (if bt331.1 = a0 then (if bt331.2 = true then (if bt337.2 = 0 then ((bordereaulaw2_known.f kj3).bind fun t339 => (some t339)) else (none)) else (none)) else (none)) else (none)) else (none)) else (none)) else (none)) else (none)) else (none))) else (none)) else (none)))) else (none)))))) else (none)))) = some r := by first | (rw [hy307]; with_reducible exact H) | (have H2_ := (Option.bind_some _ _).symm.trans H; rw [hy307]; with_reducible exact H2_) | (have H2_ := (Option.bind_some _ _).symm.trans H; with_reducible exact H2_) | with_reducible exact H | (rw [hy307]; exact H) | exact H
          have Ny307 := Aside0.mk hy307
          clear hy307
          replace H := Option.bind_eq_some_iff.mp H
          obtain ⟨⟨t310, t311⟩, A110, H⟩ := H
          replace H : ((varint_Text.f kj3 ([] : List Int) x1_3).bind fun t312 => (if t312.length + l2.length < 140737488355328 then ((varint_Cut.f kj3 (t312 ++ l2) (x1_3.size : Int)).bind fun bt318 => ((varint_Text.f kj3 ([] : List Int) x1_3).bind fun t320 => ((varint_Cut.f kj3 t320 (wrap64 ((x1_3.size : Int) - 1))).bind fun bt323 => ((varint_Long.f kj3 ([] : List Int) a0).bind fun t325 => (if t325.length + l2.length < 140737488355328 then ((varint_Back.f kj3 (t325 ++ l2)).bind fun bt331 => (if (t298.length : Int) = 0 then (none) else (if 0 ≤ (wrap64 ((t298.length : Int) - 1)) then (if (wrap64 ((t298.length : Int) - 1)) ≤ (t298.length : Int) then ((varint_Get.f kj3 (t298.take ((wrap64 ((t298.length : Int) - 1)) : Int).toNat)).bind fun bt337 => (if t310 = a0 then (if t311 = (t298.length : Int) then (if (t298.length : Int) ≤ 10 then (if bt318.1.toList = x1_3.toList then (if bt318.2 > (x1_3.size : Int) then (if bt323.2 = 0 then (if bt331.1 = a0 then (if bt331.2 = true then (if bt337.2 = 0 then ((bordereaulaw2_known.f kj3).bind fun t339 => (some t339)) else (none)) else (none)) else (none)) else (none)) else (none)) else (none)) else (none)) else (none)) else (none))) else (none)) else (none)))) else (none)))))) else (none))) = some r := H
          have A11 := Aside0.mk A110
          clear A110
          replace H := Option.bind_eq_some_iff.mp H
          obtain ⟨t312, A120, H⟩ := H
          replace H : (if t312.length + l2.length < 140737488355328 then ((varint_Cut.f kj3 (t312 ++ l2) (x1_3.size : Int)).bind fun bt318 => ((varint_Text.f kj3 ([] : List Int) x1_3).bind fun t320 => ((varint_Cut.f kj3 t320 (wrap64 ((x1_3.size : Int) - 1))).bind fun bt323 => ((varint_Long.f kj3 ([] : List Int) a0).bind fun t325 => (if t325.length + l2.length < 140737488355328 then ((varint_Back.f kj3 (t325 ++ l2)).bind fun bt331 => (if (t298.length : Int) = 0 then (none) else (if 0 ≤ (wrap64 ((t298.length : Int) - 1)) then (if (wrap64 ((t298.length : Int) - 1)) ≤ (t298.length : Int) then ((varint_Get.f kj3 (t298.take ((wrap64 ((t298.length : Int) - 1)) : Int).toNat)).bind fun bt337 => (if t310 = a0 then (if t311 = (t298.length : Int) then (if (t298.length : Int) ≤ 10 then (if bt318.1.toList = x1_3.toList then (if bt318.2 > (x1_3.size : Int) then (if bt323.2 = 0 then (if bt331.1 = a0 then (if bt331.2 = true then (if bt337.2 = 0 then ((bordereaulaw2_known.f kj3).bind fun t339 => (some t339)) else (none)) else (none)) else (none)) else (none)) else (none)) else (none)) else (none)) else (none)) else (none))) else (none)) else (none)))) else (none)))))) else (none)) = some r := H
          have A12 := Aside0.mk A120
          clear A120
          by_cases c13 : t312.length + l2.length < 140737488355328
          · rw [if_pos c13] at H
            have LMc13 := Aside0.mk c13
            clear c13
            obtain ⟨y315, hy315⟩ : ∃ y_ : List Int, y_ = (t312 ++ l2) := ⟨_, rfl⟩
            replace H : ((varint_Cut.f kj3 y315 (x1_3.size : Int)).bind fun bt318 => ((varint_Text.f kj3 ([] : List Int) x1_3).bind fun t320 => ((varint_Cut.f kj3 t320 (wrap64 ((x1_3.size : Int) - 1))).bind fun bt323 => ((varint_Long.f kj3 ([] : List Int) a0).bind fun t325 => (if t325.length + l2.length < 140737488355328 then ((varint_Back.f kj3 (t325 ++ l2)).bind fun bt331 => (if (t298.length : Int) = 0 then (none) else (if 0 ≤ (wrap64 ((t298.length : Int) - 1)) then (if (wrap64 ((t298.length : Int) - 1)) ≤ (t298.length : Int) then ((varint_Get.f kj3 (t298.take ((wrap64 ((t298.length : Int) - 1)) : Int).toNat)).bind fun bt337 => (if t310 = a0 then (if t311 = (t298.length : Int) then (if (t298.length : Int) ≤ 10 then (if bt318.1.toList = x1_3.toList then (if bt318.2 > (x1_3.size : Int) then (if bt323.2 = 0 then (if bt331.1 = a0 then (if bt331.2 = true then (if bt337.2 = 0 then ((bordereaulaw2_known.f kj3).bind fun t339 => (some t339)) else (none)) else (none)) else (none)) else (none)) else (none)) else (none)) else (none)) else (none)) else (none))) else (none)) else (none)))) else (none)))))) = some r := by first | (rw [hy315]; with_reducible exact H) | (have H2_ := (Option.bind_some _ _).symm.trans H; rw [hy315]; with_reducible exact H2_) | (have H2_ := (Option.bind_some _ _).symm.trans H; with_reducible exact H2_) | with_reducible exact H | (rw [hy315]; exact H) | exact H
            have Ny315 := Aside0.mk hy315
            clear hy315
            replace H := Option.bind_eq_some_iff.mp H
            obtain ⟨⟨t318, t319⟩, A140, H⟩ := H
            replace H : ((varint_Text.f kj3 ([] : List Int) x1_3).bind fun t320 => ((varint_Cut.f kj3 t320 (wrap64 ((x1_3.size : Int) - 1))).bind fun bt323 => ((varint_Long.f kj3 ([] : List Int) a0).bind fun t325 => (if t325.length + l2.length < 140737488355328 then ((varint_Back.f kj3 (t325 ++ l2)).bind fun bt331 => (if (t298.length : Int) = 0 then (none) else (if 0 ≤ (wrap64 ((t298.length : Int) - 1)) then (if (wrap64 ((t298.length : Int) - 1)) ≤ (t298.length : Int) then ((varint_Get.f kj3 (t298.take ((wrap64 ((t298.length : Int) - 1)) : Int).toNat)).bind fun bt337 => (if t310 = a0 then (if t311 = (t298.length : Int) then (if (t298.length : Int) ≤ 10 then (if t318.toList = x1_3.toList then (if t319 > (x1_3.size : Int) then (if bt323.2 = 0 then (if bt331.1 = a0 then (if bt331.2 = true then (if bt337.2 = 0 then ((bordereaulaw2_known.f kj3).bind fun t339 => (some t339)) else (none)) else (none)) else (none)) else (none)) else (none)) else (none)) else (none)) else (none)) else (none))) else (none)) else (none)))) else (none))))) = some r := H
            have A14 := Aside0.mk A140
            clear A140
            replace H := Option.bind_eq_some_iff.mp H
            obtain ⟨t320, A150, H⟩ := H
            replace H : ((varint_Cut.f kj3 t320 (wrap64 ((x1_3.size : Int) - 1))).bind fun bt323 => ((varint_Long.f kj3 ([] : List Int) a0).bind fun t325 => (if t325.length + l2.length < 140737488355328 then ((varint_Back.f kj3 (t325 ++ l2)).bind fun bt331 => (if (t298.length : Int) = 0 then (none) else (if 0 ≤ (wrap64 ((t298.length : Int) - 1)) then (if (wrap64 ((t298.length : Int) - 1)) ≤ (t298.length : Int) then ((varint_Get.f kj3 (t298.take ((wrap64 ((t298.length : Int) - 1)) : Int).toNat)).bind fun bt337 => (if t310 = a0 then (if t311 = (t298.length : Int) then (if (t298.length : Int) ≤ 10 then (if t318.toList = x1_3.toList then (if t319 > (x1_3.size : Int) then (if bt323.2 = 0 then (if bt331.1 = a0 then (if bt331.2 = true then (if bt337.2 = 0 then ((bordereaulaw2_known.f kj3).bind fun t339 => (some t339)) else (none)) else (none)) else (none)) else (none)) else (none)) else (none)) else (none)) else (none)) else (none))) else (none)) else (none)))) else (none)))) = some r := H
            have A15 := Aside0.mk A150
            clear A150
            replace H := Option.bind_eq_some_iff.mp H
            obtain ⟨⟨t323, t324⟩, A160, H⟩ := H
            replace H : ((varint_Long.f kj3 ([] : List Int) a0).bind fun t325 => (if t325.length + l2.length < 140737488355328 then ((varint_Back.f kj3 (t325 ++ l2)).bind fun bt331 => (if (t298.length : Int) = 0 then (none) else (if 0 ≤ (wrap64 ((t298.length : Int) - 1)) then (if (wrap64 ((t298.length : Int) - 1)) ≤ (t298.length : Int) then ((varint_Get.f kj3 (t298.take ((wrap64 ((t298.length : Int) - 1)) : Int).toNat)).bind fun bt337 => (if t310 = a0 then (if t311 = (t298.length : Int) then (if (t298.length : Int) ≤ 10 then (if t318.toList = x1_3.toList then (if t319 > (x1_3.size : Int) then (if t324 = 0 then (if bt331.1 = a0 then (if bt331.2 = true then (if bt337.2 = 0 then ((bordereaulaw2_known.f kj3).bind fun t339 => (some t339)) else (none)) else (none)) else (none)) else (none)) else (none)) else (none)) else (none)) else (none)) else (none))) else (none)) else (none)))) else (none))) = some r := H
            have A16 := Aside0.mk A160
            clear A160
            replace H := Option.bind_eq_some_iff.mp H
            obtain ⟨t325, A170, H⟩ := H
            replace H : (if t325.length + l2.length < 140737488355328 then ((varint_Back.f kj3 (t325 ++ l2)).bind fun bt331 => (if (t298.length : Int) = 0 then (none) else (if 0 ≤ (wrap64 ((t298.length : Int) - 1)) then (if (wrap64 ((t298.length : Int) - 1)) ≤ (t298.length : Int) then ((varint_Get.f kj3 (t298.take ((wrap64 ((t298.length : Int) - 1)) : Int).toNat)).bind fun bt337 => (if t310 = a0 then (if t311 = (t298.length : Int) then (if (t298.length : Int) ≤ 10 then (if t318.toList = x1_3.toList then (if t319 > (x1_3.size : Int) then (if t324 = 0 then (if bt331.1 = a0 then (if bt331.2 = true then (if bt337.2 = 0 then ((bordereaulaw2_known.f kj3).bind fun t339 => (some t339)) else (none)) else (none)) else (none)) else (none)) else (none)) else (none)) else (none)) else (none)) else (none))) else (none)) else (none)))) else (none)) = some r := H
            have A17 := Aside0.mk A170
            clear A170
            by_cases c18 : t325.length + l2.length < 140737488355328
            · rw [if_pos c18] at H
              have LMc18 := Aside0.mk c18
              clear c18
              obtain ⟨y328, hy328⟩ : ∃ y_ : List Int, y_ = (t325 ++ l2) := ⟨_, rfl⟩
              replace H : ((varint_Back.f kj3 y328).bind fun bt331 => (if (t298.length : Int) = 0 then (none) else (if 0 ≤ (wrap64 ((t298.length : Int) - 1)) then (if (wrap64 ((t298.length : Int) - 1)) ≤ (t298.length : Int) then ((varint_Get.f kj3 (t298.take ((wrap64 ((t298.length : Int) - 1)) : Int).toNat)).bind fun bt337 => (if t310 = a0 then (if t311 = (t298.length : Int) then (if (t298.length : Int) ≤ 10 then (if t318.toList = x1_3.toList then (if t319 > (x1_3.size : Int) then (if t324 = 0 then (if bt331.1 = a0 then (if bt331.2 = true then (if bt337.2 = 0 then ((bordereaulaw2_known.f kj3).bind fun t339 => (some t339)) else (none)) else (none)) else (none)) else (none)) else (none)) else (none)) else (none)) else (none)) else (none))) else (none)) else (none)))) = some r := by first | (rw [hy328]; with_reducible exact H) | (have H2_ := (Option.bind_some _ _).symm.trans H; rw [hy328]; with_reducible exact H2_) | (have H2_ := (Option.bind_some _ _).symm.trans H; with_reducible exact H2_) | with_reducible exact H | (rw [hy328]; exact H) | exact H
              have Ny328 := Aside0.mk hy328
              clear hy328
              replace H := Option.bind_eq_some_iff.mp H
              obtain ⟨⟨t331, t332⟩, A190, H⟩ := H
              replace H : (if (t298.length : Int) = 0 then (none) else (if 0 ≤ (wrap64 ((t298.length : Int) - 1)) then (if (wrap64 ((t298.length : Int) - 1)) ≤ (t298.length : Int) then ((varint_Get.f kj3 (t298.take ((wrap64 ((t298.length : Int) - 1)) : Int).toNat)).bind fun bt337 => (if t310 = a0 then (if t311 = (t298.length : Int) then (if (t298.length : Int) ≤ 10 then (if t318.toList = x1_3.toList then (if t319 > (x1_3.size : Int) then (if t324 = 0 then (if t331 = a0 then (if t332 = true then (if bt337.2 = 0 then ((bordereaulaw2_known.f kj3).bind fun t339 => (some t339)) else (none)) else (none)) else (none)) else (none)) else (none)) else (none)) else (none)) else (none)) else (none))) else (none)) else (none))) = some r := H
              have A19 := Aside0.mk A190
              clear A190
              by_cases c20 : (t298.length : Int) = 0
              · rw [if_pos c20] at H
                exact absurd H (by simp)
              · rw [if_neg c20] at H
                have c20b0 : ((t298.length : Int) == 0) = false := beq_eq_false_iff_ne.mpr c20
                have c20b1 : ((t298.length : Int) != 0) = true := bne_iff_ne.mpr c20
                have c20b2 : ¬ (t298 = []) := fun h_ => c20 (by rw [h_]; rfl)
                obtain ⟨ji21, hji21⟩ : ∃ j_ : Int, (wrap64 ((t298.length : Int) - 1)) = j_ := ⟨_, rfl⟩
                replace H : (if 0 ≤ (ji21) then (if (ji21) ≤ (t298.length : Int) then ((varint_Get.f kj3 (t298.take ((ji21) : Int).toNat)).bind fun bt337 => (if t310 = a0 then (if t311 = (t298.length : Int) then (if (t298.length : Int) ≤ 10 then (if t318.toList = x1_3.toList then (if t319 > (x1_3.size : Int) then (if t324 = 0 then (if t331 = a0 then (if t332 = true then (if bt337.2 = 0 then ((bordereaulaw2_known.f kj3).bind fun t339 => (some t339)) else (none)) else (none)) else (none)) else (none)) else (none)) else (none)) else (none)) else (none)) else (none))) else (none)) else (none)) = some r := by first | (rw [hji21] at H; exact H) | (simp only [hji21] at H ⊢; exact H)
                (try rw [hji21] at A8)
                (try rw [hji21] at A11)
                (try rw [hji21] at A12)
                (try rw [hji21] at A14)
                (try rw [hji21] at A15)
                (try rw [hji21] at A16)
                (try rw [hji21] at A17)
                (try rw [hji21] at A19)
                have hji21w : (IntKind.i64.wrap ((t298.length : Int) - 1)) = ji21 := (i64_w _).trans hji21
                by_cases c22 : 0 ≤ (ji21)
                · rw [if_pos c22] at H
                  have c22b0 := eq_true c22
                  have c22b1 : decide (0 ≤ (ji21)) = true := decide_eq_true c22
                  clear c22
                  by_cases c23 : (ji21) ≤ (t298.length : Int)
                  · rw [if_pos c23] at H
                    have c23b0 := eq_true c23
                    have c23b1 : decide ((ji21) ≤ (t298.length : Int)) = true := decide_eq_true c23
                    clear c23
                    obtain ⟨y333, hy333⟩ : ∃ y_ : List Int, y_ = (t298.take ((ji21) : Int).toNat) := ⟨_, rfl⟩
                    replace H : ((varint_Get.f kj3 y333).bind fun bt337 => (if t310 = a0 then (if t311 = (t298.length : Int) then (if (t298.length : Int) ≤ 10 then (if t318.toList = x1_3.toList then (if t319 > (x1_3.size : Int) then (if t324 = 0 then (if t331 = a0 then (if t332 = true then (if bt337.2 = 0 then ((bordereaulaw2_known.f kj3).bind fun t339 => (some t339)) else (none)) else (none)) else (none)) else (none)) else (none)) else (none)) else (none)) else (none)) else (none))) = some r := by first | (rw [hy333]; with_reducible exact H) | (have H2_ := (Option.bind_some _ _).symm.trans H; rw [hy333]; with_reducible exact H2_) | (have H2_ := (Option.bind_some _ _).symm.trans H; with_reducible exact H2_) | with_reducible exact H | (rw [hy333]; exact H) | exact H
                    have Ny333 := Aside0.mk hy333
                    clear hy333
                    replace H := Option.bind_eq_some_iff.mp H
                    obtain ⟨⟨t337, t338⟩, A240, H⟩ := H
                    replace H : (if t310 = a0 then (if t311 = (t298.length : Int) then (if (t298.length : Int) ≤ 10 then (if t318.toList = x1_3.toList then (if t319 > (x1_3.size : Int) then (if t324 = 0 then (if t331 = a0 then (if t332 = true then (if t338 = 0 then ((bordereaulaw2_known.f kj3).bind fun t339 => (some t339)) else (none)) else (none)) else (none)) else (none)) else (none)) else (none)) else (none)) else (none)) else (none)) = some r := H
                    have A24 := Aside0.mk A240
                    clear A240
                    by_cases c25 : t310 = a0
                    · rw [if_pos c25] at H
                      have c25b0 : (t310 == a0) = true := beq_iff_eq.mpr c25
                      have c25b1 : (t310 != a0) = false := bne_eq_false_iff_eq.mpr c25
                      clear c25
                      by_cases c26 : t311 = (t298.length : Int)
                      · rw [if_pos c26] at H
                        have c26b0 : (t311 == (t298.length : Int)) = true := beq_iff_eq.mpr c26
                        have c26b1 : (t311 != (t298.length : Int)) = false := bne_eq_false_iff_eq.mpr c26
                        clear c26
                        by_cases c27 : (t298.length : Int) ≤ 10
                        · rw [if_pos c27] at H
                          have c27b0 : decide ((t298.length : Int) ≤ 10) = true := decide_eq_true c27
                          have c27b1 : decide (t298.length ≤ 10) = true := decide_eq_true (by omega)
                          clear c27
                          by_cases c28 : t318.toList = x1_3.toList
                          · rw [if_pos c28] at H
                            have c28b0 : (t318.toList == x1_3.toList) = true := beq_iff_eq.mpr c28
                            have c28b1 : (t318.toList != x1_3.toList) = false := bne_eq_false_iff_eq.mpr c28
                            clear c28
                            by_cases c29 : t319 > (x1_3.size : Int)
                            · rw [if_pos c29] at H
                              have c29b0 : decide ((x1_3.size : Int) < t319) = true := decide_eq_true c29
                              clear c29
                              by_cases c30 : t324 = 0
                              · rw [if_pos c30] at H
                                have c30b0 : (t324 == 0) = true := beq_iff_eq.mpr c30
                                have c30b1 : (t324 != 0) = false := bne_eq_false_iff_eq.mpr c30
                                clear c30
                                by_cases c31 : t331 = a0
                                · rw [if_pos c31] at H
                                  have c31b0 : (t331 == a0) = true := beq_iff_eq.mpr c31
                                  have c31b1 : (t331 != a0) = false := bne_eq_false_iff_eq.mpr c31
                                  clear c31
                                  by_cases c32 : t332 = true
                                  · subst c32
                                    have H1 : (if t338 = 0 then ((bordereaulaw2_known.f kj3).bind fun t339 => (some t339)) else (none)) = some r := by rw [if_pos rfl] at H; exact H
                                    clear H
                                    have H := H1
                                    clear H1
                                    by_cases c33 : t338 = 0
                                    · rw [if_pos c33] at H
                                      have c33b0 : (t338 == 0) = true := beq_iff_eq.mpr c33
                                      have c33b1 : (t338 != 0) = false := bne_eq_false_iff_eq.mpr c33
                                      clear c33
                                      replace H := Option.bind_eq_some_iff.mp H
                                      obtain ⟨t339, A340, H⟩ := H
                                      replace H : (some t339) = some r := H
                                      have A34 := Aside0.mk A340
                                      clear A340
                                      obtain rfl := Option.some.inj H
                                      go_wp2_with (first | ((with_reducible refine gate_callee (f := 28) rfl ?_); refine goesL_ (some 24) rfl rfl Try.func28 (by kernel_rfl) rfl #[.slice none 0 0, .int .i64 a0] rfl (by (try simp only [List.map_toArray, List.map_cons, List.map_nil]); first | done | rfl | (simp only [List.length_drop, List.length_take]; rfl)) ?_; (refine (varint_Put.calls kj3 _ _ ([] : List Int) a0 t298 _ ?side1 ?side2 A8.out).mono ?_); (case side1 => exact Kd.C_nil _ _); (case side2 => exact Nat.le_refl _); rintro e w35 ⟨v299, rfl, ho0, hb⟩; refine ⟨_, rfl, ?_⟩; have n0_ := Aside0.mk (Kd.R_lower ho0 (below_size (by repeat (first | (with_reducible first | exact HB.out | apply below_alloc | apply pw_below_drewN | apply below_drew1) | exact HB.out)))); have n1_ := Aside0.mk (below_step (by repeat (first | (with_reducible first | exact HB.out | apply below_alloc | apply pw_below_drewN | apply below_drew1) | exact HB.out)) hb); clear HB; have HO300 := n0_; have HB := n1_; clear n0_ n1_; (try clear hb); (try clear hb2); (try clear hk); (try clear hi); (try clear ho0)) | ((with_reducible refine gate_dst (N := 26) rfl ?_); (try (refine gate_guard (by rfl) ?_; dsimp only)); refine Kd.R_lit (Kd.int .u8) _ 5 ?hg (N := 26) ?hd (xs := ([] : List Int)) (inner := []) (ok := fun _ => True) (okp := fun _ => True) ?hr ?hp (fun _ hk => hk) trivial (Below.refl _ _) (Nat.le_refl _) (by simp) ?_; (case hd => rfl); (case hg => rfl); (case hr => first | (go_simp; done) | (go_simp; rfl)); (case hp => exact (Reps.none _ _)); intro v302 w36 ho37 hb hg_ hnew_; clear hg_ hnew_; (first | rw [← Ny301.out] at ho37 | (simp only [Int.reduceToNat] at ho37; rw [← Ny301.out] at ho37)); have n0_ := Aside0.mk (Kd.R_elder' (by (with_reducible repeat (first | apply Kd.R_alloc | apply Kd.R_drewN | apply Kd.R_drew)); exact HO300.out) (Kd.R_base ho37) hb); have n1_ := Aside0.mk (Kd.R_lower (Kd.R_new' ho37 (Kd.R_lt (by (with_reducible repeat (first | apply Kd.R_alloc | apply Kd.R_drewN | apply Kd.R_drew)); exact HO300.out))) (below_size (by repeat (first | (with_reducible first | exact HB.out | apply below_alloc | apply pw_below_drewN | apply below_drew1) | exact HB.out)))); have n2_ := Aside0.mk (below_step (by repeat (first | (with_reducible first | exact HB.out | apply below_alloc | apply pw_below_drewN | apply below_drew1) | exact HB.out)) hb); clear HO300; clear HB; have HO300 := n0_; have HO303 := n1_; have HB := n2_; clear n0_ n1_ n2_; clear hb ho37; obtain ⟨Ao39, co39, eo39⟩ := Kd.R_slice HO300.out; subst eo39) | ((with_reducible refine gate_builtin (b := .append) (xs := #[.tmp 26, .tmp 27]) rfl ?_); (try (refine gate_guard (by rfl) ?_; dsimp only)); at_builtin; refine Kd.R_append_rows (Kd.int .u8) (w0 := w) w.heap.size rfl (.tmp 26) (.tmp 27) 29 5 (.int .u8 0) 1 rfl Try.underlying29 info5 rfl (by decide) (by omega) v302 y301 t298 _ _ _ (fun k_ => some k_ ≠ (.slice Ao39 t298.length co39 : Value).ownBlock) (fun _ => False) rfl rfl ?aO ?aR (fun _ _ h => h) (fun _ h => h.elim) ?aF ?aB ?aS ?aL ?_; (case aR => repeat (first | exact (Kd.R_reads' HO300.out).2.2 | (with_reducible refine Kd.C_alloc ?_ _) | (with_reducible refine Kd.C_drewN ?_ _) | (with_reducible refine Kd.C_drew ?_))); (case aB => exact (by repeat (first | (with_reducible first | exact HB.out | apply below_alloc | apply pw_below_drewN | apply below_drew1) | exact HB.out))); (case aF => exact (fun k_ hk => Kd.fresh' (Kd.R_lt (by (with_reducible repeat (first | apply Kd.R_alloc | apply Kd.R_drewN | apply Kd.R_drew)); exact HO300.out)) k_ hk)); (case aO => exact (by (with_reducible repeat (first | apply Kd.R_alloc | apply Kd.R_drewN | apply Kd.R_drew)); exact Kd.R_mono HO303.out (fun _ hk => hk.2))); (case aS => exact (below_size (by repeat (first | (with_reducible first | exact HB.out | apply below_alloc | apply pw_below_drewN | apply below_drew1) | exact HB.out)))); (case aL => have := LMc9.out; omega); intro v305 w38 ho hb hg hat; rw [← Ny304.out] at ho; have n0_ := Aside0.mk (Kd.R_after (ok := (fun _ => True)) (by (with_reducible repeat (first | apply Kd.R_alloc | apply Kd.R_drewN | apply Kd.R_drew)); exact HO300.out) hg hat); have n1_ := Aside0.mk (hb); have n2_ := Aside0.mk (ho); clear HO300; clear HB; clear HO303; have HO300 := n0_; have HB := n1_; have HO306 := n2_; clear n0_ n1_ n2_; clear ho hb hg hat) | ((with_reducible refine gate_builtin (b := .append) (xs := #[.tmp 28, .tmp 29]) rfl ?_); (try (refine gate_guard (by rfl) ?_; dsimp only)); at_builtin; refine Kd.R_append_rows_keep (Kd.int .u8) (w0 := w) w.heap.size rfl (.tmp 28) (.tmp 29) 29 5 (.int .u8 0) 1 rfl Try.underlying29 info5 rfl (by decide) (by omega) v305 y304 l2 _ _ _ (fun k_ => some k_ ≠ (.slice Ao39 t298.length co39 : Value).ownBlock) (fun _ => False) rfl rfl ?aO ?aR (fun _ _ h => h) (fun _ h => h.elim) ?aF ?aB ?aS ?aL ?_; (case aR => repeat (first | exact (Kd.C_below HR2.out HB.out) | (with_reducible refine Kd.C_alloc ?_ _) | (with_reducible refine Kd.C_drewN ?_ _) | (with_reducible refine Kd.C_drew ?_))); (case aB => exact (by repeat (first | (with_reducible first | exact HB.out | apply below_alloc | apply pw_below_drewN | apply below_drew1) | exact HB.out))); (case aF => exact (fun k_ hk => Kd.fresh' (Kd.R_lt (by (with_reducible repeat (first | apply Kd.R_alloc | apply Kd.R_drewN | apply Kd.R_drew)); exact HO300.out)) k_ hk)); (case aO => exact (by (with_reducible repeat (first | apply Kd.R_alloc | apply Kd.R_drewN | apply Kd.R_drew)); exact HO306.out)); (case aS => exact (below_size (by repeat (first | (with_reducible first | exact HB.out | apply below_alloc | apply pw_below_drewN | apply below_drew1) | exact HB.out)))); (case aL => have := LMc10.out; omega); intro v308 w40 ho hb hg hat hold; rw [← Ny307.out] at ho; have n0_ := Aside0.mk (Kd.R_grownk (ok := (fun _ => True)) (by (with_reducible repeat (first | apply Kd.R_alloc | apply Kd.R_drewN | apply Kd.R_drew)); exact HO300.out) hg); have n1_ := Aside0.mk (hold); have n2_ := Aside0.mk (hb); have n3_ := Aside0.mk (ho); clear HO300; clear HO306; clear HB; have HO300 := n0_; have HO306 := n1_; have HB := n2_; have HO309 := n3_; clear n0_ n1_ n2_ n3_; clear ho hb hg hat; (try clear hold); obtain ⟨Ao41, co41, eo41⟩ := Kd.R_slice HO309.out; subst eo41) | ((with_reducible refine gate_callee (f := 29) rfl ?_); refine goesL_ (some 31) rfl rfl Try.func29 (by kernel_rfl) rfl #[.slice Ao41 y307.length co41] rfl (by (try simp only [List.map_toArray, List.map_cons, List.map_nil]); first | done | rfl | (simp only [List.length_drop, List.length_take]; rfl)) ?_; (with_reducible refine (varint_Get.calls kj3 _ _ y307 t310 t311 _ ?side1 ?side2 A11.out).mono ?_); (case side1 => repeat (first | exact (Kd.R_reads' HO309.out).2.2 | (with_reducible refine Kd.C_alloc ?_ _) | (with_reducible refine Kd.C_drewN ?_ _) | (with_reducible refine Kd.C_drew ?_))); (case side2 => exact (Kd.R_reads' HO309.out).2.1); rintro e w42 ⟨rfl, hb⟩; refine ⟨_, rfl, ?_⟩; have n0_ := Aside0.mk (Kd.R_below (by (with_reducible repeat (first | apply Kd.R_alloc | apply Kd.R_drewN | apply Kd.R_drew)); exact HO300.out) hb); have n1_ := Aside0.mk (Kd.R_below (by (with_reducible repeat (first | apply Kd.R_alloc | apply Kd.R_drewN | apply Kd.R_drew)); exact HO306.out) hb); have n2_ := Aside0.mk (Kd.R_below (by (with_reducible repeat (first | apply Kd.R_alloc | apply Kd.R_drewN | apply Kd.R_drew)); exact HO309.out) hb); have n3_ := Aside0.mk (below_step (by repeat (first | (with_reducible first | exact HB.out | apply below_alloc | apply pw_below_drewN | apply below_drew1) | exact HB.out)) hb); clear HO300; clear HO306; clear HO309; clear HB; have HO300 := n0_; have HO306 := n1_; have HO309 := n2_; have HB := n3_; clear n0_ n1_ n2_ n3_; (try clear hb); (try clear hb2); (try clear hk); (try clear hi)) | ((with_reducible refine gate_callee (f := 38) rfl ?_); refine goesL_ (some 36) rfl rfl Try.func38 (by kernel_rfl) rfl #[.slice none 0 0, .string x1_3] rfl (by (try simp only [List.map_toArray, List.map_cons, List.map_nil]); first | done | rfl | (simp only [List.length_drop, List.length_take]; rfl)) ?_; (refine (varint_Text.calls kj3 _ _ ([] : List Int) x1_3 t312 _ ?side1 ?side2 A12.out).mono ?_); (case side1 => exact Kd.C_nil _ _); (case side2 => exact Nat.le_refl _); rintro e w43 ⟨v313, rfl, ho0, hb⟩; refine ⟨_, rfl, ?_⟩; have n0_ := Aside0.mk (Kd.R_elder' (by (with_reducible repeat (first | apply Kd.R_alloc | apply Kd.R_drewN | apply Kd.R_drew)); exact HO300.out) (Kd.R_base ho0) hb); have n1_ := Aside0.mk (Kd.R_elder' (by (with_reducible repeat (first | apply Kd.R_alloc | apply Kd.R_drewN | apply Kd.R_drew)); exact HO306.out) (Kd.R_base ho0) hb); have n2_ := Aside0.mk (Kd.R_elder' (by (with_reducible repeat (first | apply Kd.R_alloc | apply Kd.R_drewN | apply Kd.R_drew)); exact HO309.out) (Kd.R_base ho0) hb); have n3_ := Aside0.mk (Kd.R_lower (Kd.R_new' (Kd.R_new' (Kd.R_new' ho0 (Kd.R_lt (by (with_reducible repeat (first | apply Kd.R_alloc | apply Kd.R_drewN | apply Kd.R_drew)); exact HO300.out))) (Kd.R_lt (by (with_reducible repeat (first | apply Kd.R_alloc | apply Kd.R_drewN | apply Kd.R_drew)); exact HO306.out))) (Kd.R_lt (by (with_reducible repeat (first | apply Kd.R_alloc | apply Kd.R_drewN | apply Kd.R_drew)); exact HO309.out))) (below_size (by repeat (first | (with_reducible first | exact HB.out | apply below_alloc | apply pw_below_drewN | apply below_drew1) | exact HB.out)))); have n4_ := Aside0.mk (below_step (by repeat (first | (with_reducible first | exact HB.out | apply below_alloc | apply pw_below_drewN | apply below_drew1) | exact HB.out)) hb); clear HO300; clear HO306; clear HO309; clear HB; have HO300 := n0_; have HO306 := n1_; have HO309 := n2_; have HO314 := n3_; have HB := n4_; clear n0_ n1_ n2_ n3_ n4_; (try clear hb); (try clear hb2); (try clear hk); (try clear hi); (try clear ho0)) | ((with_reducible refine gate_builtin (b := .append) (xs := #[.tmp 36, .tmp 37]) rfl ?_); (try (refine gate_guard (by rfl) ?_; dsimp only)); at_builtin; refine Kd.R_append_rows_keep (Kd.int .u8) (w0 := w) w.heap.size rfl (.tmp 36) (.tmp 37) 29 5 (.int .u8 0) 1 rfl Try.underlying29 info5 rfl (by decide) (by omega) v313 t312 l2 _ _ _ (fun k_ => some k_ ≠ (.slice Ao39 t298.length co39 : Value).ownBlock ∧ some k_ ≠ (v305 : Value).ownBlock ∧ some k_ ≠ (.slice Ao41 y307.length co41 : Value).ownBlock) (fun _ => False) rfl rfl ?aO ?aR (fun _ _ h => h) (fun _ h => h.elim) ?aF ?aB ?aS ?aL ?_; (case aR => repeat (first | exact (Kd.C_below HR2.out HB.out) | (with_reducible refine Kd.C_alloc ?_ _) | (with_reducible refine Kd.C_drewN ?_ _) | (with_reducible refine Kd.C_drew ?_))); (case aB => exact (by repeat (first | (with_reducible first | exact HB.out | apply below_alloc | apply pw_below_drewN | apply below_drew1) | exact HB.out))); (case aF => exact (fun k_ hk => ⟨Kd.fresh' (Kd.R_lt (by (with_reducible repeat (first | apply Kd.R_alloc | apply Kd.R_drewN | apply Kd.R_drew)); exact HO300.out)) k_ hk, Kd.fresh' (Kd.R_lt (by (with_reducible repeat (first | apply Kd.R_alloc | apply Kd.R_drewN | apply Kd.R_drew)); exact HO306.out)) k_ hk, Kd.fresh' (Kd.R_lt (by (with_reducible repeat (first | apply Kd.R_alloc | apply Kd.R_drewN | apply Kd.R_drew)); exact HO309.out)) k_ hk⟩)); (case aO => exact (by (with_reducible repeat (first | apply Kd.R_alloc | apply Kd.R_drewN | apply Kd.R_drew)); exact Kd.R_mono HO314.out (fun _ hk => ⟨hk.1.1.2, ⟨hk.1.2, hk.2⟩⟩))); (case aS => exact (below_size (by repeat (first | (with_reducible first | exact HB.out | apply below_alloc | apply pw_below_drewN | apply below_drew1) | exact HB.out)))); (case aL => have := LMc13.out; omega); intro v316 w44 ho hb hg hat hold; rw [← Ny315.out] at ho; have n0_ := Aside0.mk (Kd.R_grownk (ok := (fun k_ => some k_ ≠ (v305 : Value).ownBlock)) (by (with_reducible repeat (first | apply Kd.R_alloc | apply Kd.R_drewN | apply Kd.R_drew)); exact Kd.R_mono HO300.out (fun _ hk => ⟨hk.1.2, hk.2⟩)) hg); have n1_ := Aside0.mk (Kd.R_grownk (ok := (fun k_ => some k_ ≠ (.slice Ao39 t298.length co39 : Value).ownBlock)) (by (with_reducible repeat (first | apply Kd.R_alloc | apply Kd.R_drewN | apply Kd.R_drew)); exact HO306.out) hg); have n2_ := Aside0.mk (Kd.R_grownk (ok := (fun k_ => some k_ ≠ (.slice Ao39 t298.length co39 : Value).ownBlock)) (by (with_reducible repeat (first | apply Kd.R_alloc | apply Kd.R_drewN | apply Kd.R_drew)); exact HO309.out) hg); have n3_ := Aside0.mk (hold); have n4_ := Aside0.mk (hb); have n5_ := Aside0.mk (ho); clear HO300; clear HO306; clear HO309; clear HO314; clear HB; have HO300 := n0_; have HO306 := n1_; have HO309 := n2_; have HO314 := n3_; have HB := n4_; have HO317 := n5_; clear n0_ n1_ n2_ n3_ n4_ n5_; clear ho hb hg hat; (try clear hold); obtain ⟨Ao45, co45, eo45⟩ := Kd.R_slice HO317.out; subst eo45) | ((with_reducible refine gate_callee (f := 37) rfl ?_); refine goesL_ (some 41) rfl rfl Try.func37 (by kernel_rfl) rfl #[.slice Ao45 y315.length co45, .int .i64 (x1_3.size : Int)] rfl (by (try simp only [List.map_toArray, List.map_cons, List.map_nil]); first | done | rfl | (simp only [List.length_drop, List.length_take]; rfl)) ?_; (with_reducible refine (varint_Cut.calls kj3 _ _ y315 (x1_3.size : Int) t318 t319 _ ?side1 ?side2 A14.out).mono ?_); (case side1 => repeat (first | exact (Kd.R_reads' HO317.out).2.2 | (with_reducible refine Kd.C_alloc ?_ _) | (with_reducible refine Kd.C_drewN ?_ _) | (with_reducible refine Kd.C_drew ?_))); (case side2 => exact (Kd.R_reads' HO317.out).2.1); rintro e w46 ⟨rfl, hb⟩; refine ⟨_, rfl, ?_⟩; have n0_ := Aside0.mk (Kd.R_below (by (with_reducible repeat (first | apply Kd.R_alloc | apply Kd.R_drewN | apply Kd.R_drew)); exact HO300.out) hb); have n1_ := Aside0.mk (Kd.R_below (by (with_reducible repeat (first | apply Kd.R_alloc | apply Kd.R_drewN | apply Kd.R_drew)); exact HO306.out) hb); have n2_ := Aside0.mk (Kd.R_below (by (with_reducible repeat (first | apply Kd.R_alloc | apply Kd.R_drewN | apply Kd.R_drew)); exact HO309.out) hb); have n3_ := Aside0.mk (Kd.R_below (by (with_reducible repeat (first | apply Kd.R_alloc | apply Kd.R_drewN | apply Kd.R_drew)); exact HO314.out) hb); have n4_ := Aside0.mk (Kd.R_below (by (with_reducible repeat (first | apply Kd.R_alloc | apply Kd.R_drewN | apply Kd.R_drew)); exact HO317.out) hb); have n5_ := Aside0.mk (below_step (by repeat (first | (with_reducible first | exact HB.out | apply below_alloc | apply pw_below_drewN | apply below_drew1) | exact HB.out)) hb); clear HO300; clear HO306; clear HO309; clear HO314; clear HO317; clear HB; have HO300 := n0_; have HO306 := n1_; have HO309 := n2_; have HO314 := n3_; have HO317 := n4_; have HB := n5_; clear n0_ n1_ n2_ n3_ n4_ n5_; (try clear hb); (try clear hb2); (try clear hk); (try clear hi)) | ((with_reducible refine gate_callee (f := 38) rfl ?_); refine goesL_ (some 46) rfl rfl Try.func38 (by kernel_rfl) rfl #[.slice none 0 0, .string x1_3] rfl (by (try simp only [List.map_toArray, List.map_cons, List.map_nil]); first | done | rfl | (simp only [List.length_drop, List.length_take]; rfl)) ?_; (refine (varint_Text.calls kj3 _ _ ([] : List Int) x1_3 t320 _ ?side1 ?side2 A15.out).mono ?_); (case side1 => exact Kd.C_nil _ _); (case side2 => exact Nat.le_refl _); rintro e w47 ⟨v321, rfl, ho0, hb⟩; refine ⟨_, rfl, ?_⟩; have n0_ := Aside0.mk (Kd.R_elder' (by (with_reducible repeat (first | apply Kd.R_alloc | apply Kd.R_drewN | apply Kd.R_drew)); exact HO300.out) (Kd.R_base ho0) hb); have n1_ := Aside0.mk (Kd.R_elder' (by (with_reducible repeat (first | apply Kd.R_alloc | apply Kd.R_drewN | apply Kd.R_drew)); exact HO306.out) (Kd.R_base ho0) hb); have n2_ := Aside0.mk (Kd.R_elder' (by (with_reducible repeat (first | apply Kd.R_alloc | apply Kd.R_drewN | apply Kd.R_drew)); exact HO309.out) (Kd.R_base ho0) hb); have n3_ := Aside0.mk (Kd.R_elder' (by (with_reducible repeat (first | apply Kd.R_alloc | apply Kd.R_drewN | apply Kd.R_drew)); exact HO314.out) (Kd.R_base ho0) hb); have n4_ := Aside0.mk (Kd.R_elder' (by (with_reducible repeat (first | apply Kd.R_alloc | apply Kd.R_drewN | apply Kd.R_drew)); exact HO317.out) (Kd.R_base ho0) hb); have n5_ := Aside0.mk (Kd.R_lower (Kd.R_new' (Kd.R_new' (Kd.R_new' (Kd.R_new' (Kd.R_new' ho0 (Kd.R_lt (by (with_reducible repeat (first | apply Kd.R_alloc | apply Kd.R_drewN | apply Kd.R_drew)); exact HO300.out))) (Kd.R_lt (by (with_reducible repeat (first | apply Kd.R_alloc | apply Kd.R_drewN | apply Kd.R_drew)); exact HO306.out))) (Kd.R_lt (by (with_reducible repeat (first | apply Kd.R_alloc | apply Kd.R_drewN | apply Kd.R_drew)); exact HO309.out))) (Kd.R_lt (by (with_reducible repeat (first | apply Kd.R_alloc | apply Kd.R_drewN | apply Kd.R_drew)); exact HO314.out))) (Kd.R_lt (by (with_reducible repeat (first | apply Kd.R_alloc | apply Kd.R_drewN | apply Kd.R_drew)); exact HO317.out))) (below_size (by repeat (first | (with_reducible first | exact HB.out | apply below_alloc | apply pw_below_drewN | apply below_drew1) | exact HB.out)))); have n6_ := Aside0.mk (below_step (by repeat (first | (with_reducible first | exact HB.out | apply below_alloc | apply pw_below_drewN | apply below_drew1) | exact HB.out)) hb); clear HO300; clear HO306; clear HO309; clear HO314; clear HO317; clear HB; have HO300 := n0_; have HO306 := n1_; have HO309 := n2_; have HO314 := n3_; have HO317 := n4_; have HO322 := n5_; have HB := n6_; clear n0_ n1_ n2_ n3_ n4_ n5_ n6_; (try clear hb); (try clear hb2); (try clear hk); (try clear hi); (try clear ho0); obtain ⟨Ao48, co48, eo48⟩ := Kd.R_slice HO322.out; subst eo48) | ((with_reducible refine gate_callee (f := 37) rfl ?_); refine goesL_ (some 50) rfl rfl Try.func37 (by kernel_rfl) rfl #[.slice Ao48 t320.length co48, .int .i64 (wrap64 ((x1_3.size : Int) - 1))] rfl (by (try simp only [List.map_toArray, List.map_cons, List.map_nil]); first | done | rfl | (simp only [List.length_drop, List.length_take]; rfl)) ?_; (with_reducible refine (varint_Cut.calls kj3 _ _ t320 (wrap64 ((x1_3.size : Int) - 1)) t323 t324 _ ?side1 ?side2 A16.out).mono ?_); (case side1 => repeat (first | exact (Kd.R_reads' HO322.out).2.2 | (with_reducible refine Kd.C_alloc ?_ _) | (with_reducible refine Kd.C_drewN ?_ _) | (with_reducible refine Kd.C_drew ?_))); (case side2 => exact (Kd.R_reads' HO322.out).2.1); rintro e w49 ⟨rfl, hb⟩; refine ⟨_, rfl, ?_⟩; have n0_ := Aside0.mk (Kd.R_below (by (with_reducible repeat (first | apply Kd.R_alloc | apply Kd.R_drewN | apply Kd.R_drew)); exact HO300.out) hb); have n1_ := Aside0.mk (Kd.R_below (by (with_reducible repeat (first | apply Kd.R_alloc | apply Kd.R_drewN | apply Kd.R_drew)); exact HO306.out) hb); have n2_ := Aside0.mk (Kd.R_below (by (with_reducible repeat (first | apply Kd.R_alloc | apply Kd.R_drewN | apply Kd.R_drew)); exact HO309.out) hb); have n3_ := Aside0.mk (Kd.R_below (by (with_reducible repeat (first | apply Kd.R_alloc | apply Kd.R_drewN | apply Kd.R_drew)); exact HO314.out) hb); have n4_ := Aside0.mk (Kd.R_below (by (with_reducible repeat (first | apply Kd.R_alloc | apply Kd.R_drewN | apply Kd.R_drew)); exact HO317.out) hb); have n5_ := Aside0.mk (Kd.R_below (by (with_reducible repeat (first | apply Kd.R_alloc | apply Kd.R_drewN | apply Kd.R_drew)); exact HO322.out) hb); have n6_ := Aside0.mk (below_step (by repeat (first | (with_reducible first | exact HB.out | apply below_alloc | apply pw_below_drewN | apply below_drew1) | exact HB.out)) hb); clear HO300; clear HO306; clear HO309; clear HO314; clear HO317; clear HO322; clear HB; have HO300 := n0_; have HO306 := n1_; have HO309 := n2_; have HO314 := n3_; have HO317 := n4_; have HO322 := n5_; have HB := n6_; clear n0_ n1_ n2_ n3_ n4_ n5_ n6_; (try clear hb); (try clear hb2); (try clear hk); (try clear hi)) | ((with_reducible refine gate_callee (f := 31) rfl ?_); refine goesL_ (some 55) rfl rfl Try.func31 (by kernel_rfl) rfl #[.slice none 0 0, .int .i64 a0] rfl (by (try simp only [List.map_toArray, List.map_cons, List.map_nil]); first | done | rfl | (simp only [List.length_drop, List.length_take]; rfl)) ?_; (refine (varint_Long.calls kj3 _ _ ([] : List Int) a0 t325 _ ?side1 ?side2 A17.out).mono ?_); (case side1 => exact Kd.C_nil _ _); (case side2 => exact Nat.le_refl _); rintro e w50 ⟨v326, rfl, ho0, hb⟩; refine ⟨_, rfl, ?_⟩; have n0_ := Aside0.mk (Kd.R_elder' (by (with_reducible repeat (first | apply Kd.R_alloc | apply Kd.R_drewN | apply Kd.R_drew)); exact HO300.out) (Kd.R_base ho0) hb); have n1_ := Aside0.mk (Kd.R_elder' (by (with_reducible repeat (first | apply Kd.R_alloc | apply Kd.R_drewN | apply Kd.R_drew)); exact HO306.out) (Kd.R_base ho0) hb); have n2_ := Aside0.mk (Kd.R_elder' (by (with_reducible repeat (first | apply Kd.R_alloc | apply Kd.R_drewN | apply Kd.R_drew)); exact HO309.out) (Kd.R_base ho0) hb); have n3_ := Aside0.mk (Kd.R_elder' (by (with_reducible repeat (first | apply Kd.R_alloc | apply Kd.R_drewN | apply Kd.R_drew)); exact HO314.out) (Kd.R_base ho0) hb); have n4_ := Aside0.mk (Kd.R_elder' (by (with_reducible repeat (first | apply Kd.R_alloc | apply Kd.R_drewN | apply Kd.R_drew)); exact HO317.out) (Kd.R_base ho0) hb); have n5_ := Aside0.mk (Kd.R_elder' (by (with_reducible repeat (first | apply Kd.R_alloc | apply Kd.R_drewN | apply Kd.R_drew)); exact HO322.out) (Kd.R_base ho0) hb); have n6_ := Aside0.mk (Kd.R_lower (Kd.R_new' (Kd.R_new' (Kd.R_new' (Kd.R_new' (Kd.R_new' (Kd.R_new' ho0 (Kd.R_lt (by (with_reducible repeat (first | apply Kd.R_alloc | apply Kd.R_drewN | apply Kd.R_drew)); exact HO300.out))) (Kd.R_lt (by (with_reducible repeat (first | apply Kd.R_alloc | apply Kd.R_drewN | apply Kd.R_drew)); exact HO306.out))) (Kd.R_lt (by (with_reducible repeat (first | apply Kd.R_alloc | apply Kd.R_drewN | apply Kd.R_drew)); exact HO309.out))) (Kd.R_lt (by (with_reducible repeat (first | apply Kd.R_alloc | apply Kd.R_drewN | apply Kd.R_drew)); exact HO314.out))) (Kd.R_lt (by (with_reducible repeat (first | apply Kd.R_alloc | apply Kd.R_drewN | apply Kd.R_drew)); exact HO317.out))) (Kd.R_lt (by (with_reducible repeat (first | apply Kd.R_alloc | apply Kd.R_drewN | apply Kd.R_drew)); exact HO322.out))) (below_size (by repeat (first | (with_reducible first | exact HB.out | apply below_alloc | apply pw_below_drewN | apply below_drew1) | exact HB.out)))); have n7_ := Aside0.mk (below_step (by repeat (first | (with_reducible first | exact HB.out | apply below_alloc | apply pw_below_drewN | apply below_drew1) | exact HB.out)) hb); clear HO300; clear HO306; clear HO309; clear HO314; clear HO317; clear HO322; clear HB; have HO300 := n0_; have HO306 := n1_; have HO309 := n2_; have HO314 := n3_; have HO317 := n4_; have HO322 := n5_; have HO327 := n6_; have HB := n7_; clear n0_ n1_ n2_ n3_ n4_ n5_ n6_ n7_; (try clear hb); (try clear hb2); (try clear hk); (try clear hi); (try clear ho0)) | ((with_reducible refine gate_builtin (b := .append) (xs := #[.tmp 55, .tmp 56]) rfl ?_); (try (refine gate_guard (by rfl) ?_; dsimp only)); at_builtin; refine Kd.R_append_rows_keep (Kd.int .u8) (w0 := w) w.heap.size rfl (.tmp 55) (.tmp 56) 29 5 (.int .u8 0) 1 rfl Try.underlying29 info5 rfl (by decide) (by omega) v326 t325 l2 _ _ _ (fun k_ => some k_ ≠ (.slice Ao39 t298.length co39 : Value).ownBlock ∧ some k_ ≠ (v305 : Value).ownBlock ∧ some k_ ≠ (.slice Ao41 y307.length co41 : Value).ownBlock ∧ some k_ ≠ (v313 : Value).ownBlock ∧ some k_ ≠ (.slice Ao45 y315.length co45 : Value).ownBlock ∧ some k_ ≠ (.slice Ao48 t320.length co48 : Value).ownBlock) (fun _ => False) rfl rfl ?aO ?aR (fun _ _ h => h) (fun _ h => h.elim) ?aF ?aB ?aS ?aL ?_; (case aR => repeat (first | exact (Kd.C_below HR2.out HB.out) | (with_reducible refine Kd.C_alloc ?_ _) | (with_reducible refine Kd.C_drewN ?_ _) | (with_reducible refine Kd.C_drew ?_))); (case aB => exact (by repeat (first | (with_reducible first | exact HB.out | apply below_alloc | apply pw_below_drewN | apply below_drew1) | exact HB.out))); (case aF => exact (fun k_ hk => ⟨Kd.fresh' (Kd.R_lt (by (with_reducible repeat (first | apply Kd.R_alloc | apply Kd.R_drewN | apply Kd.R_drew)); exact HO300.out)) k_ hk, Kd.fresh' (Kd.R_lt (by (with_reducible repeat (first | apply Kd.R_alloc | apply Kd.R_drewN | apply Kd.R_drew)); exact HO306.out)) k_ hk, Kd.fresh' (Kd.R_lt (by (with_reducible repeat (first | apply Kd.R_alloc | apply Kd.R_drewN | apply Kd.R_drew)); exact HO309.out)) k_ hk, Kd.fresh' (Kd.R_lt (by (with_reducible repeat (first | apply Kd.R_alloc | apply Kd.R_drewN | apply Kd.R_drew)); exact HO314.out)) k_ hk, Kd.fresh' (Kd.R_lt (by (with_reducible repeat (first | apply Kd.R_alloc | apply Kd.R_drewN | apply Kd.R_drew)); exact HO317.out)) k_ hk, Kd.fresh' (Kd.R_lt (by (with_reducible repeat (first | apply Kd.R_alloc | apply Kd.R_drewN | apply Kd.R_drew)); exact HO322.out)) k_ hk⟩)); (case aO => exact (by (with_reducible repeat (first | apply Kd.R_alloc | apply Kd.R_drewN | apply Kd.R_drew)); exact Kd.R_mono HO327.out (fun _ hk => ⟨hk.1.1.1.1.1.2, ⟨hk.1.1.1.1.2, ⟨hk.1.1.1.2, ⟨hk.1.1.2, ⟨hk.1.2, hk.2⟩⟩⟩⟩⟩))); (case aS => exact (below_size (by repeat (first | (with_reducible first | exact HB.out | apply below_alloc | apply pw_below_drewN | apply below_drew1) | exact HB.out)))); (case aL => have := LMc18.out; omega); intro v329 w51 ho hb hg hat hold; rw [← Ny328.out] at ho; have n0_ := Aside0.mk (Kd.R_grownk (ok := (fun k_ => some k_ ≠ (v305 : Value).ownBlock ∧ some k_ ≠ (v313 : Value).ownBlock ∧ some k_ ≠ (.slice Ao48 t320.length co48 : Value).ownBlock)) (by (with_reducible repeat (first | apply Kd.R_alloc | apply Kd.R_drewN | apply Kd.R_drew)); exact Kd.R_mono HO300.out (fun _ hk => ⟨⟨hk.1.1.1, ⟨hk.1.1.2, hk.1.2⟩⟩, hk.2⟩)) hg); have n1_ := Aside0.mk (Kd.R_grownk (ok := (fun k_ => some k_ ≠ (.slice Ao39 t298.length co39 : Value).ownBlock ∧ some k_ ≠ (v313 : Value).ownBlock ∧ some k_ ≠ (.slice Ao48 t320.length co48 : Value).ownBlock)) (by (with_reducible repeat (first | apply Kd.R_alloc | apply Kd.R_drewN | apply Kd.R_drew)); exact Kd.R_mono HO306.out (fun _ hk => ⟨⟨hk.1.1.1, ⟨hk.1.1.2, hk.1.2⟩⟩, hk.2⟩)) hg); have n2_ := Aside0.mk (Kd.R_grownk (ok := (fun k_ => some k_ ≠ (.slice Ao39 t298.length co39 : Value).ownBlock ∧ some k_ ≠ (v313 : Value).ownBlock ∧ some k_ ≠ (.slice Ao48 t320.length co48 : Value).ownBlock)) (by (with_reducible repeat (first | apply Kd.R_alloc | apply Kd.R_drewN | apply Kd.R_drew)); exact Kd.R_mono HO309.out (fun _ hk => ⟨⟨hk.1.1.1, ⟨hk.1.1.2, hk.1.2⟩⟩, hk.2⟩)) hg); have n3_ := Aside0.mk (Kd.R_grownk (ok := (fun k_ => some k_ ≠ (.slice Ao39 t298.length co39 : Value).ownBlock ∧ some k_ ≠ (v305 : Value).ownBlock ∧ some k_ ≠ (.slice Ao41 y307.length co41 : Value).ownBlock ∧ some k_ ≠ (.slice Ao48 t320.length co48 : Value).ownBlock)) (by (with_reducible repeat (first | apply Kd.R_alloc | apply Kd.R_drewN | apply Kd.R_drew)); exact Kd.R_mono HO314.out (fun _ hk => ⟨⟨hk.1.1.1, ⟨hk.1.1.2.1, ⟨hk.1.1.2.2, hk.1.2⟩⟩⟩, hk.2⟩)) hg); have n4_ := Aside0.mk (Kd.R_grownk (ok := (fun k_ => some k_ ≠ (.slice Ao39 t298.length co39 : Value).ownBlock ∧ some k_ ≠ (v305 : Value).ownBlock ∧ some k_ ≠ (.slice Ao41 y307.length co41 : Value).ownBlock ∧ some k_ ≠ (.slice Ao48 t320.length co48 : Value).ownBlock)) (by (with_reducible repeat (first | apply Kd.R_alloc | apply Kd.R_drewN | apply Kd.R_drew)); exact Kd.R_mono HO317.out (fun _ hk => ⟨⟨hk.1.1.1, ⟨hk.1.1.2.1, ⟨hk.1.1.2.2, hk.1.2⟩⟩⟩, hk.2⟩)) hg); have n5_ := Aside0.mk (Kd.R_grownk (ok := (fun k_ => some k_ ≠ (.slice Ao39 t298.length co39 : Value).ownBlock ∧ some k_ ≠ (v305 : Value).ownBlock ∧ some k_ ≠ (.slice Ao41 y307.length co41 : Value).ownBlock ∧ some k_ ≠ (v313 : Value).ownBlock ∧ some k_ ≠ (.slice Ao45 y315.length co45 : Value).ownBlock)) (by (with_reducible repeat (first | apply Kd.R_alloc | apply Kd.R_drewN | apply Kd.R_drew)); exact Kd.R_mono HO322.out (fun _ hk => ⟨⟨hk.1.1.1.1.1.2, ⟨hk.1.1.1.1.2, ⟨hk.1.1.1.2, ⟨hk.1.1.2, hk.1.2⟩⟩⟩⟩, hk.2⟩)) hg); have n6_ := Aside0.mk (hold); have n7_ := Aside0.mk (hb); have n8_ := Aside0.mk (ho); clear HO300; clear HO306; clear HO309; clear HO314; clear HO317; clear HO322; clear HO327; clear HB; have HO300 := n0_; have HO306 := n1_; have HO309 := n2_; have HO314 := n3_; have HO317 := n4_; have HO322 := n5_; have HO327 := n6_; have HB := n7_; have HO330 := n8_; clear n0_ n1_ n2_ n3_ n4_ n5_ n6_ n7_ n8_; clear ho hb hg hat; (try clear hold); obtain ⟨Ao52, co52, eo52⟩ := Kd.R_slice HO330.out; subst eo52) | ((with_reducible refine gate_callee (f := 32) rfl ?_); refine goesL_ (some 58) rfl rfl Try.func32 (by kernel_rfl) rfl #[.slice Ao52 y328.length co52] rfl (by (try simp only [List.map_toArray, List.map_cons, List.map_nil]); first | done | rfl | (simp only [List.length_drop, List.length_take]; rfl)) ?_; (with_reducible refine (varint_Back.calls kj3 _ _ y328 t331 true _ ?side1 ?side2 A19.out).mono ?_); (case side1 => repeat (first | exact (Kd.R_reads' HO330.out).2.2 | (with_reducible refine Kd.C_alloc ?_ _) | (with_reducible refine Kd.C_drewN ?_ _) | (with_reducible refine Kd.C_drew ?_))); (case side2 => exact (Kd.R_reads' HO330.out).2.1); rintro e w' ⟨rfl, ⟨nd, rfl⟩⟩; refine ⟨_, rfl, ?_⟩; have q53 : ((ji21) : Int) ≤ ((t298.length : Int) : Int) := of_decide_eq_true (by first | (with_reducible assumption) | assumption); obtain ⟨i053, hi053, _, hsz53, _⟩ := info_parts info5; have hroom53 : t298.length ≤ co39 := (Kd.R_reads' HO300.out).2.1; have hC53 : Kd.C (Kd.int .u8) _ Ao39 t298.length t298 := (Kd.R_reads' HO300.out).2.2; have hcut53 := cut_to (P := Try.prog) 29 5 .i64 Try.underlying29 hi053 Ao39 t298.length co39 (ji21) (of_decide_eq_true (by first | (with_reducible assumption) | assumption)) q53 hroom53; have hr53 := Kd.C_take (m := ((ji21) : Int).toNat) hC53 (by omega); have hy53 : y333.length = ((ji21) : Int).toNat := (by rw [Ny333.out, List.length_take]; omega); rw [← Ny333.out] at hr53; rw [← hy53] at hcut53; have HR336 := Aside0.mk hr53; have HC336 := Aside0.mk (show y333.length ≤ co39 from by omega); clear hr53 hC53 hroom53 hi053 hsz53; have KY53 := Aside0.mk hy53; clear hy53; have KL53 := Aside0.mk (show ((ji21) : Int).toNat ≤ t298.length from by omega); replace q53 := eq_true q53) | ((with_reducible refine gate_callee (f := 29) rfl ?_); refine goesL_ (some 70) rfl rfl Try.func29 (by kernel_rfl) rfl #[.slice Ao39 y333.length co39] rfl (by (try simp only [List.map_toArray, List.map_cons, List.map_nil]); first | done | rfl | (simp only [List.length_drop, List.length_take]; rfl)) ?_; (with_reducible refine (varint_Get.calls kj3 _ _ y333 t337 t338 _ ?side1 ?side2 A24.out).mono ?_); (case side1 => repeat (first | exact (by repeat (first | (with_reducible exact HR336.out) | (with_reducible refine Kd.C_alloc ?_ _) | (with_reducible refine Kd.C_drewN ?_ _) | (with_reducible refine Kd.C_drew ?_) | exact HR336.out)) | (with_reducible refine Kd.C_alloc ?_ _) | (with_reducible refine Kd.C_drewN ?_ _) | (with_reducible refine Kd.C_drew ?_))); (case side2 => exact HC336.out); rintro e w54 ⟨rfl, hb⟩; refine ⟨_, rfl, ?_⟩; have n0_ := Aside0.mk (Kd.R_below (by (with_reducible repeat (first | apply Kd.R_alloc | apply Kd.R_drewN | apply Kd.R_drew)); exact HO300.out) hb); have n1_ := Aside0.mk (Kd.R_below (by (with_reducible repeat (first | apply Kd.R_alloc | apply Kd.R_drewN | apply Kd.R_drew)); exact HO306.out) hb); have n2_ := Aside0.mk (Kd.R_below (by (with_reducible repeat (first | apply Kd.R_alloc | apply Kd.R_drewN | apply Kd.R_drew)); exact HO309.out) hb); have n3_ := Aside0.mk (Kd.R_below (by (with_reducible repeat (first | apply Kd.R_alloc | apply Kd.R_drewN | apply Kd.R_drew)); exact HO314.out) hb); have n4_ := Aside0.mk (Kd.R_below (by (with_reducible repeat (first | apply Kd.R_alloc | apply Kd.R_drewN | apply Kd.R_drew)); exact HO317.out) hb); have n5_ := Aside0.mk (Kd.R_below (by (with_reducible repeat (first | apply Kd.R_alloc | apply Kd.R_drewN | apply Kd.R_drew)); exact HO322.out) hb); have n6_ := Aside0.mk (Kd.R_below (by (with_reducible repeat (first | apply Kd.R_alloc | apply Kd.R_drewN | apply Kd.R_drew)); exact HO327.out) hb); have n7_ := Aside0.mk (Kd.R_below (by (with_reducible repeat (first | apply Kd.R_alloc | apply Kd.R_drewN | apply Kd.R_drew)); exact HO330.out) hb); have n8_ := Aside0.mk (Kd.C_below (by repeat (first | (with_reducible exact HR336.out) | (with_reducible refine Kd.C_alloc ?_ _) | (with_reducible refine Kd.C_drewN ?_ _) | (with_reducible refine Kd.C_drew ?_) | exact HR336.out)) hb); have n9_ := Aside0.mk (below_step (by repeat (first | (with_reducible first | exact HB.out | apply below_alloc | apply pw_below_drewN | apply below_drew1) | exact HB.out)) hb); clear HO300; clear HO306; clear HO309; clear HO314; clear HO317; clear HO322; clear HO327; clear HO330; clear HR336; clear HB; have HO300 := n0_; have HO306 := n1_; have HO309 := n2_; have HO314 := n3_; have HO317 := n4_; have HO322 := n5_; have HO327 := n6_; have HO330 := n7_; have HR336 := n8_; have HB := n9_; clear n0_ n1_ n2_ n3_ n4_ n5_ n6_ n7_ n8_ n9_; (try clear hb); (try clear hb2); (try clear hk); (try clear hi)) | (go_at_call 30; (with_reducible refine (bordereaulaw2_known.calls kj3  t339 _ A34.out).mono ?_); rintro e w55 ⟨rfl, hb⟩; have n0_ := Aside0.mk (Kd.R_below (by (with_reducible repeat (first | apply Kd.R_alloc | apply Kd.R_drewN | apply Kd.R_drew)); exact HO300.out) hb); have n1_ := Aside0.mk (Kd.R_below (by (with_reducible repeat (first | apply Kd.R_alloc | apply Kd.R_drewN | apply Kd.R_drew)); exact HO306.out) hb); have n2_ := Aside0.mk (Kd.R_below (by (with_reducible repeat (first | apply Kd.R_alloc | apply Kd.R_drewN | apply Kd.R_drew)); exact HO309.out) hb); have n3_ := Aside0.mk (Kd.R_below (by (with_reducible repeat (first | apply Kd.R_alloc | apply Kd.R_drewN | apply Kd.R_drew)); exact HO314.out) hb); have n4_ := Aside0.mk (Kd.R_below (by (with_reducible repeat (first | apply Kd.R_alloc | apply Kd.R_drewN | apply Kd.R_drew)); exact HO317.out) hb); have n5_ := Aside0.mk (Kd.R_below (by (with_reducible repeat (first | apply Kd.R_alloc | apply Kd.R_drewN | apply Kd.R_drew)); exact HO322.out) hb); have n6_ := Aside0.mk (Kd.R_below (by (with_reducible repeat (first | apply Kd.R_alloc | apply Kd.R_drewN | apply Kd.R_drew)); exact HO327.out) hb); have n7_ := Aside0.mk (Kd.R_below (by (with_reducible repeat (first | apply Kd.R_alloc | apply Kd.R_drewN | apply Kd.R_drew)); exact HO330.out) hb); have n8_ := Aside0.mk (Kd.C_below (by repeat (first | (with_reducible exact HR336.out) | (with_reducible refine Kd.C_alloc ?_ _) | (with_reducible refine Kd.C_drewN ?_ _) | (with_reducible refine Kd.C_drew ?_) | exact HR336.out)) hb); have n9_ := Aside0.mk (below_step (by repeat (first | (with_reducible first | exact HB.out | apply below_alloc | apply pw_below_drewN | apply below_drew1) | exact HB.out)) hb); clear HO300; clear HO306; clear HO309; clear HO314; clear HO317; clear HO322; clear HO327; clear HO330; clear HR336; clear HB; have HO300 := n0_; have HO306 := n1_; have HO309 := n2_; have HO314 := n3_; have HO317 := n4_; have HO322 := n5_; have HO327 := n6_; have HO330 := n7_; have HR336 := n8_; have HB := n9_; clear n0_ n1_ n2_ n3_ n4_ n5_ n6_ n7_ n8_ n9_; (try clear hb); (try clear hb2); (try clear hk); (try clear hi)))
                                      go_ret
                                      exact ⟨by first | rfl | (simp [errW_none, errW_some] <;> rfl) | (simp only [← hji21]; first | rfl | (simp [errW_none, errW_some] <;> rfl)) | (simp [*, errW_none, errW_some] <;> rfl), by repeat (first | (with_reducible first | exact HB.out | apply below_alloc | apply pw_below_drewN | apply below_drew1) | exact HB.out)⟩
                                    · rw [if_neg c33] at H
                                      exact absurd H (by simp)
                                  · replace c32 := Bool.eq_false_iff.mpr c32
                                    subst c32
                                    have H1 : (none) = some r := by rw [if_neg (show ¬ (false = true) by decide)] at H; exact H
                                    clear H
                                    have H := H1
                                    clear H1
                                    exact absurd H (by simp)
                                · rw [if_neg c31] at H
                                  exact absurd H (by simp)
                              · rw [if_neg c30] at H
                                exact absurd H (by simp)
                            · rw [if_neg c29] at H
                              exact absurd H (by simp)
                          · rw [if_neg c28] at H
                            exact absurd H (by simp)
                        · rw [if_neg c27] at H
                          exact absurd H (by simp)
                      · rw [if_neg c26] at H
                        exact absurd H (by simp)
                    · rw [if_neg c25] at H
                      exact absurd H (by simp)
                  · rw [if_neg c23] at H
                    exact absurd H (by simp)
                · rw [if_neg c22] at H
                  exact absurd H (by simp)
            · rw [if_neg c18] at H
              exact absurd H (by simp)
          · rw [if_neg c13] at H
            exact absurd H (by simp)
        · rw [if_neg c10] at H
          exact absurd H (by simp)
      · rw [if_neg c9] at H
        exact absurd H (by simp)

/-- THE ONE PURE STATEMENT of bordereaulaw2_VarintBack: yours. -/
def bordereaulaw2_VarintBack.Pure : Prop := ∀ (a0 : Int) (a1 : ByteArray) (l2 : List Int), (Lit.int .i64 a0).wf = true → a1.size ≤ 140737488351232 → l2.length ≤ maxLen → l2.length * 1 ≤ 140737488351232 → (∀ x ∈ l2, (Lit.int .u8 x).wf = true) → ∃ k, bordereaulaw2_VarintBack.f k a0 a1 l2 = some true
theorem bordereaulaw2_VarintBack.walk (P : bordereaulaw2_VarintBack.Pure) (a0 : Int) (a1 : ByteArray) (a2 : Option Addr) (len2 cap2 : Nat) (z2 : List Int) (w : World) (w0 : (Lit.int .i64 a0).wf = true) (w1 : a1.size ≤ 140737488351232) (w2 : (a2 = none ∧ len2 = 0 ∧ cap2 = 0 ∧ z2 = []) ∨ ∃ x, a2 = some x ∧ len2 ≤ cap2 ∧ cap2 ≤ maxLen ∧ z2.length = cap2 ∧ (∀ i, i < z2.length → w.cell? (x.add i) = some (.int .u8 (z2.getD i 0))) ∧ ∀ n ∈ z2, (Lit.int .u8 n).wf = true) (y2 : len2 * 1 ≤ 140737488351232) :
    Calls Try.prog 13 #[.int .i64 a0, .string a1, .slice a2 len2 cap2] w fun e w' => e = .returned (.bool true) ∧ Below w.heap.size w w' := by
  obtain ⟨l2, rfl, hr2, hm2, hw2, hc2⟩ := ReadsInt.ofRowC w2
  obtain ⟨k, h⟩ := P a0 a1 l2 w0 w1 hm2 y2 hw2
  refine (bordereaulaw2_VarintBack.calls k a0 a1 _ _ l2 true w (Kd.C_of_reads (d := (0 : Int)) (h1 := fun _ => rfl) hr2) hc2 h).mono ?_
  rintro e w' ⟨rfl, hd⟩
  exact ⟨rfl, hd⟩

end Go.Proofs.Ytddgichochdgcaa.PM
