-- Written by a program of this session (wip/print/myprint.sh).
import Derived.Test.YtknclghaofmnhaaPBRx0
import Derived.Test.YtknclghaofmnhaaPBRx4
namespace Go.Proofs.Ytknclghaofmnhaa.PBR
open Go.RowKit Go.Proofs.YtknclghaofmnhaaV.PrintWords Go.Proofs.YtknclghaofmnhaaV.PrintLast Go.Proofs.YtknclghaofmnhaaV.PrintMore
attribute [local go_sem] max2_int min2_int max_two min_two max_three min_three max_four min_four   -- for this text's walks alone
set_option linter.unusedVariables false
set_option linter.unusedSimpArgs false

/-! ### batch_data: function 115 -/
mutual
def batch_data.j0 : Nat → Bool → Int → Int → Int → Int → Bool → Int → List (S71) → Option (Int)
  | 0, _, _, _, _, _, _, _, _ => none
  | k + 1, x3, x238000, x238001, x238002, x238003, x238004, x238005, x238006 => if x3 = true then (batch_data.j1 k false x238000 x238001 x238002 x238003 x238004 x238005 x238006) else ((batch_named.f x238000 x238001 x238002 x238003 x238004 x238005 x238006).bind fun t238 => (if t238 = true then ((seq_Right.f x238003).bind fun t239 => (batch_data.j1 k (!t239) x238000 x238001 x238002 x238003 x238004 x238005 x238006)) else (batch_data.j1 k (!false) x238000 x238001 x238002 x238003 x238004 x238005 x238006)))
def batch_data.j1 : Nat → Bool → Int → Int → Int → Int → Bool → Int → List (S71) → Option (Int)
  | 0, _, _, _, _, _, _, _, _ => none
  | k + 1, x24, x238000, x238001, x238002, x238003, x238004, x238005, x238006 => if x24 = true then (some 12) else (if (x238006.length : Int) = 0 then (some 12) else (if (x238006.length : Int) > 16 then (some 13) else (batch_data.l0 k x238006 (x238006.length : Int) 0)))
def batch_data.l0 : Nat → List (S71) → Int → Int → Option (Int)
  | 0, _, _, _ => none
  | k + 1, x48, x49, x50 => if x50 < x49 then (if 0 ≤ x50 then (if x50 < (x48.length : Int) then (if (((rd_T71 x48 x50).f0).size : Int) > 64 then (some 13) else (if (((rd_T71 x48 x50).f1).size : Int) > 64 then (some 13) else (batch_data.l0 k x48 x49 (wrap64 (x50 + 1))))) else (none)) else (none)) else (some 0)
end
def batch_data.f (k : Nat) (a0_0 : Int) (a0_1 : Int) (a0_2 : Int) (a0_3 : Int) (a0_4 : Bool) (a0_5 : Int) (l0_6 : List (S71)) : Option (Int) := if a0_1 = (-1) then (if a0_2 = (-1) then (if a0_3 = (-1) then (batch_data.j0 k (!a0_4) a0_0 a0_1 a0_2 a0_3 a0_4 a0_5 l0_6) else (batch_data.j0 k false a0_0 a0_1 a0_2 a0_3 a0_4 a0_5 l0_6)) else (batch_data.j0 k false a0_0 a0_1 a0_2 a0_3 a0_4 a0_5 l0_6)) else (batch_data.j0 k false a0_0 a0_1 a0_2 a0_3 a0_4 a0_5 l0_6)
theorem batch_data.mono_l : ∀ k, (∀ y0 y1 y2 y3 y4 y5 y6 y7, LeO (batch_data.j0 k y0 y1 y2 y3 y4 y5 y6 y7) (batch_data.j0 (k + 1) y0 y1 y2 y3 y4 y5 y6 y7)) ∧ (∀ y0 y1 y2 y3 y4 y5 y6 y7, LeO (batch_data.j1 k y0 y1 y2 y3 y4 y5 y6 y7) (batch_data.j1 (k + 1) y0 y1 y2 y3 y4 y5 y6 y7)) ∧ (∀ y0 y1 y2, LeO (batch_data.l0 k y0 y1 y2) (batch_data.l0 (k + 1) y0 y1 y2))
  | 0 => ⟨fun _ _ _ _ _ _ _ _ r h => by simp [batch_data.j0] at h, fun _ _ _ _ _ _ _ _ r h => by simp [batch_data.j1] at h, fun _ _ _ r h => by simp [batch_data.l0] at h⟩
  | k + 1 => by
    obtain ⟨ih0, ih1, ih2⟩ := batch_data.mono_l k
    refine ⟨?_, ?_, ?_⟩
    · intro y0 y1 y2 y3 y4 y5 y6 y7
      unfold batch_data.j0
      repeat' first
      | (with_reducible exact ih0 _ _ _ _ _ _ _ _)
      | (with_reducible exact ih1 _ _ _ _ _ _ _ _)
      | (with_reducible exact ih2 _ _ _)
      | (with_reducible exact LeO.refl _)
      | (with_reducible exact LeO.none _)
      | (with_reducible refine LeO.ite ?_ ?_)
      | (with_reducible refine LeO.bind ?_ (fun _ => ?_))
      | exact ih0 _ _ _ _ _ _ _ _
      | exact ih1 _ _ _ _ _ _ _ _
      | exact ih2 _ _ _
      | exact LeO.none _
      | refine LeO.ite ?_ ?_
      | refine LeO.bind ?_ (fun _ => ?_)
    · intro y0 y1 y2 y3 y4 y5 y6 y7
      unfold batch_data.j1
      repeat' first
      | (with_reducible exact ih0 _ _ _ _ _ _ _ _)
      | (with_reducible exact ih1 _ _ _ _ _ _ _ _)
      | (with_reducible exact ih2 _ _ _)
      | (with_reducible exact LeO.refl _)
      | (with_reducible exact LeO.none _)
      | (with_reducible refine LeO.ite ?_ ?_)
      | (with_reducible refine LeO.bind ?_ (fun _ => ?_))
      | exact ih0 _ _ _ _ _ _ _ _
      | exact ih1 _ _ _ _ _ _ _ _
      | exact ih2 _ _ _
      | exact LeO.none _
      | refine LeO.ite ?_ ?_
      | refine LeO.bind ?_ (fun _ => ?_)
    · intro y0 y1 y2
      unfold batch_data.l0
      repeat' first
      | (with_reducible exact ih0 _ _ _ _ _ _ _ _)
      | (with_reducible exact ih1 _ _ _ _ _ _ _ _)
      | (with_reducible exact ih2 _ _ _)
      | (with_reducible exact LeO.refl _)
      | (with_reducible exact LeO.none _)
      | (with_reducible refine LeO.ite ?_ ?_)
      | (with_reducible refine LeO.bind ?_ (fun _ => ?_))
      | exact ih0 _ _ _ _ _ _ _ _
      | exact ih1 _ _ _ _ _ _ _ _
      | exact ih2 _ _ _
      | exact LeO.none _
      | refine LeO.ite ?_ ?_
      | refine LeO.bind ?_ (fun _ => ?_)
theorem batch_data.mono : ∀ a0 a1 a2 a3 a4 a5 a6 k, LeO (batch_data.f k a0 a1 a2 a3 a4 a5 a6) (batch_data.f (k + 1) a0 a1 a2 a3 a4 a5 a6) := by
  intro a0 a1 a2 a3 a4 a5 a6 k
  obtain ⟨ih0, ih1, ih2⟩ := batch_data.mono_l k
  unfold batch_data.f
  repeat' first
      | (with_reducible exact ih0 _ _ _ _ _ _ _ _)
      | (with_reducible exact ih1 _ _ _ _ _ _ _ _)
      | (with_reducible exact ih2 _ _ _)
      | (with_reducible exact LeO.refl _)
      | (with_reducible exact LeO.none _)
      | (with_reducible refine LeO.ite ?_ ?_)
      | (with_reducible refine LeO.bind ?_ (fun _ => ?_))
      | exact ih0 _ _ _ _ _ _ _ _
      | exact ih1 _ _ _ _ _ _ _ _
      | exact ih2 _ _ _
      | exact LeO.none _
      | refine LeO.ite ?_ ?_
      | refine LeO.bind ?_ (fun _ => ?_)
set_option maxHeartbeats 8000000 in
set_option maxRecDepth 100000 in
theorem batch_data.calls (k : Nat) (a0_0 : Int) (a0_1 : Int) (a0_2 : Int) (a0_3 : Int) (a0_4 : Bool) (a0_5 : Int) (A0_6 : Option Addr) (c0_6 : Nat) (l0_6 : List (S71)) (r : Int) (w : World) (hr0_6 : Kd.C k71 w A0_6 l0_6.length l0_6) (hc0_6 : l0_6.length ≤ c0_6) (h : batch_data.f k a0_0 a0_1 a0_2 a0_3 a0_4 a0_5 l0_6 = some r) :
    Calls Try.prog 115 #[.agg #[.int .i64 a0_0, .int .i64 a0_1, .int .i64 a0_2, .int .i64 a0_3, .bool a0_4, .int .i64 a0_5, .slice A0_6 l0_6.length c0_6]] w fun e w' => e = .returned (.int .i64 r) ∧ Below w.heap.size w w' := by
  have hu56 := Try.underlying56
  have hu71 := Try.underlying71
  have HR0_6 := Aside0.mk hr0_6
  have HC0_6 := Aside0.mk hc0_6
  clear hr0_6 hc0_6
  have HB := Aside0.mk (Below.refl w.heap.size w)
  have H : (if a0_1 = (-1) then (if a0_2 = (-1) then (if a0_3 = (-1) then (batch_data.j0 k (!a0_4) a0_0 a0_1 a0_2 a0_3 a0_4 a0_5 l0_6) else (batch_data.j0 k false a0_0 a0_1 a0_2 a0_3 a0_4 a0_5 l0_6)) else (batch_data.j0 k false a0_0 a0_1 a0_2 a0_3 a0_4 a0_5 l0_6)) else (batch_data.j0 k false a0_0 a0_1 a0_2 a0_3 a0_4 a0_5 l0_6)) = some r := h
  clear h
  have HC2 := Aside0.mk H
  clear H
  go_enter Try.func115, Try.ntmps115
  go_upto_region 1 with (first | ((with_reducible refine gate_dst (N := 1) rfl ?_); (try (refine gate_guard (by rfl) ?_; dsimp only)); refine box_event ?hg (N := 1) ?hd (cs := #[.int .i64 a0_0, .int .i64 a0_1, .int .i64 a0_2, .int .i64 a0_3, .bool a0_4, .int .i64 a0_5, .slice A0_6 l0_6.length c0_6]) (t := 56) ?hr ?_; (case hd => rfl); (case hg => rfl); (case hr => first | (go_simp; done) | (go_simp; rfl)); intro gb237 hg w3 hbox hb; have n0_ := Aside0.mk (below_step (bel_ HB) hb); have n1_ := Aside0.mk (hbox); have n2_ := Aside0.mk ((by rw [hg]; exact (below_size (bel_ HB)) : w.heap.size ≤ gb237)); have n3_ := Aside0.mk ((by rw [hg]; exact (below_size (bel_ HB)) : w.heap.size ≤ gb237)); clear HB; have HB := n0_; have BK237 := n1_; have GW237 := n2_; have GE237 := n3_; clear n0_ n1_ n2_ n3_; clear hb hbox hg))
  (try simp only [Act.put, List.setIfInBounds_toArray, List.set_cons_zero, List.set_cons_succ])
  go_cut [3] (fun v3 wc => ∃ (kq : Nat) (x3_1 : Bool), v3 = .bool x3_1 ∧ Aside0 (batch_data.j0 kq x3_1 a0_0 a0_1 a0_2 a0_3 a0_4 a0_5 l0_6 = some r) ∧ Aside0 (kq ≤ k) ∧ Aside0 (wc.heap[gb237]? = some (.cells #[.int .i64 a0_0, .int .i64 a0_1, .int .i64 a0_2, .int .i64 a0_3, .bool a0_4, .int .i64 a0_5, (.slice A0_6 l0_6.length c0_6)] 56 (0, 0))) ∧ Aside0 (Below w.heap.size w wc))
  case first =>
    have H := HC2.out
    clear HC2
    by_cases c4 : a0_1 = (-1)
    · rw [if_pos c4] at H
      have c4b0 : (a0_1 == (-1)) = true := beq_iff_eq.mpr c4
      have c4b1 : (a0_1 != (-1)) = false := bne_eq_false_iff_eq.mpr c4
      clear c4
      (first | rw [c4b0] | (simp only [i64_w, i32_w]; rw [c4b0]) | skip)
      by_cases c5 : a0_2 = (-1)
      · rw [if_pos c5] at H
        have c5b0 : (a0_2 == (-1)) = true := beq_iff_eq.mpr c5
        have c5b1 : (a0_2 != (-1)) = false := bne_eq_false_iff_eq.mpr c5
        clear c5
        by_cases c6 : a0_3 = (-1)
        · rw [if_pos c6] at H
          have c6b0 : (a0_3 == (-1)) = true := beq_iff_eq.mpr c6
          have c6b1 : (a0_3 != (-1)) = false := bne_eq_false_iff_eq.mpr c6
          clear c6
          have H' := Aside0.mk H
          clear H
          obtain ⟨hcz7_0, hcz7_1, hcz7_2, hcz7_3, hcz7_4, hcz7_5, hcz7_6⟩ := cells7_ BK237.out
          have hfz7_ := blk_frozen BK237.out
          go_wp2
          go_meet
          case rel => exact ⟨_, (!a0_4), (by first | rfl | (simp; done) | (simp [*]; done)), H', ⟨by first | omega | exact Nat.le_refl _⟩, ⟨by (with_reducible repeat (first | refine blk_drewN ?_ _ | refine blk_drew ?_ | refine blk_alloc ?_ _)); exact BK237.out⟩, ⟨by repeat (first | (with_reducible first | exact HB.out | apply below_alloc | apply pw_below_drewN | apply below_drew1 | refine below_set ?_ GE237.out) | exact HB.out)⟩⟩
        · rw [if_neg c6] at H
          have c6b0 : (a0_3 == (-1)) = false := beq_eq_false_iff_ne.mpr c6
          have c6b1 : (a0_3 != (-1)) = true := bne_iff_ne.mpr c6
          have H' := Aside0.mk H
          clear H
          obtain ⟨hcz8_0, hcz8_1, hcz8_2, hcz8_3, hcz8_4, hcz8_5, hcz8_6⟩ := cells7_ BK237.out
          have hfz8_ := blk_frozen BK237.out
          go_wp2
          go_meet
          case rel => exact ⟨_, (false), (by first | rfl | (simp; done) | (simp [*]; done)), H', ⟨by first | omega | exact Nat.le_refl _⟩, ⟨by (with_reducible repeat (first | refine blk_drewN ?_ _ | refine blk_drew ?_ | refine blk_alloc ?_ _)); exact BK237.out⟩, ⟨by repeat (first | (with_reducible first | exact HB.out | apply below_alloc | apply pw_below_drewN | apply below_drew1 | refine below_set ?_ GE237.out) | exact HB.out)⟩⟩
      · rw [if_neg c5] at H
        have c5b0 : (a0_2 == (-1)) = false := beq_eq_false_iff_ne.mpr c5
        have c5b1 : (a0_2 != (-1)) = true := bne_iff_ne.mpr c5
        have H' := Aside0.mk H
        clear H
        obtain ⟨hcz9_0, hcz9_1, hcz9_2, hcz9_3, hcz9_4, hcz9_5, hcz9_6⟩ := cells7_ BK237.out
        have hfz9_ := blk_frozen BK237.out
        go_wp2
        go_meet
        case rel => exact ⟨_, (false), (by first | rfl | (simp; done) | (simp [*]; done)), H', ⟨by first | omega | exact Nat.le_refl _⟩, ⟨by (with_reducible repeat (first | refine blk_drewN ?_ _ | refine blk_drew ?_ | refine blk_alloc ?_ _)); exact BK237.out⟩, ⟨by repeat (first | (with_reducible first | exact HB.out | apply below_alloc | apply pw_below_drewN | apply below_drew1 | refine below_set ?_ GE237.out) | exact HB.out)⟩⟩
    · rw [if_neg c4] at H
      have c4b0 : (a0_1 == (-1)) = false := beq_eq_false_iff_ne.mpr c4
      have c4b1 : (a0_1 != (-1)) = true := bne_iff_ne.mpr c4
      (first | rw [c4b0] | (simp only [i64_w, i32_w]; rw [c4b0]) | skip)
      have H' := Aside0.mk H
      clear H
      obtain ⟨hcz10_0, hcz10_1, hcz10_2, hcz10_3, hcz10_4, hcz10_5, hcz10_6⟩ := cells7_ BK237.out
      have hfz10_ := blk_frozen BK237.out
      go_wp2
      go_meet
      case rel => exact ⟨_, (false), (by first | rfl | (simp; done) | (simp [*]; done)), H', ⟨by first | omega | exact Nat.le_refl _⟩, ⟨by (with_reducible repeat (first | refine blk_drewN ?_ _ | refine blk_drew ?_ | refine blk_alloc ?_ _)); exact BK237.out⟩, ⟨by repeat (first | (with_reducible first | exact HB.out | apply below_alloc | apply pw_below_drewN | apply below_drew1 | refine below_set ?_ GE237.out) | exact HB.out)⟩⟩
  case rest =>
    clear HC2
    try clear c1
    try clear p2
    try clear c4
    try clear c4b0
    try clear c4b1
    try clear c5
    try clear c5b0
    try clear c5b1
    try clear c6
    try clear c6b0
    try clear c6b1
    try clear hcz10_0
    try clear hcz10_1
    try clear hcz10_2
    try clear hcz10_3
    try clear hcz10_4
    try clear hcz10_5
    try clear hcz10_6
    try clear hcz7_0
    try clear hcz7_1
    try clear hcz7_2
    try clear hcz7_3
    try clear hcz7_4
    try clear hcz7_5
    try clear hcz7_6
    try clear hcz8_0
    try clear hcz8_1
    try clear hcz8_2
    try clear hcz8_3
    try clear hcz8_4
    try clear hcz8_5
    try clear hcz8_6
    try clear hcz9_0
    try clear hcz9_1
    try clear hcz9_2
    try clear hcz9_3
    try clear hcz9_4
    try clear hcz9_5
    try clear hcz9_6
    try clear hfz10_0
    try clear hfz10_1
    try clear hfz10_2
    try clear hfz10_3
    try clear hfz10_4
    try clear hfz10_5
    try clear hfz10_6
    try clear hfz7_0
    try clear hfz7_1
    try clear hfz7_2
    try clear hfz7_3
    try clear hfz7_4
    try clear hfz7_5
    try clear hfz7_6
    try clear hfz8_0
    try clear hfz8_1
    try clear hfz8_2
    try clear hfz8_3
    try clear hfz8_4
    try clear hfz8_5
    try clear hfz8_6
    try clear hfz9_0
    try clear hfz9_1
    try clear hfz9_2
    try clear hfz9_3
    try clear hfz9_4
    try clear hfz9_5
    try clear hfz9_6
    obtain ⟨kq, x3_1, rfl, HA, HJ1, BK237, HB⟩ := hcut
    cases kq with
    | zero => exact absurd HA.out (by simp [batch_data.j0])
    | succ kj1 =>
      have H := HA.out
      clear HA
      simp only [batch_data.j0] at H
      have HC11 := Aside0.mk H
      clear H
      go_upto_region 2 with (fail)
      go_cut [24] (fun v24 wc => ∃ (kq : Nat) (x24_10 : Bool), v24 = .bool x24_10 ∧ Aside0 (batch_data.j1 kq x24_10 a0_0 a0_1 a0_2 a0_3 a0_4 a0_5 l0_6 = some r) ∧ Aside0 (kq ≤ kj1) ∧ Aside0 (wc.heap[gb237]? = some (.cells #[.int .i64 a0_0, .int .i64 a0_1, .int .i64 a0_2, .int .i64 a0_3, .bool a0_4, .int .i64 a0_5, (.slice A0_6 l0_6.length c0_6)] 56 (0, 0))) ∧ Aside0 (Below w.heap.size w wc))
      case first =>
        have H := HC11.out
        clear HC11
        by_cases c12 : x3_1 = true
        · subst c12
          have H1 : (batch_data.j1 kj1 false a0_0 a0_1 a0_2 a0_3 a0_4 a0_5 l0_6) = some r := by rw [if_pos rfl] at H; exact H
          clear H
          have H := H1
          clear H1
          have H' := Aside0.mk H
          clear H
          go_wp2
          go_meet
          case rel => exact ⟨_, (false), (by first | rfl | (simp; done) | (simp [*]; done)), H', ⟨by have := HJ1.out; first | omega | exact Nat.le_refl _⟩, ⟨by (with_reducible repeat (first | refine blk_drewN ?_ _ | refine blk_drew ?_ | refine blk_alloc ?_ _)); exact BK237.out⟩, ⟨by repeat (first | (with_reducible first | exact HB.out | apply below_alloc | apply pw_below_drewN | apply below_drew1 | refine below_set ?_ GE237.out) | exact HB.out)⟩⟩
        · replace c12 := Bool.eq_false_iff.mpr c12
          subst c12
          have H1 : ((batch_named.f a0_0 a0_1 a0_2 a0_3 a0_4 a0_5 l0_6).bind fun t238 => (if t238 = true then ((seq_Right.f a0_3).bind fun t239 => (batch_data.j1 kj1 (!t239) a0_0 a0_1 a0_2 a0_3 a0_4 a0_5 l0_6)) else (batch_data.j1 kj1 (!false) a0_0 a0_1 a0_2 a0_3 a0_4 a0_5 l0_6))) = some r := by rw [if_neg (show ¬ (false = true) by decide)] at H; exact H
          clear H
          have H := H1
          clear H1
          replace H := Option.bind_eq_some_iff.mp H
          obtain ⟨t238, A130, H⟩ := H
          replace H : (if t238 = true then ((seq_Right.f a0_3).bind fun t239 => (batch_data.j1 kj1 (!t239) a0_0 a0_1 a0_2 a0_3 a0_4 a0_5 l0_6)) else (batch_data.j1 kj1 (!false) a0_0 a0_1 a0_2 a0_3 a0_4 a0_5 l0_6)) = some r := H
          have A13 := Aside0.mk A130
          clear A130
          by_cases c14 : t238 = true
          · subst c14
            have H1 : ((seq_Right.f a0_3).bind fun t239 => (batch_data.j1 kj1 (!t239) a0_0 a0_1 a0_2 a0_3 a0_4 a0_5 l0_6)) = some r := by rw [if_pos rfl] at H; exact H
            clear H
            have H := H1
            clear H1
            replace H := Option.bind_eq_some_iff.mp H
            obtain ⟨t239, A150, H⟩ := H
            replace H : (batch_data.j1 kj1 (!t239) a0_0 a0_1 a0_2 a0_3 a0_4 a0_5 l0_6) = some r := H
            have A15 := Aside0.mk A150
            clear A150
            have H' := Aside0.mk H
            clear H
            obtain ⟨hcz16_0, hcz16_1, hcz16_2, hcz16_3, hcz16_4, hcz16_5, hcz16_6⟩ := cells7_ BK237.out
            have hfz16_ := blk_frozen BK237.out
            go_wp2_with (first | (go_at_call 116; (with_reducible refine (batch_named.calls a0_0 a0_1 a0_2 a0_3 a0_4 a0_5 _ _ l0_6 true _ ?side1 ?side2 A13.out).mono ?_); (case side1 => exact cgo_ ((Kd.C_below HR0_6.out HB.out))); (case side2 => exact HC0_6.out); rintro e w17 ⟨rfl, hb⟩; have n0_ := Aside0.mk (blk_below (g := gb237) (o := .cells #[.int .i64 a0_0, .int .i64 a0_1, .int .i64 a0_2, .int .i64 a0_3, .bool a0_4, .int .i64 a0_5, .slice A0_6 l0_6.length c0_6] 56 (0, 0)) (blk_ BK237) hb); have n1_ := Aside0.mk (below_step (bel_ HB) hb); clear BK237 HB; have BK237 := n0_; have HB := n1_; clear n0_ n1_; (try clear hb); (try clear hb2); (try clear hk); (try clear hi); obtain ⟨hcz18_0, hcz18_1, hcz18_2, hcz18_3, hcz18_4, hcz18_5, hcz18_6⟩ := cells7_ BK237.out; have hfz18_ := blk_frozen BK237.out) | (go_at_call 110; (with_reducible refine (seq_Right.calls a0_3 t239 _ A15.out).mono ?_); rintro e w' ⟨rfl, ⟨nd, rfl⟩⟩))
            go_meet
            case rel => exact ⟨_, (!t239), (by first | rfl | (simp; done) | (simp [*]; done)), H', ⟨by have := HJ1.out; first | omega | exact Nat.le_refl _⟩, ⟨by (with_reducible repeat (first | refine blk_drewN ?_ _ | refine blk_drew ?_ | refine blk_alloc ?_ _)); exact BK237.out⟩, ⟨by repeat (first | (with_reducible first | exact HB.out | apply below_alloc | apply pw_below_drewN | apply below_drew1 | refine below_set ?_ GE237.out) | exact HB.out)⟩⟩
          · replace c14 := Bool.eq_false_iff.mpr c14
            subst c14
            have H1 : (batch_data.j1 kj1 (!false) a0_0 a0_1 a0_2 a0_3 a0_4 a0_5 l0_6) = some r := by rw [if_neg (show ¬ (false = true) by decide)] at H; exact H
            clear H
            have H := H1
            clear H1
            have H' := Aside0.mk H
            clear H
            obtain ⟨hcz19_0, hcz19_1, hcz19_2, hcz19_3, hcz19_4, hcz19_5, hcz19_6⟩ := cells7_ BK237.out
            have hfz19_ := blk_frozen BK237.out
            go_wp2_with (first | (go_at_call 116; (with_reducible refine (batch_named.calls a0_0 a0_1 a0_2 a0_3 a0_4 a0_5 _ _ l0_6 false _ ?side1 ?side2 A13.out).mono ?_); (case side1 => exact cgo_ ((Kd.C_below HR0_6.out HB.out))); (case side2 => exact HC0_6.out); rintro e w20 ⟨rfl, hb⟩; have n0_ := Aside0.mk (blk_below (g := gb237) (o := .cells #[.int .i64 a0_0, .int .i64 a0_1, .int .i64 a0_2, .int .i64 a0_3, .bool a0_4, .int .i64 a0_5, .slice A0_6 l0_6.length c0_6] 56 (0, 0)) (blk_ BK237) hb); have n1_ := Aside0.mk (below_step (bel_ HB) hb); clear BK237 HB; have BK237 := n0_; have HB := n1_; clear n0_ n1_; (try clear hb); (try clear hb2); (try clear hk); (try clear hi)))
            go_meet
            case rel => exact ⟨_, (!false), (by first | rfl | (simp; done) | (simp [*]; done)), H', ⟨by have := HJ1.out; first | omega | exact Nat.le_refl _⟩, ⟨by (with_reducible repeat (first | refine blk_drewN ?_ _ | refine blk_drew ?_ | refine blk_alloc ?_ _)); exact BK237.out⟩, ⟨by repeat (first | (with_reducible first | exact HB.out | apply below_alloc | apply pw_below_drewN | apply below_drew1 | refine below_set ?_ GE237.out) | exact HB.out)⟩⟩
      case rest =>
        clear HC11
        try clear c1
        try clear p2
        try clear c4
        try clear c4b0
        try clear c4b1
        try clear c5
        try clear c5b0
        try clear c5b1
        try clear c6
        try clear c6b0
        try clear c6b1
        try clear c11
        try clear c12
        try clear c14
        try clear hcz10_0
        try clear hcz10_1
        try clear hcz10_2
        try clear hcz10_3
        try clear hcz10_4
        try clear hcz10_5
        try clear hcz10_6
        try clear hcz16_0
        try clear hcz16_1
        try clear hcz16_2
        try clear hcz16_3
        try clear hcz16_4
        try clear hcz16_5
        try clear hcz16_6
        try clear hcz18_0
        try clear hcz18_1
        try clear hcz18_2
        try clear hcz18_3
        try clear hcz18_4
        try clear hcz18_5
        try clear hcz18_6
        try clear hcz19_0
        try clear hcz19_1
        try clear hcz19_2
        try clear hcz19_3
        try clear hcz19_4
        try clear hcz19_5
        try clear hcz19_6
        try clear hcz7_0
        try clear hcz7_1
        try clear hcz7_2
        try clear hcz7_3
        try clear hcz7_4
        try clear hcz7_5
        try clear hcz7_6
        try clear hcz8_0
        try clear hcz8_1
        try clear hcz8_2
        try clear hcz8_3
        try clear hcz8_4
        try clear hcz8_5
        try clear hcz8_6
        try clear hcz9_0
        try clear hcz9_1
        try clear hcz9_2
        try clear hcz9_3
        try clear hcz9_4
        try clear hcz9_5
        try clear hcz9_6
        try clear hfz10_0
        try clear hfz10_1
        try clear hfz10_2
        try clear hfz10_3
        try clear hfz10_4
        try clear hfz10_5
        try clear hfz10_6
        try clear hfz16_0
        try clear hfz16_1
        try clear hfz16_2
        try clear hfz16_3
        try clear hfz16_4
        try clear hfz16_5
        try clear hfz16_6
        try clear hfz18_0
        try clear hfz18_1
        try clear hfz18_2
        try clear hfz18_3
        try clear hfz18_4
        try clear hfz18_5
        try clear hfz18_6
        try clear hfz19_0
        try clear hfz19_1
        try clear hfz19_2
        try clear hfz19_3
        try clear hfz19_4
        try clear hfz19_5
        try clear hfz19_6
        try clear hfz7_0
        try clear hfz7_1
        try clear hfz7_2
        try clear hfz7_3
        try clear hfz7_4
        try clear hfz7_5
        try clear hfz7_6
        try clear hfz8_0
        try clear hfz8_1
        try clear hfz8_2
        try clear hfz8_3
        try clear hfz8_4
        try clear hfz8_5
        try clear hfz8_6
        try clear hfz9_0
        try clear hfz9_1
        try clear hfz9_2
        try clear hfz9_3
        try clear hfz9_4
        try clear hfz9_5
        try clear hfz9_6
        try clear p2
        obtain ⟨kq, x24_10, rfl, HA, HJ10, BK237, HB⟩ := hcut
        cases kq with
        | zero => exact absurd HA.out (by simp [batch_data.j1])
        | succ kj10 =>
          have H := HA.out
          clear HA
          simp only [batch_data.j1] at H
          by_cases c21 : x24_10 = true
          · subst c21
            have H1 : (some 12) = some r := by rw [if_pos rfl] at H; exact H
            clear H
            have H := H1
            clear H1
            obtain rfl := Option.some.inj H
            go_wp2
            go_ret
            exact ⟨by first | rfl | (simp [errW_none, errW_some] <;> rfl) | (simp [*, errW_none, errW_some] <;> rfl), by repeat (first | (with_reducible first | exact HB.out | apply below_alloc | apply pw_below_drewN | apply below_drew1 | refine below_set ?_ GE237.out) | exact HB.out)⟩
          · replace c21 := Bool.eq_false_iff.mpr c21
            subst c21
            have H1 : (if (l0_6.length : Int) = 0 then (some 12) else (if (l0_6.length : Int) > 16 then (some 13) else (batch_data.l0 kj10 l0_6 (l0_6.length : Int) 0))) = some r := by rw [if_neg (show ¬ (false = true) by decide)] at H; exact H
            clear H
            have H := H1
            clear H1
            by_cases c22 : (l0_6.length : Int) = 0
            · rw [if_pos c22] at H
              have c22b0 : ((l0_6.length : Int) == 0) = true := beq_iff_eq.mpr c22
              have c22b1 : ((l0_6.length : Int) != 0) = false := bne_eq_false_iff_eq.mpr c22
              clear c22
              obtain rfl := Option.some.inj H
              obtain ⟨hcz23_0, hcz23_1, hcz23_2, hcz23_3, hcz23_4, hcz23_5, hcz23_6⟩ := cells7_ BK237.out
              have hfz23_ := blk_frozen BK237.out
              go_wp2
              go_ret
              exact ⟨by first | rfl | (simp [errW_none, errW_some] <;> rfl) | (simp [*, errW_none, errW_some] <;> rfl), by repeat (first | (with_reducible first | exact HB.out | apply below_alloc | apply pw_below_drewN | apply below_drew1 | refine below_set ?_ GE237.out) | exact HB.out)⟩
            · rw [if_neg c22] at H
              have c22b0 : ((l0_6.length : Int) == 0) = false := beq_eq_false_iff_ne.mpr c22
              have c22b1 : ((l0_6.length : Int) != 0) = true := bne_iff_ne.mpr c22
              have c22b2 : ¬ (l0_6 = []) := fun h_ => c22 (by rw [h_]; rfl)
              by_cases c24 : (l0_6.length : Int) > 16
              · rw [if_pos c24] at H
                have c24b0 : decide (16 < (l0_6.length : Int)) = true := decide_eq_true c24
                have c24b1 : decide (16 < l0_6.length) = true := decide_eq_true (by omega)
                clear c24
                obtain rfl := Option.some.inj H
                obtain ⟨hcz25_0, hcz25_1, hcz25_2, hcz25_3, hcz25_4, hcz25_5, hcz25_6⟩ := cells7_ BK237.out
                have hfz25_ := blk_frozen BK237.out
                go_wp2
                go_ret
                exact ⟨by first | rfl | (simp [errW_none, errW_some] <;> rfl) | (simp [*, errW_none, errW_some] <;> rfl), by repeat (first | (with_reducible first | exact HB.out | apply below_alloc | apply pw_below_drewN | apply below_drew1 | refine below_set ?_ GE237.out) | exact HB.out)⟩
              · rw [if_neg c24] at H
                have c24b0 : decide (16 < (l0_6.length : Int)) = false := decide_eq_false c24
                have c24b1 : decide (16 < l0_6.length) = false := decide_eq_false (by omega)
                clear c24
                have H' := Aside0.mk H
                clear H
                obtain ⟨hcz26_0, hcz26_1, hcz26_2, hcz26_3, hcz26_4, hcz26_5, hcz26_6⟩ := cells7_ BK237.out
                have hfz26_ := blk_frozen BK237.out
                go_wp2
                go_loopg [50] kj10 (fun kq v50 w' => ∃ (x50_3 : Int), v50 = .int .i64 x50_3 ∧ Aside0 (batch_data.l0 kq l0_6 (l0_6.length : Int) x50_3 = some r) ∧ Aside0 (kq ≤ kj10) ∧ Aside0 (w'.heap[gb237]? = some (.cells #[.int .i64 a0_0, .int .i64 a0_1, .int .i64 a0_2, .int .i64 a0_3, .bool a0_4, .int .i64 a0_5, (.slice A0_6 l0_6.length c0_6)] 56 (0, 0))) ∧ Aside0 (Below w.heap.size w w'))
                case atStart => exact ⟨(0), (by first | rfl | (simp; done) | (simp [*]; done)), H', ⟨Nat.le_refl _⟩, ⟨by (with_reducible repeat (first | refine blk_drewN ?_ _ | refine blk_drew ?_ | refine blk_alloc ?_ _)); exact BK237.out⟩, ⟨by repeat (first | (with_reducible first | exact HB.out | apply below_alloc | apply pw_below_drewN | apply below_drew1 | refine below_set ?_ GE237.out) | exact HB.out)⟩⟩
                case round =>
                  clear H'
                  try clear c1
                  try clear c2
                  try clear p2
                  try clear c4
                  try clear c4b0
                  try clear c4b1
                  try clear c5
                  try clear c5b0
                  try clear c5b1
                  try clear c6
                  try clear c6b0
                  try clear c6b1
                  try clear c11
                  try clear c12
                  try clear c14
                  try clear c21
                  try clear c22
                  try clear c22b0
                  try clear c22b1
                  try clear c22b2
                  try clear c24
                  try clear c24b0
                  try clear c24b1
                  try clear hcz10_0
                  try clear hcz10_1
                  try clear hcz10_2
                  try clear hcz10_3
                  try clear hcz10_4
                  try clear hcz10_5
                  try clear hcz10_6
                  try clear hcz16_0
                  try clear hcz16_1
                  try clear hcz16_2
                  try clear hcz16_3
                  try clear hcz16_4
                  try clear hcz16_5
                  try clear hcz16_6
                  try clear hcz18_0
                  try clear hcz18_1
                  try clear hcz18_2
                  try clear hcz18_3
                  try clear hcz18_4
                  try clear hcz18_5
                  try clear hcz18_6
                  try clear hcz19_0
                  try clear hcz19_1
                  try clear hcz19_2
                  try clear hcz19_3
                  try clear hcz19_4
                  try clear hcz19_5
                  try clear hcz19_6
                  try clear hcz23_0
                  try clear hcz23_1
                  try clear hcz23_2
                  try clear hcz23_3
                  try clear hcz23_4
                  try clear hcz23_5
                  try clear hcz23_6
                  try clear hcz25_0
                  try clear hcz25_1
                  try clear hcz25_2
                  try clear hcz25_3
                  try clear hcz25_4
                  try clear hcz25_5
                  try clear hcz25_6
                  try clear hcz26_0
                  try clear hcz26_1
                  try clear hcz26_2
                  try clear hcz26_3
                  try clear hcz26_4
                  try clear hcz26_5
                  try clear hcz26_6
                  try clear hcz7_0
                  try clear hcz7_1
                  try clear hcz7_2
                  try clear hcz7_3
                  try clear hcz7_4
                  try clear hcz7_5
                  try clear hcz7_6
                  try clear hcz8_0
                  try clear hcz8_1
                  try clear hcz8_2
                  try clear hcz8_3
                  try clear hcz8_4
                  try clear hcz8_5
                  try clear hcz8_6
                  try clear hcz9_0
                  try clear hcz9_1
                  try clear hcz9_2
                  try clear hcz9_3
                  try clear hcz9_4
                  try clear hcz9_5
                  try clear hcz9_6
                  try clear hfz10_0
                  try clear hfz10_1
                  try clear hfz10_2
                  try clear hfz10_3
                  try clear hfz10_4
                  try clear hfz10_5
                  try clear hfz10_6
                  try clear hfz16_0
                  try clear hfz16_1
                  try clear hfz16_2
                  try clear hfz16_3
                  try clear hfz16_4
                  try clear hfz16_5
                  try clear hfz16_6
                  try clear hfz18_0
                  try clear hfz18_1
                  try clear hfz18_2
                  try clear hfz18_3
                  try clear hfz18_4
                  try clear hfz18_5
                  try clear hfz18_6
                  try clear hfz19_0
                  try clear hfz19_1
                  try clear hfz19_2
                  try clear hfz19_3
                  try clear hfz19_4
                  try clear hfz19_5
                  try clear hfz19_6
                  try clear hfz23_0
                  try clear hfz23_1
                  try clear hfz23_2
                  try clear hfz23_3
                  try clear hfz23_4
                  try clear hfz23_5
                  try clear hfz23_6
                  try clear hfz25_0
                  try clear hfz25_1
                  try clear hfz25_2
                  try clear hfz25_3
                  try clear hfz25_4
                  try clear hfz25_5
                  try clear hfz25_6
                  try clear hfz26_0
                  try clear hfz26_1
                  try clear hfz26_2
                  try clear hfz26_3
                  try clear hfz26_4
                  try clear hfz26_5
                  try clear hfz26_6
                  try clear hfz7_0
                  try clear hfz7_1
                  try clear hfz7_2
                  try clear hfz7_3
                  try clear hfz7_4
                  try clear hfz7_5
                  try clear hfz7_6
                  try clear hfz8_0
                  try clear hfz8_1
                  try clear hfz8_2
                  try clear hfz8_3
                  try clear hfz8_4
                  try clear hfz8_5
                  try clear hfz8_6
                  try clear hfz9_0
                  try clear hfz9_1
                  try clear hfz9_2
                  try clear hfz9_3
                  try clear hfz9_4
                  try clear hfz9_5
                  try clear hfz9_6
                  try clear p2
                  obtain ⟨x50_3, rfl, HA, HK3, BK237, HB⟩ := hrel
                  cases gk with
                  | zero => exact absurd HA.out (by simp [batch_data.l0])
                  | succ k3 =>
                    have H := HA.out
                    clear HA
                    simp only [batch_data.l0] at H
                    by_cases c27 : x50_3 < (l0_6.length : Int)
                    · rw [if_pos c27] at H
                      have c27b0 : decide (x50_3 < (l0_6.length : Int)) = true := decide_eq_true c27
                      clear c27
                      by_cases c28 : 0 ≤ x50_3
                      · rw [if_pos c28] at H
                        have c28b0 : decide (0 ≤ x50_3) = true := decide_eq_true c28
                        clear c28
                        by_cases c29 : x50_3 < (l0_6.length : Int)
                        · rw [if_pos c29] at H
                          have c29b0 : decide (x50_3 < (l0_6.length : Int)) = true := decide_eq_true c29
                          clear c29
                          by_cases c30 : (((rd_T71 l0_6 x50_3).f0).size : Int) > 64
                          · rw [if_pos c30] at H
                            have c30b0 : decide (64 < (((rd_T71 l0_6 x50_3).f0).size : Int)) = true := decide_eq_true c30
                            have c30b1 : decide (64 < ((rd_T71 l0_6 x50_3).f0).size) = true := decide_eq_true (by omega)
                            clear c30
                            obtain rfl := Option.some.inj H
                            have p240 : 0 ≤ (x50_3 : Int) := of_decide_eq_true (by first | (with_reducible assumption) | assumption)
                            have q240 : x50_3 < (l0_6.length : Int) := of_decide_eq_true (by first | (with_reducible assumption) | assumption)
                            obtain ⟨ad240, e240, hx240_0, hx240_1⟩ := at_T71 HR0_6.out x50_3 p240 q240
                            cases e240
                            replace hx240_0 := (HB.out.cell (World.block_lt_of_cell? w _ hx240_0)).trans hx240_0
                            replace hx240_1 := (HB.out.cell (World.block_lt_of_cell? w _ hx240_1)).trans hx240_1
                            replace p240 := eq_true p240
                            replace q240 := eq_true q240
                            go_wp2_with (first | ((with_reducible refine gate_dst (N := 5) rfl ?_); (try (refine gate_guard (by rfl) ?_; dsimp only)); refine box_event ?hg (N := 5) ?hd (cs := #[.string (⟨#[]⟩ : ByteArray), .string (⟨#[]⟩ : ByteArray)]) (t := 71) ?hr ?_; (case hd => rfl); (case hg => rfl); (case hr => first | (go_simp; done) | (go_simp; rfl)); intro gb241 hg w31 hbox hb; have n0_ := Aside0.mk (blk_below (g := gb237) (o := .cells #[.int .i64 a0_0, .int .i64 a0_1, .int .i64 a0_2, .int .i64 a0_3, .bool a0_4, .int .i64 a0_5, .slice (some ad240) l0_6.length c0_6] 56 (0, 0)) (blk_ BK237) hb); have n1_ := Aside0.mk (below_step (bel_ HB) hb); have n2_ := Aside0.mk (hbox); have n3_ := Aside0.mk ((by rw [hg]; exact (below_size (bel_ HB)) : w.heap.size ≤ gb241)); have n4_ := Aside0.mk ((by rw [hg]; exact (below_size (bel_ HB)) : w.heap.size ≤ gb241)); have n5_ := Aside0.mk ((by rw [hg]; exact Nat.ne_of_lt (blk_lt (g := gb237) (o := .cells #[.int .i64 a0_0, .int .i64 a0_1, .int .i64 a0_2, .int .i64 a0_3, .bool a0_4, .int .i64 a0_5, .slice (some ad240) l0_6.length c0_6] 56 (0, 0)) (blk_ BK237)) : gb237 ≠ gb241)); have n6_ := Aside0.mk ((by rw [hg]; exact Nat.ne_of_gt (blk_lt (g := gb237) (o := .cells #[.int .i64 a0_0, .int .i64 a0_1, .int .i64 a0_2, .int .i64 a0_3, .bool a0_4, .int .i64 a0_5, .slice (some ad240) l0_6.length c0_6] 56 (0, 0)) (blk_ BK237)) : gb241 ≠ gb237)); clear BK237 HB; have BK237 := n0_; have HB := n1_; have BK241 := n2_; have GW241 := n3_; have GE241 := n4_; have NB237_241 := n5_; have NB241_237 := n6_; clear n0_ n1_ n2_ n3_ n4_ n5_ n6_; clear hb hbox hg; have hnb32 := NB241_237.out; have hnc32 := NB237_241.out; obtain ⟨hcz33_0, hcz33_1⟩ := cells2_ BK241.out; have hfz33_ := blk_frozen BK241.out))
                            go_ret
                            exact ⟨by first | rfl | (simp [errW_none, errW_some] <;> rfl) | (simp [*, errW_none, errW_some] <;> rfl), by repeat (first | (with_reducible first | exact HB.out | apply below_alloc | apply pw_below_drewN | apply below_drew1 | refine below_set ?_ GE237.out | refine below_set ?_ GE241.out) | exact HB.out)⟩
                          · rw [if_neg c30] at H
                            have c30b0 : decide (64 < (((rd_T71 l0_6 x50_3).f0).size : Int)) = false := decide_eq_false c30
                            have c30b1 : decide (64 < ((rd_T71 l0_6 x50_3).f0).size) = false := decide_eq_false (by omega)
                            clear c30
                            by_cases c34 : (((rd_T71 l0_6 x50_3).f1).size : Int) > 64
                            · rw [if_pos c34] at H
                              have c34b0 : decide (64 < (((rd_T71 l0_6 x50_3).f1).size : Int)) = true := decide_eq_true c34
                              have c34b1 : decide (64 < ((rd_T71 l0_6 x50_3).f1).size) = true := decide_eq_true (by omega)
                              clear c34
                              obtain rfl := Option.some.inj H
                              have p240 : 0 ≤ (x50_3 : Int) := of_decide_eq_true (by first | (with_reducible assumption) | assumption)
                              have q240 : x50_3 < (l0_6.length : Int) := of_decide_eq_true (by first | (with_reducible assumption) | assumption)
                              obtain ⟨ad240, e240, hx240_0, hx240_1⟩ := at_T71 HR0_6.out x50_3 p240 q240
                              cases e240
                              replace hx240_0 := (HB.out.cell (World.block_lt_of_cell? w _ hx240_0)).trans hx240_0
                              replace hx240_1 := (HB.out.cell (World.block_lt_of_cell? w _ hx240_1)).trans hx240_1
                              replace p240 := eq_true p240
                              replace q240 := eq_true q240
                              go_wp2_with (first | ((with_reducible refine gate_dst (N := 5) rfl ?_); (try (refine gate_guard (by rfl) ?_; dsimp only)); refine box_event ?hg (N := 5) ?hd (cs := #[.string (⟨#[]⟩ : ByteArray), .string (⟨#[]⟩ : ByteArray)]) (t := 71) ?hr ?_; (case hd => rfl); (case hg => rfl); (case hr => first | (go_simp; done) | (go_simp; rfl)); intro gb241 hg w35 hbox hb; have n0_ := Aside0.mk (blk_below (g := gb237) (o := .cells #[.int .i64 a0_0, .int .i64 a0_1, .int .i64 a0_2, .int .i64 a0_3, .bool a0_4, .int .i64 a0_5, .slice (some ad240) l0_6.length c0_6] 56 (0, 0)) (blk_ BK237) hb); have n1_ := Aside0.mk (below_step (bel_ HB) hb); have n2_ := Aside0.mk (hbox); have n3_ := Aside0.mk ((by rw [hg]; exact (below_size (bel_ HB)) : w.heap.size ≤ gb241)); have n4_ := Aside0.mk ((by rw [hg]; exact (below_size (bel_ HB)) : w.heap.size ≤ gb241)); have n5_ := Aside0.mk ((by rw [hg]; exact Nat.ne_of_lt (blk_lt (g := gb237) (o := .cells #[.int .i64 a0_0, .int .i64 a0_1, .int .i64 a0_2, .int .i64 a0_3, .bool a0_4, .int .i64 a0_5, .slice (some ad240) l0_6.length c0_6] 56 (0, 0)) (blk_ BK237)) : gb237 ≠ gb241)); have n6_ := Aside0.mk ((by rw [hg]; exact Nat.ne_of_gt (blk_lt (g := gb237) (o := .cells #[.int .i64 a0_0, .int .i64 a0_1, .int .i64 a0_2, .int .i64 a0_3, .bool a0_4, .int .i64 a0_5, .slice (some ad240) l0_6.length c0_6] 56 (0, 0)) (blk_ BK237)) : gb241 ≠ gb237)); clear BK237 HB; have BK237 := n0_; have HB := n1_; have BK241 := n2_; have GW241 := n3_; have GE241 := n4_; have NB237_241 := n5_; have NB241_237 := n6_; clear n0_ n1_ n2_ n3_ n4_ n5_ n6_; clear hb hbox hg; have hnb36 := NB241_237.out; have hnc36 := NB237_241.out; obtain ⟨hcz37_0, hcz37_1⟩ := cells2_ BK241.out; have hfz37_ := blk_frozen BK241.out))
                              go_ret
                              exact ⟨by first | rfl | (simp [errW_none, errW_some] <;> rfl) | (simp [*, errW_none, errW_some] <;> rfl), by repeat (first | (with_reducible first | exact HB.out | apply below_alloc | apply pw_below_drewN | apply below_drew1 | refine below_set ?_ GE237.out | refine below_set ?_ GE241.out) | exact HB.out)⟩
                            · rw [if_neg c34] at H
                              have c34b0 : decide (64 < (((rd_T71 l0_6 x50_3).f1).size : Int)) = false := decide_eq_false c34
                              have c34b1 : decide (64 < ((rd_T71 l0_6 x50_3).f1).size) = false := decide_eq_false (by omega)
                              clear c34
                              have H' := Aside0.mk H
                              clear H
                              have p240 : 0 ≤ (x50_3 : Int) := of_decide_eq_true (by first | (with_reducible assumption) | assumption)
                              have q240 : x50_3 < (l0_6.length : Int) := of_decide_eq_true (by first | (with_reducible assumption) | assumption)
                              obtain ⟨ad240, e240, hx240_0, hx240_1⟩ := at_T71 HR0_6.out x50_3 p240 q240
                              cases e240
                              replace hx240_0 := (HB.out.cell (World.block_lt_of_cell? w _ hx240_0)).trans hx240_0
                              replace hx240_1 := (HB.out.cell (World.block_lt_of_cell? w _ hx240_1)).trans hx240_1
                              replace p240 := eq_true p240
                              replace q240 := eq_true q240
                              go_wp2_with (first | ((with_reducible refine gate_dst (N := 5) rfl ?_); (try (refine gate_guard (by rfl) ?_; dsimp only)); refine box_event ?hg (N := 5) ?hd (cs := #[.string (⟨#[]⟩ : ByteArray), .string (⟨#[]⟩ : ByteArray)]) (t := 71) ?hr ?_; (case hd => rfl); (case hg => rfl); (case hr => first | (go_simp; done) | (go_simp; rfl)); intro gb241 hg w38 hbox hb; have n0_ := Aside0.mk (blk_below (g := gb237) (o := .cells #[.int .i64 a0_0, .int .i64 a0_1, .int .i64 a0_2, .int .i64 a0_3, .bool a0_4, .int .i64 a0_5, .slice (some ad240) l0_6.length c0_6] 56 (0, 0)) (blk_ BK237) hb); have n1_ := Aside0.mk (below_step (bel_ HB) hb); have n2_ := Aside0.mk (hbox); have n3_ := Aside0.mk ((by rw [hg]; exact (below_size (bel_ HB)) : w.heap.size ≤ gb241)); have n4_ := Aside0.mk ((by rw [hg]; exact (below_size (bel_ HB)) : w.heap.size ≤ gb241)); have n5_ := Aside0.mk ((by rw [hg]; exact Nat.ne_of_lt (blk_lt (g := gb237) (o := .cells #[.int .i64 a0_0, .int .i64 a0_1, .int .i64 a0_2, .int .i64 a0_3, .bool a0_4, .int .i64 a0_5, .slice (some ad240) l0_6.length c0_6] 56 (0, 0)) (blk_ BK237)) : gb237 ≠ gb241)); have n6_ := Aside0.mk ((by rw [hg]; exact Nat.ne_of_gt (blk_lt (g := gb237) (o := .cells #[.int .i64 a0_0, .int .i64 a0_1, .int .i64 a0_2, .int .i64 a0_3, .bool a0_4, .int .i64 a0_5, .slice (some ad240) l0_6.length c0_6] 56 (0, 0)) (blk_ BK237)) : gb241 ≠ gb237)); clear BK237 HB; have BK237 := n0_; have HB := n1_; have BK241 := n2_; have GW241 := n3_; have GE241 := n4_; have NB237_241 := n5_; have NB241_237 := n6_; clear n0_ n1_ n2_ n3_ n4_ n5_ n6_; clear hb hbox hg; have hnb39 := NB241_237.out; have hnc39 := NB237_241.out; obtain ⟨hcz40_0, hcz40_1⟩ := cells2_ BK241.out; have hfz40_ := blk_frozen BK241.out))
                              go_roundg k3
                              case measure => have := HJ1.out; have := HJ10.out; have := HK3.out; omega
                              case rel => exact ⟨(wrap64 (x50_3 + 1)), (by first | rfl | (simp; done) | (simp [*]; done)), H', ⟨by have := HJ1.out; have := HJ10.out; have := HK3.out; omega⟩, ⟨by (with_reducible repeat (first | refine blk_drewN ?_ _ | refine blk_drew ?_ | refine blk_alloc ?_ _)); refine blk_far ?_ NB237_241.out _; (with_reducible repeat (first | refine blk_drewN ?_ _ | refine blk_drew ?_ | refine blk_alloc ?_ _)); refine blk_far ?_ NB237_241.out _; (with_reducible repeat (first | refine blk_drewN ?_ _ | refine blk_drew ?_ | refine blk_alloc ?_ _)); exact BK237.out⟩, ⟨by repeat (first | (with_reducible first | exact HB.out | apply below_alloc | apply pw_below_drewN | apply below_drew1 | refine below_set ?_ GE237.out | refine below_set ?_ GE241.out) | exact HB.out)⟩⟩
                        · rw [if_neg c29] at H
                          exact absurd H (by simp)
                      · rw [if_neg c28] at H
                        exact absurd H (by simp)
                    · rw [if_neg c27] at H
                      have c27b0 : decide (x50_3 < (l0_6.length : Int)) = false := decide_eq_false c27
                      clear c27
                      obtain rfl := Option.some.inj H
                      go_wp2
                      go_ret
                      exact ⟨by first | rfl | (simp [errW_none, errW_some] <;> rfl) | (simp [*, errW_none, errW_some] <;> rfl), by repeat (first | (with_reducible first | exact HB.out | apply below_alloc | apply pw_below_drewN | apply below_drew1 | refine below_set ?_ GE237.out) | exact HB.out)⟩

end Go.Proofs.Ytknclghaofmnhaa.PBR
