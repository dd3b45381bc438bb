-- Written by a program of this session (wip/print/myprint.sh).
import Derived.Test.YtknclghaofmnhaaPBRx0
import Derived.Test.YtknclghaofmnhaaPBRx4
import Derived.Test.YtknclghaofmnhaaPBRx5
namespace Go.Proofs.Ytknclghaofmnhaa.PBR
open Go.RowKit Go.Proofs.YtknclghaofmnhaaV.PrintWords Go.Proofs.YtknclghaofmnhaaV.PrintLast Go.Proofs.YtknclghaofmnhaaV.PrintMore
attribute [local go_sem] max2_int min2_int max_two min_two max_three min_three max_four min_four   -- for this text's walks alone
set_option linter.unusedVariables false
set_option linter.unusedSimpArgs false

/-! ### batch_Right: function 86 -/
mutual
def batch_Right.j0 : Nat → Bool → Int → Int → Int → Int → Bool → Int → List (S71) → Option (Int)
  | 0, _, _, _, _, _, _, _, _ => none
  | k + 1, x11, x243000, x243001, x243002, x243003, x243004, x243005, x243006 => if x11 = true then (some 18) else (if x243005 = 0 then ((batch_data.f k x243000 x243001 x243002 x243003 x243004 x243005 x243006).bind fun t243 => (if t243 = 0 then ((batch_bytes.f k x243000 x243001 x243002 x243003 x243004 x243005 x243006).bind fun t244 => (if (t244.length : Int) > 4096 then (some 13) else (some 0))) else (some t243))) else (if x243005 = 1 then ((batch_named.f x243000 x243001 x243002 x243003 x243004 x243005 x243006).bind fun t247 => (if t247 = true then (if x243003 = (-1) then (if x243004 = true then (batch_Right.j1 k (decide ((x243006.length : Int) > 0)) x243000 x243001 x243002 x243003 x243004 x243005 x243006) else (batch_Right.j1 k true x243000 x243001 x243002 x243003 x243004 x243005 x243006)) else (batch_Right.j1 k true x243000 x243001 x243002 x243003 x243004 x243005 x243006)) else (batch_Right.j1 k true x243000 x243001 x243002 x243003 x243004 x243005 x243006))) else (if x243005 = 2 then ((batch_named.f x243000 x243001 x243002 x243003 x243004 x243005 x243006).bind fun t248 => (if t248 = true then (if x243003 = (-1) then (if x243004 = true then (batch_Right.j1 k (decide ((x243006.length : Int) > 0)) x243000 x243001 x243002 x243003 x243004 x243005 x243006) else (batch_Right.j1 k true x243000 x243001 x243002 x243003 x243004 x243005 x243006)) else (batch_Right.j1 k true x243000 x243001 x243002 x243003 x243004 x243005 x243006)) else (batch_Right.j1 k true x243000 x243001 x243002 x243003 x243004 x243005 x243006))) else (batch_Right.j1 k true x243000 x243001 x243002 x243003 x243004 x243005 x243006))))
def batch_Right.j1 : Nat → Bool → Int → Int → Int → Int → Bool → Int → List (S71) → Option (Int)
  | 0, _, _, _, _, _, _, _, _ => none
  | k + 1, x48, x243000, x243001, x243002, x243003, x243004, x243005, x243006 => if x48 = true then (some 12) else ((batch_bytes.f k x243000 x243001 x243002 x243003 x243004 x243005 x243006).bind fun t249 => (if (t249.length : Int) > 4096 then (some 13) else (some 0)))
end
def batch_Right.f (k : Nat) (a0_0 : Int) (a0_1 : Int) (a0_2 : Int) (a0_3 : Int) (a0_4 : Bool) (a0_5 : Int) (l0_6 : List (S71)) : Option (Int) := if a0_0 < 0 then (batch_Right.j0 k true a0_0 a0_1 a0_2 a0_3 a0_4 a0_5 l0_6) else (batch_Right.j0 k (decide (a0_0 > 1099511627776)) a0_0 a0_1 a0_2 a0_3 a0_4 a0_5 l0_6)
theorem batch_Right.mono_l : ∀ k, (∀ y0 y1 y2 y3 y4 y5 y6 y7, LeO (batch_Right.j0 k y0 y1 y2 y3 y4 y5 y6 y7) (batch_Right.j0 (k + 1) y0 y1 y2 y3 y4 y5 y6 y7)) ∧ (∀ y0 y1 y2 y3 y4 y5 y6 y7, LeO (batch_Right.j1 k y0 y1 y2 y3 y4 y5 y6 y7) (batch_Right.j1 (k + 1) y0 y1 y2 y3 y4 y5 y6 y7))
  | 0 => ⟨fun _ _ _ _ _ _ _ _ r h => by simp [batch_Right.j0] at h, fun _ _ _ _ _ _ _ _ r h => by simp [batch_Right.j1] at h⟩
  | k + 1 => by
    obtain ⟨ih0, ih1⟩ := batch_Right.mono_l k
    refine ⟨?_, ?_⟩
    · intro y0 y1 y2 y3 y4 y5 y6 y7
      unfold batch_Right.j0
      repeat' first
      | (with_reducible exact ih0 _ _ _ _ _ _ _ _)
      | (with_reducible exact ih1 _ _ _ _ _ _ _ _)
      | (with_reducible exact batch_bytes.mono _ _ _ _ _ _ _ _)
      | (with_reducible exact batch_data.mono _ _ _ _ _ _ _ _)
      | (with_reducible exact LeO.refl _)
      | (with_reducible exact LeO.none _)
      | (with_reducible refine LeO.ite ?_ ?_)
      | (with_reducible refine LeO.bind ?_ (fun _ => ?_))
      | exact ih0 _ _ _ _ _ _ _ _
      | exact ih1 _ _ _ _ _ _ _ _
      | exact batch_bytes.mono _ _ _ _ _ _ _ _
      | exact batch_data.mono _ _ _ _ _ _ _ _
      | exact LeO.none _
      | refine LeO.ite ?_ ?_
      | refine LeO.bind ?_ (fun _ => ?_)
    · intro y0 y1 y2 y3 y4 y5 y6 y7
      unfold batch_Right.j1
      repeat' first
      | (with_reducible exact ih0 _ _ _ _ _ _ _ _)
      | (with_reducible exact ih1 _ _ _ _ _ _ _ _)
      | (with_reducible exact batch_bytes.mono _ _ _ _ _ _ _ _)
      | (with_reducible exact batch_data.mono _ _ _ _ _ _ _ _)
      | (with_reducible exact LeO.refl _)
      | (with_reducible exact LeO.none _)
      | (with_reducible refine LeO.ite ?_ ?_)
      | (with_reducible refine LeO.bind ?_ (fun _ => ?_))
      | exact ih0 _ _ _ _ _ _ _ _
      | exact ih1 _ _ _ _ _ _ _ _
      | exact batch_bytes.mono _ _ _ _ _ _ _ _
      | exact batch_data.mono _ _ _ _ _ _ _ _
      | exact LeO.none _
      | refine LeO.ite ?_ ?_
      | refine LeO.bind ?_ (fun _ => ?_)
theorem batch_Right.mono : ∀ a0 a1 a2 a3 a4 a5 a6 k, LeO (batch_Right.f k a0 a1 a2 a3 a4 a5 a6) (batch_Right.f (k + 1) a0 a1 a2 a3 a4 a5 a6) := by
  intro a0 a1 a2 a3 a4 a5 a6 k
  obtain ⟨ih0, ih1⟩ := batch_Right.mono_l k
  unfold batch_Right.f
  repeat' first
      | (with_reducible exact ih0 _ _ _ _ _ _ _ _)
      | (with_reducible exact ih1 _ _ _ _ _ _ _ _)
      | (with_reducible exact batch_bytes.mono _ _ _ _ _ _ _ _)
      | (with_reducible exact batch_data.mono _ _ _ _ _ _ _ _)
      | (with_reducible exact LeO.refl _)
      | (with_reducible exact LeO.none _)
      | (with_reducible refine LeO.ite ?_ ?_)
      | (with_reducible refine LeO.bind ?_ (fun _ => ?_))
      | exact ih0 _ _ _ _ _ _ _ _
      | exact ih1 _ _ _ _ _ _ _ _
      | exact batch_bytes.mono _ _ _ _ _ _ _ _
      | exact batch_data.mono _ _ _ _ _ _ _ _
      | exact LeO.none _
      | refine LeO.ite ?_ ?_
      | refine LeO.bind ?_ (fun _ => ?_)
set_option maxHeartbeats 8000000 in
set_option maxRecDepth 100000 in
theorem batch_Right.calls (k : Nat) (a0_0 : Int) (a0_1 : Int) (a0_2 : Int) (a0_3 : Int) (a0_4 : Bool) (a0_5 : Int) (A0_6 : Option Addr) (c0_6 : Nat) (l0_6 : List (S71)) (r : Int) (w : World) (hr0_6 : Kd.C k71 w A0_6 l0_6.length l0_6) (hc0_6 : l0_6.length ≤ c0_6) (h : batch_Right.f k a0_0 a0_1 a0_2 a0_3 a0_4 a0_5 l0_6 = some r) :
    Calls Try.prog 86 #[.agg #[.int .i64 a0_0, .int .i64 a0_1, .int .i64 a0_2, .int .i64 a0_3, .bool a0_4, .int .i64 a0_5, .slice A0_6 l0_6.length c0_6]] w fun e w' => e = .returned (.int .i64 r) ∧ Below w.heap.size w w' := by
  have hu56 := Try.underlying56
  have HR0_6 := Aside0.mk hr0_6
  have HC0_6 := Aside0.mk hc0_6
  clear hr0_6 hc0_6
  have HB := Aside0.mk (Below.refl w.heap.size w)
  have H : (if a0_0 < 0 then (batch_Right.j0 k true a0_0 a0_1 a0_2 a0_3 a0_4 a0_5 l0_6) else (batch_Right.j0 k (decide (a0_0 > 1099511627776)) a0_0 a0_1 a0_2 a0_3 a0_4 a0_5 l0_6)) = some r := h
  clear h
  have HC2 := Aside0.mk H
  clear H
  go_enter Try.func86, Try.ntmps86
  go_upto_region 1 with (first | ((with_reducible refine gate_dst (N := 1) rfl ?_); (try (refine gate_guard (by rfl) ?_; dsimp only)); refine box_event ?hg (N := 1) ?hd (cs := #[.int .i64 a0_0, .int .i64 a0_1, .int .i64 a0_2, .int .i64 a0_3, .bool a0_4, .int .i64 a0_5, .slice A0_6 l0_6.length c0_6]) (t := 56) ?hr ?_; (case hd => rfl); (case hg => rfl); (case hr => first | (go_simp; done) | (go_simp; rfl)); intro gb242 hg w3 hbox hb; have n0_ := Aside0.mk (below_step (bel_ HB) hb); have n1_ := Aside0.mk (hbox); have n2_ := Aside0.mk ((by rw [hg]; exact (below_size (bel_ HB)) : w.heap.size ≤ gb242)); have n3_ := Aside0.mk ((by rw [hg]; exact (below_size (bel_ HB)) : w.heap.size ≤ gb242)); clear HB; have HB := n0_; have BK242 := n1_; have GW242 := n2_; have GE242 := n3_; clear n0_ n1_ n2_ n3_; clear hb hbox hg))
  (try simp only [Act.put, List.setIfInBounds_toArray, List.set_cons_zero, List.set_cons_succ])
  go_cut [11] (fun v11 wc => ∃ (kq : Nat) (x11_1 : Bool), v11 = .bool x11_1 ∧ Aside0 (batch_Right.j0 kq x11_1 a0_0 a0_1 a0_2 a0_3 a0_4 a0_5 l0_6 = some r) ∧ Aside0 (kq ≤ k) ∧ Aside0 (wc.heap[gb242]? = some (.cells #[.int .i64 a0_0, .int .i64 a0_1, .int .i64 a0_2, .int .i64 a0_3, .bool a0_4, .int .i64 a0_5, (.slice A0_6 l0_6.length c0_6)] 56 (0, 0))) ∧ Aside0 (Below w.heap.size w wc))
  case first =>
    have H := HC2.out
    clear HC2
    by_cases c4 : a0_0 < 0
    · rw [if_pos c4] at H
      have c4b0 : decide (a0_0 < 0) = true := decide_eq_true c4
      clear c4
      (first | rw [c4b0] | (simp only [i64_w, i32_w]; rw [c4b0]) | skip)
      have H' := Aside0.mk H
      clear H
      obtain ⟨hcz5_0, hcz5_1, hcz5_2, hcz5_3, hcz5_4, hcz5_5, hcz5_6⟩ := cells7_ BK242.out
      have hfz5_ := blk_frozen BK242.out
      go_wp2
      go_meet
      case rel => exact ⟨_, (true), (by first | rfl | (simp; done) | (simp [*]; done)), H', ⟨by first | omega | exact Nat.le_refl _⟩, ⟨by (with_reducible repeat (first | refine blk_drewN ?_ _ | refine blk_drew ?_ | refine blk_alloc ?_ _)); exact BK242.out⟩, ⟨by repeat (first | (with_reducible first | exact HB.out | apply below_alloc | apply pw_below_drewN | apply below_drew1 | refine below_set ?_ GE242.out) | exact HB.out)⟩⟩
    · rw [if_neg c4] at H
      have c4b0 : decide (a0_0 < 0) = false := decide_eq_false c4
      clear c4
      (first | rw [c4b0] | (simp only [i64_w, i32_w]; rw [c4b0]) | skip)
      have H' := Aside0.mk H
      clear H
      obtain ⟨hcz6_0, hcz6_1, hcz6_2, hcz6_3, hcz6_4, hcz6_5, hcz6_6⟩ := cells7_ BK242.out
      have hfz6_ := blk_frozen BK242.out
      go_wp2
      go_meet
      case rel => exact ⟨_, (decide (a0_0 > 1099511627776)), (by first | rfl | (simp; done) | (simp [*]; done)), H', ⟨by first | omega | exact Nat.le_refl _⟩, ⟨by (with_reducible repeat (first | refine blk_drewN ?_ _ | refine blk_drew ?_ | refine blk_alloc ?_ _)); exact BK242.out⟩, ⟨by repeat (first | (with_reducible first | exact HB.out | apply below_alloc | apply pw_below_drewN | apply below_drew1 | refine below_set ?_ GE242.out) | exact HB.out)⟩⟩
  case rest =>
    clear HC2
    try clear p2
    try clear c4
    try clear c4b0
    try clear hcz5_0
    try clear hcz5_1
    try clear hcz5_2
    try clear hcz5_3
    try clear hcz5_4
    try clear hcz5_5
    try clear hcz5_6
    try clear hcz6_0
    try clear hcz6_1
    try clear hcz6_2
    try clear hcz6_3
    try clear hcz6_4
    try clear hcz6_5
    try clear hcz6_6
    try clear hfz5_0
    try clear hfz5_1
    try clear hfz5_2
    try clear hfz5_3
    try clear hfz5_4
    try clear hfz5_5
    try clear hfz5_6
    try clear hfz6_0
    try clear hfz6_1
    try clear hfz6_2
    try clear hfz6_3
    try clear hfz6_4
    try clear hfz6_5
    try clear hfz6_6
    obtain ⟨kq, x11_1, rfl, HA, HJ1, BK242, HB⟩ := hcut
    cases kq with
    | zero => exact absurd HA.out (by simp [batch_Right.j0])
    | succ kj1 =>
      have H := HA.out
      clear HA
      simp only [batch_Right.j0] at H
      by_cases c7 : x11_1 = true
      · subst c7
        have H1 : (some 18) = some r := by rw [if_pos rfl] at H; exact H
        clear H
        have H := H1
        clear H1
        obtain rfl := Option.some.inj H
        go_wp2
        go_ret
        exact ⟨by first | rfl | (simp [errW_none, errW_some] <;> rfl) | (simp [*, errW_none, errW_some] <;> rfl), by repeat (first | (with_reducible first | exact HB.out | apply below_alloc | apply pw_below_drewN | apply below_drew1 | refine below_set ?_ GE242.out) | exact HB.out)⟩
      · replace c7 := Bool.eq_false_iff.mpr c7
        subst c7
        have H1 : (if a0_5 = 0 then ((batch_data.f kj1 a0_0 a0_1 a0_2 a0_3 a0_4 a0_5 l0_6).bind fun t243 => (if t243 = 0 then ((batch_bytes.f kj1 a0_0 a0_1 a0_2 a0_3 a0_4 a0_5 l0_6).bind fun t244 => (if (t244.length : Int) > 4096 then (some 13) else (some 0))) else (some t243))) else (if a0_5 = 1 then ((batch_named.f a0_0 a0_1 a0_2 a0_3 a0_4 a0_5 l0_6).bind fun t247 => (if t247 = true then (if a0_3 = (-1) then (if a0_4 = true then (batch_Right.j1 kj1 (decide ((l0_6.length : Int) > 0)) a0_0 a0_1 a0_2 a0_3 a0_4 a0_5 l0_6) else (batch_Right.j1 kj1 true a0_0 a0_1 a0_2 a0_3 a0_4 a0_5 l0_6)) else (batch_Right.j1 kj1 true a0_0 a0_1 a0_2 a0_3 a0_4 a0_5 l0_6)) else (batch_Right.j1 kj1 true a0_0 a0_1 a0_2 a0_3 a0_4 a0_5 l0_6))) else (if a0_5 = 2 then ((batch_named.f a0_0 a0_1 a0_2 a0_3 a0_4 a0_5 l0_6).bind fun t248 => (if t248 = true then (if a0_3 = (-1) then (if a0_4 = true then (batch_Right.j1 kj1 (decide ((l0_6.length : Int) > 0)) a0_0 a0_1 a0_2 a0_3 a0_4 a0_5 l0_6) else (batch_Right.j1 kj1 true a0_0 a0_1 a0_2 a0_3 a0_4 a0_5 l0_6)) else (batch_Right.j1 kj1 true a0_0 a0_1 a0_2 a0_3 a0_4 a0_5 l0_6)) else (batch_Right.j1 kj1 true a0_0 a0_1 a0_2 a0_3 a0_4 a0_5 l0_6))) else (batch_Right.j1 kj1 true a0_0 a0_1 a0_2 a0_3 a0_4 a0_5 l0_6)))) = some r := by rw [if_neg (show ¬ (false = true) by decide)] at H; exact H
        clear H
        have H := H1
        clear H1
        by_cases c8 : a0_5 = 0
        · rw [if_pos c8] at H
          have c8b0 : (a0_5 == 0) = true := beq_iff_eq.mpr c8
          have c8b1 : (a0_5 != 0) = false := bne_eq_false_iff_eq.mpr c8
          clear c8
          replace H := Option.bind_eq_some_iff.mp H
          obtain ⟨t243, A90, H⟩ := H
          replace H : (if t243 = 0 then ((batch_bytes.f kj1 a0_0 a0_1 a0_2 a0_3 a0_4 a0_5 l0_6).bind fun t244 => (if (t244.length : Int) > 4096 then (some 13) else (some 0))) else (some t243)) = some r := H
          have A9 := Aside0.mk A90
          clear A90
          by_cases c10 : t243 = 0
          · rw [if_pos c10] at H
            have c10b0 : (t243 == 0) = true := beq_iff_eq.mpr c10
            have c10b1 : (t243 != 0) = false := bne_eq_false_iff_eq.mpr c10
            clear c10
            replace H := Option.bind_eq_some_iff.mp H
            obtain ⟨t244, A110, H⟩ := H
            replace H : (if (t244.length : Int) > 4096 then (some 13) else (some 0)) = some r := H
            have A11 := Aside0.mk A110
            clear A110
            by_cases c12 : (t244.length : Int) > 4096
            · rw [if_pos c12] at H
              have c12b0 : decide (4096 < (t244.length : Int)) = true := decide_eq_true c12
              have c12b1 : decide (4096 < t244.length) = true := decide_eq_true (by omega)
              clear c12
              obtain rfl := Option.some.inj H
              obtain ⟨hcz13_0, hcz13_1, hcz13_2, hcz13_3, hcz13_4, hcz13_5, hcz13_6⟩ := cells7_ BK242.out
              have hfz13_ := blk_frozen BK242.out
              go_wp2_with (first | ((with_reducible refine gate_callee (f := 115) rfl ?_); refine goesL_ (some 16) rfl rfl Try.func115 (by kernel_rfl) rfl #[.agg #[.int .i64 a0_0, .int .i64 a0_1, .int .i64 a0_2, .int .i64 a0_3, .bool a0_4, .int .i64 a0_5, .slice A0_6 l0_6.length c0_6]] rfl (by (try simp only [List.map_toArray, List.map_cons, List.map_nil]); first | done | rfl | (simp only [List.length_drop, List.length_take]; rfl)) ?_; (with_reducible refine (batch_data.calls kj1 a0_0 a0_1 a0_2 a0_3 a0_4 a0_5 _ _ l0_6 t243 _ ?side1 ?side2 A9.out).mono ?_); (case side1 => exact cgo_ ((Kd.C_below HR0_6.out HB.out))); (case side2 => exact HC0_6.out); rintro e w14 ⟨rfl, hb⟩; refine ⟨_, rfl, ?_⟩; have n0_ := Aside0.mk (blk_below (g := gb242) (o := .cells #[.int .i64 a0_0, .int .i64 a0_1, .int .i64 a0_2, .int .i64 a0_3, .bool a0_4, .int .i64 a0_5, .slice A0_6 l0_6.length c0_6] 56 (0, 0)) (blk_ BK242) hb); have n1_ := Aside0.mk (below_step (bel_ HB) hb); clear BK242 HB; have BK242 := n0_; have HB := n1_; clear n0_ n1_; (try clear hb); (try clear hb2); (try clear hk); (try clear hi); obtain ⟨hcz15_0, hcz15_1, hcz15_2, hcz15_3, hcz15_4, hcz15_5, hcz15_6⟩ := cells7_ BK242.out; have hfz15_ := blk_frozen BK242.out) | ((with_reducible refine gate_callee (f := 94) rfl ?_); refine goesL_ (some 50) rfl rfl Try.func94 (by kernel_rfl) rfl #[.agg #[.int .i64 a0_0, .int .i64 a0_1, .int .i64 a0_2, .int .i64 a0_3, .bool a0_4, .int .i64 a0_5, .slice A0_6 l0_6.length c0_6]] rfl (by (try simp only [List.map_toArray, List.map_cons, List.map_nil]); first | done | rfl | (simp only [List.length_drop, List.length_take]; rfl)) ?_; (with_reducible refine (batch_bytes.calls kj1 a0_0 a0_1 a0_2 a0_3 a0_4 a0_5 _ _ l0_6 t244 _ ?side1 ?side2 A11.out).mono ?_); (case side1 => exact cgo_ ((Kd.C_below HR0_6.out HB.out))); (case side2 => exact HC0_6.out); rintro e w16 ⟨v245, rfl, ho0, hb⟩; refine ⟨_, rfl, ?_⟩; have n0_ := Aside0.mk (Kd.R_lower ho0 (below_size (bel_ HB))); have n1_ := Aside0.mk (blk_below (g := gb242) (o := .cells #[.int .i64 a0_0, .int .i64 a0_1, .int .i64 a0_2, .int .i64 a0_3, .bool a0_4, .int .i64 a0_5, .slice A0_6 l0_6.length c0_6] 56 (0, 0)) (blk_ BK242) hb); have n2_ := Aside0.mk (below_step (bel_ HB) hb); clear BK242 HB; have HO246 := n0_; have BK242 := n1_; have HB := n2_; clear n0_ n1_ n2_; (try clear hb); (try clear hb2); (try clear hk); (try clear hi); (try clear ho0); obtain ⟨Ao17, co17, eo17⟩ := Kd.R_slice HO246.out; subst eo17))
              go_ret
              exact ⟨by first | rfl | (simp [errW_none, errW_some] <;> rfl) | (simp [*, errW_none, errW_some] <;> rfl), by repeat (first | (with_reducible first | exact HB.out | apply below_alloc | apply pw_below_drewN | apply below_drew1 | refine below_set ?_ GE242.out) | exact HB.out)⟩
            · rw [if_neg c12] at H
              have c12b0 : decide (4096 < (t244.length : Int)) = false := decide_eq_false c12
              have c12b1 : decide (4096 < t244.length) = false := decide_eq_false (by omega)
              clear c12
              obtain rfl := Option.some.inj H
              obtain ⟨hcz18_0, hcz18_1, hcz18_2, hcz18_3, hcz18_4, hcz18_5, hcz18_6⟩ := cells7_ BK242.out
              have hfz18_ := blk_frozen BK242.out
              go_wp2_with (first | ((with_reducible refine gate_callee (f := 115) rfl ?_); refine goesL_ (some 16) rfl rfl Try.func115 (by kernel_rfl) rfl #[.agg #[.int .i64 a0_0, .int .i64 a0_1, .int .i64 a0_2, .int .i64 a0_3, .bool a0_4, .int .i64 a0_5, .slice A0_6 l0_6.length c0_6]] rfl (by (try simp only [List.map_toArray, List.map_cons, List.map_nil]); first | done | rfl | (simp only [List.length_drop, List.length_take]; rfl)) ?_; (with_reducible refine (batch_data.calls kj1 a0_0 a0_1 a0_2 a0_3 a0_4 a0_5 _ _ l0_6 t243 _ ?side1 ?side2 A9.out).mono ?_); (case side1 => exact cgo_ ((Kd.C_below HR0_6.out HB.out))); (case side2 => exact HC0_6.out); rintro e w19 ⟨rfl, hb⟩; refine ⟨_, rfl, ?_⟩; have n0_ := Aside0.mk (blk_below (g := gb242) (o := .cells #[.int .i64 a0_0, .int .i64 a0_1, .int .i64 a0_2, .int .i64 a0_3, .bool a0_4, .int .i64 a0_5, .slice A0_6 l0_6.length c0_6] 56 (0, 0)) (blk_ BK242) hb); have n1_ := Aside0.mk (below_step (bel_ HB) hb); clear BK242 HB; have BK242 := n0_; have HB := n1_; clear n0_ n1_; (try clear hb); (try clear hb2); (try clear hk); (try clear hi); obtain ⟨hcz20_0, hcz20_1, hcz20_2, hcz20_3, hcz20_4, hcz20_5, hcz20_6⟩ := cells7_ BK242.out; have hfz20_ := blk_frozen BK242.out) | ((with_reducible refine gate_callee (f := 94) rfl ?_); refine goesL_ (some 50) rfl rfl Try.func94 (by kernel_rfl) rfl #[.agg #[.int .i64 a0_0, .int .i64 a0_1, .int .i64 a0_2, .int .i64 a0_3, .bool a0_4, .int .i64 a0_5, .slice A0_6 l0_6.length c0_6]] rfl (by (try simp only [List.map_toArray, List.map_cons, List.map_nil]); first | done | rfl | (simp only [List.length_drop, List.length_take]; rfl)) ?_; (with_reducible refine (batch_bytes.calls kj1 a0_0 a0_1 a0_2 a0_3 a0_4 a0_5 _ _ l0_6 t244 _ ?side1 ?side2 A11.out).mono ?_); (case side1 => exact cgo_ ((Kd.C_below HR0_6.out HB.out))); (case side2 => exact HC0_6.out); rintro e w21 ⟨v245, rfl, ho0, hb⟩; refine ⟨_, rfl, ?_⟩; have n0_ := Aside0.mk (Kd.R_lower ho0 (below_size (bel_ HB))); have n1_ := Aside0.mk (blk_below (g := gb242) (o := .cells #[.int .i64 a0_0, .int .i64 a0_1, .int .i64 a0_2, .int .i64 a0_3, .bool a0_4, .int .i64 a0_5, .slice A0_6 l0_6.length c0_6] 56 (0, 0)) (blk_ BK242) hb); have n2_ := Aside0.mk (below_step (bel_ HB) hb); clear BK242 HB; have HO246 := n0_; have BK242 := n1_; have HB := n2_; clear n0_ n1_ n2_; (try clear hb); (try clear hb2); (try clear hk); (try clear hi); (try clear ho0); obtain ⟨Ao22, co22, eo22⟩ := Kd.R_slice HO246.out; subst eo22))
              go_ret
              exact ⟨by first | rfl | (simp [errW_none, errW_some] <;> rfl) | (simp [*, errW_none, errW_some] <;> rfl), by repeat (first | (with_reducible first | exact HB.out | apply below_alloc | apply pw_below_drewN | apply below_drew1 | refine below_set ?_ GE242.out) | exact HB.out)⟩
          · rw [if_neg c10] at H
            have c10b0 : (t243 == 0) = false := beq_eq_false_iff_ne.mpr c10
            have c10b1 : (t243 != 0) = true := bne_iff_ne.mpr c10
            obtain rfl := Option.some.inj H
            obtain ⟨hcz23_0, hcz23_1, hcz23_2, hcz23_3, hcz23_4, hcz23_5, hcz23_6⟩ := cells7_ BK242.out
            have hfz23_ := blk_frozen BK242.out
            go_wp2_with (first | ((with_reducible refine gate_callee (f := 115) rfl ?_); refine goesL_ (some 16) rfl rfl Try.func115 (by kernel_rfl) rfl #[.agg #[.int .i64 a0_0, .int .i64 a0_1, .int .i64 a0_2, .int .i64 a0_3, .bool a0_4, .int .i64 a0_5, .slice A0_6 l0_6.length c0_6]] rfl (by (try simp only [List.map_toArray, List.map_cons, List.map_nil]); first | done | rfl | (simp only [List.length_drop, List.length_take]; rfl)) ?_; (with_reducible refine (batch_data.calls kj1 a0_0 a0_1 a0_2 a0_3 a0_4 a0_5 _ _ l0_6 t243 _ ?side1 ?side2 A9.out).mono ?_); (case side1 => exact cgo_ ((Kd.C_below HR0_6.out HB.out))); (case side2 => exact HC0_6.out); rintro e w24 ⟨rfl, hb⟩; refine ⟨_, rfl, ?_⟩; have n0_ := Aside0.mk (blk_below (g := gb242) (o := .cells #[.int .i64 a0_0, .int .i64 a0_1, .int .i64 a0_2, .int .i64 a0_3, .bool a0_4, .int .i64 a0_5, .slice A0_6 l0_6.length c0_6] 56 (0, 0)) (blk_ BK242) hb); have n1_ := Aside0.mk (below_step (bel_ HB) hb); clear BK242 HB; have BK242 := n0_; have HB := n1_; clear n0_ n1_; (try clear hb); (try clear hb2); (try clear hk); (try clear hi)))
            go_ret
            exact ⟨by first | rfl | (simp [errW_none, errW_some] <;> rfl) | (simp [*, errW_none, errW_some] <;> rfl), by repeat (first | (with_reducible first | exact HB.out | apply below_alloc | apply pw_below_drewN | apply below_drew1 | refine below_set ?_ GE242.out) | exact HB.out)⟩
        · rw [if_neg c8] at H
          have c8b0 : (a0_5 == 0) = false := beq_eq_false_iff_ne.mpr c8
          have c8b1 : (a0_5 != 0) = true := bne_iff_ne.mpr c8
          have HC25 := Aside0.mk H
          clear H
          obtain ⟨hcz26_0, hcz26_1, hcz26_2, hcz26_3, hcz26_4, hcz26_5, hcz26_6⟩ := cells7_ BK242.out
          have hfz26_ := blk_frozen BK242.out
          go_upto_region 7 with (fail)
          go_cut [48] (fun v48 wc => ∃ (kq : Nat) (x48_24 : Bool), v48 = .bool x48_24 ∧ Aside0 (batch_Right.j1 kq x48_24 a0_0 a0_1 a0_2 a0_3 a0_4 a0_5 l0_6 = some r) ∧ Aside0 (kq ≤ kj1) ∧ Aside0 (wc.heap[gb242]? = some (.cells #[.int .i64 a0_0, .int .i64 a0_1, .int .i64 a0_2, .int .i64 a0_3, .bool a0_4, .int .i64 a0_5, (.slice A0_6 l0_6.length c0_6)] 56 (0, 0))) ∧ Aside0 (Below w.heap.size w wc))
          case first =>
            have H := HC25.out
            clear HC25
            by_cases c27 : a0_5 = 1
            · rw [if_pos c27] at H
              have c27b0 : (a0_5 == 1) = true := beq_iff_eq.mpr c27
              have c27b1 : (a0_5 != 1) = false := bne_eq_false_iff_eq.mpr c27
              clear c27
              (first | rw [c27b0] | (simp only [i64_w, i32_w]; rw [c27b0]) | skip)
              replace H := Option.bind_eq_some_iff.mp H
              obtain ⟨t247, A280, H⟩ := H
              replace H : (if t247 = true then (if a0_3 = (-1) then (if a0_4 = true then (batch_Right.j1 kj1 (decide ((l0_6.length : Int) > 0)) a0_0 a0_1 a0_2 a0_3 a0_4 a0_5 l0_6) else (batch_Right.j1 kj1 true a0_0 a0_1 a0_2 a0_3 a0_4 a0_5 l0_6)) else (batch_Right.j1 kj1 true a0_0 a0_1 a0_2 a0_3 a0_4 a0_5 l0_6)) else (batch_Right.j1 kj1 true a0_0 a0_1 a0_2 a0_3 a0_4 a0_5 l0_6)) = some r := H
              have A28 := Aside0.mk A280
              clear A280
              by_cases c29 : t247 = true
              · subst c29
                have H1 : (if a0_3 = (-1) then (if a0_4 = true then (batch_Right.j1 kj1 (decide ((l0_6.length : Int) > 0)) a0_0 a0_1 a0_2 a0_3 a0_4 a0_5 l0_6) else (batch_Right.j1 kj1 true a0_0 a0_1 a0_2 a0_3 a0_4 a0_5 l0_6)) else (batch_Right.j1 kj1 true a0_0 a0_1 a0_2 a0_3 a0_4 a0_5 l0_6)) = some r := by rw [if_pos rfl] at H; exact H
                clear H
                have H := H1
                clear H1
                by_cases c30 : a0_3 = (-1)
                · rw [if_pos c30] at H
                  have c30b0 : (a0_3 == (-1)) = true := beq_iff_eq.mpr c30
                  have c30b1 : (a0_3 != (-1)) = false := bne_eq_false_iff_eq.mpr c30
                  clear c30
                  by_cases c31 : a0_4 = true
                  · subst c31
                    have H1 : (batch_Right.j1 kj1 (decide ((l0_6.length : Int) > 0)) a0_0 a0_1 a0_2 a0_3 true a0_5 l0_6) = some r := by rw [if_pos rfl] at H; exact H
                    clear H
                    have H := H1
                    clear H1
                    have H' := Aside0.mk H
                    clear H
                    obtain ⟨hcz32_0, hcz32_1, hcz32_2, hcz32_3, hcz32_4, hcz32_5, hcz32_6⟩ := cells7_ BK242.out
                    have hfz32_ := blk_frozen BK242.out
                    go_wp2_with (first | (go_at_call 116; (with_reducible refine (batch_named.calls a0_0 a0_1 a0_2 a0_3 true a0_5 _ _ l0_6 true _ ?side1 ?side2 A28.out).mono ?_); (case side1 => exact cgo_ ((Kd.C_below HR0_6.out HB.out))); (case side2 => exact HC0_6.out); rintro e w33 ⟨rfl, hb⟩; have n0_ := Aside0.mk (blk_below (g := gb242) (o := .cells #[.int .i64 a0_0, .int .i64 a0_1, .int .i64 a0_2, .int .i64 a0_3, .bool true, .int .i64 a0_5, .slice A0_6 l0_6.length c0_6] 56 (0, 0)) (blk_ BK242) hb); have n1_ := Aside0.mk (below_step (bel_ HB) hb); clear BK242 HB; have BK242 := n0_; have HB := n1_; clear n0_ n1_; (try clear hb); (try clear hb2); (try clear hk); (try clear hi); obtain ⟨hcz34_0, hcz34_1, hcz34_2, hcz34_3, hcz34_4, hcz34_5, hcz34_6⟩ := cells7_ BK242.out; have hfz34_ := blk_frozen BK242.out))
                    go_meet
                    case rel => exact ⟨_, (decide ((l0_6.length : Int) > 0)), (by first | rfl | (simp; done) | (simp [*]; done)), H', ⟨by have := HJ1.out; first | omega | exact Nat.le_refl _⟩, ⟨by (with_reducible repeat (first | refine blk_drewN ?_ _ | refine blk_drew ?_ | refine blk_alloc ?_ _)); exact BK242.out⟩, ⟨by repeat (first | (with_reducible first | exact HB.out | apply below_alloc | apply pw_below_drewN | apply below_drew1 | refine below_set ?_ GE242.out) | exact HB.out)⟩⟩
                  · replace c31 := Bool.eq_false_iff.mpr c31
                    subst c31
                    have H1 : (batch_Right.j1 kj1 true a0_0 a0_1 a0_2 a0_3 false a0_5 l0_6) = some r := by rw [if_neg (show ¬ (false = true) by decide)] at H; exact H
                    clear H
                    have H := H1
                    clear H1
                    have H' := Aside0.mk H
                    clear H
                    obtain ⟨hcz35_0, hcz35_1, hcz35_2, hcz35_3, hcz35_4, hcz35_5, hcz35_6⟩ := cells7_ BK242.out
                    have hfz35_ := blk_frozen BK242.out
                    go_wp2_with (first | (go_at_call 116; (with_reducible refine (batch_named.calls a0_0 a0_1 a0_2 a0_3 false a0_5 _ _ l0_6 true _ ?side1 ?side2 A28.out).mono ?_); (case side1 => exact cgo_ ((Kd.C_below HR0_6.out HB.out))); (case side2 => exact HC0_6.out); rintro e w36 ⟨rfl, hb⟩; have n0_ := Aside0.mk (blk_below (g := gb242) (o := .cells #[.int .i64 a0_0, .int .i64 a0_1, .int .i64 a0_2, .int .i64 a0_3, .bool false, .int .i64 a0_5, .slice A0_6 l0_6.length c0_6] 56 (0, 0)) (blk_ BK242) hb); have n1_ := Aside0.mk (below_step (bel_ HB) hb); clear BK242 HB; have BK242 := n0_; have HB := n1_; clear n0_ n1_; (try clear hb); (try clear hb2); (try clear hk); (try clear hi); obtain ⟨hcz37_0, hcz37_1, hcz37_2, hcz37_3, hcz37_4, hcz37_5, hcz37_6⟩ := cells7_ BK242.out; have hfz37_ := blk_frozen BK242.out))
                    go_meet
                    case rel => exact ⟨_, (true), (by first | rfl | (simp; done) | (simp [*]; done)), H', ⟨by have := HJ1.out; first | omega | exact Nat.le_refl _⟩, ⟨by (with_reducible repeat (first | refine blk_drewN ?_ _ | refine blk_drew ?_ | refine blk_alloc ?_ _)); exact BK242.out⟩, ⟨by repeat (first | (with_reducible first | exact HB.out | apply below_alloc | apply pw_below_drewN | apply below_drew1 | refine below_set ?_ GE242.out) | exact HB.out)⟩⟩
                · rw [if_neg c30] at H
                  have c30b0 : (a0_3 == (-1)) = false := beq_eq_false_iff_ne.mpr c30
                  have c30b1 : (a0_3 != (-1)) = true := bne_iff_ne.mpr c30
                  have H' := Aside0.mk H
                  clear H
                  obtain ⟨hcz38_0, hcz38_1, hcz38_2, hcz38_3, hcz38_4, hcz38_5, hcz38_6⟩ := cells7_ BK242.out
                  have hfz38_ := blk_frozen BK242.out
                  go_wp2_with (first | (go_at_call 116; (with_reducible refine (batch_named.calls a0_0 a0_1 a0_2 a0_3 a0_4 a0_5 _ _ l0_6 true _ ?side1 ?side2 A28.out).mono ?_); (case side1 => exact cgo_ ((Kd.C_below HR0_6.out HB.out))); (case side2 => exact HC0_6.out); rintro e w39 ⟨rfl, hb⟩; have n0_ := Aside0.mk (blk_below (g := gb242) (o := .cells #[.int .i64 a0_0, .int .i64 a0_1, .int .i64 a0_2, .int .i64 a0_3, .bool a0_4, .int .i64 a0_5, .slice A0_6 l0_6.length c0_6] 56 (0, 0)) (blk_ BK242) hb); have n1_ := Aside0.mk (below_step (bel_ HB) hb); clear BK242 HB; have BK242 := n0_; have HB := n1_; clear n0_ n1_; (try clear hb); (try clear hb2); (try clear hk); (try clear hi); obtain ⟨hcz40_0, hcz40_1, hcz40_2, hcz40_3, hcz40_4, hcz40_5, hcz40_6⟩ := cells7_ BK242.out; have hfz40_ := blk_frozen BK242.out))
                  go_meet
                  case rel => exact ⟨_, (true), (by first | rfl | (simp; done) | (simp [*]; done)), H', ⟨by have := HJ1.out; first | omega | exact Nat.le_refl _⟩, ⟨by (with_reducible repeat (first | refine blk_drewN ?_ _ | refine blk_drew ?_ | refine blk_alloc ?_ _)); exact BK242.out⟩, ⟨by repeat (first | (with_reducible first | exact HB.out | apply below_alloc | apply pw_below_drewN | apply below_drew1 | refine below_set ?_ GE242.out) | exact HB.out)⟩⟩
              · replace c29 := Bool.eq_false_iff.mpr c29
                subst c29
                have H1 : (batch_Right.j1 kj1 true a0_0 a0_1 a0_2 a0_3 a0_4 a0_5 l0_6) = some r := by rw [if_neg (show ¬ (false = true) by decide)] at H; exact H
                clear H
                have H := H1
                clear H1
                have H' := Aside0.mk H
                clear H
                obtain ⟨hcz41_0, hcz41_1, hcz41_2, hcz41_3, hcz41_4, hcz41_5, hcz41_6⟩ := cells7_ BK242.out
                have hfz41_ := blk_frozen BK242.out
                go_wp2_with (first | (go_at_call 116; (with_reducible refine (batch_named.calls a0_0 a0_1 a0_2 a0_3 a0_4 a0_5 _ _ l0_6 false _ ?side1 ?side2 A28.out).mono ?_); (case side1 => exact cgo_ ((Kd.C_below HR0_6.out HB.out))); (case side2 => exact HC0_6.out); rintro e w42 ⟨rfl, hb⟩; have n0_ := Aside0.mk (blk_below (g := gb242) (o := .cells #[.int .i64 a0_0, .int .i64 a0_1, .int .i64 a0_2, .int .i64 a0_3, .bool a0_4, .int .i64 a0_5, .slice A0_6 l0_6.length c0_6] 56 (0, 0)) (blk_ BK242) hb); have n1_ := Aside0.mk (below_step (bel_ HB) hb); clear BK242 HB; have BK242 := n0_; have HB := n1_; clear n0_ n1_; (try clear hb); (try clear hb2); (try clear hk); (try clear hi)))
                go_meet
                case rel => exact ⟨_, (true), (by first | rfl | (simp; done) | (simp [*]; done)), H', ⟨by have := HJ1.out; first | omega | exact Nat.le_refl _⟩, ⟨by (with_reducible repeat (first | refine blk_drewN ?_ _ | refine blk_drew ?_ | refine blk_alloc ?_ _)); exact BK242.out⟩, ⟨by repeat (first | (with_reducible first | exact HB.out | apply below_alloc | apply pw_below_drewN | apply below_drew1 | refine below_set ?_ GE242.out) | exact HB.out)⟩⟩
            · rw [if_neg c27] at H
              have c27b0 : (a0_5 == 1) = false := beq_eq_false_iff_ne.mpr c27
              have c27b1 : (a0_5 != 1) = true := bne_iff_ne.mpr c27
              (first | rw [c27b0] | (simp only [i64_w, i32_w]; rw [c27b0]) | skip)
              by_cases c43 : a0_5 = 2
              · rw [if_pos c43] at H
                have c43b0 : (a0_5 == 2) = true := beq_iff_eq.mpr c43
                have c43b1 : (a0_5 != 2) = false := bne_eq_false_iff_eq.mpr c43
                clear c43
                replace H := Option.bind_eq_some_iff.mp H
                obtain ⟨t248, A440, H⟩ := H
                replace H : (if t248 = true then (if a0_3 = (-1) then (if a0_4 = true then (batch_Right.j1 kj1 (decide ((l0_6.length : Int) > 0)) a0_0 a0_1 a0_2 a0_3 a0_4 a0_5 l0_6) else (batch_Right.j1 kj1 true a0_0 a0_1 a0_2 a0_3 a0_4 a0_5 l0_6)) else (batch_Right.j1 kj1 true a0_0 a0_1 a0_2 a0_3 a0_4 a0_5 l0_6)) else (batch_Right.j1 kj1 true a0_0 a0_1 a0_2 a0_3 a0_4 a0_5 l0_6)) = some r := H
                have A44 := Aside0.mk A440
                clear A440
                by_cases c45 : t248 = true
                · subst c45
                  have H1 : (if a0_3 = (-1) then (if a0_4 = true then (batch_Right.j1 kj1 (decide ((l0_6.length : Int) > 0)) a0_0 a0_1 a0_2 a0_3 a0_4 a0_5 l0_6) else (batch_Right.j1 kj1 true a0_0 a0_1 a0_2 a0_3 a0_4 a0_5 l0_6)) else (batch_Right.j1 kj1 true a0_0 a0_1 a0_2 a0_3 a0_4 a0_5 l0_6)) = some r := by rw [if_pos rfl] at H; exact H
                  clear H
                  have H := H1
                  clear H1
                  by_cases c46 : a0_3 = (-1)
                  · rw [if_pos c46] at H
                    have c46b0 : (a0_3 == (-1)) = true := beq_iff_eq.mpr c46
                    have c46b1 : (a0_3 != (-1)) = false := bne_eq_false_iff_eq.mpr c46
                    clear c46
                    by_cases c47 : a0_4 = true
                    · subst c47
                      have H1 : (batch_Right.j1 kj1 (decide ((l0_6.length : Int) > 0)) a0_0 a0_1 a0_2 a0_3 true a0_5 l0_6) = some r := by rw [if_pos rfl] at H; exact H
                      clear H
                      have H := H1
                      clear H1
                      have H' := Aside0.mk H
                      clear H
                      obtain ⟨hcz48_0, hcz48_1, hcz48_2, hcz48_3, hcz48_4, hcz48_5, hcz48_6⟩ := cells7_ BK242.out
                      have hfz48_ := blk_frozen BK242.out
                      go_wp2_with (first | (go_at_call 116; (with_reducible refine (batch_named.calls a0_0 a0_1 a0_2 a0_3 true a0_5 _ _ l0_6 true _ ?side1 ?side2 A44.out).mono ?_); (case side1 => exact cgo_ ((Kd.C_below HR0_6.out HB.out))); (case side2 => exact HC0_6.out); rintro e w49 ⟨rfl, hb⟩; have n0_ := Aside0.mk (blk_below (g := gb242) (o := .cells #[.int .i64 a0_0, .int .i64 a0_1, .int .i64 a0_2, .int .i64 a0_3, .bool true, .int .i64 a0_5, .slice A0_6 l0_6.length c0_6] 56 (0, 0)) (blk_ BK242) hb); have n1_ := Aside0.mk (below_step (bel_ HB) hb); clear BK242 HB; have BK242 := n0_; have HB := n1_; clear n0_ n1_; (try clear hb); (try clear hb2); (try clear hk); (try clear hi); obtain ⟨hcz50_0, hcz50_1, hcz50_2, hcz50_3, hcz50_4, hcz50_5, hcz50_6⟩ := cells7_ BK242.out; have hfz50_ := blk_frozen BK242.out))
                      go_meet
                      case rel => exact ⟨_, (decide ((l0_6.length : Int) > 0)), (by first | rfl | (simp; done) | (simp [*]; done)), H', ⟨by have := HJ1.out; first | omega | exact Nat.le_refl _⟩, ⟨by (with_reducible repeat (first | refine blk_drewN ?_ _ | refine blk_drew ?_ | refine blk_alloc ?_ _)); exact BK242.out⟩, ⟨by repeat (first | (with_reducible first | exact HB.out | apply below_alloc | apply pw_below_drewN | apply below_drew1 | refine below_set ?_ GE242.out) | exact HB.out)⟩⟩
                    · replace c47 := Bool.eq_false_iff.mpr c47
                      subst c47
                      have H1 : (batch_Right.j1 kj1 true a0_0 a0_1 a0_2 a0_3 false a0_5 l0_6) = some r := by rw [if_neg (show ¬ (false = true) by decide)] at H; exact H
                      clear H
                      have H := H1
                      clear H1
                      have H' := Aside0.mk H
                      clear H
                      obtain ⟨hcz51_0, hcz51_1, hcz51_2, hcz51_3, hcz51_4, hcz51_5, hcz51_6⟩ := cells7_ BK242.out
                      have hfz51_ := blk_frozen BK242.out
                      go_wp2_with (first | (go_at_call 116; (with_reducible refine (batch_named.calls a0_0 a0_1 a0_2 a0_3 false a0_5 _ _ l0_6 true _ ?side1 ?side2 A44.out).mono ?_); (case side1 => exact cgo_ ((Kd.C_below HR0_6.out HB.out))); (case side2 => exact HC0_6.out); rintro e w52 ⟨rfl, hb⟩; have n0_ := Aside0.mk (blk_below (g := gb242) (o := .cells #[.int .i64 a0_0, .int .i64 a0_1, .int .i64 a0_2, .int .i64 a0_3, .bool false, .int .i64 a0_5, .slice A0_6 l0_6.length c0_6] 56 (0, 0)) (blk_ BK242) hb); have n1_ := Aside0.mk (below_step (bel_ HB) hb); clear BK242 HB; have BK242 := n0_; have HB := n1_; clear n0_ n1_; (try clear hb); (try clear hb2); (try clear hk); (try clear hi); obtain ⟨hcz53_0, hcz53_1, hcz53_2, hcz53_3, hcz53_4, hcz53_5, hcz53_6⟩ := cells7_ BK242.out; have hfz53_ := blk_frozen BK242.out))
                      go_meet
                      case rel => exact ⟨_, (true), (by first | rfl | (simp; done) | (simp [*]; done)), H', ⟨by have := HJ1.out; first | omega | exact Nat.le_refl _⟩, ⟨by (with_reducible repeat (first | refine blk_drewN ?_ _ | refine blk_drew ?_ | refine blk_alloc ?_ _)); exact BK242.out⟩, ⟨by repeat (first | (with_reducible first | exact HB.out | apply below_alloc | apply pw_below_drewN | apply below_drew1 | refine below_set ?_ GE242.out) | exact HB.out)⟩⟩
                  · rw [if_neg c46] at H
                    have c46b0 : (a0_3 == (-1)) = false := beq_eq_false_iff_ne.mpr c46
                    have c46b1 : (a0_3 != (-1)) = true := bne_iff_ne.mpr c46
                    have H' := Aside0.mk H
                    clear H
                    obtain ⟨hcz54_0, hcz54_1, hcz54_2, hcz54_3, hcz54_4, hcz54_5, hcz54_6⟩ := cells7_ BK242.out
                    have hfz54_ := blk_frozen BK242.out
                    go_wp2_with (first | (go_at_call 116; (with_reducible refine (batch_named.calls a0_0 a0_1 a0_2 a0_3 a0_4 a0_5 _ _ l0_6 true _ ?side1 ?side2 A44.out).mono ?_); (case side1 => exact cgo_ ((Kd.C_below HR0_6.out HB.out))); (case side2 => exact HC0_6.out); rintro e w55 ⟨rfl, hb⟩; have n0_ := Aside0.mk (blk_below (g := gb242) (o := .cells #[.int .i64 a0_0, .int .i64 a0_1, .int .i64 a0_2, .int .i64 a0_3, .bool a0_4, .int .i64 a0_5, .slice A0_6 l0_6.length c0_6] 56 (0, 0)) (blk_ BK242) hb); have n1_ := Aside0.mk (below_step (bel_ HB) hb); clear BK242 HB; have BK242 := n0_; have HB := n1_; clear n0_ n1_; (try clear hb); (try clear hb2); (try clear hk); (try clear hi); obtain ⟨hcz56_0, hcz56_1, hcz56_2, hcz56_3, hcz56_4, hcz56_5, hcz56_6⟩ := cells7_ BK242.out; have hfz56_ := blk_frozen BK242.out))
                    go_meet
                    case rel => exact ⟨_, (true), (by first | rfl | (simp; done) | (simp [*]; done)), H', ⟨by have := HJ1.out; first | omega | exact Nat.le_refl _⟩, ⟨by (with_reducible repeat (first | refine blk_drewN ?_ _ | refine blk_drew ?_ | refine blk_alloc ?_ _)); exact BK242.out⟩, ⟨by repeat (first | (with_reducible first | exact HB.out | apply below_alloc | apply pw_below_drewN | apply below_drew1 | refine below_set ?_ GE242.out) | exact HB.out)⟩⟩
                · replace c45 := Bool.eq_false_iff.mpr c45
                  subst c45
                  have H1 : (batch_Right.j1 kj1 true a0_0 a0_1 a0_2 a0_3 a0_4 a0_5 l0_6) = some r := by rw [if_neg (show ¬ (false = true) by decide)] at H; exact H
                  clear H
                  have H := H1
                  clear H1
                  have H' := Aside0.mk H
                  clear H
                  obtain ⟨hcz57_0, hcz57_1, hcz57_2, hcz57_3, hcz57_4, hcz57_5, hcz57_6⟩ := cells7_ BK242.out
                  have hfz57_ := blk_frozen BK242.out
                  go_wp2_with (first | (go_at_call 116; (with_reducible refine (batch_named.calls a0_0 a0_1 a0_2 a0_3 a0_4 a0_5 _ _ l0_6 false _ ?side1 ?side2 A44.out).mono ?_); (case side1 => exact cgo_ ((Kd.C_below HR0_6.out HB.out))); (case side2 => exact HC0_6.out); rintro e w58 ⟨rfl, hb⟩; have n0_ := Aside0.mk (blk_below (g := gb242) (o := .cells #[.int .i64 a0_0, .int .i64 a0_1, .int .i64 a0_2, .int .i64 a0_3, .bool a0_4, .int .i64 a0_5, .slice A0_6 l0_6.length c0_6] 56 (0, 0)) (blk_ BK242) hb); have n1_ := Aside0.mk (below_step (bel_ HB) hb); clear BK242 HB; have BK242 := n0_; have HB := n1_; clear n0_ n1_; (try clear hb); (try clear hb2); (try clear hk); (try clear hi)))
                  go_meet
                  case rel => exact ⟨_, (true), (by first | rfl | (simp; done) | (simp [*]; done)), H', ⟨by have := HJ1.out; first | omega | exact Nat.le_refl _⟩, ⟨by (with_reducible repeat (first | refine blk_drewN ?_ _ | refine blk_drew ?_ | refine blk_alloc ?_ _)); exact BK242.out⟩, ⟨by repeat (first | (with_reducible first | exact HB.out | apply below_alloc | apply pw_below_drewN | apply below_drew1 | refine below_set ?_ GE242.out) | exact HB.out)⟩⟩
              · rw [if_neg c43] at H
                have c43b0 : (a0_5 == 2) = false := beq_eq_false_iff_ne.mpr c43
                have c43b1 : (a0_5 != 2) = true := bne_iff_ne.mpr c43
                have H' := Aside0.mk H
                clear H
                obtain ⟨hcz59_0, hcz59_1, hcz59_2, hcz59_3, hcz59_4, hcz59_5, hcz59_6⟩ := cells7_ BK242.out
                have hfz59_ := blk_frozen BK242.out
                go_wp2
                go_meet
                case rel => exact ⟨_, (true), (by first | rfl | (simp; done) | (simp [*]; done)), H', ⟨by have := HJ1.out; first | omega | exact Nat.le_refl _⟩, ⟨by (with_reducible repeat (first | refine blk_drewN ?_ _ | refine blk_drew ?_ | refine blk_alloc ?_ _)); exact BK242.out⟩, ⟨by repeat (first | (with_reducible first | exact HB.out | apply below_alloc | apply pw_below_drewN | apply below_drew1 | refine below_set ?_ GE242.out) | exact HB.out)⟩⟩
          case rest =>
            clear HC25
            try clear c1
            try clear c2
            try clear p2
            try clear c3
            try clear c4
            try clear c4b0
            try clear c7
            try clear c8
            try clear c8b0
            try clear c8b1
            try clear c9
            try clear c10
            try clear c10b0
            try clear c10b1
            try clear c11
            try clear c12
            try clear c12b0
            try clear c12b1
            try clear c27
            try clear c27b0
            try clear c27b1
            try clear c29
            try clear c30
            try clear c30b0
            try clear c30b1
            try clear c31
            try clear c43
            try clear c43b0
            try clear c43b1
            try clear c45
            try clear c46
            try clear c46b0
            try clear c46b1
            try clear c47
            try clear hcz13_0
            try clear hcz13_1
            try clear hcz13_2
            try clear hcz13_3
            try clear hcz13_4
            try clear hcz13_5
            try clear hcz13_6
            try clear hcz15_0
            try clear hcz15_1
            try clear hcz15_2
            try clear hcz15_3
            try clear hcz15_4
            try clear hcz15_5
            try clear hcz15_6
            try clear hcz18_0
            try clear hcz18_1
            try clear hcz18_2
            try clear hcz18_3
            try clear hcz18_4
            try clear hcz18_5
            try clear hcz18_6
            try clear hcz20_0
            try clear hcz20_1
            try clear hcz20_2
            try clear hcz20_3
            try clear hcz20_4
            try clear hcz20_5
            try clear hcz20_6
            try clear hcz23_0
            try clear hcz23_1
            try clear hcz23_2
            try clear hcz23_3
            try clear hcz23_4
            try clear hcz23_5
            try clear hcz23_6
            try clear hcz26_0
            try clear hcz26_1
            try clear hcz26_2
            try clear hcz26_3
            try clear hcz26_4
            try clear hcz26_5
            try clear hcz26_6
            try clear hcz32_0
            try clear hcz32_1
            try clear hcz32_2
            try clear hcz32_3
            try clear hcz32_4
            try clear hcz32_5
            try clear hcz32_6
            try clear hcz34_0
            try clear hcz34_1
            try clear hcz34_2
            try clear hcz34_3
            try clear hcz34_4
            try clear hcz34_5
            try clear hcz34_6
            try clear hcz35_0
            try clear hcz35_1
            try clear hcz35_2
            try clear hcz35_3
            try clear hcz35_4
            try clear hcz35_5
            try clear hcz35_6
            try clear hcz37_0
            try clear hcz37_1
            try clear hcz37_2
            try clear hcz37_3
            try clear hcz37_4
            try clear hcz37_5
            try clear hcz37_6
            try clear hcz38_0
            try clear hcz38_1
            try clear hcz38_2
            try clear hcz38_3
            try clear hcz38_4
            try clear hcz38_5
            try clear hcz38_6
            try clear hcz40_0
            try clear hcz40_1
            try clear hcz40_2
            try clear hcz40_3
            try clear hcz40_4
            try clear hcz40_5
            try clear hcz40_6
            try clear hcz41_0
            try clear hcz41_1
            try clear hcz41_2
            try clear hcz41_3
            try clear hcz41_4
            try clear hcz41_5
            try clear hcz41_6
            try clear hcz48_0
            try clear hcz48_1
            try clear hcz48_2
            try clear hcz48_3
            try clear hcz48_4
            try clear hcz48_5
            try clear hcz48_6
            try clear hcz50_0
            try clear hcz50_1
            try clear hcz50_2
            try clear hcz50_3
            try clear hcz50_4
            try clear hcz50_5
            try clear hcz50_6
            try clear hcz51_0
            try clear hcz51_1
            try clear hcz51_2
            try clear hcz51_3
            try clear hcz51_4
            try clear hcz51_5
            try clear hcz51_6
            try clear hcz53_0
            try clear hcz53_1
            try clear hcz53_2
            try clear hcz53_3
            try clear hcz53_4
            try clear hcz53_5
            try clear hcz53_6
            try clear hcz54_0
            try clear hcz54_1
            try clear hcz54_2
            try clear hcz54_3
            try clear hcz54_4
            try clear hcz54_5
            try clear hcz54_6
            try clear hcz56_0
            try clear hcz56_1
            try clear hcz56_2
            try clear hcz56_3
            try clear hcz56_4
            try clear hcz56_5
            try clear hcz56_6
            try clear hcz57_0
            try clear hcz57_1
            try clear hcz57_2
            try clear hcz57_3
            try clear hcz57_4
            try clear hcz57_5
            try clear hcz57_6
            try clear hcz59_0
            try clear hcz59_1
            try clear hcz59_2
            try clear hcz59_3
            try clear hcz59_4
            try clear hcz59_5
            try clear hcz59_6
            try clear hcz5_0
            try clear hcz5_1
            try clear hcz5_2
            try clear hcz5_3
            try clear hcz5_4
            try clear hcz5_5
            try clear hcz5_6
            try clear hcz6_0
            try clear hcz6_1
            try clear hcz6_2
            try clear hcz6_3
            try clear hcz6_4
            try clear hcz6_5
            try clear hcz6_6
            try clear hfz13_0
            try clear hfz13_1
            try clear hfz13_2
            try clear hfz13_3
            try clear hfz13_4
            try clear hfz13_5
            try clear hfz13_6
            try clear hfz15_0
            try clear hfz15_1
            try clear hfz15_2
            try clear hfz15_3
            try clear hfz15_4
            try clear hfz15_5
            try clear hfz15_6
            try clear hfz18_0
            try clear hfz18_1
            try clear hfz18_2
            try clear hfz18_3
            try clear hfz18_4
            try clear hfz18_5
            try clear hfz18_6
            try clear hfz20_0
            try clear hfz20_1
            try clear hfz20_2
            try clear hfz20_3
            try clear hfz20_4
            try clear hfz20_5
            try clear hfz20_6
            try clear hfz23_0
            try clear hfz23_1
            try clear hfz23_2
            try clear hfz23_3
            try clear hfz23_4
            try clear hfz23_5
            try clear hfz23_6
            try clear hfz26_0
            try clear hfz26_1
            try clear hfz26_2
            try clear hfz26_3
            try clear hfz26_4
            try clear hfz26_5
            try clear hfz26_6
            try clear hfz32_0
            try clear hfz32_1
            try clear hfz32_2
            try clear hfz32_3
            try clear hfz32_4
            try clear hfz32_5
            try clear hfz32_6
            try clear hfz34_0
            try clear hfz34_1
            try clear hfz34_2
            try clear hfz34_3
            try clear hfz34_4
            try clear hfz34_5
            try clear hfz34_6
            try clear hfz35_0
            try clear hfz35_1
            try clear hfz35_2
            try clear hfz35_3
            try clear hfz35_4
            try clear hfz35_5
            try clear hfz35_6
            try clear hfz37_0
            try clear hfz37_1
            try clear hfz37_2
            try clear hfz37_3
            try clear hfz37_4
            try clear hfz37_5
            try clear hfz37_6
            try clear hfz38_0
            try clear hfz38_1
            try clear hfz38_2
            try clear hfz38_3
            try clear hfz38_4
            try clear hfz38_5
            try clear hfz38_6
            try clear hfz40_0
            try clear hfz40_1
            try clear hfz40_2
            try clear hfz40_3
            try clear hfz40_4
            try clear hfz40_5
            try clear hfz40_6
            try clear hfz41_0
            try clear hfz41_1
            try clear hfz41_2
            try clear hfz41_3
            try clear hfz41_4
            try clear hfz41_5
            try clear hfz41_6
            try clear hfz48_0
            try clear hfz48_1
            try clear hfz48_2
            try clear hfz48_3
            try clear hfz48_4
            try clear hfz48_5
            try clear hfz48_6
            try clear hfz50_0
            try clear hfz50_1
            try clear hfz50_2
            try clear hfz50_3
            try clear hfz50_4
            try clear hfz50_5
            try clear hfz50_6
            try clear hfz51_0
            try clear hfz51_1
            try clear hfz51_2
            try clear hfz51_3
            try clear hfz51_4
            try clear hfz51_5
            try clear hfz51_6
            try clear hfz53_0
            try clear hfz53_1
            try clear hfz53_2
            try clear hfz53_3
            try clear hfz53_4
            try clear hfz53_5
            try clear hfz53_6
            try clear hfz54_0
            try clear hfz54_1
            try clear hfz54_2
            try clear hfz54_3
            try clear hfz54_4
            try clear hfz54_5
            try clear hfz54_6
            try clear hfz56_0
            try clear hfz56_1
            try clear hfz56_2
            try clear hfz56_3
            try clear hfz56_4
            try clear hfz56_5
            try clear hfz56_6
            try clear hfz57_0
            try clear hfz57_1
            try clear hfz57_2
            try clear hfz57_3
            try clear hfz57_4
            try clear hfz57_5
            try clear hfz57_6
            try clear hfz59_0
            try clear hfz59_1
            try clear hfz59_2
            try clear hfz59_3
            try clear hfz59_4
            try clear hfz59_5
            try clear hfz59_6
            try clear hfz5_0
            try clear hfz5_1
            try clear hfz5_2
            try clear hfz5_3
            try clear hfz5_4
            try clear hfz5_5
            try clear hfz5_6
            try clear hfz6_0
            try clear hfz6_1
            try clear hfz6_2
            try clear hfz6_3
            try clear hfz6_4
            try clear hfz6_5
            try clear hfz6_6
            try clear p2
            obtain ⟨kq, x48_24, rfl, HA, HJ24, BK242, HB⟩ := hcut
            cases kq with
            | zero => exact absurd HA.out (by simp [batch_Right.j1])
            | succ kj24 =>
              have H := HA.out
              clear HA
              simp only [batch_Right.j1] at H
              by_cases c60 : x48_24 = true
              · subst c60
                have H1 : (some 12) = some r := by rw [if_pos rfl] at H; exact H
                clear H
                have H := H1
                clear H1
                obtain rfl := Option.some.inj H
                go_wp2
                go_ret
                exact ⟨by first | rfl | (simp [errW_none, errW_some] <;> rfl) | (simp [*, errW_none, errW_some] <;> rfl), by repeat (first | (with_reducible first | exact HB.out | apply below_alloc | apply pw_below_drewN | apply below_drew1 | refine below_set ?_ GE242.out) | exact HB.out)⟩
              · replace c60 := Bool.eq_false_iff.mpr c60
                subst c60
                have H1 : ((batch_bytes.f kj24 a0_0 a0_1 a0_2 a0_3 a0_4 a0_5 l0_6).bind fun t249 => (if (t249.length : Int) > 4096 then (some 13) else (some 0))) = some r := by rw [if_neg (show ¬ (false = true) by decide)] at H; exact H
                clear H
                have H := H1
                clear H1
                replace H := Option.bind_eq_some_iff.mp H
                obtain ⟨t249, A610, H⟩ := H
                replace H : (if (t249.length : Int) > 4096 then (some 13) else (some 0)) = some r := H
                have A61 := Aside0.mk A610
                clear A610
                by_cases c62 : (t249.length : Int) > 4096
                · rw [if_pos c62] at H
                  have c62b0 : decide (4096 < (t249.length : Int)) = true := decide_eq_true c62
                  have c62b1 : decide (4096 < t249.length) = true := decide_eq_true (by omega)
                  clear c62
                  obtain rfl := Option.some.inj H
                  obtain ⟨hcz63_0, hcz63_1, hcz63_2, hcz63_3, hcz63_4, hcz63_5, hcz63_6⟩ := cells7_ BK242.out
                  have hfz63_ := blk_frozen BK242.out
                  go_wp2_with (first | ((with_reducible refine gate_callee (f := 94) rfl ?_); refine goesL_ (some 50) rfl rfl Try.func94 (by kernel_rfl) rfl #[.agg #[.int .i64 a0_0, .int .i64 a0_1, .int .i64 a0_2, .int .i64 a0_3, .bool a0_4, .int .i64 a0_5, .slice A0_6 l0_6.length c0_6]] rfl (by (try simp only [List.map_toArray, List.map_cons, List.map_nil]); first | done | rfl | (simp only [List.length_drop, List.length_take]; rfl)) ?_; (with_reducible refine (batch_bytes.calls kj24 a0_0 a0_1 a0_2 a0_3 a0_4 a0_5 _ _ l0_6 t249 _ ?side1 ?side2 A61.out).mono ?_); (case side1 => exact cgo_ ((Kd.C_below HR0_6.out HB.out))); (case side2 => exact HC0_6.out); rintro e w64 ⟨v250, rfl, ho0, hb⟩; refine ⟨_, rfl, ?_⟩; have n0_ := Aside0.mk (Kd.R_lower ho0 (below_size (bel_ HB))); have n1_ := Aside0.mk (blk_below (g := gb242) (o := .cells #[.int .i64 a0_0, .int .i64 a0_1, .int .i64 a0_2, .int .i64 a0_3, .bool a0_4, .int .i64 a0_5, .slice A0_6 l0_6.length c0_6] 56 (0, 0)) (blk_ BK242) hb); have n2_ := Aside0.mk (below_step (bel_ HB) hb); clear BK242 HB; have HO251 := n0_; have BK242 := n1_; have HB := n2_; clear n0_ n1_ n2_; (try clear hb); (try clear hb2); (try clear hk); (try clear hi); (try clear ho0); obtain ⟨Ao65, co65, eo65⟩ := Kd.R_slice HO251.out; subst eo65))
                  go_ret
                  exact ⟨by first | rfl | (simp [errW_none, errW_some] <;> rfl) | (simp [*, errW_none, errW_some] <;> rfl), by repeat (first | (with_reducible first | exact HB.out | apply below_alloc | apply pw_below_drewN | apply below_drew1 | refine below_set ?_ GE242.out) | exact HB.out)⟩
                · rw [if_neg c62] at H
                  have c62b0 : decide (4096 < (t249.length : Int)) = false := decide_eq_false c62
                  have c62b1 : decide (4096 < t249.length) = false := decide_eq_false (by omega)
                  clear c62
                  obtain rfl := Option.some.inj H
                  obtain ⟨hcz66_0, hcz66_1, hcz66_2, hcz66_3, hcz66_4, hcz66_5, hcz66_6⟩ := cells7_ BK242.out
                  have hfz66_ := blk_frozen BK242.out
                  go_wp2_with (first | ((with_reducible refine gate_callee (f := 94) rfl ?_); refine goesL_ (some 50) rfl rfl Try.func94 (by kernel_rfl) rfl #[.agg #[.int .i64 a0_0, .int .i64 a0_1, .int .i64 a0_2, .int .i64 a0_3, .bool a0_4, .int .i64 a0_5, .slice A0_6 l0_6.length c0_6]] rfl (by (try simp only [List.map_toArray, List.map_cons, List.map_nil]); first | done | rfl | (simp only [List.length_drop, List.length_take]; rfl)) ?_; (with_reducible refine (batch_bytes.calls kj24 a0_0 a0_1 a0_2 a0_3 a0_4 a0_5 _ _ l0_6 t249 _ ?side1 ?side2 A61.out).mono ?_); (case side1 => exact cgo_ ((Kd.C_below HR0_6.out HB.out))); (case side2 => exact HC0_6.out); rintro e w67 ⟨v250, rfl, ho0, hb⟩; refine ⟨_, rfl, ?_⟩; have n0_ := Aside0.mk (Kd.R_lower ho0 (below_size (bel_ HB))); have n1_ := Aside0.mk (blk_below (g := gb242) (o := .cells #[.int .i64 a0_0, .int .i64 a0_1, .int .i64 a0_2, .int .i64 a0_3, .bool a0_4, .int .i64 a0_5, .slice A0_6 l0_6.length c0_6] 56 (0, 0)) (blk_ BK242) hb); have n2_ := Aside0.mk (below_step (bel_ HB) hb); clear BK242 HB; have HO251 := n0_; have BK242 := n1_; have HB := n2_; clear n0_ n1_ n2_; (try clear hb); (try clear hb2); (try clear hk); (try clear hi); (try clear ho0); obtain ⟨Ao68, co68, eo68⟩ := Kd.R_slice HO251.out; subst eo68))
                  go_ret
                  exact ⟨by first | rfl | (simp [errW_none, errW_some] <;> rfl) | (simp [*, errW_none, errW_some] <;> rfl), by repeat (first | (with_reducible first | exact HB.out | apply below_alloc | apply pw_below_drewN | apply below_drew1 | refine below_set ?_ GE242.out) | exact HB.out)⟩

end Go.Proofs.Ytknclghaofmnhaa.PBR
