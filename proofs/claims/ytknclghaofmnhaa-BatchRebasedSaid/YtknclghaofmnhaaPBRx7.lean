-- Written by a program of this session (wip/print/myprint.sh).
import Derived.Test.YtknclghaofmnhaaPBRx0
import Derived.Test.YtknclghaofmnhaaPBRx3
import Derived.Test.YtknclghaofmnhaaPBRx4
import Derived.Test.YtknclghaofmnhaaPBRx6
namespace Go.Proofs.Ytknclghaofmnhaa.PBR
open Go.RowKit Go.Proofs.YtknclghaofmnhaaV.PrintWords Go.Proofs.YtknclghaofmnhaaV.PrintLast Go.Proofs.YtknclghaofmnhaaV.PrintMore
attribute [local go_sem] max2_int min2_int max_two min_two max_three min_three max_four min_four   -- for this text's walks alone
set_option linter.unusedVariables false
set_option linter.unusedSimpArgs false

/-! ### batch_Bytes: function 49 -/
def batch_Bytes.f (k : Nat) (a0_0 : Int) (a0_1 : Int) (a0_2 : Int) (a0_3 : Int) (a0_4 : Bool) (a0_5 : Int) (l0_6 : List (S71)) : Option (List Int × Int) := (batch_Right.f k a0_0 a0_1 a0_2 a0_3 a0_4 a0_5 l0_6).bind fun t253 => (if t253 = 0 then ((batch_bytes.f k a0_0 a0_1 a0_2 a0_3 a0_4 a0_5 l0_6).bind fun t254 => (some (t254, 0))) else (some (([] : List Int), t253)))
theorem batch_Bytes.mono : ∀ a0 a1 a2 a3 a4 a5 a6 k, LeO (batch_Bytes.f k a0 a1 a2 a3 a4 a5 a6) (batch_Bytes.f (k + 1) a0 a1 a2 a3 a4 a5 a6) := by
  intro a0 a1 a2 a3 a4 a5 a6 k
  unfold batch_Bytes.f
  repeat' first
      | (with_reducible exact batch_Right.mono _ _ _ _ _ _ _ _)
      | (with_reducible exact batch_bytes.mono _ _ _ _ _ _ _ _)
      | (with_reducible exact LeO.refl _)
      | (with_reducible exact LeO.none _)
      | (with_reducible refine LeO.ite ?_ ?_)
      | (with_reducible refine LeO.bind ?_ (fun _ => ?_))
      | exact batch_Right.mono _ _ _ _ _ _ _ _
      | exact batch_bytes.mono _ _ _ _ _ _ _ _
      | exact LeO.none _
      | refine LeO.ite ?_ ?_
      | refine LeO.bind ?_ (fun _ => ?_)
set_option maxHeartbeats 8000000 in
set_option maxRecDepth 100000 in
theorem batch_Bytes.calls (k : Nat) (a0_0 : Int) (a0_1 : Int) (a0_2 : Int) (a0_3 : Int) (a0_4 : Bool) (a0_5 : Int) (A0_6 : Option Addr) (c0_6 : Nat) (l0_6 : List (S71)) (r1 : List Int) (r2 : Int) (w : World) (hr0_6 : Kd.C k71 w A0_6 l0_6.length l0_6) (hc0_6 : l0_6.length ≤ c0_6) (h : batch_Bytes.f k a0_0 a0_1 a0_2 a0_3 a0_4 a0_5 l0_6 = some (r1, r2)) :
    Calls Try.prog 49 #[.agg #[.int .i64 a0_0, .int .i64 a0_1, .int .i64 a0_2, .int .i64 a0_3, .bool a0_4, .int .i64 a0_5, .slice A0_6 l0_6.length c0_6]] w fun e w' => ∃ v0_ : Value, e = .returned (.tuple #[v0_, .int .i64 r2]) ∧ Kd.R (Kd.int .u8) 5 w' w.heap.size (fun _ => True) v0_ r1 ∧ Below w.heap.size w w' := by
  have hu56 := Try.underlying56
  have HR0_6 := Aside0.mk hr0_6
  have HC0_6 := Aside0.mk hc0_6
  clear hr0_6 hc0_6
  have HB := Aside0.mk (Below.refl w.heap.size w)
  have H : ((batch_Right.f k a0_0 a0_1 a0_2 a0_3 a0_4 a0_5 l0_6).bind fun t253 => (if t253 = 0 then ((batch_bytes.f k a0_0 a0_1 a0_2 a0_3 a0_4 a0_5 l0_6).bind fun t254 => (some (t254, 0))) else (some (([] : List Int), t253)))) = some (r1, r2) := h
  clear h
  replace H := Option.bind_eq_some_iff.mp H
  obtain ⟨t253, A20, H⟩ := H
  replace H : (if t253 = 0 then ((batch_bytes.f k a0_0 a0_1 a0_2 a0_3 a0_4 a0_5 l0_6).bind fun t254 => (some (t254, 0))) else (some (([] : List Int), t253))) = some (r1, r2) := H
  have A2 := Aside0.mk A20
  clear A20
  by_cases c3 : t253 = 0
  · rw [if_pos c3] at H
    have c3b0 : (t253 == 0) = true := beq_iff_eq.mpr c3
    have c3b1 : (t253 != 0) = false := bne_eq_false_iff_eq.mpr c3
    clear c3
    replace H := Option.bind_eq_some_iff.mp H
    obtain ⟨t254, A40, H⟩ := H
    replace H : (some (t254, 0)) = some (r1, r2) := H
    have A4 := Aside0.mk A40
    clear A40
    simp only [Option.some.injEq, Prod.mk.injEq] at H
    obtain ⟨rfl, rfl⟩ := H
    go_enter Try.func49, Try.ntmps49
    go_wp2_with (first | ((with_reducible refine gate_dst (N := 1) rfl ?_); refine box_event ?hg (N := 1) ?hd (cs := #[.int .i64 a0_0, .int .i64 a0_1, .int .i64 a0_2, .int .i64 a0_3, .bool a0_4, .int .i64 a0_5, .slice A0_6 l0_6.length c0_6]) (t := 56) ?hr ?_; (case hd => rfl); (case hg => rfl); (case hr => first | (go_simp; done) | (go_simp; rfl)); intro gb252 hg w5 hbox hb; have n0_ := Aside0.mk (below_step (bel_ HB) hb); have n1_ := Aside0.mk (hbox); have n2_ := Aside0.mk ((by rw [hg]; exact (below_size (bel_ HB)) : w.heap.size ≤ gb252)); have n3_ := Aside0.mk ((by rw [hg]; exact (below_size (bel_ HB)) : w.heap.size ≤ gb252)); clear HB; have HB := n0_; have BK252 := n1_; have GW252 := n2_; have GE252 := n3_; clear n0_ n1_ n2_ n3_; clear hb hbox hg; obtain ⟨hcz6_0, hcz6_1, hcz6_2, hcz6_3, hcz6_4, hcz6_5, hcz6_6⟩ := cells7_ BK252.out; have hfz6_ := blk_frozen BK252.out) | ((with_reducible refine gate_callee (f := 86) rfl ?_); refine goesL_ (some 6) rfl rfl Try.func86 (by kernel_rfl) rfl #[.agg #[.int .i64 a0_0, .int .i64 a0_1, .int .i64 a0_2, .int .i64 a0_3, .bool a0_4, .int .i64 a0_5, .slice A0_6 l0_6.length c0_6]] rfl (by (try simp only [List.map_toArray, List.map_cons, List.map_nil]); first | done | rfl | (simp only [List.length_drop, List.length_take]; rfl)) ?_; (with_reducible refine (batch_Right.calls k a0_0 a0_1 a0_2 a0_3 a0_4 a0_5 _ _ l0_6 t253 _ ?side1 ?side2 A2.out).mono ?_); (case side1 => exact cgo_ ((Kd.C_below HR0_6.out HB.out))); (case side2 => exact HC0_6.out); rintro e w7 ⟨rfl, hb⟩; refine ⟨_, rfl, ?_⟩; have n0_ := Aside0.mk (blk_below (g := gb252) (o := .cells #[.int .i64 a0_0, .int .i64 a0_1, .int .i64 a0_2, .int .i64 a0_3, .bool a0_4, .int .i64 a0_5, .slice A0_6 l0_6.length c0_6] 56 (0, 0)) (blk_ BK252) hb); have n1_ := Aside0.mk (below_step (bel_ HB) hb); clear BK252 HB; have BK252 := n0_; have HB := n1_; clear n0_ n1_; (try clear hb); (try clear hb2); (try clear hk); (try clear hi); obtain ⟨hcz8_0, hcz8_1, hcz8_2, hcz8_3, hcz8_4, hcz8_5, hcz8_6⟩ := cells7_ BK252.out; have hfz8_ := blk_frozen BK252.out) | ((with_reducible refine gate_callee (f := 94) rfl ?_); refine goesL_ (some 11) rfl rfl Try.func94 (by kernel_rfl) rfl #[.agg #[.int .i64 a0_0, .int .i64 a0_1, .int .i64 a0_2, .int .i64 a0_3, .bool a0_4, .int .i64 a0_5, .slice A0_6 l0_6.length c0_6]] rfl (by (try simp only [List.map_toArray, List.map_cons, List.map_nil]); first | done | rfl | (simp only [List.length_drop, List.length_take]; rfl)) ?_; (with_reducible refine (batch_bytes.calls k a0_0 a0_1 a0_2 a0_3 a0_4 a0_5 _ _ l0_6 t254 _ ?side1 ?side2 A4.out).mono ?_); (case side1 => exact cgo_ ((Kd.C_below HR0_6.out HB.out))); (case side2 => exact HC0_6.out); rintro e w9 ⟨v255, rfl, ho0, hb⟩; refine ⟨_, rfl, ?_⟩; have n0_ := Aside0.mk (Kd.R_lower ho0 (below_size (bel_ HB))); have n1_ := Aside0.mk (blk_below (g := gb252) (o := .cells #[.int .i64 a0_0, .int .i64 a0_1, .int .i64 a0_2, .int .i64 a0_3, .bool a0_4, .int .i64 a0_5, .slice A0_6 l0_6.length c0_6] 56 (0, 0)) (blk_ BK252) hb); have n2_ := Aside0.mk (below_step (bel_ HB) hb); clear BK252 HB; have HO256 := n0_; have BK252 := n1_; have HB := n2_; clear n0_ n1_ n2_; (try clear hb); (try clear hb2); (try clear hk); (try clear hi); (try clear ho0)))
    go_ret2
    exact ⟨_, by first | rfl | (simp [errW_none, errW_some] <;> rfl) | (simp [*, errW_none, errW_some] <;> rfl), by (with_reducible repeat (first | apply Kd.R_alloc | apply Kd.R_drewN | apply Kd.R_drew)); exact HO256.out, by repeat (first | (with_reducible first | exact HB.out | apply below_alloc | apply pw_below_drewN | apply below_drew1 | refine below_set ?_ GE252.out) | exact HB.out)⟩
  · rw [if_neg c3] at H
    have c3b0 : (t253 == 0) = false := beq_eq_false_iff_ne.mpr c3
    have c3b1 : (t253 != 0) = true := bne_iff_ne.mpr c3
    simp only [Option.some.injEq, Prod.mk.injEq] at H
    obtain ⟨rfl, rfl⟩ := H
    go_enter Try.func49, Try.ntmps49
    go_wp2_with (first | ((with_reducible refine gate_dst (N := 1) rfl ?_); refine box_event ?hg (N := 1) ?hd (cs := #[.int .i64 a0_0, .int .i64 a0_1, .int .i64 a0_2, .int .i64 a0_3, .bool a0_4, .int .i64 a0_5, .slice A0_6 l0_6.length c0_6]) (t := 56) ?hr ?_; (case hd => rfl); (case hg => rfl); (case hr => first | (go_simp; done) | (go_simp; rfl)); intro gb252 hg w10 hbox hb; have n0_ := Aside0.mk (below_step (bel_ HB) hb); have n1_ := Aside0.mk (hbox); have n2_ := Aside0.mk ((by rw [hg]; exact (below_size (bel_ HB)) : w.heap.size ≤ gb252)); have n3_ := Aside0.mk ((by rw [hg]; exact (below_size (bel_ HB)) : w.heap.size ≤ gb252)); clear HB; have HB := n0_; have BK252 := n1_; have GW252 := n2_; have GE252 := n3_; clear n0_ n1_ n2_ n3_; clear hb hbox hg; obtain ⟨hcz11_0, hcz11_1, hcz11_2, hcz11_3, hcz11_4, hcz11_5, hcz11_6⟩ := cells7_ BK252.out; have hfz11_ := blk_frozen BK252.out) | ((with_reducible refine gate_callee (f := 86) rfl ?_); refine goesL_ (some 6) rfl rfl Try.func86 (by kernel_rfl) rfl #[.agg #[.int .i64 a0_0, .int .i64 a0_1, .int .i64 a0_2, .int .i64 a0_3, .bool a0_4, .int .i64 a0_5, .slice A0_6 l0_6.length c0_6]] rfl (by (try simp only [List.map_toArray, List.map_cons, List.map_nil]); first | done | rfl | (simp only [List.length_drop, List.length_take]; rfl)) ?_; (with_reducible refine (batch_Right.calls k a0_0 a0_1 a0_2 a0_3 a0_4 a0_5 _ _ l0_6 t253 _ ?side1 ?side2 A2.out).mono ?_); (case side1 => exact cgo_ ((Kd.C_below HR0_6.out HB.out))); (case side2 => exact HC0_6.out); rintro e w12 ⟨rfl, hb⟩; refine ⟨_, rfl, ?_⟩; have n0_ := Aside0.mk (blk_below (g := gb252) (o := .cells #[.int .i64 a0_0, .int .i64 a0_1, .int .i64 a0_2, .int .i64 a0_3, .bool a0_4, .int .i64 a0_5, .slice A0_6 l0_6.length c0_6] 56 (0, 0)) (blk_ BK252) hb); have n1_ := Aside0.mk (below_step (bel_ HB) hb); clear BK252 HB; have BK252 := n0_; have HB := n1_; clear n0_ n1_; (try clear hb); (try clear hb2); (try clear hk); (try clear hi)))
    go_ret2
    exact ⟨_, by first | rfl | (simp [errW_none, errW_some] <;> rfl) | (simp [*, errW_none, errW_some] <;> rfl), by first | exact Kd.R_nil _ _ _ _ _ | exact Kd.N_nil _ _ _ _ _ | exact Kd.V_nil _ _ _ _ _ | exact Kd.Q_nil _ _ _ _ _ | exact Kd.S_nil _ _ _ _ _, by repeat (first | (with_reducible first | exact HB.out | apply below_alloc | apply pw_below_drewN | apply below_drew1 | refine below_set ?_ GE252.out) | exact HB.out)⟩

/-! ### varint_Back: function 63 -/
def varint_Back.l0 : Nat → Int → List Int → Int → Int → Option (Int × Bool)
  | 0, _, _, _, _ => none
  | k + 1, x4, x11, x12, x13 => if x13 < x12 then (if 0 ≤ x13 then (if x13 < (x11.length : Int) then (varint_Back.l0 k (Go.bits .or .u64 (IntKind.u64.wrap (x4 * 256)) (IntKind.u64.wrap (rd x11 x13))) x11 x12 (wrap64 (x13 + 1))) else (none)) else (none)) else (some (wrap64 (x4), true))
def varint_Back.f (k : Nat) (l0 : List Int) : Option (Int × Bool) := if (l0.length : Int) < 8 then (some (0, false)) else (if 8 ≤ (l0.length : Int) then ((some (l0.take 8 : List Int)).bind fun y257 => (varint_Back.l0 k 0 y257 (y257.length : Int) 0)) else (none))
theorem varint_Back.mono_l : ∀ k, (∀ y0 y1 y2 y3, LeO (varint_Back.l0 k y0 y1 y2 y3) (varint_Back.l0 (k + 1) y0 y1 y2 y3))
  | 0 => fun _ _ _ _ r h => by simp [varint_Back.l0] at h
  | k + 1 => by
    have ih0 := varint_Back.mono_l k
    · intro y0 y1 y2 y3
      unfold varint_Back.l0
      repeat' first
      | (with_reducible exact ih0 _ _ _ _)
      | (with_reducible exact LeO.refl _)
      | (with_reducible exact LeO.none _)
      | (with_reducible refine LeO.ite ?_ ?_)
      | (with_reducible refine LeO.bind ?_ (fun _ => ?_))
      | exact ih0 _ _ _ _
      | exact LeO.none _
      | refine LeO.ite ?_ ?_
      | refine LeO.bind ?_ (fun _ => ?_)
theorem varint_Back.mono : ∀ a0 k, LeO (varint_Back.f k a0) (varint_Back.f (k + 1) a0) := by
  intro a0 k
  have ih0 := varint_Back.mono_l k
  unfold varint_Back.f
  repeat' first
      | (with_reducible exact ih0 _ _ _ _)
      | (with_reducible exact LeO.refl _)
      | (with_reducible exact LeO.none _)
      | (with_reducible refine LeO.ite ?_ ?_)
      | (with_reducible refine LeO.bind ?_ (fun _ => ?_))
      | exact ih0 _ _ _ _
      | exact LeO.none _
      | refine LeO.ite ?_ ?_
      | refine LeO.bind ?_ (fun _ => ?_)
set_option maxHeartbeats 8000000 in
set_option maxRecDepth 100000 in
theorem varint_Back.calls (k : Nat) (A0 : Option Addr) (c0 : Nat) (l0 : List Int) (r1 : Int) (r2 : Bool) (w : World) (hr0 : Kd.C (Kd.int .u8) w A0 l0.length l0) (hc0 : l0.length ≤ c0) (h : varint_Back.f k l0 = some (r1, r2)) :
    Calls Try.prog 63 #[.slice A0 l0.length c0] w fun e w' => e = .returned (.tuple #[.int .i64 r1, .bool r2]) ∧ Drawn0 w w' := by
  have HR0 := Aside0.mk hr0
  have HC0 := Aside0.mk hc0
  clear hr0 hc0
  have H : (if (l0.length : Int) < 8 then (some (0, false)) else (if 8 ≤ (l0.length : Int) then ((some (l0.take 8 : List Int)).bind fun y257 => (varint_Back.l0 k 0 y257 (y257.length : Int) 0)) else (none))) = some (r1, r2) := h
  clear h
  by_cases c2 : (l0.length : Int) < 8
  · rw [if_pos c2] at H
    have c2b0 : decide ((l0.length : Int) < 8) = true := decide_eq_true c2
    have c2b1 : decide (l0.length < 8) = true := decide_eq_true (by omega)
    clear c2
    simp only [Option.some.injEq, Prod.mk.injEq] at H
    obtain ⟨rfl, rfl⟩ := H
    go_enter Try.func63, Try.ntmps63
    go_wp2
    go_ret2
    exact ⟨by first | rfl | (simp; done) | (simp [*]; done), by repeat (first | exact Drawn0.refl _ | apply Drawn0.step)⟩
  · rw [if_neg c2] at H
    have c2b0 : decide ((l0.length : Int) < 8) = false := decide_eq_false c2
    have c2b1 : decide (l0.length < 8) = false := decide_eq_false (by omega)
    clear c2
    by_cases c3 : 8 ≤ (l0.length : Int)
    · rw [if_pos c3] at H
      have c3b0 := eq_true c3
      have c3b1 : decide (8 ≤ (l0.length : Int)) = true := decide_eq_true c3
      clear c3
      obtain ⟨y257, hy257⟩ : ∃ y_ : List Int, y_ = (l0.take 8) := ⟨_, rfl⟩
      replace H : (varint_Back.l0 k 0 y257 (y257.length : Int) 0) = some (r1, r2) := by first | (rw [hy257]; with_reducible exact H) | (have H2_ := (Option.bind_some _ _).symm.trans H; rw [hy257]; with_reducible exact H2_) | (have H2_ := (Option.bind_some _ _).symm.trans H; with_reducible exact H2_) | with_reducible exact H | (rw [hy257]; exact H) | exact H
      have Ny257 := Aside0.mk hy257
      clear hy257
      have H' := Aside0.mk H
      clear H
      have q4 : (8 : Int) ≤ ((l0.length : Int) : Int) := of_decide_eq_true (by first | (with_reducible assumption) | assumption)
      obtain ⟨i04, hi04, _, hsz4, _⟩ := info_parts info5
      have hroom4 : l0.length ≤ c0 := HC0.out
      have hC4 : Kd.C (Kd.int .u8) _ A0 l0.length l0 := HR0.out
      have hcut4 := cut_to (P := Try.prog) 34 5 .i64 Try.underlying34 hi04 A0 l0.length c0 8 (by omega) q4 hroom4
      have hr4 := Kd.C_take (m := 8) hC4 (by omega)
      have hy4 : y257.length = (8 : Int).toNat := (by rw [Ny257.out, List.length_take]; omega)
      rw [← Ny257.out] at hr4
      rw [← hy4] at hcut4
      have HR260 := Aside0.mk hr4
      have HC260 := Aside0.mk (show y257.length ≤ c0 from by omega)
      clear hr4 hC4 hroom4 hi04 hsz4
      have KY4 := Aside0.mk hy4
      clear hy4
      replace q4 := eq_true q4
      go_enter Try.func63, Try.ntmps63
      go_wp2
      go_loopg [4, 13] k (fun kq v4 v13 w' => ∃ (x4_1 : Int) (x13_1 : Int), v4 = .int .u64 x4_1 ∧ v13 = .int .i64 x13_1 ∧ Aside0 (varint_Back.l0 kq x4_1 y257 (y257.length : Int) x13_1 = some (r1, r2)) ∧ Aside0 (kq ≤ k) ∧ Drawn0 w w')
      case atStart => exact ⟨(0), (0), (by first | rfl | (simp; done) | (simp [*]; done)), (by first | rfl | (simp; done) | (simp [*]; done)), H', ⟨Nat.le_refl _⟩, by repeat (first | exact Drawn0.refl _ | apply Drawn0.step)⟩
      case round =>
        clear H'
        try clear c2
        try clear c2b0
        try clear c2b1
        try clear p2
        try clear c3
        try clear c3b0
        try clear c3b1
        try clear q4
        try clear q4
        obtain ⟨x4_1, x13_1, rfl, rfl, HA, HK1, ⟨m1, rfl⟩⟩ := hrel
        cases gk with
        | zero => exact absurd HA.out (by simp [varint_Back.l0])
        | succ k1 =>
          have H := HA.out
          clear HA
          simp only [varint_Back.l0] at H
          by_cases c5 : x13_1 < (y257.length : Int)
          · rw [if_pos c5] at H
            have c5b0 : decide (x13_1 < (y257.length : Int)) = true := decide_eq_true c5
            clear c5
            by_cases c6 : 0 ≤ x13_1
            · rw [if_pos c6] at H
              have c6b0 : decide (0 ≤ x13_1) = true := decide_eq_true c6
              clear c6
              by_cases c7 : x13_1 < (y257.length : Int)
              · rw [if_pos c7] at H
                have c7b0 : decide (x13_1 < (y257.length : Int)) = true := decide_eq_true c7
                clear c7
                have H' := Aside0.mk H
                clear H
                have p261 : 0 ≤ (x13_1 : Int) := of_decide_eq_true (by first | (with_reducible assumption) | assumption)
                have q261 : x13_1 < (y257.length : Int) := of_decide_eq_true (by first | (with_reducible assumption) | assumption)
                obtain ⟨ad261, e261, hx261_0⟩ := Kd.at_int HR260.out x13_1 p261 q261
                cases e261
                replace p261 := eq_true p261
                replace q261 := eq_true q261
                go_wp2
                go_roundg k1
                case measure => have := HK1.out; omega
                case rel => exact ⟨(Go.bits .or .u64 (IntKind.u64.wrap (x4_1 * 256)) (IntKind.u64.wrap (rd y257 x13_1))), (wrap64 (x13_1 + 1)), (by first | rfl | (simp; done) | (simp [*]; done)), (by first | rfl | (simp; done) | (simp [*]; done)), H', ⟨by have := HK1.out; omega⟩, by repeat (first | exact Drawn0.refl _ | apply Drawn0.step)⟩
              · rw [if_neg c7] at H
                exact absurd H (by simp)
            · rw [if_neg c6] at H
              exact absurd H (by simp)
          · rw [if_neg c5] at H
            have c5b0 : decide (x13_1 < (y257.length : Int)) = false := decide_eq_false c5
            clear c5
            simp only [Option.some.injEq, Prod.mk.injEq] at H
            obtain ⟨rfl, rfl⟩ := H
            go_wp2
            go_ret2
            exact ⟨by first | rfl | (simp; done) | (simp [*]; done), by repeat (first | exact Drawn0.refl _ | apply Drawn0.step)⟩
    · rw [if_neg c3] at H
      exact absurd H (by simp)

/-! ### batch_long: function 95 -/
def batch_long.l0 : Nat → Int → List Int → Int → Int → Option (Int)
  | 0, _, _, _, _ => none
  | k + 1, x3, x10, x11, x12 => if x12 < x11 then (if 0 ≤ x12 then (if x12 < (x10.length : Int) then (batch_long.l0 k (Go.bits .or .i64 (wrap64 (x3 * 256)) (wrap64 (rd x10 x12))) x10 x11 (wrap64 (x12 + 1))) else (none)) else (none)) else (some (wrap64 (12 + x3)))
def batch_long.f (k : Nat) (l0 : List Int) : Option (Int) := if (l0.length : Int) < 12 then (some 0) else (if 8 ≤ 12 then (if 12 ≤ (l0.length : Int) then ((some ((l0.take 12).drop 8 : List Int)).bind fun y262 => (batch_long.l0 k 0 y262 (y262.length : Int) 0)) else (none)) else (none))
theorem batch_long.mono_l : ∀ k, (∀ y0 y1 y2 y3, LeO (batch_long.l0 k y0 y1 y2 y3) (batch_long.l0 (k + 1) y0 y1 y2 y3))
  | 0 => fun _ _ _ _ r h => by simp [batch_long.l0] at h
  | k + 1 => by
    have ih0 := batch_long.mono_l k
    · intro y0 y1 y2 y3
      unfold batch_long.l0
      repeat' first
      | (with_reducible exact ih0 _ _ _ _)
      | (with_reducible exact LeO.refl _)
      | (with_reducible exact LeO.none _)
      | (with_reducible refine LeO.ite ?_ ?_)
      | (with_reducible refine LeO.bind ?_ (fun _ => ?_))
      | exact ih0 _ _ _ _
      | exact LeO.none _
      | refine LeO.ite ?_ ?_
      | refine LeO.bind ?_ (fun _ => ?_)
theorem batch_long.mono : ∀ a0 k, LeO (batch_long.f k a0) (batch_long.f (k + 1) a0) := by
  intro a0 k
  have ih0 := batch_long.mono_l k
  unfold batch_long.f
  repeat' first
      | (with_reducible exact ih0 _ _ _ _)
      | (with_reducible exact LeO.refl _)
      | (with_reducible exact LeO.none _)
      | (with_reducible refine LeO.ite ?_ ?_)
      | (with_reducible refine LeO.bind ?_ (fun _ => ?_))
      | exact ih0 _ _ _ _
      | exact LeO.none _
      | refine LeO.ite ?_ ?_
      | refine LeO.bind ?_ (fun _ => ?_)
set_option maxHeartbeats 8000000 in
set_option maxRecDepth 100000 in
theorem batch_long.calls (k : Nat) (A0 : Option Addr) (c0 : Nat) (l0 : List Int) (r : Int) (w : World) (hr0 : Kd.C (Kd.int .u8) w A0 l0.length l0) (hc0 : l0.length ≤ c0) (h : batch_long.f k l0 = some r) :
    Calls Try.prog 95 #[.slice A0 l0.length c0] w fun e w' => e = .returned (.int .i64 r) ∧ Drawn0 w w' := by
  have HR0 := Aside0.mk hr0
  have HC0 := Aside0.mk hc0
  clear hr0 hc0
  have H : (if (l0.length : Int) < 12 then (some 0) else (if 8 ≤ 12 then (if 12 ≤ (l0.length : Int) then ((some ((l0.take 12).drop 8 : List Int)).bind fun y262 => (batch_long.l0 k 0 y262 (y262.length : Int) 0)) else (none)) else (none))) = some r := h
  clear h
  by_cases c2 : (l0.length : Int) < 12
  · rw [if_pos c2] at H
    have c2b0 : decide ((l0.length : Int) < 12) = true := decide_eq_true c2
    have c2b1 : decide (l0.length < 12) = true := decide_eq_true (by omega)
    clear c2
    obtain rfl := Option.some.inj H
    go_enter Try.func95, Try.ntmps95
    go_wp2
    go_ret
    exact ⟨by first | rfl | (simp; done) | (simp [*]; done), by repeat (first | exact Drawn0.refl _ | apply Drawn0.step)⟩
  · rw [if_neg c2] at H
    have c2b0 : decide ((l0.length : Int) < 12) = false := decide_eq_false c2
    have c2b1 : decide (l0.length < 12) = false := decide_eq_false (by omega)
    clear c2
    by_cases c3 : 8 ≤ 12
    · rw [if_pos c3] at H
      have c3b0 := eq_true c3
      have c3b1 : decide (8 ≤ 12) = true := decide_eq_true c3
      clear c3
      by_cases c4 : 12 ≤ (l0.length : Int)
      · rw [if_pos c4] at H
        have c4b0 := eq_true c4
        have c4b1 : decide (12 ≤ (l0.length : Int)) = true := decide_eq_true c4
        clear c4
        obtain ⟨y262, hy262⟩ : ∃ y_ : List Int, y_ = ((l0.take 12).drop 8) := ⟨_, rfl⟩
        replace H : (batch_long.l0 k 0 y262 (y262.length : Int) 0) = some r := by first | (rw [hy262]; with_reducible exact H) | (have H2_ := (Option.bind_some _ _).symm.trans H; rw [hy262]; with_reducible exact H2_) | (have H2_ := (Option.bind_some _ _).symm.trans H; with_reducible exact H2_) | with_reducible exact H | (rw [hy262]; exact H) | exact H
        have Ny262 := Aside0.mk hy262
        clear hy262
        have H' := Aside0.mk H
        clear H
        have q5 : (12 : Int) ≤ ((l0.length : Int) : Int) := of_decide_eq_true (by first | (with_reducible assumption) | assumption)
        obtain ⟨i05, hi05, _, hsz5, _⟩ := info_parts info5
        have hroom5 : l0.length ≤ c0 := HC0.out
        have hC5 : Kd.C (Kd.int .u8) _ A0 l0.length l0 := HR0.out
        have ql5 : (8 : Int) ≤ (12 : Int) := (by omega)
        have hcut5 := cut_mid (P := Try.prog) 34 5 .i64 .i64 Try.underlying34 hi05 1 hsz5 A0 l0.length c0 8 12 (by omega) ql5 q5 hroom5
        have hr5 := Kd.C_mid (lo := (8 : Int).toNat) (hi := (12 : Int).toNat) (c := c0) hC5 (by omega) (by omega) hroom5
        obtain ⟨A5, hA5⟩ : ∃ A1, A1 = (if c0 = (8 : Int).toNat then A0 else (A0 : Option Addr).map (·.add ((8 : Int).toNat * 1))) := ⟨_, rfl⟩
        obtain ⟨c5, hc5⟩ : ∃ c1, c1 = c0 - (8 : Int).toNat := ⟨_, rfl⟩
        have hy5 : y262.length = (12 : Int).toNat - (8 : Int).toNat := (by rw [Ny262.out, List.length_drop, List.length_take] <;> omega)
        rw [show ((l0).take (12 : Int).toNat).drop (8 : Int).toNat = y262 from Ny262.out.symm] at hr5
        replace hr5 : Kd.C (Kd.int .u8) _ A5 y262.length y262 := (by rw [hA5]; exact hr5)
        rw [← hy5, ← hA5, ← hc5] at hcut5
        have HR265 := Aside0.mk hr5
        have HC265 := Aside0.mk (show y262.length ≤ c5 from by rw [hy5, hc5]; exact Nat.sub_le_sub_right (Nat.le_trans (by omega) hroom5) _)
        clear hr5 hC5 hroom5 hi05 hsz5 hc5
        have KY5 := Aside0.mk hy5
        have KA5 := Aside0.mk hA5
        clear hy5 hA5
        replace q5 := eq_true q5
        go_enter Try.func95, Try.ntmps95
        go_wp2
        go_loopg [3, 12] k (fun kq v3 v12 w' => ∃ (x3_1 : Int) (x12_1 : Int), v3 = .int .i64 x3_1 ∧ v12 = .int .i64 x12_1 ∧ Aside0 (batch_long.l0 kq x3_1 y262 (y262.length : Int) x12_1 = some r) ∧ Aside0 (kq ≤ k) ∧ Drawn0 w w')
        case atStart => exact ⟨(0), (0), (by first | rfl | (simp; done) | (simp [*]; done)), (by first | rfl | (simp; done) | (simp [*]; done)), H', ⟨Nat.le_refl _⟩, by repeat (first | exact Drawn0.refl _ | apply Drawn0.step)⟩
        case round =>
          clear H'
          try clear c1
          try clear c2
          try clear c2b0
          try clear c2b1
          try clear p2
          try clear c3
          try clear c3b0
          try clear c3b1
          try clear c4
          try clear c4b0
          try clear c4b1
          try clear c5
          try clear q5
          try clear q5
          obtain ⟨x3_1, x12_1, rfl, rfl, HA, HK1, ⟨m1, rfl⟩⟩ := hrel
          cases gk with
          | zero => exact absurd HA.out (by simp [batch_long.l0])
          | succ k1 =>
            have H := HA.out
            clear HA
            simp only [batch_long.l0] at H
            by_cases c6 : x12_1 < (y262.length : Int)
            · rw [if_pos c6] at H
              have c6b0 : decide (x12_1 < (y262.length : Int)) = true := decide_eq_true c6
              clear c6
              by_cases c7 : 0 ≤ x12_1
              · rw [if_pos c7] at H
                have c7b0 : decide (0 ≤ x12_1) = true := decide_eq_true c7
                clear c7
                by_cases c8 : x12_1 < (y262.length : Int)
                · rw [if_pos c8] at H
                  have c8b0 : decide (x12_1 < (y262.length : Int)) = true := decide_eq_true c8
                  clear c8
                  have H' := Aside0.mk H
                  clear H
                  have p266 : 0 ≤ (x12_1 : Int) := of_decide_eq_true (by first | (with_reducible assumption) | assumption)
                  have q266 : x12_1 < (y262.length : Int) := of_decide_eq_true (by first | (with_reducible assumption) | assumption)
                  obtain ⟨ad266, e266, hx266_0⟩ := Kd.at_int HR265.out x12_1 p266 q266
                  cases e266
                  replace p266 := eq_true p266
                  replace q266 := eq_true q266
                  go_wp2
                  go_roundg k1
                  case measure => have := HK1.out; omega
                  case rel => exact ⟨(Go.bits .or .i64 (wrap64 (x3_1 * 256)) (wrap64 (rd y262 x12_1))), (wrap64 (x12_1 + 1)), (by first | rfl | (simp; done) | (simp [*]; done)), (by first | rfl | (simp; done) | (simp [*]; done)), H', ⟨by have := HK1.out; omega⟩, by repeat (first | exact Drawn0.refl _ | apply Drawn0.step)⟩
                · rw [if_neg c8] at H
                  exact absurd H (by simp)
              · rw [if_neg c7] at H
                exact absurd H (by simp)
            · rw [if_neg c6] at H
              have c6b0 : decide (x12_1 < (y262.length : Int)) = false := decide_eq_false c6
              clear c6
              obtain rfl := Option.some.inj H
              go_wp2
              go_ret
              exact ⟨by first | rfl | (simp; done) | (simp [*]; done), by repeat (first | exact Drawn0.refl _ | apply Drawn0.step)⟩
      · rw [if_neg c4] at H
        exact absurd H (by simp)
    · rw [if_neg c3] at H
      exact absurd H (by simp)

/-! ### crc_Check: function 96 -/
def crc_Check.f (k : Nat) (l0 : List Int) : Option (List Int × Bool) := if (l0.length : Int) < 4 then (some (([] : List Int), false)) else (if 0 < (l0.length : Int) then (if 1 < (l0.length : Int) then (if 2 < (l0.length : Int) then (if 3 < (l0.length : Int) then (if 4 ≤ (l0.length : Int) then ((crc_Of.f k (l0.drop 4)).bind fun t272 => (if t272 = (Go.bits .or .u32 (Go.bits .or .u32 (Go.bits .or .u32 ((rd l0 0) % 4294967296) ((((rd l0 1) % 4294967296) * 256) % 4294967296)) ((((rd l0 2) % 4294967296) * 65536) % 4294967296)) ((((rd l0 3) % 4294967296) * 16777216) % 4294967296)) then ((slices_Clone_byte_byte.f (l0.drop 4)).bind fun t274 => (some (t274, true))) else (some (([] : List Int), false)))) else (none)) else (none)) else (none)) else (none)) else (none))
theorem crc_Check.mono : ∀ a0 k, LeO (crc_Check.f k a0) (crc_Check.f (k + 1) a0) := by
  intro a0 k
  unfold crc_Check.f
  repeat' first
      | (with_reducible exact crc_Of.mono _ _)
      | (with_reducible exact LeO.refl _)
      | (with_reducible exact LeO.none _)
      | (with_reducible refine LeO.ite ?_ ?_)
      | (with_reducible refine LeO.bind ?_ (fun _ => ?_))
      | exact crc_Of.mono _ _
      | exact LeO.none _
      | refine LeO.ite ?_ ?_
      | refine LeO.bind ?_ (fun _ => ?_)
set_option maxHeartbeats 8000000 in
set_option maxRecDepth 100000 in
theorem crc_Check.calls (k : Nat) (A0 : Option Addr) (c0 : Nat) (l0 : List Int) (r1 : List Int) (r2 : Bool) (w : World) (hr0 : Kd.C (Kd.int .u8) w A0 l0.length l0) (hc0 : l0.length ≤ c0) (h : crc_Check.f k l0 = some (r1, r2)) :
    Calls Try.prog 96 #[.slice A0 l0.length c0] w fun e w' => ∃ v0_ : Value, e = .returned (.tuple #[v0_, .bool r2]) ∧ Kd.R (Kd.int .u8) 5 w' w.heap.size (fun _ => True) v0_ r1 ∧ Below w.heap.size w w' := by
  have HR0 := Aside0.mk hr0
  have HC0 := Aside0.mk hc0
  clear hr0 hc0
  have HB := Aside0.mk (Below.refl w.heap.size w)
  have H : (if (l0.length : Int) < 4 then (some (([] : List Int), false)) else (if 0 < (l0.length : Int) then (if 1 < (l0.length : Int) then (if 2 < (l0.length : Int) then (if 3 < (l0.length : Int) then (if 4 ≤ (l0.length : Int) then ((crc_Of.f k (l0.drop 4)).bind fun t272 => (if t272 = (Go.bits .or .u32 (Go.bits .or .u32 (Go.bits .or .u32 ((rd l0 0) % 4294967296) ((((rd l0 1) % 4294967296) * 256) % 4294967296)) ((((rd l0 2) % 4294967296) * 65536) % 4294967296)) ((((rd l0 3) % 4294967296) * 16777216) % 4294967296)) then ((slices_Clone_byte_byte.f (l0.drop 4)).bind fun t274 => (some (t274, true))) else (some (([] : List Int), false)))) else (none)) else (none)) else (none)) else (none)) else (none))) = some (r1, r2) := h
  clear h
  by_cases c2 : (l0.length : Int) < 4
  · rw [if_pos c2] at H
    have c2b0 : decide ((l0.length : Int) < 4) = true := decide_eq_true c2
    have c2b1 : decide (l0.length < 4) = true := decide_eq_true (by omega)
    clear c2
    simp only [Option.some.injEq, Prod.mk.injEq] at H
    obtain ⟨rfl, rfl⟩ := H
    go_enter Try.func96, Try.ntmps96
    go_wp2
    repeat (go_quiet (fail); try go_wp2)
    go_ret2
    exact ⟨_, by first | rfl | (simp [errW_none, errW_some] <;> rfl) | (simp [*, errW_none, errW_some] <;> rfl), by first | exact Kd.R_nil _ _ _ _ _ | exact Kd.N_nil _ _ _ _ _ | exact Kd.V_nil _ _ _ _ _ | exact Kd.Q_nil _ _ _ _ _ | exact Kd.S_nil _ _ _ _ _, by repeat (first | (with_reducible first | exact HB.out | apply below_alloc | apply pw_below_drewN | apply below_drew1) | exact HB.out)⟩
  · rw [if_neg c2] at H
    have c2b0 : decide ((l0.length : Int) < 4) = false := decide_eq_false c2
    have c2b1 : decide (l0.length < 4) = false := decide_eq_false (by omega)
    clear c2
    by_cases c3 : 0 < (l0.length : Int)
    · rw [if_pos c3] at H
      have c3b0 : decide (0 < (l0.length : Int)) = true := decide_eq_true c3
      have c3b1 : decide (0 < l0.length) = true := decide_eq_true (by omega)
      clear c3
      by_cases c4 : 1 < (l0.length : Int)
      · rw [if_pos c4] at H
        have c4b0 : decide (1 < (l0.length : Int)) = true := decide_eq_true c4
        have c4b1 : decide (1 < l0.length) = true := decide_eq_true (by omega)
        clear c4
        by_cases c5 : 2 < (l0.length : Int)
        · rw [if_pos c5] at H
          have c5b0 : decide (2 < (l0.length : Int)) = true := decide_eq_true c5
          have c5b1 : decide (2 < l0.length) = true := decide_eq_true (by omega)
          clear c5
          by_cases c6 : 3 < (l0.length : Int)
          · rw [if_pos c6] at H
            have c6b0 : decide (3 < (l0.length : Int)) = true := decide_eq_true c6
            have c6b1 : decide (3 < l0.length) = true := decide_eq_true (by omega)
            clear c6
            by_cases c7 : 4 ≤ (l0.length : Int)
            · rw [if_pos c7] at H
              have c7b0 := eq_true c7
              have c7b1 : decide (4 ≤ (l0.length : Int)) = true := decide_eq_true c7
              clear c7
              replace H := Option.bind_eq_some_iff.mp H
              obtain ⟨t272, A80, H⟩ := H
              replace H : (if t272 = (Go.bits .or .u32 (Go.bits .or .u32 (Go.bits .or .u32 ((rd l0 0) % 4294967296) ((((rd l0 1) % 4294967296) * 256) % 4294967296)) ((((rd l0 2) % 4294967296) * 65536) % 4294967296)) ((((rd l0 3) % 4294967296) * 16777216) % 4294967296)) then ((slices_Clone_byte_byte.f (l0.drop 4)).bind fun t274 => (some (t274, true))) else (some (([] : List Int), false))) = some (r1, r2) := H
              have A8 := Aside0.mk A80
              clear A80
              by_cases c9 : t272 = (Go.bits .or .u32 (Go.bits .or .u32 (Go.bits .or .u32 ((rd l0 0) % 4294967296) ((((rd l0 1) % 4294967296) * 256) % 4294967296)) ((((rd l0 2) % 4294967296) * 65536) % 4294967296)) ((((rd l0 3) % 4294967296) * 16777216) % 4294967296))
              · rw [if_pos c9] at H
                have c9b0 : (t272 == (Go.bits .or .u32 (Go.bits .or .u32 (Go.bits .or .u32 ((rd l0 0) % 4294967296) ((((rd l0 1) % 4294967296) * 256) % 4294967296)) ((((rd l0 2) % 4294967296) * 65536) % 4294967296)) ((((rd l0 3) % 4294967296) * 16777216) % 4294967296))) = true := beq_iff_eq.mpr c9
                have c9b1 : (t272 != (Go.bits .or .u32 (Go.bits .or .u32 (Go.bits .or .u32 ((rd l0 0) % 4294967296) ((((rd l0 1) % 4294967296) * 256) % 4294967296)) ((((rd l0 2) % 4294967296) * 65536) % 4294967296)) ((((rd l0 3) % 4294967296) * 16777216) % 4294967296))) = false := bne_eq_false_iff_eq.mpr c9
                clear c9
                replace H := Option.bind_eq_some_iff.mp H
                obtain ⟨t274, A100, H⟩ := H
                replace H : (some (t274, true)) = some (r1, r2) := H
                have A10 := Aside0.mk A100
                clear A100
                simp only [Option.some.injEq, Prod.mk.injEq] at H
                obtain ⟨rfl, rfl⟩ := H
                have p267 : 0 ≤ (0 : Int) := (by omega)
                have q267 : 0 < (l0.length : Int) := of_decide_eq_true (by first | (with_reducible assumption) | assumption)
                obtain ⟨ad267, e267, hx267_0⟩ := Kd.at_int HR0.out 0 p267 q267
                cases e267
                have qi267 : (0 < l0.length) = True := eq_true (by omega)
                (try rw [show ((0 : Int)).toNat = 0 from rfl] at hx267_0)
                (try rw [Addr.add_zero'] at hx267_0)
                replace p267 := eq_true p267
                replace q267 := eq_true q267
                have p268 : 0 ≤ (1 : Int) := (by omega)
                have q268 : 1 < (l0.length : Int) := of_decide_eq_true (by first | (with_reducible assumption) | assumption)
                obtain ⟨ad268, e268, hx268_0⟩ := Kd.at_int HR0.out 1 p268 q268
                obtain rfl : ad267 = ad268 := (by injection e268)
                (try simp only [show (1 : Int).toNat = 1 from rfl, Nat.reduceMul, Nat.reduceEqDiff, Go.Addr.add, ↓reduceIte] at hx268_0)
                have qi268 : (1 < l0.length) = True := eq_true (by omega)
                (try rw [show ((1 : Int)).toNat = 1 from rfl] at hx268_0)
                replace p268 := eq_true p268
                replace q268 := eq_true q268
                have p269 : 0 ≤ (2 : Int) := (by omega)
                have q269 : 2 < (l0.length : Int) := of_decide_eq_true (by first | (with_reducible assumption) | assumption)
                obtain ⟨ad269, e269, hx269_0⟩ := Kd.at_int HR0.out 2 p269 q269
                obtain rfl : ad267 = ad269 := (by injection e269)
                (try simp only [show (2 : Int).toNat = 2 from rfl, Nat.reduceMul, Nat.reduceEqDiff, Go.Addr.add, ↓reduceIte] at hx269_0)
                have qi269 : (2 < l0.length) = True := eq_true (by omega)
                (try rw [show ((2 : Int)).toNat = 2 from rfl] at hx269_0)
                replace p269 := eq_true p269
                replace q269 := eq_true q269
                have p270 : 0 ≤ (3 : Int) := (by omega)
                have q270 : 3 < (l0.length : Int) := of_decide_eq_true (by first | (with_reducible assumption) | assumption)
                obtain ⟨ad270, e270, hx270_0⟩ := Kd.at_int HR0.out 3 p270 q270
                obtain rfl : ad267 = ad270 := (by injection e270)
                (try simp only [show (3 : Int).toNat = 3 from rfl, Nat.reduceMul, Nat.reduceEqDiff, Go.Addr.add, ↓reduceIte] at hx270_0)
                have qi270 : (3 < l0.length) = True := eq_true (by omega)
                (try rw [show ((3 : Int)).toNat = 3 from rfl] at hx270_0)
                replace p270 := eq_true p270
                replace q270 := eq_true q270
                obtain ⟨i011, hi011, _, hsz11, _⟩ := info_parts info5
                obtain ⟨A11, hcut11, hA11, hC11⟩ := print_drop_of (P := Try.prog) (Value.int .u8) 0 34 5 .i64 Try.underlying34 hi011 hsz11 (some ad267) c0 l0 4 (by omega) (of_decide_eq_true (by first | (with_reducible assumption) | assumption)) HC0.out
                have HR271 := Aside0.mk (Kd.C_of_reads (h1 := fun _ => rfl) (hA11 _ (Kd.reads_of_C HR0.out)))
                have HC271 := Aside0.mk hC11
                clear hA11 hC11 hi011 hsz11
                go_enter Try.func96, Try.ntmps96
                go_wp2_with (first | (go_at_call 124; refine calls_of_args (args' := #[.slice A11 (l0.drop 4).length (c0 - 4)]) (by first | (rw [show (l0.drop 4).length = (l0.length - 4) from List.length_drop] <;> rfl) | rfl) ?_; (with_reducible refine (crc_Of.calls k _ _ (l0.drop 4) t272 _ ?side1 ?side2 A8.out).mono ?_); (case side1 => exact cgo_ (HR271.out)); (case side2 => exact HC271.out); rintro e w' ⟨rfl, ⟨nd, rfl⟩⟩; (try first | exact ⟨rfl, _, World.drewN_drewN _ _ _⟩ | exact ⟨rfl, _, Eq.trans (World.drewN_drewN _ _ _) (congrArg (World.drewN _) (Nat.add_assoc _ _ _))⟩)) | (go_at_call 99; refine calls_of_args (args' := #[.slice A11 (l0.drop 4).length (c0 - 4)]) (by first | (rw [show (l0.drop 4).length = (l0.length - 4) from List.length_drop] <;> rfl) | rfl) ?_; (with_reducible refine (slices_Clone_byte_byte.calls _ _ (l0.drop 4) t274 _ ?side1 ?side2 A10.out).mono ?_); (case side1 => exact cgo_ (HR271.out)); (case side2 => exact HC271.out); rintro e w12 ⟨v275, rfl, ho0, hb⟩; have n0_ := Aside0.mk (Kd.R_lower ho0 (below_size (bel_ HB))); have n1_ := Aside0.mk (below_step (bel_ HB) hb); clear HB; have HO276 := n0_; have HB := n1_; clear n0_ n1_; (try clear hb); (try clear hb2); (try clear hk); (try clear hi); (try clear ho0)))
                repeat (go_quiet (first | (go_at_call 124; refine calls_of_args (args' := #[.slice A11 (l0.drop 4).length (c0 - 4)]) (by first | (rw [show (l0.drop 4).length = (l0.length - 4) from List.length_drop] <;> rfl) | rfl) ?_; (with_reducible refine (crc_Of.calls k _ _ (l0.drop 4) t272 _ ?side1 ?side2 A8.out).mono ?_); (case side1 => exact cgo_ (HR271.out)); (case side2 => exact HC271.out); rintro e w' ⟨rfl, ⟨nd, rfl⟩⟩; (try first | exact ⟨rfl, _, World.drewN_drewN _ _ _⟩ | exact ⟨rfl, _, Eq.trans (World.drewN_drewN _ _ _) (congrArg (World.drewN _) (Nat.add_assoc _ _ _))⟩)) | (go_at_call 99; refine calls_of_args (args' := #[.slice A11 (l0.drop 4).length (c0 - 4)]) (by first | (rw [show (l0.drop 4).length = (l0.length - 4) from List.length_drop] <;> rfl) | rfl) ?_; (with_reducible refine (slices_Clone_byte_byte.calls _ _ (l0.drop 4) t274 _ ?side1 ?side2 A10.out).mono ?_); (case side1 => exact cgo_ (HR271.out)); (case side2 => exact HC271.out); rintro e w12 ⟨v275, rfl, ho0, hb⟩; have n0_ := Aside0.mk (Kd.R_lower ho0 (below_size (bel_ HB))); have n1_ := Aside0.mk (below_step (bel_ HB) hb); clear HB; have HO276 := n0_; have HB := n1_; clear n0_ n1_; (try clear hb); (try clear hb2); (try clear hk); (try clear hi); (try clear ho0))); try go_wp2_with (first | (go_at_call 124; refine calls_of_args (args' := #[.slice A11 (l0.drop 4).length (c0 - 4)]) (by first | (rw [show (l0.drop 4).length = (l0.length - 4) from List.length_drop] <;> rfl) | rfl) ?_; (with_reducible refine (crc_Of.calls k _ _ (l0.drop 4) t272 _ ?side1 ?side2 A8.out).mono ?_); (case side1 => exact cgo_ (HR271.out)); (case side2 => exact HC271.out); rintro e w' ⟨rfl, ⟨nd, rfl⟩⟩; (try first | exact ⟨rfl, _, World.drewN_drewN _ _ _⟩ | exact ⟨rfl, _, Eq.trans (World.drewN_drewN _ _ _) (congrArg (World.drewN _) (Nat.add_assoc _ _ _))⟩)) | (go_at_call 99; refine calls_of_args (args' := #[.slice A11 (l0.drop 4).length (c0 - 4)]) (by first | (rw [show (l0.drop 4).length = (l0.length - 4) from List.length_drop] <;> rfl) | rfl) ?_; (with_reducible refine (slices_Clone_byte_byte.calls _ _ (l0.drop 4) t274 _ ?side1 ?side2 A10.out).mono ?_); (case side1 => exact cgo_ (HR271.out)); (case side2 => exact HC271.out); rintro e w12 ⟨v275, rfl, ho0, hb⟩; have n0_ := Aside0.mk (Kd.R_lower ho0 (below_size (bel_ HB))); have n1_ := Aside0.mk (below_step (bel_ HB) hb); clear HB; have HO276 := n0_; have HB := n1_; clear n0_ n1_; (try clear hb); (try clear hb2); (try clear hk); (try clear hi); (try clear ho0))))
                go_ret2
                exact ⟨_, by first | rfl | (simp [errW_none, errW_some] <;> rfl) | (simp [*, errW_none, errW_some] <;> rfl), by (with_reducible repeat (first | apply Kd.R_alloc | apply Kd.R_drewN | apply Kd.R_drew)); exact HO276.out, by repeat (first | (with_reducible first | exact HB.out | apply below_alloc | apply pw_below_drewN | apply below_drew1) | exact HB.out)⟩
              · rw [if_neg c9] at H
                have c9b0 : (t272 == (Go.bits .or .u32 (Go.bits .or .u32 (Go.bits .or .u32 ((rd l0 0) % 4294967296) ((((rd l0 1) % 4294967296) * 256) % 4294967296)) ((((rd l0 2) % 4294967296) * 65536) % 4294967296)) ((((rd l0 3) % 4294967296) * 16777216) % 4294967296))) = false := beq_eq_false_iff_ne.mpr c9
                have c9b1 : (t272 != (Go.bits .or .u32 (Go.bits .or .u32 (Go.bits .or .u32 ((rd l0 0) % 4294967296) ((((rd l0 1) % 4294967296) * 256) % 4294967296)) ((((rd l0 2) % 4294967296) * 65536) % 4294967296)) ((((rd l0 3) % 4294967296) * 16777216) % 4294967296))) = true := bne_iff_ne.mpr c9
                simp only [Option.some.injEq, Prod.mk.injEq] at H
                obtain ⟨rfl, rfl⟩ := H
                have p267 : 0 ≤ (0 : Int) := (by omega)
                have q267 : 0 < (l0.length : Int) := of_decide_eq_true (by first | (with_reducible assumption) | assumption)
                obtain ⟨ad267, e267, hx267_0⟩ := Kd.at_int HR0.out 0 p267 q267
                cases e267
                have qi267 : (0 < l0.length) = True := eq_true (by omega)
                (try rw [show ((0 : Int)).toNat = 0 from rfl] at hx267_0)
                (try rw [Addr.add_zero'] at hx267_0)
                replace p267 := eq_true p267
                replace q267 := eq_true q267
                have p268 : 0 ≤ (1 : Int) := (by omega)
                have q268 : 1 < (l0.length : Int) := of_decide_eq_true (by first | (with_reducible assumption) | assumption)
                obtain ⟨ad268, e268, hx268_0⟩ := Kd.at_int HR0.out 1 p268 q268
                obtain rfl : ad267 = ad268 := (by injection e268)
                (try simp only [show (1 : Int).toNat = 1 from rfl, Nat.reduceMul, Nat.reduceEqDiff, Go.Addr.add, ↓reduceIte] at hx268_0)
                have qi268 : (1 < l0.length) = True := eq_true (by omega)
                (try rw [show ((1 : Int)).toNat = 1 from rfl] at hx268_0)
                replace p268 := eq_true p268
                replace q268 := eq_true q268
                have p269 : 0 ≤ (2 : Int) := (by omega)
                have q269 : 2 < (l0.length : Int) := of_decide_eq_true (by first | (with_reducible assumption) | assumption)
                obtain ⟨ad269, e269, hx269_0⟩ := Kd.at_int HR0.out 2 p269 q269
                obtain rfl : ad267 = ad269 := (by injection e269)
                (try simp only [show (2 : Int).toNat = 2 from rfl, Nat.reduceMul, Nat.reduceEqDiff, Go.Addr.add, ↓reduceIte] at hx269_0)
                have qi269 : (2 < l0.length) = True := eq_true (by omega)
                (try rw [show ((2 : Int)).toNat = 2 from rfl] at hx269_0)
                replace p269 := eq_true p269
                replace q269 := eq_true q269
                have p270 : 0 ≤ (3 : Int) := (by omega)
                have q270 : 3 < (l0.length : Int) := of_decide_eq_true (by first | (with_reducible assumption) | assumption)
                obtain ⟨ad270, e270, hx270_0⟩ := Kd.at_int HR0.out 3 p270 q270
                obtain rfl : ad267 = ad270 := (by injection e270)
                (try simp only [show (3 : Int).toNat = 3 from rfl, Nat.reduceMul, Nat.reduceEqDiff, Go.Addr.add, ↓reduceIte] at hx270_0)
                have qi270 : (3 < l0.length) = True := eq_true (by omega)
                (try rw [show ((3 : Int)).toNat = 3 from rfl] at hx270_0)
                replace p270 := eq_true p270
                replace q270 := eq_true q270
                obtain ⟨i013, hi013, _, hsz13, _⟩ := info_parts info5
                obtain ⟨A13, hcut13, hA13, hC13⟩ := print_drop_of (P := Try.prog) (Value.int .u8) 0 34 5 .i64 Try.underlying34 hi013 hsz13 (some ad267) c0 l0 4 (by omega) (of_decide_eq_true (by first | (with_reducible assumption) | assumption)) HC0.out
                have HR271 := Aside0.mk (Kd.C_of_reads (h1 := fun _ => rfl) (hA13 _ (Kd.reads_of_C HR0.out)))
                have HC271 := Aside0.mk hC13
                clear hA13 hC13 hi013 hsz13
                go_enter Try.func96, Try.ntmps96
                go_wp2_with (first | (go_at_call 124; refine calls_of_args (args' := #[.slice A13 (l0.drop 4).length (c0 - 4)]) (by first | (rw [show (l0.drop 4).length = (l0.length - 4) from List.length_drop] <;> rfl) | rfl) ?_; (with_reducible refine (crc_Of.calls k _ _ (l0.drop 4) t272 _ ?side1 ?side2 A8.out).mono ?_); (case side1 => exact cgo_ (HR271.out)); (case side2 => exact HC271.out); rintro e w' ⟨rfl, ⟨nd, rfl⟩⟩; (try first | exact ⟨rfl, _, World.drewN_drewN _ _ _⟩ | exact ⟨rfl, _, Eq.trans (World.drewN_drewN _ _ _) (congrArg (World.drewN _) (Nat.add_assoc _ _ _))⟩)))
                repeat (go_quiet (first | (go_at_call 124; refine calls_of_args (args' := #[.slice A13 (l0.drop 4).length (c0 - 4)]) (by first | (rw [show (l0.drop 4).length = (l0.length - 4) from List.length_drop] <;> rfl) | rfl) ?_; (with_reducible refine (crc_Of.calls k _ _ (l0.drop 4) t272 _ ?side1 ?side2 A8.out).mono ?_); (case side1 => exact cgo_ (HR271.out)); (case side2 => exact HC271.out); rintro e w' ⟨rfl, ⟨nd, rfl⟩⟩; (try first | exact ⟨rfl, _, World.drewN_drewN _ _ _⟩ | exact ⟨rfl, _, Eq.trans (World.drewN_drewN _ _ _) (congrArg (World.drewN _) (Nat.add_assoc _ _ _))⟩))); try go_wp2_with (first | (go_at_call 124; refine calls_of_args (args' := #[.slice A13 (l0.drop 4).length (c0 - 4)]) (by first | (rw [show (l0.drop 4).length = (l0.length - 4) from List.length_drop] <;> rfl) | rfl) ?_; (with_reducible refine (crc_Of.calls k _ _ (l0.drop 4) t272 _ ?side1 ?side2 A8.out).mono ?_); (case side1 => exact cgo_ (HR271.out)); (case side2 => exact HC271.out); rintro e w' ⟨rfl, ⟨nd, rfl⟩⟩; (try first | exact ⟨rfl, _, World.drewN_drewN _ _ _⟩ | exact ⟨rfl, _, Eq.trans (World.drewN_drewN _ _ _) (congrArg (World.drewN _) (Nat.add_assoc _ _ _))⟩))))
                go_ret2
                exact ⟨_, by first | rfl | (simp [errW_none, errW_some] <;> rfl) | (simp [*, errW_none, errW_some] <;> rfl), by first | exact Kd.R_nil _ _ _ _ _ | exact Kd.N_nil _ _ _ _ _ | exact Kd.V_nil _ _ _ _ _ | exact Kd.Q_nil _ _ _ _ _ | exact Kd.S_nil _ _ _ _ _, by repeat (first | (with_reducible first | exact HB.out | apply below_alloc | apply pw_below_drewN | apply below_drew1) | exact HB.out)⟩
            · rw [if_neg c7] at H
              exact absurd H (by simp)
          · rw [if_neg c6] at H
            exact absurd H (by simp)
        · rw [if_neg c5] at H
          exact absurd H (by simp)
      · rw [if_neg c4] at H
        exact absurd H (by simp)
    · rw [if_neg c3] at H
      exact absurd H (by simp)

/-! ### varint_Get: function 137 -/
def varint_Get.l0 : Nat → List Int → Int → Int → Int → Option (Int × Int)
  | 0, _, _, _, _ => none
  | k + 1, x0, x4, x10, x11 => if x11 < x10 then (if 0 ≤ x11 then (if x11 < (x0.length : Int) then (if 0 ≤ (wrap64 (x11 * 7)) then (if (shr .u64 (shl .u64 (Go.bits .andNot .u64 (IntKind.u64.wrap (rd x0 x11)) 128) (wrap64 (x11 * 7))) (wrap64 (x11 * 7))) = (Go.bits .andNot .u64 (IntKind.u64.wrap (rd x0 x11)) 128) then (if (IntKind.u64.wrap (rd x0 x11)) ≥ 128 then (varint_Get.l0 k x0 (Go.bits .or .u64 x4 (shl .u64 (Go.bits .andNot .u64 (IntKind.u64.wrap (rd x0 x11)) 128) (wrap64 (x11 * 7)))) x10 (wrap64 (x11 + 1))) else (if (IntKind.u64.wrap (rd x0 x11)) = 0 then (if x11 > 0 then (some (0, 0)) else (some (Go.bits .xor .i64 (wrap64 ((Go.bits .or .u64 x4 (shl .u64 (Go.bits .andNot .u64 (IntKind.u64.wrap (rd x0 x11)) 128) (wrap64 (x11 * 7)))) / 2)) (wrap64 (-(wrap64 (Go.bits .and .u64 (Go.bits .or .u64 x4 (shl .u64 (Go.bits .andNot .u64 (IntKind.u64.wrap (rd x0 x11)) 128) (wrap64 (x11 * 7)))) 1)))), wrap64 (x11 + 1)))) else (some (Go.bits .xor .i64 (wrap64 ((Go.bits .or .u64 x4 (shl .u64 (Go.bits .andNot .u64 (IntKind.u64.wrap (rd x0 x11)) 128) (wrap64 (x11 * 7)))) / 2)) (wrap64 (-(wrap64 (Go.bits .and .u64 (Go.bits .or .u64 x4 (shl .u64 (Go.bits .andNot .u64 (IntKind.u64.wrap (rd x0 x11)) 128) (wrap64 (x11 * 7)))) 1)))), wrap64 (x11 + 1))))) else (some (0, 0))) else (none)) else (none)) else (none)) else (some (0, 0))
def varint_Get.f (k : Nat) (l0 : List Int) : Option (Int × Int) := varint_Get.l0 k l0 0 (mn (l0.length : Int) 10) 0
theorem varint_Get.mono_l : ∀ k, (∀ y0 y1 y2 y3, LeO (varint_Get.l0 k y0 y1 y2 y3) (varint_Get.l0 (k + 1) y0 y1 y2 y3))
  | 0 => fun _ _ _ _ r h => by simp [varint_Get.l0] at h
  | k + 1 => by
    have ih0 := varint_Get.mono_l k
    · intro y0 y1 y2 y3
      unfold varint_Get.l0
      repeat' first
      | (with_reducible exact ih0 _ _ _ _)
      | (with_reducible exact LeO.refl _)
      | (with_reducible exact LeO.none _)
      | (with_reducible refine LeO.ite ?_ ?_)
      | (with_reducible refine LeO.bind ?_ (fun _ => ?_))
      | exact ih0 _ _ _ _
      | exact LeO.none _
      | refine LeO.ite ?_ ?_
      | refine LeO.bind ?_ (fun _ => ?_)
theorem varint_Get.mono : ∀ a0 k, LeO (varint_Get.f k a0) (varint_Get.f (k + 1) a0) := by
  intro a0 k
  have ih0 := varint_Get.mono_l k
  unfold varint_Get.f
  repeat' first
      | (with_reducible exact ih0 _ _ _ _)
      | (with_reducible exact LeO.refl _)
      | (with_reducible exact LeO.none _)
      | (with_reducible refine LeO.ite ?_ ?_)
      | (with_reducible refine LeO.bind ?_ (fun _ => ?_))
      | exact ih0 _ _ _ _
      | exact LeO.none _
      | refine LeO.ite ?_ ?_
      | refine LeO.bind ?_ (fun _ => ?_)
set_option maxHeartbeats 8000000 in
set_option maxRecDepth 100000 in
theorem varint_Get.calls (k : Nat) (A0 : Option Addr) (c0 : Nat) (l0 : List Int) (r1 : Int) (r2 : Int) (w : World) (hr0 : Kd.C (Kd.int .u8) w A0 l0.length l0) (hc0 : l0.length ≤ c0) (h : varint_Get.f k l0 = some (r1, r2)) :
    Calls Try.prog 137 #[.slice A0 l0.length c0] w fun e w' => e = .returned (.tuple #[.int .i64 r1, .int .i64 r2]) ∧ Below w.heap.size w w' := by
  have HR0 := Aside0.mk hr0
  have HC0 := Aside0.mk hc0
  clear hr0 hc0
  have HB := Aside0.mk (Below.refl w.heap.size w)
  have H : (varint_Get.l0 k l0 0 (mn (l0.length : Int) 10) 0) = some (r1, r2) := h
  clear h
  obtain ⟨ji2, hji2⟩ : ∃ j_ : Int, (mn (l0.length : Int) 10) = j_ := ⟨_, rfl⟩
  replace H : (varint_Get.l0 k l0 0 ji2 0) = some (r1, r2) := by first | (rw [hji2] at H; exact H) | (simp only [hji2] at H ⊢; exact H)
  (try (have hji2h : ji2 ≤ 10 := by (rw [← hji2]; unfold mn; (repeat' split) <;> omega)))
  (try (have hji2g : ji2 ≤ 64 := by omega))
  (try (have hji2l : 0 ≤ ji2 := by (rw [← hji2]; unfold mn; (repeat' split) <;> omega)))
  (try (have hji2m : 0 ≤ ji2 := by omega))
  have hji2_ : (if 10 < (l0.length : Int) then 10 else (l0.length : Int)) = ji2 := hji2
  have H' := Aside0.mk H
  clear H
  go_enter Try.func137, Try.ntmps137
  go_wp2
  go_loopg [4, 11] k (fun kq v4 v11 w' => ∃ (x4_1 : Int) (x11_1 : Int), v4 = .int .u64 x4_1 ∧ v11 = .int .i64 x11_1 ∧ Aside0 (varint_Get.l0 kq l0 x4_1 ji2 x11_1 = some (r1, r2)) ∧ Aside0 (kq ≤ k) ∧ Aside0 (Below w.heap.size w w'))
  case atStart => exact ⟨(0), (0), (by first | rfl | (simp; done) | (simp [*]; done)), (by first | rfl | (simp; done) | (simp [*]; done)), H', ⟨Nat.le_refl _⟩, ⟨by repeat (first | (with_reducible first | exact HB.out | apply below_alloc | apply pw_below_drewN | apply below_drew1) | exact HB.out)⟩⟩
  case round =>
    clear H'
    try clear c1
    try clear p2
    obtain ⟨x4_1, x11_1, rfl, rfl, HA, HK1, HB⟩ := hrel
    cases gk with
    | zero => exact absurd HA.out (by simp [varint_Get.l0])
    | succ k1 =>
      have H := HA.out
      clear HA
      simp only [varint_Get.l0] at H
      by_cases c3 : x11_1 < ji2
      · rw [if_pos c3] at H
        have c3b0 : decide (x11_1 < ji2) = true := decide_eq_true c3
        clear c3
        by_cases c4 : 0 ≤ x11_1
        · rw [if_pos c4] at H
          have c4b0 : decide (0 ≤ x11_1) = true := decide_eq_true c4
          clear c4
          by_cases c5 : x11_1 < (l0.length : Int)
          · rw [if_pos c5] at H
            have c5b0 : decide (x11_1 < (l0.length : Int)) = true := decide_eq_true c5
            clear c5
            obtain ⟨ji6, hji6⟩ : ∃ j_ : Int, (wrap64 (x11_1 * 7)) = j_ := ⟨_, rfl⟩
            replace H : (if 0 ≤ (ji6) then (if (shr .u64 (shl .u64 (Go.bits .andNot .u64 (IntKind.u64.wrap (rd l0 x11_1)) 128) (ji6)) (ji6)) = (Go.bits .andNot .u64 (IntKind.u64.wrap (rd l0 x11_1)) 128) then (if (IntKind.u64.wrap (rd l0 x11_1)) ≥ 128 then (varint_Get.l0 k1 l0 (Go.bits .or .u64 x4_1 (shl .u64 (Go.bits .andNot .u64 (IntKind.u64.wrap (rd l0 x11_1)) 128) (ji6))) ji2 (wrap64 (x11_1 + 1))) else (if (IntKind.u64.wrap (rd l0 x11_1)) = 0 then (if x11_1 > 0 then (some (0, 0)) else (some (Go.bits .xor .i64 (wrap64 ((Go.bits .or .u64 x4_1 (shl .u64 (Go.bits .andNot .u64 (IntKind.u64.wrap (rd l0 x11_1)) 128) (ji6))) / 2)) (wrap64 (-(wrap64 (Go.bits .and .u64 (Go.bits .or .u64 x4_1 (shl .u64 (Go.bits .andNot .u64 (IntKind.u64.wrap (rd l0 x11_1)) 128) (ji6))) 1)))), wrap64 (x11_1 + 1)))) else (some (Go.bits .xor .i64 (wrap64 ((Go.bits .or .u64 x4_1 (shl .u64 (Go.bits .andNot .u64 (IntKind.u64.wrap (rd l0 x11_1)) 128) (ji6))) / 2)) (wrap64 (-(wrap64 (Go.bits .and .u64 (Go.bits .or .u64 x4_1 (shl .u64 (Go.bits .andNot .u64 (IntKind.u64.wrap (rd l0 x11_1)) 128) (ji6))) 1)))), wrap64 (x11_1 + 1))))) else (some (0, 0))) else (none)) = some (r1, r2) := by first | (rw [hji6] at H; exact H) | (simp only [hji6] at H ⊢; exact H)
            have hji6w : (IntKind.i64.wrap (x11_1 * 7)) = ji6 := (i64_w _).trans hji6
            by_cases c7 : 0 ≤ (ji6)
            · rw [if_pos c7] at H
              have c7b0 := eq_true c7
              have c7b1 : decide (0 ≤ (ji6)) = true := decide_eq_true c7
              clear c7
              obtain ⟨ji8, hji8⟩ : ∃ j_ : Int, (shl .u64 (Go.bits .andNot .u64 (IntKind.u64.wrap (rd l0 x11_1)) 128) (ji6)) = j_ := ⟨_, rfl⟩
              replace H : (if (shr .u64 (ji8) (ji6)) = (Go.bits .andNot .u64 (IntKind.u64.wrap (rd l0 x11_1)) 128) then (if (IntKind.u64.wrap (rd l0 x11_1)) ≥ 128 then (varint_Get.l0 k1 l0 (Go.bits .or .u64 x4_1 (ji8)) ji2 (wrap64 (x11_1 + 1))) else (if (IntKind.u64.wrap (rd l0 x11_1)) = 0 then (if x11_1 > 0 then (some (0, 0)) else (some (Go.bits .xor .i64 (wrap64 ((Go.bits .or .u64 x4_1 (ji8)) / 2)) (wrap64 (-(wrap64 (Go.bits .and .u64 (Go.bits .or .u64 x4_1 (ji8)) 1)))), wrap64 (x11_1 + 1)))) else (some (Go.bits .xor .i64 (wrap64 ((Go.bits .or .u64 x4_1 (ji8)) / 2)) (wrap64 (-(wrap64 (Go.bits .and .u64 (Go.bits .or .u64 x4_1 (ji8)) 1)))), wrap64 (x11_1 + 1))))) else (some (0, 0))) = some (r1, r2) := by first | (rw [hji8] at H; exact H) | (simp only [hji8] at H ⊢; exact H)
              have hji8_ : (IntKind.u64.wrap ((Go.bits .andNot .u64 (IntKind.u64.wrap (rd l0 x11_1)) 128) * 2 ^ min (ji6).toNat 64)) = ji8 := hji8
              have hji8z : (ji6) ≤ 64 → (IntKind.u64.wrap ((Go.bits .andNot .u64 (IntKind.u64.wrap (rd l0 x11_1)) 128) * 2 ^ (ji6).toNat)) = ji8 := shl_small hji8
              have c9b0 := eq_true (of_decide_eq_true (by first | (with_reducible assumption) | assumption) : 0 ≤ (ji6))
              obtain ⟨ji10, hji10⟩ : ∃ j_ : Int, (shr .u64 (ji8) (ji6)) = j_ := ⟨_, rfl⟩
              replace H : (if (ji10) = (Go.bits .andNot .u64 (IntKind.u64.wrap (rd l0 x11_1)) 128) then (if (IntKind.u64.wrap (rd l0 x11_1)) ≥ 128 then (varint_Get.l0 k1 l0 (Go.bits .or .u64 x4_1 (ji8)) ji2 (wrap64 (x11_1 + 1))) else (if (IntKind.u64.wrap (rd l0 x11_1)) = 0 then (if x11_1 > 0 then (some (0, 0)) else (some (Go.bits .xor .i64 (wrap64 ((Go.bits .or .u64 x4_1 (ji8)) / 2)) (wrap64 (-(wrap64 (Go.bits .and .u64 (Go.bits .or .u64 x4_1 (ji8)) 1)))), wrap64 (x11_1 + 1)))) else (some (Go.bits .xor .i64 (wrap64 ((Go.bits .or .u64 x4_1 (ji8)) / 2)) (wrap64 (-(wrap64 (Go.bits .and .u64 (Go.bits .or .u64 x4_1 (ji8)) 1)))), wrap64 (x11_1 + 1))))) else (some (0, 0))) = some (r1, r2) := by first | (rw [hji10] at H; exact H) | (simp only [hji10] at H ⊢; exact H)
              have hji10_ : ((ji8) / 2 ^ min (ji6).toNat 64) = ji10 := hji10
              have hji10z : (ji6) ≤ 64 → ((ji8) / 2 ^ (ji6).toNat) = ji10 := shr_small hji10
              by_cases c11 : (ji10) = (Go.bits .andNot .u64 (IntKind.u64.wrap (rd l0 x11_1)) 128)
              · rw [if_pos c11] at H
                have c11b0 : ((ji10) == (Go.bits .andNot .u64 (IntKind.u64.wrap (rd l0 x11_1)) 128)) = true := beq_iff_eq.mpr c11
                have c11b1 : ((ji10) != (Go.bits .andNot .u64 (IntKind.u64.wrap (rd l0 x11_1)) 128)) = false := bne_eq_false_iff_eq.mpr c11
                clear c11
                have c12b0 := eq_true (of_decide_eq_true (by first | (with_reducible assumption) | assumption) : 0 ≤ (ji6))
                by_cases c13 : (IntKind.u64.wrap (rd l0 x11_1)) ≥ 128
                · rw [if_pos c13] at H
                  have c13b0 : decide (128 ≤ (IntKind.u64.wrap (rd l0 x11_1))) = true := decide_eq_true c13
                  clear c13
                  have H' := Aside0.mk H
                  clear H
                  have p277 : 0 ≤ (x11_1 : Int) := of_decide_eq_true (by first | (with_reducible assumption) | assumption)
                  have q277 : x11_1 < (l0.length : Int) := of_decide_eq_true (by first | (with_reducible assumption) | assumption)
                  obtain ⟨ad277, e277, hx277_0⟩ := Kd.at_int HR0.out x11_1 p277 q277
                  cases e277
                  replace hx277_0 := (HB.out.cell (World.block_lt_of_cell? w _ hx277_0)).trans hx277_0
                  replace p277 := eq_true p277
                  replace q277 := eq_true q277
                  go_wp2
                  go_roundg k1
                  case measure => have := HK1.out; omega
                  case rel => exact ⟨(Go.bits .or .u64 x4_1 (ji8)), (wrap64 (x11_1 + 1)), (by first | rfl | (simp; done) | (simp only [← hji8] <;> (first | rfl | simp)) | (simp [*]; done)), (by first | rfl | (simp; done) | (simp [*]; done)), H', ⟨by have := HK1.out; omega⟩, ⟨by repeat (first | (with_reducible first | exact HB.out | apply below_alloc | apply pw_below_drewN | apply below_drew1) | exact HB.out)⟩⟩
                · rw [if_neg c13] at H
                  have c13b0 : decide (128 ≤ (IntKind.u64.wrap (rd l0 x11_1))) = false := decide_eq_false c13
                  clear c13
                  by_cases c14 : (IntKind.u64.wrap (rd l0 x11_1)) = 0
                  · rw [if_pos c14] at H
                    have c14b0 : ((IntKind.u64.wrap (rd l0 x11_1)) == 0) = true := beq_iff_eq.mpr c14
                    have c14b1 : ((IntKind.u64.wrap (rd l0 x11_1)) != 0) = false := bne_eq_false_iff_eq.mpr c14
                    clear c14
                    by_cases c15 : x11_1 > 0
                    · rw [if_pos c15] at H
                      have c15b0 : decide (0 < x11_1) = true := decide_eq_true c15
                      clear c15
                      simp only [Option.some.injEq, Prod.mk.injEq] at H
                      obtain ⟨rfl, rfl⟩ := H
                      have p277 : 0 ≤ (x11_1 : Int) := of_decide_eq_true (by first | (with_reducible assumption) | assumption)
                      have q277 : x11_1 < (l0.length : Int) := of_decide_eq_true (by first | (with_reducible assumption) | assumption)
                      obtain ⟨ad277, e277, hx277_0⟩ := Kd.at_int HR0.out x11_1 p277 q277
                      cases e277
                      replace hx277_0 := (HB.out.cell (World.block_lt_of_cell? w _ hx277_0)).trans hx277_0
                      replace p277 := eq_true p277
                      replace q277 := eq_true q277
                      go_wp2
                      go_ret2
                      exact ⟨by first | rfl | (simp [errW_none, errW_some] <;> rfl) | (simp only [← hji2, ← hji6, ← hji8, ← hji10]; first | rfl | (simp [errW_none, errW_some] <;> rfl)) | (simp [*, errW_none, errW_some] <;> rfl), by repeat (first | (with_reducible first | exact HB.out | apply below_alloc | apply pw_below_drewN | apply below_drew1) | exact HB.out)⟩
                    · rw [if_neg c15] at H
                      have c15b0 : decide (0 < x11_1) = false := decide_eq_false c15
                      clear c15
                      simp only [Option.some.injEq, Prod.mk.injEq] at H
                      obtain ⟨rfl, rfl⟩ := H
                      have p277 : 0 ≤ (x11_1 : Int) := of_decide_eq_true (by first | (with_reducible assumption) | assumption)
                      have q277 : x11_1 < (l0.length : Int) := of_decide_eq_true (by first | (with_reducible assumption) | assumption)
                      obtain ⟨ad277, e277, hx277_0⟩ := Kd.at_int HR0.out x11_1 p277 q277
                      cases e277
                      replace hx277_0 := (HB.out.cell (World.block_lt_of_cell? w _ hx277_0)).trans hx277_0
                      replace p277 := eq_true p277
                      replace q277 := eq_true q277
                      go_wp2
                      go_ret2
                      exact ⟨by first | rfl | (simp [errW_none, errW_some] <;> rfl) | (simp only [← hji2, ← hji6, ← hji8, ← hji10]; first | rfl | (simp [errW_none, errW_some] <;> rfl)) | (simp [*, errW_none, errW_some] <;> rfl), by repeat (first | (with_reducible first | exact HB.out | apply below_alloc | apply pw_below_drewN | apply below_drew1) | exact HB.out)⟩
                  · rw [if_neg c14] at H
                    have c14b0 : ((IntKind.u64.wrap (rd l0 x11_1)) == 0) = false := beq_eq_false_iff_ne.mpr c14
                    have c14b1 : ((IntKind.u64.wrap (rd l0 x11_1)) != 0) = true := bne_iff_ne.mpr c14
                    simp only [Option.some.injEq, Prod.mk.injEq] at H
                    obtain ⟨rfl, rfl⟩ := H
                    have p277 : 0 ≤ (x11_1 : Int) := of_decide_eq_true (by first | (with_reducible assumption) | assumption)
                    have q277 : x11_1 < (l0.length : Int) := of_decide_eq_true (by first | (with_reducible assumption) | assumption)
                    obtain ⟨ad277, e277, hx277_0⟩ := Kd.at_int HR0.out x11_1 p277 q277
                    cases e277
                    replace hx277_0 := (HB.out.cell (World.block_lt_of_cell? w _ hx277_0)).trans hx277_0
                    replace p277 := eq_true p277
                    replace q277 := eq_true q277
                    go_wp2
                    go_ret2
                    exact ⟨by first | rfl | (simp [errW_none, errW_some] <;> rfl) | (simp only [← hji2, ← hji6, ← hji8, ← hji10]; first | rfl | (simp [errW_none, errW_some] <;> rfl)) | (simp [*, errW_none, errW_some] <;> rfl), by repeat (first | (with_reducible first | exact HB.out | apply below_alloc | apply pw_below_drewN | apply below_drew1) | exact HB.out)⟩
              · rw [if_neg c11] at H
                have c11b0 : ((ji10) == (Go.bits .andNot .u64 (IntKind.u64.wrap (rd l0 x11_1)) 128)) = false := beq_eq_false_iff_ne.mpr c11
                have c11b1 : ((ji10) != (Go.bits .andNot .u64 (IntKind.u64.wrap (rd l0 x11_1)) 128)) = true := bne_iff_ne.mpr c11
                simp only [Option.some.injEq, Prod.mk.injEq] at H
                obtain ⟨rfl, rfl⟩ := H
                have p277 : 0 ≤ (x11_1 : Int) := of_decide_eq_true (by first | (with_reducible assumption) | assumption)
                have q277 : x11_1 < (l0.length : Int) := of_decide_eq_true (by first | (with_reducible assumption) | assumption)
                obtain ⟨ad277, e277, hx277_0⟩ := Kd.at_int HR0.out x11_1 p277 q277
                cases e277
                replace hx277_0 := (HB.out.cell (World.block_lt_of_cell? w _ hx277_0)).trans hx277_0
                replace p277 := eq_true p277
                replace q277 := eq_true q277
                go_wp2
                go_ret2
                exact ⟨by first | rfl | (simp [errW_none, errW_some] <;> rfl) | (simp only [← hji2, ← hji6, ← hji8, ← hji10]; first | rfl | (simp [errW_none, errW_some] <;> rfl)) | (simp [*, errW_none, errW_some] <;> rfl), by repeat (first | (with_reducible first | exact HB.out | apply below_alloc | apply pw_below_drewN | apply below_drew1) | exact HB.out)⟩
            · rw [if_neg c7] at H
              exact absurd H (by simp)
          · rw [if_neg c5] at H
            exact absurd H (by simp)
        · rw [if_neg c4] at H
          exact absurd H (by simp)
      · rw [if_neg c3] at H
        have c3b0 : decide (x11_1 < ji2) = false := decide_eq_false c3
        clear c3
        simp only [Option.some.injEq, Prod.mk.injEq] at H
        obtain ⟨rfl, rfl⟩ := H
        go_wp2
        go_ret2
        exact ⟨by first | rfl | (simp [errW_none, errW_some] <;> rfl) | (simp only [← hji2]; first | rfl | (simp [errW_none, errW_some] <;> rfl)) | (simp [*, errW_none, errW_some] <;> rfl), by repeat (first | (with_reducible first | exact HB.out | apply below_alloc | apply pw_below_drewN | apply below_drew1) | exact HB.out)⟩

/-! ### varint_Cut: function 125 -/
def varint_Cut.f (k : Nat) (l0 : List Int) (a1 : Int) : Option (ByteArray × Int) := (varint_Get.f k l0).bind fun bt278 => (if bt278.2 = 0 then (some ((⟨#[]⟩ : ByteArray), 0)) else (if bt278.1 < 0 then (some ((⟨#[]⟩ : ByteArray), 0)) else (if bt278.1 > (mn a1 (wrap64 ((l0.length : Int) - bt278.2))) then (some ((⟨#[]⟩ : ByteArray), 0)) else (if 0 ≤ bt278.2 then (if bt278.2 ≤ (wrap64 (bt278.2 + bt278.1)) then (if (wrap64 (bt278.2 + bt278.1)) ≤ (l0.length : Int) then (some (strOfNums ((l0.take ((wrap64 (bt278.2 + bt278.1)) : Int).toNat).drop (bt278.2 : Int).toNat), wrap64 (bt278.2 + bt278.1))) else (none)) else (none)) else (none)))))
theorem varint_Cut.mono : ∀ a0 a1 k, LeO (varint_Cut.f k a0 a1) (varint_Cut.f (k + 1) a0 a1) := by
  intro a0 a1 k
  unfold varint_Cut.f
  repeat' first
      | (with_reducible exact varint_Get.mono _ _)
      | (with_reducible exact LeO.refl _)
      | (with_reducible exact LeO.none _)
      | (with_reducible refine LeO.ite ?_ ?_)
      | (with_reducible refine LeO.bind ?_ (fun _ => ?_))
      | exact varint_Get.mono _ _
      | exact LeO.none _
      | refine LeO.ite ?_ ?_
      | refine LeO.bind ?_ (fun _ => ?_)
set_option maxHeartbeats 8000000 in
set_option maxRecDepth 100000 in
theorem varint_Cut.calls (k : Nat) (A0 : Option Addr) (c0 : Nat) (l0 : List Int) (a1 : Int) (r1 : ByteArray) (r2 : Int) (w : World) (hr0 : Kd.C (Kd.int .u8) w A0 l0.length l0) (hc0 : l0.length ≤ c0) (h : varint_Cut.f k l0 a1 = some (r1, r2)) :
    Calls Try.prog 125 #[.slice A0 l0.length c0, .int .i64 a1] w fun e w' => e = .returned (.tuple #[.string r1, .int .i64 r2]) ∧ Below w.heap.size w w' := by
  have HR0 := Aside0.mk hr0
  have HC0 := Aside0.mk hc0
  clear hr0 hc0
  have HB := Aside0.mk (Below.refl w.heap.size w)
  have H : ((varint_Get.f k l0).bind fun bt278 => (if bt278.2 = 0 then (some ((⟨#[]⟩ : ByteArray), 0)) else (if bt278.1 < 0 then (some ((⟨#[]⟩ : ByteArray), 0)) else (if bt278.1 > (mn a1 (wrap64 ((l0.length : Int) - bt278.2))) then (some ((⟨#[]⟩ : ByteArray), 0)) else (if 0 ≤ bt278.2 then (if bt278.2 ≤ (wrap64 (bt278.2 + bt278.1)) then (if (wrap64 (bt278.2 + bt278.1)) ≤ (l0.length : Int) then (some (strOfNums ((l0.take ((wrap64 (bt278.2 + bt278.1)) : Int).toNat).drop (bt278.2 : Int).toNat), wrap64 (bt278.2 + bt278.1))) else (none)) else (none)) else (none)))))) = some (r1, r2) := h
  clear h
  replace H := Option.bind_eq_some_iff.mp H
  obtain ⟨⟨t278, t279⟩, A30, H⟩ := H
  replace H : (if t279 = 0 then (some ((⟨#[]⟩ : ByteArray), 0)) else (if t278 < 0 then (some ((⟨#[]⟩ : ByteArray), 0)) else (if t278 > (mn a1 (wrap64 ((l0.length : Int) - t279))) then (some ((⟨#[]⟩ : ByteArray), 0)) else (if 0 ≤ t279 then (if t279 ≤ (wrap64 (t279 + t278)) then (if (wrap64 (t279 + t278)) ≤ (l0.length : Int) then (some (strOfNums ((l0.take ((wrap64 (t279 + t278)) : Int).toNat).drop (t279 : Int).toNat), wrap64 (t279 + t278))) else (none)) else (none)) else (none))))) = some (r1, r2) := H
  have A3 := Aside0.mk A30
  clear A30
  by_cases c4 : t279 = 0
  · rw [if_pos c4] at H
    have c4b0 : (t279 == 0) = true := beq_iff_eq.mpr c4
    have c4b1 : (t279 != 0) = false := bne_eq_false_iff_eq.mpr c4
    clear c4
    simp only [Option.some.injEq, Prod.mk.injEq] at H
    obtain ⟨rfl, rfl⟩ := H
    go_enter Try.func125, Try.ntmps125
    go_wp2_with (first | ((with_reducible refine gate_callee (f := 137) rfl ?_); refine goesL_ (some 10) rfl rfl Try.func137 (by kernel_rfl) rfl #[.slice A0 l0.length c0] rfl (by (try simp only [List.map_toArray, List.map_cons, List.map_nil]); first | done | rfl | (simp only [List.length_drop, List.length_take]; rfl)) ?_; (with_reducible refine (varint_Get.calls k _ _ l0 t278 t279 _ ?side1 ?side2 A3.out).mono ?_); (case side1 => exact cgo_ (HR0.out)); (case side2 => exact HC0.out); rintro e w5 ⟨rfl, hb⟩; refine ⟨_, rfl, ?_⟩; have n0_ := Aside0.mk (below_step (bel_ HB) hb); clear HB; have HB := n0_; clear n0_; (try clear hb); (try clear hb2); (try clear hk); (try clear hi)))
    go_ret2
    exact ⟨by first | rfl | (simp [errW_none, errW_some] <;> rfl) | (simp [*, errW_none, errW_some] <;> rfl), by repeat (first | (with_reducible first | exact HB.out | apply below_alloc | apply pw_below_drewN | apply below_drew1) | exact HB.out)⟩
  · rw [if_neg c4] at H
    have c4b0 : (t279 == 0) = false := beq_eq_false_iff_ne.mpr c4
    have c4b1 : (t279 != 0) = true := bne_iff_ne.mpr c4
    by_cases c6 : t278 < 0
    · rw [if_pos c6] at H
      have c6b0 : decide (t278 < 0) = true := decide_eq_true c6
      clear c6
      simp only [Option.some.injEq, Prod.mk.injEq] at H
      obtain ⟨rfl, rfl⟩ := H
      go_enter Try.func125, Try.ntmps125
      go_wp2_with (first | ((with_reducible refine gate_callee (f := 137) rfl ?_); refine goesL_ (some 10) rfl rfl Try.func137 (by kernel_rfl) rfl #[.slice A0 l0.length c0] rfl (by (try simp only [List.map_toArray, List.map_cons, List.map_nil]); first | done | rfl | (simp only [List.length_drop, List.length_take]; rfl)) ?_; (with_reducible refine (varint_Get.calls k _ _ l0 t278 t279 _ ?side1 ?side2 A3.out).mono ?_); (case side1 => exact cgo_ (HR0.out)); (case side2 => exact HC0.out); rintro e w7 ⟨rfl, hb⟩; refine ⟨_, rfl, ?_⟩; have n0_ := Aside0.mk (below_step (bel_ HB) hb); clear HB; have HB := n0_; clear n0_; (try clear hb); (try clear hb2); (try clear hk); (try clear hi)))
      go_ret2
      exact ⟨by first | rfl | (simp [errW_none, errW_some] <;> rfl) | (simp [*, errW_none, errW_some] <;> rfl), by repeat (first | (with_reducible first | exact HB.out | apply below_alloc | apply pw_below_drewN | apply below_drew1) | exact HB.out)⟩
    · rw [if_neg c6] at H
      have c6b0 : decide (t278 < 0) = false := decide_eq_false c6
      clear c6
      obtain ⟨ji8, hji8⟩ : ∃ j_ : Int, (mn a1 (wrap64 ((l0.length : Int) - t279))) = j_ := ⟨_, rfl⟩
      replace H : (if t278 > (ji8) then (some ((⟨#[]⟩ : ByteArray), 0)) else (if 0 ≤ t279 then (if t279 ≤ (wrap64 (t279 + t278)) then (if (wrap64 (t279 + t278)) ≤ (l0.length : Int) then (some (strOfNums ((l0.take ((wrap64 (t279 + t278)) : Int).toNat).drop (t279 : Int).toNat), wrap64 (t279 + t278))) else (none)) else (none)) else (none))) = some (r1, r2) := by first | (rw [hji8] at H; exact H) | (simp only [hji8] at H ⊢; exact H)
      (try rw [hji8] at A3)
      have hji8_ : (if (wrap64 ((l0.length : Int) - t279)) < a1 then (wrap64 ((l0.length : Int) - t279)) else a1) = ji8 := hji8
      by_cases c9 : t278 > (ji8)
      · rw [if_pos c9] at H
        have c9b0 : decide ((ji8) < t278) = true := decide_eq_true c9
        clear c9
        simp only [Option.some.injEq, Prod.mk.injEq] at H
        obtain ⟨rfl, rfl⟩ := H
        go_enter Try.func125, Try.ntmps125
        go_wp2_with (first | ((with_reducible refine gate_callee (f := 137) rfl ?_); refine goesL_ (some 10) rfl rfl Try.func137 (by kernel_rfl) rfl #[.slice A0 l0.length c0] rfl (by (try simp only [List.map_toArray, List.map_cons, List.map_nil]); first | done | rfl | (simp only [List.length_drop, List.length_take]; rfl)) ?_; (with_reducible refine (varint_Get.calls k _ _ l0 t278 t279 _ ?side1 ?side2 A3.out).mono ?_); (case side1 => exact cgo_ (HR0.out)); (case side2 => exact HC0.out); rintro e w10 ⟨rfl, hb⟩; refine ⟨_, rfl, ?_⟩; have n0_ := Aside0.mk (below_step (bel_ HB) hb); clear HB; have HB := n0_; clear n0_; (try clear hb); (try clear hb2); (try clear hk); (try clear hi)))
        go_ret2
        exact ⟨by first | rfl | (simp [errW_none, errW_some] <;> rfl) | (simp only [← hji8]; first | rfl | (simp [errW_none, errW_some] <;> rfl)) | (simp [*, errW_none, errW_some] <;> rfl), by repeat (first | (with_reducible first | exact HB.out | apply below_alloc | apply pw_below_drewN | apply below_drew1) | exact HB.out)⟩
      · rw [if_neg c9] at H
        have c9b0 : decide ((ji8) < t278) = false := decide_eq_false c9
        clear c9
        by_cases c11 : 0 ≤ t279
        · rw [if_pos c11] at H
          have c11b0 := eq_true c11
          have c11b1 : decide (0 ≤ t279) = true := decide_eq_true c11
          clear c11
          by_cases c12 : t279 ≤ (wrap64 (t279 + t278))
          · rw [if_pos c12] at H
            have c12b0 := eq_true c12
            have c12b1 : decide (t279 ≤ (wrap64 (t279 + t278))) = true := decide_eq_true c12
            by_cases c13 : (wrap64 (t279 + t278)) ≤ (l0.length : Int)
            · rw [if_pos c13] at H
              have c13b0 := eq_true c13
              have c13b1 : decide ((wrap64 (t279 + t278)) ≤ (l0.length : Int)) = true := decide_eq_true c13
              obtain ⟨y280, hy280⟩ : ∃ y_ : List Int, y_ = ((l0.take ((wrap64 (t279 + t278)) : Int).toNat).drop (t279 : Int).toNat) := ⟨_, rfl⟩
              replace H : (some (strOfNums y280, wrap64 (t279 + t278))) = some (r1, r2) := by first | (rw [hy280]; with_reducible exact H) | (have H2_ := (Option.bind_some _ _).symm.trans H; rw [hy280]; with_reducible exact H2_) | (have H2_ := (Option.bind_some _ _).symm.trans H; with_reducible exact H2_) | with_reducible exact H | (rw [hy280]; exact H) | exact H
              have Ny280 := Aside0.mk hy280
              clear hy280
              simp only [Option.some.injEq, Prod.mk.injEq] at H
              obtain ⟨rfl, rfl⟩ := H
              go_enter Try.func125, Try.ntmps125
              go_wp2_with (first | ((with_reducible refine gate_callee (f := 137) rfl ?_); refine goesL_ (some 10) rfl rfl Try.func137 (by kernel_rfl) rfl #[.slice A0 l0.length c0] rfl (by (try simp only [List.map_toArray, List.map_cons, List.map_nil]); first | done | rfl | (simp only [List.length_drop, List.length_take]; rfl)) ?_; (with_reducible refine (varint_Get.calls k _ _ l0 t278 t279 _ ?side1 ?side2 A3.out).mono ?_); (case side1 => exact cgo_ (HR0.out)); (case side2 => exact HC0.out); rintro e w14 ⟨rfl, hb⟩; refine ⟨_, rfl, ?_⟩; have n0_ := Aside0.mk (below_step (bel_ HB) hb); clear HB; have HB := n0_; clear n0_; (try clear hb); (try clear hb2); (try clear hk); (try clear hi); have q15 : ((wrap64 (t279 + t278)) : Int) ≤ ((l0.length : Int) : Int) := of_decide_eq_true (by first | (with_reducible assumption) | assumption); obtain ⟨i015, hi015, _, hsz15, _⟩ := info_parts info5; have hroom15 : l0.length ≤ c0 := HC0.out; have hC15 : Kd.C (Kd.int .u8) _ A0 l0.length l0 := HR0.out; have ql15 : (t279 : Int) ≤ ((wrap64 (t279 + t278)) : Int) := of_decide_eq_true (by first | (with_reducible assumption) | assumption); have q015 : (0 : Int) ≤ (t279 : Int) := of_decide_eq_true (by first | (with_reducible assumption) | assumption); have hcut15 := cut_mid (P := Try.prog) 34 5 .i64 .i64 Try.underlying34 hi015 1 hsz15 A0 l0.length c0 t279 (wrap64 (t279 + t278)) q015 ql15 q15 hroom15; have hr15 := Kd.C_mid (lo := (t279 : Int).toNat) (hi := ((wrap64 (t279 + t278)) : Int).toNat) (c := c0) hC15 (by omega) (by omega) hroom15; obtain ⟨A15, hA15⟩ : ∃ A1, A1 = (if c0 = (t279 : Int).toNat then A0 else (A0 : Option Addr).map (·.add ((t279 : Int).toNat * 1))) := ⟨_, rfl⟩; obtain ⟨c15, hc15⟩ : ∃ c1, c1 = c0 - (t279 : Int).toNat := ⟨_, rfl⟩; have hy15 : y280.length = ((wrap64 (t279 + t278)) : Int).toNat - (t279 : Int).toNat := (by rw [Ny280.out, List.length_drop, List.length_take] <;> omega); rw [show ((l0).take ((wrap64 (t279 + t278)) : Int).toNat).drop (t279 : Int).toNat = y280 from Ny280.out.symm] at hr15; replace hr15 : Kd.C (Kd.int .u8) _ A15 y280.length y280 := (by rw [hA15]; exact hr15); rw [← hy15, ← hA15, ← hc15] at hcut15; have HR283 := Aside0.mk hr15; have HC283 := Aside0.mk (show y280.length ≤ c15 from by rw [hy15, hc15]; exact Nat.sub_le_sub_right (Nat.le_trans (by omega) hroom15) _); clear hr15 hC15 hroom15 hi015 hsz15 hc15; have KY15 := Aside0.mk hy15; have KA15 := Aside0.mk hA15; clear hy15 hA15; replace q15 := eq_true q15; have hcv16 := Kd.C_string (P := Try.prog) (A := A15) (c := c15) Try.underlying34 Try.underlying5 Try.underlying9 (Kd.C_below HR283.out HB.out); have hcv17 := fun (m_ : Nat) => Kd.C_string (P := Try.prog) (A := A15) (c := c15) Try.underlying34 Try.underlying5 Try.underlying9 (Kd.C_drewN ((Kd.C_below HR283.out HB.out)) m_)))
              go_ret2
              exact ⟨by first | rfl | (simp [errW_none, errW_some] <;> rfl) | (simp only [← hji8]; first | rfl | (simp [errW_none, errW_some] <;> rfl)) | (simp [*, errW_none, errW_some] <;> rfl), by repeat (first | (with_reducible first | exact HB.out | apply below_alloc | apply pw_below_drewN | apply below_drew1) | exact HB.out)⟩
            · rw [if_neg c13] at H
              exact absurd H (by simp)
          · rw [if_neg c12] at H
            exact absurd H (by simp)
        · rw [if_neg c11] at H
          exact absurd H (by simp)

end Go.Proofs.Ytknclghaofmnhaa.PBR
