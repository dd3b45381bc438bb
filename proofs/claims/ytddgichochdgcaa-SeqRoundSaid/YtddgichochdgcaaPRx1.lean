-- Written by a program of this session (wip/print/myprint.sh).
import Derived.Test.YtddgichochdgcaaPRx0
namespace Go.Proofs.Ytddgichochdgcaa.PR
open Go.RowKit Go.Proofs.YtddgichochdgcaaV.PrintWords Go.Proofs.YtddgichochdgcaaV.PrintLast Go.Proofs.YtddgichochdgcaaV.PrintMore
attribute [local go_sem] max2_int min2_int max_two min_two max_three min_three max_four min_four   -- for this text's walks alone
set_option linter.unusedVariables false
set_option linter.unusedSimpArgs false

/-! ### seq_Right: function 15 -/
def seq_Right.f (a0 : Int) : Option (Bool) := if a0 ≥ 0 then (some (decide (a0 ≤ 2147483647))) else (some false)
set_option maxHeartbeats 8000000 in
set_option maxRecDepth 100000 in
theorem seq_Right.calls (a0 : Int) (r : Bool) (w : World) (h : seq_Right.f a0 = some r) :
    Calls Try.prog 15 #[.int .i64 a0] w fun e w' => e = .returned (.bool r) ∧ Drawn0 w w' := by
  have H : (if a0 ≥ 0 then (some (decide (a0 ≤ 2147483647))) else (some false)) = some r := h
  clear h
  by_cases c2 : a0 ≥ 0
  · rw [if_pos c2] at H
    have c2b0 : decide (0 ≤ a0) = true := decide_eq_true c2
    clear c2
    obtain rfl := Option.some.inj H
    go_enter Try.func15, Try.ntmps15
    go_wp2
    go_ret
    exact ⟨by first | rfl | (simp; done) | (simp [*]; done), by repeat (first | exact Drawn0.refl _ | apply Drawn0.step)⟩
  · rw [if_neg c2] at H
    have c2b0 : decide (0 ≤ a0) = false := decide_eq_false c2
    clear c2
    obtain rfl := Option.some.inj H
    go_enter Try.func15, Try.ntmps15
    go_wp2
    go_ret
    exact ⟨by first | rfl | (simp; done) | (simp [*]; done), by repeat (first | exact Drawn0.refl _ | apply Drawn0.step)⟩

/-! ### seq_Add: function 14 -/
def seq_Add.f (a0 : Int) (a1 : Int) : Option (Int) := (seq_Right.f a0).bind fun t101 => (if t101 = true then (some (Int.tmod (wrap64 ((Int.tmod (wrap64 (a0 + (Int.tmod a1 2147483648))) 2147483648) + 2147483648)) 2147483648)) else (some (-1)))
set_option maxHeartbeats 8000000 in
set_option maxRecDepth 100000 in
theorem seq_Add.calls (a0 : Int) (a1 : Int) (r : Int) (w : World) (h : seq_Add.f a0 a1 = some r) :
    Calls Try.prog 14 #[.int .i64 a0, .int .i64 a1] w fun e w' => e = .returned (.int .i64 r) ∧ Drawn0 w w' := by
  have H : ((seq_Right.f a0).bind fun t101 => (if t101 = true then (some (Int.tmod (wrap64 ((Int.tmod (wrap64 (a0 + (Int.tmod a1 2147483648))) 2147483648) + 2147483648)) 2147483648)) else (some (-1)))) = some r := h
  clear h
  replace H := Option.bind_eq_some_iff.mp H
  obtain ⟨t101, A30, H⟩ := H
  replace H : (if t101 = true then (some (Int.tmod (wrap64 ((Int.tmod (wrap64 (a0 + (Int.tmod a1 2147483648))) 2147483648) + 2147483648)) 2147483648)) else (some (-1))) = some r := H
  have A3 := Aside0.mk A30
  clear A30
  by_cases c4 : t101 = true
  · subst c4
    have H1 : (some (Int.tmod (wrap64 ((Int.tmod (wrap64 (a0 + (Int.tmod a1 2147483648))) 2147483648) + 2147483648)) 2147483648)) = some r := by rw [if_pos rfl] at H; exact H
    clear H
    have H := H1
    clear H1
    obtain rfl := Option.some.inj H
    go_enter Try.func14, Try.ntmps14
    go_wp2_with (first | ((with_reducible refine gate_callee (f := 15) rfl ?_); refine goesL_ (some 6) rfl rfl Try.func15 (by kernel_rfl) rfl #[.int .i64 a0] rfl (by (try simp only [List.map_toArray, List.map_cons, List.map_nil]); first | done | rfl | (simp only [List.length_drop, List.length_take]; rfl)) ?_; (with_reducible refine (seq_Right.calls a0 true _ A3.out).mono ?_); rintro e w' ⟨rfl, ⟨nd, rfl⟩⟩; refine ⟨_, rfl, ?_⟩))
    go_ret
    exact ⟨by first | rfl | (simp; done) | (simp [*]; done), by repeat (first | exact Drawn0.refl _ | apply Drawn0.step)⟩
  · replace c4 := Bool.eq_false_iff.mpr c4
    subst c4
    have H1 : (some (-1)) = some r := by rw [if_neg (show ¬ (false = true) by decide)] at H; exact H
    clear H
    have H := H1
    clear H1
    obtain rfl := Option.some.inj H
    go_enter Try.func14, Try.ntmps14
    go_wp2_with (first | ((with_reducible refine gate_callee (f := 15) rfl ?_); refine goesL_ (some 6) rfl rfl Try.func15 (by kernel_rfl) rfl #[.int .i64 a0] rfl (by (try simp only [List.map_toArray, List.map_cons, List.map_nil]); first | done | rfl | (simp only [List.length_drop, List.length_take]; rfl)) ?_; (with_reducible refine (seq_Right.calls a0 false _ A3.out).mono ?_); rintro e w' ⟨rfl, ⟨nd, rfl⟩⟩; refine ⟨_, rfl, ?_⟩))
    go_ret
    exact ⟨by first | rfl | (simp; done) | (simp [*]; done), by repeat (first | exact Drawn0.refl _ | apply Drawn0.step)⟩

/-! ### seq_Gap: function 16 -/
def seq_Gap.f (a0 : Int) (a1 : Int) : Option (Int) := (seq_Right.f a0).bind fun t102 => (if t102 = true then ((seq_Right.f a1).bind fun t103 => (if t103 = true then (some (Int.tmod (wrap64 ((wrap64 (a1 - a0)) + 2147483648)) 2147483648)) else (some (-1)))) else (some (-1)))
set_option maxHeartbeats 8000000 in
set_option maxRecDepth 100000 in
theorem seq_Gap.calls (a0 : Int) (a1 : Int) (r : Int) (w : World) (h : seq_Gap.f a0 a1 = some r) :
    Calls Try.prog 16 #[.int .i64 a0, .int .i64 a1] w fun e w' => e = .returned (.int .i64 r) ∧ Drawn0 w w' := by
  have H : ((seq_Right.f a0).bind fun t102 => (if t102 = true then ((seq_Right.f a1).bind fun t103 => (if t103 = true then (some (Int.tmod (wrap64 ((wrap64 (a1 - a0)) + 2147483648)) 2147483648)) else (some (-1)))) else (some (-1)))) = some r := h
  clear h
  replace H := Option.bind_eq_some_iff.mp H
  obtain ⟨t102, A30, H⟩ := H
  replace H : (if t102 = true then ((seq_Right.f a1).bind fun t103 => (if t103 = true then (some (Int.tmod (wrap64 ((wrap64 (a1 - a0)) + 2147483648)) 2147483648)) else (some (-1)))) else (some (-1))) = some r := H
  have A3 := Aside0.mk A30
  clear A30
  by_cases c4 : t102 = true
  · subst c4
    have H1 : ((seq_Right.f a1).bind fun t103 => (if t103 = true then (some (Int.tmod (wrap64 ((wrap64 (a1 - a0)) + 2147483648)) 2147483648)) else (some (-1)))) = some r := by rw [if_pos rfl] at H; exact H
    clear H
    have H := H1
    clear H1
    replace H := Option.bind_eq_some_iff.mp H
    obtain ⟨t103, A50, H⟩ := H
    replace H : (if t103 = true then (some (Int.tmod (wrap64 ((wrap64 (a1 - a0)) + 2147483648)) 2147483648)) else (some (-1))) = some r := H
    have A5 := Aside0.mk A50
    clear A50
    by_cases c6 : t103 = true
    · subst c6
      have H1 : (some (Int.tmod (wrap64 ((wrap64 (a1 - a0)) + 2147483648)) 2147483648)) = some r := by rw [if_pos rfl] at H; exact H
      clear H
      have H := H1
      clear H1
      obtain rfl := Option.some.inj H
      go_enter Try.func16, Try.ntmps16
      go_wp2_with (first | ((with_reducible refine gate_callee (f := 15) rfl ?_); refine goesL_ (some 6) rfl rfl Try.func15 (by kernel_rfl) rfl #[.int .i64 a0] rfl (by (try simp only [List.map_toArray, List.map_cons, List.map_nil]); first | done | rfl | (simp only [List.length_drop, List.length_take]; rfl)) ?_; (with_reducible refine (seq_Right.calls a0 true _ A3.out).mono ?_); rintro e w' ⟨rfl, ⟨nd, rfl⟩⟩; refine ⟨_, rfl, ?_⟩) | (go_at_call 15; (with_reducible refine (seq_Right.calls a1 true _ A5.out).mono ?_); rintro e w' ⟨rfl, ⟨nd, rfl⟩⟩))
      go_ret
      exact ⟨by first | rfl | (simp; done) | (simp [*]; done), by repeat (first | exact Drawn0.refl _ | apply Drawn0.step)⟩
    · replace c6 := Bool.eq_false_iff.mpr c6
      subst c6
      have H1 : (some (-1)) = some r := by rw [if_neg (show ¬ (false = true) by decide)] at H; exact H
      clear H
      have H := H1
      clear H1
      obtain rfl := Option.some.inj H
      go_enter Try.func16, Try.ntmps16
      go_wp2_with (first | ((with_reducible refine gate_callee (f := 15) rfl ?_); refine goesL_ (some 6) rfl rfl Try.func15 (by kernel_rfl) rfl #[.int .i64 a0] rfl (by (try simp only [List.map_toArray, List.map_cons, List.map_nil]); first | done | rfl | (simp only [List.length_drop, List.length_take]; rfl)) ?_; (with_reducible refine (seq_Right.calls a0 true _ A3.out).mono ?_); rintro e w' ⟨rfl, ⟨nd, rfl⟩⟩; refine ⟨_, rfl, ?_⟩) | (go_at_call 15; (with_reducible refine (seq_Right.calls a1 false _ A5.out).mono ?_); rintro e w' ⟨rfl, ⟨nd, rfl⟩⟩))
      go_ret
      exact ⟨by first | rfl | (simp; done) | (simp [*]; done), by repeat (first | exact Drawn0.refl _ | apply Drawn0.step)⟩
  · replace c4 := Bool.eq_false_iff.mpr c4
    subst c4
    have H1 : (some (-1)) = some r := by rw [if_neg (show ¬ (false = true) by decide)] at H; exact H
    clear H
    have H := H1
    clear H1
    obtain rfl := Option.some.inj H
    go_enter Try.func16, Try.ntmps16
    go_wp2_with (first | ((with_reducible refine gate_callee (f := 15) rfl ?_); refine goesL_ (some 6) rfl rfl Try.func15 (by kernel_rfl) rfl #[.int .i64 a0] rfl (by (try simp only [List.map_toArray, List.map_cons, List.map_nil]); first | done | rfl | (simp only [List.length_drop, List.length_take]; rfl)) ?_; (with_reducible refine (seq_Right.calls a0 false _ A3.out).mono ?_); rintro e w' ⟨rfl, ⟨nd, rfl⟩⟩; refine ⟨_, rfl, ?_⟩))
    go_ret
    exact ⟨by first | rfl | (simp; done) | (simp [*]; done), by repeat (first | exact Drawn0.refl _ | apply Drawn0.step)⟩

/-! ### seq_Follows: function 17 -/
def seq_Follows.f (a0 : Int) (a1 : Int) : Option (Bool) := if a0 = (-1) then (some (a1 == 0)) else ((seq_Right.f a0).bind fun t104 => (if t104 = true then ((seq_Add.f a0 1).bind fun t105 => (some (a1 == t105))) else (some false)))
set_option maxHeartbeats 8000000 in
set_option maxRecDepth 100000 in
theorem seq_Follows.calls (a0 : Int) (a1 : Int) (r : Bool) (w : World) (h : seq_Follows.f a0 a1 = some r) :
    Calls Try.prog 17 #[.int .i64 a0, .int .i64 a1] w fun e w' => e = .returned (.bool r) ∧ Drawn0 w w' := by
  have H : (if a0 = (-1) then (some (a1 == 0)) else ((seq_Right.f a0).bind fun t104 => (if t104 = true then ((seq_Add.f a0 1).bind fun t105 => (some (a1 == t105))) else (some false)))) = some r := h
  clear h
  by_cases c3 : a0 = (-1)
  · rw [if_pos c3] at H
    have c3b0 : (a0 == (-1)) = true := beq_iff_eq.mpr c3
    have c3b1 : (a0 != (-1)) = false := bne_eq_false_iff_eq.mpr c3
    clear c3
    obtain rfl := Option.some.inj H
    go_enter Try.func17, Try.ntmps17
    go_wp2
    go_ret
    exact ⟨by first | rfl | (simp; done) | (simp [*]; done), by repeat (first | exact Drawn0.refl _ | apply Drawn0.step)⟩
  · rw [if_neg c3] at H
    have c3b0 : (a0 == (-1)) = false := beq_eq_false_iff_ne.mpr c3
    have c3b1 : (a0 != (-1)) = true := bne_iff_ne.mpr c3
    replace H := Option.bind_eq_some_iff.mp H
    obtain ⟨t104, A40, H⟩ := H
    replace H : (if t104 = true then ((seq_Add.f a0 1).bind fun t105 => (some (a1 == t105))) else (some false)) = some r := H
    have A4 := Aside0.mk A40
    clear A40
    by_cases c5 : t104 = true
    · subst c5
      have H1 : ((seq_Add.f a0 1).bind fun t105 => (some (a1 == t105))) = some r := by rw [if_pos rfl] at H; exact H
      clear H
      have H := H1
      clear H1
      replace H := Option.bind_eq_some_iff.mp H
      obtain ⟨t105, A60, H⟩ := H
      replace H : (some (a1 == t105)) = some r := H
      have A6 := Aside0.mk A60
      clear A60
      obtain rfl := Option.some.inj H
      go_enter Try.func17, Try.ntmps17
      go_wp2_with (first | ((with_reducible refine gate_callee (f := 15) rfl ?_); refine goesL_ (some 10) rfl rfl Try.func15 (by kernel_rfl) rfl #[.int .i64 a0] rfl (by (try simp only [List.map_toArray, List.map_cons, List.map_nil]); first | done | rfl | (simp only [List.length_drop, List.length_take]; rfl)) ?_; (with_reducible refine (seq_Right.calls a0 true _ A4.out).mono ?_); rintro e w' ⟨rfl, ⟨nd, rfl⟩⟩; refine ⟨_, rfl, ?_⟩) | (go_at_call 14; (with_reducible refine (seq_Add.calls a0 1 t105 _ A6.out).mono ?_); rintro e w' ⟨rfl, ⟨nd, rfl⟩⟩))
      go_ret
      exact ⟨by first | rfl | (simp; done) | (simp [*]; done), by repeat (first | exact Drawn0.refl _ | apply Drawn0.step)⟩
    · replace c5 := Bool.eq_false_iff.mpr c5
      subst c5
      have H1 : (some false) = some r := by rw [if_neg (show ¬ (false = true) by decide)] at H; exact H
      clear H
      have H := H1
      clear H1
      obtain rfl := Option.some.inj H
      go_enter Try.func17, Try.ntmps17
      go_wp2_with (first | ((with_reducible refine gate_callee (f := 15) rfl ?_); refine goesL_ (some 10) rfl rfl Try.func15 (by kernel_rfl) rfl #[.int .i64 a0] rfl (by (try simp only [List.map_toArray, List.map_cons, List.map_nil]); first | done | rfl | (simp only [List.length_drop, List.length_take]; rfl)) ?_; (with_reducible refine (seq_Right.calls a0 false _ A4.out).mono ?_); rintro e w' ⟨rfl, ⟨nd, rfl⟩⟩; refine ⟨_, rfl, ?_⟩))
      go_ret
      exact ⟨by first | rfl | (simp; done) | (simp [*]; done), by repeat (first | exact Drawn0.refl _ | apply Drawn0.step)⟩

/-! ### seq_Last: function 19 -/
def seq_Last.f (a0 : Int) (a1 : Int) : Option (Int) := if a1 < 1 then (some (-1)) else (if a1 > 16 then (some (-1)) else ((seq_Add.f a0 (wrap64 (a1 - 1))).bind fun t106 => (some t106)))
set_option maxHeartbeats 8000000 in
set_option maxRecDepth 100000 in
theorem seq_Last.calls (a0 : Int) (a1 : Int) (r : Int) (w : World) (h : seq_Last.f a0 a1 = some r) :
    Calls Try.prog 19 #[.int .i64 a0, .int .i64 a1] w fun e w' => e = .returned (.int .i64 r) ∧ Drawn0 w w' := by
  have H : (if a1 < 1 then (some (-1)) else (if a1 > 16 then (some (-1)) else ((seq_Add.f a0 (wrap64 (a1 - 1))).bind fun t106 => (some t106)))) = some r := h
  clear h
  by_cases c3 : a1 < 1
  · rw [if_pos c3] at H
    have c3b0 : decide (a1 < 1) = true := decide_eq_true c3
    clear c3
    obtain rfl := Option.some.inj H
    go_enter Try.func19, Try.ntmps19
    go_wp2
    go_ret
    exact ⟨by first | rfl | (simp; done) | (simp [*]; done), by repeat (first | exact Drawn0.refl _ | apply Drawn0.step)⟩
  · rw [if_neg c3] at H
    have c3b0 : decide (a1 < 1) = false := decide_eq_false c3
    clear c3
    by_cases c4 : a1 > 16
    · rw [if_pos c4] at H
      have c4b0 : decide (16 < a1) = true := decide_eq_true c4
      clear c4
      obtain rfl := Option.some.inj H
      go_enter Try.func19, Try.ntmps19
      go_wp2
      go_ret
      exact ⟨by first | rfl | (simp; done) | (simp [*]; done), by repeat (first | exact Drawn0.refl _ | apply Drawn0.step)⟩
    · rw [if_neg c4] at H
      have c4b0 : decide (16 < a1) = false := decide_eq_false c4
      clear c4
      replace H := Option.bind_eq_some_iff.mp H
      obtain ⟨t106, A50, H⟩ := H
      replace H : (some t106) = some r := H
      have A5 := Aside0.mk A50
      clear A50
      obtain rfl := Option.some.inj H
      go_enter Try.func19, Try.ntmps19
      go_wp2_with (first | ((with_reducible refine gate_callee (f := 14) rfl ?_); refine goesL_ (some 14) rfl rfl Try.func14 (by kernel_rfl) rfl #[.int .i64 a0, .int .i64 (wrap64 (a1 - 1))] rfl (by (try simp only [List.map_toArray, List.map_cons, List.map_nil]); first | done | rfl | (simp only [List.length_drop, List.length_take]; rfl)) ?_; (with_reducible refine (seq_Add.calls a0 (wrap64 (a1 - 1)) t106 _ A5.out).mono ?_); rintro e w' ⟨rfl, ⟨nd, rfl⟩⟩; refine ⟨_, rfl, ?_⟩))
      go_ret
      exact ⟨by first | rfl | (simp; done) | (simp [*]; done), by repeat (first | exact Drawn0.refl _ | apply Drawn0.step)⟩

/-! ### bordereaulaw5_known: function 18 -/
def bordereaulaw5_known.f  : Option (Bool) := (seq_Add.f 2147483647 1).bind fun t107 => (if t107 = 0 then ((seq_Last.f 2147483647 2).bind fun t108 => (if t108 = 0 then ((seq_Follows.f (-1) 0).bind fun t109 => (if t109 = true then ((seq_Follows.f (-1) 1).bind fun t110 => (if t110 = true then (some false) else ((seq_Follows.f 2147483647 0).bind fun t111 => (if t111 = true then ((seq_Gap.f 2147483647 1).bind fun t112 => (if t112 = 2 then ((seq_Gap.f (-1) 0).bind fun t113 => (if t113 = (-1) then ((seq_Add.f (-1) 1).bind fun t114 => (if t114 = (-1) then ((seq_Add.f 0 (-1)).bind fun t115 => (if t115 = 2147483647 then ((seq_Right.f (-1)).bind fun t116 => (some (!t116))) else (some false))) else (some false))) else (some false))) else (some false))) else (some false))))) else (some false))) else (some false))) else (some false))
set_option maxHeartbeats 8000000 in
set_option maxRecDepth 100000 in
theorem bordereaulaw5_known.calls  (r : Bool) (w : World) (h : bordereaulaw5_known.f  = some r) :
    Calls Try.prog 18 #[] w fun e w' => e = .returned (.bool r) ∧ Drawn0 w w' := by
  have H : ((seq_Add.f 2147483647 1).bind fun t107 => (if t107 = 0 then ((seq_Last.f 2147483647 2).bind fun t108 => (if t108 = 0 then ((seq_Follows.f (-1) 0).bind fun t109 => (if t109 = true then ((seq_Follows.f (-1) 1).bind fun t110 => (if t110 = true then (some false) else ((seq_Follows.f 2147483647 0).bind fun t111 => (if t111 = true then ((seq_Gap.f 2147483647 1).bind fun t112 => (if t112 = 2 then ((seq_Gap.f (-1) 0).bind fun t113 => (if t113 = (-1) then ((seq_Add.f (-1) 1).bind fun t114 => (if t114 = (-1) then ((seq_Add.f 0 (-1)).bind fun t115 => (if t115 = 2147483647 then ((seq_Right.f (-1)).bind fun t116 => (some (!t116))) else (some false))) else (some false))) else (some false))) else (some false))) else (some false))))) else (some false))) else (some false))) else (some false))) = some r := h
  clear h
  replace H := Option.bind_eq_some_iff.mp H
  obtain ⟨t107, A10, H⟩ := H
  replace H : (if t107 = 0 then ((seq_Last.f 2147483647 2).bind fun t108 => (if t108 = 0 then ((seq_Follows.f (-1) 0).bind fun t109 => (if t109 = true then ((seq_Follows.f (-1) 1).bind fun t110 => (if t110 = true then (some false) else ((seq_Follows.f 2147483647 0).bind fun t111 => (if t111 = true then ((seq_Gap.f 2147483647 1).bind fun t112 => (if t112 = 2 then ((seq_Gap.f (-1) 0).bind fun t113 => (if t113 = (-1) then ((seq_Add.f (-1) 1).bind fun t114 => (if t114 = (-1) then ((seq_Add.f 0 (-1)).bind fun t115 => (if t115 = 2147483647 then ((seq_Right.f (-1)).bind fun t116 => (some (!t116))) else (some false))) else (some false))) else (some false))) else (some false))) else (some false))))) else (some false))) else (some false))) else (some false)) = some r := H
  have A1 := Aside0.mk A10
  clear A10
  by_cases c2 : t107 = 0
  · rw [if_pos c2] at H
    have c2b0 : (t107 == 0) = true := beq_iff_eq.mpr c2
    have c2b1 : (t107 != 0) = false := bne_eq_false_iff_eq.mpr c2
    clear c2
    replace H := Option.bind_eq_some_iff.mp H
    obtain ⟨t108, A30, H⟩ := H
    replace H : (if t108 = 0 then ((seq_Follows.f (-1) 0).bind fun t109 => (if t109 = true then ((seq_Follows.f (-1) 1).bind fun t110 => (if t110 = true then (some false) else ((seq_Follows.f 2147483647 0).bind fun t111 => (if t111 = true then ((seq_Gap.f 2147483647 1).bind fun t112 => (if t112 = 2 then ((seq_Gap.f (-1) 0).bind fun t113 => (if t113 = (-1) then ((seq_Add.f (-1) 1).bind fun t114 => (if t114 = (-1) then ((seq_Add.f 0 (-1)).bind fun t115 => (if t115 = 2147483647 then ((seq_Right.f (-1)).bind fun t116 => (some (!t116))) else (some false))) else (some false))) else (some false))) else (some false))) else (some false))))) else (some false))) else (some false)) = some r := H
    have A3 := Aside0.mk A30
    clear A30
    by_cases c4 : t108 = 0
    · rw [if_pos c4] at H
      have c4b0 : (t108 == 0) = true := beq_iff_eq.mpr c4
      have c4b1 : (t108 != 0) = false := bne_eq_false_iff_eq.mpr c4
      clear c4
      replace H := Option.bind_eq_some_iff.mp H
      obtain ⟨t109, A50, H⟩ := H
      replace H : (if t109 = true then ((seq_Follows.f (-1) 1).bind fun t110 => (if t110 = true then (some false) else ((seq_Follows.f 2147483647 0).bind fun t111 => (if t111 = true then ((seq_Gap.f 2147483647 1).bind fun t112 => (if t112 = 2 then ((seq_Gap.f (-1) 0).bind fun t113 => (if t113 = (-1) then ((seq_Add.f (-1) 1).bind fun t114 => (if t114 = (-1) then ((seq_Add.f 0 (-1)).bind fun t115 => (if t115 = 2147483647 then ((seq_Right.f (-1)).bind fun t116 => (some (!t116))) else (some false))) else (some false))) else (some false))) else (some false))) else (some false))))) else (some false)) = some r := H
      have A5 := Aside0.mk A50
      clear A50
      by_cases c6 : t109 = true
      · subst c6
        have H1 : ((seq_Follows.f (-1) 1).bind fun t110 => (if t110 = true then (some false) else ((seq_Follows.f 2147483647 0).bind fun t111 => (if t111 = true then ((seq_Gap.f 2147483647 1).bind fun t112 => (if t112 = 2 then ((seq_Gap.f (-1) 0).bind fun t113 => (if t113 = (-1) then ((seq_Add.f (-1) 1).bind fun t114 => (if t114 = (-1) then ((seq_Add.f 0 (-1)).bind fun t115 => (if t115 = 2147483647 then ((seq_Right.f (-1)).bind fun t116 => (some (!t116))) else (some false))) else (some false))) else (some false))) else (some false))) else (some false))))) = some r := by rw [if_pos rfl] at H; exact H
        clear H
        have H := H1
        clear H1
        replace H := Option.bind_eq_some_iff.mp H
        obtain ⟨t110, A70, H⟩ := H
        replace H : (if t110 = true then (some false) else ((seq_Follows.f 2147483647 0).bind fun t111 => (if t111 = true then ((seq_Gap.f 2147483647 1).bind fun t112 => (if t112 = 2 then ((seq_Gap.f (-1) 0).bind fun t113 => (if t113 = (-1) then ((seq_Add.f (-1) 1).bind fun t114 => (if t114 = (-1) then ((seq_Add.f 0 (-1)).bind fun t115 => (if t115 = 2147483647 then ((seq_Right.f (-1)).bind fun t116 => (some (!t116))) else (some false))) else (some false))) else (some false))) else (some false))) else (some false)))) = some r := H
        have A7 := Aside0.mk A70
        clear A70
        by_cases c8 : t110 = true
        · subst c8
          have H1 : (some false) = some r := by rw [if_pos rfl] at H; exact H
          clear H
          have H := H1
          clear H1
          obtain rfl := Option.some.inj H
          go_enter Try.func18, Try.ntmps18
          go_wp2_with (first | ((with_reducible refine gate_callee (f := 14) rfl ?_); refine goesL_ (some 1) rfl rfl Try.func14 (by kernel_rfl) rfl #[.int .i64 2147483647, .int .i64 1] rfl (by (try simp only [List.map_toArray, List.map_cons, List.map_nil]); first | done | rfl | (simp only [List.length_drop, List.length_take]; rfl)) ?_; (with_reducible refine (seq_Add.calls 2147483647 1 t107 _ A1.out).mono ?_); rintro e w' ⟨rfl, ⟨nd, rfl⟩⟩; refine ⟨_, rfl, ?_⟩) | (go_at_call 19; (with_reducible refine (seq_Last.calls 2147483647 2 t108 _ A3.out).mono ?_); rintro e w' ⟨rfl, ⟨nd, rfl⟩⟩) | (go_at_call 17; (with_reducible refine (seq_Follows.calls (-1) 0 true _ A5.out).mono ?_); rintro e w' ⟨rfl, ⟨nd, rfl⟩⟩) | (go_at_call 17; (with_reducible refine (seq_Follows.calls (-1) 1 true _ A7.out).mono ?_); rintro e w' ⟨rfl, ⟨nd, rfl⟩⟩))
          go_ret
          exact ⟨by first | rfl | (simp; done) | (simp [*]; done), by repeat (first | exact Drawn0.refl _ | apply Drawn0.step)⟩
        · replace c8 := Bool.eq_false_iff.mpr c8
          subst c8
          have H1 : ((seq_Follows.f 2147483647 0).bind fun t111 => (if t111 = true then ((seq_Gap.f 2147483647 1).bind fun t112 => (if t112 = 2 then ((seq_Gap.f (-1) 0).bind fun t113 => (if t113 = (-1) then ((seq_Add.f (-1) 1).bind fun t114 => (if t114 = (-1) then ((seq_Add.f 0 (-1)).bind fun t115 => (if t115 = 2147483647 then ((seq_Right.f (-1)).bind fun t116 => (some (!t116))) else (some false))) else (some false))) else (some false))) else (some false))) else (some false))) = some r := by rw [if_neg (show ¬ (false = true) by decide)] at H; exact H
          clear H
          have H := H1
          clear H1
          replace H := Option.bind_eq_some_iff.mp H
          obtain ⟨t111, A90, H⟩ := H
          replace H : (if t111 = true then ((seq_Gap.f 2147483647 1).bind fun t112 => (if t112 = 2 then ((seq_Gap.f (-1) 0).bind fun t113 => (if t113 = (-1) then ((seq_Add.f (-1) 1).bind fun t114 => (if t114 = (-1) then ((seq_Add.f 0 (-1)).bind fun t115 => (if t115 = 2147483647 then ((seq_Right.f (-1)).bind fun t116 => (some (!t116))) else (some false))) else (some false))) else (some false))) else (some false))) else (some false)) = some r := H
          have A9 := Aside0.mk A90
          clear A90
          by_cases c10 : t111 = true
          · subst c10
            have H1 : ((seq_Gap.f 2147483647 1).bind fun t112 => (if t112 = 2 then ((seq_Gap.f (-1) 0).bind fun t113 => (if t113 = (-1) then ((seq_Add.f (-1) 1).bind fun t114 => (if t114 = (-1) then ((seq_Add.f 0 (-1)).bind fun t115 => (if t115 = 2147483647 then ((seq_Right.f (-1)).bind fun t116 => (some (!t116))) else (some false))) else (some false))) else (some false))) else (some false))) = some r := by rw [if_pos rfl] at H; exact H
            clear H
            have H := H1
            clear H1
            replace H := Option.bind_eq_some_iff.mp H
            obtain ⟨t112, A110, H⟩ := H
            replace H : (if t112 = 2 then ((seq_Gap.f (-1) 0).bind fun t113 => (if t113 = (-1) then ((seq_Add.f (-1) 1).bind fun t114 => (if t114 = (-1) then ((seq_Add.f 0 (-1)).bind fun t115 => (if t115 = 2147483647 then ((seq_Right.f (-1)).bind fun t116 => (some (!t116))) else (some false))) else (some false))) else (some false))) else (some false)) = some r := H
            have A11 := Aside0.mk A110
            clear A110
            by_cases c12 : t112 = 2
            · rw [if_pos c12] at H
              have c12b0 : (t112 == 2) = true := beq_iff_eq.mpr c12
              have c12b1 : (t112 != 2) = false := bne_eq_false_iff_eq.mpr c12
              clear c12
              replace H := Option.bind_eq_some_iff.mp H
              obtain ⟨t113, A130, H⟩ := H
              replace H : (if t113 = (-1) then ((seq_Add.f (-1) 1).bind fun t114 => (if t114 = (-1) then ((seq_Add.f 0 (-1)).bind fun t115 => (if t115 = 2147483647 then ((seq_Right.f (-1)).bind fun t116 => (some (!t116))) else (some false))) else (some false))) else (some false)) = some r := H
              have A13 := Aside0.mk A130
              clear A130
              by_cases c14 : t113 = (-1)
              · rw [if_pos c14] at H
                have c14b0 : (t113 == (-1)) = true := beq_iff_eq.mpr c14
                have c14b1 : (t113 != (-1)) = false := bne_eq_false_iff_eq.mpr c14
                clear c14
                replace H := Option.bind_eq_some_iff.mp H
                obtain ⟨t114, A150, H⟩ := H
                replace H : (if t114 = (-1) then ((seq_Add.f 0 (-1)).bind fun t115 => (if t115 = 2147483647 then ((seq_Right.f (-1)).bind fun t116 => (some (!t116))) else (some false))) else (some false)) = some r := H
                have A15 := Aside0.mk A150
                clear A150
                by_cases c16 : t114 = (-1)
                · rw [if_pos c16] at H
                  have c16b0 : (t114 == (-1)) = true := beq_iff_eq.mpr c16
                  have c16b1 : (t114 != (-1)) = false := bne_eq_false_iff_eq.mpr c16
                  clear c16
                  replace H := Option.bind_eq_some_iff.mp H
                  obtain ⟨t115, A170, H⟩ := H
                  replace H : (if t115 = 2147483647 then ((seq_Right.f (-1)).bind fun t116 => (some (!t116))) else (some false)) = some r := H
                  have A17 := Aside0.mk A170
                  clear A170
                  by_cases c18 : t115 = 2147483647
                  · rw [if_pos c18] at H
                    have c18b0 : (t115 == 2147483647) = true := beq_iff_eq.mpr c18
                    have c18b1 : (t115 != 2147483647) = false := bne_eq_false_iff_eq.mpr c18
                    clear c18
                    replace H := Option.bind_eq_some_iff.mp H
                    obtain ⟨t116, A190, H⟩ := H
                    replace H : (some (!t116)) = some r := H
                    have A19 := Aside0.mk A190
                    clear A190
                    obtain rfl := Option.some.inj H
                    go_enter Try.func18, Try.ntmps18
                    go_wp2_with (first | ((with_reducible refine gate_callee (f := 14) rfl ?_); refine goesL_ (some 1) rfl rfl Try.func14 (by kernel_rfl) rfl #[.int .i64 2147483647, .int .i64 1] rfl (by (try simp only [List.map_toArray, List.map_cons, List.map_nil]); first | done | rfl | (simp only [List.length_drop, List.length_take]; rfl)) ?_; (with_reducible refine (seq_Add.calls 2147483647 1 t107 _ A1.out).mono ?_); rintro e w' ⟨rfl, ⟨nd, rfl⟩⟩; refine ⟨_, rfl, ?_⟩) | (go_at_call 19; (with_reducible refine (seq_Last.calls 2147483647 2 t108 _ A3.out).mono ?_); rintro e w' ⟨rfl, ⟨nd, rfl⟩⟩) | (go_at_call 17; (with_reducible refine (seq_Follows.calls (-1) 0 true _ A5.out).mono ?_); rintro e w' ⟨rfl, ⟨nd, rfl⟩⟩) | (go_at_call 17; (with_reducible refine (seq_Follows.calls (-1) 1 false _ A7.out).mono ?_); rintro e w' ⟨rfl, ⟨nd, rfl⟩⟩) | (go_at_call 17; (with_reducible refine (seq_Follows.calls 2147483647 0 true _ A9.out).mono ?_); rintro e w' ⟨rfl, ⟨nd, rfl⟩⟩) | (go_at_call 16; (with_reducible refine (seq_Gap.calls 2147483647 1 t112 _ A11.out).mono ?_); rintro e w' ⟨rfl, ⟨nd, rfl⟩⟩) | (go_at_call 16; (with_reducible refine (seq_Gap.calls (-1) 0 t113 _ A13.out).mono ?_); rintro e w' ⟨rfl, ⟨nd, rfl⟩⟩) | (go_at_call 14; (with_reducible refine (seq_Add.calls (-1) 1 t114 _ A15.out).mono ?_); rintro e w' ⟨rfl, ⟨nd, rfl⟩⟩) | (go_at_call 14; (with_reducible refine (seq_Add.calls 0 (-1) t115 _ A17.out).mono ?_); rintro e w' ⟨rfl, ⟨nd, rfl⟩⟩) | (go_at_call 15; (with_reducible refine (seq_Right.calls (-1) t116 _ A19.out).mono ?_); rintro e w' ⟨rfl, ⟨nd, rfl⟩⟩))
                    go_ret
                    exact ⟨by first | rfl | (simp; done) | (simp [*]; done), by repeat (first | exact Drawn0.refl _ | apply Drawn0.step)⟩
                  · rw [if_neg c18] at H
                    have c18b0 : (t115 == 2147483647) = false := beq_eq_false_iff_ne.mpr c18
                    have c18b1 : (t115 != 2147483647) = true := bne_iff_ne.mpr c18
                    obtain rfl := Option.some.inj H
                    go_enter Try.func18, Try.ntmps18
                    go_wp2_with (first | ((with_reducible refine gate_callee (f := 14) rfl ?_); refine goesL_ (some 1) rfl rfl Try.func14 (by kernel_rfl) rfl #[.int .i64 2147483647, .int .i64 1] rfl (by (try simp only [List.map_toArray, List.map_cons, List.map_nil]); first | done | rfl | (simp only [List.length_drop, List.length_take]; rfl)) ?_; (with_reducible refine (seq_Add.calls 2147483647 1 t107 _ A1.out).mono ?_); rintro e w' ⟨rfl, ⟨nd, rfl⟩⟩; refine ⟨_, rfl, ?_⟩) | (go_at_call 19; (with_reducible refine (seq_Last.calls 2147483647 2 t108 _ A3.out).mono ?_); rintro e w' ⟨rfl, ⟨nd, rfl⟩⟩) | (go_at_call 17; (with_reducible refine (seq_Follows.calls (-1) 0 true _ A5.out).mono ?_); rintro e w' ⟨rfl, ⟨nd, rfl⟩⟩) | (go_at_call 17; (with_reducible refine (seq_Follows.calls (-1) 1 false _ A7.out).mono ?_); rintro e w' ⟨rfl, ⟨nd, rfl⟩⟩) | (go_at_call 17; (with_reducible refine (seq_Follows.calls 2147483647 0 true _ A9.out).mono ?_); rintro e w' ⟨rfl, ⟨nd, rfl⟩⟩) | (go_at_call 16; (with_reducible refine (seq_Gap.calls 2147483647 1 t112 _ A11.out).mono ?_); rintro e w' ⟨rfl, ⟨nd, rfl⟩⟩) | (go_at_call 16; (with_reducible refine (seq_Gap.calls (-1) 0 t113 _ A13.out).mono ?_); rintro e w' ⟨rfl, ⟨nd, rfl⟩⟩) | (go_at_call 14; (with_reducible refine (seq_Add.calls (-1) 1 t114 _ A15.out).mono ?_); rintro e w' ⟨rfl, ⟨nd, rfl⟩⟩) | (go_at_call 14; (with_reducible refine (seq_Add.calls 0 (-1) t115 _ A17.out).mono ?_); rintro e w' ⟨rfl, ⟨nd, rfl⟩⟩))
                    go_ret
                    exact ⟨by first | rfl | (simp; done) | (simp [*]; done), by repeat (first | exact Drawn0.refl _ | apply Drawn0.step)⟩
                · rw [if_neg c16] at H
                  have c16b0 : (t114 == (-1)) = false := beq_eq_false_iff_ne.mpr c16
                  have c16b1 : (t114 != (-1)) = true := bne_iff_ne.mpr c16
                  obtain rfl := Option.some.inj H
                  go_enter Try.func18, Try.ntmps18
                  go_wp2_with (first | ((with_reducible refine gate_callee (f := 14) rfl ?_); refine goesL_ (some 1) rfl rfl Try.func14 (by kernel_rfl) rfl #[.int .i64 2147483647, .int .i64 1] rfl (by (try simp only [List.map_toArray, List.map_cons, List.map_nil]); first | done | rfl | (simp only [List.length_drop, List.length_take]; rfl)) ?_; (with_reducible refine (seq_Add.calls 2147483647 1 t107 _ A1.out).mono ?_); rintro e w' ⟨rfl, ⟨nd, rfl⟩⟩; refine ⟨_, rfl, ?_⟩) | (go_at_call 19; (with_reducible refine (seq_Last.calls 2147483647 2 t108 _ A3.out).mono ?_); rintro e w' ⟨rfl, ⟨nd, rfl⟩⟩) | (go_at_call 17; (with_reducible refine (seq_Follows.calls (-1) 0 true _ A5.out).mono ?_); rintro e w' ⟨rfl, ⟨nd, rfl⟩⟩) | (go_at_call 17; (with_reducible refine (seq_Follows.calls (-1) 1 false _ A7.out).mono ?_); rintro e w' ⟨rfl, ⟨nd, rfl⟩⟩) | (go_at_call 17; (with_reducible refine (seq_Follows.calls 2147483647 0 true _ A9.out).mono ?_); rintro e w' ⟨rfl, ⟨nd, rfl⟩⟩) | (go_at_call 16; (with_reducible refine (seq_Gap.calls 2147483647 1 t112 _ A11.out).mono ?_); rintro e w' ⟨rfl, ⟨nd, rfl⟩⟩) | (go_at_call 16; (with_reducible refine (seq_Gap.calls (-1) 0 t113 _ A13.out).mono ?_); rintro e w' ⟨rfl, ⟨nd, rfl⟩⟩) | (go_at_call 14; (with_reducible refine (seq_Add.calls (-1) 1 t114 _ A15.out).mono ?_); rintro e w' ⟨rfl, ⟨nd, rfl⟩⟩))
                  go_ret
                  exact ⟨by first | rfl | (simp; done) | (simp [*]; done), by repeat (first | exact Drawn0.refl _ | apply Drawn0.step)⟩
              · rw [if_neg c14] at H
                have c14b0 : (t113 == (-1)) = false := beq_eq_false_iff_ne.mpr c14
                have c14b1 : (t113 != (-1)) = true := bne_iff_ne.mpr c14
                obtain rfl := Option.some.inj H
                go_enter Try.func18, Try.ntmps18
                go_wp2_with (first | ((with_reducible refine gate_callee (f := 14) rfl ?_); refine goesL_ (some 1) rfl rfl Try.func14 (by kernel_rfl) rfl #[.int .i64 2147483647, .int .i64 1] rfl (by (try simp only [List.map_toArray, List.map_cons, List.map_nil]); first | done | rfl | (simp only [List.length_drop, List.length_take]; rfl)) ?_; (with_reducible refine (seq_Add.calls 2147483647 1 t107 _ A1.out).mono ?_); rintro e w' ⟨rfl, ⟨nd, rfl⟩⟩; refine ⟨_, rfl, ?_⟩) | (go_at_call 19; (with_reducible refine (seq_Last.calls 2147483647 2 t108 _ A3.out).mono ?_); rintro e w' ⟨rfl, ⟨nd, rfl⟩⟩) | (go_at_call 17; (with_reducible refine (seq_Follows.calls (-1) 0 true _ A5.out).mono ?_); rintro e w' ⟨rfl, ⟨nd, rfl⟩⟩) | (go_at_call 17; (with_reducible refine (seq_Follows.calls (-1) 1 false _ A7.out).mono ?_); rintro e w' ⟨rfl, ⟨nd, rfl⟩⟩) | (go_at_call 17; (with_reducible refine (seq_Follows.calls 2147483647 0 true _ A9.out).mono ?_); rintro e w' ⟨rfl, ⟨nd, rfl⟩⟩) | (go_at_call 16; (with_reducible refine (seq_Gap.calls 2147483647 1 t112 _ A11.out).mono ?_); rintro e w' ⟨rfl, ⟨nd, rfl⟩⟩) | (go_at_call 16; (with_reducible refine (seq_Gap.calls (-1) 0 t113 _ A13.out).mono ?_); rintro e w' ⟨rfl, ⟨nd, rfl⟩⟩))
                go_ret
                exact ⟨by first | rfl | (simp; done) | (simp [*]; done), by repeat (first | exact Drawn0.refl _ | apply Drawn0.step)⟩
            · rw [if_neg c12] at H
              have c12b0 : (t112 == 2) = false := beq_eq_false_iff_ne.mpr c12
              have c12b1 : (t112 != 2) = true := bne_iff_ne.mpr c12
              obtain rfl := Option.some.inj H
              go_enter Try.func18, Try.ntmps18
              go_wp2_with (first | ((with_reducible refine gate_callee (f := 14) rfl ?_); refine goesL_ (some 1) rfl rfl Try.func14 (by kernel_rfl) rfl #[.int .i64 2147483647, .int .i64 1] rfl (by (try simp only [List.map_toArray, List.map_cons, List.map_nil]); first | done | rfl | (simp only [List.length_drop, List.length_take]; rfl)) ?_; (with_reducible refine (seq_Add.calls 2147483647 1 t107 _ A1.out).mono ?_); rintro e w' ⟨rfl, ⟨nd, rfl⟩⟩; refine ⟨_, rfl, ?_⟩) | (go_at_call 19; (with_reducible refine (seq_Last.calls 2147483647 2 t108 _ A3.out).mono ?_); rintro e w' ⟨rfl, ⟨nd, rfl⟩⟩) | (go_at_call 17; (with_reducible refine (seq_Follows.calls (-1) 0 true _ A5.out).mono ?_); rintro e w' ⟨rfl, ⟨nd, rfl⟩⟩) | (go_at_call 17; (with_reducible refine (seq_Follows.calls (-1) 1 false _ A7.out).mono ?_); rintro e w' ⟨rfl, ⟨nd, rfl⟩⟩) | (go_at_call 17; (with_reducible refine (seq_Follows.calls 2147483647 0 true _ A9.out).mono ?_); rintro e w' ⟨rfl, ⟨nd, rfl⟩⟩) | (go_at_call 16; (with_reducible refine (seq_Gap.calls 2147483647 1 t112 _ A11.out).mono ?_); rintro e w' ⟨rfl, ⟨nd, rfl⟩⟩))
              go_ret
              exact ⟨by first | rfl | (simp; done) | (simp [*]; done), by repeat (first | exact Drawn0.refl _ | apply Drawn0.step)⟩
          · replace c10 := Bool.eq_false_iff.mpr c10
            subst c10
            have H1 : (some false) = some r := by rw [if_neg (show ¬ (false = true) by decide)] at H; exact H
            clear H
            have H := H1
            clear H1
            obtain rfl := Option.some.inj H
            go_enter Try.func18, Try.ntmps18
            go_wp2_with (first | ((with_reducible refine gate_callee (f := 14) rfl ?_); refine goesL_ (some 1) rfl rfl Try.func14 (by kernel_rfl) rfl #[.int .i64 2147483647, .int .i64 1] rfl (by (try simp only [List.map_toArray, List.map_cons, List.map_nil]); first | done | rfl | (simp only [List.length_drop, List.length_take]; rfl)) ?_; (with_reducible refine (seq_Add.calls 2147483647 1 t107 _ A1.out).mono ?_); rintro e w' ⟨rfl, ⟨nd, rfl⟩⟩; refine ⟨_, rfl, ?_⟩) | (go_at_call 19; (with_reducible refine (seq_Last.calls 2147483647 2 t108 _ A3.out).mono ?_); rintro e w' ⟨rfl, ⟨nd, rfl⟩⟩) | (go_at_call 17; (with_reducible refine (seq_Follows.calls (-1) 0 true _ A5.out).mono ?_); rintro e w' ⟨rfl, ⟨nd, rfl⟩⟩) | (go_at_call 17; (with_reducible refine (seq_Follows.calls (-1) 1 false _ A7.out).mono ?_); rintro e w' ⟨rfl, ⟨nd, rfl⟩⟩) | (go_at_call 17; (with_reducible refine (seq_Follows.calls 2147483647 0 false _ A9.out).mono ?_); rintro e w' ⟨rfl, ⟨nd, rfl⟩⟩))
            go_ret
            exact ⟨by first | rfl | (simp; done) | (simp [*]; done), by repeat (first | exact Drawn0.refl _ | apply Drawn0.step)⟩
      · replace c6 := Bool.eq_false_iff.mpr c6
        subst c6
        have H1 : (some false) = some r := by rw [if_neg (show ¬ (false = true) by decide)] at H; exact H
        clear H
        have H := H1
        clear H1
        obtain rfl := Option.some.inj H
        go_enter Try.func18, Try.ntmps18
        go_wp2_with (first | ((with_reducible refine gate_callee (f := 14) rfl ?_); refine goesL_ (some 1) rfl rfl Try.func14 (by kernel_rfl) rfl #[.int .i64 2147483647, .int .i64 1] rfl (by (try simp only [List.map_toArray, List.map_cons, List.map_nil]); first | done | rfl | (simp only [List.length_drop, List.length_take]; rfl)) ?_; (with_reducible refine (seq_Add.calls 2147483647 1 t107 _ A1.out).mono ?_); rintro e w' ⟨rfl, ⟨nd, rfl⟩⟩; refine ⟨_, rfl, ?_⟩) | (go_at_call 19; (with_reducible refine (seq_Last.calls 2147483647 2 t108 _ A3.out).mono ?_); rintro e w' ⟨rfl, ⟨nd, rfl⟩⟩) | (go_at_call 17; (with_reducible refine (seq_Follows.calls (-1) 0 false _ A5.out).mono ?_); rintro e w' ⟨rfl, ⟨nd, rfl⟩⟩))
        go_ret
        exact ⟨by first | rfl | (simp; done) | (simp [*]; done), by repeat (first | exact Drawn0.refl _ | apply Drawn0.step)⟩
    · rw [if_neg c4] at H
      have c4b0 : (t108 == 0) = false := beq_eq_false_iff_ne.mpr c4
      have c4b1 : (t108 != 0) = true := bne_iff_ne.mpr c4
      obtain rfl := Option.some.inj H
      go_enter Try.func18, Try.ntmps18
      go_wp2_with (first | ((with_reducible refine gate_callee (f := 14) rfl ?_); refine goesL_ (some 1) rfl rfl Try.func14 (by kernel_rfl) rfl #[.int .i64 2147483647, .int .i64 1] rfl (by (try simp only [List.map_toArray, List.map_cons, List.map_nil]); first | done | rfl | (simp only [List.length_drop, List.length_take]; rfl)) ?_; (with_reducible refine (seq_Add.calls 2147483647 1 t107 _ A1.out).mono ?_); rintro e w' ⟨rfl, ⟨nd, rfl⟩⟩; refine ⟨_, rfl, ?_⟩) | (go_at_call 19; (with_reducible refine (seq_Last.calls 2147483647 2 t108 _ A3.out).mono ?_); rintro e w' ⟨rfl, ⟨nd, rfl⟩⟩))
      go_ret
      exact ⟨by first | rfl | (simp; done) | (simp [*]; done), by repeat (first | exact Drawn0.refl _ | apply Drawn0.step)⟩
  · rw [if_neg c2] at H
    have c2b0 : (t107 == 0) = false := beq_eq_false_iff_ne.mpr c2
    have c2b1 : (t107 != 0) = true := bne_iff_ne.mpr c2
    obtain rfl := Option.some.inj H
    go_enter Try.func18, Try.ntmps18
    go_wp2_with (first | ((with_reducible refine gate_callee (f := 14) rfl ?_); refine goesL_ (some 1) rfl rfl Try.func14 (by kernel_rfl) rfl #[.int .i64 2147483647, .int .i64 1] rfl (by (try simp only [List.map_toArray, List.map_cons, List.map_nil]); first | done | rfl | (simp only [List.length_drop, List.length_take]; rfl)) ?_; (with_reducible refine (seq_Add.calls 2147483647 1 t107 _ A1.out).mono ?_); rintro e w' ⟨rfl, ⟨nd, rfl⟩⟩; refine ⟨_, rfl, ?_⟩))
    go_ret
    exact ⟨by first | rfl | (simp; done) | (simp [*]; done), by repeat (first | exact Drawn0.refl _ | apply Drawn0.step)⟩

/-! ### bordereaulaw5_SeqRound: function 3 -/
def bordereaulaw5_SeqRound.f (a0 : Int) (a1 : Int) (a2 : Int) : Option (Bool) := (seq_Add.f (Go.bits .and .i64 a0 2147483647) (Go.bits .and .i64 a2 16777215)).bind fun t117 => ((seq_Right.f t117).bind fun t118 => (if t118 = true then ((seq_Add.f t117 (wrap64 (-(Go.bits .and .i64 a2 16777215)))).bind fun t119 => (if t119 = (Go.bits .and .i64 a0 2147483647) then ((seq_Gap.f (Go.bits .and .i64 a0 2147483647) t117).bind fun t120 => (if t120 = (Go.bits .and .i64 a2 16777215) then ((seq_Gap.f (Go.bits .and .i64 a0 2147483647) (Go.bits .and .i64 a1 2147483647)).bind fun t121 => ((seq_Add.f (Go.bits .and .i64 a0 2147483647) t121).bind fun t122 => (if t122 = (Go.bits .and .i64 a1 2147483647) then ((seq_Add.f (Go.bits .and .i64 a0 2147483647) 1).bind fun t123 => ((seq_Follows.f (Go.bits .and .i64 a0 2147483647) t123).bind fun t124 => (if t124 = true then ((seq_Gap.f (Go.bits .and .i64 a1 2147483647) (Go.bits .and .i64 a0 2147483647)).bind fun t125 => (if (((wrap64 (t121 + t125)) == 0) == ((Go.bits .and .i64 a0 2147483647) == (Go.bits .and .i64 a1 2147483647))) = true then ((seq_Add.f t117 7).bind fun t126 => ((seq_Add.f (Go.bits .and .i64 a0 2147483647) (wrap64 ((Go.bits .and .i64 a2 16777215) + 7))).bind fun t127 => (if t126 = t127 then ((bordereaulaw5_known.f).bind fun t128 => (some t128)) else (some false)))) else (some false))) else (some false)))) else (some false)))) else (some false))) else (some false))) else (some false)))
set_option maxHeartbeats 8000000 in
set_option maxRecDepth 100000 in
theorem bordereaulaw5_SeqRound.calls (a0 : Int) (a1 : Int) (a2 : Int) (r : Bool) (w : World) (h : bordereaulaw5_SeqRound.f a0 a1 a2 = some r) :
    Calls Try.prog 3 #[.int .i64 a0, .int .i64 a1, .int .i64 a2] w fun e w' => e = .returned (.bool r) ∧ Drawn0 w w' := by
  have H : ((seq_Add.f (Go.bits .and .i64 a0 2147483647) (Go.bits .and .i64 a2 16777215)).bind fun t117 => ((seq_Right.f t117).bind fun t118 => (if t118 = true then ((seq_Add.f t117 (wrap64 (-(Go.bits .and .i64 a2 16777215)))).bind fun t119 => (if t119 = (Go.bits .and .i64 a0 2147483647) then ((seq_Gap.f (Go.bits .and .i64 a0 2147483647) t117).bind fun t120 => (if t120 = (Go.bits .and .i64 a2 16777215) then ((seq_Gap.f (Go.bits .and .i64 a0 2147483647) (Go.bits .and .i64 a1 2147483647)).bind fun t121 => ((seq_Add.f (Go.bits .and .i64 a0 2147483647) t121).bind fun t122 => (if t122 = (Go.bits .and .i64 a1 2147483647) then ((seq_Add.f (Go.bits .and .i64 a0 2147483647) 1).bind fun t123 => ((seq_Follows.f (Go.bits .and .i64 a0 2147483647) t123).bind fun t124 => (if t124 = true then ((seq_Gap.f (Go.bits .and .i64 a1 2147483647) (Go.bits .and .i64 a0 2147483647)).bind fun t125 => (if (((wrap64 (t121 + t125)) == 0) == ((Go.bits .and .i64 a0 2147483647) == (Go.bits .and .i64 a1 2147483647))) = true then ((seq_Add.f t117 7).bind fun t126 => ((seq_Add.f (Go.bits .and .i64 a0 2147483647) (wrap64 ((Go.bits .and .i64 a2 16777215) + 7))).bind fun t127 => (if t126 = t127 then ((bordereaulaw5_known.f).bind fun t128 => (some t128)) else (some false)))) else (some false))) else (some false)))) else (some false)))) else (some false))) else (some false))) else (some false)))) = some r := h
  clear h
  replace H := Option.bind_eq_some_iff.mp H
  obtain ⟨t117, A40, H⟩ := H
  replace H : ((seq_Right.f t117).bind fun t118 => (if t118 = true then ((seq_Add.f t117 (wrap64 (-(Go.bits .and .i64 a2 16777215)))).bind fun t119 => (if t119 = (Go.bits .and .i64 a0 2147483647) then ((seq_Gap.f (Go.bits .and .i64 a0 2147483647) t117).bind fun t120 => (if t120 = (Go.bits .and .i64 a2 16777215) then ((seq_Gap.f (Go.bits .and .i64 a0 2147483647) (Go.bits .and .i64 a1 2147483647)).bind fun t121 => ((seq_Add.f (Go.bits .and .i64 a0 2147483647) t121).bind fun t122 => (if t122 = (Go.bits .and .i64 a1 2147483647) then ((seq_Add.f (Go.bits .and .i64 a0 2147483647) 1).bind fun t123 => ((seq_Follows.f (Go.bits .and .i64 a0 2147483647) t123).bind fun t124 => (if t124 = true then ((seq_Gap.f (Go.bits .and .i64 a1 2147483647) (Go.bits .and .i64 a0 2147483647)).bind fun t125 => (if (((wrap64 (t121 + t125)) == 0) == ((Go.bits .and .i64 a0 2147483647) == (Go.bits .and .i64 a1 2147483647))) = true then ((seq_Add.f t117 7).bind fun t126 => ((seq_Add.f (Go.bits .and .i64 a0 2147483647) (wrap64 ((Go.bits .and .i64 a2 16777215) + 7))).bind fun t127 => (if t126 = t127 then ((bordereaulaw5_known.f).bind fun t128 => (some t128)) else (some false)))) else (some false))) else (some false)))) else (some false)))) else (some false))) else (some false))) else (some false))) = some r := H
  have A4 := Aside0.mk A40
  clear A40
  replace H := Option.bind_eq_some_iff.mp H
  obtain ⟨t118, A50, H⟩ := H
  replace H : (if t118 = true then ((seq_Add.f t117 (wrap64 (-(Go.bits .and .i64 a2 16777215)))).bind fun t119 => (if t119 = (Go.bits .and .i64 a0 2147483647) then ((seq_Gap.f (Go.bits .and .i64 a0 2147483647) t117).bind fun t120 => (if t120 = (Go.bits .and .i64 a2 16777215) then ((seq_Gap.f (Go.bits .and .i64 a0 2147483647) (Go.bits .and .i64 a1 2147483647)).bind fun t121 => ((seq_Add.f (Go.bits .and .i64 a0 2147483647) t121).bind fun t122 => (if t122 = (Go.bits .and .i64 a1 2147483647) then ((seq_Add.f (Go.bits .and .i64 a0 2147483647) 1).bind fun t123 => ((seq_Follows.f (Go.bits .and .i64 a0 2147483647) t123).bind fun t124 => (if t124 = true then ((seq_Gap.f (Go.bits .and .i64 a1 2147483647) (Go.bits .and .i64 a0 2147483647)).bind fun t125 => (if (((wrap64 (t121 + t125)) == 0) == ((Go.bits .and .i64 a0 2147483647) == (Go.bits .and .i64 a1 2147483647))) = true then ((seq_Add.f t117 7).bind fun t126 => ((seq_Add.f (Go.bits .and .i64 a0 2147483647) (wrap64 ((Go.bits .and .i64 a2 16777215) + 7))).bind fun t127 => (if t126 = t127 then ((bordereaulaw5_known.f).bind fun t128 => (some t128)) else (some false)))) else (some false))) else (some false)))) else (some false)))) else (some false))) else (some false))) else (some false)) = some r := H
  have A5 := Aside0.mk A50
  clear A50
  by_cases c6 : t118 = true
  · subst c6
    have H1 : ((seq_Add.f t117 (wrap64 (-(Go.bits .and .i64 a2 16777215)))).bind fun t119 => (if t119 = (Go.bits .and .i64 a0 2147483647) then ((seq_Gap.f (Go.bits .and .i64 a0 2147483647) t117).bind fun t120 => (if t120 = (Go.bits .and .i64 a2 16777215) then ((seq_Gap.f (Go.bits .and .i64 a0 2147483647) (Go.bits .and .i64 a1 2147483647)).bind fun t121 => ((seq_Add.f (Go.bits .and .i64 a0 2147483647) t121).bind fun t122 => (if t122 = (Go.bits .and .i64 a1 2147483647) then ((seq_Add.f (Go.bits .and .i64 a0 2147483647) 1).bind fun t123 => ((seq_Follows.f (Go.bits .and .i64 a0 2147483647) t123).bind fun t124 => (if t124 = true then ((seq_Gap.f (Go.bits .and .i64 a1 2147483647) (Go.bits .and .i64 a0 2147483647)).bind fun t125 => (if (((wrap64 (t121 + t125)) == 0) == ((Go.bits .and .i64 a0 2147483647) == (Go.bits .and .i64 a1 2147483647))) = true then ((seq_Add.f t117 7).bind fun t126 => ((seq_Add.f (Go.bits .and .i64 a0 2147483647) (wrap64 ((Go.bits .and .i64 a2 16777215) + 7))).bind fun t127 => (if t126 = t127 then ((bordereaulaw5_known.f).bind fun t128 => (some t128)) else (some false)))) else (some false))) else (some false)))) else (some false)))) else (some false))) else (some false))) = some r := by rw [if_pos rfl] at H; exact H
    clear H
    have H := H1
    clear H1
    replace H := Option.bind_eq_some_iff.mp H
    obtain ⟨t119, A70, H⟩ := H
    replace H : (if t119 = (Go.bits .and .i64 a0 2147483647) then ((seq_Gap.f (Go.bits .and .i64 a0 2147483647) t117).bind fun t120 => (if t120 = (Go.bits .and .i64 a2 16777215) then ((seq_Gap.f (Go.bits .and .i64 a0 2147483647) (Go.bits .and .i64 a1 2147483647)).bind fun t121 => ((seq_Add.f (Go.bits .and .i64 a0 2147483647) t121).bind fun t122 => (if t122 = (Go.bits .and .i64 a1 2147483647) then ((seq_Add.f (Go.bits .and .i64 a0 2147483647) 1).bind fun t123 => ((seq_Follows.f (Go.bits .and .i64 a0 2147483647) t123).bind fun t124 => (if t124 = true then ((seq_Gap.f (Go.bits .and .i64 a1 2147483647) (Go.bits .and .i64 a0 2147483647)).bind fun t125 => (if (((wrap64 (t121 + t125)) == 0) == ((Go.bits .and .i64 a0 2147483647) == (Go.bits .and .i64 a1 2147483647))) = true then ((seq_Add.f t117 7).bind fun t126 => ((seq_Add.f (Go.bits .and .i64 a0 2147483647) (wrap64 ((Go.bits .and .i64 a2 16777215) + 7))).bind fun t127 => (if t126 = t127 then ((bordereaulaw5_known.f).bind fun t128 => (some t128)) else (some false)))) else (some false))) else (some false)))) else (some false)))) else (some false))) else (some false)) = some r := H
    have A7 := Aside0.mk A70
    clear A70
    by_cases c8 : t119 = (Go.bits .and .i64 a0 2147483647)
    · rw [if_pos c8] at H
      have c8b0 : (t119 == (Go.bits .and .i64 a0 2147483647)) = true := beq_iff_eq.mpr c8
      have c8b1 : (t119 != (Go.bits .and .i64 a0 2147483647)) = false := bne_eq_false_iff_eq.mpr c8
      clear c8
      replace H := Option.bind_eq_some_iff.mp H
      obtain ⟨t120, A90, H⟩ := H
      replace H : (if t120 = (Go.bits .and .i64 a2 16777215) then ((seq_Gap.f (Go.bits .and .i64 a0 2147483647) (Go.bits .and .i64 a1 2147483647)).bind fun t121 => ((seq_Add.f (Go.bits .and .i64 a0 2147483647) t121).bind fun t122 => (if t122 = (Go.bits .and .i64 a1 2147483647) then ((seq_Add.f (Go.bits .and .i64 a0 2147483647) 1).bind fun t123 => ((seq_Follows.f (Go.bits .and .i64 a0 2147483647) t123).bind fun t124 => (if t124 = true then ((seq_Gap.f (Go.bits .and .i64 a1 2147483647) (Go.bits .and .i64 a0 2147483647)).bind fun t125 => (if (((wrap64 (t121 + t125)) == 0) == ((Go.bits .and .i64 a0 2147483647) == (Go.bits .and .i64 a1 2147483647))) = true then ((seq_Add.f t117 7).bind fun t126 => ((seq_Add.f (Go.bits .and .i64 a0 2147483647) (wrap64 ((Go.bits .and .i64 a2 16777215) + 7))).bind fun t127 => (if t126 = t127 then ((bordereaulaw5_known.f).bind fun t128 => (some t128)) else (some false)))) else (some false))) else (some false)))) else (some false)))) else (some false)) = some r := H
      have A9 := Aside0.mk A90
      clear A90
      by_cases c10 : t120 = (Go.bits .and .i64 a2 16777215)
      · rw [if_pos c10] at H
        have c10b0 : (t120 == (Go.bits .and .i64 a2 16777215)) = true := beq_iff_eq.mpr c10
        have c10b1 : (t120 != (Go.bits .and .i64 a2 16777215)) = false := bne_eq_false_iff_eq.mpr c10
        clear c10
        replace H := Option.bind_eq_some_iff.mp H
        obtain ⟨t121, A110, H⟩ := H
        replace H : ((seq_Add.f (Go.bits .and .i64 a0 2147483647) t121).bind fun t122 => (if t122 = (Go.bits .and .i64 a1 2147483647) then ((seq_Add.f (Go.bits .and .i64 a0 2147483647) 1).bind fun t123 => ((seq_Follows.f (Go.bits .and .i64 a0 2147483647) t123).bind fun t124 => (if t124 = true then ((seq_Gap.f (Go.bits .and .i64 a1 2147483647) (Go.bits .and .i64 a0 2147483647)).bind fun t125 => (if (((wrap64 (t121 + t125)) == 0) == ((Go.bits .and .i64 a0 2147483647) == (Go.bits .and .i64 a1 2147483647))) = true then ((seq_Add.f t117 7).bind fun t126 => ((seq_Add.f (Go.bits .and .i64 a0 2147483647) (wrap64 ((Go.bits .and .i64 a2 16777215) + 7))).bind fun t127 => (if t126 = t127 then ((bordereaulaw5_known.f).bind fun t128 => (some t128)) else (some false)))) else (some false))) else (some false)))) else (some false))) = some r := H
        have A11 := Aside0.mk A110
        clear A110
        replace H := Option.bind_eq_some_iff.mp H
        obtain ⟨t122, A120, H⟩ := H
        replace H : (if t122 = (Go.bits .and .i64 a1 2147483647) then ((seq_Add.f (Go.bits .and .i64 a0 2147483647) 1).bind fun t123 => ((seq_Follows.f (Go.bits .and .i64 a0 2147483647) t123).bind fun t124 => (if t124 = true then ((seq_Gap.f (Go.bits .and .i64 a1 2147483647) (Go.bits .and .i64 a0 2147483647)).bind fun t125 => (if (((wrap64 (t121 + t125)) == 0) == ((Go.bits .and .i64 a0 2147483647) == (Go.bits .and .i64 a1 2147483647))) = true then ((seq_Add.f t117 7).bind fun t126 => ((seq_Add.f (Go.bits .and .i64 a0 2147483647) (wrap64 ((Go.bits .and .i64 a2 16777215) + 7))).bind fun t127 => (if t126 = t127 then ((bordereaulaw5_known.f).bind fun t128 => (some t128)) else (some false)))) else (some false))) else (some false)))) else (some false)) = some r := H
        have A12 := Aside0.mk A120
        clear A120
        by_cases c13 : t122 = (Go.bits .and .i64 a1 2147483647)
        · rw [if_pos c13] at H
          have c13b0 : (t122 == (Go.bits .and .i64 a1 2147483647)) = true := beq_iff_eq.mpr c13
          have c13b1 : (t122 != (Go.bits .and .i64 a1 2147483647)) = false := bne_eq_false_iff_eq.mpr c13
          clear c13
          replace H := Option.bind_eq_some_iff.mp H
          obtain ⟨t123, A140, H⟩ := H
          replace H : ((seq_Follows.f (Go.bits .and .i64 a0 2147483647) t123).bind fun t124 => (if t124 = true then ((seq_Gap.f (Go.bits .and .i64 a1 2147483647) (Go.bits .and .i64 a0 2147483647)).bind fun t125 => (if (((wrap64 (t121 + t125)) == 0) == ((Go.bits .and .i64 a0 2147483647) == (Go.bits .and .i64 a1 2147483647))) = true then ((seq_Add.f t117 7).bind fun t126 => ((seq_Add.f (Go.bits .and .i64 a0 2147483647) (wrap64 ((Go.bits .and .i64 a2 16777215) + 7))).bind fun t127 => (if t126 = t127 then ((bordereaulaw5_known.f).bind fun t128 => (some t128)) else (some false)))) else (some false))) else (some false))) = some r := H
          have A14 := Aside0.mk A140
          clear A140
          replace H := Option.bind_eq_some_iff.mp H
          obtain ⟨t124, A150, H⟩ := H
          replace H : (if t124 = true then ((seq_Gap.f (Go.bits .and .i64 a1 2147483647) (Go.bits .and .i64 a0 2147483647)).bind fun t125 => (if (((wrap64 (t121 + t125)) == 0) == ((Go.bits .and .i64 a0 2147483647) == (Go.bits .and .i64 a1 2147483647))) = true then ((seq_Add.f t117 7).bind fun t126 => ((seq_Add.f (Go.bits .and .i64 a0 2147483647) (wrap64 ((Go.bits .and .i64 a2 16777215) + 7))).bind fun t127 => (if t126 = t127 then ((bordereaulaw5_known.f).bind fun t128 => (some t128)) else (some false)))) else (some false))) else (some false)) = some r := H
          have A15 := Aside0.mk A150
          clear A150
          by_cases c16 : t124 = true
          · subst c16
            have H1 : ((seq_Gap.f (Go.bits .and .i64 a1 2147483647) (Go.bits .and .i64 a0 2147483647)).bind fun t125 => (if (((wrap64 (t121 + t125)) == 0) == ((Go.bits .and .i64 a0 2147483647) == (Go.bits .and .i64 a1 2147483647))) = true then ((seq_Add.f t117 7).bind fun t126 => ((seq_Add.f (Go.bits .and .i64 a0 2147483647) (wrap64 ((Go.bits .and .i64 a2 16777215) + 7))).bind fun t127 => (if t126 = t127 then ((bordereaulaw5_known.f).bind fun t128 => (some t128)) else (some false)))) else (some false))) = some r := by rw [if_pos rfl] at H; exact H
            clear H
            have H := H1
            clear H1
            replace H := Option.bind_eq_some_iff.mp H
            obtain ⟨t125, A170, H⟩ := H
            replace H : (if (((wrap64 (t121 + t125)) == 0) == ((Go.bits .and .i64 a0 2147483647) == (Go.bits .and .i64 a1 2147483647))) = true then ((seq_Add.f t117 7).bind fun t126 => ((seq_Add.f (Go.bits .and .i64 a0 2147483647) (wrap64 ((Go.bits .and .i64 a2 16777215) + 7))).bind fun t127 => (if t126 = t127 then ((bordereaulaw5_known.f).bind fun t128 => (some t128)) else (some false)))) else (some false)) = some r := H
            have A17 := Aside0.mk A170
            clear A170
            by_cases c18 : (((wrap64 (t121 + t125)) == 0) == ((Go.bits .and .i64 a0 2147483647) == (Go.bits .and .i64 a1 2147483647))) = true
            · rw [if_pos c18] at H
              have c18b0 : (((wrap64 (t121 + t125)) == 0) == ((Go.bits .and .i64 a0 2147483647) == (Go.bits .and .i64 a1 2147483647))) = true := c18
              (try (have c18b1 : decide (((wrap64 (t121 + t125)) == 0) = ((Go.bits .and .i64 a0 2147483647) == (Go.bits .and .i64 a1 2147483647))) = true := by simpa using c18))
              (try (have c18b2 : (((wrap64 (t121 + t125)) == 0) == ((Go.bits .and .i64 a0 2147483647) == (Go.bits .and .i64 a1 2147483647))) = true := by simpa using c18))
              clear c18
              replace H := Option.bind_eq_some_iff.mp H
              obtain ⟨t126, A190, H⟩ := H
              replace H : ((seq_Add.f (Go.bits .and .i64 a0 2147483647) (wrap64 ((Go.bits .and .i64 a2 16777215) + 7))).bind fun t127 => (if t126 = t127 then ((bordereaulaw5_known.f).bind fun t128 => (some t128)) else (some false))) = some r := H
              have A19 := Aside0.mk A190
              clear A190
              replace H := Option.bind_eq_some_iff.mp H
              obtain ⟨t127, A200, H⟩ := H
              replace H : (if t126 = t127 then ((bordereaulaw5_known.f).bind fun t128 => (some t128)) else (some false)) = some r := H
              have A20 := Aside0.mk A200
              clear A200
              by_cases c21 : t126 = t127
              · rw [if_pos c21] at H
                have c21b0 : (t126 == t127) = true := beq_iff_eq.mpr c21
                have c21b1 : (t126 != t127) = false := bne_eq_false_iff_eq.mpr c21
                clear c21
                replace H := Option.bind_eq_some_iff.mp H
                obtain ⟨t128, A220, H⟩ := H
                replace H : (some t128) = some r := H
                have A22 := Aside0.mk A220
                clear A220
                obtain rfl := Option.some.inj H
                go_enter Try.func3, Try.ntmps3
                go_wp2_with (first | ((first | ((with_reducible refine gate_callee (f := 14) rfl ?_); refine goesL_ (some 19) rfl rfl Try.func14 (by kernel_rfl) rfl #[.int .i64 (Go.bits .and .i64 a0 2147483647), .int .i64 (Go.bits .and .i64 a2 16777215)] rfl (by (try simp only [List.map_toArray, List.map_cons, List.map_nil]); first | done | rfl | (simp only [List.length_drop, List.length_take]; rfl)) ?_; (with_reducible refine (seq_Add.calls (Go.bits .and .i64 a0 2147483647) (Go.bits .and .i64 a2 16777215) t117 _ A4.out).mono ?_); rintro e w' ⟨rfl, ⟨nd, rfl⟩⟩; refine ⟨_, rfl, ?_⟩) | (go_at_call 14; (with_reducible refine (seq_Add.calls (Go.bits .and .i64 a0 2147483647) (Go.bits .and .i64 a2 16777215) t117 _ A4.out).mono ?_); rintro e w' ⟨rfl, ⟨nd, rfl⟩⟩))) | ((with_reducible refine gate_callee (f := 15) rfl ?_); refine goesL_ (some 21) rfl rfl Try.func15 (by kernel_rfl) rfl #[.int .i64 t117] rfl (by (try simp only [List.map_toArray, List.map_cons, List.map_nil]); first | done | rfl | (simp only [List.length_drop, List.length_take]; rfl)) ?_; (with_reducible refine (seq_Right.calls t117 true _ A5.out).mono ?_); rintro e w' ⟨rfl, ⟨nd, rfl⟩⟩; refine ⟨_, rfl, ?_⟩) | (go_at_call 14; (with_reducible refine (seq_Add.calls t117 (wrap64 (-(Go.bits .and .i64 a2 16777215))) t119 _ A7.out).mono ?_); rintro e w' ⟨rfl, ⟨nd, rfl⟩⟩) | (go_at_call 16; (with_reducible refine (seq_Gap.calls (Go.bits .and .i64 a0 2147483647) t117 t120 _ A9.out).mono ?_); rintro e w' ⟨rfl, ⟨nd, rfl⟩⟩) | (go_at_call 16; (with_reducible refine (seq_Gap.calls (Go.bits .and .i64 a0 2147483647) (Go.bits .and .i64 a1 2147483647) t121 _ A11.out).mono ?_); rintro e w' ⟨rfl, ⟨nd, rfl⟩⟩) | (go_at_call 14; (with_reducible refine (seq_Add.calls (Go.bits .and .i64 a0 2147483647) t121 t122 _ A12.out).mono ?_); rintro e w' ⟨rfl, ⟨nd, rfl⟩⟩) | (go_at_call 14; (with_reducible refine (seq_Add.calls (Go.bits .and .i64 a0 2147483647) 1 t123 _ A14.out).mono ?_); rintro e w' ⟨rfl, ⟨nd, rfl⟩⟩) | (go_at_call 17; (with_reducible refine (seq_Follows.calls (Go.bits .and .i64 a0 2147483647) t123 true _ A15.out).mono ?_); rintro e w' ⟨rfl, ⟨nd, rfl⟩⟩) | (go_at_call 16; (with_reducible refine (seq_Gap.calls (Go.bits .and .i64 a1 2147483647) (Go.bits .and .i64 a0 2147483647) t125 _ A17.out).mono ?_); rintro e w' ⟨rfl, ⟨nd, rfl⟩⟩) | (go_at_call 14; (with_reducible refine (seq_Add.calls t117 7 t126 _ A19.out).mono ?_); rintro e w' ⟨rfl, ⟨nd, rfl⟩⟩) | (go_at_call 14; (with_reducible refine (seq_Add.calls (Go.bits .and .i64 a0 2147483647) (wrap64 ((Go.bits .and .i64 a2 16777215) + 7)) t127 _ A20.out).mono ?_); rintro e w' ⟨rfl, ⟨nd, rfl⟩⟩) | (go_at_call 18; (with_reducible refine (bordereaulaw5_known.calls  t128 _ A22.out).mono ?_); rintro e w' ⟨rfl, ⟨nd, rfl⟩⟩))
                go_ret
                exact ⟨by first | rfl | (simp; done) | (simp [*]; done), by repeat (first | exact Drawn0.refl _ | apply Drawn0.step)⟩
              · rw [if_neg c21] at H
                have c21b0 : (t126 == t127) = false := beq_eq_false_iff_ne.mpr c21
                have c21b1 : (t126 != t127) = true := bne_iff_ne.mpr c21
                obtain rfl := Option.some.inj H
                go_enter Try.func3, Try.ntmps3
                go_wp2_with (first | ((first | ((with_reducible refine gate_callee (f := 14) rfl ?_); refine goesL_ (some 19) rfl rfl Try.func14 (by kernel_rfl) rfl #[.int .i64 (Go.bits .and .i64 a0 2147483647), .int .i64 (Go.bits .and .i64 a2 16777215)] rfl (by (try simp only [List.map_toArray, List.map_cons, List.map_nil]); first | done | rfl | (simp only [List.length_drop, List.length_take]; rfl)) ?_; (with_reducible refine (seq_Add.calls (Go.bits .and .i64 a0 2147483647) (Go.bits .and .i64 a2 16777215) t117 _ A4.out).mono ?_); rintro e w' ⟨rfl, ⟨nd, rfl⟩⟩; refine ⟨_, rfl, ?_⟩) | (go_at_call 14; (with_reducible refine (seq_Add.calls (Go.bits .and .i64 a0 2147483647) (Go.bits .and .i64 a2 16777215) t117 _ A4.out).mono ?_); rintro e w' ⟨rfl, ⟨nd, rfl⟩⟩))) | ((with_reducible refine gate_callee (f := 15) rfl ?_); refine goesL_ (some 21) rfl rfl Try.func15 (by kernel_rfl) rfl #[.int .i64 t117] rfl (by (try simp only [List.map_toArray, List.map_cons, List.map_nil]); first | done | rfl | (simp only [List.length_drop, List.length_take]; rfl)) ?_; (with_reducible refine (seq_Right.calls t117 true _ A5.out).mono ?_); rintro e w' ⟨rfl, ⟨nd, rfl⟩⟩; refine ⟨_, rfl, ?_⟩) | (go_at_call 14; (with_reducible refine (seq_Add.calls t117 (wrap64 (-(Go.bits .and .i64 a2 16777215))) t119 _ A7.out).mono ?_); rintro e w' ⟨rfl, ⟨nd, rfl⟩⟩) | (go_at_call 16; (with_reducible refine (seq_Gap.calls (Go.bits .and .i64 a0 2147483647) t117 t120 _ A9.out).mono ?_); rintro e w' ⟨rfl, ⟨nd, rfl⟩⟩) | (go_at_call 16; (with_reducible refine (seq_Gap.calls (Go.bits .and .i64 a0 2147483647) (Go.bits .and .i64 a1 2147483647) t121 _ A11.out).mono ?_); rintro e w' ⟨rfl, ⟨nd, rfl⟩⟩) | (go_at_call 14; (with_reducible refine (seq_Add.calls (Go.bits .and .i64 a0 2147483647) t121 t122 _ A12.out).mono ?_); rintro e w' ⟨rfl, ⟨nd, rfl⟩⟩) | (go_at_call 14; (with_reducible refine (seq_Add.calls (Go.bits .and .i64 a0 2147483647) 1 t123 _ A14.out).mono ?_); rintro e w' ⟨rfl, ⟨nd, rfl⟩⟩) | (go_at_call 17; (with_reducible refine (seq_Follows.calls (Go.bits .and .i64 a0 2147483647) t123 true _ A15.out).mono ?_); rintro e w' ⟨rfl, ⟨nd, rfl⟩⟩) | (go_at_call 16; (with_reducible refine (seq_Gap.calls (Go.bits .and .i64 a1 2147483647) (Go.bits .and .i64 a0 2147483647) t125 _ A17.out).mono ?_); rintro e w' ⟨rfl, ⟨nd, rfl⟩⟩) | (go_at_call 14; (with_reducible refine (seq_Add.calls t117 7 t126 _ A19.out).mono ?_); rintro e w' ⟨rfl, ⟨nd, rfl⟩⟩) | (go_at_call 14; (with_reducible refine (seq_Add.calls (Go.bits .and .i64 a0 2147483647) (wrap64 ((Go.bits .and .i64 a2 16777215) + 7)) t127 _ A20.out).mono ?_); rintro e w' ⟨rfl, ⟨nd, rfl⟩⟩))
                go_ret
                exact ⟨by first | rfl | (simp; done) | (simp [*]; done), by repeat (first | exact Drawn0.refl _ | apply Drawn0.step)⟩
            · rw [if_neg c18] at H
              have c18b0 : (((wrap64 (t121 + t125)) == 0) == ((Go.bits .and .i64 a0 2147483647) == (Go.bits .and .i64 a1 2147483647))) = false := by simpa using c18
              (try (have c18b1 : decide (((wrap64 (t121 + t125)) == 0) = ((Go.bits .and .i64 a0 2147483647) == (Go.bits .and .i64 a1 2147483647))) = false := by simpa using c18))
              (try (have c18b2 : (((wrap64 (t121 + t125)) == 0) == ((Go.bits .and .i64 a0 2147483647) == (Go.bits .and .i64 a1 2147483647))) = false := by simpa using c18))
              (try (have c18b3 : ¬ (((wrap64 (t121 + t125)) == 0) = ((Go.bits .and .i64 a0 2147483647) == (Go.bits .and .i64 a1 2147483647))) := by simpa using c18))
              clear c18
              obtain rfl := Option.some.inj H
              go_enter Try.func3, Try.ntmps3
              go_wp2_with (first | ((first | ((with_reducible refine gate_callee (f := 14) rfl ?_); refine goesL_ (some 19) rfl rfl Try.func14 (by kernel_rfl) rfl #[.int .i64 (Go.bits .and .i64 a0 2147483647), .int .i64 (Go.bits .and .i64 a2 16777215)] rfl (by (try simp only [List.map_toArray, List.map_cons, List.map_nil]); first | done | rfl | (simp only [List.length_drop, List.length_take]; rfl)) ?_; (with_reducible refine (seq_Add.calls (Go.bits .and .i64 a0 2147483647) (Go.bits .and .i64 a2 16777215) t117 _ A4.out).mono ?_); rintro e w' ⟨rfl, ⟨nd, rfl⟩⟩; refine ⟨_, rfl, ?_⟩) | (go_at_call 14; (with_reducible refine (seq_Add.calls (Go.bits .and .i64 a0 2147483647) (Go.bits .and .i64 a2 16777215) t117 _ A4.out).mono ?_); rintro e w' ⟨rfl, ⟨nd, rfl⟩⟩))) | ((with_reducible refine gate_callee (f := 15) rfl ?_); refine goesL_ (some 21) rfl rfl Try.func15 (by kernel_rfl) rfl #[.int .i64 t117] rfl (by (try simp only [List.map_toArray, List.map_cons, List.map_nil]); first | done | rfl | (simp only [List.length_drop, List.length_take]; rfl)) ?_; (with_reducible refine (seq_Right.calls t117 true _ A5.out).mono ?_); rintro e w' ⟨rfl, ⟨nd, rfl⟩⟩; refine ⟨_, rfl, ?_⟩) | (go_at_call 14; (with_reducible refine (seq_Add.calls t117 (wrap64 (-(Go.bits .and .i64 a2 16777215))) t119 _ A7.out).mono ?_); rintro e w' ⟨rfl, ⟨nd, rfl⟩⟩) | (go_at_call 16; (with_reducible refine (seq_Gap.calls (Go.bits .and .i64 a0 2147483647) t117 t120 _ A9.out).mono ?_); rintro e w' ⟨rfl, ⟨nd, rfl⟩⟩) | (go_at_call 16; (with_reducible refine (seq_Gap.calls (Go.bits .and .i64 a0 2147483647) (Go.bits .and .i64 a1 2147483647) t121 _ A11.out).mono ?_); rintro e w' ⟨rfl, ⟨nd, rfl⟩⟩) | (go_at_call 14; (with_reducible refine (seq_Add.calls (Go.bits .and .i64 a0 2147483647) t121 t122 _ A12.out).mono ?_); rintro e w' ⟨rfl, ⟨nd, rfl⟩⟩) | (go_at_call 14; (with_reducible refine (seq_Add.calls (Go.bits .and .i64 a0 2147483647) 1 t123 _ A14.out).mono ?_); rintro e w' ⟨rfl, ⟨nd, rfl⟩⟩) | (go_at_call 17; (with_reducible refine (seq_Follows.calls (Go.bits .and .i64 a0 2147483647) t123 true _ A15.out).mono ?_); rintro e w' ⟨rfl, ⟨nd, rfl⟩⟩) | (go_at_call 16; (with_reducible refine (seq_Gap.calls (Go.bits .and .i64 a1 2147483647) (Go.bits .and .i64 a0 2147483647) t125 _ A17.out).mono ?_); rintro e w' ⟨rfl, ⟨nd, rfl⟩⟩))
              go_ret
              exact ⟨by first | rfl | (simp; done) | (simp [*]; done), by repeat (first | exact Drawn0.refl _ | apply Drawn0.step)⟩
          · replace c16 := Bool.eq_false_iff.mpr c16
            subst c16
            have H1 : (some false) = some r := by rw [if_neg (show ¬ (false = true) by decide)] at H; exact H
            clear H
            have H := H1
            clear H1
            obtain rfl := Option.some.inj H
            go_enter Try.func3, Try.ntmps3
            go_wp2_with (first | ((first | ((with_reducible refine gate_callee (f := 14) rfl ?_); refine goesL_ (some 19) rfl rfl Try.func14 (by kernel_rfl) rfl #[.int .i64 (Go.bits .and .i64 a0 2147483647), .int .i64 (Go.bits .and .i64 a2 16777215)] rfl (by (try simp only [List.map_toArray, List.map_cons, List.map_nil]); first | done | rfl | (simp only [List.length_drop, List.length_take]; rfl)) ?_; (with_reducible refine (seq_Add.calls (Go.bits .and .i64 a0 2147483647) (Go.bits .and .i64 a2 16777215) t117 _ A4.out).mono ?_); rintro e w' ⟨rfl, ⟨nd, rfl⟩⟩; refine ⟨_, rfl, ?_⟩) | (go_at_call 14; (with_reducible refine (seq_Add.calls (Go.bits .and .i64 a0 2147483647) (Go.bits .and .i64 a2 16777215) t117 _ A4.out).mono ?_); rintro e w' ⟨rfl, ⟨nd, rfl⟩⟩))) | ((with_reducible refine gate_callee (f := 15) rfl ?_); refine goesL_ (some 21) rfl rfl Try.func15 (by kernel_rfl) rfl #[.int .i64 t117] rfl (by (try simp only [List.map_toArray, List.map_cons, List.map_nil]); first | done | rfl | (simp only [List.length_drop, List.length_take]; rfl)) ?_; (with_reducible refine (seq_Right.calls t117 true _ A5.out).mono ?_); rintro e w' ⟨rfl, ⟨nd, rfl⟩⟩; refine ⟨_, rfl, ?_⟩) | (go_at_call 14; (with_reducible refine (seq_Add.calls t117 (wrap64 (-(Go.bits .and .i64 a2 16777215))) t119 _ A7.out).mono ?_); rintro e w' ⟨rfl, ⟨nd, rfl⟩⟩) | (go_at_call 16; (with_reducible refine (seq_Gap.calls (Go.bits .and .i64 a0 2147483647) t117 t120 _ A9.out).mono ?_); rintro e w' ⟨rfl, ⟨nd, rfl⟩⟩) | (go_at_call 16; (with_reducible refine (seq_Gap.calls (Go.bits .and .i64 a0 2147483647) (Go.bits .and .i64 a1 2147483647) t121 _ A11.out).mono ?_); rintro e w' ⟨rfl, ⟨nd, rfl⟩⟩) | (go_at_call 14; (with_reducible refine (seq_Add.calls (Go.bits .and .i64 a0 2147483647) t121 t122 _ A12.out).mono ?_); rintro e w' ⟨rfl, ⟨nd, rfl⟩⟩) | (go_at_call 14; (with_reducible refine (seq_Add.calls (Go.bits .and .i64 a0 2147483647) 1 t123 _ A14.out).mono ?_); rintro e w' ⟨rfl, ⟨nd, rfl⟩⟩) | (go_at_call 17; (with_reducible refine (seq_Follows.calls (Go.bits .and .i64 a0 2147483647) t123 false _ A15.out).mono ?_); rintro e w' ⟨rfl, ⟨nd, rfl⟩⟩))
            go_ret
            exact ⟨by first | rfl | (simp; done) | (simp [*]; done), by repeat (first | exact Drawn0.refl _ | apply Drawn0.step)⟩
        · rw [if_neg c13] at H
          have c13b0 : (t122 == (Go.bits .and .i64 a1 2147483647)) = false := beq_eq_false_iff_ne.mpr c13
          have c13b1 : (t122 != (Go.bits .and .i64 a1 2147483647)) = true := bne_iff_ne.mpr c13
          obtain rfl := Option.some.inj H
          go_enter Try.func3, Try.ntmps3
          go_wp2_with (first | ((first | ((with_reducible refine gate_callee (f := 14) rfl ?_); refine goesL_ (some 19) rfl rfl Try.func14 (by kernel_rfl) rfl #[.int .i64 (Go.bits .and .i64 a0 2147483647), .int .i64 (Go.bits .and .i64 a2 16777215)] rfl (by (try simp only [List.map_toArray, List.map_cons, List.map_nil]); first | done | rfl | (simp only [List.length_drop, List.length_take]; rfl)) ?_; (with_reducible refine (seq_Add.calls (Go.bits .and .i64 a0 2147483647) (Go.bits .and .i64 a2 16777215) t117 _ A4.out).mono ?_); rintro e w' ⟨rfl, ⟨nd, rfl⟩⟩; refine ⟨_, rfl, ?_⟩) | (go_at_call 14; (with_reducible refine (seq_Add.calls (Go.bits .and .i64 a0 2147483647) (Go.bits .and .i64 a2 16777215) t117 _ A4.out).mono ?_); rintro e w' ⟨rfl, ⟨nd, rfl⟩⟩))) | ((with_reducible refine gate_callee (f := 15) rfl ?_); refine goesL_ (some 21) rfl rfl Try.func15 (by kernel_rfl) rfl #[.int .i64 t117] rfl (by (try simp only [List.map_toArray, List.map_cons, List.map_nil]); first | done | rfl | (simp only [List.length_drop, List.length_take]; rfl)) ?_; (with_reducible refine (seq_Right.calls t117 true _ A5.out).mono ?_); rintro e w' ⟨rfl, ⟨nd, rfl⟩⟩; refine ⟨_, rfl, ?_⟩) | (go_at_call 14; (with_reducible refine (seq_Add.calls t117 (wrap64 (-(Go.bits .and .i64 a2 16777215))) t119 _ A7.out).mono ?_); rintro e w' ⟨rfl, ⟨nd, rfl⟩⟩) | (go_at_call 16; (with_reducible refine (seq_Gap.calls (Go.bits .and .i64 a0 2147483647) t117 t120 _ A9.out).mono ?_); rintro e w' ⟨rfl, ⟨nd, rfl⟩⟩) | (go_at_call 16; (with_reducible refine (seq_Gap.calls (Go.bits .and .i64 a0 2147483647) (Go.bits .and .i64 a1 2147483647) t121 _ A11.out).mono ?_); rintro e w' ⟨rfl, ⟨nd, rfl⟩⟩) | (go_at_call 14; (with_reducible refine (seq_Add.calls (Go.bits .and .i64 a0 2147483647) t121 t122 _ A12.out).mono ?_); rintro e w' ⟨rfl, ⟨nd, rfl⟩⟩))
          go_ret
          exact ⟨by first | rfl | (simp; done) | (simp [*]; done), by repeat (first | exact Drawn0.refl _ | apply Drawn0.step)⟩
      · rw [if_neg c10] at H
        have c10b0 : (t120 == (Go.bits .and .i64 a2 16777215)) = false := beq_eq_false_iff_ne.mpr c10
        have c10b1 : (t120 != (Go.bits .and .i64 a2 16777215)) = true := bne_iff_ne.mpr c10
        obtain rfl := Option.some.inj H
        go_enter Try.func3, Try.ntmps3
        go_wp2_with (first | ((first | ((with_reducible refine gate_callee (f := 14) rfl ?_); refine goesL_ (some 19) rfl rfl Try.func14 (by kernel_rfl) rfl #[.int .i64 (Go.bits .and .i64 a0 2147483647), .int .i64 (Go.bits .and .i64 a2 16777215)] rfl (by (try simp only [List.map_toArray, List.map_cons, List.map_nil]); first | done | rfl | (simp only [List.length_drop, List.length_take]; rfl)) ?_; (with_reducible refine (seq_Add.calls (Go.bits .and .i64 a0 2147483647) (Go.bits .and .i64 a2 16777215) t117 _ A4.out).mono ?_); rintro e w' ⟨rfl, ⟨nd, rfl⟩⟩; refine ⟨_, rfl, ?_⟩) | (go_at_call 14; (with_reducible refine (seq_Add.calls (Go.bits .and .i64 a0 2147483647) (Go.bits .and .i64 a2 16777215) t117 _ A4.out).mono ?_); rintro e w' ⟨rfl, ⟨nd, rfl⟩⟩))) | ((with_reducible refine gate_callee (f := 15) rfl ?_); refine goesL_ (some 21) rfl rfl Try.func15 (by kernel_rfl) rfl #[.int .i64 t117] rfl (by (try simp only [List.map_toArray, List.map_cons, List.map_nil]); first | done | rfl | (simp only [List.length_drop, List.length_take]; rfl)) ?_; (with_reducible refine (seq_Right.calls t117 true _ A5.out).mono ?_); rintro e w' ⟨rfl, ⟨nd, rfl⟩⟩; refine ⟨_, rfl, ?_⟩) | (go_at_call 14; (with_reducible refine (seq_Add.calls t117 (wrap64 (-(Go.bits .and .i64 a2 16777215))) t119 _ A7.out).mono ?_); rintro e w' ⟨rfl, ⟨nd, rfl⟩⟩) | (go_at_call 16; (with_reducible refine (seq_Gap.calls (Go.bits .and .i64 a0 2147483647) t117 t120 _ A9.out).mono ?_); rintro e w' ⟨rfl, ⟨nd, rfl⟩⟩))
        go_ret
        exact ⟨by first | rfl | (simp; done) | (simp [*]; done), by repeat (first | exact Drawn0.refl _ | apply Drawn0.step)⟩
    · rw [if_neg c8] at H
      have c8b0 : (t119 == (Go.bits .and .i64 a0 2147483647)) = false := beq_eq_false_iff_ne.mpr c8
      have c8b1 : (t119 != (Go.bits .and .i64 a0 2147483647)) = true := bne_iff_ne.mpr c8
      obtain rfl := Option.some.inj H
      go_enter Try.func3, Try.ntmps3
      go_wp2_with (first | ((first | ((with_reducible refine gate_callee (f := 14) rfl ?_); refine goesL_ (some 19) rfl rfl Try.func14 (by kernel_rfl) rfl #[.int .i64 (Go.bits .and .i64 a0 2147483647), .int .i64 (Go.bits .and .i64 a2 16777215)] rfl (by (try simp only [List.map_toArray, List.map_cons, List.map_nil]); first | done | rfl | (simp only [List.length_drop, List.length_take]; rfl)) ?_; (with_reducible refine (seq_Add.calls (Go.bits .and .i64 a0 2147483647) (Go.bits .and .i64 a2 16777215) t117 _ A4.out).mono ?_); rintro e w' ⟨rfl, ⟨nd, rfl⟩⟩; refine ⟨_, rfl, ?_⟩) | (go_at_call 14; (with_reducible refine (seq_Add.calls (Go.bits .and .i64 a0 2147483647) (Go.bits .and .i64 a2 16777215) t117 _ A4.out).mono ?_); rintro e w' ⟨rfl, ⟨nd, rfl⟩⟩))) | ((with_reducible refine gate_callee (f := 15) rfl ?_); refine goesL_ (some 21) rfl rfl Try.func15 (by kernel_rfl) rfl #[.int .i64 t117] rfl (by (try simp only [List.map_toArray, List.map_cons, List.map_nil]); first | done | rfl | (simp only [List.length_drop, List.length_take]; rfl)) ?_; (with_reducible refine (seq_Right.calls t117 true _ A5.out).mono ?_); rintro e w' ⟨rfl, ⟨nd, rfl⟩⟩; refine ⟨_, rfl, ?_⟩) | (go_at_call 14; (with_reducible refine (seq_Add.calls t117 (wrap64 (-(Go.bits .and .i64 a2 16777215))) t119 _ A7.out).mono ?_); rintro e w' ⟨rfl, ⟨nd, rfl⟩⟩))
      go_ret
      exact ⟨by first | rfl | (simp; done) | (simp [*]; done), by repeat (first | exact Drawn0.refl _ | apply Drawn0.step)⟩
  · replace c6 := Bool.eq_false_iff.mpr c6
    subst c6
    have H1 : (some false) = some r := by rw [if_neg (show ¬ (false = true) by decide)] at H; exact H
    clear H
    have H := H1
    clear H1
    obtain rfl := Option.some.inj H
    go_enter Try.func3, Try.ntmps3
    go_wp2_with (first | ((first | ((with_reducible refine gate_callee (f := 14) rfl ?_); refine goesL_ (some 19) rfl rfl Try.func14 (by kernel_rfl) rfl #[.int .i64 (Go.bits .and .i64 a0 2147483647), .int .i64 (Go.bits .and .i64 a2 16777215)] rfl (by (try simp only [List.map_toArray, List.map_cons, List.map_nil]); first | done | rfl | (simp only [List.length_drop, List.length_take]; rfl)) ?_; (with_reducible refine (seq_Add.calls (Go.bits .and .i64 a0 2147483647) (Go.bits .and .i64 a2 16777215) t117 _ A4.out).mono ?_); rintro e w' ⟨rfl, ⟨nd, rfl⟩⟩; refine ⟨_, rfl, ?_⟩) | (go_at_call 14; (with_reducible refine (seq_Add.calls (Go.bits .and .i64 a0 2147483647) (Go.bits .and .i64 a2 16777215) t117 _ A4.out).mono ?_); rintro e w' ⟨rfl, ⟨nd, rfl⟩⟩))) | ((with_reducible refine gate_callee (f := 15) rfl ?_); refine goesL_ (some 21) rfl rfl Try.func15 (by kernel_rfl) rfl #[.int .i64 t117] rfl (by (try simp only [List.map_toArray, List.map_cons, List.map_nil]); first | done | rfl | (simp only [List.length_drop, List.length_take]; rfl)) ?_; (with_reducible refine (seq_Right.calls t117 false _ A5.out).mono ?_); rintro e w' ⟨rfl, ⟨nd, rfl⟩⟩; refine ⟨_, rfl, ?_⟩))
    go_ret
    exact ⟨by first | rfl | (simp; done) | (simp [*]; done), by repeat (first | exact Drawn0.refl _ | apply Drawn0.step)⟩

/-- THE ONE PURE STATEMENT of bordereaulaw5_SeqRound: yours. -/
def bordereaulaw5_SeqRound.Pure : Prop := ∀ (a0 : Int) (a1 : Int) (a2 : Int), (Lit.int .i64 a0).wf = true → (Lit.int .i64 a1).wf = true → (Lit.int .i64 a2).wf = true → bordereaulaw5_SeqRound.f a0 a1 a2 = some true
theorem bordereaulaw5_SeqRound.walk (P : bordereaulaw5_SeqRound.Pure) (a0 : Int) (a1 : Int) (a2 : Int) (w : World) (w0 : (Lit.int .i64 a0).wf = true) (w1 : (Lit.int .i64 a1).wf = true) (w2 : (Lit.int .i64 a2).wf = true) :
    Calls Try.prog 3 #[.int .i64 a0, .int .i64 a1, .int .i64 a2] w fun e w' => e = .returned (.bool true) ∧ Below w.heap.size w w' := by
  have h := P a0 a1 a2 w0 w1 w2
  refine (bordereaulaw5_SeqRound.calls a0 a1 a2 true w h).mono ?_
  rintro e w' ⟨rfl, hd⟩
  exact ⟨rfl, hd.below⟩

end Go.Proofs.Ytddgichochdgcaa.PR
