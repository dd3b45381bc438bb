-- Written by a program of this session (wip/print/myprint.sh).
import Derived.Test.YtddgichochdgcaaPMx0
import Derived.Test.YtddgichochdgcaaPMx1
import Derived.Test.YtddgichochdgcaaPMx2
namespace Go.Proofs.Ytddgichochdgcaa.PM
open Go.RowKit Go.Proofs.YtddgichochdgcaaV.PrintWords Go.Proofs.YtddgichochdgcaaV.PrintLast Go.Proofs.YtddgichochdgcaaV.PrintMore
attribute [local go_sem] max2_int min2_int max_two min_two max_three min_three max_four min_four   -- for this text's walks alone
set_option linter.unusedVariables false
set_option linter.unusedSimpArgs false

/-! ### bordereaulaw2_VarintLongs: function 10 -/
def bordereaulaw2_VarintLongs.f (k : Nat) (a0 : Int) (a1 : Int) (l2 : List Int) : Option (Bool) := (varint_Long.f k ([] : List Int) (Go.bits .and .i64 a0 4611686018427387903)).bind fun t340 => ((varint_Long.f k ([] : List Int) (Go.bits .and .i64 a1 4611686018427387903)).bind fun t343 => (if t340.length + l2.length < 140737488355328 then ((varint_Back.f k (t340 ++ l2)).bind fun bt349 => (if (t340.length : Int) = 8 then (if ((Op.bytesLess ((strOfNums t340).toList) ((strOfNums t343).toList)) == (decide ((Go.bits .and .i64 a0 4611686018427387903) < (Go.bits .and .i64 a1 4611686018427387903)))) = true then (if bt349.2 = true then (if bt349.1 = (Go.bits .and .i64 a0 4611686018427387903) then ((bordereaulaw2_known.f k).bind fun t351 => (some t351)) else (none)) else (none)) else (none)) else (none))) else (none)))
theorem bordereaulaw2_VarintLongs.mono : ∀ a0 a1 a2 k, LeO (bordereaulaw2_VarintLongs.f k a0 a1 a2) (bordereaulaw2_VarintLongs.f (k + 1) a0 a1 a2) := by
  intro a0 a1 a2 k
  unfold bordereaulaw2_VarintLongs.f
  repeat' first
      | (with_reducible exact bordereaulaw2_known.mono _)
      | (with_reducible exact varint_Back.mono _ _)
      | (with_reducible exact varint_Long.mono _ _ _)
      | (with_reducible exact LeO.refl _)
      | (with_reducible exact LeO.none _)
      | (with_reducible refine LeO.ite ?_ ?_)
      | (with_reducible refine LeO.bind ?_ (fun _ => ?_))
      | exact bordereaulaw2_known.mono _
      | exact varint_Back.mono _ _
      | exact varint_Long.mono _ _ _
      | exact LeO.none _
      | refine LeO.ite ?_ ?_
      | refine LeO.bind ?_ (fun _ => ?_)
set_option maxHeartbeats 8000000 in
set_option maxRecDepth 100000 in
theorem bordereaulaw2_VarintLongs.calls (k : Nat) (a0 : Int) (a1 : Int) (A2 : Option Addr) (c2 : Nat) (l2 : List Int) (r : Bool) (w : World) (hr2 : Kd.C (Kd.int .u8) w A2 l2.length l2) (hc2 : l2.length ≤ c2) (h : bordereaulaw2_VarintLongs.f k a0 a1 l2 = some r) :
    Calls Try.prog 10 #[.int .i64 a0, .int .i64 a1, .slice A2 l2.length c2] w fun e w' => e = .returned (.bool r) ∧ Below w.heap.size w w' := by
  have HR2 := Aside0.mk hr2
  have HC2 := Aside0.mk hc2
  clear hr2 hc2
  have HB := Aside0.mk (Below.refl w.heap.size w)
  have H : ((varint_Long.f k ([] : List Int) (Go.bits .and .i64 a0 4611686018427387903)).bind fun t340 => ((varint_Long.f k ([] : List Int) (Go.bits .and .i64 a1 4611686018427387903)).bind fun t343 => (if t340.length + l2.length < 140737488355328 then ((varint_Back.f k (t340 ++ l2)).bind fun bt349 => (if (t340.length : Int) = 8 then (if ((Op.bytesLess ((strOfNums t340).toList) ((strOfNums t343).toList)) == (decide ((Go.bits .and .i64 a0 4611686018427387903) < (Go.bits .and .i64 a1 4611686018427387903)))) = true then (if bt349.2 = true then (if bt349.1 = (Go.bits .and .i64 a0 4611686018427387903) then ((bordereaulaw2_known.f k).bind fun t351 => (some t351)) else (none)) else (none)) else (none)) else (none))) else (none)))) = some r := h
  clear h
  replace H := Option.bind_eq_some_iff.mp H
  obtain ⟨t340, A40, H⟩ := H
  replace H : ((varint_Long.f k ([] : List Int) (Go.bits .and .i64 a1 4611686018427387903)).bind fun t343 => (if t340.length + l2.length < 140737488355328 then ((varint_Back.f k (t340 ++ l2)).bind fun bt349 => (if (t340.length : Int) = 8 then (if ((Op.bytesLess ((strOfNums t340).toList) ((strOfNums t343).toList)) == (decide ((Go.bits .and .i64 a0 4611686018427387903) < (Go.bits .and .i64 a1 4611686018427387903)))) = true then (if bt349.2 = true then (if bt349.1 = (Go.bits .and .i64 a0 4611686018427387903) then ((bordereaulaw2_known.f k).bind fun t351 => (some t351)) else (none)) else (none)) else (none)) else (none))) else (none))) = some r := H
  have A4 := Aside0.mk A40
  clear A40
  replace H := Option.bind_eq_some_iff.mp H
  obtain ⟨t343, A50, H⟩ := H
  replace H : (if t340.length + l2.length < 140737488355328 then ((varint_Back.f k (t340 ++ l2)).bind fun bt349 => (if (t340.length : Int) = 8 then (if ((Op.bytesLess ((strOfNums t340).toList) ((strOfNums t343).toList)) == (decide ((Go.bits .and .i64 a0 4611686018427387903) < (Go.bits .and .i64 a1 4611686018427387903)))) = true then (if bt349.2 = true then (if bt349.1 = (Go.bits .and .i64 a0 4611686018427387903) then ((bordereaulaw2_known.f k).bind fun t351 => (some t351)) else (none)) else (none)) else (none)) else (none))) else (none)) = some r := H
  have A5 := Aside0.mk A50
  clear A50
  by_cases c6 : t340.length + l2.length < 140737488355328
  · rw [if_pos c6] at H
    have LMc6 := Aside0.mk c6
    clear c6
    obtain ⟨y346, hy346⟩ : ∃ y_ : List Int, y_ = (t340 ++ l2) := ⟨_, rfl⟩
    replace H : ((varint_Back.f k y346).bind fun bt349 => (if (t340.length : Int) = 8 then (if ((Op.bytesLess ((strOfNums t340).toList) ((strOfNums t343).toList)) == (decide ((Go.bits .and .i64 a0 4611686018427387903) < (Go.bits .and .i64 a1 4611686018427387903)))) = true then (if bt349.2 = true then (if bt349.1 = (Go.bits .and .i64 a0 4611686018427387903) then ((bordereaulaw2_known.f k).bind fun t351 => (some t351)) else (none)) else (none)) else (none)) else (none))) = some r := by first | (rw [hy346]; with_reducible exact H) | (have H2_ := (Option.bind_some _ _).symm.trans H; rw [hy346]; with_reducible exact H2_) | (have H2_ := (Option.bind_some _ _).symm.trans H; with_reducible exact H2_) | with_reducible exact H | (rw [hy346]; exact H) | exact H
    have Ny346 := Aside0.mk hy346
    clear hy346
    replace H := Option.bind_eq_some_iff.mp H
    obtain ⟨⟨t349, t350⟩, A70, H⟩ := H
    replace H : (if (t340.length : Int) = 8 then (if ((Op.bytesLess ((strOfNums t340).toList) ((strOfNums t343).toList)) == (decide ((Go.bits .and .i64 a0 4611686018427387903) < (Go.bits .and .i64 a1 4611686018427387903)))) = true then (if t350 = true then (if t349 = (Go.bits .and .i64 a0 4611686018427387903) then ((bordereaulaw2_known.f k).bind fun t351 => (some t351)) else (none)) else (none)) else (none)) else (none)) = some r := H
    have A7 := Aside0.mk A70
    clear A70
    by_cases c8 : (t340.length : Int) = 8
    · rw [if_pos c8] at H
      have c8b0 : ((t340.length : Int) == 8) = true := beq_iff_eq.mpr c8
      have c8b1 : ((t340.length : Int) != 8) = false := bne_eq_false_iff_eq.mpr c8
      clear c8
      by_cases c9 : ((Op.bytesLess ((strOfNums t340).toList) ((strOfNums t343).toList)) == (decide ((Go.bits .and .i64 a0 4611686018427387903) < (Go.bits .and .i64 a1 4611686018427387903)))) = true
      · rw [if_pos c9] at H
        have c9b0 : ((Op.bytesLess ((strOfNums t340).toList) ((strOfNums t343).toList)) == (decide ((Go.bits .and .i64 a0 4611686018427387903) < (Go.bits .and .i64 a1 4611686018427387903)))) = true := c9
        (try (have c9b1 : decide ((Op.bytesLess ((strOfNums t340).toList) ((strOfNums t343).toList)) = (decide ((Go.bits .and .i64 a0 4611686018427387903) < (Go.bits .and .i64 a1 4611686018427387903)))) = true := by simpa using c9))
        (try (have c9b2 : ((Op.bytesLess ((strOfNums t340).toList) ((strOfNums t343).toList)) == (decide ((Go.bits .and .i64 a0 4611686018427387903) < (Go.bits .and .i64 a1 4611686018427387903)))) = true := by simpa using c9))
        clear c9
        by_cases c10 : t350 = true
        · subst c10
          have H1 : (if t349 = (Go.bits .and .i64 a0 4611686018427387903) then ((bordereaulaw2_known.f k).bind fun t351 => (some t351)) else (none)) = some r := by rw [if_pos rfl] at H; exact H
          clear H
          have H := H1
          clear H1
          by_cases c11 : t349 = (Go.bits .and .i64 a0 4611686018427387903)
          · rw [if_pos c11] at H
            have c11b0 : (t349 == (Go.bits .and .i64 a0 4611686018427387903)) = true := beq_iff_eq.mpr c11
            have c11b1 : (t349 != (Go.bits .and .i64 a0 4611686018427387903)) = false := bne_eq_false_iff_eq.mpr c11
            clear c11
            replace H := Option.bind_eq_some_iff.mp H
            obtain ⟨t351, A120, H⟩ := H
            replace H : (some t351) = some r := H
            have A12 := Aside0.mk A120
            clear A120
            obtain rfl := Option.some.inj H
            go_enter Try.func10, Try.ntmps10
            go_wp2_with (first | ((with_reducible refine gate_callee (f := 31) rfl ?_); refine goesL_ (some 18) rfl rfl Try.func31 (by kernel_rfl) rfl #[.slice none 0 0, .int .i64 (Go.bits .and .i64 a0 4611686018427387903)] rfl (by (try simp only [List.map_toArray, List.map_cons, List.map_nil]); first | done | rfl | (simp only [List.length_drop, List.length_take]; rfl)) ?_; (refine (varint_Long.calls k _ _ ([] : List Int) (Go.bits .and .i64 a0 4611686018427387903) t340 _ ?side1 ?side2 A4.out).mono ?_); (case side1 => exact Kd.C_nil _ _); (case side2 => exact Nat.le_refl _); rintro e w13 ⟨v341, rfl, ho0, hb⟩; refine ⟨_, rfl, ?_⟩; have n0_ := Aside0.mk (Kd.R_lower ho0 (below_size (by repeat (first | (with_reducible first | exact HB.out | apply below_alloc | apply pw_below_drewN | apply below_drew1) | exact HB.out)))); have n1_ := Aside0.mk (below_step (by repeat (first | (with_reducible first | exact HB.out | apply below_alloc | apply pw_below_drewN | apply below_drew1) | exact HB.out)) hb); clear HB; have HO342 := n0_; have HB := n1_; clear n0_ n1_; (try clear hb); (try clear hb2); (try clear hk); (try clear hi); (try clear ho0)) | ((with_reducible refine gate_callee (f := 31) rfl ?_); refine goesL_ (some 20) rfl rfl Try.func31 (by kernel_rfl) rfl #[.slice none 0 0, .int .i64 (Go.bits .and .i64 a1 4611686018427387903)] rfl (by (try simp only [List.map_toArray, List.map_cons, List.map_nil]); first | done | rfl | (simp only [List.length_drop, List.length_take]; rfl)) ?_; (refine (varint_Long.calls k _ _ ([] : List Int) (Go.bits .and .i64 a1 4611686018427387903) t343 _ ?side1 ?side2 A5.out).mono ?_); (case side1 => exact Kd.C_nil _ _); (case side2 => exact Nat.le_refl _); rintro e w14 ⟨v344, rfl, ho0, hb⟩; refine ⟨_, rfl, ?_⟩; have n0_ := Aside0.mk (Kd.R_elder' (by (with_reducible repeat (first | apply Kd.R_alloc | apply Kd.R_drewN | apply Kd.R_drew)); exact HO342.out) (Kd.R_base ho0) hb); have n1_ := Aside0.mk (Kd.R_lower (Kd.R_new' ho0 (Kd.R_lt (by (with_reducible repeat (first | apply Kd.R_alloc | apply Kd.R_drewN | apply Kd.R_drew)); exact HO342.out))) (below_size (by repeat (first | (with_reducible first | exact HB.out | apply below_alloc | apply pw_below_drewN | apply below_drew1) | exact HB.out)))); have n2_ := Aside0.mk (below_step (by repeat (first | (with_reducible first | exact HB.out | apply below_alloc | apply pw_below_drewN | apply below_drew1) | exact HB.out)) hb); clear HO342; clear HB; have HO342 := n0_; have HO345 := n1_; have HB := n2_; clear n0_ n1_ n2_; (try clear hb); (try clear hb2); (try clear hk); (try clear hi); (try clear ho0)) | ((with_reducible refine gate_builtin (b := .append) (xs := #[.tmp 22, .tmp 23]) rfl ?_); at_builtin; refine Kd.R_append_rows_keep (Kd.int .u8) (w0 := w) w.heap.size rfl (.tmp 22) (.tmp 23) 29 5 (.int .u8 0) 1 rfl Try.underlying29 info5 rfl (by decide) (by omega) v341 t340 l2 _ _ _ (fun k_ => some k_ ≠ (v344 : Value).ownBlock) (fun _ => False) rfl rfl ?aO ?aR (fun _ _ h => h) (fun _ h => h.elim) ?aF ?aB ?aS ?aL ?_; (case aR => repeat (first | exact (Kd.C_below HR2.out HB.out) | (with_reducible refine Kd.C_alloc ?_ _) | (with_reducible refine Kd.C_drewN ?_ _) | (with_reducible refine Kd.C_drew ?_))); (case aB => exact (by repeat (first | (with_reducible first | exact HB.out | apply below_alloc | apply pw_below_drewN | apply below_drew1) | exact HB.out))); (case aF => exact (fun k_ hk => Kd.fresh' (Kd.R_lt (by (with_reducible repeat (first | apply Kd.R_alloc | apply Kd.R_drewN | apply Kd.R_drew)); exact HO345.out)) k_ hk)); (case aO => exact (by (with_reducible repeat (first | apply Kd.R_alloc | apply Kd.R_drewN | apply Kd.R_drew)); exact Kd.R_mono HO342.out (fun _ hk => hk.2))); (case aS => exact (below_size (by repeat (first | (with_reducible first | exact HB.out | apply below_alloc | apply pw_below_drewN | apply below_drew1) | exact HB.out)))); (case aL => have := LMc6.out; omega); intro v347 w15 ho hb hg hat hold; rw [← Ny346.out] at ho; have n0_ := Aside0.mk (hold); have n1_ := Aside0.mk (Kd.R_grownk (ok := (fun _ => True)) (by (with_reducible repeat (first | apply Kd.R_alloc | apply Kd.R_drewN | apply Kd.R_drew)); exact HO345.out) hg); have n2_ := Aside0.mk (hb); have n3_ := Aside0.mk (ho); clear HO342; clear HO345; clear HB; have HO342 := n0_; have HO345 := n1_; have HB := n2_; have HO348 := n3_; clear n0_ n1_ n2_ n3_; clear ho hb hg hat; (try clear hold); obtain ⟨Ao16, co16, eo16⟩ := Kd.R_slice HO348.out; subst eo16) | ((with_reducible refine gate_callee (f := 32) rfl ?_); refine goesL_ (some 25) rfl rfl Try.func32 (by kernel_rfl) rfl #[.slice Ao16 y346.length co16] rfl (by (try simp only [List.map_toArray, List.map_cons, List.map_nil]); first | done | rfl | (simp only [List.length_drop, List.length_take]; rfl)) ?_; (with_reducible refine (varint_Back.calls k _ _ y346 t349 true _ ?side1 ?side2 A7.out).mono ?_); (case side1 => repeat (first | exact (Kd.R_reads' HO348.out).2.2 | (with_reducible refine Kd.C_alloc ?_ _) | (with_reducible refine Kd.C_drewN ?_ _) | (with_reducible refine Kd.C_drew ?_))); (case side2 => exact (Kd.R_reads' HO348.out).2.1); rintro e w' ⟨rfl, ⟨nd, rfl⟩⟩; refine ⟨_, rfl, ?_⟩; obtain ⟨Ao17, co17, eo17⟩ := Kd.R_slice HO342.out; subst eo17; have hcv18 := own_string (P := Try.prog) Try.underlying29 Try.underlying5 Try.underlying9 (Kd.own_of_R HO342.out); have hcv19 := fun (m_ : Nat) => own_string (P := Try.prog) Try.underlying29 Try.underlying5 Try.underlying9 (Kd.own_of_R (Kd.R_drewN HO342.out m_)); have hcv20 := own_string (P := Try.prog) Try.underlying29 Try.underlying5 Try.underlying9 (Kd.own_of_R HO345.out); have hcv21 := fun (m_ : Nat) => own_string (P := Try.prog) Try.underlying29 Try.underlying5 Try.underlying9 (Kd.own_of_R (Kd.R_drewN HO345.out m_))) | (go_at_call 30; (with_reducible refine (bordereaulaw2_known.calls k  t351 _ A12.out).mono ?_); rintro e w22 ⟨rfl, hb⟩; have n0_ := Aside0.mk (Kd.R_below (by (with_reducible repeat (first | apply Kd.R_alloc | apply Kd.R_drewN | apply Kd.R_drew)); exact HO342.out) hb); have n1_ := Aside0.mk (Kd.R_below (by (with_reducible repeat (first | apply Kd.R_alloc | apply Kd.R_drewN | apply Kd.R_drew)); exact HO345.out) hb); have n2_ := Aside0.mk (Kd.R_below (by (with_reducible repeat (first | apply Kd.R_alloc | apply Kd.R_drewN | apply Kd.R_drew)); exact HO348.out) hb); have n3_ := Aside0.mk (below_step (by repeat (first | (with_reducible first | exact HB.out | apply below_alloc | apply pw_below_drewN | apply below_drew1) | exact HB.out)) hb); clear HO342; clear HO345; clear HO348; clear HB; have HO342 := n0_; have HO345 := n1_; have HO348 := n2_; have HB := n3_; clear n0_ n1_ n2_ n3_; (try clear hb); (try clear hb2); (try clear hk); (try clear hi)))
            go_ret
            exact ⟨by first | rfl | (simp [errW_none, errW_some] <;> rfl) | (simp [*, errW_none, errW_some] <;> rfl), by repeat (first | (with_reducible first | exact HB.out | apply below_alloc | apply pw_below_drewN | apply below_drew1) | exact HB.out)⟩
          · rw [if_neg c11] at H
            exact absurd H (by simp)
        · replace c10 := Bool.eq_false_iff.mpr c10
          subst c10
          have H1 : (none) = some r := by rw [if_neg (show ¬ (false = true) by decide)] at H; exact H
          clear H
          have H := H1
          clear H1
          exact absurd H (by simp)
      · rw [if_neg c9] at H
        exact absurd H (by simp)
    · rw [if_neg c8] at H
      exact absurd H (by simp)
  · rw [if_neg c6] at H
    exact absurd H (by simp)

/-- THE ONE PURE STATEMENT of bordereaulaw2_VarintLongs: yours. -/
def bordereaulaw2_VarintLongs.Pure : Prop := ∀ (a0 : Int) (a1 : Int) (l2 : List Int), (Lit.int .i64 a0).wf = true → (Lit.int .i64 a1).wf = true → l2.length ≤ maxLen → l2.length * 1 ≤ 140737488351232 → (∀ x ∈ l2, (Lit.int .u8 x).wf = true) → ∃ k, bordereaulaw2_VarintLongs.f k a0 a1 l2 = some true
theorem bordereaulaw2_VarintLongs.walk (P : bordereaulaw2_VarintLongs.Pure) (a0 : Int) (a1 : Int) (a2 : Option Addr) (len2 cap2 : Nat) (z2 : List Int) (w : World) (w0 : (Lit.int .i64 a0).wf = true) (w1 : (Lit.int .i64 a1).wf = true) (w2 : (a2 = none ∧ len2 = 0 ∧ cap2 = 0 ∧ z2 = []) ∨ ∃ x, a2 = some x ∧ len2 ≤ cap2 ∧ cap2 ≤ maxLen ∧ z2.length = cap2 ∧ (∀ i, i < z2.length → w.cell? (x.add i) = some (.int .u8 (z2.getD i 0))) ∧ ∀ n ∈ z2, (Lit.int .u8 n).wf = true) (y2 : len2 * 1 ≤ 140737488351232) :
    Calls Try.prog 10 #[.int .i64 a0, .int .i64 a1, .slice a2 len2 cap2] w fun e w' => e = .returned (.bool true) ∧ Below w.heap.size w w' := by
  obtain ⟨l2, rfl, hr2, hm2, hw2, hc2⟩ := ReadsInt.ofRowC w2
  obtain ⟨k, h⟩ := P a0 a1 l2 w0 w1 hm2 y2 hw2
  refine (bordereaulaw2_VarintLongs.calls k a0 a1 _ _ l2 true w (Kd.C_of_reads (d := (0 : Int)) (h1 := fun _ => rfl) hr2) hc2 h).mono ?_
  rintro e w' ⟨rfl, hd⟩
  exact ⟨rfl, hd⟩

end Go.Proofs.Ytddgichochdgcaa.PM
