-- Written by a program of this session (wip/print/myprint.sh).
import Derived.Test.YtknclghaofmnhaaPBRx0
namespace Go.Proofs.Ytknclghaofmnhaa.PBR
open Go.RowKit Go.Proofs.YtknclghaofmnhaaV.PrintWords Go.Proofs.YtknclghaofmnhaaV.PrintLast Go.Proofs.YtknclghaofmnhaaV.PrintMore
attribute [local go_sem] max2_int min2_int max_two min_two max_three min_three max_four min_four   -- for this text's walks alone
set_option linter.unusedVariables false
set_option linter.unusedSimpArgs false

/-! ### slices_Clone_byte_byte: function 99 -/

def slices_Clone_byte_byte.f (l0 : List Int) : Option (List Int) := if l0.length < 140737488355328 then some l0 else none
set_option maxHeartbeats 8000000 in
set_option maxRecDepth 100000 in
theorem slices_Clone_byte_byte.calls (A0 : Option Addr) (c0 : Nat) (l0 : List Int) (r : List Int) (w : World) (hr0 : Kd.C (Kd.int .u8) w A0 l0.length l0) (_hc0 : l0.length ≤ c0) (h : slices_Clone_byte_byte.f l0 = some r) :
    Calls Try.prog 99 #[.slice A0 l0.length c0] w fun e w' => ∃ v0_ : Value, e = .returned (v0_) ∧ Kd.R (Kd.int .u8) 5 w' w.heap.size (fun _ => True) v0_ r ∧ Below w.heap.size w w' := by
  have HR0 := Aside0.mk hr0
  clear hr0
  unfold slices_Clone_byte_byte.f at h
  by_cases hl : l0.length < 140737488355328
  · rw [if_pos hl] at h
    obtain rfl := Option.some.inj h
    have LM := Aside0.mk hl
    clear hl h
    have HB := Aside0.mk (Below.refl w.heap.size w)
    cases A0 with
    | none =>
      have h0 : l0 = [] := by
        have h1 := HR0.out.2.2
        refine List.eq_nil_of_length_eq_zero ?_
        rcases Nat.eq_zero_or_pos l0.length with h2 | h2
        · exact h2
        · obtain ⟨_, h3, _⟩ := h1 h2
          cases h3
      subst h0
      have heq := fun (W : World) => Lib.run_eql_slice_nil (P := Try.prog) W 34 5 none 0 c0 0 0 Try.underlying34
      simp only [List.length_nil]
      go_enter Try.func99, Try.ntmps99
      go_wp2
      go_ret
      exact ⟨_, rfl, Kd.R_nil _ _ _ _ _, Below.refl _ _⟩
    | some ad =>
      have heq := fun (W : World) => Lib.run_eql_slice_nil (P := Try.prog) W 34 5 (some ad) l0.length c0 0 0 Try.underlying34
      go_enter Try.func99, Try.ntmps99
      go_wp2_with (first | ((with_reducible refine gate_dst (N := 5) rfl ?_); refine Kd.R_lit (Kd.int .u8) _ 5 ?hg (N := 5) ?hd (xs := ([] : List Int)) (inner := []) (ok := fun _ => True) (okp := fun _ => True) ?hr ?hp (fun _ hk => hk) trivial (Below.refl _ _) (Nat.le_refl _) (by simp) ?_; (case hd => rfl); (case hg => rfl); (case hr => first | (go_simp; done) | (go_simp; rfl)); (case hp => exact (Reps.none _ _)); intro v1 w4 ho5 hb hg_ hnew_; clear hg_ hnew_; have HO := Aside0.mk ho5; have HB2 := Aside0.mk hb; clear HB hb ho5) | ((with_reducible refine gate_builtin (b := .append) (xs := #[.tmp 5, .tmp 6]) rfl ?_); at_builtin; refine Kd.R_append_rows (Kd.int .u8) (w0 := w) w.heap.size rfl (.tmp 5) (.tmp 6) 34 5 (.int .u8 0) 1 rfl Try.underlying34 info5 rfl (by decide) (by omega) v1 [] l0 _ _ _ (fun _ => True) (fun _ => False) rfl rfl ?aO ?aR (fun _ _ h => h) (fun _ h => h.elim) ?aF ?aB ?aS ?aL ?_; (case aR => exact (Kd.C_below HR0.out HB2.out)); (case aB => exact HB2.out); (case aF => exact (fun _ _ => trivial)); (case aO => exact HO.out); (case aS => exact below_size HB2.out); (case aL => have := LM.out; simp only [List.length_nil]; omega); intro v136 w6 ho hb hg hat; rw [List.nil_append] at ho; have HO2 := Aside0.mk ho; have HB3 := Aside0.mk hb; clear HB2 HO; clear ho hb hg hat))
      go_ret
      exact ⟨_, rfl, HO2.out, HB3.out⟩
  · rw [if_neg hl] at h
    cases h

/-! ### varint_bitsOf: function 100 -/
def varint_bitsOf.f (a0 : Int) : Option (Int) := some (wrap64 (a0 * 8))
set_option maxHeartbeats 8000000 in
set_option maxRecDepth 100000 in
theorem varint_bitsOf.calls (a0 : Int) (r : Int) (w : World) (h : varint_bitsOf.f a0 = some r) :
    Calls Try.prog 100 #[.int .i64 a0] w fun e w' => e = .returned (.int .i64 r) ∧ Drawn0 w w' := by
  have H : (some (wrap64 (a0 * 8))) = some r := h
  clear h
  obtain rfl := Option.some.inj H
  go_enter Try.func100, Try.ntmps100
  go_wp2
  go_ret
  exact ⟨by first | rfl | (simp; done) | (simp [*]; done), by repeat (first | exact Drawn0.refl _ | apply Drawn0.step)⟩

/-! ### slices_Clip_byte_byte: function 101 -/

theorem clip101_calls (A0 : Option Addr) (n c : Nat) (W : World) (hn : n ≤ c) (hm : n ≤ 9223372036854775807) :
    Calls Try.prog 101 #[.slice A0 n c] W fun e w' => e = .returned (.slice A0 n n) ∧ w' = W := by
  go_enter Try.func101, Try.ntmps101
  go_wp2
  go_ret
  exact ⟨by first | rfl | (simp; done), by first | rfl | (simp; done)⟩

/-! ### varint_Long: function 61 -/
def varint_Long.l0 : Nat → Int → List Int → Int → Option (List Int)
  | 0, _, _, _ => none
  | k + 1, x1, x5, x9 => if x9 < 8 then ((varint_bitsOf.f (wrap64 (7 - x9))).bind fun t152 => (if 0 ≤ t152 then (if x5.length < 140737488355328 then (varint_Long.l0 k x1 (x5 ++ [(shr .u64 (IntKind.u64.wrap (x1)) t152) % 256]) (wrap64 (x9 + 1))) else (none)) else (none))) else (some (x5))
def varint_Long.f (k : Nat) (l0 : List Int) (a1 : Int) : Option (List Int) := (slices_Clone_byte_byte.f l0).bind fun t149 => (varint_Long.l0 k a1 t149 0)
theorem varint_Long.mono_l : ∀ k, (∀ y0 y1 y2, LeO (varint_Long.l0 k y0 y1 y2) (varint_Long.l0 (k + 1) y0 y1 y2))
  | 0 => fun _ _ _ r h => by simp [varint_Long.l0] at h
  | k + 1 => by
    have ih0 := varint_Long.mono_l k
    · intro y0 y1 y2
      unfold varint_Long.l0
      repeat' first
      | (with_reducible exact ih0 _ _ _)
      | (with_reducible exact LeO.refl _)
      | (with_reducible exact LeO.none _)
      | (with_reducible refine LeO.ite ?_ ?_)
      | (with_reducible refine LeO.bind ?_ (fun _ => ?_))
      | exact ih0 _ _ _
      | exact LeO.none _
      | refine LeO.ite ?_ ?_
      | refine LeO.bind ?_ (fun _ => ?_)
theorem varint_Long.mono : ∀ a0 a1 k, LeO (varint_Long.f k a0 a1) (varint_Long.f (k + 1) a0 a1) := by
  intro a0 a1 k
  have ih0 := varint_Long.mono_l k
  unfold varint_Long.f
  repeat' first
      | (with_reducible exact ih0 _ _ _)
      | (with_reducible exact LeO.refl _)
      | (with_reducible exact LeO.none _)
      | (with_reducible refine LeO.ite ?_ ?_)
      | (with_reducible refine LeO.bind ?_ (fun _ => ?_))
      | exact ih0 _ _ _
      | exact LeO.none _
      | refine LeO.ite ?_ ?_
      | refine LeO.bind ?_ (fun _ => ?_)
set_option maxHeartbeats 8000000 in
set_option maxRecDepth 100000 in
theorem varint_Long.calls (k : Nat) (A0 : Option Addr) (c0 : Nat) (l0 : List Int) (a1 : Int) (r : List Int) (w : World) (hr0 : Kd.C (Kd.int .u8) w A0 l0.length l0) (hc0 : l0.length ≤ c0) (h : varint_Long.f k l0 a1 = some r) :
    Calls Try.prog 61 #[.slice A0 l0.length c0, .int .i64 a1] w fun e w' => ∃ v0_ : Value, e = .returned (v0_) ∧ Kd.R (Kd.int .u8) 5 w' w.heap.size (fun _ => True) v0_ r ∧ Below w.heap.size w w' := by
  have HR0 := Aside0.mk hr0
  have HC0 := Aside0.mk hc0
  clear hr0 hc0
  have HB := Aside0.mk (Below.refl w.heap.size w)
  have H : ((slices_Clone_byte_byte.f l0).bind fun t149 => (varint_Long.l0 k a1 t149 0)) = some r := h
  clear h
  replace H := Option.bind_eq_some_iff.mp H
  obtain ⟨t149, A30, H⟩ := H
  replace H : (varint_Long.l0 k a1 t149 0) = some r := H
  have A3 := Aside0.mk A30
  clear A30
  have H' := Aside0.mk H
  clear H
  go_enter Try.func61, Try.ntmps61
  go_wp2_with (first | ((with_reducible refine gate_callee (f := 99) rfl ?_); refine goesL_ (some 8) rfl rfl Try.func99 (by kernel_rfl) rfl #[.slice A0 l0.length c0] rfl (by (try simp only [List.map_toArray, List.map_cons, List.map_nil]); first | done | rfl | (simp only [List.length_drop, List.length_take]; rfl)) ?_; (with_reducible refine (slices_Clone_byte_byte.calls _ _ l0 t149 _ ?side1 ?side2 A3.out).mono ?_); (case side1 => exact cgo_ (HR0.out)); (case side2 => exact HC0.out); rintro e w4 ⟨v150, rfl, ho0, hb⟩; refine ⟨_, rfl, ?_⟩; have n0_ := Aside0.mk (Kd.R_lower ho0 (below_size (bel_ HB))); have n1_ := Aside0.mk (below_step (bel_ HB) hb); clear HB; have HO151 := n0_; have HB := n1_; clear n0_ n1_; (try clear hb); (try clear hb2); (try clear hk); (try clear hi); (try clear ho0)))
  go_loopg [5, 9] k (fun kq v5 v9 w' => ∃ (x5_1 : List Int) (x9_1 : Int), v9 = .int .i64 x9_1 ∧ Aside0 (varint_Long.l0 kq a1 x5_1 x9_1 = some r) ∧ Aside0 (kq ≤ k) ∧ Aside0 (Kd.R (Kd.int .u8) 5 w' w.heap.size (fun _ => True) v5 x5_1) ∧ Aside0 (Below w.heap.size w w'))
  case atStart => exact ⟨(t149), (0), (by first | rfl | (simp; done) | (simp [*]; done)), H', ⟨Nat.le_refl _⟩, ⟨by (with_reducible repeat (first | apply Kd.R_alloc | apply Kd.R_drewN | apply Kd.R_drew)); exact HO151.out⟩, ⟨by repeat (first | (with_reducible first | exact HB.out | apply below_alloc | apply pw_below_drewN | apply below_drew1) | exact HB.out)⟩⟩
  case round =>
    clear H'
    try clear p2
    obtain ⟨x5_1, x9_1, rfl, HA, HK1, HO_5, HB⟩ := hrel
    cases gk with
    | zero => exact absurd HA.out (by simp [varint_Long.l0])
    | succ k1 =>
      have H := HA.out
      clear HA
      simp only [varint_Long.l0] at H
      by_cases c5 : x9_1 < 8
      · rw [if_pos c5] at H
        have c5b0 : decide (x9_1 < 8) = true := decide_eq_true c5
        clear c5
        replace H := Option.bind_eq_some_iff.mp H
        obtain ⟨t152, A60, H⟩ := H
        replace H : (if 0 ≤ t152 then (if x5_1.length < 140737488355328 then (varint_Long.l0 k1 a1 (x5_1 ++ [(shr .u64 (IntKind.u64.wrap (a1)) t152) % 256]) (wrap64 (x9_1 + 1))) else (none)) else (none)) = some r := H
        have A6 := Aside0.mk A60
        clear A60
        by_cases c7 : 0 ≤ t152
        · rw [if_pos c7] at H
          have c7b0 := eq_true c7
          have c7b1 : decide (0 ≤ t152) = true := decide_eq_true c7
          clear c7
          obtain ⟨ji8, hji8⟩ : ∃ j_ : Int, (shr .u64 (IntKind.u64.wrap (a1)) t152) = j_ := ⟨_, rfl⟩
          replace H : (if x5_1.length < 140737488355328 then (varint_Long.l0 k1 a1 (x5_1 ++ [(ji8) % 256]) (wrap64 (x9_1 + 1))) else (none)) = some r := by first | (rw [hji8] at H; exact H) | (simp only [hji8] at H ⊢; exact H)
          (try rw [hji8] at A6)
          have hji8_ : ((IntKind.u64.wrap (a1)) / 2 ^ min t152.toNat 64) = ji8 := hji8
          have hji8z : t152 ≤ 64 → ((IntKind.u64.wrap (a1)) / 2 ^ t152.toNat) = ji8 := shr_small hji8
          by_cases c9 : x5_1.length < 140737488355328
          · rw [if_pos c9] at H
            have LMc9 := Aside0.mk c9
            clear c9
            obtain ⟨y153, hy153⟩ : ∃ y_ : List Int, y_ = (x5_1 ++ [(ji8) % 256]) := ⟨_, rfl⟩
            replace H : (varint_Long.l0 k1 a1 y153 (wrap64 (x9_1 + 1))) = some r := by first | (rw [hy153]; with_reducible exact H) | (have H2_ := (Option.bind_some _ _).symm.trans H; rw [hy153]; with_reducible exact H2_) | (have H2_ := (Option.bind_some _ _).symm.trans H; with_reducible exact H2_) | with_reducible exact H | (rw [hy153]; exact H) | exact H
            have Ny153 := Aside0.mk hy153
            clear hy153
            have H' := Aside0.mk H
            clear H
            go_wp2_with (first | ((with_reducible refine gate_callee (f := 100) rfl ?_); refine goesL_ (some 17) rfl rfl Try.func100 (by kernel_rfl) rfl #[.int .i64 (wrap64 (7 - x9_1))] rfl (by (try simp only [List.map_toArray, List.map_cons, List.map_nil]); first | done | rfl | (simp only [List.length_drop, List.length_take]; rfl)) ?_; (with_reducible refine (varint_bitsOf.calls (wrap64 (7 - x9_1)) t152 _ A6.out).mono ?_); rintro e w' ⟨rfl, ⟨nd, rfl⟩⟩; refine ⟨_, rfl, ?_⟩) | ((with_reducible refine gate_builtin (b := .append) (xs := #[.tmp 12, .tmp 20]) rfl ?_); at_builtin; refine Kd.R_append (Kd.int .u8) (w0 := w) w.heap.size rfl (.tmp 12) (.tmp 20) 34 5 (.int .u8 0) 1 rfl Try.underlying34 info5 rfl (by decide) (by omega) u5 x5_1 ((ji8) % 256) [.int .u8 ((ji8) % 256)] (fun _ => True) (fun _ => False) rfl rfl ?aP (fun _ hk => hk.elim) ?aF ?aO ?aB ?aS ?aL ?_; (case aP => exact rfl); (case aB => exact (bel_ HB)); (case aF => exact (fun _ _ => trivial)); (case aO => exact (rgo_ HO_5)); (case aS => exact (below_size (bel_ HB))); (case aL => have := LMc9.out; omega); intro v154 w10 ho hb hg hat; rw [← Ny153.out] at ho; have n0_ := Aside0.mk (hb); have n1_ := Aside0.mk (ho); clear HB HO_5; have HB := n0_; have HO155 := n1_; clear n0_ n1_; clear ho hb hg hat))
            go_roundg k1
            case measure => have := HK1.out; omega
            case rel => exact ⟨(y153), (wrap64 (x9_1 + 1)), (by first | rfl | (simp; done) | (simp [*]; done)), H', ⟨by have := HK1.out; omega⟩, ⟨by (with_reducible repeat (first | apply Kd.R_alloc | apply Kd.R_drewN | apply Kd.R_drew)); exact HO155.out⟩, ⟨by repeat (first | (with_reducible first | exact HB.out | apply below_alloc | apply pw_below_drewN | apply below_drew1) | exact HB.out)⟩⟩
          · rw [if_neg c9] at H
            exact absurd H (by simp)
        · rw [if_neg c7] at H
          exact absurd H (by simp)
      · rw [if_neg c5] at H
        have c5b0 : decide (x9_1 < 8) = false := decide_eq_false c5
        clear c5
        obtain ⟨y156, hy156⟩ : ∃ y_ : List Int, y_ = (x5_1) := ⟨_, rfl⟩
        replace H : (some y156) = some r := by first | (rw [hy156]; with_reducible exact H) | (have H2_ := (Option.bind_some _ _).symm.trans H; rw [hy156]; with_reducible exact H2_) | (have H2_ := (Option.bind_some _ _).symm.trans H; with_reducible exact H2_) | with_reducible exact H | (rw [hy156]; exact H) | exact H
        have Ny156 := Aside0.mk hy156
        clear hy156
        obtain rfl := Option.some.inj H
        obtain ⟨Ao11, co11, eo11⟩ := Kd.R_slice HO_5.out
        subst eo11
        have hcl12 := Kd.R_reads' HO_5.out
        have hr12 := Kd.R_clip HO_5.out
        rw [← Ny156.out] at hr12
        have hy12 : y156.length = x5_1.length := (by rw [Ny156.out])
        have hcall12 : ∀ W : World, Calls Try.prog 101 #[.slice Ao11 x5_1.length co11] W (fun e w' => e = .returned (.slice Ao11 y156.length y156.length) ∧ w' = W) := fun W => (by rw [hy12]; exact clip101_calls Ao11 x5_1.length co11 W hcl12.2.1 hcl12.2.2.2.1)
        (try rw [← hy12] at hr12)
        clear hy12 hcl12 HO_5
        have HO158 := Aside0.mk hr12
        clear hr12
        go_wp2_with (first | (go_at_call 101; refine (hcall12 _).mono ?_; rintro e w' ⟨rfl, rfl⟩))
        go_ret
        exact ⟨_, by first | rfl | (simp [errW_none, errW_some] <;> rfl) | (simp [*, errW_none, errW_some] <;> rfl), by (with_reducible repeat (first | apply Kd.R_alloc | apply Kd.R_drewN | apply Kd.R_drew)); exact HO158.out, by repeat (first | (with_reducible first | exact HB.out | apply below_alloc | apply pw_below_drewN | apply below_drew1) | exact HB.out)⟩

/-! ### varint_Put: function 134 -/
def varint_Put.l0 : Nat → List Int → Int → Option (List Int)
  | 0, _, _ => none
  | k + 1, x5, x6 => if x6 ≥ 128 then (if x5.length < 140737488355328 then (varint_Put.l0 k (x5 ++ [Go.bits .or .u8 ((x6) % 256) 128]) (x6 / 128)) else (none)) else (if x5.length < 140737488355328 then (some ((x5 ++ [(x6) % 256]))) else (none))
def varint_Put.f (k : Nat) (l0 : List Int) (a1 : Int) : Option (List Int) := (slices_Clone_byte_byte.f l0).bind fun t159 => (varint_Put.l0 k t159 (Go.bits .xor .u64 (IntKind.u64.wrap ((IntKind.u64.wrap (a1)) * 2)) (IntKind.u64.wrap (a1 / 9223372036854775808))))
theorem varint_Put.mono_l : ∀ k, (∀ y0 y1, LeO (varint_Put.l0 k y0 y1) (varint_Put.l0 (k + 1) y0 y1))
  | 0 => fun _ _ r h => by simp [varint_Put.l0] at h
  | k + 1 => by
    have ih0 := varint_Put.mono_l k
    · intro y0 y1
      unfold varint_Put.l0
      repeat' first
      | (with_reducible exact ih0 _ _)
      | (with_reducible exact LeO.refl _)
      | (with_reducible exact LeO.none _)
      | (with_reducible refine LeO.ite ?_ ?_)
      | (with_reducible refine LeO.bind ?_ (fun _ => ?_))
      | exact ih0 _ _
      | exact LeO.none _
      | refine LeO.ite ?_ ?_
      | refine LeO.bind ?_ (fun _ => ?_)
theorem varint_Put.mono : ∀ a0 a1 k, LeO (varint_Put.f k a0 a1) (varint_Put.f (k + 1) a0 a1) := by
  intro a0 a1 k
  have ih0 := varint_Put.mono_l k
  unfold varint_Put.f
  repeat' first
      | (with_reducible exact ih0 _ _)
      | (with_reducible exact LeO.refl _)
      | (with_reducible exact LeO.none _)
      | (with_reducible refine LeO.ite ?_ ?_)
      | (with_reducible refine LeO.bind ?_ (fun _ => ?_))
      | exact ih0 _ _
      | exact LeO.none _
      | refine LeO.ite ?_ ?_
      | refine LeO.bind ?_ (fun _ => ?_)
set_option maxHeartbeats 8000000 in
set_option maxRecDepth 100000 in
theorem varint_Put.calls (k : Nat) (A0 : Option Addr) (c0 : Nat) (l0 : List Int) (a1 : Int) (r : List Int) (w : World) (hr0 : Kd.C (Kd.int .u8) w A0 l0.length l0) (hc0 : l0.length ≤ c0) (h : varint_Put.f k l0 a1 = some r) :
    Calls Try.prog 134 #[.slice A0 l0.length c0, .int .i64 a1] w fun e w' => ∃ v0_ : Value, e = .returned (v0_) ∧ Kd.R (Kd.int .u8) 5 w' w.heap.size (fun _ => True) v0_ r ∧ Below w.heap.size w w' := by
  have HR0 := Aside0.mk hr0
  have HC0 := Aside0.mk hc0
  clear hr0 hc0
  have HB := Aside0.mk (Below.refl w.heap.size w)
  have H : ((slices_Clone_byte_byte.f l0).bind fun t159 => (varint_Put.l0 k t159 (Go.bits .xor .u64 (IntKind.u64.wrap ((IntKind.u64.wrap (a1)) * 2)) (IntKind.u64.wrap (a1 / 9223372036854775808))))) = some r := h
  clear h
  replace H := Option.bind_eq_some_iff.mp H
  obtain ⟨t159, A30, H⟩ := H
  replace H : (varint_Put.l0 k t159 (Go.bits .xor .u64 (IntKind.u64.wrap ((IntKind.u64.wrap (a1)) * 2)) (IntKind.u64.wrap (a1 / 9223372036854775808)))) = some r := H
  have A3 := Aside0.mk A30
  clear A30
  have H' := Aside0.mk H
  clear H
  go_enter Try.func134, Try.ntmps134
  go_wp2_with (first | ((with_reducible refine gate_callee (f := 99) rfl ?_); refine goesL_ (some 8) rfl rfl Try.func99 (by kernel_rfl) rfl #[.slice A0 l0.length c0] rfl (by (try simp only [List.map_toArray, List.map_cons, List.map_nil]); first | done | rfl | (simp only [List.length_drop, List.length_take]; rfl)) ?_; (with_reducible refine (slices_Clone_byte_byte.calls _ _ l0 t159 _ ?side1 ?side2 A3.out).mono ?_); (case side1 => exact cgo_ (HR0.out)); (case side2 => exact HC0.out); rintro e w4 ⟨v160, rfl, ho0, hb⟩; refine ⟨_, rfl, ?_⟩; have n0_ := Aside0.mk (Kd.R_lower ho0 (below_size (bel_ HB))); have n1_ := Aside0.mk (below_step (bel_ HB) hb); clear HB; have HO161 := n0_; have HB := n1_; clear n0_ n1_; (try clear hb); (try clear hb2); (try clear hk); (try clear hi); (try clear ho0)))
  go_loopg [5, 6] k (fun kq v5 v6 w' => ∃ (x5_1 : List Int) (x6_1 : Int), v6 = .int .u64 x6_1 ∧ Aside0 (varint_Put.l0 kq x5_1 x6_1 = some r) ∧ Aside0 (kq ≤ k) ∧ Aside0 (Kd.R (Kd.int .u8) 5 w' w.heap.size (fun _ => True) v5 x5_1) ∧ Aside0 (Below w.heap.size w w'))
  case atStart => exact ⟨(t159), (Go.bits .xor .u64 (IntKind.u64.wrap ((IntKind.u64.wrap (a1)) * 2)) (IntKind.u64.wrap (a1 / 9223372036854775808))), (by first | rfl | (simp; done) | (simp [*]; done)), H', ⟨Nat.le_refl _⟩, ⟨by (with_reducible repeat (first | apply Kd.R_alloc | apply Kd.R_drewN | apply Kd.R_drew)); exact HO161.out⟩, ⟨by repeat (first | (with_reducible first | exact HB.out | apply below_alloc | apply pw_below_drewN | apply below_drew1) | exact HB.out)⟩⟩
  case round =>
    clear H'
    try clear c1
    try clear p2
    obtain ⟨x5_1, x6_1, rfl, HA, HK1, HO_5, HB⟩ := hrel
    cases gk with
    | zero => exact absurd HA.out (by simp [varint_Put.l0])
    | succ k1 =>
      have H := HA.out
      clear HA
      simp only [varint_Put.l0] at H
      by_cases c5 : x6_1 ≥ 128
      · rw [if_pos c5] at H
        have c5b0 : decide (128 ≤ x6_1) = true := decide_eq_true c5
        clear c5
        by_cases c6 : x5_1.length < 140737488355328
        · rw [if_pos c6] at H
          have LMc6 := Aside0.mk c6
          clear c6
          obtain ⟨y162, hy162⟩ : ∃ y_ : List Int, y_ = (x5_1 ++ [Go.bits .or .u8 ((x6_1) % 256) 128]) := ⟨_, rfl⟩
          replace H : (varint_Put.l0 k1 y162 (x6_1 / 128)) = some r := by first | (rw [hy162]; with_reducible exact H) | (have H2_ := (Option.bind_some _ _).symm.trans H; rw [hy162]; with_reducible exact H2_) | (have H2_ := (Option.bind_some _ _).symm.trans H; with_reducible exact H2_) | with_reducible exact H | (rw [hy162]; exact H) | exact H
          have Ny162 := Aside0.mk hy162
          clear hy162
          have H' := Aside0.mk H
          clear H
          go_wp2_with (first | ((with_reducible refine gate_builtin (b := .append) (xs := #[.tmp 18, .tmp 22]) rfl ?_); at_builtin; refine Kd.R_append (Kd.int .u8) (w0 := w) w.heap.size rfl (.tmp 18) (.tmp 22) 34 5 (.int .u8 0) 1 rfl Try.underlying34 info5 rfl (by decide) (by omega) u5 x5_1 (Go.bits .or .u8 ((x6_1) % 256) 128) [.int .u8 (Go.bits .or .u8 ((x6_1) % 256) 128)] (fun _ => True) (fun _ => False) rfl rfl ?aP (fun _ hk => hk.elim) ?aF ?aO ?aB ?aS ?aL ?_; (case aP => exact rfl); (case aB => exact (bel_ HB)); (case aF => exact (fun _ _ => trivial)); (case aO => exact (rgo_ HO_5)); (case aS => exact (below_size (bel_ HB))); (case aL => have := LMc6.out; omega); intro v163 w7 ho hb hg hat; rw [← Ny162.out] at ho; have n0_ := Aside0.mk (hb); have n1_ := Aside0.mk (ho); clear HB HO_5; have HB := n0_; have HO164 := n1_; clear n0_ n1_; clear ho hb hg hat))
          go_roundg k1
          case measure => have := HK1.out; omega
          case rel => exact ⟨(y162), (x6_1 / 128), (by first | rfl | (simp; done) | (simp [*]; done)), H', ⟨by have := HK1.out; omega⟩, ⟨by (with_reducible repeat (first | apply Kd.R_alloc | apply Kd.R_drewN | apply Kd.R_drew)); exact HO164.out⟩, ⟨by repeat (first | (with_reducible first | exact HB.out | apply below_alloc | apply pw_below_drewN | apply below_drew1) | exact HB.out)⟩⟩
        · rw [if_neg c6] at H
          exact absurd H (by simp)
      · rw [if_neg c5] at H
        have c5b0 : decide (128 ≤ x6_1) = false := decide_eq_false c5
        clear c5
        by_cases c8 : x5_1.length < 140737488355328
        · rw [if_pos c8] at H
          have LMc8 := Aside0.mk c8
          clear c8
          obtain ⟨y165, hy165⟩ : ∃ y_ : List Int, y_ = (x5_1 ++ [(x6_1) % 256]) := ⟨_, rfl⟩
          replace H : (some (y165)) = some r := by first | (rw [hy165]; with_reducible exact H) | (have H2_ := (Option.bind_some _ _).symm.trans H; rw [hy165]; with_reducible exact H2_) | (have H2_ := (Option.bind_some _ _).symm.trans H; with_reducible exact H2_) | with_reducible exact H | (rw [hy165]; exact H) | exact H
          have Ny165 := Aside0.mk hy165
          clear hy165
          obtain ⟨y168, hy168⟩ : ∃ y_ : List Int, y_ = (y165) := ⟨_, rfl⟩
          replace H : (some y168) = some r := by first | (rw [hy168]; with_reducible exact H) | (have H2_ := (Option.bind_some _ _).symm.trans H; rw [hy168]; with_reducible exact H2_) | (have H2_ := (Option.bind_some _ _).symm.trans H; with_reducible exact H2_) | with_reducible exact H | (rw [hy168]; exact H) | exact H
          have Ny168 := Aside0.mk hy168
          clear hy168
          obtain rfl := Option.some.inj H
          go_wp2_with (first | ((with_reducible refine gate_builtin (b := .append) (xs := #[.tmp 26, .tmp 29]) rfl ?_); at_builtin; refine Kd.R_append (Kd.int .u8) (w0 := w) w.heap.size rfl (.tmp 26) (.tmp 29) 34 5 (.int .u8 0) 1 rfl Try.underlying34 info5 rfl (by decide) (by omega) u5 x5_1 ((x6_1) % 256) [.int .u8 ((x6_1) % 256)] (fun _ => True) (fun _ => False) rfl rfl ?aP (fun _ hk => hk.elim) ?aF ?aO ?aB ?aS ?aL ?_; (case aP => exact rfl); (case aB => exact (bel_ HB)); (case aF => exact (fun _ _ => trivial)); (case aO => exact (rgo_ HO_5)); (case aS => exact (below_size (bel_ HB))); (case aL => have := LMc8.out; omega); intro v166 w9 ho hb hg hat; rw [← Ny165.out] at ho; have n0_ := Aside0.mk (hb); have n1_ := Aside0.mk (ho); clear HB HO_5; have HB := n0_; have HO167 := n1_; clear n0_ n1_; clear ho hb hg hat; obtain ⟨Ao10, co10, eo10⟩ := Kd.R_slice HO167.out; subst eo10; have hcl11 := Kd.R_reads' HO167.out; have hr11 := Kd.R_clip HO167.out; rw [← Ny168.out] at hr11; have hy11 : y168.length = y165.length := (by rw [Ny168.out]); have hcall11 : ∀ W : World, Calls Try.prog 101 #[.slice Ao10 y165.length co10] W (fun e w' => e = .returned (.slice Ao10 y168.length y168.length) ∧ w' = W) := fun W => (by rw [hy11]; exact clip101_calls Ao10 y165.length co10 W hcl11.2.1 hcl11.2.2.2.1); (try rw [← hy11] at hr11); clear hy11 hcl11 HO167; have HO170 := Aside0.mk hr11; clear hr11) | (go_at_call 101; refine (hcall11 _).mono ?_; rintro e w' ⟨rfl, rfl⟩))
          go_ret
          exact ⟨_, by first | rfl | (simp [errW_none, errW_some] <;> rfl) | (simp [*, errW_none, errW_some] <;> rfl), by (with_reducible repeat (first | apply Kd.R_alloc | apply Kd.R_drewN | apply Kd.R_drew)); exact HO170.out, by repeat (first | (with_reducible first | exact HB.out | apply below_alloc | apply pw_below_drewN | apply below_drew1) | exact HB.out)⟩
        · rw [if_neg c8] at H
          exact absurd H (by simp)

/-! ### varint_Text: function 121 -/
def varint_Text.f (k : Nat) (l0 : List Int) (a1 : ByteArray) : Option (List Int) := (varint_Put.f k l0 (a1.size : Int)).bind fun t171 => (if t171.length + a1.size < 140737488355328 then (some ((t171 ++ bytesOf a1))) else (none))
theorem varint_Text.mono : ∀ a0 a1 k, LeO (varint_Text.f k a0 a1) (varint_Text.f (k + 1) a0 a1) := by
  intro a0 a1 k
  unfold varint_Text.f
  repeat' first
      | (with_reducible exact varint_Put.mono _ _ _)
      | (with_reducible exact LeO.refl _)
      | (with_reducible exact LeO.none _)
      | (with_reducible refine LeO.ite ?_ ?_)
      | (with_reducible refine LeO.bind ?_ (fun _ => ?_))
      | exact varint_Put.mono _ _ _
      | exact LeO.none _
      | refine LeO.ite ?_ ?_
      | refine LeO.bind ?_ (fun _ => ?_)
set_option maxHeartbeats 8000000 in
set_option maxRecDepth 100000 in
theorem varint_Text.calls (k : Nat) (A0 : Option Addr) (c0 : Nat) (l0 : List Int) (a1 : ByteArray) (r : List Int) (w : World) (hr0 : Kd.C (Kd.int .u8) w A0 l0.length l0) (hc0 : l0.length ≤ c0) (h : varint_Text.f k l0 a1 = some r) :
    Calls Try.prog 121 #[.slice A0 l0.length c0, .string a1] w fun e w' => ∃ v0_ : Value, e = .returned (v0_) ∧ Kd.R (Kd.int .u8) 5 w' w.heap.size (fun _ => True) v0_ r ∧ Below w.heap.size w w' := by
  have HR0 := Aside0.mk hr0
  have HC0 := Aside0.mk hc0
  clear hr0 hc0
  have HB := Aside0.mk (Below.refl w.heap.size w)
  have H : ((varint_Put.f k l0 (a1.size : Int)).bind fun t171 => (if t171.length + a1.size < 140737488355328 then (some ((t171 ++ bytesOf a1))) else (none))) = some r := h
  clear h
  replace H := Option.bind_eq_some_iff.mp H
  obtain ⟨t171, A30, H⟩ := H
  replace H : (if t171.length + a1.size < 140737488355328 then (some ((t171 ++ bytesOf a1))) else (none)) = some r := H
  have A3 := Aside0.mk A30
  clear A30
  by_cases c4 : t171.length + a1.size < 140737488355328
  · rw [if_pos c4] at H
    have LMc4 := Aside0.mk c4
    clear c4
    obtain ⟨y174, hy174⟩ : ∃ y_ : List Int, y_ = (t171 ++ bytesOf a1) := ⟨_, rfl⟩
    replace H : (some (y174)) = some r := by first | (rw [hy174]; with_reducible exact H) | (have H2_ := (Option.bind_some _ _).symm.trans H; rw [hy174]; with_reducible exact H2_) | (have H2_ := (Option.bind_some _ _).symm.trans H; with_reducible exact H2_) | with_reducible exact H | (rw [hy174]; exact H) | exact H
    have Ny174 := Aside0.mk hy174
    clear hy174
    obtain ⟨y177, hy177⟩ : ∃ y_ : List Int, y_ = (y174) := ⟨_, rfl⟩
    replace H : (some y177) = some r := by first | (rw [hy177]; with_reducible exact H) | (have H2_ := (Option.bind_some _ _).symm.trans H; rw [hy177]; with_reducible exact H2_) | (have H2_ := (Option.bind_some _ _).symm.trans H; with_reducible exact H2_) | with_reducible exact H | (rw [hy177]; exact H) | exact H
    have Ny177 := Aside0.mk hy177
    clear hy177
    obtain rfl := Option.some.inj H
    go_enter Try.func121, Try.ntmps121
    go_wp2_with (first | ((with_reducible refine gate_callee (f := 134) rfl ?_); refine goesL_ (some 8) rfl rfl Try.func134 (by kernel_rfl) rfl #[.slice A0 l0.length c0, .int .i64 (a1.size : Int)] rfl (by (try simp only [List.map_toArray, List.map_cons, List.map_nil]); first | done | rfl | (simp only [List.length_drop, List.length_take]; rfl)) ?_; (with_reducible refine (varint_Put.calls k _ _ l0 (a1.size : Int) t171 _ ?side1 ?side2 A3.out).mono ?_); (case side1 => exact cgo_ (HR0.out)); (case side2 => exact HC0.out); rintro e w5 ⟨v172, rfl, ho0, hb⟩; refine ⟨_, rfl, ?_⟩; have n0_ := Aside0.mk (Kd.R_lower ho0 (below_size (bel_ HB))); have n1_ := Aside0.mk (below_step (bel_ HB) hb); clear HB; have HO173 := n0_; have HB := n1_; clear n0_ n1_; (try clear hb); (try clear hb2); (try clear hk); (try clear hi); (try clear ho0)) | (at_builtin; refine print_append_str (w0 := w) w.heap.size rfl (.tmp 8) _ 34 9 5 rfl Try.underlying34 Try.underlying9 info5 v172 t171 a1 rfl rfl ?aO ?aB ?aS ?aL ?_; (case aB => exact (bel_ HB)); (case aO => exact (Kd.own_of_R (rgo_ HO173))); (case aS => exact (below_size (bel_ HB))); (case aL => have := LMc4.out; omega); intro v175 w6 ho0 hb hg; have ho := Kd.R_of_own (h1 := fun _ => rfl) (ok := fun _ => True) ho0 (fun _ _ => trivial); clear ho0; have hat := True.intro; rw [← Ny174.out] at ho; change Kd.R (Kd.int .u8) 5 w6 w.heap.size (fun _ => True) v175 y174 at ho; have n0_ := Aside0.mk (hb); have n1_ := Aside0.mk (ho); clear HB HO173; have HB := n0_; have HO176 := n1_; clear n0_ n1_; clear ho hb hg hat; obtain ⟨Ao7, co7, eo7⟩ := Kd.R_slice HO176.out; subst eo7; have hcl8 := Kd.R_reads' HO176.out; have hr8 := Kd.R_clip HO176.out; rw [← Ny177.out] at hr8; have hy8 : y177.length = y174.length := (by rw [Ny177.out]); have hcall8 : ∀ W : World, Calls Try.prog 101 #[.slice Ao7 y174.length co7] W (fun e w' => e = .returned (.slice Ao7 y177.length y177.length) ∧ w' = W) := fun W => (by rw [hy8]; exact clip101_calls Ao7 y174.length co7 W hcl8.2.1 hcl8.2.2.2.1); (try rw [← hy8] at hr8); clear hy8 hcl8 HO176; have HO179 := Aside0.mk hr8; clear hr8) | (go_at_call 101; refine (hcall8 _).mono ?_; rintro e w' ⟨rfl, rfl⟩))
    go_ret
    exact ⟨_, by first | rfl | (simp [errW_none, errW_some] <;> rfl) | (simp [*, errW_none, errW_some] <;> rfl), by (with_reducible repeat (first | apply Kd.R_alloc | apply Kd.R_drewN | apply Kd.R_drew)); exact HO179.out, by repeat (first | (with_reducible first | exact HB.out | apply below_alloc | apply pw_below_drewN | apply below_drew1) | exact HB.out)⟩
  · rw [if_neg c4] at H
    exact absurd H (by simp)

/-! ### slices_Grow_byte_byte: function 135 -/

def slices_Grow_byte_byte_nil.f (a1 : Int) : Option (List Int) := if 0 ≤ a1 then (if a1 < 140737488355328 then some [] else none) else none
set_option maxHeartbeats 8000000 in
set_option maxRecDepth 100000 in
theorem slices_Grow_byte_byte_nil.calls (a1 : Int) (r : List Int) (w : World) (h : slices_Grow_byte_byte_nil.f a1 = some r) :
    Calls Try.prog 135 #[.slice none 0 0, .int .i64 a1] w fun e w' => ∃ v0_ : Value, e = .returned (v0_) ∧ Kd.R (Kd.int .u8) 5 w' w.heap.size (fun _ => True) v0_ r ∧ Below w.heap.size w w' := by
  unfold slices_Grow_byte_byte_nil.f at h
  by_cases h0 : 0 ≤ a1
  · rw [if_pos h0] at h
    by_cases h1 : a1 < 140737488355328
    · rw [if_pos h1] at h
      obtain rfl := Option.some.inj h
      clear h
      by_cases h2 : a1 = 0
      · subst h2
        clear h0 h1
        go_enter Try.func135, Try.ntmps135
        go_wp2
        go_ret
        exact ⟨_, rfl, Kd.R_nil _ _ _ _ _, Below.refl _ _⟩
      · have h3 : 0 < a1 := by omega
        have HP := Aside0.mk h0
        have HL := Aside0.mk h1
        have h4 : a1 ≤ 140737488355328 := by omega
        clear h0 h1 h2
        obtain ⟨i0, hi0, _, _, _⟩ := info_parts info5
        go_enter Try.func135, Try.ntmps135
        go_wp2_with (first | ((with_reducible refine gate_builtin (b := .append) (xs := #[.tmp 20, .tmp 21]) rfl ?_); at_builtin; refine Kd.R_append_zeros (Kd.int .u8) (w0 := w) w.heap.size rfl (.tmp 20) (.tmp 21) 34 3 5 (.int .u8 0) 1 rfl Try.underlying34 Try.underlying3 info5 rfl (by decide) (by omega) (.slice none 0 0) [] 0 (kx := .i64) a1 (fun _ => True) rfl rfl rfl (fun _ _ => trivial) (Kd.R_nil _ _ _ _ _) HP.out (Below.refl _ _) (Nat.le_refl _) ?aL ?_; (case aL => have := HL.out; have := HP.out; simp only [List.length_nil]; omega); intro v1 w4 ho hb hg hat; rw [List.nil_append] at ho; obtain ⟨A1, c1, ev1⟩ := Kd.R_slice ho; subst ev1; have hcut := cut_to (P := Try.prog) 34 5 .i64 Try.underlying34 hi0 A1 (List.replicate a1.toNat (0 : Int)).length c1 0 (by omega) (by omega) (Kd.R_reads' ho).2.1; have HO := Aside0.mk (Kd.R_take (m := 0) ho (Nat.zero_le _)); have HB := Aside0.mk hb; clear ho hb hg hat))
        go_ret
        exact ⟨_, rfl, HO.out, HB.out⟩
    · rw [if_neg h1] at h
      cases h
  · rw [if_neg h0] at h
    cases h

/-! ### slices_Concat_byte_byte: function 123 -/
mutual
def slices_Concat_byte_byte.l0 : Nat → List (List Int) → Int → List (List Int) → Int → Int → Option (List Int)
  | 0, _, _, _, _, _ => none
  | k + 1, x0, x3, x9, x10, x11 => if x11 < x10 then (if 0 ≤ x11 then (if x11 < (x9.length : Int) then (if (wrap64 (x3 + ((rd_L4 x9 x11).length : Int))) < 0 then (none) else (slices_Concat_byte_byte.l0 k x0 (wrap64 (x3 + ((rd_L4 x9 x11).length : Int))) x9 x10 (wrap64 (x11 + 1)))) else (none)) else (none)) else ((slices_Grow_byte_byte_nil.f x3).bind fun t181 => (slices_Concat_byte_byte.l1 k t181 x0 (x0.length : Int) 0))
def slices_Concat_byte_byte.l1 : Nat → List Int → List (List Int) → Int → Int → Option (List Int)
  | 0, _, _, _, _ => none
  | k + 1, x6, x25, x26, x27 => if x27 < x26 then (if 0 ≤ x27 then (if x27 < (x25.length : Int) then (if x6.length + (rd_L4 x25 x27).length < 140737488355328 then (slices_Concat_byte_byte.l1 k (x6 ++ (rd_L4 x25 x27)) x25 x26 (wrap64 (x27 + 1))) else (none)) else (none)) else (none)) else (some x6)
end
def slices_Concat_byte_byte.f (k : Nat) (l0 : List (List Int)) : Option (List Int) := slices_Concat_byte_byte.l0 k l0 0 l0 (l0.length : Int) 0
theorem slices_Concat_byte_byte.mono_l : ∀ k, (∀ y0 y1 y2 y3 y4, LeO (slices_Concat_byte_byte.l0 k y0 y1 y2 y3 y4) (slices_Concat_byte_byte.l0 (k + 1) y0 y1 y2 y3 y4)) ∧ (∀ y0 y1 y2 y3, LeO (slices_Concat_byte_byte.l1 k y0 y1 y2 y3) (slices_Concat_byte_byte.l1 (k + 1) y0 y1 y2 y3))
  | 0 => ⟨fun _ _ _ _ _ r h => by simp [slices_Concat_byte_byte.l0] at h, fun _ _ _ _ r h => by simp [slices_Concat_byte_byte.l1] at h⟩
  | k + 1 => by
    obtain ⟨ih0, ih1⟩ := slices_Concat_byte_byte.mono_l k
    refine ⟨?_, ?_⟩
    · intro y0 y1 y2 y3 y4
      unfold slices_Concat_byte_byte.l0
      repeat' first
      | (with_reducible exact ih0 _ _ _ _ _)
      | (with_reducible exact ih1 _ _ _ _)
      | (with_reducible exact LeO.refl _)
      | (with_reducible exact LeO.none _)
      | (with_reducible refine LeO.ite ?_ ?_)
      | (with_reducible refine LeO.bind ?_ (fun _ => ?_))
      | exact ih0 _ _ _ _ _
      | exact ih1 _ _ _ _
      | exact LeO.none _
      | refine LeO.ite ?_ ?_
      | refine LeO.bind ?_ (fun _ => ?_)
    · intro y0 y1 y2 y3
      unfold slices_Concat_byte_byte.l1
      repeat' first
      | (with_reducible exact ih0 _ _ _ _ _)
      | (with_reducible exact ih1 _ _ _ _)
      | (with_reducible exact LeO.refl _)
      | (with_reducible exact LeO.none _)
      | (with_reducible refine LeO.ite ?_ ?_)
      | (with_reducible refine LeO.bind ?_ (fun _ => ?_))
      | exact ih0 _ _ _ _ _
      | exact ih1 _ _ _ _
      | exact LeO.none _
      | refine LeO.ite ?_ ?_
      | refine LeO.bind ?_ (fun _ => ?_)
theorem slices_Concat_byte_byte.mono : ∀ a0 k, LeO (slices_Concat_byte_byte.f k a0) (slices_Concat_byte_byte.f (k + 1) a0) := by
  intro a0 k
  obtain ⟨ih0, ih1⟩ := slices_Concat_byte_byte.mono_l k
  unfold slices_Concat_byte_byte.f
  repeat' first
      | (with_reducible exact ih0 _ _ _ _ _)
      | (with_reducible exact ih1 _ _ _ _)
      | (with_reducible exact LeO.refl _)
      | (with_reducible exact LeO.none _)
      | (with_reducible refine LeO.ite ?_ ?_)
      | (with_reducible refine LeO.bind ?_ (fun _ => ?_))
      | exact ih0 _ _ _ _ _
      | exact ih1 _ _ _ _
      | exact LeO.none _
      | refine LeO.ite ?_ ?_
      | refine LeO.bind ?_ (fun _ => ?_)
set_option maxHeartbeats 8000000 in
set_option maxRecDepth 100000 in
theorem slices_Concat_byte_byte.calls (k : Nat) (A0 : Option Addr) (c0 : Nat) (l0 : List (List Int)) (r : List Int) (w : World) (hr0 : Kd.C (Kd.slice 5 (Kd.int .u8)) w A0 l0.length l0) (hc0 : l0.length ≤ c0) (h : slices_Concat_byte_byte.f k l0 = some r) :
    Calls Try.prog 123 #[.slice A0 l0.length c0] w fun e w' => ∃ v0_ : Value, e = .returned (v0_) ∧ Kd.R (Kd.int .u8) 5 w' w.heap.size (fun _ => True) v0_ r ∧ Below w.heap.size w w' := by
  have HR0 := Aside0.mk hr0
  have HC0 := Aside0.mk hc0
  clear hr0 hc0
  have HB := Aside0.mk (Below.refl w.heap.size w)
  have H : (slices_Concat_byte_byte.l0 k l0 0 l0 (l0.length : Int) 0) = some r := h
  clear h
  have H' := Aside0.mk H
  clear H
  go_enter Try.func123, Try.ntmps123
  go_wp2
  go_loopg [3, 11] k (fun kq v3 v11 w' => ∃ (x3_1 : Int) (x11_1 : Int), v3 = .int .i64 x3_1 ∧ v11 = .int .i64 x11_1 ∧ Aside0 (slices_Concat_byte_byte.l0 kq l0 x3_1 l0 (l0.length : Int) x11_1 = some r) ∧ Aside0 (kq ≤ k) ∧ Aside0 (Below w.heap.size w w'))
  case atStart => exact ⟨(0), (0), (by first | rfl | (simp; done) | (simp [*]; done)), (by first | rfl | (simp; done) | (simp [*]; done)), H', ⟨Nat.le_refl _⟩, ⟨by repeat (first | (with_reducible first | exact HB.out | apply below_alloc | apply pw_below_drewN | apply below_drew1) | exact HB.out)⟩⟩
  case round =>
    clear H'
    try clear c1
    obtain ⟨x3_1, x11_1, rfl, rfl, HA, HK1, HB⟩ := hrel
    cases gk with
    | zero => exact absurd HA.out (by simp [slices_Concat_byte_byte.l0])
    | succ k1 =>
      have H := HA.out
      clear HA
      simp only [slices_Concat_byte_byte.l0] at H
      by_cases c2 : x11_1 < (l0.length : Int)
      · rw [if_pos c2] at H
        have c2b0 : decide (x11_1 < (l0.length : Int)) = true := decide_eq_true c2
        clear c2
        by_cases c3 : 0 ≤ x11_1
        · rw [if_pos c3] at H
          have c3b0 : decide (0 ≤ x11_1) = true := decide_eq_true c3
          clear c3
          by_cases c4 : x11_1 < (l0.length : Int)
          · rw [if_pos c4] at H
            have c4b0 : decide (x11_1 < (l0.length : Int)) = true := decide_eq_true c4
            clear c4
            by_cases c5 : (wrap64 (x3_1 + ((rd_L4 l0 x11_1).length : Int))) < 0
            · rw [if_pos c5] at H
              exact absurd H (by simp)
            · rw [if_neg c5] at H
              have c5b0 : decide ((wrap64 (x3_1 + ((rd_L4 l0 x11_1).length : Int))) < 0) = false := decide_eq_false c5
              clear c5
              have H' := Aside0.mk H
              clear H
              have p180 : 0 ≤ (x11_1 : Int) := of_decide_eq_true (by first | (with_reducible assumption) | assumption)
              have q180 : x11_1 < (l0.length : Int) := of_decide_eq_true (by first | (with_reducible assumption) | assumption)
              obtain ⟨ad180, A180_0, c180_0, e180, hx180_0, hl180_0, hi180_0⟩ := at_L4 HR0.out x11_1 p180 q180
              cases e180
              replace hx180_0 := (HB.out.cell (World.block_lt_of_cell? w _ hx180_0)).trans hx180_0
              have HR180_0 := Aside0.mk hi180_0
              have HC180_0 := Aside0.mk hl180_0
              clear hi180_0 hl180_0
              replace p180 := eq_true p180
              replace q180 := eq_true q180
              go_wp2
              go_roundg k1
              case measure => have := HK1.out; omega
              case rel => exact ⟨(wrap64 (x3_1 + ((rd_L4 l0 x11_1).length : Int))), (wrap64 (x11_1 + 1)), (by first | rfl | (simp; done) | (simp [*]; done)), (by first | rfl | (simp; done) | (simp [*]; done)), H', ⟨by have := HK1.out; omega⟩, ⟨by repeat (first | (with_reducible first | exact HB.out | apply below_alloc | apply pw_below_drewN | apply below_drew1) | exact HB.out)⟩⟩
          · rw [if_neg c4] at H
            exact absurd H (by simp)
        · rw [if_neg c3] at H
          exact absurd H (by simp)
      · rw [if_neg c2] at H
        have c2b0 : decide (x11_1 < (l0.length : Int)) = false := decide_eq_false c2
        clear c2
        replace H := Option.bind_eq_some_iff.mp H
        obtain ⟨t181, A60, H⟩ := H
        replace H : (slices_Concat_byte_byte.l1 k1 t181 l0 (l0.length : Int) 0) = some r := H
        have A6 := Aside0.mk A60
        clear A60
        have H' := Aside0.mk H
        clear H
        go_wp2_with (first | (go_at_call 135; (with_reducible refine (slices_Grow_byte_byte_nil.calls x3_1 t181 _ A6.out).mono ?_); rintro e w7 ⟨v182, rfl, ho0, hb⟩; have n0_ := Aside0.mk (Kd.R_lower ho0 (below_size (bel_ HB))); have n1_ := Aside0.mk (below_step (bel_ HB) hb); clear HB; have HO183 := n0_; have HB := n1_; clear n0_ n1_; (try clear hb); (try clear hb2); (try clear hk); (try clear hi); (try clear ho0)))
        go_loopg [6, 27] k1 (fun kq v6 v27 w' => ∃ (x6_2 : List Int) (x27_2 : Int), v27 = .int .i64 x27_2 ∧ Aside0 (slices_Concat_byte_byte.l1 kq x6_2 l0 (l0.length : Int) x27_2 = some r) ∧ Aside0 (kq ≤ k1) ∧ Aside0 (Kd.R (Kd.int .u8) 5 w' w.heap.size (fun _ => True) v6 x6_2) ∧ Aside0 (Below w.heap.size w w'))
        case atStart => exact ⟨(t181), (0), (by first | rfl | (simp; done) | (simp [*]; done)), H', ⟨Nat.le_refl _⟩, ⟨by (with_reducible repeat (first | apply Kd.R_alloc | apply Kd.R_drewN | apply Kd.R_drew)); exact HO183.out⟩, ⟨by repeat (first | (with_reducible first | exact HB.out | apply below_alloc | apply pw_below_drewN | apply below_drew1) | exact HB.out)⟩⟩
        case round =>
          clear H'
          try clear c1
          try clear p1
          try clear q1
          try clear hx1
          try clear c2
          try clear c2b0
          try clear p2
          try clear c3
          try clear c3b0
          try clear c4
          try clear c4b0
          try clear c5
          try clear c5b0
          try clear p6
          try clear hx180_0
          try clear p180
          try clear q180
          obtain ⟨x6_2, x27_2, rfl, HA, HK2, HO_6, HB⟩ := hrel
          cases gk with
          | zero => exact absurd HA.out (by simp [slices_Concat_byte_byte.l1])
          | succ k2 =>
            have H := HA.out
            clear HA
            simp only [slices_Concat_byte_byte.l1] at H
            by_cases c8 : x27_2 < (l0.length : Int)
            · rw [if_pos c8] at H
              have c8b0 : decide (x27_2 < (l0.length : Int)) = true := decide_eq_true c8
              clear c8
              by_cases c9 : 0 ≤ x27_2
              · rw [if_pos c9] at H
                have c9b0 : decide (0 ≤ x27_2) = true := decide_eq_true c9
                clear c9
                by_cases c10 : x27_2 < (l0.length : Int)
                · rw [if_pos c10] at H
                  have c10b0 : decide (x27_2 < (l0.length : Int)) = true := decide_eq_true c10
                  clear c10
                  by_cases c11 : x6_2.length + (rd_L4 l0 x27_2).length < 140737488355328
                  · rw [if_pos c11] at H
                    have LMc11 := Aside0.mk c11
                    clear c11
                    obtain ⟨y185, hy185⟩ : ∃ y_ : List Int, y_ = (x6_2 ++ (rd_L4 l0 x27_2)) := ⟨_, rfl⟩
                    replace H : (slices_Concat_byte_byte.l1 k2 y185 l0 (l0.length : Int) (wrap64 (x27_2 + 1))) = some r := by first | (rw [hy185]; with_reducible exact H) | (have H2_ := (Option.bind_some _ _).symm.trans H; rw [hy185]; with_reducible exact H2_) | (have H2_ := (Option.bind_some _ _).symm.trans H; with_reducible exact H2_) | with_reducible exact H | (rw [hy185]; exact H) | exact H
                    have Ny185 := Aside0.mk hy185
                    clear hy185
                    have H' := Aside0.mk H
                    clear H
                    have p184 : 0 ≤ (x27_2 : Int) := of_decide_eq_true (by first | (with_reducible assumption) | assumption)
                    have q184 : x27_2 < (l0.length : Int) := of_decide_eq_true (by first | (with_reducible assumption) | assumption)
                    obtain ⟨ad184, A184_0, c184_0, e184, hx184_0, hl184_0, hi184_0⟩ := at_L4 HR0.out x27_2 p184 q184
                    cases e184
                    replace hx184_0 := (HB.out.cell (World.block_lt_of_cell? w _ hx184_0)).trans hx184_0
                    have HR184_0 := Aside0.mk hi184_0
                    have HC184_0 := Aside0.mk hl184_0
                    clear hi184_0 hl184_0
                    replace p184 := eq_true p184
                    replace q184 := eq_true q184
                    go_wp2_with (first | ((with_reducible refine gate_builtin (b := .append) (xs := #[.tmp 31, .tmp 32]) rfl ?_); at_builtin; refine Kd.R_append_rows (Kd.int .u8) (w0 := w) w.heap.size rfl (.tmp 31) (.tmp 32) 34 5 (.int .u8 0) 1 rfl Try.underlying34 info5 rfl (by decide) (by omega) u6 x6_2 (rd_L4 l0 x27_2) _ _ _ (fun _ => True) (fun _ => False) rfl rfl ?aO ?aR (fun _ _ h => h) (fun _ h => h.elim) ?aF ?aB ?aS ?aL ?_; (case aR => exact cgo_ ((Kd.C_below HR184_0.out HB.out))); (case aB => exact (bel_ HB)); (case aF => exact (fun _ _ => trivial)); (case aO => exact (rgo_ HO_6)); (case aS => exact (below_size (bel_ HB))); (case aL => have := LMc11.out; omega); intro v186 w12 ho hb hg hat; rw [← Ny185.out] at ho; have n0_ := Aside0.mk (hb); have n1_ := Aside0.mk (ho); clear HB HO_6; have HB := n0_; have HO187 := n1_; clear n0_ n1_; clear ho hb hg hat))
                    go_roundg k2
                    case measure => have := HK1.out; have := HK2.out; omega
                    case rel => exact ⟨(y185), (wrap64 (x27_2 + 1)), (by first | rfl | (simp; done) | (simp [*]; done)), H', ⟨by have := HK1.out; have := HK2.out; omega⟩, ⟨by (with_reducible repeat (first | apply Kd.R_alloc | apply Kd.R_drewN | apply Kd.R_drew)); exact HO187.out⟩, ⟨by repeat (first | (with_reducible first | exact HB.out | apply below_alloc | apply pw_below_drewN | apply below_drew1) | exact HB.out)⟩⟩
                  · rw [if_neg c11] at H
                    exact absurd H (by simp)
                · rw [if_neg c10] at H
                  exact absurd H (by simp)
              · rw [if_neg c9] at H
                exact absurd H (by simp)
            · rw [if_neg c8] at H
              have c8b0 : decide (x27_2 < (l0.length : Int)) = false := decide_eq_false c8
              clear c8
              obtain rfl := Option.some.inj H
              go_wp2
              go_ret
              exact ⟨_, by first | rfl | (simp [errW_none, errW_some] <;> rfl) | (simp [*, errW_none, errW_some] <;> rfl), by (with_reducible repeat (first | apply Kd.R_alloc | apply Kd.R_drewN | apply Kd.R_drew)); exact HO_6.out, by repeat (first | (with_reducible first | exact HB.out | apply below_alloc | apply pw_below_drewN | apply below_drew1) | exact HB.out)⟩

def slices_Concat_byte_byte_2.f (l0 : List Int) (l1 : List Int) : Option (List Int) := if l0.length + l1.length < 140737488355328 then some (l0 ++ l1) else none
theorem slices_Concat_byte_byte_2.pure (l0 : List Int) (l1 : List Int) (h : l0.length + l1.length < 140737488355328) : slices_Concat_byte_byte.f 8 [l0, l1] = some (l0 ++ l1) := by
  have s0 : wrap64 (0 + (l0.length : Int)) = (l0.length : Int) := by unfold wrap64; omega
  have i0 : wrap64 (0 + 1) = 1 := by unfold wrap64; omega
  have r0 : rd_L4 [l0, l1] 0 = l0 := rfl
  have g0 : (0 : Int) < ([l0, l1].length : Int) := by show (0 : Int) < ((2 : Nat) : Int); decide
  have s1 : wrap64 ((l0.length : Int) + (l1.length : Int)) = (l0.length : Int) + (l1.length : Int) := by unfold wrap64; omega
  have i1 : wrap64 (1 + 1) = 2 := by unfold wrap64; omega
  have r1 : rd_L4 [l0, l1] 1 = l1 := rfl
  have g1 : (1 : Int) < ([l0, l1].length : Int) := by show (1 : Int) < ((2 : Nat) : Int); decide
  have hl : ([l0, l1].length : Int) = 2 := rfl
  show slices_Concat_byte_byte.l0 8 [l0, l1] 0 [l0, l1] ([l0, l1].length : Int) 0 = _
  rw [slices_Concat_byte_byte.l0, if_pos g0, if_pos (by decide), if_pos g0, r0, s0, if_neg (by omega), i0]
  rw [slices_Concat_byte_byte.l0, if_pos g1, if_pos (by decide), if_pos g1, r1, s1, if_neg (by omega), i1]
  rw [slices_Concat_byte_byte.l0, if_neg (by rw [hl]; decide), show slices_Grow_byte_byte_nil.f ((l0.length : Int) + (l1.length : Int)) = some [] from by unfold slices_Grow_byte_byte_nil.f; rw [if_pos (by omega), if_pos (by omega)], Option.bind_some]
  rw [slices_Concat_byte_byte.l1, if_pos g0, if_pos (by decide), if_pos g0, r0, if_pos (by simp only [List.length_nil, List.length_append]; omega), i0]
  rw [slices_Concat_byte_byte.l1, if_pos g1, if_pos (by decide), if_pos g1, r1, if_pos (by simp only [List.length_nil, List.length_append]; omega), i1]
  rw [slices_Concat_byte_byte.l1, if_neg (by rw [hl]; decide), List.nil_append]
set_option maxHeartbeats 4000000 in
theorem slices_Concat_byte_byte_2.calls (A0 : Option Addr) (c0 : Nat) (l0 : List Int) (A1 : Option Addr) (c1 : Nat) (l1 : List Int) (r : List Int) (w : World) (hr0 : Kd.C (Kd.int .u8) w A0 l0.length l0) (hc0 : l0.length ≤ c0) (hr1 : Kd.C (Kd.int .u8) w A1 l1.length l1) (hc1 : l1.length ≤ c1) (h : slices_Concat_byte_byte_2.f l0 l1 = some r) :
    Calls Try.prog 123 #[.slice (some ⟨w.heap.size, 0, none⟩) 2 2] (w.alloc (.cells #[.slice A0 l0.length c0, .slice A1 l1.length c1] 34)) fun e w' => ∃ v0_ : Value, e = .returned (v0_) ∧ Kd.R (Kd.int .u8) 5 w' w.heap.size (fun _ => True) v0_ r ∧ Below w.heap.size w w' := by
  unfold slices_Concat_byte_byte_2.f at h
  by_cases hl : l0.length + l1.length < 140737488355328
  · rw [if_pos hl] at h
    obtain rfl := Option.some.inj h
    clear h
    have hb : Below w.heap.size w (w.alloc (.cells #[.slice A0 l0.length c0, .slice A1 l1.length c1] 34)) := below_alloc (Below.refl _ _) _
    have hcell : ∀ j u, ([.slice A0 l0.length c0, .slice A1 l1.length c1] : List Value)[j]? = some u → (w.alloc (.cells #[.slice A0 l0.length c0, .slice A1 l1.length c1] 34)).cell? ((⟨w.heap.size, 0, none⟩ : Addr).add j) = some u := by
      intro j u hu
      rw [Addr.add_lit, cell_of_row _ _ _ #[.slice A0 l0.length c0, .slice A1 l1.length c1] 34 (0, 0) (heap_alloc_new w _), Nat.zero_add, ← Array.getElem?_toList]
      exact hu
    have hr : Kd.C (Kd.slice 5 (Kd.int .u8)) (w.alloc (.cells #[.slice A0 l0.length c0, .slice A1 l1.length c1] 34)) (some ⟨w.heap.size, 0, none⟩) ([l0, l1] : List (List Int)).length [l0, l1] := by
      refine ⟨rfl, by show 2 ≤ _; decide, fun _ => ⟨_, rfl, fun j p hj => ?_⟩⟩
      match j, hj with
      | 0, hj =>
        obtain rfl := Option.some.inj hj
        refine ⟨[.slice A0 l0.length c0], rfl, ⟨A0, c0, rfl, hc0, Kd.C_below hr0 hb⟩, fun i u hu => ?_⟩
        match i, hu with
        | 0, hu => exact hcell 0 u hu
      | 1, hj =>
        obtain rfl := Option.some.inj hj
        refine ⟨[.slice A1 l1.length c1], rfl, ⟨A1, c1, rfl, hc1, Kd.C_below hr1 hb⟩, fun i u hu => ?_⟩
        match i, hu with
        | 0, hu => exact hcell 1 u hu
      | j + 2, hj => simp at hj
    refine (slices_Concat_byte_byte.calls 8 (some ⟨w.heap.size, 0, none⟩) 2 [l0, l1] (l0 ++ l1) _ hr (Nat.le_refl _) (slices_Concat_byte_byte_2.pure l0 l1 hl)).mono ?_
    rintro e w' ⟨v, rfl, ho, hb2⟩
    exact ⟨v, rfl, Kd.R_lower ho (below_size hb), below_step hb hb2⟩
  · rw [if_neg hl] at h
    cases h

def slices_Concat_byte_byte_3.f (l0 : List Int) (l1 : List Int) (l2 : List Int) : Option (List Int) := if l0.length + l1.length + l2.length < 140737488355328 then some (l0 ++ l1 ++ l2) else none
theorem slices_Concat_byte_byte_3.pure (l0 : List Int) (l1 : List Int) (l2 : List Int) (h : l0.length + l1.length + l2.length < 140737488355328) : slices_Concat_byte_byte.f 8 [l0, l1, l2] = some (l0 ++ l1 ++ l2) := by
  have s0 : wrap64 (0 + (l0.length : Int)) = (l0.length : Int) := by unfold wrap64; omega
  have i0 : wrap64 (0 + 1) = 1 := by unfold wrap64; omega
  have r0 : rd_L4 [l0, l1, l2] 0 = l0 := rfl
  have g0 : (0 : Int) < ([l0, l1, l2].length : Int) := by show (0 : Int) < ((3 : Nat) : Int); decide
  have s1 : wrap64 ((l0.length : Int) + (l1.length : Int)) = (l0.length : Int) + (l1.length : Int) := by unfold wrap64; omega
  have i1 : wrap64 (1 + 1) = 2 := by unfold wrap64; omega
  have r1 : rd_L4 [l0, l1, l2] 1 = l1 := rfl
  have g1 : (1 : Int) < ([l0, l1, l2].length : Int) := by show (1 : Int) < ((3 : Nat) : Int); decide
  have s2 : wrap64 (((l0.length : Int) + (l1.length : Int)) + (l2.length : Int)) = (l0.length : Int) + (l1.length : Int) + (l2.length : Int) := by unfold wrap64; omega
  have i2 : wrap64 (2 + 1) = 3 := by unfold wrap64; omega
  have r2 : rd_L4 [l0, l1, l2] 2 = l2 := rfl
  have g2 : (2 : Int) < ([l0, l1, l2].length : Int) := by show (2 : Int) < ((3 : Nat) : Int); decide
  have hl : ([l0, l1, l2].length : Int) = 3 := rfl
  show slices_Concat_byte_byte.l0 8 [l0, l1, l2] 0 [l0, l1, l2] ([l0, l1, l2].length : Int) 0 = _
  rw [slices_Concat_byte_byte.l0, if_pos g0, if_pos (by decide), if_pos g0, r0, s0, if_neg (by omega), i0]
  rw [slices_Concat_byte_byte.l0, if_pos g1, if_pos (by decide), if_pos g1, r1, s1, if_neg (by omega), i1]
  rw [slices_Concat_byte_byte.l0, if_pos g2, if_pos (by decide), if_pos g2, r2, s2, if_neg (by omega), i2]
  rw [slices_Concat_byte_byte.l0, if_neg (by rw [hl]; decide), show slices_Grow_byte_byte_nil.f ((l0.length : Int) + (l1.length : Int) + (l2.length : Int)) = some [] from by unfold slices_Grow_byte_byte_nil.f; rw [if_pos (by omega), if_pos (by omega)], Option.bind_some]
  rw [slices_Concat_byte_byte.l1, if_pos g0, if_pos (by decide), if_pos g0, r0, if_pos (by simp only [List.length_nil, List.length_append]; omega), i0]
  rw [slices_Concat_byte_byte.l1, if_pos g1, if_pos (by decide), if_pos g1, r1, if_pos (by simp only [List.length_nil, List.length_append]; omega), i1]
  rw [slices_Concat_byte_byte.l1, if_pos g2, if_pos (by decide), if_pos g2, r2, if_pos (by simp only [List.length_nil, List.length_append]; omega), i2]
  rw [slices_Concat_byte_byte.l1, if_neg (by rw [hl]; decide), List.nil_append]
set_option maxHeartbeats 4000000 in
theorem slices_Concat_byte_byte_3.calls (A0 : Option Addr) (c0 : Nat) (l0 : List Int) (A1 : Option Addr) (c1 : Nat) (l1 : List Int) (A2 : Option Addr) (c2 : Nat) (l2 : List Int) (r : List Int) (w : World) (hr0 : Kd.C (Kd.int .u8) w A0 l0.length l0) (hc0 : l0.length ≤ c0) (hr1 : Kd.C (Kd.int .u8) w A1 l1.length l1) (hc1 : l1.length ≤ c1) (hr2 : Kd.C (Kd.int .u8) w A2 l2.length l2) (hc2 : l2.length ≤ c2) (h : slices_Concat_byte_byte_3.f l0 l1 l2 = some r) :
    Calls Try.prog 123 #[.slice (some ⟨w.heap.size, 0, none⟩) 3 3] (w.alloc (.cells #[.slice A0 l0.length c0, .slice A1 l1.length c1, .slice A2 l2.length c2] 34)) fun e w' => ∃ v0_ : Value, e = .returned (v0_) ∧ Kd.R (Kd.int .u8) 5 w' w.heap.size (fun _ => True) v0_ r ∧ Below w.heap.size w w' := by
  unfold slices_Concat_byte_byte_3.f at h
  by_cases hl : l0.length + l1.length + l2.length < 140737488355328
  · rw [if_pos hl] at h
    obtain rfl := Option.some.inj h
    clear h
    have hb : Below w.heap.size w (w.alloc (.cells #[.slice A0 l0.length c0, .slice A1 l1.length c1, .slice A2 l2.length c2] 34)) := below_alloc (Below.refl _ _) _
    have hcell : ∀ j u, ([.slice A0 l0.length c0, .slice A1 l1.length c1, .slice A2 l2.length c2] : List Value)[j]? = some u → (w.alloc (.cells #[.slice A0 l0.length c0, .slice A1 l1.length c1, .slice A2 l2.length c2] 34)).cell? ((⟨w.heap.size, 0, none⟩ : Addr).add j) = some u := by
      intro j u hu
      rw [Addr.add_lit, cell_of_row _ _ _ #[.slice A0 l0.length c0, .slice A1 l1.length c1, .slice A2 l2.length c2] 34 (0, 0) (heap_alloc_new w _), Nat.zero_add, ← Array.getElem?_toList]
      exact hu
    have hr : Kd.C (Kd.slice 5 (Kd.int .u8)) (w.alloc (.cells #[.slice A0 l0.length c0, .slice A1 l1.length c1, .slice A2 l2.length c2] 34)) (some ⟨w.heap.size, 0, none⟩) ([l0, l1, l2] : List (List Int)).length [l0, l1, l2] := by
      refine ⟨rfl, by show 3 ≤ _; decide, fun _ => ⟨_, rfl, fun j p hj => ?_⟩⟩
      match j, hj with
      | 0, hj =>
        obtain rfl := Option.some.inj hj
        refine ⟨[.slice A0 l0.length c0], rfl, ⟨A0, c0, rfl, hc0, Kd.C_below hr0 hb⟩, fun i u hu => ?_⟩
        match i, hu with
        | 0, hu => exact hcell 0 u hu
      | 1, hj =>
        obtain rfl := Option.some.inj hj
        refine ⟨[.slice A1 l1.length c1], rfl, ⟨A1, c1, rfl, hc1, Kd.C_below hr1 hb⟩, fun i u hu => ?_⟩
        match i, hu with
        | 0, hu => exact hcell 1 u hu
      | 2, hj =>
        obtain rfl := Option.some.inj hj
        refine ⟨[.slice A2 l2.length c2], rfl, ⟨A2, c2, rfl, hc2, Kd.C_below hr2 hb⟩, fun i u hu => ?_⟩
        match i, hu with
        | 0, hu => exact hcell 2 u hu
      | j + 3, hj => simp at hj
    refine (slices_Concat_byte_byte.calls 8 (some ⟨w.heap.size, 0, none⟩) 3 [l0, l1, l2] (l0 ++ l1 ++ l2) _ hr (Nat.le_refl _) (slices_Concat_byte_byte_3.pure l0 l1 l2 hl)).mono ?_
    rintro e w' ⟨v, rfl, ho, hb2⟩
    exact ⟨v, rfl, Kd.R_lower ho (below_size hb), below_step hb hb2⟩
  · rw [if_neg hl] at h
    cases h

/-! ### crc_Next: function 136 -/
def crc_Next.l0 : Nat → Int → Int → Option (Int)
  | 0, _, _ => none
  | k + 1, x0, x10 => if x10 < 8 then (crc_Next.l0 k (Go.bits .xor .u32 (x0 / 2) ((2197175160 * (Go.bits .and .u32 x0 1)) % 4294967296)) (wrap64 (x10 + 1))) else (some x0)
def crc_Next.f (k : Nat) (a0 : Int) (a1 : Int) : Option (Int) := crc_Next.l0 k (Go.bits .xor .u32 a0 ((a1) % 4294967296)) 0
theorem crc_Next.mono_l : ∀ k, (∀ y0 y1, LeO (crc_Next.l0 k y0 y1) (crc_Next.l0 (k + 1) y0 y1))
  | 0 => fun _ _ r h => by simp [crc_Next.l0] at h
  | k + 1 => by
    have ih0 := crc_Next.mono_l k
    · intro y0 y1
      unfold crc_Next.l0
      repeat' first
      | (with_reducible exact ih0 _ _)
      | (with_reducible exact LeO.refl _)
      | (with_reducible exact LeO.none _)
      | (with_reducible refine LeO.ite ?_ ?_)
      | (with_reducible refine LeO.bind ?_ (fun _ => ?_))
      | exact ih0 _ _
      | exact LeO.none _
      | refine LeO.ite ?_ ?_
      | refine LeO.bind ?_ (fun _ => ?_)
theorem crc_Next.mono : ∀ a0 a1 k, LeO (crc_Next.f k a0 a1) (crc_Next.f (k + 1) a0 a1) := by
  intro a0 a1 k
  have ih0 := crc_Next.mono_l k
  unfold crc_Next.f
  repeat' first
      | (with_reducible exact ih0 _ _)
      | (with_reducible exact LeO.refl _)
      | (with_reducible exact LeO.none _)
      | (with_reducible refine LeO.ite ?_ ?_)
      | (with_reducible refine LeO.bind ?_ (fun _ => ?_))
      | exact ih0 _ _
      | exact LeO.none _
      | refine LeO.ite ?_ ?_
      | refine LeO.bind ?_ (fun _ => ?_)
set_option maxHeartbeats 8000000 in
set_option maxRecDepth 100000 in
theorem crc_Next.calls (k : Nat) (a0 : Int) (a1 : Int) (r : Int) (w : World) (h : crc_Next.f k a0 a1 = some r) :
    Calls Try.prog 136 #[.int .u32 a0, .int .u8 a1] w fun e w' => e = .returned (.int .u32 r) ∧ Drawn0 w w' := by
  have H : (crc_Next.l0 k (Go.bits .xor .u32 a0 ((a1) % 4294967296)) 0) = some r := h
  clear h
  have H' := Aside0.mk H
  clear H
  go_enter Try.func136, Try.ntmps136
  go_wp2
  go_loopg [0, 10] k (fun kq v0 v10 w' => ∃ (x0_1 : Int) (x10_1 : Int), v0 = .int .u32 x0_1 ∧ v10 = .int .i64 x10_1 ∧ Aside0 (crc_Next.l0 kq x0_1 x10_1 = some r) ∧ Aside0 (kq ≤ k) ∧ Drawn0 w w')
  case atStart => exact ⟨(Go.bits .xor .u32 a0 ((a1) % 4294967296)), (0), (by first | rfl | (simp; done) | (simp [*]; done)), (by first | rfl | (simp; done) | (simp [*]; done)), H', ⟨Nat.le_refl _⟩, by repeat (first | exact Drawn0.refl _ | apply Drawn0.step)⟩
  case round =>
    clear H'
    try clear c1
    try clear p2
    obtain ⟨x0_1, x10_1, rfl, rfl, HA, HK1, ⟨m1, rfl⟩⟩ := hrel
    cases gk with
    | zero => exact absurd HA.out (by simp [crc_Next.l0])
    | succ k1 =>
      have H := HA.out
      clear HA
      simp only [crc_Next.l0] at H
      by_cases c3 : x10_1 < 8
      · rw [if_pos c3] at H
        have c3b0 : decide (x10_1 < 8) = true := decide_eq_true c3
        clear c3
        have H' := Aside0.mk H
        clear H
        go_wp2
        go_roundg k1
        case measure => have := HK1.out; omega
        case rel => exact ⟨(Go.bits .xor .u32 (x0_1 / 2) ((2197175160 * (Go.bits .and .u32 x0_1 1)) % 4294967296)), (wrap64 (x10_1 + 1)), (by first | rfl | (simp; done) | (simp [*]; done)), (by first | rfl | (simp; done) | (simp [*]; done)), H', ⟨by have := HK1.out; omega⟩, by repeat (first | exact Drawn0.refl _ | apply Drawn0.step)⟩
      · rw [if_neg c3] at H
        have c3b0 : decide (x10_1 < 8) = false := decide_eq_false c3
        clear c3
        obtain rfl := Option.some.inj H
        go_wp2
        go_ret
        exact ⟨by first | rfl | (simp; done) | (simp [*]; done), by repeat (first | exact Drawn0.refl _ | apply Drawn0.step)⟩

/-! ### crc_Of: function 124 -/
def crc_Of.l0 : Nat → Int → List Int → Int → Int → Option (Int)
  | 0, _, _, _, _ => none
  | k + 1, x3, x6, x7, x8 => if x8 < x7 then (if 0 ≤ x8 then (if x8 < (x6.length : Int) then ((crc_Next.f k x3 (rd x6 x8)).bind fun t189 => (crc_Of.l0 k t189 x6 x7 (wrap64 (x8 + 1)))) else (none)) else (none)) else (some (Go.bits .xor .u32 (IntKind.u32.max) x3))
def crc_Of.f (k : Nat) (l0 : List Int) : Option (Int) := crc_Of.l0 k 4294967295 l0 (l0.length : Int) 0
theorem crc_Of.mono_l : ∀ k, (∀ y0 y1 y2 y3, LeO (crc_Of.l0 k y0 y1 y2 y3) (crc_Of.l0 (k + 1) y0 y1 y2 y3))
  | 0 => fun _ _ _ _ r h => by simp [crc_Of.l0] at h
  | k + 1 => by
    have ih0 := crc_Of.mono_l k
    · intro y0 y1 y2 y3
      unfold crc_Of.l0
      repeat' first
      | (with_reducible exact ih0 _ _ _ _)
      | (with_reducible exact crc_Next.mono _ _ _)
      | (with_reducible exact LeO.refl _)
      | (with_reducible exact LeO.none _)
      | (with_reducible refine LeO.ite ?_ ?_)
      | (with_reducible refine LeO.bind ?_ (fun _ => ?_))
      | exact ih0 _ _ _ _
      | exact crc_Next.mono _ _ _
      | exact LeO.none _
      | refine LeO.ite ?_ ?_
      | refine LeO.bind ?_ (fun _ => ?_)
theorem crc_Of.mono : ∀ a0 k, LeO (crc_Of.f k a0) (crc_Of.f (k + 1) a0) := by
  intro a0 k
  have ih0 := crc_Of.mono_l k
  unfold crc_Of.f
  repeat' first
      | (with_reducible exact ih0 _ _ _ _)
      | (with_reducible exact crc_Next.mono _ _ _)
      | (with_reducible exact LeO.refl _)
      | (with_reducible exact LeO.none _)
      | (with_reducible refine LeO.ite ?_ ?_)
      | (with_reducible refine LeO.bind ?_ (fun _ => ?_))
      | exact ih0 _ _ _ _
      | exact crc_Next.mono _ _ _
      | exact LeO.none _
      | refine LeO.ite ?_ ?_
      | refine LeO.bind ?_ (fun _ => ?_)
set_option maxHeartbeats 8000000 in
set_option maxRecDepth 100000 in
theorem crc_Of.calls (k : Nat) (A0 : Option Addr) (c0 : Nat) (l0 : List Int) (r : Int) (w : World) (hr0 : Kd.C (Kd.int .u8) w A0 l0.length l0) (hc0 : l0.length ≤ c0) (h : crc_Of.f k l0 = some r) :
    Calls Try.prog 124 #[.slice A0 l0.length c0] w fun e w' => e = .returned (.int .u32 r) ∧ Drawn0 w w' := by
  have HR0 := Aside0.mk hr0
  have HC0 := Aside0.mk hc0
  clear hr0 hc0
  have H : (crc_Of.l0 k 4294967295 l0 (l0.length : Int) 0) = some r := h
  clear h
  have H' := Aside0.mk H
  clear H
  go_enter Try.func124, Try.ntmps124
  go_wp2
  go_loopg [3, 8] k (fun kq v3 v8 w' => ∃ (x3_1 : Int) (x8_1 : Int), v3 = .int .u32 x3_1 ∧ v8 = .int .i64 x8_1 ∧ Aside0 (crc_Of.l0 kq x3_1 l0 (l0.length : Int) x8_1 = some r) ∧ Aside0 (kq ≤ k) ∧ Drawn0 w w')
  case atStart => exact ⟨(4294967295), (0), (by first | rfl | (simp; done) | (simp [*]; done)), (by first | rfl | (simp; done) | (simp [*]; done)), H', ⟨Nat.le_refl _⟩, by repeat (first | exact Drawn0.refl _ | apply Drawn0.step)⟩
  case round =>
    clear H'
    try clear c1
    obtain ⟨x3_1, x8_1, rfl, rfl, HA, HK1, ⟨m1, rfl⟩⟩ := hrel
    cases gk with
    | zero => exact absurd HA.out (by simp [crc_Of.l0])
    | succ k1 =>
      have H := HA.out
      clear HA
      simp only [crc_Of.l0] at H
      by_cases c2 : x8_1 < (l0.length : Int)
      · rw [if_pos c2] at H
        have c2b0 : decide (x8_1 < (l0.length : Int)) = true := decide_eq_true c2
        clear c2
        by_cases c3 : 0 ≤ x8_1
        · rw [if_pos c3] at H
          have c3b0 : decide (0 ≤ x8_1) = true := decide_eq_true c3
          clear c3
          by_cases c4 : x8_1 < (l0.length : Int)
          · rw [if_pos c4] at H
            have c4b0 : decide (x8_1 < (l0.length : Int)) = true := decide_eq_true c4
            clear c4
            replace H := Option.bind_eq_some_iff.mp H
            obtain ⟨t189, A50, H⟩ := H
            replace H : (crc_Of.l0 k1 t189 l0 (l0.length : Int) (wrap64 (x8_1 + 1))) = some r := H
            have A5 := Aside0.mk A50
            clear A50
            have H' := Aside0.mk H
            clear H
            have p188 : 0 ≤ (x8_1 : Int) := of_decide_eq_true (by first | (with_reducible assumption) | assumption)
            have q188 : x8_1 < (l0.length : Int) := of_decide_eq_true (by first | (with_reducible assumption) | assumption)
            obtain ⟨ad188, e188, hx188_0⟩ := Kd.at_int HR0.out x8_1 p188 q188
            cases e188
            replace p188 := eq_true p188
            replace q188 := eq_true q188
            go_wp2_with (first | ((with_reducible refine gate_callee (f := 136) rfl ?_); refine goesL_ (some 14) rfl rfl Try.func136 (by kernel_rfl) rfl #[.int .u32 x3_1, .int .u8 (rd l0 x8_1)] rfl (by (try simp only [List.map_toArray, List.map_cons, List.map_nil]); first | done | rfl | (simp only [List.length_drop, List.length_take]; rfl)) ?_; (with_reducible refine (crc_Next.calls k1 x3_1 (rd l0 x8_1) t189 _ A5.out).mono ?_); rintro e w' ⟨rfl, ⟨nd, rfl⟩⟩; refine ⟨_, rfl, ?_⟩))
            go_roundg k1
            case measure => have := HK1.out; omega
            case rel => exact ⟨(t189), (wrap64 (x8_1 + 1)), (by first | rfl | (simp; done) | (simp [*]; done)), (by first | rfl | (simp; done) | (simp [*]; done)), H', ⟨by have := HK1.out; omega⟩, by repeat (first | exact Drawn0.refl _ | apply Drawn0.step)⟩
          · rw [if_neg c4] at H
            exact absurd H (by simp)
        · rw [if_neg c3] at H
          exact absurd H (by simp)
      · rw [if_neg c2] at H
        have c2b0 : decide (x8_1 < (l0.length : Int)) = false := decide_eq_false c2
        clear c2
        obtain rfl := Option.some.inj H
        go_wp2
        go_ret
        exact ⟨by first | rfl | (simp; done) | (simp [*]; done), by repeat (first | exact Drawn0.refl _ | apply Drawn0.step)⟩

end Go.Proofs.Ytknclghaofmnhaa.PBR
