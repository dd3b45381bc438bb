-- Written by a program of this session (wip/print/myprint.sh).
import Derived.Test.YtknclghaofmnhaaPBRx0
import Derived.Test.YtknclghaofmnhaaPBRx3
namespace Go.Proofs.Ytknclghaofmnhaa.PBR
open Go.RowKit Go.Proofs.YtknclghaofmnhaaV.PrintWords Go.Proofs.YtknclghaofmnhaaV.PrintLast Go.Proofs.YtknclghaofmnhaaV.PrintMore
attribute [local go_sem] max2_int min2_int max_two min_two max_three min_three max_four min_four   -- for this text's walks alone
set_option linter.unusedVariables false
set_option linter.unusedSimpArgs false

/-! ### crc_Put: function 122 -/
def crc_Put.f (k : Nat) (l0 : List Int) : Option (List Int) := (crc_Of.f k l0).bind fun t190 => ((slices_Concat_byte_byte_2.f (([(t190) % 256, (t190 / 256) % 256, (t190 / 65536) % 256, (t190 / 16777216) % 256] : List Int)) l0).bind fun t194 => (some t194))
theorem crc_Put.mono : ∀ a0 k, LeO (crc_Put.f k a0) (crc_Put.f (k + 1) a0) := by
  intro a0 k
  unfold crc_Put.f
  repeat' first
      | (with_reducible exact crc_Of.mono _ _)
      | (with_reducible exact LeO.refl _)
      | (with_reducible exact LeO.none _)
      | (with_reducible refine LeO.ite ?_ ?_)
      | (with_reducible refine LeO.bind ?_ (fun _ => ?_))
      | exact crc_Of.mono _ _
      | exact LeO.none _
      | refine LeO.ite ?_ ?_
      | refine LeO.bind ?_ (fun _ => ?_)
set_option maxHeartbeats 8000000 in
set_option maxRecDepth 100000 in
theorem crc_Put.calls (k : Nat) (A0 : Option Addr) (c0 : Nat) (l0 : List Int) (r : List Int) (w : World) (hr0 : Kd.C (Kd.int .u8) w A0 l0.length l0) (hc0 : l0.length ≤ c0) (h : crc_Put.f k l0 = some r) :
    Calls Try.prog 122 #[.slice A0 l0.length c0] w fun e w' => ∃ v0_ : Value, e = .returned (v0_) ∧ Kd.R (Kd.int .u8) 5 w' w.heap.size (fun _ => True) v0_ r ∧ Below w.heap.size w w' := by
  have HR0 := Aside0.mk hr0
  have HC0 := Aside0.mk hc0
  clear hr0 hc0
  have HB := Aside0.mk (Below.refl w.heap.size w)
  have H : ((crc_Of.f k l0).bind fun t190 => ((slices_Concat_byte_byte_2.f (([(t190) % 256, (t190 / 256) % 256, (t190 / 65536) % 256, (t190 / 16777216) % 256] : List Int)) l0).bind fun t194 => (some t194))) = some r := h
  clear h
  replace H := Option.bind_eq_some_iff.mp H
  obtain ⟨t190, A20, H⟩ := H
  replace H : ((slices_Concat_byte_byte_2.f (([(t190) % 256, (t190 / 256) % 256, (t190 / 65536) % 256, (t190 / 16777216) % 256] : List Int)) l0).bind fun t194 => (some t194)) = some r := H
  have A2 := Aside0.mk A20
  clear A20
  obtain ⟨y191, hy191⟩ : ∃ y_ : List Int, y_ = (([(t190) % 256, (t190 / 256) % 256, (t190 / 65536) % 256, (t190 / 16777216) % 256] : List Int)) := ⟨_, rfl⟩
  replace H : ((slices_Concat_byte_byte_2.f y191 l0).bind fun t194 => (some t194)) = some r := by first | (rw [hy191]; with_reducible exact H) | (have H2_ := (Option.bind_some _ _).symm.trans H; rw [hy191]; with_reducible exact H2_) | (have H2_ := (Option.bind_some _ _).symm.trans H; with_reducible exact H2_) | with_reducible exact H | (rw [hy191]; exact H) | exact H
  have Ny191 := Aside0.mk hy191
  clear hy191
  replace H := Option.bind_eq_some_iff.mp H
  obtain ⟨t194, A30, H⟩ := H
  replace H : (some t194) = some r := H
  have A3 := Aside0.mk A30
  clear A30
  obtain rfl := Option.some.inj H
  go_enter Try.func122, Try.ntmps122
  go_wp2_with (first | ((with_reducible refine gate_callee (f := 124) rfl ?_); refine goesL_ (some 5) rfl rfl Try.func124 (by kernel_rfl) rfl #[.slice A0 l0.length c0] rfl (by (try simp only [List.map_toArray, List.map_cons, List.map_nil]); first | done | rfl | (simp only [List.length_drop, List.length_take]; rfl)) ?_; (with_reducible refine (crc_Of.calls k _ _ l0 t190 _ ?side1 ?side2 A2.out).mono ?_); (case side1 => exact cgo_ (HR0.out)); (case side2 => exact HC0.out); rintro e w' ⟨rfl, ⟨nd, rfl⟩⟩; refine ⟨_, rfl, ?_⟩) | ((with_reducible refine gate_dst (N := 17) rfl ?_); refine Kd.R_lit (Kd.int .u8) _ 5 ?hg (N := 17) ?hd (xs := ([(t190) % 256, (t190 / 256) % 256, (t190 / 65536) % 256, (t190 / 16777216) % 256] : List Int)) (inner := [.int .u8 ((t190) % 256), .int .u8 ((t190 / 256) % 256), .int .u8 ((t190 / 65536) % 256), .int .u8 ((t190 / 16777216) % 256)]) (ok := fun _ => True) (okp := fun _ => True) ?hr ?hp (fun _ hk => hk) trivial (Below.refl _ _) (Nat.le_refl _) (by simp) ?_; (case hd => rfl); (case hg => rfl); (case hr => first | (go_simp; done) | (go_simp; rfl)); (case hp => exact (Reps.one (show Kd.M (Kd.int .u8) _ _ _ ((t190) % 256) [.int .u8 ((t190) % 256)] from rfl) (Reps.one (show Kd.M (Kd.int .u8) _ _ _ ((t190 / 256) % 256) [.int .u8 ((t190 / 256) % 256)] from rfl) (Reps.one (show Kd.M (Kd.int .u8) _ _ _ ((t190 / 65536) % 256) [.int .u8 ((t190 / 65536) % 256)] from rfl) (Reps.one (show Kd.M (Kd.int .u8) _ _ _ ((t190 / 16777216) % 256) [.int .u8 ((t190 / 16777216) % 256)] from rfl) (Reps.none _ _)))))); intro v192 w4 ho5 hb hg_ hnew_; clear hg_ hnew_; (first | rw [← Ny191.out] at ho5 | (simp only [Int.reduceToNat] at ho5; rw [← Ny191.out] at ho5)); have n0_ := Aside0.mk (Kd.R_lower ho5 (below_size (bel_ HB))); have n1_ := Aside0.mk (below_step (bel_ HB) hb); clear HB; have HO193 := n0_; have HB := n1_; clear n0_ n1_; clear hb ho5; obtain ⟨Ao6, co6, eo6⟩ := Kd.R_slice HO193.out; subst eo6) | (go_at_call 123; (with_reducible refine (slices_Concat_byte_byte_2.calls _ _ y191 _ _ l0 t194 _ ?side1 ?side2 ?side3 ?side4 A3.out).mono ?_); (case side1 => exact cgo_ ((Kd.R_reads' HO193.out).2.2)); (case side2 => exact (Kd.R_reads' HO193.out).2.1); (case side3 => exact cgo_ ((Kd.C_below HR0.out HB.out))); (case side4 => exact HC0.out); rintro e w7 ⟨v195, rfl, ho0, hb⟩; have n0_ := Aside0.mk (Kd.R_elder' (rgo_ HO193) (Kd.R_base ho0) hb); have n1_ := Aside0.mk (Kd.R_lower (Kd.R_new' ho0 (Kd.R_lt (rgo_ HO193))) (below_size (bel_ HB))); have n2_ := Aside0.mk (below_step (bel_ HB) hb); clear HO193 HB; have HO193 := n0_; have HO196 := n1_; have HB := n2_; clear n0_ n1_ n2_; (try clear hb); (try clear hb2); (try clear hk); (try clear hi); (try clear ho0)))
  go_ret
  exact ⟨_, by first | rfl | (simp [errW_none, errW_some] <;> rfl) | (simp [*, errW_none, errW_some] <;> rfl), by (with_reducible repeat (first | apply Kd.R_alloc | apply Kd.R_drewN | apply Kd.R_drew)); exact Kd.R_mono HO196.out (fun _ hk => trivial), by repeat (first | (with_reducible first | exact HB.out | apply below_alloc | apply pw_below_drewN | apply below_drew1) | exact HB.out)⟩

/-! ### batch_bytes: function 94 -/
mutual
def batch_bytes.j0 : Nat → Int → Int → Int → Int → Int → Bool → Int → List (S71) → Option (List Int)
  | 0, _, _, _, _, _, _, _, _ => none
  | k + 1, x3, x198000, x198001, x198002, x198003, x198004, x198005, x198006 => (varint_Long.f k (([x3] : List Int)) x198001).bind fun t201 => ((some (([(x198002 / 256) % 256, (x198002) % 256] : List Int) : List Int)).bind fun y204 => (if t201.length + y204.length < 140737488355328 then ((varint_Long.f k (t201 ++ y204) x198003).bind fun t210 => (if t210.length < 140737488355328 then (batch_bytes.l0 k (t210 ++ [((x198006.length : Int)) % 256]) x198006 (x198006.length : Int) 0 x198000 x198001 x198002 x198003 x198004 x198005 x198006) else (none))) else (none)))
def batch_bytes.l0 : Nat → List Int → List (S71) → Int → Int → Int → Int → Int → Int → Bool → Int → List (S71) → Option (List Int)
  | 0, _, _, _, _, _, _, _, _, _, _, _ => none
  | k + 1, x4, x42, x43, x44, x198000, x198001, x198002, x198003, x198004, x198005, x198006 => if x44 < x43 then (if 0 ≤ x44 then (if x44 < (x42.length : Int) then ((varint_Text.f k x4 ((rd_T71 x42 x44).f0)).bind fun t218 => ((varint_Text.f k t218 ((rd_T71 x42 x44).f1)).bind fun t221 => (batch_bytes.l0 k t221 x42 x43 (wrap64 (x44 + 1)) x198000 x198001 x198002 x198003 x198004 x198005 x198006))) else (none)) else (none)) else ((crc_Put.f k x4).bind fun t224 => ((varint_Long.f k ([] : List Int) x198000).bind fun t227 => ((slices_Concat_byte_byte_3.f t227 (([((t224.length : Int) / 16777216) % 256, ((t224.length : Int) / 65536) % 256, ((t224.length : Int) / 256) % 256, ((t224.length : Int)) % 256] : List Int)) t224).bind fun t233 => (some t233))))
end
def batch_bytes.f (k : Nat) (a0_0 : Int) (a0_1 : Int) (a0_2 : Int) (a0_3 : Int) (a0_4 : Bool) (a0_5 : Int) (l0_6 : List (S71)) : Option (List Int) := if a0_4 = true then (batch_bytes.j0 k ((((wrap64 (2 * a0_5)) % 256) + 1) % 256) a0_0 a0_1 a0_2 a0_3 a0_4 a0_5 l0_6) else (batch_bytes.j0 k ((wrap64 (2 * a0_5)) % 256) a0_0 a0_1 a0_2 a0_3 a0_4 a0_5 l0_6)
theorem batch_bytes.mono_l : ∀ k, (∀ y0 y1 y2 y3 y4 y5 y6 y7, LeO (batch_bytes.j0 k y0 y1 y2 y3 y4 y5 y6 y7) (batch_bytes.j0 (k + 1) y0 y1 y2 y3 y4 y5 y6 y7)) ∧ (∀ y0 y1 y2 y3 y4 y5 y6 y7 y8 y9 y10, LeO (batch_bytes.l0 k y0 y1 y2 y3 y4 y5 y6 y7 y8 y9 y10) (batch_bytes.l0 (k + 1) y0 y1 y2 y3 y4 y5 y6 y7 y8 y9 y10))
  | 0 => ⟨fun _ _ _ _ _ _ _ _ r h => by simp [batch_bytes.j0] at h, fun _ _ _ _ _ _ _ _ _ _ _ r h => by simp [batch_bytes.l0] at h⟩
  | k + 1 => by
    obtain ⟨ih0, ih1⟩ := batch_bytes.mono_l k
    refine ⟨?_, ?_⟩
    · intro y0 y1 y2 y3 y4 y5 y6 y7
      unfold batch_bytes.j0
      repeat' first
      | (with_reducible exact ih0 _ _ _ _ _ _ _ _)
      | (with_reducible exact ih1 _ _ _ _ _ _ _ _ _ _ _)
      | (with_reducible exact crc_Put.mono _ _)
      | (with_reducible exact varint_Long.mono _ _ _)
      | (with_reducible exact varint_Text.mono _ _ _)
      | (with_reducible exact LeO.refl _)
      | (with_reducible exact LeO.none _)
      | (with_reducible refine LeO.ite ?_ ?_)
      | (with_reducible refine LeO.bind ?_ (fun _ => ?_))
      | exact ih0 _ _ _ _ _ _ _ _
      | exact ih1 _ _ _ _ _ _ _ _ _ _ _
      | exact crc_Put.mono _ _
      | exact varint_Long.mono _ _ _
      | exact varint_Text.mono _ _ _
      | exact LeO.none _
      | refine LeO.ite ?_ ?_
      | refine LeO.bind ?_ (fun _ => ?_)
    · intro y0 y1 y2 y3 y4 y5 y6 y7 y8 y9 y10
      unfold batch_bytes.l0
      repeat' first
      | (with_reducible exact ih0 _ _ _ _ _ _ _ _)
      | (with_reducible exact ih1 _ _ _ _ _ _ _ _ _ _ _)
      | (with_reducible exact crc_Put.mono _ _)
      | (with_reducible exact varint_Long.mono _ _ _)
      | (with_reducible exact varint_Text.mono _ _ _)
      | (with_reducible exact LeO.refl _)
      | (with_reducible exact LeO.none _)
      | (with_reducible refine LeO.ite ?_ ?_)
      | (with_reducible refine LeO.bind ?_ (fun _ => ?_))
      | exact ih0 _ _ _ _ _ _ _ _
      | exact ih1 _ _ _ _ _ _ _ _ _ _ _
      | exact crc_Put.mono _ _
      | exact varint_Long.mono _ _ _
      | exact varint_Text.mono _ _ _
      | exact LeO.none _
      | refine LeO.ite ?_ ?_
      | refine LeO.bind ?_ (fun _ => ?_)
theorem batch_bytes.mono : ∀ a0 a1 a2 a3 a4 a5 a6 k, LeO (batch_bytes.f k a0 a1 a2 a3 a4 a5 a6) (batch_bytes.f (k + 1) a0 a1 a2 a3 a4 a5 a6) := by
  intro a0 a1 a2 a3 a4 a5 a6 k
  obtain ⟨ih0, ih1⟩ := batch_bytes.mono_l k
  unfold batch_bytes.f
  repeat' first
      | (with_reducible exact ih0 _ _ _ _ _ _ _ _)
      | (with_reducible exact ih1 _ _ _ _ _ _ _ _ _ _ _)
      | (with_reducible exact crc_Put.mono _ _)
      | (with_reducible exact varint_Long.mono _ _ _)
      | (with_reducible exact varint_Text.mono _ _ _)
      | (with_reducible exact LeO.refl _)
      | (with_reducible exact LeO.none _)
      | (with_reducible refine LeO.ite ?_ ?_)
      | (with_reducible refine LeO.bind ?_ (fun _ => ?_))
      | exact ih0 _ _ _ _ _ _ _ _
      | exact ih1 _ _ _ _ _ _ _ _ _ _ _
      | exact crc_Put.mono _ _
      | exact varint_Long.mono _ _ _
      | exact varint_Text.mono _ _ _
      | exact LeO.none _
      | refine LeO.ite ?_ ?_
      | refine LeO.bind ?_ (fun _ => ?_)
def batch_bytes.T5 : Bool × List (List Nat × List Nat) := (true, [([], []), ([], []), ([1], [1]), ([2], [2]), ([3], [3]), ([], []), ([5], [5]), ([6], [6]), ([4, 7], [4, 7]), ([0, 8], [0, 8]), ([], []), ([10], [10]), ([9, 11, 9], [9, 11]), ([12, 12, 0, 1, 2, 3, 4, 5, 6, 7, 8, 9, 10, 11, 12], [0, 12])])
def batch_bytes.B5 : List Nat := [0, 0, 2, 6, 14, 0, 32, 96, 254, 511, 0, 1024, 4095, 8191]
theorem batch_bytes.tab5 : rtab .any (opsOf Try.f94 5) = batch_bytes.T5 := by kernel_rfl
theorem batch_bytes.bits5 : waitsOk batch_bytes.T5.2 batch_bytes.B5 = true := by kernel_rfl
def batch_bytes.T10 : Bool × List (List Nat × List Nat) := (true, [([], []), ([], []), ([1], [1]), ([0, 2], [0, 2]), ([], []), ([4], [4]), ([3, 5, 3], [3, 5]), ([6, 6, 0, 1, 2, 3, 4, 5, 6], [0, 6])])
def batch_bytes.B10 : List Nat := [0, 0, 2, 7, 0, 16, 63, 127]
theorem batch_bytes.tab10 : rtab .any (opsOf Try.f94 10) = batch_bytes.T10 := by kernel_rfl
theorem batch_bytes.bits10 : waitsOk batch_bytes.T10.2 batch_bytes.B10 = true := by kernel_rfl
set_option maxHeartbeats 8000000 in
set_option maxRecDepth 100000 in
theorem batch_bytes.calls (k : Nat) (a0_0 : Int) (a0_1 : Int) (a0_2 : Int) (a0_3 : Int) (a0_4 : Bool) (a0_5 : Int) (A0_6 : Option Addr) (c0_6 : Nat) (l0_6 : List (S71)) (r : List Int) (w : World) (hr0_6 : Kd.C k71 w A0_6 l0_6.length l0_6) (hc0_6 : l0_6.length ≤ c0_6) (h : batch_bytes.f k a0_0 a0_1 a0_2 a0_3 a0_4 a0_5 l0_6 = some r) :
    Calls Try.prog 94 #[.agg #[.int .i64 a0_0, .int .i64 a0_1, .int .i64 a0_2, .int .i64 a0_3, .bool a0_4, .int .i64 a0_5, .slice A0_6 l0_6.length c0_6]] w fun e w' => ∃ v0_ : Value, e = .returned (v0_) ∧ Kd.R (Kd.int .u8) 5 w' w.heap.size (fun _ => True) v0_ r ∧ Below w.heap.size w w' := by
  have hu56 := Try.underlying56
  have hu71 := Try.underlying71
  have HR0_6 := Aside0.mk hr0_6
  have HC0_6 := Aside0.mk hc0_6
  clear hr0_6 hc0_6
  have HB := Aside0.mk (Below.refl w.heap.size w)
  have H : (if a0_4 = true then (batch_bytes.j0 k ((((wrap64 (2 * a0_5)) % 256) + 1) % 256) a0_0 a0_1 a0_2 a0_3 a0_4 a0_5 l0_6) else (batch_bytes.j0 k ((wrap64 (2 * a0_5)) % 256) a0_0 a0_1 a0_2 a0_3 a0_4 a0_5 l0_6)) = some r := h
  clear h
  have HC2 := Aside0.mk H
  clear H
  go_enter Try.func94, Try.ntmps94
  go_upto_if 13 with (first | ((with_reducible refine gate_dst (N := 1) rfl ?_); refine box_event ?hg (N := 1) ?hd (cs := #[.int .i64 a0_0, .int .i64 a0_1, .int .i64 a0_2, .int .i64 a0_3, .bool a0_4, .int .i64 a0_5, .slice A0_6 l0_6.length c0_6]) (t := 56) ?hr ?_; (case hd => rfl); (case hg => rfl); (case hr => first | (go_simp; done) | (go_simp; rfl)); intro gb197 hg w3 hbox hb; have n0_ := Aside0.mk (below_step (bel_ HB) hb); have n1_ := Aside0.mk (hbox); have n2_ := Aside0.mk ((by rw [hg]; exact (below_size (bel_ HB)) : w.heap.size ≤ gb197)); have n3_ := Aside0.mk ((by rw [hg]; exact (below_size (bel_ HB)) : w.heap.size ≤ gb197)); clear HB; have HB := n0_; have BK197 := n1_; have GW197 := n2_; have GE197 := n3_; clear n0_ n1_ n2_ n3_; clear hb hbox hg; obtain ⟨hcz4_0, hcz4_1, hcz4_2, hcz4_3, hcz4_4, hcz4_5, hcz4_6⟩ := cells7_ BK197.out; have hfz4_ := blk_frozen BK197.out))
  (try simp only [Act.put, List.setIfInBounds_toArray, List.set_cons_zero, List.set_cons_succ])
  go_cut [3] (fun v3 wc => ∃ (kq : Nat) (x3_1 : Int), v3 = .int .u8 x3_1 ∧ Aside0 (batch_bytes.j0 kq x3_1 a0_0 a0_1 a0_2 a0_3 a0_4 a0_5 l0_6 = some r) ∧ Aside0 (kq ≤ k) ∧ Aside0 (wc.heap[gb197]? = some (.cells #[.int .i64 a0_0, .int .i64 a0_1, .int .i64 a0_2, .int .i64 a0_3, .bool a0_4, .int .i64 a0_5, (.slice A0_6 l0_6.length c0_6)] 56 (0, 0))) ∧ Aside0 (Below w.heap.size w wc))
  case first =>
    have H := HC2.out
    clear HC2
    by_cases c5 : a0_4 = true
    · subst c5
      have H1 : (batch_bytes.j0 k ((((wrap64 (2 * a0_5)) % 256) + 1) % 256) a0_0 a0_1 a0_2 a0_3 true a0_5 l0_6) = some r := by rw [if_pos rfl] at H; exact H
      clear H
      have H := H1
      clear H1
      have H' := Aside0.mk H
      clear H
      go_wp2
      go_meet
      case rel => exact ⟨_, ((((wrap64 (2 * a0_5)) % 256) + 1) % 256), (by first | rfl | (simp; done) | (simp [*]; done)), H', ⟨by first | omega | exact Nat.le_refl _⟩, ⟨by (with_reducible repeat (first | refine blk_drewN ?_ _ | refine blk_drew ?_ | refine blk_alloc ?_ _)); exact BK197.out⟩, ⟨by repeat (first | (with_reducible first | exact HB.out | apply below_alloc | apply pw_below_drewN | apply below_drew1 | refine below_set ?_ GE197.out) | exact HB.out)⟩⟩
    · replace c5 := Bool.eq_false_iff.mpr c5
      subst c5
      have H1 : (batch_bytes.j0 k ((wrap64 (2 * a0_5)) % 256) a0_0 a0_1 a0_2 a0_3 false a0_5 l0_6) = some r := by rw [if_neg (show ¬ (false = true) by decide)] at H; exact H
      clear H
      have H := H1
      clear H1
      have H' := Aside0.mk H
      clear H
      go_wp2
      go_meet
      case rel => exact ⟨_, ((wrap64 (2 * a0_5)) % 256), (by first | rfl | (simp; done) | (simp [*]; done)), H', ⟨by first | omega | exact Nat.le_refl _⟩, ⟨by (with_reducible repeat (first | refine blk_drewN ?_ _ | refine blk_drew ?_ | refine blk_alloc ?_ _)); exact BK197.out⟩, ⟨by repeat (first | (with_reducible first | exact HB.out | apply below_alloc | apply pw_below_drewN | apply below_drew1 | refine below_set ?_ GE197.out) | exact HB.out)⟩⟩
  case rest =>
    clear HC2
    try clear p2
    try clear c5
    try clear hcz4_0
    try clear hcz4_1
    try clear hcz4_2
    try clear hcz4_3
    try clear hcz4_4
    try clear hcz4_5
    try clear hcz4_6
    try clear hfz4_0
    try clear hfz4_1
    try clear hfz4_2
    try clear hfz4_3
    try clear hfz4_4
    try clear hfz4_5
    try clear hfz4_6
    obtain ⟨kq, x3_1, rfl, HA, HJ1, BK197, HB⟩ := hcut
    cases kq with
    | zero => exact absurd HA.out (by simp [batch_bytes.j0])
    | succ kj1 =>
      have H := HA.out
      clear HA
      simp only [batch_bytes.j0] at H
      obtain ⟨y198, hy198⟩ : ∃ y_ : List Int, y_ = (([x3_1] : List Int)) := ⟨_, rfl⟩
      replace H : ((varint_Long.f kj1 y198 a0_1).bind fun t201 => ((some (([(a0_2 / 256) % 256, (a0_2) % 256] : List Int) : List Int)).bind fun y204 => (if t201.length + y204.length < 140737488355328 then ((varint_Long.f kj1 (t201 ++ y204) a0_3).bind fun t210 => (if t210.length < 140737488355328 then (batch_bytes.l0 kj1 (t210 ++ [((l0_6.length : Int)) % 256]) l0_6 (l0_6.length : Int) 0 a0_0 a0_1 a0_2 a0_3 a0_4 a0_5 l0_6) else (none))) else (none)))) = some r := by first | (rw [hy198]; with_reducible exact H) | (have H2_ := (Option.bind_some _ _).symm.trans H; rw [hy198]; with_reducible exact H2_) | (have H2_ := (Option.bind_some _ _).symm.trans H; with_reducible exact H2_) | with_reducible exact H | (rw [hy198]; exact H) | exact H
      have Ny198 := Aside0.mk hy198
      clear hy198
      replace H := Option.bind_eq_some_iff.mp H
      obtain ⟨t201, A60, H⟩ := H
      replace H : ((some (([(a0_2 / 256) % 256, (a0_2) % 256] : List Int) : List Int)).bind fun y204 => (if t201.length + y204.length < 140737488355328 then ((varint_Long.f kj1 (t201 ++ y204) a0_3).bind fun t210 => (if t210.length < 140737488355328 then (batch_bytes.l0 kj1 (t210 ++ [((l0_6.length : Int)) % 256]) l0_6 (l0_6.length : Int) 0 a0_0 a0_1 a0_2 a0_3 a0_4 a0_5 l0_6) else (none))) else (none))) = some r := H
      have A6 := Aside0.mk A60
      clear A60
      obtain ⟨y204, hy204⟩ : ∃ y_ : List Int, y_ = (([(a0_2 / 256) % 256, (a0_2) % 256] : List Int)) := ⟨_, rfl⟩
      replace H : (if t201.length + y204.length < 140737488355328 then ((varint_Long.f kj1 (t201 ++ y204) a0_3).bind fun t210 => (if t210.length < 140737488355328 then (batch_bytes.l0 kj1 (t210 ++ [((l0_6.length : Int)) % 256]) l0_6 (l0_6.length : Int) 0 a0_0 a0_1 a0_2 a0_3 a0_4 a0_5 l0_6) else (none))) else (none)) = some r := by first | (rw [hy204]; with_reducible exact H) | (have H2_ := (Option.bind_some _ _).symm.trans H; rw [hy204]; with_reducible exact H2_) | (have H2_ := (Option.bind_some _ _).symm.trans H; with_reducible exact H2_) | with_reducible exact H | (rw [hy204]; exact H) | exact H
      have Ny204 := Aside0.mk hy204
      clear hy204
      by_cases c7 : t201.length + y204.length < 140737488355328
      · rw [if_pos c7] at H
        have LMc7 := Aside0.mk c7
        clear c7
        obtain ⟨y207, hy207⟩ : ∃ y_ : List Int, y_ = (t201 ++ y204) := ⟨_, rfl⟩
        replace H : ((varint_Long.f kj1 y207 a0_3).bind fun t210 => (if t210.length < 140737488355328 then (batch_bytes.l0 kj1 (t210 ++ [((l0_6.length : Int)) % 256]) l0_6 (l0_6.length : Int) 0 a0_0 a0_1 a0_2 a0_3 a0_4 a0_5 l0_6) else (none))) = some r := by first | (rw [hy207]; with_reducible exact H) | (have H2_ := (Option.bind_some _ _).symm.trans H; rw [hy207]; with_reducible exact H2_) | (have H2_ := (Option.bind_some _ _).symm.trans H; with_reducible exact H2_) | with_reducible exact H | (rw [hy207]; exact H) | exact H
        have Ny207 := Aside0.mk hy207
        clear hy207
        replace H := Option.bind_eq_some_iff.mp H
        obtain ⟨t210, A80, H⟩ := H
        replace H : (if t210.length < 140737488355328 then (batch_bytes.l0 kj1 (t210 ++ [((l0_6.length : Int)) % 256]) l0_6 (l0_6.length : Int) 0 a0_0 a0_1 a0_2 a0_3 a0_4 a0_5 l0_6) else (none)) = some r := H
        have A8 := Aside0.mk A80
        clear A80
        by_cases c9 : t210.length < 140737488355328
        · rw [if_pos c9] at H
          have LMc9 := Aside0.mk c9
          clear c9
          obtain ⟨y213, hy213⟩ : ∃ y_ : List Int, y_ = (t210 ++ [((l0_6.length : Int)) % 256]) := ⟨_, rfl⟩
          replace H : (batch_bytes.l0 kj1 y213 l0_6 (l0_6.length : Int) 0 a0_0 a0_1 a0_2 a0_3 a0_4 a0_5 l0_6) = some r := by first | (rw [hy213]; with_reducible exact H) | (have H2_ := (Option.bind_some _ _).symm.trans H; rw [hy213]; with_reducible exact H2_) | (have H2_ := (Option.bind_some _ _).symm.trans H; with_reducible exact H2_) | with_reducible exact H | (rw [hy213]; exact H) | exact H
          have Ny213 := Aside0.mk hy213
          clear hy213
          have H' := Aside0.mk H
          clear H
          try go_wp2_with (first | ((with_reducible refine gate_dst (N := 17) rfl ?_); refine Kd.R_lit (Kd.int .u8) _ 5 ?hg (N := 17) ?hd (xs := ([x3_1] : List Int)) (inner := [.int .u8 x3_1]) (ok := fun _ => True) (okp := fun _ => True) ?hr ?hp (fun _ hk => hk) trivial (Below.refl _ _) (Nat.le_refl _) (by simp) ?_; (case hd => rfl); (case hg => rfl); (case hr => first | (go_simp; done) | (go_simp; rfl)); (case hp => exact (Reps.one (show Kd.M (Kd.int .u8) _ _ _ x3_1 [.int .u8 x3_1] from rfl) (Reps.none _ _))); intro v199 w10 ho11 hb hg_ hnew_; clear hg_ hnew_; (first | rw [← Ny198.out] at ho11 | (simp only [Int.reduceToNat] at ho11; rw [← Ny198.out] at ho11)); have n0_ := Aside0.mk (Kd.R_lower ho11 (below_size (bel_ HB))); have n1_ := Aside0.mk (blk_below (g := gb197) (o := .cells #[.int .i64 a0_0, .int .i64 a0_1, .int .i64 a0_2, .int .i64 a0_3, .bool a0_4, .int .i64 a0_5, .slice A0_6 l0_6.length c0_6] 56 (0, 0)) (blk_ BK197) hb); have n2_ := Aside0.mk (below_step (bel_ HB) hb); clear BK197 HB; have HO200 := n0_; have BK197 := n1_; have HB := n2_; clear n0_ n1_ n2_; clear hb ho11; obtain ⟨hcz12_0, hcz12_1, hcz12_2, hcz12_3, hcz12_4, hcz12_5, hcz12_6⟩ := cells7_ BK197.out; have hfz12_ := blk_frozen BK197.out; obtain ⟨Ao13, co13, eo13⟩ := Kd.R_slice HO200.out; subst eo13) | ((with_reducible refine gate_callee (f := 61) rfl ?_); refine goesL_ (some 20) rfl rfl Try.func61 (by kernel_rfl) rfl #[.slice Ao13 y198.length co13, .int .i64 a0_1] rfl (by (try simp only [List.map_toArray, List.map_cons, List.map_nil]); first | done | rfl | (simp only [List.length_drop, List.length_take]; rfl)) ?_; (with_reducible refine (varint_Long.calls kj1 _ _ y198 a0_1 t201 _ ?side1 ?side2 A6.out).mono ?_); (case side1 => exact cgo_ ((Kd.R_reads' HO200.out).2.2)); (case side2 => exact (Kd.R_reads' HO200.out).2.1); rintro e w14 ⟨v202, rfl, ho0, hb⟩; refine ⟨_, rfl, ?_⟩; have n0_ := Aside0.mk (Kd.R_elder' (rgo_ HO200) (Kd.R_base ho0) hb); have n1_ := Aside0.mk (Kd.R_lower (Kd.R_new' ho0 (Kd.R_lt (rgo_ HO200))) (below_size (bel_ HB))); have n2_ := Aside0.mk (blk_below (g := gb197) (o := .cells #[.int .i64 a0_0, .int .i64 a0_1, .int .i64 a0_2, .int .i64 a0_3, .bool a0_4, .int .i64 a0_5, .slice A0_6 l0_6.length c0_6] 56 (0, 0)) (blk_ BK197) hb); have n3_ := Aside0.mk (below_step (bel_ HB) hb); clear HO200 BK197 HB; have HO200 := n0_; have HO203 := n1_; have BK197 := n2_; have HB := n3_; clear n0_ n1_ n2_ n3_; (try clear hb); (try clear hb2); (try clear hk); (try clear hi); (try clear ho0)))
          have n0_ := Aside0.mk (Kd.R_drew HO200.out)
          have n1_ := Aside0.mk (Kd.R_drew HO203.out)
          have n2_ := Aside0.mk (blk_drew BK197.out)
          have n3_ := Aside0.mk (below_drew1 HB.out)
          clear HO200
          clear HO203
          clear BK197
          clear HB
          have HO200 := n0_
          have HO203 := n1_
          have BK197 := n2_
          have HB := n3_
          clear n0_ n1_ n2_ n3_
          refine start_ (n := 14) (S := fun w' => w'.cell? ⟨gb197, 0, none⟩ = some (.int .i64 a0_0) ∧ w'.cell? ⟨gb197, 1, none⟩ = some (.int .i64 a0_1) ∧ w'.cell? ⟨gb197, 2, none⟩ = some (.int .i64 a0_2) ∧ w'.cell? ⟨gb197, 3, none⟩ = some (.int .i64 a0_3) ∧ w'.cell? ⟨gb197, 4, none⟩ = some (.bool a0_4) ∧ w'.cell? ⟨gb197, 5, none⟩ = some (.int .i64 a0_5) ∧ w'.cell? ⟨gb197, 6, none⟩ = some (.slice A0_6 l0_6.length c0_6)) (ds := []) #[false, false, false, false, false, false, false, false, false, false, false, false, false, false] (by kernel_rfl) rfl rfl ⟨(blk_cell BK197.out 0).trans rfl, (blk_cell BK197.out 1).trans rfl, (blk_cell BK197.out 2).trans rfl, (blk_cell BK197.out 3).trans rfl, (blk_cell BK197.out 4).trans rfl, (blk_cell BK197.out 5).trans rfl, (blk_cell BK197.out 6).trans rfl⟩ (fun hHeld => ?_); refine with_tabW batch_bytes.tab5 batch_bytes.bits5 (fun HT_ HW_ => ?_)
          generalize w14.drew = w15 at HO200 HO203 BK197 HB hHeld ⊢
          refine pure_ (i := 0) (N := some 21) (v := ?_) (a' := ?_) #[true, false, false, false, false, false, false, false, false, false, false, false, false, false] rfl rfl (any_of HT_.out (by kernel_rfl)) (fun _ _ _ h => h) (Or.inl ⟨by rfl, ?_⟩) ?_ ?_
          rotate_left
          · intro w'
            go_simp
            with_reducible rfl
          rotate_left
          · simp only [Act.put, List.setIfInBounds_toArray, List.set_cons_zero, List.set_cons_succ, i64_w, i32_w]
            rfl
          refine pure_ (i := 1) (N := some 22) (v := ?_) (a' := ?_) #[true, true, false, false, false, false, false, false, false, false, false, false, false, false] rfl rfl (any_of HT_.out (by kernel_rfl)) (fun _ _ _ h => h) (Or.inl ⟨by rfl, ?_⟩) ?_ ?_
          rotate_left
          · intro w'
            go_simp
            with_reducible rfl
          rotate_left
          · simp only [Act.put, List.setIfInBounds_toArray, List.set_cons_zero, List.set_cons_succ, i64_w, i32_w]
            rfl
          refine pure_ (i := 5) (N := some 26) (v := ?_) (a' := ?_) #[true, true, false, false, false, true, false, false, false, false, false, false, false, false] rfl rfl (any_of HT_.out (by kernel_rfl)) (fun _ _ _ h => h) (Or.inl ⟨by rfl, ?_⟩) ?_ ?_
          rotate_left
          · intro w'
            go_simp
            with_reducible rfl
          rotate_left
          · simp only [Act.put, List.setIfInBounds_toArray, List.set_cons_zero, List.set_cons_succ, i64_w, i32_w]
            rfl
          refine pure_ (i := 10) (N := some 31) (v := ?_) (a' := ?_) #[true, true, false, false, false, true, false, false, false, false, true, false, false, false] rfl rfl (any_of HT_.out (by kernel_rfl)) (fun _ _ _ h => h) (Or.inl ⟨by rfl, ?_⟩) ?_ ?_
          rotate_left
          · intro w'
            go_simp
            with_reducible rfl
          rotate_left
          · simp only [Act.put, List.setIfInBounds_toArray, List.set_cons_zero, List.set_cons_succ, i64_w, i32_w]
            rfl
          refine take_ (i := 2) (N := some 23) (v := ?_) (a' := ?_) #[true, true, true, false, false, true, false, false, false, false, true, false, false, false] rfl rfl (take_ofW HT_.out HW_.out (by kernel_rfl)) (fun _ _ _ h => h) (Or.inl ⟨by rfl, ?_⟩) hHeld ?_ ?_
          rotate_left
          · rintro w' ⟨s0, s1, s2, s3, s4, s5, s6⟩
            go_simp
            with_reducible rfl
          rotate_left
          · simp only [Act.put, List.setIfInBounds_toArray, List.set_cons_zero, List.set_cons_succ, i64_w, i32_w]
            rfl
          refine pure_ (i := 3) (N := some 24) (v := ?_) (a' := ?_) #[true, true, true, true, false, true, false, false, false, false, true, false, false, false] rfl rfl (any_of HT_.out (by kernel_rfl)) (fun _ _ _ h => h) (Or.inl ⟨by rfl, ?_⟩) ?_ ?_
          rotate_left
          · intro w'
            go_simp
            with_reducible rfl
          rotate_left
          · simp only [Act.put, List.setIfInBounds_toArray, List.set_cons_zero, List.set_cons_succ, i64_w, i32_w]
            rfl
          refine pure_ (i := 4) (N := some 25) (v := ?_) (a' := ?_) #[true, true, true, true, true, true, false, false, false, false, true, false, false, false] rfl rfl (any_of HT_.out (by kernel_rfl)) (fun _ _ _ h => h) (Or.inl ⟨by rfl, ?_⟩) ?_ ?_
          rotate_left
          · intro w'
            go_simp
            with_reducible rfl
          rotate_left
          · simp only [Act.put, List.setIfInBounds_toArray, List.set_cons_zero, List.set_cons_succ, i64_w, i32_w]
            rfl
          refine take_ (i := 6) (N := some 27) (v := ?_) (a' := ?_) #[true, true, true, true, true, true, true, false, false, false, true, false, false, false] rfl rfl (take_ofW HT_.out HW_.out (by kernel_rfl)) (fun _ _ _ h => h) (Or.inl ⟨by rfl, ?_⟩) hHeld ?_ ?_
          rotate_left
          · rintro w' ⟨s0, s1, s2, s3, s4, s5, s6⟩
            go_simp
            with_reducible rfl
          rotate_left
          · simp only [Act.put, List.setIfInBounds_toArray, List.set_cons_zero, List.set_cons_succ, i64_w, i32_w]
            rfl
          refine pure_ (i := 7) (N := some 28) (v := ?_) (a' := ?_) #[true, true, true, true, true, true, true, true, false, false, true, false, false, false] rfl rfl (any_of HT_.out (by kernel_rfl)) (fun _ _ _ h => h) (Or.inl ⟨by rfl, ?_⟩) ?_ ?_
          rotate_left
          · intro w'
            go_simp
            with_reducible rfl
          rotate_left
          · simp only [Act.put, List.setIfInBounds_toArray, List.set_cons_zero, List.set_cons_succ, i64_w, i32_w]
            rfl
          refine take_ (i := 11) (N := some 32) (v := ?_) (a' := ?_) #[true, true, true, true, true, true, true, true, false, false, true, true, false, false] rfl rfl (take_ofW HT_.out HW_.out (by kernel_rfl)) (fun _ _ _ h => h) (Or.inl ⟨by rfl, ?_⟩) hHeld ?_ ?_
          rotate_left
          · rintro w' ⟨s0, s1, s2, s3, s4, s5, s6⟩
            go_simp
            with_reducible rfl
          rotate_left
          · simp only [Act.put, List.setIfInBounds_toArray, List.set_cons_zero, List.set_cons_succ, i64_w, i32_w]
            rfl
          refine one_ (i := 8) (N := some 29) #[true, true, true, true, true, true, true, true, true, false, true, true, false, false] rfl rfl (one_of HT_.out (by kernel_rfl)) (by decide) (fun K hK => ?_)
          refine Kd.R_lit_step (Kd.int .u8) _ 5 ?hg (N := 29) ?hd (xs := ([(a0_2 / 256) % 256, (a0_2) % 256] : List Int)) (inner := [.int .u8 ((a0_2 / 256) % 256), .int .u8 ((a0_2) % 256)]) (ok := fun _ => True) (okp := fun _ => True) ?hr ?hp (fun _ hk => hk) trivial (Below.refl _ _) (Nat.le_refl _) (by simp) ?_; (case hd => rfl); (case hg => rfl); (case hr => first | (go_simp; done) | (go_simp; rfl)); (case hp => exact (Reps.one (show Kd.M (Kd.int .u8) _ _ _ ((a0_2 / 256) % 256) [.int .u8 ((a0_2 / 256) % 256)] from rfl) (Reps.one (show Kd.M (Kd.int .u8) _ _ _ ((a0_2) % 256) [.int .u8 ((a0_2) % 256)] from rfl) (Reps.none _ _))))
          intro v205 w16 ho17 hb hg_ hnew_
          clear hg_ hnew_
          (first | rw [← Ny204.out] at ho17 | (simp only [Int.reduceToNat] at ho17; rw [← Ny204.out] at ho17))
          have n0_ := Aside0.mk (Kd.R_elder' (rgo_ HO200) (Kd.R_base ho17) hb)
          have n1_ := Aside0.mk (Kd.R_elder' (rgo_ HO203) (Kd.R_base ho17) hb)
          have n2_ := Aside0.mk (Kd.R_lower (Kd.R_new' (Kd.R_new' ho17 (Kd.R_lt (rgo_ HO200))) (Kd.R_lt (rgo_ HO203))) (below_size (bel_ HB)))
          have n3_ := Aside0.mk (blk_below (g := gb197) (o := .cells #[.int .i64 a0_0, .int .i64 a0_1, .int .i64 a0_2, .int .i64 a0_3, .bool a0_4, .int .i64 a0_5, .slice A0_6 l0_6.length c0_6] 56 (0, 0)) (blk_ BK197) hb)
          have n4_ := Aside0.mk (below_step (bel_ HB) hb)
          clear HO200
          clear HO203
          clear BK197
          clear HB
          have HO200 := n0_
          have HO203 := n1_
          have HO206 := n2_
          have BK197 := n3_
          have HB := n4_
          clear n0_ n1_ n2_ n3_ n4_
          clear hb ho17
          obtain ⟨Ao19, co19, eo19⟩ := Kd.R_slice HO206.out
          (first | subst eo19 | (injection eo19 with f1_ f2_ f3_; have f4_ := f1_.symm; have f5_ := f3_.symm; clear f1_ f2_ f3_; subst f4_; subst f5_))
          refine hK.out _ _ ⟨(blk_cell BK197.out 0).trans rfl, (blk_cell BK197.out 1).trans rfl, (blk_cell BK197.out 2).trans rfl, (blk_cell BK197.out 3).trans rfl, (blk_cell BK197.out 4).trans rfl, (blk_cell BK197.out 5).trans rfl, (blk_cell BK197.out 6).trans rfl⟩ (fun hHeld => ?_)
          clear hK K
          refine norm_ (a' := ?_) ?_ ?_
          rotate_left
          · show Act.put _ (some 29) _ = _
            simp only [Act.put, List.setIfInBounds_toArray, List.set_cons_zero, List.set_cons_succ, i64_w, i32_w]
            rfl
          refine one_ (i := 9) (N := some 30) #[true, true, true, true, true, true, true, true, true, true, true, true, false, false] rfl rfl (one_of HT_.out (by kernel_rfl)) (by decide) (fun K hK => ?_)
          refine Kd.R_append_rows_step (Kd.int .u8) (w0 := w) w.heap.size (by rfl) (.tmp 21) (.tmp 29) 34 5 (.int .u8 0) 1 rfl Try.underlying34 info5 rfl (by decide) (by omega) v202 t201 y204 _ _ _ (fun k_ => some k_ ≠ (.slice Ao13 y198.length co13 : Value).ownBlock ∧ some k_ ≠ (.slice Ao19 y204.length co19 : Value).ownBlock) (fun _ => False) rfl rfl ?aO ?aR (fun _ _ h => h) (fun _ h => h.elim) ?aF ?aB ?aS ?aL ?_
          (case aR => exact cgo_ ((Kd.R_reads' HO206.out).2.2))
          (case aB => exact (bel_ HB))
          (case aF => exact (fun k_ hk => ⟨Kd.fresh' (Kd.R_lt (rgo_ HO200)) k_ hk, Kd.fresh' (Kd.R_lt (rgo_ HO206)) k_ hk⟩))
          (case aO => exact (by (with_reducible repeat (first | apply Kd.R_alloc | apply Kd.R_drewN | apply Kd.R_drew)); exact Kd.R_mono HO203.out (fun _ hk => ⟨hk.1.2, hk.2⟩)))
          (case aS => exact (below_size (bel_ HB)))
          (case aL => have := LMc7.out; omega)
          intro v208 w18 ho hb hg hat
          rw [← Ny207.out] at ho
          have n0_ := Aside0.mk (blk_grown (g := gb197) (o := .cells #[.int .i64 a0_0, .int .i64 a0_1, .int .i64 a0_2, .int .i64 a0_3, .bool a0_4, .int .i64 a0_5, .slice A0_6 l0_6.length c0_6] 56 (0, 0)) (blk_ BK197) hg (Kd.R_ne HO203.out BK197.out (by decide)))
          have n1_ := Aside0.mk (Kd.R_after (ok := (fun k_ => some k_ ≠ (.slice Ao19 y204.length co19 : Value).ownBlock)) (by (with_reducible repeat (first | apply Kd.R_alloc | apply Kd.R_drewN | apply Kd.R_drew)); exact Kd.R_mono HO200.out (fun _ hk => ⟨hk.2, hk.1.2⟩)) hg hat)
          have n2_ := Aside0.mk (Kd.R_after (ok := (fun k_ => some k_ ≠ (.slice Ao13 y198.length co13 : Value).ownBlock)) (by (with_reducible repeat (first | apply Kd.R_alloc | apply Kd.R_drewN | apply Kd.R_drew)); exact Kd.R_mono HO206.out (fun _ hk => ⟨hk.1.2, hk.2⟩)) hg hat)
          have n3_ := Aside0.mk (hb)
          have n4_ := Aside0.mk (ho)
          clear BK197
          clear HO200
          clear HO206
          clear HB
          clear HO203
          have BK197 := n0_
          have HO200 := n1_
          have HO206 := n2_
          have HB := n3_
          have HO209 := n4_
          clear n0_ n1_ n2_ n3_ n4_
          clear ho hb hg hat
          obtain ⟨Ao20, co20, eo20⟩ := Kd.R_slice HO209.out
          (first | subst eo20 | (injection eo20 with f1_ f2_ f3_; have f4_ := f1_.symm; have f5_ := f3_.symm; clear f1_ f2_ f3_; subst f4_; subst f5_))
          refine hK.out _ _ ⟨(blk_cell BK197.out 0).trans rfl, (blk_cell BK197.out 1).trans rfl, (blk_cell BK197.out 2).trans rfl, (blk_cell BK197.out 3).trans rfl, (blk_cell BK197.out 4).trans rfl, (blk_cell BK197.out 5).trans rfl, (blk_cell BK197.out 6).trans rfl⟩ (fun hHeld => ?_)
          clear hK K
          refine norm_ (a' := ?_) ?_ ?_
          rotate_left
          · show Act.put _ (some 30) _ = _
            simp only [Act.put, List.setIfInBounds_toArray, List.set_cons_zero, List.set_cons_succ, i64_w, i32_w]
            rfl
          refine one_ (i := 12) (N := some 33) #[true, true, true, true, true, true, true, true, true, true, true, true, true, false] rfl rfl (one_of HT_.out (by kernel_rfl)) (by decide) (fun K hK => ?_)
          refine goes_ Try.func61 (by kernel_rfl) rfl #[.slice Ao20 y207.length co20, .int .i64 a0_3] (by rfl) rfl rfl (by (try simp only [List.map_toArray, List.map_cons, List.map_nil]); first | done | rfl | (simp only [List.length_drop, List.length_take]; rfl)) ?_
          with_reducible refine (varint_Long.calls kj1 _ _ y207 a0_3 t210 _ ?side1 ?side2 A8.out).mono ?_
          (case side1 => exact cgo_ ((Kd.R_reads' HO209.out).2.2))
          (case side2 => exact (Kd.R_reads' HO209.out).2.1)
          rintro e w21 ⟨v211, rfl, ho0, hb⟩
          refine ⟨_, rfl, ?_⟩
          have n0_ := Aside0.mk (Kd.R_elder' (rgo_ HO200) (Kd.R_base ho0) hb)
          have n1_ := Aside0.mk (Kd.R_elder' (rgo_ HO206) (Kd.R_base ho0) hb)
          have n2_ := Aside0.mk (Kd.R_elder' (rgo_ HO209) (Kd.R_base ho0) hb)
          have n3_ := Aside0.mk (Kd.R_lower (Kd.R_new' (Kd.R_new' (Kd.R_new' ho0 (Kd.R_lt (rgo_ HO200))) (Kd.R_lt (rgo_ HO206))) (Kd.R_lt (rgo_ HO209))) (below_size (bel_ HB)))
          have n4_ := Aside0.mk (blk_below (g := gb197) (o := .cells #[.int .i64 a0_0, .int .i64 a0_1, .int .i64 a0_2, .int .i64 a0_3, .bool a0_4, .int .i64 a0_5, .slice A0_6 l0_6.length c0_6] 56 (0, 0)) (blk_ BK197) hb)
          have n5_ := Aside0.mk (below_step (bel_ HB) hb)
          clear HO200
          clear HO206
          clear HO209
          clear BK197
          clear HB
          have HO200 := n0_
          have HO206 := n1_
          have HO209 := n2_
          have HO212 := n3_
          have BK197 := n4_
          have HB := n5_
          clear n0_ n1_ n2_ n3_ n4_ n5_
          (try clear hb)
          (try clear hb2)
          (try clear hk)
          (try clear hi)
          (try clear ho0)
          refine hK.out _ _ ⟨(blk_cell BK197.out 0).trans rfl, (blk_cell BK197.out 1).trans rfl, (blk_cell BK197.out 2).trans rfl, (blk_cell BK197.out 3).trans rfl, (blk_cell BK197.out 4).trans rfl, (blk_cell BK197.out 5).trans rfl, (blk_cell BK197.out 6).trans rfl⟩ (fun hHeld => ?_)
          clear hK K
          refine norm_ (a' := ?_) ?_ ?_
          rotate_left
          · show Act.put _ (some 33) _ = _
            simp only [Act.put, List.setIfInBounds_toArray, List.set_cons_zero, List.set_cons_succ, i64_w, i32_w]
            rfl
          refine pure_ (i := 13) (N := some 4) (v := ?_) (a' := ?_) #[true, true, true, true, true, true, true, true, true, true, true, true, true, true] rfl rfl (any_of HT_.out (by kernel_rfl)) (fun _ _ _ h => h) (Or.inl ⟨by rfl, ?_⟩) ?_ ?_
          rotate_left
          · intro w'
            go_simp
            with_reducible rfl
          rotate_left
          · simp only [Act.put, List.setIfInBounds_toArray, List.set_cons_zero, List.set_cons_succ, i64_w, i32_w]
            rfl
          refine done_ (done_of HT_.out (by kernel_rfl)) ?_
          obtain ⟨hcz22_0, hcz22_1, hcz22_2, hcz22_3, hcz22_4, hcz22_5, hcz22_6⟩ := cells7_ BK197.out
          have hfz22_ := blk_frozen BK197.out
          try go_wp2_with (first | ((with_reducible refine gate_builtin (b := .append) (xs := #[.tmp 34, .tmp 39]) rfl ?_); at_builtin; refine Kd.R_append (Kd.int .u8) (w0 := w) w.heap.size rfl (.tmp 34) (.tmp 39) 34 5 (.int .u8 0) 1 rfl Try.underlying34 info5 rfl (by decide) (by omega) v211 t210 (((l0_6.length : Int)) % 256) [.int .u8 (((l0_6.length : Int)) % 256)] (fun k_ => some k_ ≠ (.slice Ao13 y198.length co13 : Value).ownBlock ∧ some k_ ≠ (.slice Ao19 y204.length co19 : Value).ownBlock ∧ some k_ ≠ (.slice Ao20 y207.length co20 : Value).ownBlock) (fun _ => False) rfl rfl ?aP (fun _ hk => hk.elim) ?aF ?aO ?aB ?aS ?aL ?_; (case aP => exact rfl); (case aB => exact (bel_ HB)); (case aF => exact (fun k_ hk => ⟨Kd.fresh' (Kd.R_lt (rgo_ HO200)) k_ hk, Kd.fresh' (Kd.R_lt (rgo_ HO206)) k_ hk, Kd.fresh' (Kd.R_lt (rgo_ HO209)) k_ hk⟩)); (case aO => exact (by (with_reducible repeat (first | apply Kd.R_alloc | apply Kd.R_drewN | apply Kd.R_drew)); exact Kd.R_mono HO212.out (fun _ hk => ⟨hk.1.1.2, ⟨hk.1.2, hk.2⟩⟩))); (case aS => exact (below_size (bel_ HB))); (case aL => have := LMc9.out; omega); intro v214 w23 ho hb hg hat; rw [← Ny213.out] at ho; have n0_ := Aside0.mk (blk_grown (g := gb197) (o := .cells #[.int .i64 a0_0, .int .i64 a0_1, .int .i64 a0_2, .int .i64 a0_3, .bool a0_4, .int .i64 a0_5, .slice A0_6 l0_6.length c0_6] 56 (0, 0)) (blk_ BK197) hg (Kd.R_ne HO212.out BK197.out (by decide))); have n1_ := Aside0.mk (Kd.R_after (ok := (fun k_ => some k_ ≠ (.slice Ao19 y204.length co19 : Value).ownBlock ∧ some k_ ≠ (.slice Ao20 y207.length co20 : Value).ownBlock)) (rgo_ HO200) hg hat); have n2_ := Aside0.mk (Kd.R_after (ok := (fun k_ => some k_ ≠ (.slice Ao13 y198.length co13 : Value).ownBlock ∧ some k_ ≠ (.slice Ao20 y207.length co20 : Value).ownBlock)) (rgo_ HO206) hg hat); have n3_ := Aside0.mk (Kd.R_after (ok := (fun k_ => some k_ ≠ (.slice Ao13 y198.length co13 : Value).ownBlock ∧ some k_ ≠ (.slice Ao19 y204.length co19 : Value).ownBlock)) (rgo_ HO209) hg hat); have n4_ := Aside0.mk (hb); have n5_ := Aside0.mk (ho); clear BK197 HO200 HO206 HO209 HB HO212; have BK197 := n0_; have HO200 := n1_; have HO206 := n2_; have HO209 := n3_; have HB := n4_; have HO215 := n5_; clear n0_ n1_ n2_ n3_ n4_ n5_; clear ho hb hg hat; obtain ⟨hcz24_0, hcz24_1, hcz24_2, hcz24_3, hcz24_4, hcz24_5, hcz24_6⟩ := cells7_ BK197.out; have hfz24_ := blk_frozen BK197.out))
          go_loopg [4, 44] kj1 (fun kq v4 v44 w' => ∃ (x4_2 : List Int) (x44_2 : Int), v44 = .int .i64 x44_2 ∧ Aside0 (batch_bytes.l0 kq x4_2 l0_6 (l0_6.length : Int) x44_2 a0_0 a0_1 a0_2 a0_3 a0_4 a0_5 l0_6 = some r) ∧ Aside0 (kq ≤ kj1) ∧ Aside0 (Kd.R (Kd.int .u8) 5 w' w.heap.size (fun _ => True) v4 x4_2) ∧ Aside0 (w'.heap[gb197]? = some (.cells #[.int .i64 a0_0, .int .i64 a0_1, .int .i64 a0_2, .int .i64 a0_3, .bool a0_4, .int .i64 a0_5, (.slice A0_6 l0_6.length c0_6)] 56 (0, 0))) ∧ Aside0 (Below w.heap.size w w'))
          case atStart => exact ⟨(y213), (0), (by first | rfl | (simp; done) | (simp [*]; done)), H', ⟨Nat.le_refl _⟩, ⟨by (with_reducible repeat (first | apply Kd.R_alloc | apply Kd.R_drewN | apply Kd.R_drew)); exact Kd.R_mono HO215.out (fun _ hk => trivial)⟩, ⟨by (with_reducible repeat (first | refine blk_drewN ?_ _ | refine blk_drew ?_ | refine blk_alloc ?_ _)); exact BK197.out⟩, ⟨by repeat (first | (with_reducible first | exact HB.out | apply below_alloc | apply pw_below_drewN | apply below_drew1 | refine below_set ?_ GE197.out) | exact HB.out)⟩⟩
          case round =>
            clear H'
            try clear p2
            try clear c5
            try clear c6
            try clear p6
            try clear c7
            try clear c9
            try clear hcz12_0
            try clear hcz12_1
            try clear hcz12_2
            try clear hcz12_3
            try clear hcz12_4
            try clear hcz12_5
            try clear hcz12_6
            try clear hcz22_0
            try clear hcz22_1
            try clear hcz22_2
            try clear hcz22_3
            try clear hcz22_4
            try clear hcz22_5
            try clear hcz22_6
            try clear hcz24_0
            try clear hcz24_1
            try clear hcz24_2
            try clear hcz24_3
            try clear hcz24_4
            try clear hcz24_5
            try clear hcz24_6
            try clear hcz4_0
            try clear hcz4_1
            try clear hcz4_2
            try clear hcz4_3
            try clear hcz4_4
            try clear hcz4_5
            try clear hcz4_6
            try clear hfz12_0
            try clear hfz12_1
            try clear hfz12_2
            try clear hfz12_3
            try clear hfz12_4
            try clear hfz12_5
            try clear hfz12_6
            try clear hfz22_0
            try clear hfz22_1
            try clear hfz22_2
            try clear hfz22_3
            try clear hfz22_4
            try clear hfz22_5
            try clear hfz22_6
            try clear hfz24_0
            try clear hfz24_1
            try clear hfz24_2
            try clear hfz24_3
            try clear hfz24_4
            try clear hfz24_5
            try clear hfz24_6
            try clear hfz4_0
            try clear hfz4_1
            try clear hfz4_2
            try clear hfz4_3
            try clear hfz4_4
            try clear hfz4_5
            try clear hfz4_6
            try clear p2
            obtain ⟨x4_2, x44_2, rfl, HA, HK2, HO_4, BK197, HB⟩ := hrel
            cases gk with
            | zero => exact absurd HA.out (by simp [batch_bytes.l0])
            | succ k2 =>
              have H := HA.out
              clear HA
              simp only [batch_bytes.l0] at H
              by_cases c25 : x44_2 < (l0_6.length : Int)
              · rw [if_pos c25] at H
                have c25b0 : decide (x44_2 < (l0_6.length : Int)) = true := decide_eq_true c25
                clear c25
                by_cases c26 : 0 ≤ x44_2
                · rw [if_pos c26] at H
                  have c26b0 : decide (0 ≤ x44_2) = true := decide_eq_true c26
                  clear c26
                  by_cases c27 : x44_2 < (l0_6.length : Int)
                  · rw [if_pos c27] at H
                    have c27b0 : decide (x44_2 < (l0_6.length : Int)) = true := decide_eq_true c27
                    clear c27
                    replace H := Option.bind_eq_some_iff.mp H
                    obtain ⟨t218, A280, H⟩ := H
                    replace H : ((varint_Text.f k2 t218 ((rd_T71 l0_6 x44_2).f1)).bind fun t221 => (batch_bytes.l0 k2 t221 l0_6 (l0_6.length : Int) (wrap64 (x44_2 + 1)) a0_0 a0_1 a0_2 a0_3 a0_4 a0_5 l0_6)) = some r := H
                    have A28 := Aside0.mk A280
                    clear A280
                    replace H := Option.bind_eq_some_iff.mp H
                    obtain ⟨t221, A290, H⟩ := H
                    replace H : (batch_bytes.l0 k2 t221 l0_6 (l0_6.length : Int) (wrap64 (x44_2 + 1)) a0_0 a0_1 a0_2 a0_3 a0_4 a0_5 l0_6) = some r := H
                    have A29 := Aside0.mk A290
                    clear A290
                    have H' := Aside0.mk H
                    clear H
                    have p216 : 0 ≤ (x44_2 : Int) := of_decide_eq_true (by first | (with_reducible assumption) | assumption)
                    have q216 : x44_2 < (l0_6.length : Int) := of_decide_eq_true (by first | (with_reducible assumption) | assumption)
                    obtain ⟨ad216, e216, hx216_0, hx216_1⟩ := at_T71 HR0_6.out x44_2 p216 q216
                    cases e216
                    replace hx216_0 := (HB.out.cell (World.block_lt_of_cell? w _ hx216_0)).trans hx216_0
                    replace hx216_1 := (HB.out.cell (World.block_lt_of_cell? w _ hx216_1)).trans hx216_1
                    replace p216 := eq_true p216
                    replace q216 := eq_true q216
                    try go_wp2_with (first | ((with_reducible refine gate_dst (N := 6) rfl ?_); refine box_event ?hg (N := 6) ?hd (cs := #[.string (⟨#[]⟩ : ByteArray), .string (⟨#[]⟩ : ByteArray)]) (t := 71) ?hr ?_; (case hd => rfl); (case hg => rfl); (case hr => first | (go_simp; done) | (go_simp; rfl)); intro gb217 hg w30 hbox hb; have n0_ := Aside0.mk (Kd.R_below (rgo_ HO_4) hb); have n1_ := Aside0.mk (blk_below (g := gb197) (o := .cells #[.int .i64 a0_0, .int .i64 a0_1, .int .i64 a0_2, .int .i64 a0_3, .bool a0_4, .int .i64 a0_5, .slice (some ad216) l0_6.length c0_6] 56 (0, 0)) (blk_ BK197) hb); have n2_ := Aside0.mk (below_step (bel_ HB) hb); have n3_ := Aside0.mk (hbox); have n4_ := Aside0.mk ((by rw [hg]; exact (below_size (bel_ HB)) : w.heap.size ≤ gb217)); have n5_ := Aside0.mk ((by rw [hg]; exact (below_size (bel_ HB)) : w.heap.size ≤ gb217)); have n6_ := Aside0.mk ((by rw [hg]; exact Nat.ne_of_lt (blk_lt (g := gb197) (o := .cells #[.int .i64 a0_0, .int .i64 a0_1, .int .i64 a0_2, .int .i64 a0_3, .bool a0_4, .int .i64 a0_5, .slice (some ad216) l0_6.length c0_6] 56 (0, 0)) (blk_ BK197)) : gb197 ≠ gb217)); have n7_ := Aside0.mk ((by rw [hg]; exact Nat.ne_of_gt (blk_lt (g := gb197) (o := .cells #[.int .i64 a0_0, .int .i64 a0_1, .int .i64 a0_2, .int .i64 a0_3, .bool a0_4, .int .i64 a0_5, .slice (some ad216) l0_6.length c0_6] 56 (0, 0)) (blk_ BK197)) : gb217 ≠ gb197)); clear HO_4 BK197 HB; have HO_4 := n0_; have BK197 := n1_; have HB := n2_; have BK217 := n3_; have GW217 := n4_; have GE217 := n5_; have NB197_217 := n6_; have NB217_197 := n7_; clear n0_ n1_ n2_ n3_ n4_ n5_ n6_ n7_; clear hb hbox hg; have hnb31 := NB217_197.out; have hnc31 := NB197_217.out; obtain ⟨hcz32_0, hcz32_1⟩ := cells2_ BK217.out; have hfz32_ := blk_frozen BK217.out))
                    have n0_ : Aside0 (Kd.R (Kd.int .u8) 5 ((w30.setCell ⟨gb217, 0, none⟩ (.string ((rd_T71 l0_6 x44_2).f0))).setCell ⟨gb217, 1, none⟩ (.string ((rd_T71 l0_6 x44_2).f1))) w.heap.size (fun _ => True) u4 x4_2) := ⟨by (with_reducible repeat (first | apply Kd.R_alloc | apply Kd.R_drewN | apply Kd.R_drew)); exact Kd.R_mono (Kd.R_far (p := ⟨gb217, 1, none⟩) (Kd.R_far (p := ⟨gb217, 0, none⟩) (Kd.R_types HO_4.out BK217.out (by decide)) (fun _ hk => hk.2) (.string ((rd_T71 l0_6 x44_2).f0))) (fun _ hk => hk.2) (.string ((rd_T71 l0_6 x44_2).f1))) (fun _ hk => trivial)⟩
                    have n1_ : Aside0 (((w30.setCell ⟨gb217, 0, none⟩ (.string ((rd_T71 l0_6 x44_2).f0))).setCell ⟨gb217, 1, none⟩ (.string ((rd_T71 l0_6 x44_2).f1))).heap[gb197]? = some (.cells #[.int .i64 a0_0, .int .i64 a0_1, .int .i64 a0_2, .int .i64 a0_3, .bool a0_4, .int .i64 a0_5, .slice (some ad216) l0_6.length c0_6] 56 (0, 0))) := ⟨by (with_reducible repeat (first | refine blk_drewN ?_ _ | refine blk_drew ?_ | refine blk_alloc ?_ _)); refine blk_far ?_ NB197_217.out _; (with_reducible repeat (first | refine blk_drewN ?_ _ | refine blk_drew ?_ | refine blk_alloc ?_ _)); refine blk_far ?_ NB197_217.out _; (with_reducible repeat (first | refine blk_drewN ?_ _ | refine blk_drew ?_ | refine blk_alloc ?_ _)); exact BK197.out⟩
                    have n2_ : Aside0 (((w30.setCell ⟨gb217, 0, none⟩ (.string ((rd_T71 l0_6 x44_2).f0))).setCell ⟨gb217, 1, none⟩ (.string ((rd_T71 l0_6 x44_2).f1))).heap[gb217]? = some (.cells #[.string ((rd_T71 l0_6 x44_2).f0), .string ((rd_T71 l0_6 x44_2).f1)] 71 (0, 0))) := ⟨by (with_reducible repeat (first | refine blk_drewN ?_ _ | refine blk_drew ?_ | refine blk_alloc ?_ _)); refine blk_put (cs := #[.string ((rd_T71 l0_6 x44_2).f0), .string (⟨#[]⟩ : ByteArray)]) ?_ 1 _ rfl; (with_reducible repeat (first | refine blk_drewN ?_ _ | refine blk_drew ?_ | refine blk_alloc ?_ _)); refine blk_put (cs := #[.string (⟨#[]⟩ : ByteArray), .string (⟨#[]⟩ : ByteArray)]) ?_ 0 _ rfl; (with_reducible repeat (first | refine blk_drewN ?_ _ | refine blk_drew ?_ | refine blk_alloc ?_ _)); exact BK217.out⟩
                    have n3_ : Aside0 (Below w.heap.size w ((w30.setCell ⟨gb217, 0, none⟩ (.string ((rd_T71 l0_6 x44_2).f0))).setCell ⟨gb217, 1, none⟩ (.string ((rd_T71 l0_6 x44_2).f1)))) := ⟨by repeat (first | (with_reducible first | exact HB.out | apply below_alloc | apply pw_below_drewN | apply below_drew1 | refine below_set ?_ GE197.out | refine below_set ?_ GE217.out) | exact HB.out)⟩
                    (try clear HO_4)
                    (try clear BK197)
                    (try clear BK217)
                    (try clear HB)
                    generalize ((w30.setCell ⟨gb217, 0, none⟩ (.string ((rd_T71 l0_6 x44_2).f0))).setCell ⟨gb217, 1, none⟩ (.string ((rd_T71 l0_6 x44_2).f1))) = w33 at n0_ n1_ n2_ n3_ ⊢
                    have HO_4 := n0_
                    have BK197 := n1_
                    have BK217 := n2_
                    have HB := n3_
                    clear n0_ n1_ n2_ n3_
                    have n0_ := Aside0.mk (Kd.R_drew HO_4.out)
                    have n1_ := Aside0.mk (blk_drew BK197.out)
                    have n2_ := Aside0.mk (blk_drew BK217.out)
                    have n3_ := Aside0.mk (below_drew1 HB.out)
                    clear HO_4
                    clear BK197
                    clear BK217
                    clear HB
                    have HO_4 := n0_
                    have BK197 := n1_
                    have BK217 := n2_
                    have HB := n3_
                    clear n0_ n1_ n2_ n3_
                    obtain ⟨Ao35, co35, eo35⟩ := Kd.R_slice HO_4.out
                    (first | subst eo35 | (injection eo35 with f1_ f2_ f3_; have f4_ := f1_.symm; have f5_ := f3_.symm; clear f1_ f2_ f3_; subst f4_; subst f5_))
                    refine start_ (n := 8) (S := fun w' => w'.cell? ⟨gb217, 0, none⟩ = some (.string ((rd_T71 l0_6 x44_2).f0)) ∧ w'.cell? ⟨gb217, 1, none⟩ = some (.string ((rd_T71 l0_6 x44_2).f1))) (ds := []) #[false, false, false, false, false, false, false, false] (by kernel_rfl) rfl rfl ⟨(blk_cell BK217.out 0).trans rfl, (blk_cell BK217.out 1).trans rfl⟩ (fun hHeld => ?_); refine with_tabW batch_bytes.tab10 batch_bytes.bits10 (fun HT_ HW_ => ?_)
                    generalize w33.drew = w34 at HO_4 BK197 BK217 HB hHeld ⊢
                    refine pure_ (i := 0) (N := some 48) (v := ?_) (a' := ?_) #[true, false, false, false, false, false, false, false] rfl rfl (any_of HT_.out (by kernel_rfl)) (fun _ _ _ h => h) (Or.inl ⟨by rfl, ?_⟩) ?_ ?_
                    rotate_left
                    · intro w'
                      go_simp
                      with_reducible rfl
                    rotate_left
                    · simp only [Act.put, List.setIfInBounds_toArray, List.set_cons_zero, List.set_cons_succ, i64_w, i32_w]
                      rfl
                    refine pure_ (i := 1) (N := some 49) (v := ?_) (a' := ?_) #[true, true, false, false, false, false, false, false] rfl rfl (any_of HT_.out (by kernel_rfl)) (fun _ _ _ h => h) (Or.inl ⟨by rfl, ?_⟩) ?_ ?_
                    rotate_left
                    · intro w'
                      go_simp
                      with_reducible rfl
                    rotate_left
                    · simp only [Act.put, List.setIfInBounds_toArray, List.set_cons_zero, List.set_cons_succ, i64_w, i32_w]
                      rfl
                    refine pure_ (i := 4) (N := some 52) (v := ?_) (a' := ?_) #[true, true, false, false, true, false, false, false] rfl rfl (any_of HT_.out (by kernel_rfl)) (fun _ _ _ h => h) (Or.inl ⟨by rfl, ?_⟩) ?_ ?_
                    rotate_left
                    · intro w'
                      go_simp
                      with_reducible rfl
                    rotate_left
                    · simp only [Act.put, List.setIfInBounds_toArray, List.set_cons_zero, List.set_cons_succ, i64_w, i32_w]
                      rfl
                    refine take_ (i := 2) (N := some 50) (v := ?_) (a' := ?_) #[true, true, true, false, true, false, false, false] rfl rfl (take_ofW HT_.out HW_.out (by kernel_rfl)) (fun _ _ _ h => h) (Or.inl ⟨by rfl, ?_⟩) hHeld ?_ ?_
                    rotate_left
                    · rintro w' ⟨s0, s1⟩
                      go_simp
                      with_reducible rfl
                    rotate_left
                    · simp only [Act.put, List.setIfInBounds_toArray, List.set_cons_zero, List.set_cons_succ, i64_w, i32_w]
                      rfl
                    refine take_ (i := 5) (N := some 53) (v := ?_) (a' := ?_) #[true, true, true, false, true, true, false, false] rfl rfl (take_ofW HT_.out HW_.out (by kernel_rfl)) (fun _ _ _ h => h) (Or.inl ⟨by rfl, ?_⟩) hHeld ?_ ?_
                    rotate_left
                    · rintro w' ⟨s0, s1⟩
                      go_simp
                      with_reducible rfl
                    rotate_left
                    · simp only [Act.put, List.setIfInBounds_toArray, List.set_cons_zero, List.set_cons_succ, i64_w, i32_w]
                      rfl
                    refine one_ (i := 3) (N := some 51) #[true, true, true, true, true, true, false, false] rfl rfl (one_of HT_.out (by kernel_rfl)) (by decide) (fun K hK => ?_)
                    refine goes_ Try.func121 (by kernel_rfl) rfl #[.slice Ao35 x4_2.length co35, .string ((rd_T71 l0_6 x44_2).f0)] (by rfl) rfl rfl (by (try simp only [List.map_toArray, List.map_cons, List.map_nil]); first | done | rfl | (simp only [List.length_drop, List.length_take]; rfl)) ?_
                    with_reducible refine (varint_Text.calls k2 _ _ x4_2 ((rd_T71 l0_6 x44_2).f0) t218 _ ?side1 ?side2 A28.out).mono ?_
                    (case side1 => exact cgo_ ((Kd.R_reads' HO_4.out).2.2))
                    (case side2 => exact (Kd.R_reads' HO_4.out).2.1)
                    rintro e w36 ⟨v219, rfl, ho0, hb⟩
                    refine ⟨_, rfl, ?_⟩
                    have n0_ := Aside0.mk (Kd.R_elder' (rgo_ HO_4) (Kd.R_base ho0) hb)
                    have n1_ := Aside0.mk (Kd.R_lower (Kd.R_new' ho0 (Kd.R_lt (rgo_ HO_4))) (below_size (bel_ HB)))
                    have n2_ := Aside0.mk (blk_below (g := gb197) (o := .cells #[.int .i64 a0_0, .int .i64 a0_1, .int .i64 a0_2, .int .i64 a0_3, .bool a0_4, .int .i64 a0_5, .slice (some ad216) l0_6.length c0_6] 56 (0, 0)) (blk_ BK197) hb)
                    have n3_ := Aside0.mk (blk_below (g := gb217) (o := .cells #[.string ((rd_T71 l0_6 x44_2).f0), .string ((rd_T71 l0_6 x44_2).f1)] 71 (0, 0)) (blk_ BK217) hb)
                    have n4_ := Aside0.mk (below_step (bel_ HB) hb)
                    clear HO_4
                    clear BK197
                    clear BK217
                    clear HB
                    have HO_4 := n0_
                    have HO220 := n1_
                    have BK197 := n2_
                    have BK217 := n3_
                    have HB := n4_
                    clear n0_ n1_ n2_ n3_ n4_
                    (try clear hb)
                    (try clear hb2)
                    (try clear hk)
                    (try clear hi)
                    (try clear ho0)
                    obtain ⟨Ao37, co37, eo37⟩ := Kd.R_slice HO220.out
                    (first | subst eo37 | (injection eo37 with f1_ f2_ f3_; have f4_ := f1_.symm; have f5_ := f3_.symm; clear f1_ f2_ f3_; subst f4_; subst f5_))
                    refine hK.out _ _ ⟨(blk_cell BK217.out 0).trans rfl, (blk_cell BK217.out 1).trans rfl⟩ (fun hHeld => ?_)
                    clear hK K
                    refine norm_ (a' := ?_) ?_ ?_
                    rotate_left
                    · show Act.put _ (some 51) _ = _
                      simp only [Act.put, List.setIfInBounds_toArray, List.set_cons_zero, List.set_cons_succ, i64_w, i32_w]
                      rfl
                    refine one_ (i := 6) (N := some 54) #[true, true, true, true, true, true, true, false] rfl rfl (one_of HT_.out (by kernel_rfl)) (by decide) (fun K hK => ?_)
                    refine goes_ Try.func121 (by kernel_rfl) rfl #[.slice Ao37 t218.length co37, .string ((rd_T71 l0_6 x44_2).f1)] (by rfl) rfl rfl (by (try simp only [List.map_toArray, List.map_cons, List.map_nil]); first | done | rfl | (simp only [List.length_drop, List.length_take]; rfl)) ?_
                    with_reducible refine (varint_Text.calls k2 _ _ t218 ((rd_T71 l0_6 x44_2).f1) t221 _ ?side1 ?side2 A29.out).mono ?_
                    (case side1 => exact cgo_ ((Kd.R_reads' HO220.out).2.2))
                    (case side2 => exact (Kd.R_reads' HO220.out).2.1)
                    rintro e w38 ⟨v222, rfl, ho0, hb⟩
                    refine ⟨_, rfl, ?_⟩
                    have n0_ := Aside0.mk (Kd.R_elder' (rgo_ HO_4) (Kd.R_base ho0) hb)
                    have n1_ := Aside0.mk (Kd.R_elder' (rgo_ HO220) (Kd.R_base ho0) hb)
                    have n2_ := Aside0.mk (Kd.R_lower (Kd.R_new' (Kd.R_new' ho0 (Kd.R_lt (rgo_ HO_4))) (Kd.R_lt (rgo_ HO220))) (below_size (bel_ HB)))
                    have n3_ := Aside0.mk (blk_below (g := gb197) (o := .cells #[.int .i64 a0_0, .int .i64 a0_1, .int .i64 a0_2, .int .i64 a0_3, .bool a0_4, .int .i64 a0_5, .slice (some ad216) l0_6.length c0_6] 56 (0, 0)) (blk_ BK197) hb)
                    have n4_ := Aside0.mk (blk_below (g := gb217) (o := .cells #[.string ((rd_T71 l0_6 x44_2).f0), .string ((rd_T71 l0_6 x44_2).f1)] 71 (0, 0)) (blk_ BK217) hb)
                    have n5_ := Aside0.mk (below_step (bel_ HB) hb)
                    clear HO_4
                    clear HO220
                    clear BK197
                    clear BK217
                    clear HB
                    have HO_4 := n0_
                    have HO220 := n1_
                    have HO223 := n2_
                    have BK197 := n3_
                    have BK217 := n4_
                    have HB := n5_
                    clear n0_ n1_ n2_ n3_ n4_ n5_
                    (try clear hb)
                    (try clear hb2)
                    (try clear hk)
                    (try clear hi)
                    (try clear ho0)
                    refine hK.out _ _ ⟨(blk_cell BK217.out 0).trans rfl, (blk_cell BK217.out 1).trans rfl⟩ (fun hHeld => ?_)
                    clear hK K
                    refine norm_ (a' := ?_) ?_ ?_
                    rotate_left
                    · show Act.put _ (some 54) _ = _
                      simp only [Act.put, List.setIfInBounds_toArray, List.set_cons_zero, List.set_cons_succ, i64_w, i32_w]
                      rfl
                    refine pure_ (i := 7) (N := some 4) (v := ?_) (a' := ?_) #[true, true, true, true, true, true, true, true] rfl rfl (any_of HT_.out (by kernel_rfl)) (fun _ _ _ h => h) (Or.inl ⟨by rfl, ?_⟩) ?_ ?_
                    rotate_left
                    · intro w'
                      go_simp
                      with_reducible rfl
                    rotate_left
                    · simp only [Act.put, List.setIfInBounds_toArray, List.set_cons_zero, List.set_cons_succ, i64_w, i32_w]
                      rfl
                    refine done_ (done_of HT_.out (by kernel_rfl)) ?_
                    try go_wp2
                    go_roundg k2
                    case measure => have := HJ1.out; have := HK2.out; omega
                    case rel => exact ⟨(t221), (wrap64 (x44_2 + 1)), (by first | rfl | (simp; done) | (simp [*]; done)), H', ⟨by have := HJ1.out; have := HK2.out; omega⟩, ⟨by (with_reducible repeat (first | apply Kd.R_alloc | apply Kd.R_drewN | apply Kd.R_drew)); exact Kd.R_mono HO223.out (fun _ hk => trivial)⟩, ⟨by (with_reducible repeat (first | refine blk_drewN ?_ _ | refine blk_drew ?_ | refine blk_alloc ?_ _)); exact BK197.out⟩, ⟨by repeat (first | (with_reducible first | exact HB.out | apply below_alloc | apply pw_below_drewN | apply below_drew1 | refine below_set ?_ GE197.out | refine below_set ?_ GE217.out) | exact HB.out)⟩⟩
                  · rw [if_neg c27] at H
                    exact absurd H (by simp)
                · rw [if_neg c26] at H
                  exact absurd H (by simp)
              · rw [if_neg c25] at H
                have c25b0 : decide (x44_2 < (l0_6.length : Int)) = false := decide_eq_false c25
                clear c25
                replace H := Option.bind_eq_some_iff.mp H
                obtain ⟨t224, A390, H⟩ := H
                replace H : ((varint_Long.f k2 ([] : List Int) a0_0).bind fun t227 => ((slices_Concat_byte_byte_3.f t227 (([((t224.length : Int) / 16777216) % 256, ((t224.length : Int) / 65536) % 256, ((t224.length : Int) / 256) % 256, ((t224.length : Int)) % 256] : List Int)) t224).bind fun t233 => (some t233))) = some r := H
                have A39 := Aside0.mk A390
                clear A390
                replace H := Option.bind_eq_some_iff.mp H
                obtain ⟨t227, A400, H⟩ := H
                replace H : ((slices_Concat_byte_byte_3.f t227 (([((t224.length : Int) / 16777216) % 256, ((t224.length : Int) / 65536) % 256, ((t224.length : Int) / 256) % 256, ((t224.length : Int)) % 256] : List Int)) t224).bind fun t233 => (some t233)) = some r := H
                have A40 := Aside0.mk A400
                clear A400
                obtain ⟨y230, hy230⟩ : ∃ y_ : List Int, y_ = (([((t224.length : Int) / 16777216) % 256, ((t224.length : Int) / 65536) % 256, ((t224.length : Int) / 256) % 256, ((t224.length : Int)) % 256] : List Int)) := ⟨_, rfl⟩
                replace H : ((slices_Concat_byte_byte_3.f t227 y230 t224).bind fun t233 => (some t233)) = some r := by first | (rw [hy230]; with_reducible exact H) | (have H2_ := (Option.bind_some _ _).symm.trans H; rw [hy230]; with_reducible exact H2_) | (have H2_ := (Option.bind_some _ _).symm.trans H; with_reducible exact H2_) | with_reducible exact H | (rw [hy230]; exact H) | exact H
                have Ny230 := Aside0.mk hy230
                clear hy230
                replace H := Option.bind_eq_some_iff.mp H
                obtain ⟨t233, A410, H⟩ := H
                replace H : (some t233) = some r := H
                have A41 := Aside0.mk A410
                clear A410
                obtain rfl := Option.some.inj H
                obtain ⟨Ao42, co42, eo42⟩ := Kd.R_slice HO_4.out
                subst eo42
                go_wp2_with (first | ((with_reducible refine gate_callee (f := 122) rfl ?_); refine goesL_ (some 57) rfl rfl Try.func122 (by kernel_rfl) rfl #[.slice Ao42 x4_2.length co42] rfl (by (try simp only [List.map_toArray, List.map_cons, List.map_nil]); first | done | rfl | (simp only [List.length_drop, List.length_take]; rfl)) ?_; (with_reducible refine (crc_Put.calls k2 _ _ x4_2 t224 _ ?side1 ?side2 A39.out).mono ?_); (case side1 => exact cgo_ ((Kd.R_reads' HO_4.out).2.2)); (case side2 => exact (Kd.R_reads' HO_4.out).2.1); rintro e w43 ⟨v225, rfl, ho0, hb⟩; refine ⟨_, rfl, ?_⟩; have n0_ := Aside0.mk (Kd.R_elder' (rgo_ HO_4) (Kd.R_base ho0) hb); have n1_ := Aside0.mk (Kd.R_lower (Kd.R_new' ho0 (Kd.R_lt (rgo_ HO_4))) (below_size (bel_ HB))); have n2_ := Aside0.mk (blk_below (g := gb197) (o := .cells #[.int .i64 a0_0, .int .i64 a0_1, .int .i64 a0_2, .int .i64 a0_3, .bool a0_4, .int .i64 a0_5, .slice A0_6 l0_6.length c0_6] 56 (0, 0)) (blk_ BK197) hb); have n3_ := Aside0.mk (below_step (bel_ HB) hb); clear HO_4 BK197 HB; have HO_4 := n0_; have HO226 := n1_; have BK197 := n2_; have HB := n3_; clear n0_ n1_ n2_ n3_; (try clear hb); (try clear hb2); (try clear hk); (try clear hi); (try clear ho0); obtain ⟨Ao44, co44, eo44⟩ := Kd.R_slice HO226.out; subst eo44; obtain ⟨hcz45_0, hcz45_1, hcz45_2, hcz45_3, hcz45_4, hcz45_5, hcz45_6⟩ := cells7_ BK197.out; have hfz45_ := blk_frozen BK197.out) | ((with_reducible refine gate_callee (f := 61) rfl ?_); refine goesL_ (some 62) rfl rfl Try.func61 (by kernel_rfl) rfl #[.slice none 0 0, .int .i64 a0_0] rfl (by (try simp only [List.map_toArray, List.map_cons, List.map_nil]); first | done | rfl | (simp only [List.length_drop, List.length_take]; rfl)) ?_; (refine (varint_Long.calls k2 _ _ ([] : List Int) a0_0 t227 _ ?side1 ?side2 A40.out).mono ?_); (case side1 => exact Kd.C_nil _ _); (case side2 => exact Nat.le_refl _); rintro e w46 ⟨v228, rfl, ho0, hb⟩; refine ⟨_, rfl, ?_⟩; have n0_ := Aside0.mk (Kd.R_elder' (rgo_ HO_4) (Kd.R_base ho0) hb); have n1_ := Aside0.mk (Kd.R_elder' (rgo_ HO226) (Kd.R_base ho0) hb); have n2_ := Aside0.mk (Kd.R_lower (Kd.R_new' (Kd.R_new' ho0 (Kd.R_lt (rgo_ HO_4))) (Kd.R_lt (rgo_ HO226))) (below_size (bel_ HB))); have n3_ := Aside0.mk (blk_below (g := gb197) (o := .cells #[.int .i64 a0_0, .int .i64 a0_1, .int .i64 a0_2, .int .i64 a0_3, .bool a0_4, .int .i64 a0_5, .slice A0_6 l0_6.length c0_6] 56 (0, 0)) (blk_ BK197) hb); have n4_ := Aside0.mk (below_step (bel_ HB) hb); clear HO_4 HO226 BK197 HB; have HO_4 := n0_; have HO226 := n1_; have HO229 := n2_; have BK197 := n3_; have HB := n4_; clear n0_ n1_ n2_ n3_ n4_; (try clear hb); (try clear hb2); (try clear hk); (try clear hi); (try clear ho0)) | ((with_reducible refine gate_dst (N := 74) rfl ?_); refine Kd.R_lit (Kd.int .u8) _ 5 ?hg (N := 74) ?hd (xs := ([((t224.length : Int) / 16777216) % 256, ((t224.length : Int) / 65536) % 256, ((t224.length : Int) / 256) % 256, ((t224.length : Int)) % 256] : List Int)) (inner := [.int .u8 (((t224.length : Int) / 16777216) % 256), .int .u8 (((t224.length : Int) / 65536) % 256), .int .u8 (((t224.length : Int) / 256) % 256), .int .u8 (((t224.length : Int)) % 256)]) (ok := fun _ => True) (okp := fun _ => True) ?hr ?hp (fun _ hk => hk) trivial (Below.refl _ _) (Nat.le_refl _) (by simp) ?_; (case hd => rfl); (case hg => rfl); (case hr => first | (go_simp; done) | (go_simp; rfl)); (case hp => exact (Reps.one (show Kd.M (Kd.int .u8) _ _ _ (((t224.length : Int) / 16777216) % 256) [.int .u8 (((t224.length : Int) / 16777216) % 256)] from rfl) (Reps.one (show Kd.M (Kd.int .u8) _ _ _ (((t224.length : Int) / 65536) % 256) [.int .u8 (((t224.length : Int) / 65536) % 256)] from rfl) (Reps.one (show Kd.M (Kd.int .u8) _ _ _ (((t224.length : Int) / 256) % 256) [.int .u8 (((t224.length : Int) / 256) % 256)] from rfl) (Reps.one (show Kd.M (Kd.int .u8) _ _ _ (((t224.length : Int)) % 256) [.int .u8 (((t224.length : Int)) % 256)] from rfl) (Reps.none _ _)))))); intro v231 w47 ho48 hb hg_ hnew_; clear hg_ hnew_; (first | rw [← Ny230.out] at ho48 | (simp only [Int.reduceToNat] at ho48; rw [← Ny230.out] at ho48)); have n0_ := Aside0.mk (Kd.R_elder' (rgo_ HO_4) (Kd.R_base ho48) hb); have n1_ := Aside0.mk (Kd.R_elder' (rgo_ HO226) (Kd.R_base ho48) hb); have n2_ := Aside0.mk (Kd.R_elder' (rgo_ HO229) (Kd.R_base ho48) hb); have n3_ := Aside0.mk (Kd.R_lower (Kd.R_new' (Kd.R_new' (Kd.R_new' ho48 (Kd.R_lt (rgo_ HO_4))) (Kd.R_lt (rgo_ HO226))) (Kd.R_lt (rgo_ HO229))) (below_size (bel_ HB))); have n4_ := Aside0.mk (blk_below (g := gb197) (o := .cells #[.int .i64 a0_0, .int .i64 a0_1, .int .i64 a0_2, .int .i64 a0_3, .bool a0_4, .int .i64 a0_5, .slice A0_6 l0_6.length c0_6] 56 (0, 0)) (blk_ BK197) hb); have n5_ := Aside0.mk (below_step (bel_ HB) hb); clear HO_4 HO226 HO229 BK197 HB; have HO_4 := n0_; have HO226 := n1_; have HO229 := n2_; have HO232 := n3_; have BK197 := n4_; have HB := n5_; clear n0_ n1_ n2_ n3_ n4_ n5_; clear hb ho48; obtain ⟨Ao49, co49, eo49⟩ := Kd.R_slice HO229.out; subst eo49; obtain ⟨Ao50, co50, eo50⟩ := Kd.R_slice HO232.out; subst eo50) | (go_at_call 123; (with_reducible refine (slices_Concat_byte_byte_3.calls _ _ t227 _ _ y230 _ _ t224 t233 _ ?side1 ?side2 ?side3 ?side4 ?side5 ?side6 A41.out).mono ?_); (case side1 => exact cgo_ ((Kd.R_reads' HO229.out).2.2)); (case side2 => exact (Kd.R_reads' HO229.out).2.1); (case side3 => exact cgo_ ((Kd.R_reads' HO232.out).2.2)); (case side4 => exact (Kd.R_reads' HO232.out).2.1); (case side5 => exact cgo_ ((Kd.R_reads' HO226.out).2.2)); (case side6 => exact (Kd.R_reads' HO226.out).2.1); rintro e w51 ⟨v234, rfl, ho0, hb⟩; have n0_ := Aside0.mk (Kd.R_elder' (rgo_ HO_4) (Kd.R_base ho0) hb); have n1_ := Aside0.mk (Kd.R_elder' (rgo_ HO226) (Kd.R_base ho0) hb); have n2_ := Aside0.mk (Kd.R_elder' (rgo_ HO229) (Kd.R_base ho0) hb); have n3_ := Aside0.mk (Kd.R_elder' (rgo_ HO232) (Kd.R_base ho0) hb); have n4_ := Aside0.mk (Kd.R_lower (Kd.R_new' (Kd.R_new' (Kd.R_new' (Kd.R_new' ho0 (Kd.R_lt (rgo_ HO_4))) (Kd.R_lt (rgo_ HO226))) (Kd.R_lt (rgo_ HO229))) (Kd.R_lt (rgo_ HO232))) (below_size (bel_ HB))); have n5_ := Aside0.mk (blk_below (g := gb197) (o := .cells #[.int .i64 a0_0, .int .i64 a0_1, .int .i64 a0_2, .int .i64 a0_3, .bool a0_4, .int .i64 a0_5, .slice A0_6 l0_6.length c0_6] 56 (0, 0)) (blk_ BK197) hb); have n6_ := Aside0.mk (below_step (bel_ HB) hb); clear HO_4 HO226 HO229 HO232 BK197 HB; have HO_4 := n0_; have HO226 := n1_; have HO229 := n2_; have HO232 := n3_; have HO235 := n4_; have BK197 := n5_; have HB := n6_; clear n0_ n1_ n2_ n3_ n4_ n5_ n6_; (try clear hb); (try clear hb2); (try clear hk); (try clear hi); (try clear ho0)))
                go_ret
                exact ⟨_, by first | rfl | (simp [errW_none, errW_some] <;> rfl) | (simp [*, errW_none, errW_some] <;> rfl), by (with_reducible repeat (first | apply Kd.R_alloc | apply Kd.R_drewN | apply Kd.R_drew)); exact Kd.R_mono HO235.out (fun _ hk => trivial), by repeat (first | (with_reducible first | exact HB.out | apply below_alloc | apply pw_below_drewN | apply below_drew1 | refine below_set ?_ GE197.out) | exact HB.out)⟩
        · rw [if_neg c9] at H
          exact absurd H (by simp)
      · rw [if_neg c7] at H
        exact absurd H (by simp)

/-! ### seq_Right: function 110 -/
def seq_Right.f (a0 : Int) : Option (Bool) := if a0 ≥ 0 then (some (decide (a0 ≤ 2147483647))) else (some false)
set_option maxHeartbeats 8000000 in
set_option maxRecDepth 100000 in
theorem seq_Right.calls (a0 : Int) (r : Bool) (w : World) (h : seq_Right.f a0 = some r) :
    Calls Try.prog 110 #[.int .i64 a0] w fun e w' => e = .returned (.bool r) ∧ Drawn0 w w' := by
  have H : (if a0 ≥ 0 then (some (decide (a0 ≤ 2147483647))) else (some false)) = some r := h
  clear h
  by_cases c2 : a0 ≥ 0
  · rw [if_pos c2] at H
    have c2b0 : decide (0 ≤ a0) = true := decide_eq_true c2
    clear c2
    obtain rfl := Option.some.inj H
    go_enter Try.func110, Try.ntmps110
    go_wp2
    go_ret
    exact ⟨by first | rfl | (simp; done) | (simp [*]; done), by repeat (first | exact Drawn0.refl _ | apply Drawn0.step)⟩
  · rw [if_neg c2] at H
    have c2b0 : decide (0 ≤ a0) = false := decide_eq_false c2
    clear c2
    obtain rfl := Option.some.inj H
    go_enter Try.func110, Try.ntmps110
    go_wp2
    go_ret
    exact ⟨by first | rfl | (simp; done) | (simp [*]; done), by repeat (first | exact Drawn0.refl _ | apply Drawn0.step)⟩

/-! ### batch_named: function 116 -/
def batch_named.f (a0_0 : Int) (a0_1 : Int) (a0_2 : Int) (a0_3 : Int) (a0_4 : Bool) (a0_5 : Int) (l0_6 : List (S71)) : Option (Bool) := if a0_1 ≥ 0 then (if a0_2 ≥ 0 then (some (decide (a0_2 ≤ 32767))) else (some false)) else (some false)
set_option maxHeartbeats 8000000 in
set_option maxRecDepth 100000 in
theorem batch_named.calls (a0_0 : Int) (a0_1 : Int) (a0_2 : Int) (a0_3 : Int) (a0_4 : Bool) (a0_5 : Int) (A0_6 : Option Addr) (c0_6 : Nat) (l0_6 : List (S71)) (r : Bool) (w : World) (hr0_6 : Kd.C k71 w A0_6 l0_6.length l0_6) (hc0_6 : l0_6.length ≤ c0_6) (h : batch_named.f a0_0 a0_1 a0_2 a0_3 a0_4 a0_5 l0_6 = some r) :
    Calls Try.prog 116 #[.agg #[.int .i64 a0_0, .int .i64 a0_1, .int .i64 a0_2, .int .i64 a0_3, .bool a0_4, .int .i64 a0_5, .slice A0_6 l0_6.length c0_6]] w fun e w' => e = .returned (.bool r) ∧ Below w.heap.size w w' := by
  have hu56 := Try.underlying56
  have HR0_6 := Aside0.mk hr0_6
  have HC0_6 := Aside0.mk hc0_6
  clear hr0_6 hc0_6
  have HB := Aside0.mk (Below.refl w.heap.size w)
  have H : (if a0_1 ≥ 0 then (if a0_2 ≥ 0 then (some (decide (a0_2 ≤ 32767))) else (some false)) else (some false)) = some r := h
  clear h
  by_cases c2 : a0_1 ≥ 0
  · rw [if_pos c2] at H
    have c2b0 : decide (0 ≤ a0_1) = true := decide_eq_true c2
    clear c2
    by_cases c3 : a0_2 ≥ 0
    · rw [if_pos c3] at H
      have c3b0 : decide (0 ≤ a0_2) = true := decide_eq_true c3
      clear c3
      obtain rfl := Option.some.inj H
      go_enter Try.func116, Try.ntmps116
      go_wp2_with (first | ((with_reducible refine gate_dst (N := 1) rfl ?_); refine box_event ?hg (N := 1) ?hd (cs := #[.int .i64 a0_0, .int .i64 a0_1, .int .i64 a0_2, .int .i64 a0_3, .bool a0_4, .int .i64 a0_5, .slice A0_6 l0_6.length c0_6]) (t := 56) ?hr ?_; (case hd => rfl); (case hg => rfl); (case hr => first | (go_simp; done) | (go_simp; rfl)); intro gb236 hg w4 hbox hb; have n0_ := Aside0.mk (below_step (bel_ HB) hb); have n1_ := Aside0.mk (hbox); have n2_ := Aside0.mk ((by rw [hg]; exact (below_size (bel_ HB)) : w.heap.size ≤ gb236)); have n3_ := Aside0.mk ((by rw [hg]; exact (below_size (bel_ HB)) : w.heap.size ≤ gb236)); clear HB; have HB := n0_; have BK236 := n1_; have GW236 := n2_; have GE236 := n3_; clear n0_ n1_ n2_ n3_; clear hb hbox hg; obtain ⟨hcz5_0, hcz5_1, hcz5_2, hcz5_3, hcz5_4, hcz5_5, hcz5_6⟩ := cells7_ BK236.out; have hfz5_ := blk_frozen BK236.out))
      go_ret
      exact ⟨by first | rfl | (simp [errW_none, errW_some] <;> rfl) | (simp [*, errW_none, errW_some] <;> rfl), by repeat (first | (with_reducible first | exact HB.out | apply below_alloc | apply pw_below_drewN | apply below_drew1 | refine below_set ?_ GE236.out) | exact HB.out)⟩
    · rw [if_neg c3] at H
      have c3b0 : decide (0 ≤ a0_2) = false := decide_eq_false c3
      clear c3
      obtain rfl := Option.some.inj H
      go_enter Try.func116, Try.ntmps116
      go_wp2_with (first | ((with_reducible refine gate_dst (N := 1) rfl ?_); refine box_event ?hg (N := 1) ?hd (cs := #[.int .i64 a0_0, .int .i64 a0_1, .int .i64 a0_2, .int .i64 a0_3, .bool a0_4, .int .i64 a0_5, .slice A0_6 l0_6.length c0_6]) (t := 56) ?hr ?_; (case hd => rfl); (case hg => rfl); (case hr => first | (go_simp; done) | (go_simp; rfl)); intro gb236 hg w6 hbox hb; have n0_ := Aside0.mk (below_step (bel_ HB) hb); have n1_ := Aside0.mk (hbox); have n2_ := Aside0.mk ((by rw [hg]; exact (below_size (bel_ HB)) : w.heap.size ≤ gb236)); have n3_ := Aside0.mk ((by rw [hg]; exact (below_size (bel_ HB)) : w.heap.size ≤ gb236)); clear HB; have HB := n0_; have BK236 := n1_; have GW236 := n2_; have GE236 := n3_; clear n0_ n1_ n2_ n3_; clear hb hbox hg; obtain ⟨hcz7_0, hcz7_1, hcz7_2, hcz7_3, hcz7_4, hcz7_5, hcz7_6⟩ := cells7_ BK236.out; have hfz7_ := blk_frozen BK236.out))
      go_ret
      exact ⟨by first | rfl | (simp [errW_none, errW_some] <;> rfl) | (simp [*, errW_none, errW_some] <;> rfl), by repeat (first | (with_reducible first | exact HB.out | apply below_alloc | apply pw_below_drewN | apply below_drew1 | refine below_set ?_ GE236.out) | exact HB.out)⟩
  · rw [if_neg c2] at H
    have c2b0 : decide (0 ≤ a0_1) = false := decide_eq_false c2
    clear c2
    obtain rfl := Option.some.inj H
    go_enter Try.func116, Try.ntmps116
    go_wp2_with (first | ((with_reducible refine gate_dst (N := 1) rfl ?_); refine box_event ?hg (N := 1) ?hd (cs := #[.int .i64 a0_0, .int .i64 a0_1, .int .i64 a0_2, .int .i64 a0_3, .bool a0_4, .int .i64 a0_5, .slice A0_6 l0_6.length c0_6]) (t := 56) ?hr ?_; (case hd => rfl); (case hg => rfl); (case hr => first | (go_simp; done) | (go_simp; rfl)); intro gb236 hg w8 hbox hb; have n0_ := Aside0.mk (below_step (bel_ HB) hb); have n1_ := Aside0.mk (hbox); have n2_ := Aside0.mk ((by rw [hg]; exact (below_size (bel_ HB)) : w.heap.size ≤ gb236)); have n3_ := Aside0.mk ((by rw [hg]; exact (below_size (bel_ HB)) : w.heap.size ≤ gb236)); clear HB; have HB := n0_; have BK236 := n1_; have GW236 := n2_; have GE236 := n3_; clear n0_ n1_ n2_ n3_; clear hb hbox hg; obtain ⟨hcz9_0, hcz9_1, hcz9_2, hcz9_3, hcz9_4, hcz9_5, hcz9_6⟩ := cells7_ BK236.out; have hfz9_ := blk_frozen BK236.out))
    go_ret
    exact ⟨by first | rfl | (simp [errW_none, errW_some] <;> rfl) | (simp [*, errW_none, errW_some] <;> rfl), by repeat (first | (with_reducible first | exact HB.out | apply below_alloc | apply pw_below_drewN | apply below_drew1 | refine below_set ?_ GE236.out) | exact HB.out)⟩

end Go.Proofs.Ytknclghaofmnhaa.PBR
