-- Written by a program of this session (wip/print/myprint.sh).
import Derived.Test.YtknclghaofmnhaaPBRx0
import Derived.Test.YtknclghaofmnhaaPBRx7
namespace Go.Proofs.Ytknclghaofmnhaa.PBR
open Go.RowKit Go.Proofs.YtknclghaofmnhaaV.PrintWords Go.Proofs.YtknclghaofmnhaaV.PrintLast Go.Proofs.YtknclghaofmnhaaV.PrintMore
attribute [local go_sem] max2_int min2_int max_two min_two max_three min_three max_four min_four   -- for this text's walks alone
set_option linter.unusedVariables false
set_option linter.unusedSimpArgs false

/-! ### batch_body: function 97 -/
mutual
def batch_body.j0 : Nat → List Int → Int → Int → Int → Int → Bool → Int → Option (Int × Int × Int × Int × Bool × Int × (List (S71)))
  | 0, _, _, _, _, _, _, _ => none
  | k + 1, x1, x290000, x290001, x290002, x290003, x290004, x290005 => if 19 < (x1.length : Int) then (batch_body.l0 k x1 20 (wrap64 (rd x1 19)) 0 x290000 x290001 x290002 x290003 x290004 x290005 ([] : List (S71))) else (none)
def batch_body.l0 : Nat → List Int → Int → Int → Int → Int → Int → Int → Int → Bool → Int → List (S71) → Option (Int × Int × Int × Int × Bool × Int × (List (S71)))
  | 0, _, _, _, _, _, _, _, _, _, _, _ => none
  | k + 1, x1, x6, x54, x55, x290000, x290001, x290002, x290003, x290004, x290005, x290006 => if x55 < x54 then (if 0 ≤ x6 then (if x6 ≤ (x1.length : Int) then ((varint_Cut.f k (x1.drop (x6 : Int).toNat) 64).bind fun bt298 => (if 0 ≤ (wrap64 (x6 + bt298.2)) then (if (wrap64 (x6 + bt298.2)) ≤ (x1.length : Int) then ((varint_Cut.f k (x1.drop ((wrap64 (x6 + bt298.2)) : Int).toNat) 64).bind fun bt301 => (if x290006.length < 4398046511104 then (batch_body.l0 k x1 (wrap64 (x6 + (wrap64 (bt298.2 + bt301.2)))) x54 (wrap64 (x55 + 1)) x290000 x290001 x290002 x290003 x290004 x290005 (x290006 ++ [(⟨bt298.1, bt301.1⟩ : S71)])) else (none))) else (none)) else (none))) else (none)) else (none)) else (some (x290000, x290001, x290002, x290003, x290004, x290005, x290006))
end
def batch_body.f (k : Nat) (a0 : Int) (l1 : List Int) : Option (Int × Int × Int × Int × Bool × Int × (List (S71))) := if 0 < (l1.length : Int) then (if 9 < (l1.length : Int) then (if 10 < (l1.length : Int) then (if 1 ≤ (l1.length : Int) then ((varint_Back.f k (l1.drop 1)).bind fun bt291 => (if 11 ≤ (l1.length : Int) then ((varint_Back.f k (l1.drop 11)).bind fun bt294 => (if (Go.bits .or .i64 (wrap64 ((wrap64 (rd l1 9)) * 256)) (wrap64 (rd l1 10))) = 65535 then (batch_body.j0 k l1 a0 bt291.1 (-1) bt294.1 ((Go.bits .and .u8 (rd l1 0) 1) == 1) (wrap64 ((rd l1 0) / 2))) else (batch_body.j0 k l1 a0 bt291.1 (Go.bits .or .i64 (wrap64 ((wrap64 (rd l1 9)) * 256)) (wrap64 (rd l1 10))) bt294.1 ((Go.bits .and .u8 (rd l1 0) 1) == 1) (wrap64 ((rd l1 0) / 2))))) else (none))) else (none)) else (none)) else (none)) else (none)
theorem batch_body.mono_l : ∀ k, (∀ y0 y1 y2 y3 y4 y5 y6, LeO (batch_body.j0 k y0 y1 y2 y3 y4 y5 y6) (batch_body.j0 (k + 1) y0 y1 y2 y3 y4 y5 y6)) ∧ (∀ y0 y1 y2 y3 y4 y5 y6 y7 y8 y9 y10, LeO (batch_body.l0 k y0 y1 y2 y3 y4 y5 y6 y7 y8 y9 y10) (batch_body.l0 (k + 1) y0 y1 y2 y3 y4 y5 y6 y7 y8 y9 y10))
  | 0 => ⟨fun _ _ _ _ _ _ _ r h => by simp [batch_body.j0] at h, fun _ _ _ _ _ _ _ _ _ _ _ r h => by simp [batch_body.l0] at h⟩
  | k + 1 => by
    obtain ⟨ih0, ih1⟩ := batch_body.mono_l k
    refine ⟨?_, ?_⟩
    · intro y0 y1 y2 y3 y4 y5 y6
      unfold batch_body.j0
      repeat' first
      | (with_reducible exact ih0 _ _ _ _ _ _ _)
      | (with_reducible exact ih1 _ _ _ _ _ _ _ _ _ _ _)
      | (with_reducible exact varint_Back.mono _ _)
      | (with_reducible exact varint_Cut.mono _ _ _)
      | (with_reducible exact LeO.refl _)
      | (with_reducible exact LeO.none _)
      | (with_reducible refine LeO.ite ?_ ?_)
      | (with_reducible refine LeO.bind ?_ (fun _ => ?_))
      | exact ih0 _ _ _ _ _ _ _
      | exact ih1 _ _ _ _ _ _ _ _ _ _ _
      | exact varint_Back.mono _ _
      | exact varint_Cut.mono _ _ _
      | exact LeO.none _
      | refine LeO.ite ?_ ?_
      | refine LeO.bind ?_ (fun _ => ?_)
    · intro y0 y1 y2 y3 y4 y5 y6 y7 y8 y9 y10
      unfold batch_body.l0
      repeat' first
      | (with_reducible exact ih0 _ _ _ _ _ _ _)
      | (with_reducible exact ih1 _ _ _ _ _ _ _ _ _ _ _)
      | (with_reducible exact varint_Back.mono _ _)
      | (with_reducible exact varint_Cut.mono _ _ _)
      | (with_reducible exact LeO.refl _)
      | (with_reducible exact LeO.none _)
      | (with_reducible refine LeO.ite ?_ ?_)
      | (with_reducible refine LeO.bind ?_ (fun _ => ?_))
      | exact ih0 _ _ _ _ _ _ _
      | exact ih1 _ _ _ _ _ _ _ _ _ _ _
      | exact varint_Back.mono _ _
      | exact varint_Cut.mono _ _ _
      | exact LeO.none _
      | refine LeO.ite ?_ ?_
      | refine LeO.bind ?_ (fun _ => ?_)
theorem batch_body.mono : ∀ a0 a1 k, LeO (batch_body.f k a0 a1) (batch_body.f (k + 1) a0 a1) := by
  intro a0 a1 k
  obtain ⟨ih0, ih1⟩ := batch_body.mono_l k
  unfold batch_body.f
  repeat' first
      | (with_reducible exact ih0 _ _ _ _ _ _ _)
      | (with_reducible exact ih1 _ _ _ _ _ _ _ _ _ _ _)
      | (with_reducible exact varint_Back.mono _ _)
      | (with_reducible exact varint_Cut.mono _ _ _)
      | (with_reducible exact LeO.refl _)
      | (with_reducible exact LeO.none _)
      | (with_reducible refine LeO.ite ?_ ?_)
      | (with_reducible refine LeO.bind ?_ (fun _ => ?_))
      | exact ih0 _ _ _ _ _ _ _
      | exact ih1 _ _ _ _ _ _ _ _ _ _ _
      | exact varint_Back.mono _ _
      | exact varint_Cut.mono _ _ _
      | exact LeO.none _
      | refine LeO.ite ?_ ?_
      | refine LeO.bind ?_ (fun _ => ?_)
def batch_body.T1 : Bool × List (List Nat × List Nat) := (true, [([], []), ([], []), ([1], [1]), ([2], [2]), ([3], [3]), ([4], [4]), ([], []), ([6], [6]), ([7], [7]), ([8], [8]), ([9], [9]), ([], []), ([11], [11]), ([12], [12]), ([13], [13]), ([14], [14]), ([], []), ([16], [16]), ([17], [17]), ([18], [18]), ([15, 19], [15, 19]), ([0, 5, 10, 20], [0, 5, 10, 20]), ([], []), ([22, 21, 0, 1, 2, 3, 4, 5, 6, 7, 8, 9, 10, 11, 12, 13, 14, 15, 16, 17, 18, 19, 20, 21, 22], [21, 22])])
def batch_body.B1 : List Nat := [0, 0, 2, 6, 14, 30, 0, 64, 192, 448, 960, 0, 2048, 6144, 14336, 30720, 0, 65536, 196608, 458752, 1046528, 2097151, 0, 8388607]
theorem batch_body.tab1 : rtab .any (opsOf Try.f97 1) = batch_body.T1 := by kernel_rfl
theorem batch_body.bits1 : waitsOk batch_body.T1.2 batch_body.B1 = true := by kernel_rfl
set_option maxHeartbeats 8000000 in
set_option maxRecDepth 100000 in
theorem batch_body.calls (k : Nat) (a0 : Int) (A1 : Option Addr) (c1 : Nat) (l1 : List Int) (r1 : Int) (r2 : Int) (r3 : Int) (r4 : Int) (r5 : Bool) (r6 : Int) (r7 : List (S71)) (w : World) (hr1 : Kd.C (Kd.int .u8) w A1 l1.length l1) (hc1 : l1.length ≤ c1) (h : batch_body.f k a0 l1 = some (r1, r2, r3, r4, r5, r6, r7)) :
    Calls Try.prog 97 #[.int .i64 a0, .slice A1 l1.length c1] w fun e w' => ∃ v6_ : Value, e = .returned (.agg #[.int .i64 r1, .int .i64 r2, .int .i64 r3, .int .i64 r4, .bool r5, .int .i64 r6, v6_]) ∧ Kd.R k71 71 w' w.heap.size (fun _ => True) v6_ r7 ∧ Below w.heap.size w w' := by
  have hu56 := Try.underlying56
  have hu71 := Try.underlying71
  have HR1 := Aside0.mk hr1
  have HC1 := Aside0.mk hc1
  clear hr1 hc1
  have HB := Aside0.mk (Below.refl w.heap.size w)
  have H : (if 0 < (l1.length : Int) then (if 9 < (l1.length : Int) then (if 10 < (l1.length : Int) then (if 1 ≤ (l1.length : Int) then ((varint_Back.f k (l1.drop 1)).bind fun bt291 => (if 11 ≤ (l1.length : Int) then ((varint_Back.f k (l1.drop 11)).bind fun bt294 => (if (Go.bits .or .i64 (wrap64 ((wrap64 (rd l1 9)) * 256)) (wrap64 (rd l1 10))) = 65535 then (batch_body.j0 k l1 a0 bt291.1 (-1) bt294.1 ((Go.bits .and .u8 (rd l1 0) 1) == 1) (wrap64 ((rd l1 0) / 2))) else (batch_body.j0 k l1 a0 bt291.1 (Go.bits .or .i64 (wrap64 ((wrap64 (rd l1 9)) * 256)) (wrap64 (rd l1 10))) bt294.1 ((Go.bits .and .u8 (rd l1 0) 1) == 1) (wrap64 ((rd l1 0) / 2))))) else (none))) else (none)) else (none)) else (none)) else (none)) = some (r1, r2, r3, r4, r5, r6, r7) := h
  clear h
  by_cases c3 : 0 < (l1.length : Int)
  · rw [if_pos c3] at H
    have c3b0 : decide (0 < (l1.length : Int)) = true := decide_eq_true c3
    have c3b1 : decide (0 < l1.length) = true := decide_eq_true (by omega)
    clear c3
    by_cases c4 : 9 < (l1.length : Int)
    · rw [if_pos c4] at H
      have c4b0 : decide (9 < (l1.length : Int)) = true := decide_eq_true c4
      have c4b1 : decide (9 < l1.length) = true := decide_eq_true (by omega)
      clear c4
      by_cases c5 : 10 < (l1.length : Int)
      · rw [if_pos c5] at H
        have c5b0 : decide (10 < (l1.length : Int)) = true := decide_eq_true c5
        have c5b1 : decide (10 < l1.length) = true := decide_eq_true (by omega)
        clear c5
        by_cases c6 : 1 ≤ (l1.length : Int)
        · rw [if_pos c6] at H
          have c6b0 := eq_true c6
          have c6b1 : decide (1 ≤ (l1.length : Int)) = true := decide_eq_true c6
          clear c6
          replace H := Option.bind_eq_some_iff.mp H
          obtain ⟨⟨t291, t292⟩, A70, H⟩ := H
          replace H : (if 11 ≤ (l1.length : Int) then ((varint_Back.f k (l1.drop 11)).bind fun bt294 => (if (Go.bits .or .i64 (wrap64 ((wrap64 (rd l1 9)) * 256)) (wrap64 (rd l1 10))) = 65535 then (batch_body.j0 k l1 a0 t291 (-1) bt294.1 ((Go.bits .and .u8 (rd l1 0) 1) == 1) (wrap64 ((rd l1 0) / 2))) else (batch_body.j0 k l1 a0 t291 (Go.bits .or .i64 (wrap64 ((wrap64 (rd l1 9)) * 256)) (wrap64 (rd l1 10))) bt294.1 ((Go.bits .and .u8 (rd l1 0) 1) == 1) (wrap64 ((rd l1 0) / 2))))) else (none)) = some (r1, r2, r3, r4, r5, r6, r7) := H
          have A7 := Aside0.mk A70
          clear A70
          by_cases c8 : 11 ≤ (l1.length : Int)
          · rw [if_pos c8] at H
            have c8b0 := eq_true c8
            have c8b1 : decide (11 ≤ (l1.length : Int)) = true := decide_eq_true c8
            clear c8
            replace H := Option.bind_eq_some_iff.mp H
            obtain ⟨⟨t294, t295⟩, A90, H⟩ := H
            replace H : (if (Go.bits .or .i64 (wrap64 ((wrap64 (rd l1 9)) * 256)) (wrap64 (rd l1 10))) = 65535 then (batch_body.j0 k l1 a0 t291 (-1) t294 ((Go.bits .and .u8 (rd l1 0) 1) == 1) (wrap64 ((rd l1 0) / 2))) else (batch_body.j0 k l1 a0 t291 (Go.bits .or .i64 (wrap64 ((wrap64 (rd l1 9)) * 256)) (wrap64 (rd l1 10))) t294 ((Go.bits .and .u8 (rd l1 0) 1) == 1) (wrap64 ((rd l1 0) / 2)))) = some (r1, r2, r3, r4, r5, r6, r7) := H
            have A9 := Aside0.mk A90
            clear A90
            have HC10 := Aside0.mk H
            clear H
            go_enter Try.func97, Try.ntmps97
            try go_wp2_with (first | ((with_reducible refine gate_dst (N := 4) rfl ?_); refine box_event ?hg (N := 4) ?hd (cs := #[.int .i64 0, .int .i64 0, .int .i64 0, .int .i64 0, .bool false, .int .i64 0, .slice none 0 0]) (t := 56) ?hr ?_; (case hd => rfl); (case hg => rfl); (case hr => first | (go_simp; done) | (go_simp; rfl)); intro gb284 hg w11 hbox hb; have n0_ := Aside0.mk (below_step (bel_ HB) hb); have n1_ := Aside0.mk (hbox); have n2_ := Aside0.mk ((by rw [hg]; exact (below_size (bel_ HB)) : w.heap.size ≤ gb284)); have n3_ := Aside0.mk ((by rw [hg]; exact (below_size (bel_ HB)) : w.heap.size ≤ gb284)); clear HB; have HB := n0_; have BK284 := n1_; have GW284 := n2_; have GE284 := n3_; clear n0_ n1_ n2_ n3_; clear hb hbox hg))
            have n0_ := Aside0.mk (blk_drew BK284.out)
            have n1_ := Aside0.mk (below_drew1 HB.out)
            clear BK284
            clear HB
            have BK284 := n0_
            have HB := n1_
            clear n0_ n1_
            have p285 : 0 ≤ (0 : Int) := (by omega)
            have q285 : 0 < (l1.length : Int) := of_decide_eq_true (by first | (with_reducible assumption) | assumption)
            obtain ⟨ad285, e285, hx285_0⟩ := Kd.at_int HR1.out 0 p285 q285
            have hw285_0 := hx285_0
            (try rw [show ((0 : Int)).toNat = 0 from rfl] at hw285_0)
            (try rw [show 0 * 1 = 0 from rfl] at hw285_0)
            (try rw [Addr.add_zero'] at hw285_0)
            cases e285
            have qi285 : (0 < l1.length) = True := eq_true (by omega)
            (try rw [show ((0 : Int)).toNat = 0 from rfl] at hx285_0)
            (try rw [Addr.add_zero'] at hx285_0)
            replace hx285_0 := (HB.out.cell (World.block_lt_of_cell? w _ hx285_0)).trans hx285_0
            replace p285 := eq_true p285
            replace q285 := eq_true q285
            have p286 : 0 ≤ (0 : Int) := (by omega)
            have q286 : 0 < (l1.length : Int) := of_decide_eq_true (by first | (with_reducible assumption) | assumption)
            obtain ⟨ad286, e286, hx286_0⟩ := Kd.at_int HR1.out 0 p286 q286
            have hw286_0 := hx286_0
            (try rw [show ((0 : Int)).toNat = 0 from rfl] at hw286_0)
            (try rw [show 0 * 1 = 0 from rfl] at hw286_0)
            (try rw [Addr.add_zero'] at hw286_0)
            obtain rfl : ad285 = ad286 := (by injection e286)
            have qi286 : (0 < l1.length) = True := eq_true (by omega)
            (try rw [show ((0 : Int)).toNat = 0 from rfl] at hx286_0)
            (try rw [Addr.add_zero'] at hx286_0)
            replace hx286_0 := (HB.out.cell (World.block_lt_of_cell? w _ hx286_0)).trans hx286_0
            replace p286 := eq_true p286
            replace q286 := eq_true q286
            have p287 : 0 ≤ (9 : Int) := (by omega)
            have q287 : 9 < (l1.length : Int) := of_decide_eq_true (by first | (with_reducible assumption) | assumption)
            obtain ⟨ad287, e287, hx287_0⟩ := Kd.at_int HR1.out 9 p287 q287
            have hw287_0 := hx287_0
            (try rw [show ((9 : Int)).toNat = 9 from rfl] at hw287_0)
            (try rw [show 9 * 1 = 9 from rfl] at hw287_0)
            (try simp only [Nat.reduceMul, Nat.reduceEqDiff, Go.Addr.add, ↓reduceIte] at hw287_0)
            obtain rfl : ad285 = ad287 := (by injection e287)
            (try simp only [show (9 : Int).toNat = 9 from rfl, Nat.reduceMul, Nat.reduceEqDiff, Go.Addr.add, ↓reduceIte] at hx287_0)
            have qi287 : (9 < l1.length) = True := eq_true (by omega)
            (try rw [show ((9 : Int)).toNat = 9 from rfl] at hx287_0)
            replace hx287_0 := (HB.out.cell (World.block_lt_of_cell? w _ hx287_0)).trans hx287_0
            replace p287 := eq_true p287
            replace q287 := eq_true q287
            have p288 : 0 ≤ (10 : Int) := (by omega)
            have q288 : 10 < (l1.length : Int) := of_decide_eq_true (by first | (with_reducible assumption) | assumption)
            obtain ⟨ad288, e288, hx288_0⟩ := Kd.at_int HR1.out 10 p288 q288
            have hw288_0 := hx288_0
            (try rw [show ((10 : Int)).toNat = 10 from rfl] at hw288_0)
            (try rw [show 10 * 1 = 10 from rfl] at hw288_0)
            (try simp only [Nat.reduceMul, Nat.reduceEqDiff, Go.Addr.add, ↓reduceIte] at hw288_0)
            obtain rfl : ad285 = ad288 := (by injection e288)
            (try simp only [show (10 : Int).toNat = 10 from rfl, Nat.reduceMul, Nat.reduceEqDiff, Go.Addr.add, ↓reduceIte] at hx288_0)
            have qi288 : (10 < l1.length) = True := eq_true (by omega)
            (try rw [show ((10 : Int)).toNat = 10 from rfl] at hx288_0)
            replace hx288_0 := (HB.out.cell (World.block_lt_of_cell? w _ hx288_0)).trans hx288_0
            replace p288 := eq_true p288
            replace q288 := eq_true q288
            refine start_ (n := 24) (S := fun w' => w'.cell? ad285 = some (.int .u8 (rd l1 0)) ∧ w'.cell? ad285 = some (.int .u8 (rd l1 0)) ∧ w'.cell? ⟨ad285.block, ad285.off + 9, none⟩ = some (.int .u8 (rd l1 9)) ∧ w'.cell? ⟨ad285.block, ad285.off + 10, none⟩ = some (.int .u8 (rd l1 10))) (ds := []) #[false, false, false, false, false, false, false, false, false, false, false, false, false, false, false, false, false, false, false, false, false, false, false, false] (by kernel_rfl) rfl rfl ⟨((HB.out.cell (World.block_lt_of_cell? w _ hw285_0)).trans hw285_0), ((HB.out.cell (World.block_lt_of_cell? w _ hw286_0)).trans hw286_0), ((HB.out.cell (World.block_lt_of_cell? w _ hw287_0)).trans hw287_0), ((HB.out.cell (World.block_lt_of_cell? w _ hw288_0)).trans hw288_0)⟩ (fun hHeld => ?_); refine with_tabW batch_body.tab1 batch_body.bits1 (fun HT_ HW_ => ?_)
            generalize w11.drew = w12 at BK284 HB hx285_0 hx286_0 hx287_0 hx288_0 hHeld ⊢
            refine pure_ (i := 0) (N := some 11) (v := ?_) (a' := ?_) #[true, false, false, false, false, false, false, false, false, false, false, false, false, false, false, false, false, false, false, false, false, false, false, false] rfl rfl (any_of HT_.out (by kernel_rfl)) (fun _ _ _ h => h) (Or.inl ⟨by rfl, ?_⟩) ?_ ?_
            rotate_left
            · intro w'
              go_simp
              with_reducible rfl
            rotate_left
            · simp only [Act.put, List.setIfInBounds_toArray, List.set_cons_zero, List.set_cons_succ, i64_w, i32_w]
              rfl
            refine pure_ (i := 1) (N := some 12) (v := ?_) (a' := ?_) #[true, true, false, false, false, false, false, false, false, false, false, false, false, false, false, false, false, false, false, false, false, false, false, false] rfl rfl (any_of HT_.out (by kernel_rfl)) (fun _ _ _ h => h) (Or.inl ⟨by rfl, ?_⟩) ?_ ?_
            rotate_left
            · intro w'
              go_simp
              with_reducible rfl
            rotate_left
            · simp only [Act.put, List.setIfInBounds_toArray, List.set_cons_zero, List.set_cons_succ, i64_w, i32_w]
              rfl
            refine pure_ (i := 2) (N := some 13) (v := ?_) (a' := ?_) #[true, true, true, false, false, false, false, false, false, false, false, false, false, false, false, false, false, false, false, false, false, false, false, false] rfl rfl (any_of HT_.out (by kernel_rfl)) (fun _ _ _ h => h) (Or.inl ⟨by rfl, ?_⟩) ?_ ?_
            rotate_left
            · intro w'
              go_simp
              with_reducible rfl
            rotate_left
            · simp only [Act.put, List.setIfInBounds_toArray, List.set_cons_zero, List.set_cons_succ, i64_w, i32_w]
              rfl
            refine pure_ (i := 6) (N := some 17) (v := ?_) (a' := ?_) #[true, true, true, false, false, false, true, false, false, false, false, false, false, false, false, false, false, false, false, false, false, false, false, false] rfl rfl (any_of HT_.out (by kernel_rfl)) (fun _ _ _ h => h) (Or.inl ⟨by rfl, ?_⟩) ?_ ?_
            rotate_left
            · intro w'
              go_simp
              with_reducible rfl
            rotate_left
            · simp only [Act.put, List.setIfInBounds_toArray, List.set_cons_zero, List.set_cons_succ, i64_w, i32_w]
              rfl
            refine pure_ (i := 7) (N := some 18) (v := ?_) (a' := ?_) #[true, true, true, false, false, false, true, true, false, false, false, false, false, false, false, false, false, false, false, false, false, false, false, false] rfl rfl (any_of HT_.out (by kernel_rfl)) (fun _ _ _ h => h) (Or.inl ⟨by rfl, ?_⟩) ?_ ?_
            rotate_left
            · intro w'
              go_simp
              with_reducible rfl
            rotate_left
            · simp only [Act.put, List.setIfInBounds_toArray, List.set_cons_zero, List.set_cons_succ, i64_w, i32_w]
              rfl
            refine pure_ (i := 11) (N := some 22) (v := ?_) (a' := ?_) #[true, true, true, false, false, false, true, true, false, false, false, true, false, false, false, false, false, false, false, false, false, false, false, false] rfl rfl (any_of HT_.out (by kernel_rfl)) (fun _ _ _ h => h) (Or.inl ⟨by rfl, ?_⟩) ?_ ?_
            rotate_left
            · intro w'
              go_simp
              with_reducible rfl
            rotate_left
            · simp only [Act.put, List.setIfInBounds_toArray, List.set_cons_zero, List.set_cons_succ, i64_w, i32_w]
              rfl
            refine pure_ (i := 12) (N := some 23) (v := ?_) (a' := ?_) #[true, true, true, false, false, false, true, true, false, false, false, true, true, false, false, false, false, false, false, false, false, false, false, false] rfl rfl (any_of HT_.out (by kernel_rfl)) (fun _ _ _ h => h) (Or.inl ⟨by rfl, ?_⟩) ?_ ?_
            rotate_left
            · intro w'
              go_simp
              with_reducible rfl
            rotate_left
            · simp only [Act.put, List.setIfInBounds_toArray, List.set_cons_zero, List.set_cons_succ, i64_w, i32_w]
              rfl
            refine pure_ (i := 16) (N := some 27) (v := ?_) (a' := ?_) #[true, true, true, false, false, false, true, true, false, false, false, true, true, false, false, false, true, false, false, false, false, false, false, false] rfl rfl (any_of HT_.out (by kernel_rfl)) (fun _ _ _ h => h) (Or.inl ⟨by rfl, ?_⟩) ?_ ?_
            rotate_left
            · intro w'
              go_simp
              with_reducible rfl
            rotate_left
            · simp only [Act.put, List.setIfInBounds_toArray, List.set_cons_zero, List.set_cons_succ, i64_w, i32_w]
              rfl
            refine pure_ (i := 17) (N := some 28) (v := ?_) (a' := ?_) #[true, true, true, false, false, false, true, true, false, false, false, true, true, false, false, false, true, true, false, false, false, false, false, false] rfl rfl (any_of HT_.out (by kernel_rfl)) (fun _ _ _ h => h) (Or.inl ⟨by rfl, ?_⟩) ?_ ?_
            rotate_left
            · intro w'
              go_simp
              with_reducible rfl
            rotate_left
            · simp only [Act.put, List.setIfInBounds_toArray, List.set_cons_zero, List.set_cons_succ, i64_w, i32_w]
              rfl
            refine take_ (i := 3) (N := some 14) (v := ?_) (a' := ?_) #[true, true, true, true, false, false, true, true, false, false, false, true, true, false, false, false, true, true, false, false, false, false, false, false] rfl rfl (take_ofW HT_.out HW_.out (by kernel_rfl)) (fun _ _ _ h => h) (Or.inl ⟨by rfl, ?_⟩) hHeld ?_ ?_
            rotate_left
            · rintro w' ⟨s0, s1, s2, s3⟩
              go_simp
              with_reducible rfl
            rotate_left
            · simp only [Act.put, List.setIfInBounds_toArray, List.set_cons_zero, List.set_cons_succ, i64_w, i32_w]
              rfl
            refine pure_ (i := 4) (N := some 15) (v := ?_) (a' := ?_) #[true, true, true, true, true, false, true, true, false, false, false, true, true, false, false, false, true, true, false, false, false, false, false, false] rfl rfl (any_of HT_.out (by kernel_rfl)) (fun _ _ _ h => h) (Or.inl ⟨by rfl, ?_⟩) ?_ ?_
            rotate_left
            · intro w'
              go_simp
              with_reducible rfl
            rotate_left
            · simp only [Act.put, List.setIfInBounds_toArray, List.set_cons_zero, List.set_cons_succ, i64_w, i32_w]
              rfl
            refine pure_ (i := 5) (N := some 16) (v := ?_) (a' := ?_) #[true, true, true, true, true, true, true, true, false, false, false, true, true, false, false, false, true, true, false, false, false, false, false, false] rfl rfl (any_of HT_.out (by kernel_rfl)) (fun _ _ _ h => h) (Or.inl ⟨by rfl, ?_⟩) ?_ ?_
            rotate_left
            · intro w'
              go_simp
              with_reducible rfl
            rotate_left
            · simp only [Act.put, List.setIfInBounds_toArray, List.set_cons_zero, List.set_cons_succ, i64_w, i32_w]
              rfl
            refine take_ (i := 8) (N := some 19) (v := ?_) (a' := ?_) #[true, true, true, true, true, true, true, true, true, false, false, true, true, false, false, false, true, true, false, false, false, false, false, false] rfl rfl (take_ofW HT_.out HW_.out (by kernel_rfl)) (fun _ _ _ h => h) (Or.inl ⟨by rfl, ?_⟩) hHeld ?_ ?_
            rotate_left
            · rintro w' ⟨s0, s1, s2, s3⟩
              go_simp
              with_reducible rfl
            rotate_left
            · simp only [Act.put, List.setIfInBounds_toArray, List.set_cons_zero, List.set_cons_succ, i64_w, i32_w]
              rfl
            refine pure_ (i := 9) (N := some 20) (v := ?_) (a' := ?_) #[true, true, true, true, true, true, true, true, true, true, false, true, true, false, false, false, true, true, false, false, false, false, false, false] rfl rfl (any_of HT_.out (by kernel_rfl)) (fun _ _ _ h => h) (Or.inl ⟨by rfl, ?_⟩) ?_ ?_
            rotate_left
            · intro w'
              go_simp
              with_reducible rfl
            rotate_left
            · simp only [Act.put, List.setIfInBounds_toArray, List.set_cons_zero, List.set_cons_succ, i64_w, i32_w]
              rfl
            refine pure_ (i := 10) (N := some 21) (v := ?_) (a' := ?_) #[true, true, true, true, true, true, true, true, true, true, true, true, true, false, false, false, true, true, false, false, false, false, false, false] rfl rfl (any_of HT_.out (by kernel_rfl)) (fun _ _ _ h => h) (Or.inl ⟨by rfl, ?_⟩) ?_ ?_
            rotate_left
            · intro w'
              go_simp
              with_reducible rfl
            rotate_left
            · simp only [Act.put, List.setIfInBounds_toArray, List.set_cons_zero, List.set_cons_succ, i64_w, i32_w]
              rfl
            refine take_ (i := 13) (N := some 24) (v := ?_) (a' := ?_) #[true, true, true, true, true, true, true, true, true, true, true, true, true, true, false, false, true, true, false, false, false, false, false, false] rfl rfl (take_ofW HT_.out HW_.out (by kernel_rfl)) (fun _ _ _ h => h) (Or.inl ⟨by rfl, ?_⟩) hHeld ?_ ?_
            rotate_left
            · rintro w' ⟨s0, s1, s2, s3⟩
              go_simp
              with_reducible rfl
            rotate_left
            · simp only [Act.put, List.setIfInBounds_toArray, List.set_cons_zero, List.set_cons_succ, i64_w, i32_w]
              rfl
            refine pure_ (i := 14) (N := some 25) (v := ?_) (a' := ?_) #[true, true, true, true, true, true, true, true, true, true, true, true, true, true, true, false, true, true, false, false, false, false, false, false] rfl rfl (any_of HT_.out (by kernel_rfl)) (fun _ _ _ h => h) (Or.inl ⟨by rfl, ?_⟩) ?_ ?_
            rotate_left
            · intro w'
              go_simp
              with_reducible rfl
            rotate_left
            · simp only [Act.put, List.setIfInBounds_toArray, List.set_cons_zero, List.set_cons_succ, i64_w, i32_w]
              rfl
            refine pure_ (i := 15) (N := some 26) (v := ?_) (a' := ?_) #[true, true, true, true, true, true, true, true, true, true, true, true, true, true, true, true, true, true, false, false, false, false, false, false] rfl rfl (any_of HT_.out (by kernel_rfl)) (fun _ _ _ h => h) (Or.inl ⟨by rfl, ?_⟩) ?_ ?_
            rotate_left
            · intro w'
              go_simp
              with_reducible rfl
            rotate_left
            · simp only [Act.put, List.setIfInBounds_toArray, List.set_cons_zero, List.set_cons_succ, i64_w, i32_w]
              rfl
            refine take_ (i := 18) (N := some 29) (v := ?_) (a' := ?_) #[true, true, true, true, true, true, true, true, true, true, true, true, true, true, true, true, true, true, true, false, false, false, false, false] rfl rfl (take_ofW HT_.out HW_.out (by kernel_rfl)) (fun _ _ _ h => h) (Or.inl ⟨by rfl, ?_⟩) hHeld ?_ ?_
            rotate_left
            · rintro w' ⟨s0, s1, s2, s3⟩
              go_simp
              with_reducible rfl
            rotate_left
            · simp only [Act.put, List.setIfInBounds_toArray, List.set_cons_zero, List.set_cons_succ, i64_w, i32_w]
              rfl
            refine pure_ (i := 19) (N := some 30) (v := ?_) (a' := ?_) #[true, true, true, true, true, true, true, true, true, true, true, true, true, true, true, true, true, true, true, true, false, false, false, false] rfl rfl (any_of HT_.out (by kernel_rfl)) (fun _ _ _ h => h) (Or.inl ⟨by rfl, ?_⟩) ?_ ?_
            rotate_left
            · intro w'
              go_simp
              with_reducible rfl
            rotate_left
            · simp only [Act.put, List.setIfInBounds_toArray, List.set_cons_zero, List.set_cons_succ, i64_w, i32_w]
              rfl
            refine pure_ (i := 20) (N := some 31) (v := ?_) (a' := ?_) #[true, true, true, true, true, true, true, true, true, true, true, true, true, true, true, true, true, true, true, true, true, false, false, false] rfl rfl (any_of HT_.out (by kernel_rfl)) (fun _ _ _ h => h) (Or.inl ⟨by rfl, ?_⟩) ?_ ?_
            rotate_left
            · intro w'
              go_simp
              with_reducible rfl
            rotate_left
            · simp only [Act.put, List.setIfInBounds_toArray, List.set_cons_zero, List.set_cons_succ, i64_w, i32_w]
              rfl
            refine pure_ (i := 21) (N := some 32) (v := ?_) (a' := ?_) #[true, true, true, true, true, true, true, true, true, true, true, true, true, true, true, true, true, true, true, true, true, true, false, false] rfl rfl (any_of HT_.out (by kernel_rfl)) (fun _ _ _ h => h) (Or.inl ⟨by rfl, ?_⟩) ?_ ?_
            rotate_left
            · intro w'
              go_simp
              with_reducible rfl
            rotate_left
            · simp only [Act.put, List.setIfInBounds_toArray, List.set_cons_zero, List.set_cons_succ, i64_w, i32_w]
              rfl
            refine one_ (i := 22) (N := some 5) #[true, true, true, true, true, true, true, true, true, true, true, true, true, true, true, true, true, true, true, true, true, true, true, false] rfl rfl (one_of HT_.out (by kernel_rfl)) (by decide) (fun K hK => ?_)
            refine box_step ?hg (N := 5) ?hd (cs := #[.int .i64 0, .int .i64 0, .int .i64 0, .int .i64 0, .bool false, .int .i64 0, .slice none 0 0]) (t := 56) ?hr ?_; (case hd => rfl); (case hg => rfl); (case hr => first | (go_simp; done) | (go_simp; rfl))
            intro gb289 hg w13 hbox hb
            have n0_ := Aside0.mk (blk_below (g := gb284) (o := .cells #[.int .i64 0, .int .i64 0, .int .i64 0, .int .i64 0, .bool false, .int .i64 0, .slice none 0 0] 56 (0, 0)) (blk_ BK284) hb)
            have n1_ := Aside0.mk (below_step (bel_ HB) hb)
            have n2_ := Aside0.mk (hbox)
            have n3_ := Aside0.mk ((by rw [hg]; exact (below_size (bel_ HB)) : w.heap.size ≤ gb289))
            have n4_ := Aside0.mk ((by rw [hg]; exact (below_size (bel_ HB)) : w.heap.size ≤ gb289))
            have n5_ := Aside0.mk ((by rw [hg]; exact Nat.ne_of_lt (blk_lt (g := gb284) (o := .cells #[.int .i64 0, .int .i64 0, .int .i64 0, .int .i64 0, .bool false, .int .i64 0, .slice none 0 0] 56 (0, 0)) (blk_ BK284)) : gb284 ≠ gb289))
            have n6_ := Aside0.mk ((by rw [hg]; exact Nat.ne_of_gt (blk_lt (g := gb284) (o := .cells #[.int .i64 0, .int .i64 0, .int .i64 0, .int .i64 0, .bool false, .int .i64 0, .slice none 0 0] 56 (0, 0)) (blk_ BK284)) : gb289 ≠ gb284))
            clear BK284
            clear HB
            have BK284 := n0_
            have HB := n1_
            have BK289 := n2_
            have GW289 := n3_
            have GE289 := n4_
            have NB284_289 := n5_
            have NB289_284 := n6_
            clear n0_ n1_ n2_ n3_ n4_ n5_ n6_
            clear hb hbox hg
            refine hK.out _ _ ⟨((HB.out.cell (World.block_lt_of_cell? w _ hw285_0)).trans hw285_0), ((HB.out.cell (World.block_lt_of_cell? w _ hw286_0)).trans hw286_0), ((HB.out.cell (World.block_lt_of_cell? w _ hw287_0)).trans hw287_0), ((HB.out.cell (World.block_lt_of_cell? w _ hw288_0)).trans hw288_0)⟩ (fun hHeld => ?_)
            clear hK K
            refine norm_ (a' := ?_) ?_ ?_
            rotate_left
            · show Act.put _ (some 5) _ = _
              simp only [Act.put, List.setIfInBounds_toArray, List.set_cons_zero, List.set_cons_succ, i64_w, i32_w]
              rfl
            refine one_ (i := 23) (N := none) #[true, true, true, true, true, true, true, true, true, true, true, true, true, true, true, true, true, true, true, true, true, true, true, true] rfl rfl (one_of HT_.out (by kernel_rfl)) (by decide) (fun K hK => ?_)
            have hs14 : w13.cell? ⟨gb289, 0, none⟩ = some (.int .i64 0) := (blk_cell BK289.out 0).trans rfl
            have hfs14 := blk_frozen BK289.out 0
            have hns14_0 := NB284_289.out
            have hms14_0 := NB289_284.out
            have hs15 : w13.cell? ⟨gb289, 1, none⟩ = some (.int .i64 0) := (blk_cell BK289.out 1).trans rfl
            have hfs15 := blk_frozen BK289.out 1
            have hns15_0 := NB284_289.out
            have hms15_0 := NB289_284.out
            have hs16 : w13.cell? ⟨gb289, 2, none⟩ = some (.int .i64 0) := (blk_cell BK289.out 2).trans rfl
            have hfs16 := blk_frozen BK289.out 2
            have hns16_0 := NB284_289.out
            have hms16_0 := NB289_284.out
            have hs17 : w13.cell? ⟨gb289, 3, none⟩ = some (.int .i64 0) := (blk_cell BK289.out 3).trans rfl
            have hfs17 := blk_frozen BK289.out 3
            have hns17_0 := NB284_289.out
            have hms17_0 := NB289_284.out
            have hs18 : w13.cell? ⟨gb289, 4, none⟩ = some (.bool false) := (blk_cell BK289.out 4).trans rfl
            have hfs18 := blk_frozen BK289.out 4
            have hns18_0 := NB284_289.out
            have hms18_0 := NB289_284.out
            have hs19 : w13.cell? ⟨gb289, 5, none⟩ = some (.int .i64 0) := (blk_cell BK289.out 5).trans rfl
            have hfs19 := blk_frozen BK289.out 5
            have hns19_0 := NB284_289.out
            have hms19_0 := NB289_284.out
            have hs20 : w13.cell? ⟨gb289, 6, none⟩ = some (.slice none 0 0) := (blk_cell BK289.out 6).trans rfl
            have hfs20 := blk_frozen BK289.out 6
            have hns20_0 := NB284_289.out
            have hms20_0 := NB289_284.out
            refine skip_ (w1 := ?_) (by rfl) rfl ?_ ?_
            rotate_left
            · go_simp
              rfl
            refine hK.out _ _ ⟨((cell_far (p := ⟨gb289, _, none⟩) (by first | exact Nat.ne_of_lt (Nat.lt_of_lt_of_le (by have := World.block_lt_of_cell? _ _ hw285_0; first | rwa [add_block] at this | exact this) GW289.out) | (rw [add_block]; exact Nat.ne_of_lt (Nat.lt_of_lt_of_le (by have := World.block_lt_of_cell? _ _ hw285_0; first | rwa [add_block] at this | exact this) GW289.out)) | (show (Addr.add _ _).block ≠ _; rw [add_block]; exact Nat.ne_of_lt (Nat.lt_of_lt_of_le (by have := World.block_lt_of_cell? _ _ hw285_0; first | rwa [add_block] at this | exact this) GW289.out)) | (dsimp only; exact Nat.ne_of_lt (Nat.lt_of_lt_of_le (by have := World.block_lt_of_cell? _ _ hw285_0; first | rwa [add_block] at this | exact this) GW289.out))) _).trans (((cell_far (p := ⟨gb289, _, none⟩) (by first | exact Nat.ne_of_lt (Nat.lt_of_lt_of_le (by have := World.block_lt_of_cell? _ _ hw285_0; first | rwa [add_block] at this | exact this) GW289.out) | (rw [add_block]; exact Nat.ne_of_lt (Nat.lt_of_lt_of_le (by have := World.block_lt_of_cell? _ _ hw285_0; first | rwa [add_block] at this | exact this) GW289.out)) | (show (Addr.add _ _).block ≠ _; rw [add_block]; exact Nat.ne_of_lt (Nat.lt_of_lt_of_le (by have := World.block_lt_of_cell? _ _ hw285_0; first | rwa [add_block] at this | exact this) GW289.out)) | (dsimp only; exact Nat.ne_of_lt (Nat.lt_of_lt_of_le (by have := World.block_lt_of_cell? _ _ hw285_0; first | rwa [add_block] at this | exact this) GW289.out))) _).trans (((cell_far (p := ⟨gb289, _, none⟩) (by first | exact Nat.ne_of_lt (Nat.lt_of_lt_of_le (by have := World.block_lt_of_cell? _ _ hw285_0; first | rwa [add_block] at this | exact this) GW289.out) | (rw [add_block]; exact Nat.ne_of_lt (Nat.lt_of_lt_of_le (by have := World.block_lt_of_cell? _ _ hw285_0; first | rwa [add_block] at this | exact this) GW289.out)) | (show (Addr.add _ _).block ≠ _; rw [add_block]; exact Nat.ne_of_lt (Nat.lt_of_lt_of_le (by have := World.block_lt_of_cell? _ _ hw285_0; first | rwa [add_block] at this | exact this) GW289.out)) | (dsimp only; exact Nat.ne_of_lt (Nat.lt_of_lt_of_le (by have := World.block_lt_of_cell? _ _ hw285_0; first | rwa [add_block] at this | exact this) GW289.out))) _).trans (((cell_far (p := ⟨gb289, _, none⟩) (by first | exact Nat.ne_of_lt (Nat.lt_of_lt_of_le (by have := World.block_lt_of_cell? _ _ hw285_0; first | rwa [add_block] at this | exact this) GW289.out) | (rw [add_block]; exact Nat.ne_of_lt (Nat.lt_of_lt_of_le (by have := World.block_lt_of_cell? _ _ hw285_0; first | rwa [add_block] at this | exact this) GW289.out)) | (show (Addr.add _ _).block ≠ _; rw [add_block]; exact Nat.ne_of_lt (Nat.lt_of_lt_of_le (by have := World.block_lt_of_cell? _ _ hw285_0; first | rwa [add_block] at this | exact this) GW289.out)) | (dsimp only; exact Nat.ne_of_lt (Nat.lt_of_lt_of_le (by have := World.block_lt_of_cell? _ _ hw285_0; first | rwa [add_block] at this | exact this) GW289.out))) _).trans (((cell_far (p := ⟨gb289, _, none⟩) (by first | exact Nat.ne_of_lt (Nat.lt_of_lt_of_le (by have := World.block_lt_of_cell? _ _ hw285_0; first | rwa [add_block] at this | exact this) GW289.out) | (rw [add_block]; exact Nat.ne_of_lt (Nat.lt_of_lt_of_le (by have := World.block_lt_of_cell? _ _ hw285_0; first | rwa [add_block] at this | exact this) GW289.out)) | (show (Addr.add _ _).block ≠ _; rw [add_block]; exact Nat.ne_of_lt (Nat.lt_of_lt_of_le (by have := World.block_lt_of_cell? _ _ hw285_0; first | rwa [add_block] at this | exact this) GW289.out)) | (dsimp only; exact Nat.ne_of_lt (Nat.lt_of_lt_of_le (by have := World.block_lt_of_cell? _ _ hw285_0; first | rwa [add_block] at this | exact this) GW289.out))) _).trans (((cell_far (p := ⟨gb289, _, none⟩) (by first | exact Nat.ne_of_lt (Nat.lt_of_lt_of_le (by have := World.block_lt_of_cell? _ _ hw285_0; first | rwa [add_block] at this | exact this) GW289.out) | (rw [add_block]; exact Nat.ne_of_lt (Nat.lt_of_lt_of_le (by have := World.block_lt_of_cell? _ _ hw285_0; first | rwa [add_block] at this | exact this) GW289.out)) | (show (Addr.add _ _).block ≠ _; rw [add_block]; exact Nat.ne_of_lt (Nat.lt_of_lt_of_le (by have := World.block_lt_of_cell? _ _ hw285_0; first | rwa [add_block] at this | exact this) GW289.out)) | (dsimp only; exact Nat.ne_of_lt (Nat.lt_of_lt_of_le (by have := World.block_lt_of_cell? _ _ hw285_0; first | rwa [add_block] at this | exact this) GW289.out))) _).trans (((cell_far (p := ⟨gb289, _, none⟩) (by first | exact Nat.ne_of_lt (Nat.lt_of_lt_of_le (by have := World.block_lt_of_cell? _ _ hw285_0; first | rwa [add_block] at this | exact this) GW289.out) | (rw [add_block]; exact Nat.ne_of_lt (Nat.lt_of_lt_of_le (by have := World.block_lt_of_cell? _ _ hw285_0; first | rwa [add_block] at this | exact this) GW289.out)) | (show (Addr.add _ _).block ≠ _; rw [add_block]; exact Nat.ne_of_lt (Nat.lt_of_lt_of_le (by have := World.block_lt_of_cell? _ _ hw285_0; first | rwa [add_block] at this | exact this) GW289.out)) | (dsimp only; exact Nat.ne_of_lt (Nat.lt_of_lt_of_le (by have := World.block_lt_of_cell? _ _ hw285_0; first | rwa [add_block] at this | exact this) GW289.out))) _).trans (hHeld.1)))))))))))))), ((cell_far (p := ⟨gb289, _, none⟩) (by first | exact Nat.ne_of_lt (Nat.lt_of_lt_of_le (by have := World.block_lt_of_cell? _ _ hw286_0; first | rwa [add_block] at this | exact this) GW289.out) | (rw [add_block]; exact Nat.ne_of_lt (Nat.lt_of_lt_of_le (by have := World.block_lt_of_cell? _ _ hw286_0; first | rwa [add_block] at this | exact this) GW289.out)) | (show (Addr.add _ _).block ≠ _; rw [add_block]; exact Nat.ne_of_lt (Nat.lt_of_lt_of_le (by have := World.block_lt_of_cell? _ _ hw286_0; first | rwa [add_block] at this | exact this) GW289.out)) | (dsimp only; exact Nat.ne_of_lt (Nat.lt_of_lt_of_le (by have := World.block_lt_of_cell? _ _ hw286_0; first | rwa [add_block] at this | exact this) GW289.out))) _).trans (((cell_far (p := ⟨gb289, _, none⟩) (by first | exact Nat.ne_of_lt (Nat.lt_of_lt_of_le (by have := World.block_lt_of_cell? _ _ hw286_0; first | rwa [add_block] at this | exact this) GW289.out) | (rw [add_block]; exact Nat.ne_of_lt (Nat.lt_of_lt_of_le (by have := World.block_lt_of_cell? _ _ hw286_0; first | rwa [add_block] at this | exact this) GW289.out)) | (show (Addr.add _ _).block ≠ _; rw [add_block]; exact Nat.ne_of_lt (Nat.lt_of_lt_of_le (by have := World.block_lt_of_cell? _ _ hw286_0; first | rwa [add_block] at this | exact this) GW289.out)) | (dsimp only; exact Nat.ne_of_lt (Nat.lt_of_lt_of_le (by have := World.block_lt_of_cell? _ _ hw286_0; first | rwa [add_block] at this | exact this) GW289.out))) _).trans (((cell_far (p := ⟨gb289, _, none⟩) (by first | exact Nat.ne_of_lt (Nat.lt_of_lt_of_le (by have := World.block_lt_of_cell? _ _ hw286_0; first | rwa [add_block] at this | exact this) GW289.out) | (rw [add_block]; exact Nat.ne_of_lt (Nat.lt_of_lt_of_le (by have := World.block_lt_of_cell? _ _ hw286_0; first | rwa [add_block] at this | exact this) GW289.out)) | (show (Addr.add _ _).block ≠ _; rw [add_block]; exact Nat.ne_of_lt (Nat.lt_of_lt_of_le (by have := World.block_lt_of_cell? _ _ hw286_0; first | rwa [add_block] at this | exact this) GW289.out)) | (dsimp only; exact Nat.ne_of_lt (Nat.lt_of_lt_of_le (by have := World.block_lt_of_cell? _ _ hw286_0; first | rwa [add_block] at this | exact this) GW289.out))) _).trans (((cell_far (p := ⟨gb289, _, none⟩) (by first | exact Nat.ne_of_lt (Nat.lt_of_lt_of_le (by have := World.block_lt_of_cell? _ _ hw286_0; first | rwa [add_block] at this | exact this) GW289.out) | (rw [add_block]; exact Nat.ne_of_lt (Nat.lt_of_lt_of_le (by have := World.block_lt_of_cell? _ _ hw286_0; first | rwa [add_block] at this | exact this) GW289.out)) | (show (Addr.add _ _).block ≠ _; rw [add_block]; exact Nat.ne_of_lt (Nat.lt_of_lt_of_le (by have := World.block_lt_of_cell? _ _ hw286_0; first | rwa [add_block] at this | exact this) GW289.out)) | (dsimp only; exact Nat.ne_of_lt (Nat.lt_of_lt_of_le (by have := World.block_lt_of_cell? _ _ hw286_0; first | rwa [add_block] at this | exact this) GW289.out))) _).trans (((cell_far (p := ⟨gb289, _, none⟩) (by first | exact Nat.ne_of_lt (Nat.lt_of_lt_of_le (by have := World.block_lt_of_cell? _ _ hw286_0; first | rwa [add_block] at this | exact this) GW289.out) | (rw [add_block]; exact Nat.ne_of_lt (Nat.lt_of_lt_of_le (by have := World.block_lt_of_cell? _ _ hw286_0; first | rwa [add_block] at this | exact this) GW289.out)) | (show (Addr.add _ _).block ≠ _; rw [add_block]; exact Nat.ne_of_lt (Nat.lt_of_lt_of_le (by have := World.block_lt_of_cell? _ _ hw286_0; first | rwa [add_block] at this | exact this) GW289.out)) | (dsimp only; exact Nat.ne_of_lt (Nat.lt_of_lt_of_le (by have := World.block_lt_of_cell? _ _ hw286_0; first | rwa [add_block] at this | exact this) GW289.out))) _).trans (((cell_far (p := ⟨gb289, _, none⟩) (by first | exact Nat.ne_of_lt (Nat.lt_of_lt_of_le (by have := World.block_lt_of_cell? _ _ hw286_0; first | rwa [add_block] at this | exact this) GW289.out) | (rw [add_block]; exact Nat.ne_of_lt (Nat.lt_of_lt_of_le (by have := World.block_lt_of_cell? _ _ hw286_0; first | rwa [add_block] at this | exact this) GW289.out)) | (show (Addr.add _ _).block ≠ _; rw [add_block]; exact Nat.ne_of_lt (Nat.lt_of_lt_of_le (by have := World.block_lt_of_cell? _ _ hw286_0; first | rwa [add_block] at this | exact this) GW289.out)) | (dsimp only; exact Nat.ne_of_lt (Nat.lt_of_lt_of_le (by have := World.block_lt_of_cell? _ _ hw286_0; first | rwa [add_block] at this | exact this) GW289.out))) _).trans (((cell_far (p := ⟨gb289, _, none⟩) (by first | exact Nat.ne_of_lt (Nat.lt_of_lt_of_le (by have := World.block_lt_of_cell? _ _ hw286_0; first | rwa [add_block] at this | exact this) GW289.out) | (rw [add_block]; exact Nat.ne_of_lt (Nat.lt_of_lt_of_le (by have := World.block_lt_of_cell? _ _ hw286_0; first | rwa [add_block] at this | exact this) GW289.out)) | (show (Addr.add _ _).block ≠ _; rw [add_block]; exact Nat.ne_of_lt (Nat.lt_of_lt_of_le (by have := World.block_lt_of_cell? _ _ hw286_0; first | rwa [add_block] at this | exact this) GW289.out)) | (dsimp only; exact Nat.ne_of_lt (Nat.lt_of_lt_of_le (by have := World.block_lt_of_cell? _ _ hw286_0; first | rwa [add_block] at this | exact this) GW289.out))) _).trans (hHeld.2.1)))))))))))))), ((cell_far (p := ⟨gb289, _, none⟩) (by first | exact Nat.ne_of_lt (Nat.lt_of_lt_of_le (by have := World.block_lt_of_cell? _ _ hw287_0; first | rwa [add_block] at this | exact this) GW289.out) | (rw [add_block]; exact Nat.ne_of_lt (Nat.lt_of_lt_of_le (by have := World.block_lt_of_cell? _ _ hw287_0; first | rwa [add_block] at this | exact this) GW289.out)) | (show (Addr.add _ _).block ≠ _; rw [add_block]; exact Nat.ne_of_lt (Nat.lt_of_lt_of_le (by have := World.block_lt_of_cell? _ _ hw287_0; first | rwa [add_block] at this | exact this) GW289.out)) | (dsimp only; exact Nat.ne_of_lt (Nat.lt_of_lt_of_le (by have := World.block_lt_of_cell? _ _ hw287_0; first | rwa [add_block] at this | exact this) GW289.out))) _).trans (((cell_far (p := ⟨gb289, _, none⟩) (by first | exact Nat.ne_of_lt (Nat.lt_of_lt_of_le (by have := World.block_lt_of_cell? _ _ hw287_0; first | rwa [add_block] at this | exact this) GW289.out) | (rw [add_block]; exact Nat.ne_of_lt (Nat.lt_of_lt_of_le (by have := World.block_lt_of_cell? _ _ hw287_0; first | rwa [add_block] at this | exact this) GW289.out)) | (show (Addr.add _ _).block ≠ _; rw [add_block]; exact Nat.ne_of_lt (Nat.lt_of_lt_of_le (by have := World.block_lt_of_cell? _ _ hw287_0; first | rwa [add_block] at this | exact this) GW289.out)) | (dsimp only; exact Nat.ne_of_lt (Nat.lt_of_lt_of_le (by have := World.block_lt_of_cell? _ _ hw287_0; first | rwa [add_block] at this | exact this) GW289.out))) _).trans (((cell_far (p := ⟨gb289, _, none⟩) (by first | exact Nat.ne_of_lt (Nat.lt_of_lt_of_le (by have := World.block_lt_of_cell? _ _ hw287_0; first | rwa [add_block] at this | exact this) GW289.out) | (rw [add_block]; exact Nat.ne_of_lt (Nat.lt_of_lt_of_le (by have := World.block_lt_of_cell? _ _ hw287_0; first | rwa [add_block] at this | exact this) GW289.out)) | (show (Addr.add _ _).block ≠ _; rw [add_block]; exact Nat.ne_of_lt (Nat.lt_of_lt_of_le (by have := World.block_lt_of_cell? _ _ hw287_0; first | rwa [add_block] at this | exact this) GW289.out)) | (dsimp only; exact Nat.ne_of_lt (Nat.lt_of_lt_of_le (by have := World.block_lt_of_cell? _ _ hw287_0; first | rwa [add_block] at this | exact this) GW289.out))) _).trans (((cell_far (p := ⟨gb289, _, none⟩) (by first | exact Nat.ne_of_lt (Nat.lt_of_lt_of_le (by have := World.block_lt_of_cell? _ _ hw287_0; first | rwa [add_block] at this | exact this) GW289.out) | (rw [add_block]; exact Nat.ne_of_lt (Nat.lt_of_lt_of_le (by have := World.block_lt_of_cell? _ _ hw287_0; first | rwa [add_block] at this | exact this) GW289.out)) | (show (Addr.add _ _).block ≠ _; rw [add_block]; exact Nat.ne_of_lt (Nat.lt_of_lt_of_le (by have := World.block_lt_of_cell? _ _ hw287_0; first | rwa [add_block] at this | exact this) GW289.out)) | (dsimp only; exact Nat.ne_of_lt (Nat.lt_of_lt_of_le (by have := World.block_lt_of_cell? _ _ hw287_0; first | rwa [add_block] at this | exact this) GW289.out))) _).trans (((cell_far (p := ⟨gb289, _, none⟩) (by first | exact Nat.ne_of_lt (Nat.lt_of_lt_of_le (by have := World.block_lt_of_cell? _ _ hw287_0; first | rwa [add_block] at this | exact this) GW289.out) | (rw [add_block]; exact Nat.ne_of_lt (Nat.lt_of_lt_of_le (by have := World.block_lt_of_cell? _ _ hw287_0; first | rwa [add_block] at this | exact this) GW289.out)) | (show (Addr.add _ _).block ≠ _; rw [add_block]; exact Nat.ne_of_lt (Nat.lt_of_lt_of_le (by have := World.block_lt_of_cell? _ _ hw287_0; first | rwa [add_block] at this | exact this) GW289.out)) | (dsimp only; exact Nat.ne_of_lt (Nat.lt_of_lt_of_le (by have := World.block_lt_of_cell? _ _ hw287_0; first | rwa [add_block] at this | exact this) GW289.out))) _).trans (((cell_far (p := ⟨gb289, _, none⟩) (by first | exact Nat.ne_of_lt (Nat.lt_of_lt_of_le (by have := World.block_lt_of_cell? _ _ hw287_0; first | rwa [add_block] at this | exact this) GW289.out) | (rw [add_block]; exact Nat.ne_of_lt (Nat.lt_of_lt_of_le (by have := World.block_lt_of_cell? _ _ hw287_0; first | rwa [add_block] at this | exact this) GW289.out)) | (show (Addr.add _ _).block ≠ _; rw [add_block]; exact Nat.ne_of_lt (Nat.lt_of_lt_of_le (by have := World.block_lt_of_cell? _ _ hw287_0; first | rwa [add_block] at this | exact this) GW289.out)) | (dsimp only; exact Nat.ne_of_lt (Nat.lt_of_lt_of_le (by have := World.block_lt_of_cell? _ _ hw287_0; first | rwa [add_block] at this | exact this) GW289.out))) _).trans (((cell_far (p := ⟨gb289, _, none⟩) (by first | exact Nat.ne_of_lt (Nat.lt_of_lt_of_le (by have := World.block_lt_of_cell? _ _ hw287_0; first | rwa [add_block] at this | exact this) GW289.out) | (rw [add_block]; exact Nat.ne_of_lt (Nat.lt_of_lt_of_le (by have := World.block_lt_of_cell? _ _ hw287_0; first | rwa [add_block] at this | exact this) GW289.out)) | (show (Addr.add _ _).block ≠ _; rw [add_block]; exact Nat.ne_of_lt (Nat.lt_of_lt_of_le (by have := World.block_lt_of_cell? _ _ hw287_0; first | rwa [add_block] at this | exact this) GW289.out)) | (dsimp only; exact Nat.ne_of_lt (Nat.lt_of_lt_of_le (by have := World.block_lt_of_cell? _ _ hw287_0; first | rwa [add_block] at this | exact this) GW289.out))) _).trans (hHeld.2.2.1)))))))))))))), ((cell_far (p := ⟨gb289, _, none⟩) (by first | exact Nat.ne_of_lt (Nat.lt_of_lt_of_le (by have := World.block_lt_of_cell? _ _ hw288_0; first | rwa [add_block] at this | exact this) GW289.out) | (rw [add_block]; exact Nat.ne_of_lt (Nat.lt_of_lt_of_le (by have := World.block_lt_of_cell? _ _ hw288_0; first | rwa [add_block] at this | exact this) GW289.out)) | (show (Addr.add _ _).block ≠ _; rw [add_block]; exact Nat.ne_of_lt (Nat.lt_of_lt_of_le (by have := World.block_lt_of_cell? _ _ hw288_0; first | rwa [add_block] at this | exact this) GW289.out)) | (dsimp only; exact Nat.ne_of_lt (Nat.lt_of_lt_of_le (by have := World.block_lt_of_cell? _ _ hw288_0; first | rwa [add_block] at this | exact this) GW289.out))) _).trans (((cell_far (p := ⟨gb289, _, none⟩) (by first | exact Nat.ne_of_lt (Nat.lt_of_lt_of_le (by have := World.block_lt_of_cell? _ _ hw288_0; first | rwa [add_block] at this | exact this) GW289.out) | (rw [add_block]; exact Nat.ne_of_lt (Nat.lt_of_lt_of_le (by have := World.block_lt_of_cell? _ _ hw288_0; first | rwa [add_block] at this | exact this) GW289.out)) | (show (Addr.add _ _).block ≠ _; rw [add_block]; exact Nat.ne_of_lt (Nat.lt_of_lt_of_le (by have := World.block_lt_of_cell? _ _ hw288_0; first | rwa [add_block] at this | exact this) GW289.out)) | (dsimp only; exact Nat.ne_of_lt (Nat.lt_of_lt_of_le (by have := World.block_lt_of_cell? _ _ hw288_0; first | rwa [add_block] at this | exact this) GW289.out))) _).trans (((cell_far (p := ⟨gb289, _, none⟩) (by first | exact Nat.ne_of_lt (Nat.lt_of_lt_of_le (by have := World.block_lt_of_cell? _ _ hw288_0; first | rwa [add_block] at this | exact this) GW289.out) | (rw [add_block]; exact Nat.ne_of_lt (Nat.lt_of_lt_of_le (by have := World.block_lt_of_cell? _ _ hw288_0; first | rwa [add_block] at this | exact this) GW289.out)) | (show (Addr.add _ _).block ≠ _; rw [add_block]; exact Nat.ne_of_lt (Nat.lt_of_lt_of_le (by have := World.block_lt_of_cell? _ _ hw288_0; first | rwa [add_block] at this | exact this) GW289.out)) | (dsimp only; exact Nat.ne_of_lt (Nat.lt_of_lt_of_le (by have := World.block_lt_of_cell? _ _ hw288_0; first | rwa [add_block] at this | exact this) GW289.out))) _).trans (((cell_far (p := ⟨gb289, _, none⟩) (by first | exact Nat.ne_of_lt (Nat.lt_of_lt_of_le (by have := World.block_lt_of_cell? _ _ hw288_0; first | rwa [add_block] at this | exact this) GW289.out) | (rw [add_block]; exact Nat.ne_of_lt (Nat.lt_of_lt_of_le (by have := World.block_lt_of_cell? _ _ hw288_0; first | rwa [add_block] at this | exact this) GW289.out)) | (show (Addr.add _ _).block ≠ _; rw [add_block]; exact Nat.ne_of_lt (Nat.lt_of_lt_of_le (by have := World.block_lt_of_cell? _ _ hw288_0; first | rwa [add_block] at this | exact this) GW289.out)) | (dsimp only; exact Nat.ne_of_lt (Nat.lt_of_lt_of_le (by have := World.block_lt_of_cell? _ _ hw288_0; first | rwa [add_block] at this | exact this) GW289.out))) _).trans (((cell_far (p := ⟨gb289, _, none⟩) (by first | exact Nat.ne_of_lt (Nat.lt_of_lt_of_le (by have := World.block_lt_of_cell? _ _ hw288_0; first | rwa [add_block] at this | exact this) GW289.out) | (rw [add_block]; exact Nat.ne_of_lt (Nat.lt_of_lt_of_le (by have := World.block_lt_of_cell? _ _ hw288_0; first | rwa [add_block] at this | exact this) GW289.out)) | (show (Addr.add _ _).block ≠ _; rw [add_block]; exact Nat.ne_of_lt (Nat.lt_of_lt_of_le (by have := World.block_lt_of_cell? _ _ hw288_0; first | rwa [add_block] at this | exact this) GW289.out)) | (dsimp only; exact Nat.ne_of_lt (Nat.lt_of_lt_of_le (by have := World.block_lt_of_cell? _ _ hw288_0; first | rwa [add_block] at this | exact this) GW289.out))) _).trans (((cell_far (p := ⟨gb289, _, none⟩) (by first | exact Nat.ne_of_lt (Nat.lt_of_lt_of_le (by have := World.block_lt_of_cell? _ _ hw288_0; first | rwa [add_block] at this | exact this) GW289.out) | (rw [add_block]; exact Nat.ne_of_lt (Nat.lt_of_lt_of_le (by have := World.block_lt_of_cell? _ _ hw288_0; first | rwa [add_block] at this | exact this) GW289.out)) | (show (Addr.add _ _).block ≠ _; rw [add_block]; exact Nat.ne_of_lt (Nat.lt_of_lt_of_le (by have := World.block_lt_of_cell? _ _ hw288_0; first | rwa [add_block] at this | exact this) GW289.out)) | (dsimp only; exact Nat.ne_of_lt (Nat.lt_of_lt_of_le (by have := World.block_lt_of_cell? _ _ hw288_0; first | rwa [add_block] at this | exact this) GW289.out))) _).trans (((cell_far (p := ⟨gb289, _, none⟩) (by first | exact Nat.ne_of_lt (Nat.lt_of_lt_of_le (by have := World.block_lt_of_cell? _ _ hw288_0; first | rwa [add_block] at this | exact this) GW289.out) | (rw [add_block]; exact Nat.ne_of_lt (Nat.lt_of_lt_of_le (by have := World.block_lt_of_cell? _ _ hw288_0; first | rwa [add_block] at this | exact this) GW289.out)) | (show (Addr.add _ _).block ≠ _; rw [add_block]; exact Nat.ne_of_lt (Nat.lt_of_lt_of_le (by have := World.block_lt_of_cell? _ _ hw288_0; first | rwa [add_block] at this | exact this) GW289.out)) | (dsimp only; exact Nat.ne_of_lt (Nat.lt_of_lt_of_le (by have := World.block_lt_of_cell? _ _ hw288_0; first | rwa [add_block] at this | exact this) GW289.out))) _).trans (hHeld.2.2.2))))))))))))))⟩ (fun hHeld => ?_)
            clear hK K
            refine done_ (done_of HT_.out (by kernel_rfl)) ?_
            obtain ⟨i021, hi021, _, hsz21, _⟩ := info_parts info5
            obtain ⟨A21, hcut21, hA21, hC21⟩ := print_drop_of (P := Try.prog) (Value.int .u8) 0 34 5 .i64 Try.underlying34 hi021 hsz21 (some ad285) c1 l1 1 (by omega) (of_decide_eq_true (by first | (with_reducible assumption) | assumption)) HC1.out
            have HR290 := Aside0.mk (Kd.C_of_reads (h1 := fun _ => rfl) (hA21 _ (Kd.reads_of_C HR1.out)))
            have HC290 := Aside0.mk hC21
            clear hA21 hC21 hi021 hsz21
            go_upto_if 49 with (first | ((with_reducible refine gate_callee (f := 63) rfl ?_); refine goesL_ (some 36) rfl rfl Try.func63 (by kernel_rfl) rfl #[.slice A21 (l1.drop 1).length (c1 - 1)] rfl (by (try simp only [List.map_toArray, List.map_cons, List.map_nil]); first | done | (rw [show (l1.drop 1).length = (l1.length - 1) from List.length_drop] <;> rfl) | rfl | (simp only [List.length_drop, List.length_take]; rfl)) ?_; (with_reducible refine (varint_Back.calls k _ _ (l1.drop 1) t291 t292 _ ?side1 ?side2 A7.out).mono ?_); (case side1 => exact Kd.C_below HR290.out (bel_ HB)); (case side2 => exact HC290.out); rintro e w' ⟨rfl, ⟨nd, rfl⟩⟩; refine ⟨_, rfl, ?_⟩; have hnb22 := NB289_284.out; have hnc22 := NB284_289.out; obtain ⟨hcz23_0, hcz23_1, hcz23_2, hcz23_3, hcz23_4, hcz23_5, hcz23_6⟩ := cells7_ BK289.out; have hfz23_ := blk_frozen BK289.out; obtain ⟨i024, hi024, _, hsz24, _⟩ := info_parts info5; obtain ⟨A24, hcut24, hA24, hC24⟩ := print_drop_of (P := Try.prog) (Value.int .u8) 0 34 5 .i64 Try.underlying34 hi024 hsz24 (some ad285) c1 l1 11 (by omega) (of_decide_eq_true (by first | (with_reducible assumption) | assumption)) HC1.out; have HR293 := Aside0.mk (Kd.C_of_reads (h1 := fun _ => rfl) (hA24 _ (Kd.reads_of_C HR1.out))); have HC293 := Aside0.mk hC24; clear hA24 hC24 hi024 hsz24) | ((with_reducible refine gate_callee (f := 63) rfl ?_); refine goesL_ (some 43) rfl rfl Try.func63 (by kernel_rfl) rfl #[.slice A24 (l1.drop 11).length (c1 - 11)] rfl (by (try simp only [List.map_toArray, List.map_cons, List.map_nil]); first | done | (rw [show (l1.drop 11).length = (l1.length - 11) from List.length_drop] <;> rfl) | rfl | (simp only [List.length_drop, List.length_take]; rfl)) ?_; (with_reducible refine (varint_Back.calls k _ _ (l1.drop 11) t294 t295 _ ?side1 ?side2 A9.out).mono ?_); (case side1 => exact Kd.C_below HR293.out (bel_ HB)); (case side2 => exact HC293.out); rintro e w' ⟨rfl, ⟨nd, rfl⟩⟩; refine ⟨_, rfl, ?_⟩))
            (try simp only [Act.put, List.setIfInBounds_toArray, List.set_cons_zero, List.set_cons_succ])
            go_cut [] (fun wc => ∃ (kq : Nat) (x290002_9 : Int), Aside0 (batch_body.j0 kq l1 a0 t291 x290002_9 t294 ((Go.bits .and .u8 (rd l1 0) 1) == 1) (wrap64 ((rd l1 0) / 2)) = some (r1, r2, r3, r4, r5, r6, r7)) ∧ Aside0 (kq ≤ k) ∧ Aside0 (wc.heap[gb284]? = some (.cells #[.int .i64 0, .int .i64 0, .int .i64 0, .int .i64 0, .bool false, .int .i64 0, (.slice none 0 0)] 56 (0, 0))) ∧ Aside0 (wc.heap[gb289]? = some (.cells #[.int .i64 a0, .int .i64 t291, .int .i64 x290002_9, .int .i64 t294, .bool ((Go.bits .and .u8 (rd l1 0) 1) == 1), .int .i64 (wrap64 ((rd l1 0) / 2)), (.slice none 0 0)] 56 (0, 0))) ∧ Aside0 (Below w.heap.size w wc))
            case first =>
              have H := HC10.out
              clear HC10
              by_cases c25 : (Go.bits .or .i64 (wrap64 ((wrap64 (rd l1 9)) * 256)) (wrap64 (rd l1 10))) = 65535
              · rw [if_pos c25] at H
                have c25b0 : ((Go.bits .or .i64 (wrap64 ((wrap64 (rd l1 9)) * 256)) (wrap64 (rd l1 10))) == 65535) = true := beq_iff_eq.mpr c25
                have c25b1 : ((Go.bits .or .i64 (wrap64 ((wrap64 (rd l1 9)) * 256)) (wrap64 (rd l1 10))) != 65535) = false := bne_eq_false_iff_eq.mpr c25
                clear c25
                (first | rw [c25b0] | (simp only [i64_w, i32_w]; rw [c25b0]) | skip)
                have H' := Aside0.mk H
                clear H
                have hnb26 := NB289_284.out
                have hnc26 := NB284_289.out
                obtain ⟨hcz27_0, hcz27_1, hcz27_2, hcz27_3, hcz27_4, hcz27_5, hcz27_6⟩ := cells7_ BK289.out
                have hfz27_ := blk_frozen BK289.out
                go_wp2
                go_meet
                case rel => exact ⟨_, ((-1)), H', ⟨by first | omega | exact Nat.le_refl _⟩, ⟨by (with_reducible repeat (first | refine blk_drewN ?_ _ | refine blk_drew ?_ | refine blk_alloc ?_ _)); refine blk_far ?_ NB284_289.out _; (with_reducible repeat (first | refine blk_drewN ?_ _ | refine blk_drew ?_ | refine blk_alloc ?_ _)); refine blk_far ?_ NB284_289.out _; (with_reducible repeat (first | refine blk_drewN ?_ _ | refine blk_drew ?_ | refine blk_alloc ?_ _)); refine blk_far ?_ NB284_289.out _; (with_reducible repeat (first | refine blk_drewN ?_ _ | refine blk_drew ?_ | refine blk_alloc ?_ _)); refine blk_far ?_ NB284_289.out _; (with_reducible repeat (first | refine blk_drewN ?_ _ | refine blk_drew ?_ | refine blk_alloc ?_ _)); refine blk_far ?_ NB284_289.out _; (with_reducible repeat (first | refine blk_drewN ?_ _ | refine blk_drew ?_ | refine blk_alloc ?_ _)); refine blk_far ?_ NB284_289.out _; (with_reducible repeat (first | refine blk_drewN ?_ _ | refine blk_drew ?_ | refine blk_alloc ?_ _)); refine blk_far ?_ NB284_289.out _; (with_reducible repeat (first | refine blk_drewN ?_ _ | refine blk_drew ?_ | refine blk_alloc ?_ _)); refine blk_far ?_ NB284_289.out _; (with_reducible repeat (first | refine blk_drewN ?_ _ | refine blk_drew ?_ | refine blk_alloc ?_ _)); refine blk_far ?_ NB284_289.out _; (with_reducible repeat (first | refine blk_drewN ?_ _ | refine blk_drew ?_ | refine blk_alloc ?_ _)); refine blk_far ?_ NB284_289.out _; (with_reducible repeat (first | refine blk_drewN ?_ _ | refine blk_drew ?_ | refine blk_alloc ?_ _)); exact BK284.out⟩, ⟨by (with_reducible repeat (first | refine blk_drewN ?_ _ | refine blk_drew ?_ | refine blk_alloc ?_ _)); refine blk_put (cs := #[.int .i64 a0, .int .i64 t291, .int .i64 (Go.bits .or .i64 (wrap64 ((wrap64 (rd l1 9)) * 256)) (wrap64 (rd l1 10))), .int .i64 t294, .bool ((Go.bits .and .u8 (rd l1 0) 1) == 1), .int .i64 (wrap64 ((rd l1 0) / 2)), .slice none 0 0]) ?_ 2 _ rfl; (with_reducible repeat (first | refine blk_drewN ?_ _ | refine blk_drew ?_ | refine blk_alloc ?_ _)); refine blk_put (cs := #[.int .i64 a0, .int .i64 t291, .int .i64 (Go.bits .or .i64 (wrap64 ((wrap64 (rd l1 9)) * 256)) (wrap64 (rd l1 10))), .int .i64 0, .bool ((Go.bits .and .u8 (rd l1 0) 1) == 1), .int .i64 (wrap64 ((rd l1 0) / 2)), .slice none 0 0]) ?_ 3 _ rfl; (with_reducible repeat (first | refine blk_drewN ?_ _ | refine blk_drew ?_ | refine blk_alloc ?_ _)); refine blk_put (cs := #[.int .i64 a0, .int .i64 0, .int .i64 (Go.bits .or .i64 (wrap64 ((wrap64 (rd l1 9)) * 256)) (wrap64 (rd l1 10))), .int .i64 0, .bool ((Go.bits .and .u8 (rd l1 0) 1) == 1), .int .i64 (wrap64 ((rd l1 0) / 2)), .slice none 0 0]) ?_ 1 _ rfl; (with_reducible repeat (first | refine blk_drewN ?_ _ | refine blk_drew ?_ | refine blk_alloc ?_ _)); refine blk_put (cs := #[.int .i64 a0, .int .i64 0, .int .i64 (Go.bits .or .i64 (wrap64 ((wrap64 (rd l1 9)) * 256)) (wrap64 (rd l1 10))), .int .i64 0, .bool ((Go.bits .and .u8 (rd l1 0) 1) == 1), .int .i64 (wrap64 ((rd l1 0) / 2)), .slice none 0 0]) ?_ 6 _ rfl; (with_reducible repeat (first | refine blk_drewN ?_ _ | refine blk_drew ?_ | refine blk_alloc ?_ _)); refine blk_put (cs := #[.int .i64 a0, .int .i64 0, .int .i64 (Go.bits .or .i64 (wrap64 ((wrap64 (rd l1 9)) * 256)) (wrap64 (rd l1 10))), .int .i64 0, .bool ((Go.bits .and .u8 (rd l1 0) 1) == 1), .int .i64 0, .slice none 0 0]) ?_ 5 _ rfl; (with_reducible repeat (first | refine blk_drewN ?_ _ | refine blk_drew ?_ | refine blk_alloc ?_ _)); refine blk_put (cs := #[.int .i64 a0, .int .i64 0, .int .i64 (Go.bits .or .i64 (wrap64 ((wrap64 (rd l1 9)) * 256)) (wrap64 (rd l1 10))), .int .i64 0, .bool false, .int .i64 0, .slice none 0 0]) ?_ 4 _ rfl; (with_reducible repeat (first | refine blk_drewN ?_ _ | refine blk_drew ?_ | refine blk_alloc ?_ _)); refine blk_put (cs := #[.int .i64 a0, .int .i64 0, .int .i64 (Go.bits .or .i64 (wrap64 ((wrap64 (rd l1 9)) * 256)) (wrap64 (rd l1 10))), .int .i64 0, .bool false, .int .i64 0, .slice none 0 0]) ?_ 3 _ rfl; (with_reducible repeat (first | refine blk_drewN ?_ _ | refine blk_drew ?_ | refine blk_alloc ?_ _)); refine blk_put (cs := #[.int .i64 a0, .int .i64 0, .int .i64 0, .int .i64 0, .bool false, .int .i64 0, .slice none 0 0]) ?_ 2 _ rfl; (with_reducible repeat (first | refine blk_drewN ?_ _ | refine blk_drew ?_ | refine blk_alloc ?_ _)); refine blk_put (cs := #[.int .i64 a0, .int .i64 0, .int .i64 0, .int .i64 0, .bool false, .int .i64 0, .slice none 0 0]) ?_ 1 _ rfl; (with_reducible repeat (first | refine blk_drewN ?_ _ | refine blk_drew ?_ | refine blk_alloc ?_ _)); refine blk_put (cs := #[.int .i64 0, .int .i64 0, .int .i64 0, .int .i64 0, .bool false, .int .i64 0, .slice none 0 0]) ?_ 0 _ rfl; (with_reducible repeat (first | refine blk_drewN ?_ _ | refine blk_drew ?_ | refine blk_alloc ?_ _)); exact BK289.out⟩, ⟨by repeat (first | (with_reducible first | exact HB.out | apply below_alloc | apply pw_below_drewN | apply below_drew1 | refine below_set ?_ GE284.out | refine below_set ?_ GE289.out) | exact HB.out)⟩⟩
              · rw [if_neg c25] at H
                have c25b0 : ((Go.bits .or .i64 (wrap64 ((wrap64 (rd l1 9)) * 256)) (wrap64 (rd l1 10))) == 65535) = false := beq_eq_false_iff_ne.mpr c25
                have c25b1 : ((Go.bits .or .i64 (wrap64 ((wrap64 (rd l1 9)) * 256)) (wrap64 (rd l1 10))) != 65535) = true := bne_iff_ne.mpr c25
                (first | rw [c25b0] | (simp only [i64_w, i32_w]; rw [c25b0]) | skip)
                have H' := Aside0.mk H
                clear H
                go_wp2
                go_meet
                case rel => exact ⟨_, (Go.bits .or .i64 (wrap64 ((wrap64 (rd l1 9)) * 256)) (wrap64 (rd l1 10))), H', ⟨by first | omega | exact Nat.le_refl _⟩, ⟨by (with_reducible repeat (first | refine blk_drewN ?_ _ | refine blk_drew ?_ | refine blk_alloc ?_ _)); refine blk_far ?_ NB284_289.out _; (with_reducible repeat (first | refine blk_drewN ?_ _ | refine blk_drew ?_ | refine blk_alloc ?_ _)); refine blk_far ?_ NB284_289.out _; (with_reducible repeat (first | refine blk_drewN ?_ _ | refine blk_drew ?_ | refine blk_alloc ?_ _)); refine blk_far ?_ NB284_289.out _; (with_reducible repeat (first | refine blk_drewN ?_ _ | refine blk_drew ?_ | refine blk_alloc ?_ _)); refine blk_far ?_ NB284_289.out _; (with_reducible repeat (first | refine blk_drewN ?_ _ | refine blk_drew ?_ | refine blk_alloc ?_ _)); refine blk_far ?_ NB284_289.out _; (with_reducible repeat (first | refine blk_drewN ?_ _ | refine blk_drew ?_ | refine blk_alloc ?_ _)); refine blk_far ?_ NB284_289.out _; (with_reducible repeat (first | refine blk_drewN ?_ _ | refine blk_drew ?_ | refine blk_alloc ?_ _)); refine blk_far ?_ NB284_289.out _; (with_reducible repeat (first | refine blk_drewN ?_ _ | refine blk_drew ?_ | refine blk_alloc ?_ _)); refine blk_far ?_ NB284_289.out _; (with_reducible repeat (first | refine blk_drewN ?_ _ | refine blk_drew ?_ | refine blk_alloc ?_ _)); refine blk_far ?_ NB284_289.out _; (with_reducible repeat (first | refine blk_drewN ?_ _ | refine blk_drew ?_ | refine blk_alloc ?_ _)); exact BK284.out⟩, ⟨by (with_reducible repeat (first | refine blk_drewN ?_ _ | refine blk_drew ?_ | refine blk_alloc ?_ _)); refine blk_put (cs := #[.int .i64 a0, .int .i64 t291, .int .i64 (Go.bits .or .i64 (wrap64 ((wrap64 (rd l1 9)) * 256)) (wrap64 (rd l1 10))), .int .i64 0, .bool ((Go.bits .and .u8 (rd l1 0) 1) == 1), .int .i64 (wrap64 ((rd l1 0) / 2)), .slice none 0 0]) ?_ 3 _ rfl; (with_reducible repeat (first | refine blk_drewN ?_ _ | refine blk_drew ?_ | refine blk_alloc ?_ _)); refine blk_put (cs := #[.int .i64 a0, .int .i64 0, .int .i64 (Go.bits .or .i64 (wrap64 ((wrap64 (rd l1 9)) * 256)) (wrap64 (rd l1 10))), .int .i64 0, .bool ((Go.bits .and .u8 (rd l1 0) 1) == 1), .int .i64 (wrap64 ((rd l1 0) / 2)), .slice none 0 0]) ?_ 1 _ rfl; (with_reducible repeat (first | refine blk_drewN ?_ _ | refine blk_drew ?_ | refine blk_alloc ?_ _)); refine blk_put (cs := #[.int .i64 a0, .int .i64 0, .int .i64 (Go.bits .or .i64 (wrap64 ((wrap64 (rd l1 9)) * 256)) (wrap64 (rd l1 10))), .int .i64 0, .bool ((Go.bits .and .u8 (rd l1 0) 1) == 1), .int .i64 (wrap64 ((rd l1 0) / 2)), .slice none 0 0]) ?_ 6 _ rfl; (with_reducible repeat (first | refine blk_drewN ?_ _ | refine blk_drew ?_ | refine blk_alloc ?_ _)); refine blk_put (cs := #[.int .i64 a0, .int .i64 0, .int .i64 (Go.bits .or .i64 (wrap64 ((wrap64 (rd l1 9)) * 256)) (wrap64 (rd l1 10))), .int .i64 0, .bool ((Go.bits .and .u8 (rd l1 0) 1) == 1), .int .i64 0, .slice none 0 0]) ?_ 5 _ rfl; (with_reducible repeat (first | refine blk_drewN ?_ _ | refine blk_drew ?_ | refine blk_alloc ?_ _)); refine blk_put (cs := #[.int .i64 a0, .int .i64 0, .int .i64 (Go.bits .or .i64 (wrap64 ((wrap64 (rd l1 9)) * 256)) (wrap64 (rd l1 10))), .int .i64 0, .bool false, .int .i64 0, .slice none 0 0]) ?_ 4 _ rfl; (with_reducible repeat (first | refine blk_drewN ?_ _ | refine blk_drew ?_ | refine blk_alloc ?_ _)); refine blk_put (cs := #[.int .i64 a0, .int .i64 0, .int .i64 (Go.bits .or .i64 (wrap64 ((wrap64 (rd l1 9)) * 256)) (wrap64 (rd l1 10))), .int .i64 0, .bool false, .int .i64 0, .slice none 0 0]) ?_ 3 _ rfl; (with_reducible repeat (first | refine blk_drewN ?_ _ | refine blk_drew ?_ | refine blk_alloc ?_ _)); refine blk_put (cs := #[.int .i64 a0, .int .i64 0, .int .i64 0, .int .i64 0, .bool false, .int .i64 0, .slice none 0 0]) ?_ 2 _ rfl; (with_reducible repeat (first | refine blk_drewN ?_ _ | refine blk_drew ?_ | refine blk_alloc ?_ _)); refine blk_put (cs := #[.int .i64 a0, .int .i64 0, .int .i64 0, .int .i64 0, .bool false, .int .i64 0, .slice none 0 0]) ?_ 1 _ rfl; (with_reducible repeat (first | refine blk_drewN ?_ _ | refine blk_drew ?_ | refine blk_alloc ?_ _)); refine blk_put (cs := #[.int .i64 0, .int .i64 0, .int .i64 0, .int .i64 0, .bool false, .int .i64 0, .slice none 0 0]) ?_ 0 _ rfl; (with_reducible repeat (first | refine blk_drewN ?_ _ | refine blk_drew ?_ | refine blk_alloc ?_ _)); exact BK289.out⟩, ⟨by repeat (first | (with_reducible first | exact HB.out | apply below_alloc | apply pw_below_drewN | apply below_drew1 | refine below_set ?_ GE284.out | refine below_set ?_ GE289.out) | exact HB.out)⟩⟩
            case rest =>
              clear HC10
              try clear c1
              try clear c2
              try clear p2
              try clear q2
              try clear hx2
              try clear qi2
              try clear c3
              try clear c3b0
              try clear c3b1
              try clear c4
              try clear c4b0
              try clear c4b1
              try clear c5
              try clear c5b0
              try clear c5b1
              try clear c6
              try clear c6b0
              try clear c6b1
              try clear p6
              try clear c8
              try clear c8b0
              try clear c8b1
              try clear c9
              try clear c22
              try clear c25
              try clear c25b0
              try clear c25b1
              try clear c26
              try clear hcz23_0
              try clear hcz23_1
              try clear hcz23_2
              try clear hcz23_3
              try clear hcz23_4
              try clear hcz23_5
              try clear hcz23_6
              try clear hcz27_0
              try clear hcz27_1
              try clear hcz27_2
              try clear hcz27_3
              try clear hcz27_4
              try clear hcz27_5
              try clear hcz27_6
              try clear hfz23_0
              try clear hfz23_1
              try clear hfz23_2
              try clear hfz23_3
              try clear hfz23_4
              try clear hfz23_5
              try clear hfz23_6
              try clear hfz27_0
              try clear hfz27_1
              try clear hfz27_2
              try clear hfz27_3
              try clear hfz27_4
              try clear hfz27_5
              try clear hfz27_6
              try clear hx285_0
              try clear hx286_0
              try clear hx287_0
              try clear hx288_0
              try clear p285
              try clear p286
              try clear p287
              try clear p288
              try clear q285
              try clear q286
              try clear q287
              try clear q288
              obtain ⟨kq, x290002_9, HA, HJ9, BK284, BK289, HB⟩ := hcut
              cases kq with
              | zero => exact absurd HA.out (by simp [batch_body.j0])
              | succ kj9 =>
                have H := HA.out
                clear HA
                simp only [batch_body.j0] at H
                by_cases c28 : 19 < (l1.length : Int)
                · rw [if_pos c28] at H
                  have c28b0 : decide (19 < (l1.length : Int)) = true := decide_eq_true c28
                  have c28b1 : decide (19 < l1.length) = true := decide_eq_true (by omega)
                  clear c28
                  have H' := Aside0.mk H
                  clear H
                  have p296 : 0 ≤ (19 : Int) := (by omega)
                  have q296 : 19 < (l1.length : Int) := of_decide_eq_true (by first | (with_reducible assumption) | assumption)
                  obtain ⟨ad296, e296, hx296_0⟩ := Kd.at_int HR1.out 19 p296 q296
                  obtain rfl : ad285 = ad296 := (by injection e296)
                  (try simp only [show (19 : Int).toNat = 19 from rfl, Nat.reduceMul, Nat.reduceEqDiff, Go.Addr.add, ↓reduceIte] at hx296_0)
                  have qi296 : (19 < l1.length) = True := eq_true (by omega)
                  (try rw [show ((19 : Int)).toNat = 19 from rfl] at hx296_0)
                  replace hx296_0 := (HB.out.cell (World.block_lt_of_cell? w _ hx296_0)).trans hx296_0
                  replace p296 := eq_true p296
                  replace q296 := eq_true q296
                  go_wp2
                  go_loopg [6, 55] kj9 (fun kq v6 v55 w' => ∃ (x6_2 : Int) (x55_2 : Int) (x290006_2 : List (S71)) (u290006 : Value), v6 = .int .i64 x6_2 ∧ v55 = .int .i64 x55_2 ∧ Aside0 (batch_body.l0 kq l1 x6_2 (wrap64 (rd l1 19)) x55_2 a0 t291 x290002_9 t294 ((Go.bits .and .u8 (rd l1 0) 1) == 1) (wrap64 ((rd l1 0) / 2)) x290006_2 = some (r1, r2, r3, r4, r5, r6, r7)) ∧ Aside0 (kq ≤ kj9) ∧ Aside0 (Kd.R k71 71 w' w.heap.size (fun _ => True) u290006 x290006_2) ∧ Aside0 (w'.heap[gb284]? = some (.cells #[.int .i64 0, .int .i64 0, .int .i64 0, .int .i64 0, .bool false, .int .i64 0, (.slice none 0 0)] 56 (0, 0))) ∧ Aside0 (w'.heap[gb289]? = some (.cells #[.int .i64 a0, .int .i64 t291, .int .i64 x290002_9, .int .i64 t294, .bool ((Go.bits .and .u8 (rd l1 0) 1) == 1), .int .i64 (wrap64 ((rd l1 0) / 2)), u290006] 56 (0, 0))) ∧ Aside0 (Below w.heap.size w w'))
                  case atStart => exact ⟨(20), (0), (([] : List (S71))), (.slice none 0 0), (by first | rfl | (simp; done) | (simp [*]; done)), (by first | rfl | (simp; done) | (simp [*]; done)), H', ⟨Nat.le_refl _⟩, ⟨by first | exact Kd.R_nil _ _ _ _ _ | exact Kd.N_nil _ _ _ _ _ | exact Kd.V_nil _ _ _ _ _ | exact Kd.Q_nil _ _ _ _ _ | exact Kd.S_nil _ _ _ _ _⟩, ⟨by (with_reducible repeat (first | refine blk_drewN ?_ _ | refine blk_drew ?_ | refine blk_alloc ?_ _)); exact BK284.out⟩, ⟨by (with_reducible repeat (first | refine blk_drewN ?_ _ | refine blk_drew ?_ | refine blk_alloc ?_ _)); exact BK289.out⟩, ⟨by repeat (first | (with_reducible first | exact HB.out | apply below_alloc | apply pw_below_drewN | apply below_drew1 | refine below_set ?_ GE284.out | refine below_set ?_ GE289.out) | exact HB.out)⟩⟩
                  case round =>
                    clear H'
                    try clear c1
                    try clear c2
                    try clear p2
                    try clear q2
                    try clear hx2
                    try clear qi2
                    try clear c3
                    try clear c3b0
                    try clear c3b1
                    try clear c4
                    try clear c4b0
                    try clear c4b1
                    try clear c5
                    try clear c5b0
                    try clear c5b1
                    try clear c6
                    try clear c6b0
                    try clear c6b1
                    try clear p6
                    try clear c8
                    try clear c8b0
                    try clear c8b1
                    try clear c9
                    try clear c22
                    try clear c25
                    try clear c25b0
                    try clear c25b1
                    try clear c26
                    try clear c28
                    try clear c28b0
                    try clear c28b1
                    try clear p28
                    try clear q28
                    try clear hx28
                    try clear qi28
                    try clear hcz23_0
                    try clear hcz23_1
                    try clear hcz23_2
                    try clear hcz23_3
                    try clear hcz23_4
                    try clear hcz23_5
                    try clear hcz23_6
                    try clear hcz27_0
                    try clear hcz27_1
                    try clear hcz27_2
                    try clear hcz27_3
                    try clear hcz27_4
                    try clear hcz27_5
                    try clear hcz27_6
                    try clear hfz23_0
                    try clear hfz23_1
                    try clear hfz23_2
                    try clear hfz23_3
                    try clear hfz23_4
                    try clear hfz23_5
                    try clear hfz23_6
                    try clear hfz27_0
                    try clear hfz27_1
                    try clear hfz27_2
                    try clear hfz27_3
                    try clear hfz27_4
                    try clear hfz27_5
                    try clear hfz27_6
                    try clear hx285_0
                    try clear hx286_0
                    try clear hx287_0
                    try clear hx288_0
                    try clear hx296_0
                    try clear p2
                    try clear p285
                    try clear p286
                    try clear p287
                    try clear p288
                    try clear p296
                    try clear p6
                    try clear q2
                    try clear q285
                    try clear q286
                    try clear q287
                    try clear q288
                    try clear q296
                    obtain ⟨x6_2, x55_2, x290006_2, u290006, rfl, rfl, HA, HK2, HO_290006, BK284, BK289, HB⟩ := hrel
                    cases gk with
                    | zero => exact absurd HA.out (by simp [batch_body.l0])
                    | succ k2 =>
                      have H := HA.out
                      clear HA
                      simp only [batch_body.l0] at H
                      by_cases c29 : x55_2 < (wrap64 (rd l1 19))
                      · rw [if_pos c29] at H
                        have c29b0 : decide (x55_2 < (wrap64 (rd l1 19))) = true := decide_eq_true c29
                        clear c29
                        by_cases c30 : 0 ≤ x6_2
                        · rw [if_pos c30] at H
                          have c30b0 := eq_true c30
                          have c30b1 : decide (0 ≤ x6_2) = true := decide_eq_true c30
                          clear c30
                          by_cases c31 : x6_2 ≤ (l1.length : Int)
                          · rw [if_pos c31] at H
                            have c31b0 := eq_true c31
                            have c31b1 : decide (x6_2 ≤ (l1.length : Int)) = true := decide_eq_true c31
                            clear c31
                            replace H := Option.bind_eq_some_iff.mp H
                            obtain ⟨⟨t298, t299⟩, A320, H⟩ := H
                            replace H : (if 0 ≤ (wrap64 (x6_2 + t299)) then (if (wrap64 (x6_2 + t299)) ≤ (l1.length : Int) then ((varint_Cut.f k2 (l1.drop ((wrap64 (x6_2 + t299)) : Int).toNat) 64).bind fun bt301 => (if x290006_2.length < 4398046511104 then (batch_body.l0 k2 l1 (wrap64 (x6_2 + (wrap64 (t299 + bt301.2)))) (wrap64 (rd l1 19)) (wrap64 (x55_2 + 1)) a0 t291 x290002_9 t294 ((Go.bits .and .u8 (rd l1 0) 1) == 1) (wrap64 ((rd l1 0) / 2)) (x290006_2 ++ [(⟨t298, bt301.1⟩ : S71)])) else (none))) else (none)) else (none)) = some (r1, r2, r3, r4, r5, r6, r7) := H
                            have A32 := Aside0.mk A320
                            clear A320
                            obtain ⟨ji33, hji33⟩ : ∃ j_ : Int, (wrap64 (x6_2 + t299)) = j_ := ⟨_, rfl⟩
                            replace H : (if 0 ≤ (ji33) then (if (ji33) ≤ (l1.length : Int) then ((varint_Cut.f k2 (l1.drop ((ji33) : Int).toNat) 64).bind fun bt301 => (if x290006_2.length < 4398046511104 then (batch_body.l0 k2 l1 (wrap64 (x6_2 + (wrap64 (t299 + bt301.2)))) (wrap64 (rd l1 19)) (wrap64 (x55_2 + 1)) a0 t291 x290002_9 t294 ((Go.bits .and .u8 (rd l1 0) 1) == 1) (wrap64 ((rd l1 0) / 2)) (x290006_2 ++ [(⟨t298, bt301.1⟩ : S71)])) else (none))) else (none)) else (none)) = some (r1, r2, r3, r4, r5, r6, r7) := by first | (rw [hji33] at H; exact H) | (simp only [hji33] at H ⊢; exact H)
                            (try rw [hji33] at A32)
                            have hji33w : (IntKind.i64.wrap (x6_2 + t299)) = ji33 := (i64_w _).trans hji33
                            by_cases c34 : 0 ≤ (ji33)
                            · rw [if_pos c34] at H
                              have c34b0 := eq_true c34
                              have c34b1 : decide (0 ≤ (ji33)) = true := decide_eq_true c34
                              clear c34
                              by_cases c35 : (ji33) ≤ (l1.length : Int)
                              · rw [if_pos c35] at H
                                have c35b0 := eq_true c35
                                have c35b1 : decide ((ji33) ≤ (l1.length : Int)) = true := decide_eq_true c35
                                clear c35
                                replace H := Option.bind_eq_some_iff.mp H
                                obtain ⟨⟨t301, t302⟩, A360, H⟩ := H
                                replace H : (if x290006_2.length < 4398046511104 then (batch_body.l0 k2 l1 (wrap64 (x6_2 + (wrap64 (t299 + t302)))) (wrap64 (rd l1 19)) (wrap64 (x55_2 + 1)) a0 t291 x290002_9 t294 ((Go.bits .and .u8 (rd l1 0) 1) == 1) (wrap64 ((rd l1 0) / 2)) (x290006_2 ++ [(⟨t298, t301⟩ : S71)])) else (none)) = some (r1, r2, r3, r4, r5, r6, r7) := H
                                have A36 := Aside0.mk A360
                                clear A360
                                by_cases c37 : x290006_2.length < 4398046511104
                                · rw [if_pos c37] at H
                                  have LMc37 := Aside0.mk c37
                                  clear c37
                                  obtain ⟨y303, hy303⟩ : ∃ y_ : List (S71), y_ = (x290006_2 ++ [(⟨t298, t301⟩ : S71)]) := ⟨_, rfl⟩
                                  replace H : (batch_body.l0 k2 l1 (wrap64 (x6_2 + (wrap64 (t299 + t302)))) (wrap64 (rd l1 19)) (wrap64 (x55_2 + 1)) a0 t291 x290002_9 t294 ((Go.bits .and .u8 (rd l1 0) 1) == 1) (wrap64 ((rd l1 0) / 2)) y303) = some (r1, r2, r3, r4, r5, r6, r7) := by first | (rw [hy303]; with_reducible exact H) | (have H2_ := (Option.bind_some _ _).symm.trans H; rw [hy303]; with_reducible exact H2_) | (have H2_ := (Option.bind_some _ _).symm.trans H; with_reducible exact H2_) | with_reducible exact H | (rw [hy303]; exact H) | exact H
                                  have Ny303 := Aside0.mk hy303
                                  clear hy303
                                  have H' := Aside0.mk H
                                  clear H
                                  obtain ⟨i038, hi038, _, hsz38, _⟩ := info_parts info5
                                  obtain ⟨A38, hcut38, hA38, hC38⟩ := print_drop_of (P := Try.prog) (Value.int .u8) 0 34 5 .i64 Try.underlying34 hi038 hsz38 (some ad285) c1 l1 x6_2 (of_decide_eq_true (by first | (with_reducible assumption) | assumption)) (of_decide_eq_true (by first | (with_reducible assumption) | assumption)) HC1.out
                                  have HR297 := Aside0.mk (Kd.C_of_reads (h1 := fun _ => rfl) (hA38 _ (Kd.reads_of_C HR1.out)))
                                  have HC297 := Aside0.mk hC38
                                  clear hA38 hC38 hi038 hsz38
                                  go_wp2_with (first | ((with_reducible refine gate_callee (f := 125) rfl ?_); refine goesL_ (some 61) rfl rfl Try.func125 (by kernel_rfl) rfl #[.slice A38 (l1.drop (x6_2 : Int).toNat).length (c1 - x6_2.toNat), .int .i64 64] rfl (by (try simp only [List.map_toArray, List.map_cons, List.map_nil]); first | done | (rw [show (l1.drop (x6_2 : Int).toNat).length = (l1.length - x6_2.toNat) from List.length_drop] <;> rfl) | rfl | (simp only [List.length_drop, List.length_take]; rfl)) ?_; (with_reducible refine (varint_Cut.calls k2 _ _ (l1.drop (x6_2 : Int).toNat) 64 t298 t299 _ ?side1 ?side2 A32.out).mono ?_); (case side1 => exact cgo_ ((Kd.C_below HR297.out HB.out))); (case side2 => exact HC297.out); rintro e w39 ⟨rfl, hb⟩; refine ⟨_, rfl, ?_⟩; have n0_ := Aside0.mk (Kd.R_below (rgo_ HO_290006) hb); have n1_ := Aside0.mk (blk_below (g := gb284) (o := .cells #[.int .i64 0, .int .i64 0, .int .i64 0, .int .i64 0, .bool false, .int .i64 0, .slice none 0 0] 56 (0, 0)) (blk_ BK284) hb); have n2_ := Aside0.mk (blk_below (g := gb289) (o := .cells #[.int .i64 a0, .int .i64 t291, .int .i64 x290002_9, .int .i64 t294, .bool ((Go.bits .and .u8 (rd l1 0) 1) == 1), .int .i64 (wrap64 ((rd l1 0) / 2)), u290006] 56 (0, 0)) (blk_ BK289) hb); have n3_ := Aside0.mk (below_step (bel_ HB) hb); clear HO_290006 BK284 BK289 HB; have HO_290006 := n0_; have BK284 := n1_; have BK289 := n2_; have HB := n3_; clear n0_ n1_ n2_ n3_; (try clear hb); (try clear hb2); (try clear hk); (try clear hi); obtain ⟨i040, hi040, _, hsz40, _⟩ := info_parts info5; obtain ⟨A40, hcut40, hA40, hC40⟩ := print_drop_of (P := Try.prog) (Value.int .u8) 0 34 5 .i64 Try.underlying34 hi040 hsz40 (some ad285) c1 l1 (ji33) (of_decide_eq_true (by first | (with_reducible assumption) | assumption)) (of_decide_eq_true (by first | (with_reducible assumption) | assumption)) HC1.out; have HR300 := Aside0.mk (Kd.C_of_reads (h1 := fun _ => rfl) (hA40 _ (Kd.reads_of_C HR1.out))); have HC300 := Aside0.mk hC40; clear hA40 hC40 hi040 hsz40) | ((with_reducible refine gate_callee (f := 125) rfl ?_); refine goesL_ (some 70) rfl rfl Try.func125 (by kernel_rfl) rfl #[.slice A40 (l1.drop ((ji33) : Int).toNat).length (c1 - (ji33).toNat), .int .i64 64] rfl (by (try simp only [List.map_toArray, List.map_cons, List.map_nil]); first | done | (rw [show (l1.drop ((ji33) : Int).toNat).length = (l1.length - (ji33).toNat) from List.length_drop] <;> rfl) | (simp only [hji33]; rfl) | rfl | (simp only [List.length_drop, List.length_take]; rfl)) ?_; (with_reducible refine (varint_Cut.calls k2 _ _ (l1.drop ((ji33) : Int).toNat) 64 t301 t302 _ ?side1 ?side2 A36.out).mono ?_); (case side1 => exact cgo_ ((Kd.C_below HR300.out HB.out))); (case side2 => exact HC300.out); rintro e w41 ⟨rfl, hb⟩; refine ⟨_, rfl, ?_⟩; have n0_ := Aside0.mk (Kd.R_below (rgo_ HO_290006) hb); have n1_ := Aside0.mk (blk_below (g := gb284) (o := .cells #[.int .i64 0, .int .i64 0, .int .i64 0, .int .i64 0, .bool false, .int .i64 0, .slice none 0 0] 56 (0, 0)) (blk_ BK284) hb); have n2_ := Aside0.mk (blk_below (g := gb289) (o := .cells #[.int .i64 a0, .int .i64 t291, .int .i64 x290002_9, .int .i64 t294, .bool ((Go.bits .and .u8 (rd l1 0) 1) == 1), .int .i64 (wrap64 ((rd l1 0) / 2)), u290006] 56 (0, 0)) (blk_ BK289) hb); have n3_ := Aside0.mk (below_step (bel_ HB) hb); clear HO_290006 BK284 BK289 HB; have HO_290006 := n0_; have BK284 := n1_; have BK289 := n2_; have HB := n3_; clear n0_ n1_ n2_ n3_; (try clear hb); (try clear hb2); (try clear hk); (try clear hi); have hnb42 := NB289_284.out; have hnc42 := NB284_289.out; obtain ⟨hcz43_0, hcz43_1, hcz43_2, hcz43_3, hcz43_4, hcz43_5, hcz43_6⟩ := cells7_ BK289.out; have hfz43_ := blk_frozen BK289.out) | ((with_reducible refine gate_builtin (b := .append) (xs := #[.tmp 74, .tmp 78]) rfl ?_); at_builtin; refine Kd.R_append k71 (w0 := w) w.heap.size rfl (.tmp 74) (.tmp 78) 54 71 (.agg #[(.string ⟨#[]⟩), (.string ⟨#[]⟩)]) 32 rfl Try.underlying54 info71 rfl (by decide) (by omega) u290006 x290006_2 (⟨t298, t301⟩ : S71) [.string t298, .string t301] (fun _ => True) (fun _ => False) rfl rfl ?aP (fun _ hk => hk.elim) ?aF ?aO ?aB ?aS ?aL ?_; (case aP => exact k71_mkM _ _ _ (⟨t298, t301⟩ : S71)); (case aB => exact (bel_ HB)); (case aF => exact (fun _ _ => trivial)); (case aO => exact (rgo_ HO_290006)); (case aS => exact (below_size (bel_ HB))); (case aL => have := LMc37.out; omega); intro v304 w44 ho hb hg hat; rw [← Ny303.out] at ho; have n0_ := Aside0.mk (blk_grown (g := gb284) (o := .cells #[.int .i64 0, .int .i64 0, .int .i64 0, .int .i64 0, .bool false, .int .i64 0, .slice none 0 0] 56 (0, 0)) (blk_ BK284) hg (Kd.R_ne HO_290006.out BK284.out (by decide))); have n1_ := Aside0.mk (blk_grown (g := gb289) (o := .cells #[.int .i64 a0, .int .i64 t291, .int .i64 x290002_9, .int .i64 t294, .bool ((Go.bits .and .u8 (rd l1 0) 1) == 1), .int .i64 (wrap64 ((rd l1 0) / 2)), u290006] 56 (0, 0)) (blk_ BK289) hg (Kd.R_ne HO_290006.out BK289.out (by decide))); have n2_ := Aside0.mk (hb); have n3_ := Aside0.mk (ho); clear BK284 BK289 HB HO_290006; have BK284 := n0_; have BK289 := n1_; have HB := n2_; have HO305 := n3_; clear n0_ n1_ n2_ n3_; clear ho hb hg hat; obtain ⟨Ao45, co45, eo45⟩ := Kd.R_slice HO305.out; subst eo45; obtain ⟨hcz46_0, hcz46_1, hcz46_2, hcz46_3, hcz46_4, hcz46_5, hcz46_6⟩ := cells7_ BK289.out; have hfz46_ := blk_frozen BK289.out))
                                  go_roundg k2
                                  case measure => have := HJ9.out; have := HK2.out; omega
                                  case rel => exact ⟨(wrap64 (x6_2 + (wrap64 (t299 + t302)))), (wrap64 (x55_2 + 1)), (y303), (.slice Ao45 y303.length co45), (by first | rfl | (simp; done) | (simp [*]; done)), (by first | rfl | (simp; done) | (simp [*]; done)), H', ⟨by have := HJ9.out; have := HK2.out; omega⟩, ⟨by (with_reducible repeat (first | apply Kd.R_alloc | apply Kd.R_drewN | apply Kd.R_drew)); exact Kd.R_mono (Kd.R_far (p := ⟨gb289, 6, none⟩) (Kd.R_types HO305.out BK289.out (by decide)) (fun _ hk => hk.2) (.slice Ao45 y303.length co45)) (fun _ hk => trivial)⟩, ⟨by (with_reducible repeat (first | refine blk_drewN ?_ _ | refine blk_drew ?_ | refine blk_alloc ?_ _)); refine blk_far ?_ NB284_289.out _; (with_reducible repeat (first | refine blk_drewN ?_ _ | refine blk_drew ?_ | refine blk_alloc ?_ _)); exact BK284.out⟩, ⟨by (with_reducible repeat (first | refine blk_drewN ?_ _ | refine blk_drew ?_ | refine blk_alloc ?_ _)); refine blk_put (cs := #[.int .i64 a0, .int .i64 t291, .int .i64 x290002_9, .int .i64 t294, .bool ((Go.bits .and .u8 (rd l1 0) 1) == 1), .int .i64 (wrap64 ((rd l1 0) / 2)), u290006]) ?_ 6 _ rfl; (with_reducible repeat (first | refine blk_drewN ?_ _ | refine blk_drew ?_ | refine blk_alloc ?_ _)); exact BK289.out⟩, ⟨by repeat (first | (with_reducible first | exact HB.out | apply below_alloc | apply pw_below_drewN | apply below_drew1 | refine below_set ?_ GE284.out | refine below_set ?_ GE289.out) | exact HB.out)⟩⟩
                                · rw [if_neg c37] at H
                                  exact absurd H (by simp)
                              · rw [if_neg c35] at H
                                exact absurd H (by simp)
                            · rw [if_neg c34] at H
                              exact absurd H (by simp)
                          · rw [if_neg c31] at H
                            exact absurd H (by simp)
                        · rw [if_neg c30] at H
                          exact absurd H (by simp)
                      · rw [if_neg c29] at H
                        have c29b0 : decide (x55_2 < (wrap64 (rd l1 19))) = false := decide_eq_false c29
                        clear c29
                        simp only [Option.some.injEq, Prod.mk.injEq] at H
                        obtain ⟨rfl, rfl, rfl, rfl, rfl, rfl, rfl⟩ := H
                        have hnb47 := NB289_284.out
                        have hnc47 := NB284_289.out
                        obtain ⟨hcz48_0, hcz48_1, hcz48_2, hcz48_3, hcz48_4, hcz48_5, hcz48_6⟩ := cells7_ BK289.out
                        have hfz48_ := blk_frozen BK289.out
                        obtain ⟨hcz49_0, hcz49_1, hcz49_2, hcz49_3, hcz49_4, hcz49_5, hcz49_6⟩ := cells7_ BK284.out
                        have hfz49_ := blk_frozen BK284.out
                        obtain ⟨Ao50, co50, eo50⟩ := Kd.R_slice HO_290006.out
                        subst eo50
                        go_wp2
                        refine bodyPost_ret (results_cell_row rfl _ _ gb284 56 #[.int .i64 a0, .int .i64 t291, .int .i64 x290002_9, .int .i64 t294, .bool ((Go.bits .and .u8 (rd l1 0) 1) == 1), .int .i64 (wrap64 ((rd l1 0) / 2)), .slice Ao50 x290006_2.length co50] (0, 0) _ rfl (by (with_reducible repeat (first | refine blk_drewN ?_ _ | refine blk_drew ?_ | refine blk_alloc ?_ _)); refine blk_put (cs := #[.int .i64 a0, .int .i64 t291, .int .i64 x290002_9, .int .i64 t294, .bool ((Go.bits .and .u8 (rd l1 0) 1) == 1), .int .i64 (wrap64 ((rd l1 0) / 2)), .slice none 0 0]) ?_ 6 _ rfl; (with_reducible repeat (first | refine blk_drewN ?_ _ | refine blk_drew ?_ | refine blk_alloc ?_ _)); refine blk_put (cs := #[.int .i64 a0, .int .i64 t291, .int .i64 x290002_9, .int .i64 t294, .bool ((Go.bits .and .u8 (rd l1 0) 1) == 1), .int .i64 0, .slice none 0 0]) ?_ 5 _ rfl; (with_reducible repeat (first | refine blk_drewN ?_ _ | refine blk_drew ?_ | refine blk_alloc ?_ _)); refine blk_put (cs := #[.int .i64 a0, .int .i64 t291, .int .i64 x290002_9, .int .i64 t294, .bool false, .int .i64 0, .slice none 0 0]) ?_ 4 _ rfl; (with_reducible repeat (first | refine blk_drewN ?_ _ | refine blk_drew ?_ | refine blk_alloc ?_ _)); refine blk_put (cs := #[.int .i64 a0, .int .i64 t291, .int .i64 x290002_9, .int .i64 0, .bool false, .int .i64 0, .slice none 0 0]) ?_ 3 _ rfl; (with_reducible repeat (first | refine blk_drewN ?_ _ | refine blk_drew ?_ | refine blk_alloc ?_ _)); refine blk_put (cs := #[.int .i64 a0, .int .i64 t291, .int .i64 0, .int .i64 0, .bool false, .int .i64 0, .slice none 0 0]) ?_ 2 _ rfl; (with_reducible repeat (first | refine blk_drewN ?_ _ | refine blk_drew ?_ | refine blk_alloc ?_ _)); refine blk_put (cs := #[.int .i64 a0, .int .i64 0, .int .i64 0, .int .i64 0, .bool false, .int .i64 0, .slice none 0 0]) ?_ 1 _ rfl; (with_reducible repeat (first | refine blk_drewN ?_ _ | refine blk_drew ?_ | refine blk_alloc ?_ _)); refine blk_put (cs := #[.int .i64 0, .int .i64 0, .int .i64 0, .int .i64 0, .bool false, .int .i64 0, .slice none 0 0]) ?_ 0 _ rfl; (with_reducible repeat (first | refine blk_drewN ?_ _ | refine blk_drew ?_ | refine blk_alloc ?_ _)); exact BK284.out) Try.underlying56 rfl (by kernel_rfl)) rfl ?_
                        exact ⟨_, by first | rfl | (simp [errW_none, errW_some] <;> rfl) | (simp [*, errW_none, errW_some] <;> rfl), by (with_reducible repeat (first | apply Kd.R_alloc | apply Kd.R_drewN | apply Kd.R_drew)); exact Kd.R_mono (Kd.R_far (p := ⟨gb284, 6, none⟩) (Kd.R_far (p := ⟨gb284, 5, none⟩) (Kd.R_far (p := ⟨gb284, 4, none⟩) (Kd.R_far (p := ⟨gb284, 3, none⟩) (Kd.R_far (p := ⟨gb284, 2, none⟩) (Kd.R_far (p := ⟨gb284, 1, none⟩) (Kd.R_far (p := ⟨gb284, 0, none⟩) (Kd.R_types HO_290006.out BK284.out (by decide)) (fun _ hk => hk.2) (.int .i64 a0)) (fun _ hk => hk.2) (.int .i64 t291)) (fun _ hk => hk.2) (.int .i64 x290002_9)) (fun _ hk => hk.2) (.int .i64 t294)) (fun _ hk => hk.2) (.bool ((Go.bits .and .u8 (rd l1 0) 1) == 1))) (fun _ hk => hk.2) (.int .i64 (wrap64 ((rd l1 0) / 2)))) (fun _ hk => hk.2) (.slice Ao50 x290006_2.length co50)) (fun _ hk => trivial), by repeat (first | (with_reducible first | exact HB.out | apply below_alloc | apply pw_below_drewN | apply below_drew1 | refine below_set ?_ GE284.out | refine below_set ?_ GE289.out) | exact HB.out)⟩
                · rw [if_neg c28] at H
                  exact absurd H (by simp)
          · rw [if_neg c8] at H
            exact absurd H (by simp)
        · rw [if_neg c6] at H
          exact absurd H (by simp)
      · rw [if_neg c5] at H
        exact absurd H (by simp)
    · rw [if_neg c4] at H
      exact absurd H (by simp)
  · rw [if_neg c3] at H
    exact absurd H (by simp)

end Go.Proofs.Ytknclghaofmnhaa.PBR
