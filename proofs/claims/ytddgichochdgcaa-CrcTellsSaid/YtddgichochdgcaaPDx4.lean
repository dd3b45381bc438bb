-- Written by a program of this session (wip/print/myprint.sh).
import Derived.Test.YtddgichochdgcaaPDx0
import Derived.Test.YtddgichochdgcaaPDx1
import Derived.Test.YtddgichochdgcaaPDx2
import Derived.Test.YtddgichochdgcaaPDx3
namespace Go.Proofs.Ytddgichochdgcaa.PD
open Go.RowKit Go.Proofs.YtddgichochdgcaaV.PrintWords Go.Proofs.YtddgichochdgcaaV.PrintLast Go.Proofs.YtddgichochdgcaaV.PrintMore
attribute [local go_sem] max2_int min2_int max_two min_two max_three min_three max_four min_four   -- for this text's walks alone
set_option linter.unusedVariables false
set_option linter.unusedSimpArgs false

/-! ### bordereaulaw1_known: function 22 -/

theorem lit_C (W : World) (fr : Nat × Nat) (e : TypeId) (xs : List Int) (hb : ∀ n, n = xs.length → n ≤ 1000) :
    Kd.C (Kd.int .u8) (W.alloc (.cells (xs.map (Value.int .u8)).toArray e fr)) (some ⟨W.heap.size, 0, none⟩) xs.length xs := by
  refine ⟨rfl, by have := hb _ rfl; omega, fun _ => ⟨_, rfl, fun j p hj => ⟨[.int .u8 p], rfl, rfl, fun i u hu => ?_⟩⟩⟩
  match i, hu with
  | 0, hu =>
    obtain rfl := Option.some.inj hu
    rw [Addr.add_lit, cell_of_row _ _ _ (xs.map (Value.int .u8)).toArray e fr (heap_alloc_new W _), Nat.zero_add, ← Array.getElem?_toList]
    simp only [Nat.add_zero, Nat.mul_one]
    show (List.map (Value.int .u8) xs)[_]? = _
    rw [List.getElem?_map, show j * (Kd.int .u8).sz = j from Nat.mul_one j, hj]
    rfl

def bordereaulaw1_known.f (k : Nat) : Option Bool := if crc_Check.f k [1, 2, 3] = some ([], false) ∧ ((crc_Put.f k [97, 98]).bind fun s => crc_Check.f k s) = some ([97, 98], true) ∧ crc_Of.f k [49, 50, 51, 52, 53, 54, 55, 56, 57] = some 3808858755 ∧ crc_Of.f k [] = some 0 ∧ (crc_Put.f k []).map List.length = some 4 then some true else none
theorem bordereaulaw1_known.mono : ∀ k, LeO (bordereaulaw1_known.f k) (bordereaulaw1_known.f (k + 1)) := by
  intro k r h
  unfold bordereaulaw1_known.f at h ⊢
  split at h
  · rename_i hc
    rw [if_pos ⟨crc_Check.mono _ _ _ hc.1, LeO.bind (crc_Put.mono _ _) (fun _ => crc_Check.mono _ _) _ hc.2.1, crc_Of.mono _ _ _ hc.2.2.1, crc_Of.mono _ _ _ hc.2.2.2.1, LeO.map _ (crc_Put.mono _ _) _ hc.2.2.2.2⟩]
    exact h
  · cases h
set_option maxHeartbeats 8000000 in
set_option maxRecDepth 100000 in
theorem bordereaulaw1_known.calls (k : Nat) (r : Bool) (w : World) (h : bordereaulaw1_known.f k = some r) :
    Calls Try.prog 22 #[] w fun e w' => e = .returned (.bool r) ∧ Below w.heap.size w w' := by
  unfold bordereaulaw1_known.f at h
  split at h
  · rename_i hc
    obtain rfl := Option.some.inj h
    obtain ⟨h1, h2, h3, h4, h5⟩ := hc
    obtain ⟨s, hs1, hs2⟩ := Option.bind_eq_some_iff.mp h2
    obtain ⟨t, ht1, ht2⟩ := Option.map_eq_some_iff.mp h5
    have kc := fun (w : World) (C : Array Value) (n c : Nat) => Lib.run_convert_bytes_const (P := Try.prog) w 29 5 C n c Try.underlying29 Try.underlying5
    have A1 := Aside0.mk h1
    have A2 := Aside0.mk hs1
    have A3 := Aside0.mk hs2
    have A4 := Aside0.mk h3
    have A5 := Aside0.mk h4
    have A6 := Aside0.mk ht1
    have A7 := Aside0.mk ht2
    clear h h1 h2 h3 h4 h5 hs1 hs2 ht1 ht2
    have HB := Aside0.mk (Below.refl w.heap.size w)
    go_enter Try.func22, Try.ntmps22
    go_wp2_with (first
      | (go_at_call 25; refine (crc_Check.calls k _ _ [1, 2, 3] [] false _ (lit_C w (0, 0) 5 [1, 2, 3] (by rintro _ rfl; decide)) (Nat.le_refl _) A1.out).mono ?_; rintro e w1 ⟨v, rfl, ho, hb⟩; have HB1 := Aside0.mk (below_step (below_alloc HB.out _) hb); clear HB A1 ho hb)
      | (go_at_call 24; refine (crc_Put.calls k _ _ [97, 98] s _ (lit_C _ _ 5 [97, 98] (by rintro _ rfl; decide)) (Nat.le_refl _) A2.out).mono ?_; rintro e w2 ⟨v, rfl, ho, hb⟩; obtain ⟨a, c, rfl⟩ := Kd.R_slice ho; have HO := Aside0.mk ho; have HB2 := Aside0.mk (below_step (below_alloc HB1.out _) hb); clear HB1 A2 ho hb)
      | (go_at_call 25; refine (crc_Check.calls k _ _ s [97, 98] true _ (Kd.R_reads' HO.out).2.2 (Kd.R_reads' HO.out).2.1 A3.out).mono ?_; rintro e w3 ⟨v, rfl, ho, hb⟩; obtain ⟨a3, c3, rfl⟩ := Kd.R_slice ho; have HO3 := Aside0.mk (Kd.R_reads' ho).2.2; have HB3 := Aside0.mk (below_step HB2.out hb); clear HB2 HO A3 ho hb)
      | (go_at_call 26; refine (crc_Of.calls k _ _ [49, 50, 51, 52, 53, 54, 55, 56, 57] 3808858755 _ (lit_C _ _ 5 [49, 50, 51, 52, 53, 54, 55, 56, 57] (by rintro _ rfl; decide)) (Nat.le_refl _) A4.out).mono ?_; rintro e w4 ⟨rfl, ⟨nd, rfl⟩⟩; clear A4)
      | (go_at_call 26; refine (crc_Of.calls k none 0 [] 0 _ (Kd.C_nil _ _) (Nat.le_refl _) A5.out).mono ?_; rintro e w5 ⟨rfl, ⟨nd2, rfl⟩⟩; clear A5; have hcv := fun (o : Obj) (m : Nat) => (Kd.C_string (P := Try.prog) (A := a3) (n := 2) (c := c3) Try.underlying29 Try.underlying5 Try.underlying9 (Kd.C_drewN (Kd.C_alloc HO3.out o) m)).trans (congrArg (fun s => Result.ok (Value.string s) _) (show strOfNums [97, 98] = ⟨#[97, 98]⟩ by decide)))
      | (go_at_call 24; refine (crc_Put.calls k none 0 [] t _ (Kd.C_nil _ _) (Nat.le_refl _) A6.out).mono ?_; rintro e w6 ⟨v, rfl, ho, hb⟩; obtain ⟨a6, c6, rfl⟩ := Kd.R_slice ho; rw [A7.out]; have HB6 := Aside0.mk (below_step (pw_below_drewN (below_alloc HB3.out _) _) hb); clear HB3 A6 ho hb))
    go_ret
    exact ⟨rfl, HB6.out⟩
  · cases h

/-! ### bordereaulaw1_CrcNumbers: function 5 -/
def bordereaulaw1_CrcNumbers.l0 : Nat → List Int → Int → Option (Bool)
  | 0, _, _ => none
  | k + 1, x1, x2 => if x2 < 200 then ((bordereauref1_Sealed.f k x1).bind fun t167 => ((some (([] : List Int) : List Int)).bind fun y170 => (if y170.length + t167.length < 140737488355328 then ((some (y170 ++ t167 : List Int)).bind fun y173 => (if (y173.length : Int) = 0 then (none) else (if 0 ≤ (Int.tmod x2 (y173.length : Int)) then (if (Int.tmod x2 (y173.length : Int)) < (y173.length : Int) then (if 0 ≤ (IntKind.u64.wrap (Int.tmod x2 8)) then ((bordereaulaw1_same.f k x1 ((((x2) % 4294967296) * 1048576) % 4294967296) ((x2) % 256)).bind fun t178 => (if t178 = true then ((bordereaulaw1_same.f k t167 (Go.bits .xor .u32 (IntKind.u32.max) ((x2) % 4294967296)) ((wrap64 (x2 * 7)) % 256)).bind fun t179 => (if t179 = true then ((bordereaulaw1_same.f k (y173.set ((Int.tmod x2 (y173.length : Int)) : Int).toNat (Go.bits .xor .u8 (rd y173 (Int.tmod x2 (y173.length : Int))) (shl .u8 1 (IntKind.u64.wrap (Int.tmod x2 8))))) 0 0).bind fun t180 => (if t180 = true then (if 0 ≤ (wrap64 ((t167.length : Int) - 1)) then (if (wrap64 ((t167.length : Int) - 1)) ≤ (t167.length : Int) then ((bordereaulaw1_same.f k (t167.take ((wrap64 ((t167.length : Int) - 1)) : Int).toNat) 1 1).bind fun t185 => (if t185 = true then (if x1.length < 140737488355328 then (bordereaulaw1_CrcNumbers.l0 k (x1 ++ [(wrap64 ((wrap64 (x2 * x2)) + 3)) % 256]) (wrap64 (x2 + 1))) else (none)) else (none))) else (none)) else (none)) else (none))) else (none))) else (none))) else (none)) else (none)) else (none)))) else (none)))) else ((bordereaulaw1_known.f k).bind fun t166 => (some t166))
def bordereaulaw1_CrcNumbers.f (k : Nat)  : Option (Bool) := bordereaulaw1_CrcNumbers.l0 k ([] : List Int) 0
theorem bordereaulaw1_CrcNumbers.mono_l : ∀ k, (∀ y0 y1, LeO (bordereaulaw1_CrcNumbers.l0 k y0 y1) (bordereaulaw1_CrcNumbers.l0 (k + 1) y0 y1))
  | 0 => fun _ _ r h => by simp [bordereaulaw1_CrcNumbers.l0] at h
  | k + 1 => by
    have ih0 := bordereaulaw1_CrcNumbers.mono_l k
    · intro y0 y1
      unfold bordereaulaw1_CrcNumbers.l0
      repeat' first
      | (with_reducible exact ih0 _ _)
      | (with_reducible exact bordereaulaw1_known.mono _)
      | (with_reducible exact bordereaulaw1_same.mono _ _ _ _)
      | (with_reducible exact bordereauref1_Sealed.mono _ _)
      | (with_reducible exact LeO.refl _)
      | (with_reducible exact LeO.none _)
      | (with_reducible refine LeO.ite ?_ ?_)
      | (with_reducible refine LeO.bind ?_ (fun _ => ?_))
      | exact ih0 _ _
      | exact bordereaulaw1_known.mono _
      | exact bordereaulaw1_same.mono _ _ _ _
      | exact bordereauref1_Sealed.mono _ _
      | exact LeO.none _
      | refine LeO.ite ?_ ?_
      | refine LeO.bind ?_ (fun _ => ?_)
theorem bordereaulaw1_CrcNumbers.mono : ∀ k, LeO (bordereaulaw1_CrcNumbers.f k ) (bordereaulaw1_CrcNumbers.f (k + 1) ) := by
  intro  k
  have ih0 := bordereaulaw1_CrcNumbers.mono_l k
  unfold bordereaulaw1_CrcNumbers.f
  repeat' first
      | (with_reducible exact ih0 _ _)
      | (with_reducible exact bordereaulaw1_known.mono _)
      | (with_reducible exact bordereaulaw1_same.mono _ _ _ _)
      | (with_reducible exact bordereauref1_Sealed.mono _ _)
      | (with_reducible exact LeO.refl _)
      | (with_reducible exact LeO.none _)
      | (with_reducible refine LeO.ite ?_ ?_)
      | (with_reducible refine LeO.bind ?_ (fun _ => ?_))
      | exact ih0 _ _
      | exact bordereaulaw1_known.mono _
      | exact bordereaulaw1_same.mono _ _ _ _
      | exact bordereauref1_Sealed.mono _ _
      | exact LeO.none _
      | refine LeO.ite ?_ ?_
      | refine LeO.bind ?_ (fun _ => ?_)
set_option maxHeartbeats 8000000 in
set_option maxRecDepth 100000 in
theorem bordereaulaw1_CrcNumbers.calls (k : Nat)  (r : Bool) (w : World) (h : bordereaulaw1_CrcNumbers.f k  = some r) :
    Calls Try.prog 5 #[] w fun e w' => e = .returned (.bool r) ∧ Below w.heap.size w w' := by
  have HB := Aside0.mk (Below.refl w.heap.size w)
  have H : (bordereaulaw1_CrcNumbers.l0 k ([] : List Int) 0) = some r := h
  clear h
  have H' := Aside0.mk H
  clear H
  go_enter Try.func5, Try.ntmps5
  go_wp2
  go_loopg [1, 2] k (fun kq v1 v2 w' => ∃ (x1_1 : List Int) (x2_1 : Int), v2 = .int .i64 x2_1 ∧ Aside0 (bordereaulaw1_CrcNumbers.l0 kq x1_1 x2_1 = some r) ∧ Aside0 (kq ≤ k) ∧ Aside0 (Kd.R (Kd.int .u8) 5 w' w.heap.size (fun _ => True) v1 x1_1) ∧ Aside0 (Below w.heap.size w w'))
  case atStart => exact ⟨(([] : List Int)), (0), (by first | rfl | (simp; done) | (simp [*]; done)), H', ⟨Nat.le_refl _⟩, ⟨by first | exact Kd.R_nil _ _ _ _ _ | exact Kd.N_nil _ _ _ _ _ | exact Kd.V_nil _ _ _ _ _ | exact Kd.Q_nil _ _ _ _ _ | exact Kd.S_nil _ _ _ _ _⟩, ⟨by repeat (first | (with_reducible first | exact HB.out | apply below_alloc | apply pw_below_drewN | apply below_drew1) | exact HB.out)⟩⟩
  case round =>
    clear H'
    obtain ⟨x1_1, x2_1, rfl, HA, HK1, HO_1, HB⟩ := hrel
    cases gk with
    | zero => exact absurd HA.out (by simp [bordereaulaw1_CrcNumbers.l0])
    | succ k1 =>
      have H := HA.out
      clear HA
      simp only [bordereaulaw1_CrcNumbers.l0] at H
      by_cases c1 : x2_1 < 200
      · rw [if_pos c1] at H
        have c1b0 : decide (x2_1 < 200) = true := decide_eq_true c1
        clear c1
        replace H := Option.bind_eq_some_iff.mp H
        obtain ⟨t167, A20, H⟩ := H
        replace H : ((some (([] : List Int) : List Int)).bind fun y170 => (if y170.length + t167.length < 140737488355328 then ((some (y170 ++ t167 : List Int)).bind fun y173 => (if (y173.length : Int) = 0 then (none) else (if 0 ≤ (Int.tmod x2_1 (y173.length : Int)) then (if (Int.tmod x2_1 (y173.length : Int)) < (y173.length : Int) then (if 0 ≤ (IntKind.u64.wrap (Int.tmod x2_1 8)) then ((bordereaulaw1_same.f k1 x1_1 ((((x2_1) % 4294967296) * 1048576) % 4294967296) ((x2_1) % 256)).bind fun t178 => (if t178 = true then ((bordereaulaw1_same.f k1 t167 (Go.bits .xor .u32 (IntKind.u32.max) ((x2_1) % 4294967296)) ((wrap64 (x2_1 * 7)) % 256)).bind fun t179 => (if t179 = true then ((bordereaulaw1_same.f k1 (y173.set ((Int.tmod x2_1 (y173.length : Int)) : Int).toNat (Go.bits .xor .u8 (rd y173 (Int.tmod x2_1 (y173.length : Int))) (shl .u8 1 (IntKind.u64.wrap (Int.tmod x2_1 8))))) 0 0).bind fun t180 => (if t180 = true then (if 0 ≤ (wrap64 ((t167.length : Int) - 1)) then (if (wrap64 ((t167.length : Int) - 1)) ≤ (t167.length : Int) then ((bordereaulaw1_same.f k1 (t167.take ((wrap64 ((t167.length : Int) - 1)) : Int).toNat) 1 1).bind fun t185 => (if t185 = true then (if x1_1.length < 140737488355328 then (bordereaulaw1_CrcNumbers.l0 k1 (x1_1 ++ [(wrap64 ((wrap64 (x2_1 * x2_1)) + 3)) % 256]) (wrap64 (x2_1 + 1))) else (none)) else (none))) else (none)) else (none)) else (none))) else (none))) else (none))) else (none)) else (none)) else (none)))) else (none))) = some r := H
        have A2 := Aside0.mk A20
        clear A20
        obtain ⟨y170, hy170⟩ : ∃ y_ : List Int, y_ = (([] : List Int)) := ⟨_, rfl⟩
        replace H : (if y170.length + t167.length < 140737488355328 then ((some (y170 ++ t167 : List Int)).bind fun y173 => (if (y173.length : Int) = 0 then (none) else (if 0 ≤ (Int.tmod x2_1 (y173.length : Int)) then (if (Int.tmod x2_1 (y173.length : Int)) < (y173.length : Int) then (if 0 ≤ (IntKind.u64.wrap (Int.tmod x2_1 8)) then ((bordereaulaw1_same.f k1 x1_1 ((((x2_1) % 4294967296) * 1048576) % 4294967296) ((x2_1) % 256)).bind fun t178 => (if t178 = true then ((bordereaulaw1_same.f k1 t167 (Go.bits .xor .u32 (IntKind.u32.max) ((x2_1) % 4294967296)) ((wrap64 (x2_1 * 7)) % 256)).bind fun t179 => (if t179 = true then ((bordereaulaw1_same.f k1 (y173.set ((Int.tmod x2_1 (y173.length : Int)) : Int).toNat (Go.bits .xor .u8 (rd y173 (Int.tmod x2_1 (y173.length : Int))) (shl .u8 1 (IntKind.u64.wrap (Int.tmod x2_1 8))))) 0 0).bind fun t180 => (if t180 = true then (if 0 ≤ (wrap64 ((t167.length : Int) - 1)) then (if (wrap64 ((t167.length : Int) - 1)) ≤ (t167.length : Int) then ((bordereaulaw1_same.f k1 (t167.take ((wrap64 ((t167.length : Int) - 1)) : Int).toNat) 1 1).bind fun t185 => (if t185 = true then (if x1_1.length < 140737488355328 then (bordereaulaw1_CrcNumbers.l0 k1 (x1_1 ++ [(wrap64 ((wrap64 (x2_1 * x2_1)) + 3)) % 256]) (wrap64 (x2_1 + 1))) else (none)) else (none))) else (none)) else (none)) else (none))) else (none))) else (none))) else (none)) else (none)) else (none)))) else (none)) = some r := by first | (rw [hy170]; with_reducible exact H) | (have H2_ := (Option.bind_some _ _).symm.trans H; rw [hy170]; with_reducible exact H2_) | (have H2_ := (Option.bind_some _ _).symm.trans H; with_reducible exact H2_) | with_reducible exact H | (rw [hy170]; exact H) | exact H
        have Ny170 := Aside0.mk hy170
        clear hy170
        by_cases c3 : y170.length + t167.length < 140737488355328
        · rw [if_pos c3] at H
          have LMc3 := Aside0.mk c3
          clear c3
          obtain ⟨y173, hy173⟩ : ∃ y_ : List Int, y_ = (y170 ++ t167) := ⟨_, rfl⟩
          replace H : (if (y173.length : Int) = 0 then (none) else (if 0 ≤ (Int.tmod x2_1 (y173.length : Int)) then (if (Int.tmod x2_1 (y173.length : Int)) < (y173.length : Int) then (if 0 ≤ (IntKind.u64.wrap (Int.tmod x2_1 8)) then ((bordereaulaw1_same.f k1 x1_1 ((((x2_1) % 4294967296) * 1048576) % 4294967296) ((x2_1) % 256)).bind fun t178 => (if t178 = true then ((bordereaulaw1_same.f k1 t167 (Go.bits .xor .u32 (IntKind.u32.max) ((x2_1) % 4294967296)) ((wrap64 (x2_1 * 7)) % 256)).bind fun t179 => (if t179 = true then ((bordereaulaw1_same.f k1 (y173.set ((Int.tmod x2_1 (y173.length : Int)) : Int).toNat (Go.bits .xor .u8 (rd y173 (Int.tmod x2_1 (y173.length : Int))) (shl .u8 1 (IntKind.u64.wrap (Int.tmod x2_1 8))))) 0 0).bind fun t180 => (if t180 = true then (if 0 ≤ (wrap64 ((t167.length : Int) - 1)) then (if (wrap64 ((t167.length : Int) - 1)) ≤ (t167.length : Int) then ((bordereaulaw1_same.f k1 (t167.take ((wrap64 ((t167.length : Int) - 1)) : Int).toNat) 1 1).bind fun t185 => (if t185 = true then (if x1_1.length < 140737488355328 then (bordereaulaw1_CrcNumbers.l0 k1 (x1_1 ++ [(wrap64 ((wrap64 (x2_1 * x2_1)) + 3)) % 256]) (wrap64 (x2_1 + 1))) else (none)) else (none))) else (none)) else (none)) else (none))) else (none))) else (none))) else (none)) else (none)) else (none))) = some r := by first | (rw [hy173]; with_reducible exact H) | (have H2_ := (Option.bind_some _ _).symm.trans H; rw [hy173]; with_reducible exact H2_) | (have H2_ := (Option.bind_some _ _).symm.trans H; with_reducible exact H2_) | with_reducible exact H | (rw [hy173]; exact H) | exact H
          have Ny173 := Aside0.mk hy173
          clear hy173
          by_cases c4 : (y173.length : Int) = 0
          · rw [if_pos c4] at H
            exact absurd H (by simp)
          · rw [if_neg c4] at H
            have c4b0 : ((y173.length : Int) == 0) = false := beq_eq_false_iff_ne.mpr c4
            have c4b1 : ((y173.length : Int) != 0) = true := bne_iff_ne.mpr c4
            have c4b2 : ¬ (y173 = []) := fun h_ => c4 (by rw [h_]; rfl)
            obtain ⟨ji5, hji5⟩ : ∃ j_ : Int, (Int.tmod x2_1 (y173.length : Int)) = j_ := ⟨_, rfl⟩
            replace H : (if 0 ≤ (ji5) then (if (ji5) < (y173.length : Int) then (if 0 ≤ (IntKind.u64.wrap (Int.tmod x2_1 8)) then ((bordereaulaw1_same.f k1 x1_1 ((((x2_1) % 4294967296) * 1048576) % 4294967296) ((x2_1) % 256)).bind fun t178 => (if t178 = true then ((bordereaulaw1_same.f k1 t167 (Go.bits .xor .u32 (IntKind.u32.max) ((x2_1) % 4294967296)) ((wrap64 (x2_1 * 7)) % 256)).bind fun t179 => (if t179 = true then ((bordereaulaw1_same.f k1 (y173.set ((ji5) : Int).toNat (Go.bits .xor .u8 (rd y173 (ji5)) (shl .u8 1 (IntKind.u64.wrap (Int.tmod x2_1 8))))) 0 0).bind fun t180 => (if t180 = true then (if 0 ≤ (wrap64 ((t167.length : Int) - 1)) then (if (wrap64 ((t167.length : Int) - 1)) ≤ (t167.length : Int) then ((bordereaulaw1_same.f k1 (t167.take ((wrap64 ((t167.length : Int) - 1)) : Int).toNat) 1 1).bind fun t185 => (if t185 = true then (if x1_1.length < 140737488355328 then (bordereaulaw1_CrcNumbers.l0 k1 (x1_1 ++ [(wrap64 ((wrap64 (x2_1 * x2_1)) + 3)) % 256]) (wrap64 (x2_1 + 1))) else (none)) else (none))) else (none)) else (none)) else (none))) else (none))) else (none))) else (none)) else (none)) else (none)) = some r := by first | (rw [hji5] at H; exact H) | (simp only [hji5] at H ⊢; exact H)
            (try rw [hji5] at A2)
            by_cases c6 : 0 ≤ (ji5)
            · rw [if_pos c6] at H
              have c6b0 : decide (0 ≤ (ji5)) = true := decide_eq_true c6
              clear c6
              by_cases c7 : (ji5) < (y173.length : Int)
              · rw [if_pos c7] at H
                have c7b0 : decide ((ji5) < (y173.length : Int)) = true := decide_eq_true c7
                clear c7
                obtain ⟨ji8, hji8⟩ : ∃ j_ : Int, (IntKind.u64.wrap (Int.tmod x2_1 8)) = j_ := ⟨_, rfl⟩
                replace H : (if 0 ≤ (ji8) then ((bordereaulaw1_same.f k1 x1_1 ((((x2_1) % 4294967296) * 1048576) % 4294967296) ((x2_1) % 256)).bind fun t178 => (if t178 = true then ((bordereaulaw1_same.f k1 t167 (Go.bits .xor .u32 (IntKind.u32.max) ((x2_1) % 4294967296)) ((wrap64 (x2_1 * 7)) % 256)).bind fun t179 => (if t179 = true then ((bordereaulaw1_same.f k1 (y173.set ((ji5) : Int).toNat (Go.bits .xor .u8 (rd y173 (ji5)) (shl .u8 1 (ji8)))) 0 0).bind fun t180 => (if t180 = true then (if 0 ≤ (wrap64 ((t167.length : Int) - 1)) then (if (wrap64 ((t167.length : Int) - 1)) ≤ (t167.length : Int) then ((bordereaulaw1_same.f k1 (t167.take ((wrap64 ((t167.length : Int) - 1)) : Int).toNat) 1 1).bind fun t185 => (if t185 = true then (if x1_1.length < 140737488355328 then (bordereaulaw1_CrcNumbers.l0 k1 (x1_1 ++ [(wrap64 ((wrap64 (x2_1 * x2_1)) + 3)) % 256]) (wrap64 (x2_1 + 1))) else (none)) else (none))) else (none)) else (none)) else (none))) else (none))) else (none))) else (none)) = some r := by first | (rw [hji8] at H; exact H) | (simp only [hji8] at H ⊢; exact H)
                (try rw [hji8] at A2)
                by_cases c9 : 0 ≤ (ji8)
                · rw [if_pos c9] at H
                  have c9b0 := eq_true c9
                  have c9b1 : decide (0 ≤ (ji8)) = true := decide_eq_true c9
                  clear c9
                  obtain ⟨ji10, hji10⟩ : ∃ j_ : Int, (shl .u8 1 (ji8)) = j_ := ⟨_, rfl⟩
                  replace H : ((bordereaulaw1_same.f k1 x1_1 ((((x2_1) % 4294967296) * 1048576) % 4294967296) ((x2_1) % 256)).bind fun t178 => (if t178 = true then ((bordereaulaw1_same.f k1 t167 (Go.bits .xor .u32 (IntKind.u32.max) ((x2_1) % 4294967296)) ((wrap64 (x2_1 * 7)) % 256)).bind fun t179 => (if t179 = true then ((bordereaulaw1_same.f k1 (y173.set ((ji5) : Int).toNat (Go.bits .xor .u8 (rd y173 (ji5)) (ji10))) 0 0).bind fun t180 => (if t180 = true then (if 0 ≤ (wrap64 ((t167.length : Int) - 1)) then (if (wrap64 ((t167.length : Int) - 1)) ≤ (t167.length : Int) then ((bordereaulaw1_same.f k1 (t167.take ((wrap64 ((t167.length : Int) - 1)) : Int).toNat) 1 1).bind fun t185 => (if t185 = true then (if x1_1.length < 140737488355328 then (bordereaulaw1_CrcNumbers.l0 k1 (x1_1 ++ [(wrap64 ((wrap64 (x2_1 * x2_1)) + 3)) % 256]) (wrap64 (x2_1 + 1))) else (none)) else (none))) else (none)) else (none)) else (none))) else (none))) else (none))) = some r := by first | (rw [hji10] at H; exact H) | (simp only [hji10] at H ⊢; exact H)
                  (try rw [hji10] at A2)
                  have hji10_ : (IntKind.u8.wrap (1 * 2 ^ min (ji8).toNat 8)) = ji10 := hji10
                  have hji10z : (ji8) ≤ 8 → (IntKind.u8.wrap (1 * 2 ^ (ji8).toNat)) = ji10 := shl_small hji10
                  have hji10u : (IntKind.u8.wrap (2 ^ min (ji8).toNat 8)) = ji10 := by have h_ := hji10_; rw [Int.one_mul] at h_; exact h_
                  have hji10v : (ji8) ≤ 8 → (IntKind.u8.wrap (2 ^ (ji8).toNat)) = ji10 := fun hle_ => by have h_ := hji10z hle_; rw [Int.one_mul] at h_; exact h_
                  obtain ⟨y177, hy177⟩ : ∃ y_ : List Int, y_ = (y173.set ((ji5) : Int).toNat (Go.bits .xor .u8 (rd y173 (ji5)) (ji10))) := ⟨_, rfl⟩
                  replace H : ((bordereaulaw1_same.f k1 x1_1 ((((x2_1) % 4294967296) * 1048576) % 4294967296) ((x2_1) % 256)).bind fun t178 => (if t178 = true then ((bordereaulaw1_same.f k1 t167 (Go.bits .xor .u32 (IntKind.u32.max) ((x2_1) % 4294967296)) ((wrap64 (x2_1 * 7)) % 256)).bind fun t179 => (if t179 = true then ((bordereaulaw1_same.f k1 y177 0 0).bind fun t180 => (if t180 = true then (if 0 ≤ (wrap64 ((t167.length : Int) - 1)) then (if (wrap64 ((t167.length : Int) - 1)) ≤ (t167.length : Int) then ((bordereaulaw1_same.f k1 (t167.take ((wrap64 ((t167.length : Int) - 1)) : Int).toNat) 1 1).bind fun t185 => (if t185 = true then (if x1_1.length < 140737488355328 then (bordereaulaw1_CrcNumbers.l0 k1 (x1_1 ++ [(wrap64 ((wrap64 (x2_1 * x2_1)) + 3)) % 256]) (wrap64 (x2_1 + 1))) else (none)) else (none))) else (none)) else (none)) else (none))) else (none))) else (none))) = some r := by first | (rw [hy177]; with_reducible exact H) | (have H2_ := (Option.bind_some _ _).symm.trans H; rw [hy177]; with_reducible exact H2_) | (have H2_ := (Option.bind_some _ _).symm.trans H; with_reducible exact H2_) | with_reducible exact H | (rw [hy177]; exact H) | exact H
                  have Ny177 := Aside0.mk hy177
                  clear hy177
                  replace H := Option.bind_eq_some_iff.mp H
                  obtain ⟨t178, A120, H⟩ := H
                  replace H : (if t178 = true then ((bordereaulaw1_same.f k1 t167 (Go.bits .xor .u32 (IntKind.u32.max) ((x2_1) % 4294967296)) ((wrap64 (x2_1 * 7)) % 256)).bind fun t179 => (if t179 = true then ((bordereaulaw1_same.f k1 y177 0 0).bind fun t180 => (if t180 = true then (if 0 ≤ (wrap64 ((t167.length : Int) - 1)) then (if (wrap64 ((t167.length : Int) - 1)) ≤ (t167.length : Int) then ((bordereaulaw1_same.f k1 (t167.take ((wrap64 ((t167.length : Int) - 1)) : Int).toNat) 1 1).bind fun t185 => (if t185 = true then (if x1_1.length < 140737488355328 then (bordereaulaw1_CrcNumbers.l0 k1 (x1_1 ++ [(wrap64 ((wrap64 (x2_1 * x2_1)) + 3)) % 256]) (wrap64 (x2_1 + 1))) else (none)) else (none))) else (none)) else (none)) else (none))) else (none))) else (none)) = some r := H
                  have A12 := Aside0.mk A120
                  clear A120
                  by_cases c13 : t178 = true
                  · subst c13
                    have H1 : ((bordereaulaw1_same.f k1 t167 (Go.bits .xor .u32 (IntKind.u32.max) ((x2_1) % 4294967296)) ((wrap64 (x2_1 * 7)) % 256)).bind fun t179 => (if t179 = true then ((bordereaulaw1_same.f k1 y177 0 0).bind fun t180 => (if t180 = true then (if 0 ≤ (wrap64 ((t167.length : Int) - 1)) then (if (wrap64 ((t167.length : Int) - 1)) ≤ (t167.length : Int) then ((bordereaulaw1_same.f k1 (t167.take ((wrap64 ((t167.length : Int) - 1)) : Int).toNat) 1 1).bind fun t185 => (if t185 = true then (if x1_1.length < 140737488355328 then (bordereaulaw1_CrcNumbers.l0 k1 (x1_1 ++ [(wrap64 ((wrap64 (x2_1 * x2_1)) + 3)) % 256]) (wrap64 (x2_1 + 1))) else (none)) else (none))) else (none)) else (none)) else (none))) else (none))) = some r := by rw [if_pos rfl] at H; exact H
                    clear H
                    have H := H1
                    clear H1
                    replace H := Option.bind_eq_some_iff.mp H
                    obtain ⟨t179, A140, H⟩ := H
                    replace H : (if t179 = true then ((bordereaulaw1_same.f k1 y177 0 0).bind fun t180 => (if t180 = true then (if 0 ≤ (wrap64 ((t167.length : Int) - 1)) then (if (wrap64 ((t167.length : Int) - 1)) ≤ (t167.length : Int) then ((bordereaulaw1_same.f k1 (t167.take ((wrap64 ((t167.length : Int) - 1)) : Int).toNat) 1 1).bind fun t185 => (if t185 = true then (if x1_1.length < 140737488355328 then (bordereaulaw1_CrcNumbers.l0 k1 (x1_1 ++ [(wrap64 ((wrap64 (x2_1 * x2_1)) + 3)) % 256]) (wrap64 (x2_1 + 1))) else (none)) else (none))) else (none)) else (none)) else (none))) else (none)) = some r := H
                    have A14 := Aside0.mk A140
                    clear A140
                    by_cases c15 : t179 = true
                    · subst c15
                      have H1 : ((bordereaulaw1_same.f k1 y177 0 0).bind fun t180 => (if t180 = true then (if 0 ≤ (wrap64 ((t167.length : Int) - 1)) then (if (wrap64 ((t167.length : Int) - 1)) ≤ (t167.length : Int) then ((bordereaulaw1_same.f k1 (t167.take ((wrap64 ((t167.length : Int) - 1)) : Int).toNat) 1 1).bind fun t185 => (if t185 = true then (if x1_1.length < 140737488355328 then (bordereaulaw1_CrcNumbers.l0 k1 (x1_1 ++ [(wrap64 ((wrap64 (x2_1 * x2_1)) + 3)) % 256]) (wrap64 (x2_1 + 1))) else (none)) else (none))) else (none)) else (none)) else (none))) = some r := by rw [if_pos rfl] at H; exact H
                      clear H
                      have H := H1
                      clear H1
                      replace H := Option.bind_eq_some_iff.mp H
                      obtain ⟨t180, A160, H⟩ := H
                      replace H : (if t180 = true then (if 0 ≤ (wrap64 ((t167.length : Int) - 1)) then (if (wrap64 ((t167.length : Int) - 1)) ≤ (t167.length : Int) then ((bordereaulaw1_same.f k1 (t167.take ((wrap64 ((t167.length : Int) - 1)) : Int).toNat) 1 1).bind fun t185 => (if t185 = true then (if x1_1.length < 140737488355328 then (bordereaulaw1_CrcNumbers.l0 k1 (x1_1 ++ [(wrap64 ((wrap64 (x2_1 * x2_1)) + 3)) % 256]) (wrap64 (x2_1 + 1))) else (none)) else (none))) else (none)) else (none)) else (none)) = some r := H
                      have A16 := Aside0.mk A160
                      clear A160
                      by_cases c17 : t180 = true
                      · subst c17
                        have H1 : (if 0 ≤ (wrap64 ((t167.length : Int) - 1)) then (if (wrap64 ((t167.length : Int) - 1)) ≤ (t167.length : Int) then ((bordereaulaw1_same.f k1 (t167.take ((wrap64 ((t167.length : Int) - 1)) : Int).toNat) 1 1).bind fun t185 => (if t185 = true then (if x1_1.length < 140737488355328 then (bordereaulaw1_CrcNumbers.l0 k1 (x1_1 ++ [(wrap64 ((wrap64 (x2_1 * x2_1)) + 3)) % 256]) (wrap64 (x2_1 + 1))) else (none)) else (none))) else (none)) else (none)) = some r := by rw [if_pos rfl] at H; exact H
                        clear H
                        have H := H1
                        clear H1
                        obtain ⟨ji18, hji18⟩ : ∃ j_ : Int, (wrap64 ((t167.length : Int) - 1)) = j_ := ⟨_, rfl⟩
                        replace H : (if 0 ≤ (ji18) then (if (ji18) ≤ (t167.length : Int) then ((bordereaulaw1_same.f k1 (t167.take ((ji18) : Int).toNat) 1 1).bind fun t185 => (if t185 = true then (if x1_1.length < 140737488355328 then (bordereaulaw1_CrcNumbers.l0 k1 (x1_1 ++ [(wrap64 ((wrap64 (x2_1 * x2_1)) + 3)) % 256]) (wrap64 (x2_1 + 1))) else (none)) else (none))) else (none)) else (none)) = some r := by first | (rw [hji18] at H; exact H) | (simp only [hji18] at H ⊢; exact H)
                        (try rw [hji18] at A2)
                        (try rw [hji18] at A12)
                        (try rw [hji18] at A14)
                        (try rw [hji18] at A16)
                        have hji18w : (IntKind.i64.wrap ((t167.length : Int) - 1)) = ji18 := (i64_w _).trans hji18
                        by_cases c19 : 0 ≤ (ji18)
                        · rw [if_pos c19] at H
                          have c19b0 := eq_true c19
                          have c19b1 : decide (0 ≤ (ji18)) = true := decide_eq_true c19
                          clear c19
                          by_cases c20 : (ji18) ≤ (t167.length : Int)
                          · rw [if_pos c20] at H
                            have c20b0 := eq_true c20
                            have c20b1 : decide ((ji18) ≤ (t167.length : Int)) = true := decide_eq_true c20
                            clear c20
                            obtain ⟨y181, hy181⟩ : ∃ y_ : List Int, y_ = (t167.take ((ji18) : Int).toNat) := ⟨_, rfl⟩
                            replace H : ((bordereaulaw1_same.f k1 y181 1 1).bind fun t185 => (if t185 = true then (if x1_1.length < 140737488355328 then (bordereaulaw1_CrcNumbers.l0 k1 (x1_1 ++ [(wrap64 ((wrap64 (x2_1 * x2_1)) + 3)) % 256]) (wrap64 (x2_1 + 1))) else (none)) else (none))) = some r := by first | (rw [hy181]; with_reducible exact H) | (have H2_ := (Option.bind_some _ _).symm.trans H; rw [hy181]; with_reducible exact H2_) | (have H2_ := (Option.bind_some _ _).symm.trans H; with_reducible exact H2_) | with_reducible exact H | (rw [hy181]; exact H) | exact H
                            have Ny181 := Aside0.mk hy181
                            clear hy181
                            replace H := Option.bind_eq_some_iff.mp H
                            obtain ⟨t185, A210, H⟩ := H
                            replace H : (if t185 = true then (if x1_1.length < 140737488355328 then (bordereaulaw1_CrcNumbers.l0 k1 (x1_1 ++ [(wrap64 ((wrap64 (x2_1 * x2_1)) + 3)) % 256]) (wrap64 (x2_1 + 1))) else (none)) else (none)) = some r := H
                            have A21 := Aside0.mk A210
                            clear A210
                            by_cases c22 : t185 = true
                            · subst c22
                              have H1 : (if x1_1.length < 140737488355328 then (bordereaulaw1_CrcNumbers.l0 k1 (x1_1 ++ [(wrap64 ((wrap64 (x2_1 * x2_1)) + 3)) % 256]) (wrap64 (x2_1 + 1))) else (none)) = some r := by rw [if_pos rfl] at H; exact H
                              clear H
                              have H := H1
                              clear H1
                              by_cases c23 : x1_1.length < 140737488355328
                              · rw [if_pos c23] at H
                                have LMc23 := Aside0.mk c23
                                clear c23
                                obtain ⟨y186, hy186⟩ : ∃ y_ : List Int, y_ = (x1_1 ++ [(wrap64 ((wrap64 (x2_1 * x2_1)) + 3)) % 256]) := ⟨_, rfl⟩
                                replace H : (bordereaulaw1_CrcNumbers.l0 k1 y186 (wrap64 (x2_1 + 1))) = some r := by first | (rw [hy186]; with_reducible exact H) | (have H2_ := (Option.bind_some _ _).symm.trans H; rw [hy186]; with_reducible exact H2_) | (have H2_ := (Option.bind_some _ _).symm.trans H; with_reducible exact H2_) | with_reducible exact H | (rw [hy186]; exact H) | exact H
                                have Ny186 := Aside0.mk hy186
                                clear hy186
                                have H' := Aside0.mk H
                                clear H
                                obtain ⟨Ao24, co24, eo24⟩ := Kd.R_slice HO_1.out
                                subst eo24
                                go_wp2_with (first | ((with_reducible refine gate_callee (f := 20) rfl ?_); refine goesL_ (some 10) rfl rfl Try.func20 (by kernel_rfl) rfl #[.slice Ao24 x1_1.length co24] rfl (by (try simp only [List.map_toArray, List.map_cons, List.map_nil]); first | done | rfl | (simp only [List.length_drop, List.length_take]; rfl)) ?_; (with_reducible refine (bordereauref1_Sealed.calls k1 _ _ x1_1 t167 _ ?side1 ?side2 A2.out).mono ?_); (case side1 => repeat (first | exact (Kd.R_reads' HO_1.out).2.2 | (with_reducible refine Kd.C_alloc ?_ _) | (with_reducible refine Kd.C_drewN ?_ _) | (with_reducible refine Kd.C_drew ?_))); (case side2 => exact (Kd.R_reads' HO_1.out).2.1); rintro e w25 ⟨v168, rfl, ho0, hb⟩; refine ⟨_, rfl, ?_⟩; have n0_ := Aside0.mk (Kd.R_elder' (by (with_reducible repeat (first | apply Kd.R_alloc | apply Kd.R_drewN | apply Kd.R_drew)); exact HO_1.out) (Kd.R_base ho0) hb); have n1_ := Aside0.mk (Kd.R_lower (Kd.R_new' ho0 (Kd.R_lt (by (with_reducible repeat (first | apply Kd.R_alloc | apply Kd.R_drewN | apply Kd.R_drew)); exact HO_1.out))) (below_size (by repeat (first | (with_reducible first | exact HB.out | apply below_alloc | apply pw_below_drewN | apply below_drew1) | exact HB.out)))); have n2_ := Aside0.mk (below_step (by repeat (first | (with_reducible first | exact HB.out | apply below_alloc | apply pw_below_drewN | apply below_drew1) | exact HB.out)) hb); clear HO_1; clear HB; have HO_1 := n0_; have HO169 := n1_; have HB := n2_; clear n0_ n1_ n2_; (try clear hb); (try clear hb2); (try clear hk); (try clear hi); (try clear ho0)) | ((with_reducible refine gate_dst (N := 11) rfl ?_); refine Kd.R_lit (Kd.int .u8) _ 5 ?hg (N := 11) ?hd (xs := ([] : List Int)) (inner := []) (ok := fun _ => True) (okp := fun _ => True) ?hr ?hp (fun _ hk => hk) trivial (Below.refl _ _) (Nat.le_refl _) (by simp) ?_; (case hd => rfl); (case hg => rfl); (case hr => first | (go_simp; done) | (go_simp; rfl)); (case hp => exact (Reps.none _ _)); intro v171 w26 ho27 hb hg_ hnew_; clear hg_ hnew_; (first | rw [← Ny170.out] at ho27 | (simp only [Int.reduceToNat] at ho27; rw [← Ny170.out] at ho27)); have n0_ := Aside0.mk (Kd.R_elder' (by (with_reducible repeat (first | apply Kd.R_alloc | apply Kd.R_drewN | apply Kd.R_drew)); exact HO_1.out) (Kd.R_base ho27) hb); have n1_ := Aside0.mk (Kd.R_elder' (by (with_reducible repeat (first | apply Kd.R_alloc | apply Kd.R_drewN | apply Kd.R_drew)); exact HO169.out) (Kd.R_base ho27) hb); have n2_ := Aside0.mk (Kd.R_lower (Kd.R_new' (Kd.R_new' ho27 (Kd.R_lt (by (with_reducible repeat (first | apply Kd.R_alloc | apply Kd.R_drewN | apply Kd.R_drew)); exact HO_1.out))) (Kd.R_lt (by (with_reducible repeat (first | apply Kd.R_alloc | apply Kd.R_drewN | apply Kd.R_drew)); exact HO169.out))) (below_size (by repeat (first | (with_reducible first | exact HB.out | apply below_alloc | apply pw_below_drewN | apply below_drew1) | exact HB.out)))); have n3_ := Aside0.mk (below_step (by repeat (first | (with_reducible first | exact HB.out | apply below_alloc | apply pw_below_drewN | apply below_drew1) | exact HB.out)) hb); clear HO_1; clear HO169; clear HB; have HO_1 := n0_; have HO169 := n1_; have HO172 := n2_; have HB := n3_; clear n0_ n1_ n2_ n3_; clear hb ho27; obtain ⟨Ao29, co29, eo29⟩ := Kd.R_slice HO169.out; subst eo29) | ((with_reducible refine gate_builtin (b := .append) (xs := #[.tmp 11, .tmp 12]) rfl ?_); at_builtin; refine Kd.R_append_rows (Kd.int .u8) (w0 := w) w.heap.size rfl (.tmp 11) (.tmp 12) 29 5 (.int .u8 0) 1 rfl Try.underlying29 info5 rfl (by decide) (by omega) v171 y170 t167 _ _ _ (fun k_ => some k_ ≠ (.slice Ao24 x1_1.length co24 : Value).ownBlock ∧ some k_ ≠ (.slice Ao29 t167.length co29 : Value).ownBlock) (fun _ => False) rfl rfl ?aO ?aR (fun _ _ h => h) (fun _ h => h.elim) ?aF ?aB ?aS ?aL ?_; (case aR => repeat (first | exact (Kd.R_reads' HO169.out).2.2 | (with_reducible refine Kd.C_alloc ?_ _) | (with_reducible refine Kd.C_drewN ?_ _) | (with_reducible refine Kd.C_drew ?_))); (case aB => exact (by repeat (first | (with_reducible first | exact HB.out | apply below_alloc | apply pw_below_drewN | apply below_drew1) | exact HB.out))); (case aF => exact (fun k_ hk => ⟨Kd.fresh' (Kd.R_lt (by (with_reducible repeat (first | apply Kd.R_alloc | apply Kd.R_drewN | apply Kd.R_drew)); exact HO_1.out)) k_ hk, Kd.fresh' (Kd.R_lt (by (with_reducible repeat (first | apply Kd.R_alloc | apply Kd.R_drewN | apply Kd.R_drew)); exact HO169.out)) k_ hk⟩)); (case aO => exact (by (with_reducible repeat (first | apply Kd.R_alloc | apply Kd.R_drewN | apply Kd.R_drew)); exact Kd.R_mono HO172.out (fun _ hk => ⟨hk.1.2, hk.2⟩))); (case aS => exact (below_size (by repeat (first | (with_reducible first | exact HB.out | apply below_alloc | apply pw_below_drewN | apply below_drew1) | exact HB.out)))); (case aL => have := LMc3.out; omega); intro v174 w28 ho hb hg hat; rw [← Ny173.out] at ho; have n0_ := Aside0.mk (Kd.R_after (ok := (fun k_ => some k_ ≠ (.slice Ao29 t167.length co29 : Value).ownBlock)) (by (with_reducible repeat (first | apply Kd.R_alloc | apply Kd.R_drewN | apply Kd.R_drew)); exact Kd.R_mono HO_1.out (fun _ hk => ⟨hk.1.2, hk.2⟩)) hg hat); have n1_ := Aside0.mk (Kd.R_after (ok := (fun k_ => some k_ ≠ (.slice Ao24 x1_1.length co24 : Value).ownBlock)) (by (with_reducible repeat (first | apply Kd.R_alloc | apply Kd.R_drewN | apply Kd.R_drew)); exact Kd.R_mono HO169.out (fun _ hk => ⟨hk.1.2, hk.2⟩)) hg hat); have n2_ := Aside0.mk (hb); have n3_ := Aside0.mk (ho); clear HO_1; clear HO169; clear HB; clear HO172; have HO_1 := n0_; have HO169 := n1_; have HB := n2_; have HO175 := n3_; clear n0_ n1_ n2_ n3_; clear ho hb hg hat; obtain ⟨Ao30, co30, eo30⟩ := Kd.R_slice HO175.out; subst eo30; have p176 : 0 ≤ ((ji5) : Int) := of_decide_eq_true (by first | (with_reducible assumption) | assumption); have q176 : (ji5) < (y173.length : Int) := of_decide_eq_true (by first | (with_reducible assumption) | assumption); obtain ⟨ad176, e176, hx176_0⟩ := Kd.at_int (Kd.R_reads' HO175.out).2.2 (ji5) p176 q176; cases e176; replace p176 := eq_true p176; replace q176 := eq_true q176; have p11 : 0 ≤ ((ji5) : Int) := of_decide_eq_true (by first | (with_reducible assumption) | assumption); have q11 : ((ji5) : Int) < ((y173.length : Int) : Int) := of_decide_eq_true (by first | (with_reducible assumption) | assumption); obtain ⟨go11, co11, eo11, gb11, gl11, cl11, HG11⟩ := Kd.R_form HO175.out (by omega); (first | cases eo11 | (injection eo11 with ea_ en_ ec_; (first | subst ea_ | (injection ea_ with ea_; subst ea_)); subst ec_; clear en_)); have GB11 := Aside0.mk gb11; have GG11 := Aside0.mk HG11; clear gb11 gl11 HG11; (first | simp only [add_plain] at hx176_0 | skip); obtain ⟨hx11_0, hf11_0⟩ := Kd.R_celln 0 HO175.out ((ji5) : Int) p11 q11; replace p11 := eq_true p11; replace q11 := eq_true q11; obtain ⟨hy31_, hz31_⟩ := Kd.R_celln 0 HO175.out ((ji5) : Int) (of_decide_eq_true (by first | (with_reducible assumption) | assumption)) (of_decide_eq_true (by first | (with_reducible assumption) | assumption)); have HP31 := Kd.R_putg HO175.out ((ji5) : Int) (Go.bits .xor .u8 (rd y173 (ji5)) (ji10))) | ((with_reducible refine gate_store (t := 5) (p := 26) rfl ?_); refine store_event (t := 5) (p := 26) (v := ?vo_w32) (w1 := (w28.setCell ⟨go11, ((ji5) : Int).toNat, none⟩ (.int .u8 (Go.bits .xor .u8 (rd y173 (ji5)) (ji10))))) ?hg ?ho ?hn ?hr ?_; (case ho => rfl); (case hg => rfl); (case hn => rfl); (case hr => first | (go_simp; done) | (go_simp; rfl)); intro w32 hw; have hg : w28.grownBy w32 (some go11) := (by rw [hw]; exact HP31.2); have hp_ : Kd.R (Kd.int .u8) 5 w32 w.heap.size (fun k_ => some k_ ≠ (.slice Ao24 x1_1.length co24 : Value).ownBlock ∧ some k_ ≠ (.slice Ao29 t167.length co29 : Value).ownBlock) (.slice (some ⟨go11, 0, none⟩) y173.length co30) y177 := (by rw [hw, Ny177.out]; exact HP31.1); clear HP31; have n0_ := Aside0.mk (Kd.R_after (v := (.slice (some ⟨go11, 0, none⟩) y173.length co30)) (v1 := (.slice (some ⟨go11, 0, none⟩) y173.length co30)) (ok := (fun k_ => some k_ ≠ (.slice Ao29 t167.length co29 : Value).ownBlock)) (by (with_reducible repeat (first | apply Kd.R_alloc | apply Kd.R_drewN | apply Kd.R_drew)); exact HO_1.out) hg (.inl rfl)); have n1_ := Aside0.mk (Kd.R_after (v := (.slice (some ⟨go11, 0, none⟩) y173.length co30)) (v1 := (.slice (some ⟨go11, 0, none⟩) y173.length co30)) (ok := (fun k_ => some k_ ≠ (.slice Ao24 x1_1.length co24 : Value).ownBlock)) (by (with_reducible repeat (first | apply Kd.R_alloc | apply Kd.R_drewN | apply Kd.R_drew)); exact HO169.out) hg (.inl rfl)); have n2_ := Aside0.mk (hp_); have n3_ := Aside0.mk ((by rw [hw]; exact below_set (HB.out) GB11.out : Below w.heap.size w w32)); clear HO_1; clear HO169; clear HO175; clear HB; have HO_1 := n0_; have HO169 := n1_; have HO175 := n2_; have HB := n3_; clear n0_ n1_ n2_ n3_; clear hg hw hp_) | ((with_reducible refine gate_callee (f := 21) rfl ?_); refine goesL_ (some 33) rfl rfl Try.func21 (by kernel_rfl) rfl #[.slice Ao24 x1_1.length co24, .int .u32 ((((x2_1) % 4294967296) * 1048576) % 4294967296), .int .u8 ((x2_1) % 256)] rfl (by (try simp only [List.map_toArray, List.map_cons, List.map_nil]); first | done | rfl | (simp only [List.length_drop, List.length_take]; rfl)) ?_; (with_reducible refine (bordereaulaw1_same.calls k1 _ _ x1_1 ((((x2_1) % 4294967296) * 1048576) % 4294967296) ((x2_1) % 256) true _ ?side1 ?side2 A12.out).mono ?_); (case side1 => repeat (first | exact (Kd.R_reads' HO_1.out).2.2 | (with_reducible refine Kd.C_alloc ?_ _) | (with_reducible refine Kd.C_drewN ?_ _) | (with_reducible refine Kd.C_drew ?_))); (case side2 => exact (Kd.R_reads' HO_1.out).2.1); rintro e w33 ⟨rfl, hb⟩; refine ⟨_, rfl, ?_⟩; have n0_ := Aside0.mk (Kd.R_below (by (with_reducible repeat (first | apply Kd.R_alloc | apply Kd.R_drewN | apply Kd.R_drew)); exact HO_1.out) hb); have n1_ := Aside0.mk (Kd.R_below (by (with_reducible repeat (first | apply Kd.R_alloc | apply Kd.R_drewN | apply Kd.R_drew)); exact HO169.out) hb); have n2_ := Aside0.mk (Kd.R_below (by (with_reducible repeat (first | apply Kd.R_alloc | apply Kd.R_drewN | apply Kd.R_drew)); exact HO175.out) hb); have n3_ := Aside0.mk (below_step (by repeat (first | (with_reducible first | exact HB.out | apply below_alloc | apply pw_below_drewN | apply below_drew1) | exact HB.out)) hb); clear HO_1; clear HO169; clear HO175; clear HB; have HO_1 := n0_; have HO169 := n1_; have HO175 := n2_; have HB := n3_; clear n0_ n1_ n2_ n3_; (try clear hb); (try clear hb2); (try clear hk); (try clear hi)) | (go_at_call 21; (with_reducible refine (bordereaulaw1_same.calls k1 _ _ t167 (Go.bits .xor .u32 (IntKind.u32.max) ((x2_1) % 4294967296)) ((wrap64 (x2_1 * 7)) % 256) true _ ?side1 ?side2 A14.out).mono ?_); (case side1 => repeat (first | exact (Kd.R_reads' HO169.out).2.2 | (with_reducible refine Kd.C_alloc ?_ _) | (with_reducible refine Kd.C_drewN ?_ _) | (with_reducible refine Kd.C_drew ?_))); (case side2 => exact (Kd.R_reads' HO169.out).2.1); rintro e w34 ⟨rfl, hb⟩; have n0_ := Aside0.mk (Kd.R_below (by (with_reducible repeat (first | apply Kd.R_alloc | apply Kd.R_drewN | apply Kd.R_drew)); exact HO_1.out) hb); have n1_ := Aside0.mk (Kd.R_below (by (with_reducible repeat (first | apply Kd.R_alloc | apply Kd.R_drewN | apply Kd.R_drew)); exact HO169.out) hb); have n2_ := Aside0.mk (Kd.R_below (by (with_reducible repeat (first | apply Kd.R_alloc | apply Kd.R_drewN | apply Kd.R_drew)); exact HO175.out) hb); have n3_ := Aside0.mk (below_step (by repeat (first | (with_reducible first | exact HB.out | apply below_alloc | apply pw_below_drewN | apply below_drew1) | exact HB.out)) hb); clear HO_1; clear HO169; clear HO175; clear HB; have HO_1 := n0_; have HO169 := n1_; have HO175 := n2_; have HB := n3_; clear n0_ n1_ n2_ n3_; (try clear hb); (try clear hb2); (try clear hk); (try clear hi)) | (go_at_call 21; refine calls_of_args (args' := #[.slice (some ⟨go11, 0, none⟩) y177.length co30, .int .u32 0, .int .u8 0]) (by first | (rw [show y177.length = y173.length from (Kd.R_reads' HO175.out).1.symm] <;> rfl) | rfl) ?_; (with_reducible refine (bordereaulaw1_same.calls k1 _ _ y177 0 0 true _ ?side1 ?side2 A16.out).mono ?_); (case side1 => repeat (first | exact (Kd.R_reads' HO175.out).2.2 | (with_reducible refine Kd.C_alloc ?_ _) | (with_reducible refine Kd.C_drewN ?_ _) | (with_reducible refine Kd.C_drew ?_))); (case side2 => rw [show y177.length = y173.length from (Kd.R_reads' HO175.out).1.symm]; exact (Kd.R_reads' HO175.out).2.1); rintro e w35 ⟨rfl, hb⟩; have n0_ := Aside0.mk (Kd.R_below (by (with_reducible repeat (first | apply Kd.R_alloc | apply Kd.R_drewN | apply Kd.R_drew)); exact HO_1.out) hb); have n1_ := Aside0.mk (Kd.R_below (by (with_reducible repeat (first | apply Kd.R_alloc | apply Kd.R_drewN | apply Kd.R_drew)); exact HO169.out) hb); have n2_ := Aside0.mk (Kd.R_below (by (with_reducible repeat (first | apply Kd.R_alloc | apply Kd.R_drewN | apply Kd.R_drew)); exact HO175.out) hb); have n3_ := Aside0.mk (below_step (by repeat (first | (with_reducible first | exact HB.out | apply below_alloc | apply pw_below_drewN | apply below_drew1) | exact HB.out)) hb); clear HO_1; clear HO169; clear HO175; clear HB; have HO_1 := n0_; have HO169 := n1_; have HO175 := n2_; have HB := n3_; clear n0_ n1_ n2_ n3_; (try clear hb); (try clear hb2); (try clear hk); (try clear hi); have q36 : ((ji18) : Int) ≤ ((t167.length : Int) : Int) := of_decide_eq_true (by first | (with_reducible assumption) | assumption); obtain ⟨i036, hi036, _, hsz36, _⟩ := info_parts info5; have hroom36 : t167.length ≤ co29 := (Kd.R_reads' HO169.out).2.1; have hC36 : Kd.C (Kd.int .u8) _ Ao29 t167.length t167 := (Kd.R_reads' HO169.out).2.2; have hcut36 := cut_to (P := Try.prog) 29 5 .i64 Try.underlying29 hi036 Ao29 t167.length co29 (ji18) (of_decide_eq_true (by first | (with_reducible assumption) | assumption)) q36 hroom36; have hr36 := Kd.C_take (m := ((ji18) : Int).toNat) hC36 (by omega); have hy36 : y181.length = ((ji18) : Int).toNat := (by rw [Ny181.out, List.length_take]; omega); rw [← Ny181.out] at hr36; rw [← hy36] at hcut36; have HR184 := Aside0.mk hr36; have HC184 := Aside0.mk (show y181.length ≤ co29 from by omega); clear hr36 hC36 hroom36 hi036 hsz36; have KY36 := Aside0.mk hy36; clear hy36; have KL36 := Aside0.mk (show ((ji18) : Int).toNat ≤ t167.length from by omega); replace q36 := eq_true q36) | (go_at_call 21; (with_reducible refine (bordereaulaw1_same.calls k1 _ _ y181 1 1 true _ ?side1 ?side2 A21.out).mono ?_); (case side1 => repeat (first | exact (by repeat (first | (with_reducible exact HR184.out) | (with_reducible refine Kd.C_alloc ?_ _) | (with_reducible refine Kd.C_drewN ?_ _) | (with_reducible refine Kd.C_drew ?_) | exact HR184.out)) | (with_reducible refine Kd.C_alloc ?_ _) | (with_reducible refine Kd.C_drewN ?_ _) | (with_reducible refine Kd.C_drew ?_))); (case side2 => exact HC184.out); rintro e w37 ⟨rfl, hb⟩; have n0_ := Aside0.mk (Kd.R_below (by (with_reducible repeat (first | apply Kd.R_alloc | apply Kd.R_drewN | apply Kd.R_drew)); exact HO_1.out) hb); have n1_ := Aside0.mk (Kd.R_below (by (with_reducible repeat (first | apply Kd.R_alloc | apply Kd.R_drewN | apply Kd.R_drew)); exact HO169.out) hb); have n2_ := Aside0.mk (Kd.R_below (by (with_reducible repeat (first | apply Kd.R_alloc | apply Kd.R_drewN | apply Kd.R_drew)); exact HO175.out) hb); have n3_ := Aside0.mk (Kd.C_below (by repeat (first | (with_reducible exact HR184.out) | (with_reducible refine Kd.C_alloc ?_ _) | (with_reducible refine Kd.C_drewN ?_ _) | (with_reducible refine Kd.C_drew ?_) | exact HR184.out)) hb); have n4_ := Aside0.mk (below_step (by repeat (first | (with_reducible first | exact HB.out | apply below_alloc | apply pw_below_drewN | apply below_drew1) | exact HB.out)) hb); clear HO_1; clear HO169; clear HO175; clear HR184; clear HB; have HO_1 := n0_; have HO169 := n1_; have HO175 := n2_; have HR184 := n3_; have HB := n4_; clear n0_ n1_ n2_ n3_ n4_; (try clear hb); (try clear hb2); (try clear hk); (try clear hi)) | ((with_reducible refine gate_builtin (b := .append) (xs := #[.tmp 60, .tmp 66]) rfl ?_); at_builtin; refine Kd.R_append (Kd.int .u8) (w0 := w) w.heap.size rfl (.tmp 60) (.tmp 66) 29 5 (.int .u8 0) 1 rfl Try.underlying29 info5 rfl (by decide) (by omega) (.slice Ao24 x1_1.length co24) x1_1 ((wrap64 ((wrap64 (x2_1 * x2_1)) + 3)) % 256) [.int .u8 ((wrap64 ((wrap64 (x2_1 * x2_1)) + 3)) % 256)] (fun k_ => some k_ ≠ (.slice Ao29 t167.length co29 : Value).ownBlock ∧ some k_ ≠ (.slice (some ⟨go11, 0, none⟩) y173.length co30 : Value).ownBlock) (fun _ => False) rfl rfl ?aP (fun _ hk => hk.elim) ?aF ?aO ?aB ?aS ?aL ?_; (case aP => exact rfl); (case aB => exact (by repeat (first | (with_reducible first | exact HB.out | apply below_alloc | apply pw_below_drewN | apply below_drew1) | exact HB.out))); (case aF => exact (fun k_ hk => ⟨Kd.fresh' (Kd.R_lt (by (with_reducible repeat (first | apply Kd.R_alloc | apply Kd.R_drewN | apply Kd.R_drew)); exact HO169.out)) k_ hk, Kd.fresh' (Kd.R_lt (by (with_reducible repeat (first | apply Kd.R_alloc | apply Kd.R_drewN | apply Kd.R_drew)); exact HO175.out)) k_ hk⟩)); (case aO => exact (by (with_reducible repeat (first | apply Kd.R_alloc | apply Kd.R_drewN | apply Kd.R_drew)); exact HO_1.out)); (case aS => exact (below_size (by repeat (first | (with_reducible first | exact HB.out | apply below_alloc | apply pw_below_drewN | apply below_drew1) | exact HB.out)))); (case aL => have := LMc23.out; omega); intro v187 w38 ho hb hg hat; rw [← Ny186.out] at ho; have n0_ := Aside0.mk (Kd.R_after (ok := (fun k_ => some k_ ≠ (.slice (some ⟨go11, 0, none⟩) y173.length co30 : Value).ownBlock)) (by (with_reducible repeat (first | apply Kd.R_alloc | apply Kd.R_drewN | apply Kd.R_drew)); exact Kd.R_mono HO169.out (fun _ hk => ⟨hk.2, hk.1⟩)) hg hat); have n1_ := Aside0.mk (Kd.R_after (ok := (fun k_ => some k_ ≠ (.slice Ao29 t167.length co29 : Value).ownBlock)) (by (with_reducible repeat (first | apply Kd.R_alloc | apply Kd.R_drewN | apply Kd.R_drew)); exact Kd.R_mono HO175.out (fun _ hk => ⟨hk.2, hk.1⟩)) hg hat); have n2_ := Aside0.mk (hb); have n3_ := Aside0.mk ((show Kd.C (Kd.int .u8) w38 Ao29 y181.length y181 from by rw [Ny181.out]; exact Kd.C_take (m := ((ji18) : Int).toNat) ((Kd.R_reads' (Kd.R_after (ok := (fun k_ => some k_ ≠ (.slice (some ⟨go11, 0, none⟩) y173.length co30 : Value).ownBlock)) (by (with_reducible repeat (first | apply Kd.R_alloc | apply Kd.R_drewN | apply Kd.R_drew)); exact Kd.R_mono HO169.out (fun _ hk => ⟨hk.2, hk.1⟩)) hg hat)).2.2) KL36.out)); have n4_ := Aside0.mk (ho); clear HO169; clear HO175; clear HB; clear HR184; clear HO_1; have HO169 := n0_; have HO175 := n1_; have HB := n2_; have HR184 := n3_; have HO188 := n4_; clear n0_ n1_ n2_ n3_ n4_; clear ho hb hg hat))
                                go_roundg k1
                                case measure => have := HK1.out; omega
                                case rel => exact ⟨(y186), (wrap64 (x2_1 + 1)), (by first | rfl | (simp; done) | (simp [*]; done)), H', ⟨by have := HK1.out; omega⟩, ⟨by (with_reducible repeat (first | apply Kd.R_alloc | apply Kd.R_drewN | apply Kd.R_drew)); exact Kd.R_mono HO188.out (fun _ hk => trivial)⟩, ⟨by repeat (first | (with_reducible first | exact HB.out | apply below_alloc | apply pw_below_drewN | apply below_drew1) | exact HB.out)⟩⟩
                              · rw [if_neg c23] at H
                                exact absurd H (by simp)
                            · replace c22 := Bool.eq_false_iff.mpr c22
                              subst c22
                              have H1 : (none) = some r := by rw [if_neg (show ¬ (false = true) by decide)] at H; exact H
                              clear H
                              have H := H1
                              clear H1
                              exact absurd H (by simp)
                          · rw [if_neg c20] at H
                            exact absurd H (by simp)
                        · rw [if_neg c19] at H
                          exact absurd H (by simp)
                      · replace c17 := Bool.eq_false_iff.mpr c17
                        subst c17
                        have H1 : (none) = some r := by rw [if_neg (show ¬ (false = true) by decide)] at H; exact H
                        clear H
                        have H := H1
                        clear H1
                        exact absurd H (by simp)
                    · replace c15 := Bool.eq_false_iff.mpr c15
                      subst c15
                      have H1 : (none) = some r := by rw [if_neg (show ¬ (false = true) by decide)] at H; exact H
                      clear H
                      have H := H1
                      clear H1
                      exact absurd H (by simp)
                  · replace c13 := Bool.eq_false_iff.mpr c13
                    subst c13
                    have H1 : (none) = some r := by rw [if_neg (show ¬ (false = true) by decide)] at H; exact H
                    clear H
                    have H := H1
                    clear H1
                    exact absurd H (by simp)
                · rw [if_neg c9] at H
                  exact absurd H (by simp)
              · rw [if_neg c7] at H
                exact absurd H (by simp)
            · rw [if_neg c6] at H
              exact absurd H (by simp)
        · rw [if_neg c3] at H
          exact absurd H (by simp)
      · rw [if_neg c1] at H
        have c1b0 : decide (x2_1 < 200) = false := decide_eq_false c1
        clear c1
        replace H := Option.bind_eq_some_iff.mp H
        obtain ⟨t166, A390, H⟩ := H
        replace H : (some t166) = some r := H
        have A39 := Aside0.mk A390
        clear A390
        obtain rfl := Option.some.inj H
        go_wp2_with (first | ((with_reducible refine gate_callee (f := 22) rfl ?_); refine goesL_ (some 68) rfl rfl Try.func22 (by kernel_rfl) rfl #[] rfl (by (try simp only [List.map_toArray, List.map_cons, List.map_nil]); first | done | rfl | (simp only [List.length_drop, List.length_take]; rfl)) ?_; (with_reducible refine (bordereaulaw1_known.calls k1  t166 _ A39.out).mono ?_); rintro e w40 ⟨rfl, hb⟩; refine ⟨_, rfl, ?_⟩; have n0_ := Aside0.mk (Kd.R_below (by (with_reducible repeat (first | apply Kd.R_alloc | apply Kd.R_drewN | apply Kd.R_drew)); exact HO_1.out) hb); have n1_ := Aside0.mk (below_step (by repeat (first | (with_reducible first | exact HB.out | apply below_alloc | apply pw_below_drewN | apply below_drew1) | exact HB.out)) hb); clear HO_1; clear HB; have HO_1 := n0_; have HB := n1_; clear n0_ n1_; (try clear hb); (try clear hb2); (try clear hk); (try clear hi)))
        go_ret
        exact ⟨by first | rfl | (simp [errW_none, errW_some] <;> rfl) | (simp [*, errW_none, errW_some] <;> rfl), by repeat (first | (with_reducible first | exact HB.out | apply below_alloc | apply pw_below_drewN | apply below_drew1) | exact HB.out)⟩

/-- THE ONE PURE STATEMENT of bordereaulaw1_CrcNumbers: yours. -/
def bordereaulaw1_CrcNumbers.Pure : Prop := ∃ k, bordereaulaw1_CrcNumbers.f k  = some true
theorem bordereaulaw1_CrcNumbers.walk (P : bordereaulaw1_CrcNumbers.Pure)  (w : World)  :
    Calls Try.prog 5 #[] w fun e w' => e = .returned (.bool true) ∧ Below w.heap.size w w' := by
  obtain ⟨k, h⟩ := P  
  refine (bordereaulaw1_CrcNumbers.calls k  true w h).mono ?_
  rintro e w' ⟨rfl, hd⟩
  exact ⟨rfl, hd⟩

/-! ### bordereaubook_Within: function 23 -/
def bordereaubook_Within.j0 : Nat → Int → Int → Int → Bool → Option (Int)
  | 0, _, _, _, _ => none
  | k + 1, x0, x1, x2, x14 => if x14 = true then (some x0) else (if (wrap64 ((wrap64 (x2 - x1)) + 1)) = 0 then (none) else (if (Int.tmod x0 (wrap64 ((wrap64 (x2 - x1)) + 1))) < 0 then (some (wrap64 (x1 + (wrap64 ((wrap64 ((wrap64 ((Int.tmod x0 (wrap64 ((wrap64 (x2 - x1)) + 1))) + x2)) - x1)) + 1))))) else (some (wrap64 (x1 + (Int.tmod x0 (wrap64 ((wrap64 (x2 - x1)) + 1))))))))
def bordereaubook_Within.f (k : Nat) (a0 : Int) (a1 : Int) (a2 : Int) : Option (Int) := if a0 ≥ a1 then (bordereaubook_Within.j0 k a0 a1 a2 (decide (a0 ≤ a2))) else (bordereaubook_Within.j0 k a0 a1 a2 false)
theorem bordereaubook_Within.mono_l : ∀ k, (∀ y0 y1 y2 y3, LeO (bordereaubook_Within.j0 k y0 y1 y2 y3) (bordereaubook_Within.j0 (k + 1) y0 y1 y2 y3))
  | 0 => fun _ _ _ _ r h => by simp [bordereaubook_Within.j0] at h
  | k + 1 => by
    have ih0 := bordereaubook_Within.mono_l k
    · intro y0 y1 y2 y3
      unfold bordereaubook_Within.j0
      repeat' first
      | (with_reducible exact ih0 _ _ _ _)
      | (with_reducible exact LeO.refl _)
      | (with_reducible exact LeO.none _)
      | (with_reducible refine LeO.ite ?_ ?_)
      | (with_reducible refine LeO.bind ?_ (fun _ => ?_))
      | exact ih0 _ _ _ _
      | exact LeO.none _
      | refine LeO.ite ?_ ?_
      | refine LeO.bind ?_ (fun _ => ?_)
theorem bordereaubook_Within.mono : ∀ a0 a1 a2 k, LeO (bordereaubook_Within.f k a0 a1 a2) (bordereaubook_Within.f (k + 1) a0 a1 a2) := by
  intro a0 a1 a2 k
  have ih0 := bordereaubook_Within.mono_l k
  unfold bordereaubook_Within.f
  repeat' first
      | (with_reducible exact ih0 _ _ _ _)
      | (with_reducible exact LeO.refl _)
      | (with_reducible exact LeO.none _)
      | (with_reducible refine LeO.ite ?_ ?_)
      | (with_reducible refine LeO.bind ?_ (fun _ => ?_))
      | exact ih0 _ _ _ _
      | exact LeO.none _
      | refine LeO.ite ?_ ?_
      | refine LeO.bind ?_ (fun _ => ?_)
set_option maxHeartbeats 8000000 in
set_option maxRecDepth 100000 in
theorem bordereaubook_Within.calls (k : Nat) (a0 : Int) (a1 : Int) (a2 : Int) (r : Int) (w : World) (h : bordereaubook_Within.f k a0 a1 a2 = some r) :
    Calls Try.prog 23 #[.int .i64 a0, .int .i64 a1, .int .i64 a2] w fun e w' => e = .returned (.int .i64 r) ∧ Drawn0 w w' := by
  have H : (if a0 ≥ a1 then (bordereaubook_Within.j0 k a0 a1 a2 (decide (a0 ≤ a2))) else (bordereaubook_Within.j0 k a0 a1 a2 false)) = some r := h
  clear h
  have HC4 := Aside0.mk H
  clear H
  go_enter Try.func23, Try.ntmps23
  go_upto_region 1 with (fail)
  go_cut [14] (fun v14 wc => ∃ (kq : Nat) (x14_3 : Bool), v14 = .bool x14_3 ∧ Aside0 (bordereaubook_Within.j0 kq a0 a1 a2 x14_3 = some r) ∧ Aside0 (kq ≤ k) ∧ Drawn0 w wc)
  case first =>
    have H := HC4.out
    clear HC4
    by_cases c5 : a0 ≥ a1
    · rw [if_pos c5] at H
      have c5b0 : decide (a1 ≤ a0) = true := decide_eq_true c5
      clear c5
      (first | rw [c5b0] | (simp only [i64_w, i32_w]; rw [c5b0]) | skip)
      have H' := Aside0.mk H
      clear H
      go_wp2
      go_meet
      case rel => exact ⟨_, (decide (a0 ≤ a2)), (by first | rfl | (simp; done) | (simp [*]; done)), H', ⟨by first | omega | exact Nat.le_refl _⟩, by repeat (first | exact Drawn0.refl _ | apply Drawn0.step)⟩
    · rw [if_neg c5] at H
      have c5b0 : decide (a1 ≤ a0) = false := decide_eq_false c5
      clear c5
      (first | rw [c5b0] | (simp only [i64_w, i32_w]; rw [c5b0]) | skip)
      have H' := Aside0.mk H
      clear H
      go_wp2
      go_meet
      case rel => exact ⟨_, (false), (by first | rfl | (simp; done) | (simp [*]; done)), H', ⟨by first | omega | exact Nat.le_refl _⟩, by repeat (first | exact Drawn0.refl _ | apply Drawn0.step)⟩
  case rest =>
    clear HC4
    try clear c2
    try clear p2
    try clear c5
    try clear c5b0
    obtain ⟨kq, x14_3, rfl, HA, HJ3, ⟨mc3, rfl⟩⟩ := hcut
    cases kq with
    | zero => exact absurd HA.out (by simp [bordereaubook_Within.j0])
    | succ kj3 =>
      have H := HA.out
      clear HA
      simp only [bordereaubook_Within.j0] at H
      by_cases c6 : x14_3 = true
      · subst c6
        have H1 : (some a0) = some r := by rw [if_pos rfl] at H; exact H
        clear H
        have H := H1
        clear H1
        obtain rfl := Option.some.inj H
        go_wp2
        go_ret
        exact ⟨by first | rfl | (simp; done) | (simp [*]; done), by repeat (first | exact Drawn0.refl _ | apply Drawn0.step)⟩
      · replace c6 := Bool.eq_false_iff.mpr c6
        subst c6
        have H1 : (if (wrap64 ((wrap64 (a2 - a1)) + 1)) = 0 then (none) else (if (Int.tmod a0 (wrap64 ((wrap64 (a2 - a1)) + 1))) < 0 then (some (wrap64 (a1 + (wrap64 ((wrap64 ((wrap64 ((Int.tmod a0 (wrap64 ((wrap64 (a2 - a1)) + 1))) + a2)) - a1)) + 1))))) else (some (wrap64 (a1 + (Int.tmod a0 (wrap64 ((wrap64 (a2 - a1)) + 1)))))))) = some r := by rw [if_neg (show ¬ (false = true) by decide)] at H; exact H
        clear H
        have H := H1
        clear H1
        by_cases c7 : (wrap64 ((wrap64 (a2 - a1)) + 1)) = 0
        · rw [if_pos c7] at H
          exact absurd H (by simp)
        · rw [if_neg c7] at H
          have c7b0 : ((wrap64 ((wrap64 (a2 - a1)) + 1)) == 0) = false := beq_eq_false_iff_ne.mpr c7
          have c7b1 : ((wrap64 ((wrap64 (a2 - a1)) + 1)) != 0) = true := bne_iff_ne.mpr c7
          by_cases c8 : (Int.tmod a0 (wrap64 ((wrap64 (a2 - a1)) + 1))) < 0
          · rw [if_pos c8] at H
            have c8b0 : decide ((Int.tmod a0 (wrap64 ((wrap64 (a2 - a1)) + 1))) < 0) = true := decide_eq_true c8
            clear c8
            obtain rfl := Option.some.inj H
            go_wp2
            go_ret
            exact ⟨by first | rfl | (simp; done) | (simp [*]; done), by repeat (first | exact Drawn0.refl _ | apply Drawn0.step)⟩
          · rw [if_neg c8] at H
            have c8b0 : decide ((Int.tmod a0 (wrap64 ((wrap64 (a2 - a1)) + 1))) < 0) = false := decide_eq_false c8
            clear c8
            obtain rfl := Option.some.inj H
            go_wp2
            go_ret
            exact ⟨by first | rfl | (simp; done) | (simp [*]; done), by repeat (first | exact Drawn0.refl _ | apply Drawn0.step)⟩

/-! ### bordereaulaw1_CrcTells: function 6 -/
def bordereaulaw1_CrcTells.f (k : Nat) (l0 : List Int) (a1 : Int) (a2 : Int) (a3 : Int) (a4 : Int) : Option (Bool) := (bordereauref1_Sealed.f k l0).bind fun t189 => ((bordereaubook_Within.f k a3 0 (wrap64 ((t189.length : Int) - 1))).bind fun t192 => (if 0 ≤ t192 then (if t192 < (t189.length : Int) then ((bordereaulaw1_same.f k l0 a1 a2).bind fun t195 => (if t195 = true then ((bordereaulaw1_same.f k (t189.set (t192 : Int).toNat (Go.bits .xor .u8 (rd t189 t192) a4)) (Go.bits .and .u32 a1 255) a2).bind fun t196 => (if t196 = true then ((bordereauref1_Sealed.f k l0).bind fun t197 => ((bordereaulaw1_same.f k t197 a1 a2).bind fun t200 => (if t200 = true then ((bordereaulaw1_known.f k).bind fun t201 => (some t201)) else (none)))) else (none))) else (none))) else (none)) else (none)))
theorem bordereaulaw1_CrcTells.mono : ∀ a0 a1 a2 a3 a4 k, LeO (bordereaulaw1_CrcTells.f k a0 a1 a2 a3 a4) (bordereaulaw1_CrcTells.f (k + 1) a0 a1 a2 a3 a4) := by
  intro a0 a1 a2 a3 a4 k
  unfold bordereaulaw1_CrcTells.f
  repeat' first
      | (with_reducible exact bordereaubook_Within.mono _ _ _ _)
      | (with_reducible exact bordereaulaw1_known.mono _)
      | (with_reducible exact bordereaulaw1_same.mono _ _ _ _)
      | (with_reducible exact bordereauref1_Sealed.mono _ _)
      | (with_reducible exact LeO.refl _)
      | (with_reducible exact LeO.none _)
      | (with_reducible refine LeO.ite ?_ ?_)
      | (with_reducible refine LeO.bind ?_ (fun _ => ?_))
      | exact bordereaubook_Within.mono _ _ _ _
      | exact bordereaulaw1_known.mono _
      | exact bordereaulaw1_same.mono _ _ _ _
      | exact bordereauref1_Sealed.mono _ _
      | exact LeO.none _
      | refine LeO.ite ?_ ?_
      | refine LeO.bind ?_ (fun _ => ?_)
set_option maxHeartbeats 8000000 in
set_option maxRecDepth 100000 in
theorem bordereaulaw1_CrcTells.calls (k : Nat) (A0 : Option Addr) (c0 : Nat) (l0 : List Int) (a1 : Int) (a2 : Int) (a3 : Int) (a4 : Int) (r : Bool) (w : World) (hr0 : Kd.C (Kd.int .u8) w A0 l0.length l0) (hc0 : l0.length ≤ c0) (h : bordereaulaw1_CrcTells.f k l0 a1 a2 a3 a4 = some r) :
    Calls Try.prog 6 #[.slice A0 l0.length c0, .int .u32 a1, .int .u8 a2, .int .i64 a3, .int .u8 a4] w fun e w' => e = .returned (.bool r) ∧ Below w.heap.size w w' := by
  have HR0 := Aside0.mk hr0
  have HC0 := Aside0.mk hc0
  clear hr0 hc0
  have HB := Aside0.mk (Below.refl w.heap.size w)
  have H : ((bordereauref1_Sealed.f k l0).bind fun t189 => ((bordereaubook_Within.f k a3 0 (wrap64 ((t189.length : Int) - 1))).bind fun t192 => (if 0 ≤ t192 then (if t192 < (t189.length : Int) then ((bordereaulaw1_same.f k l0 a1 a2).bind fun t195 => (if t195 = true then ((bordereaulaw1_same.f k (t189.set (t192 : Int).toNat (Go.bits .xor .u8 (rd t189 t192) a4)) (Go.bits .and .u32 a1 255) a2).bind fun t196 => (if t196 = true then ((bordereauref1_Sealed.f k l0).bind fun t197 => ((bordereaulaw1_same.f k t197 a1 a2).bind fun t200 => (if t200 = true then ((bordereaulaw1_known.f k).bind fun t201 => (some t201)) else (none)))) else (none))) else (none))) else (none)) else (none)))) = some r := h
  clear h
  replace H := Option.bind_eq_some_iff.mp H
  obtain ⟨t189, A60, H⟩ := H
  replace H : ((bordereaubook_Within.f k a3 0 (wrap64 ((t189.length : Int) - 1))).bind fun t192 => (if 0 ≤ t192 then (if t192 < (t189.length : Int) then ((bordereaulaw1_same.f k l0 a1 a2).bind fun t195 => (if t195 = true then ((bordereaulaw1_same.f k (t189.set (t192 : Int).toNat (Go.bits .xor .u8 (rd t189 t192) a4)) (Go.bits .and .u32 a1 255) a2).bind fun t196 => (if t196 = true then ((bordereauref1_Sealed.f k l0).bind fun t197 => ((bordereaulaw1_same.f k t197 a1 a2).bind fun t200 => (if t200 = true then ((bordereaulaw1_known.f k).bind fun t201 => (some t201)) else (none)))) else (none))) else (none))) else (none)) else (none))) = some r := H
  have A6 := Aside0.mk A60
  clear A60
  replace H := Option.bind_eq_some_iff.mp H
  obtain ⟨t192, A70, H⟩ := H
  replace H : (if 0 ≤ t192 then (if t192 < (t189.length : Int) then ((bordereaulaw1_same.f k l0 a1 a2).bind fun t195 => (if t195 = true then ((bordereaulaw1_same.f k (t189.set (t192 : Int).toNat (Go.bits .xor .u8 (rd t189 t192) a4)) (Go.bits .and .u32 a1 255) a2).bind fun t196 => (if t196 = true then ((bordereauref1_Sealed.f k l0).bind fun t197 => ((bordereaulaw1_same.f k t197 a1 a2).bind fun t200 => (if t200 = true then ((bordereaulaw1_known.f k).bind fun t201 => (some t201)) else (none)))) else (none))) else (none))) else (none)) else (none)) = some r := H
  have A7 := Aside0.mk A70
  clear A70
  by_cases c8 : 0 ≤ t192
  · rw [if_pos c8] at H
    have c8b0 : decide (0 ≤ t192) = true := decide_eq_true c8
    clear c8
    by_cases c9 : t192 < (t189.length : Int)
    · rw [if_pos c9] at H
      have c9b0 : decide (t192 < (t189.length : Int)) = true := decide_eq_true c9
      clear c9
      obtain ⟨y194, hy194⟩ : ∃ y_ : List Int, y_ = (t189.set (t192 : Int).toNat (Go.bits .xor .u8 (rd t189 t192) a4)) := ⟨_, rfl⟩
      replace H : ((bordereaulaw1_same.f k l0 a1 a2).bind fun t195 => (if t195 = true then ((bordereaulaw1_same.f k y194 (Go.bits .and .u32 a1 255) a2).bind fun t196 => (if t196 = true then ((bordereauref1_Sealed.f k l0).bind fun t197 => ((bordereaulaw1_same.f k t197 a1 a2).bind fun t200 => (if t200 = true then ((bordereaulaw1_known.f k).bind fun t201 => (some t201)) else (none)))) else (none))) else (none))) = some r := by first | (rw [hy194]; with_reducible exact H) | (have H2_ := (Option.bind_some _ _).symm.trans H; rw [hy194]; with_reducible exact H2_) | (have H2_ := (Option.bind_some _ _).symm.trans H; with_reducible exact H2_) | with_reducible exact H | (rw [hy194]; exact H) | exact H
      have Ny194 := Aside0.mk hy194
      clear hy194
      replace H := Option.bind_eq_some_iff.mp H
      obtain ⟨t195, A110, H⟩ := H
      replace H : (if t195 = true then ((bordereaulaw1_same.f k y194 (Go.bits .and .u32 a1 255) a2).bind fun t196 => (if t196 = true then ((bordereauref1_Sealed.f k l0).bind fun t197 => ((bordereaulaw1_same.f k t197 a1 a2).bind fun t200 => (if t200 = true then ((bordereaulaw1_known.f k).bind fun t201 => (some t201)) else (none)))) else (none))) else (none)) = some r := H
      have A11 := Aside0.mk A110
      clear A110
      by_cases c12 : t195 = true
      · subst c12
        have H1 : ((bordereaulaw1_same.f k y194 (Go.bits .and .u32 a1 255) a2).bind fun t196 => (if t196 = true then ((bordereauref1_Sealed.f k l0).bind fun t197 => ((bordereaulaw1_same.f k t197 a1 a2).bind fun t200 => (if t200 = true then ((bordereaulaw1_known.f k).bind fun t201 => (some t201)) else (none)))) else (none))) = some r := by rw [if_pos rfl] at H; exact H
        clear H
        have H := H1
        clear H1
        replace H := Option.bind_eq_some_iff.mp H
        obtain ⟨t196, A130, H⟩ := H
        replace H : (if t196 = true then ((bordereauref1_Sealed.f k l0).bind fun t197 => ((bordereaulaw1_same.f k t197 a1 a2).bind fun t200 => (if t200 = true then ((bordereaulaw1_known.f k).bind fun t201 => (some t201)) else (none)))) else (none)) = some r := H
        have A13 := Aside0.mk A130
        clear A130
        by_cases c14 : t196 = true
        · subst c14
          have H1 : ((bordereauref1_Sealed.f k l0).bind fun t197 => ((bordereaulaw1_same.f k t197 a1 a2).bind fun t200 => (if t200 = true then ((bordereaulaw1_known.f k).bind fun t201 => (some t201)) else (none)))) = some r := by rw [if_pos rfl] at H; exact H
          clear H
          have H := H1
          clear H1
          replace H := Option.bind_eq_some_iff.mp H
          obtain ⟨t197, A150, H⟩ := H
          replace H : ((bordereaulaw1_same.f k t197 a1 a2).bind fun t200 => (if t200 = true then ((bordereaulaw1_known.f k).bind fun t201 => (some t201)) else (none))) = some r := H
          have A15 := Aside0.mk A150
          clear A150
          replace H := Option.bind_eq_some_iff.mp H
          obtain ⟨t200, A160, H⟩ := H
          replace H : (if t200 = true then ((bordereaulaw1_known.f k).bind fun t201 => (some t201)) else (none)) = some r := H
          have A16 := Aside0.mk A160
          clear A160
          by_cases c17 : t200 = true
          · subst c17
            have H1 : ((bordereaulaw1_known.f k).bind fun t201 => (some t201)) = some r := by rw [if_pos rfl] at H; exact H
            clear H
            have H := H1
            clear H1
            replace H := Option.bind_eq_some_iff.mp H
            obtain ⟨t201, A180, H⟩ := H
            replace H : (some t201) = some r := H
            have A18 := Aside0.mk A180
            clear A180
            obtain rfl := Option.some.inj H
            go_enter Try.func6, Try.ntmps6
            go_wp2_with (first | ((with_reducible refine gate_callee (f := 20) rfl ?_); refine goesL_ (some 13) rfl rfl Try.func20 (by kernel_rfl) rfl #[.slice A0 l0.length c0] rfl (by (try simp only [List.map_toArray, List.map_cons, List.map_nil]); first | done | rfl | (simp only [List.length_drop, List.length_take]; rfl)) ?_; (with_reducible refine (bordereauref1_Sealed.calls k _ _ l0 t189 _ ?side1 ?side2 A6.out).mono ?_); (case side1 => repeat (first | exact HR0.out | (with_reducible refine Kd.C_alloc ?_ _) | (with_reducible refine Kd.C_drewN ?_ _) | (with_reducible refine Kd.C_drew ?_))); (case side2 => exact HC0.out); rintro e w19 ⟨v190, rfl, ho0, hb⟩; refine ⟨_, rfl, ?_⟩; have n0_ := Aside0.mk (Kd.R_lower ho0 (below_size (by repeat (first | (with_reducible first | exact HB.out | apply below_alloc | apply pw_below_drewN | apply below_drew1) | exact HB.out)))); have n1_ := Aside0.mk (below_step (by repeat (first | (with_reducible first | exact HB.out | apply below_alloc | apply pw_below_drewN | apply below_drew1) | exact HB.out)) hb); clear HB; have HO191 := n0_; have HB := n1_; clear n0_ n1_; (try clear hb); (try clear hb2); (try clear hk); (try clear hi); (try clear ho0); obtain ⟨Ao20, co20, eo20⟩ := Kd.R_slice HO191.out; subst eo20) | ((with_reducible refine gate_callee (f := 23) rfl ?_); refine goesL_ (some 19) rfl rfl Try.func23 (by kernel_rfl) rfl #[.int .i64 a3, .int .i64 0, .int .i64 (wrap64 ((t189.length : Int) - 1))] rfl (by (try simp only [List.map_toArray, List.map_cons, List.map_nil]); first | done | rfl | (simp only [List.length_drop, List.length_take]; rfl)) ?_; (with_reducible refine (bordereaubook_Within.calls k a3 0 (wrap64 ((t189.length : Int) - 1)) t192 _ A7.out).mono ?_); rintro e w' ⟨rfl, ⟨nd, rfl⟩⟩; refine ⟨_, rfl, ?_⟩; (try (rw [drewN_self w19]; generalize hq_ : World.drewN w19 _ = w19; have n0_ : Aside0 (Kd.R (Kd.int .u8) 5 w19 w.heap.size (fun _ => True) (.slice Ao20 t189.length co20) t189) := ⟨by rw [← hq_]; exact (by (with_reducible repeat (first | apply Kd.R_alloc | apply Kd.R_drewN | apply Kd.R_drew)); exact HO191.out)⟩; have n1_ : Aside0 (Below w.heap.size w w19) := ⟨by rw [← hq_]; exact (by repeat (first | (with_reducible first | exact HB.out | apply below_alloc | apply pw_below_drewN | apply below_drew1) | exact HB.out))⟩; clear HO191 HB hq_; have HO191 := n0_; have HB := n1_; clear n0_ n1_)); have p193 : 0 ≤ (t192 : Int) := of_decide_eq_true (by first | (with_reducible assumption) | assumption); have q193 : t192 < (t189.length : Int) := of_decide_eq_true (by first | (with_reducible assumption) | assumption); obtain ⟨ad193, e193, hx193_0⟩ := Kd.at_int (Kd.R_reads' HO191.out).2.2 t192 p193 q193; cases e193; replace p193 := eq_true p193; replace q193 := eq_true q193; have p10 : 0 ≤ (t192 : Int) := of_decide_eq_true (by first | (with_reducible assumption) | assumption); have q10 : (t192 : Int) < ((t189.length : Int) : Int) := of_decide_eq_true (by first | (with_reducible assumption) | assumption); obtain ⟨go10, co10, eo10, gb10, gl10, cl10, HG10⟩ := Kd.R_form HO191.out (by omega); (first | cases eo10 | (injection eo10 with ea_ en_ ec_; (first | subst ea_ | (injection ea_ with ea_; subst ea_)); subst ec_; clear en_)); have GB10 := Aside0.mk gb10; have GG10 := Aside0.mk HG10; clear gb10 gl10 HG10; (first | simp only [add_plain] at hx193_0 | skip); obtain ⟨hx10_0, hf10_0⟩ := Kd.R_celln 0 HO191.out (t192 : Int) p10 q10; replace p10 := eq_true p10; replace q10 := eq_true q10; obtain ⟨hy21_, hz21_⟩ := Kd.R_celln 0 HO191.out (t192 : Int) (of_decide_eq_true (by first | (with_reducible assumption) | assumption)) (of_decide_eq_true (by first | (with_reducible assumption) | assumption)); have HP21 := Kd.R_putg HO191.out (t192 : Int) (Go.bits .xor .u8 (rd t189 t192) a4)) | ((with_reducible refine gate_store (t := 5) (p := 24) rfl ?_); refine store_event (t := 5) (p := 24) (v := ?vo_w22) (w1 := (w19.setCell ⟨go10, (t192 : Int).toNat, none⟩ (.int .u8 (Go.bits .xor .u8 (rd t189 t192) a4)))) ?hg ?ho ?hn ?hr ?_; (case ho => rfl); (case hg => rfl); (case hn => rfl); (case hr => first | (go_simp; done) | (go_simp; rfl)); intro w22 hw; have hg : w19.grownBy w22 (some go10) := (by rw [hw]; exact HP21.2); have hp_ : Kd.R (Kd.int .u8) 5 w22 w.heap.size (fun _ => True) (.slice (some ⟨go10, 0, none⟩) t189.length co20) y194 := (by rw [hw, Ny194.out]; exact HP21.1); clear HP21; have n0_ := Aside0.mk (hp_); have n1_ := Aside0.mk ((by rw [hw]; exact below_set (HB.out) GB10.out : Below w.heap.size w w22)); clear HO191; clear HB; have HO191 := n0_; have HB := n1_; clear n0_ n1_; clear hg hw hp_) | ((with_reducible refine gate_callee (f := 21) rfl ?_); refine goesL_ (some 28) rfl rfl Try.func21 (by kernel_rfl) rfl #[.slice A0 l0.length c0, .int .u32 a1, .int .u8 a2] rfl (by (try simp only [List.map_toArray, List.map_cons, List.map_nil]); first | done | rfl | (simp only [List.length_drop, List.length_take]; rfl)) ?_; (with_reducible refine (bordereaulaw1_same.calls k _ _ l0 a1 a2 true _ ?side1 ?side2 A11.out).mono ?_); (case side1 => repeat (first | exact (Kd.C_below HR0.out HB.out) | (with_reducible refine Kd.C_alloc ?_ _) | (with_reducible refine Kd.C_drewN ?_ _) | (with_reducible refine Kd.C_drew ?_))); (case side2 => exact HC0.out); rintro e w23 ⟨rfl, hb⟩; refine ⟨_, rfl, ?_⟩; have n0_ := Aside0.mk (Kd.R_below (by (with_reducible repeat (first | apply Kd.R_alloc | apply Kd.R_drewN | apply Kd.R_drew)); exact HO191.out) hb); have n1_ := Aside0.mk (below_step (by repeat (first | (with_reducible first | exact HB.out | apply below_alloc | apply pw_below_drewN | apply below_drew1) | exact HB.out)) hb); clear HO191; clear HB; have HO191 := n0_; have HB := n1_; clear n0_ n1_; (try clear hb); (try clear hb2); (try clear hk); (try clear hi)) | (go_at_call 21; refine calls_of_args (args' := #[.slice (some ⟨go10, 0, none⟩) y194.length co20, .int .u32 (Go.bits .and .u32 a1 255), .int .u8 a2]) (by first | (rw [show y194.length = t189.length from (Kd.R_reads' HO191.out).1.symm] <;> rfl) | rfl) ?_; (with_reducible refine (bordereaulaw1_same.calls k _ _ y194 (Go.bits .and .u32 a1 255) a2 true _ ?side1 ?side2 A13.out).mono ?_); (case side1 => repeat (first | exact (Kd.R_reads' HO191.out).2.2 | (with_reducible refine Kd.C_alloc ?_ _) | (with_reducible refine Kd.C_drewN ?_ _) | (with_reducible refine Kd.C_drew ?_))); (case side2 => rw [show y194.length = t189.length from (Kd.R_reads' HO191.out).1.symm]; exact (Kd.R_reads' HO191.out).2.1); rintro e w24 ⟨rfl, hb⟩; have n0_ := Aside0.mk (Kd.R_below (by (with_reducible repeat (first | apply Kd.R_alloc | apply Kd.R_drewN | apply Kd.R_drew)); exact HO191.out) hb); have n1_ := Aside0.mk (below_step (by repeat (first | (with_reducible first | exact HB.out | apply below_alloc | apply pw_below_drewN | apply below_drew1) | exact HB.out)) hb); clear HO191; clear HB; have HO191 := n0_; have HB := n1_; clear n0_ n1_; (try clear hb); (try clear hb2); (try clear hk); (try clear hi)) | (go_at_call 20; (with_reducible refine (bordereauref1_Sealed.calls k _ _ l0 t197 _ ?side1 ?side2 A15.out).mono ?_); (case side1 => repeat (first | exact (Kd.C_below HR0.out HB.out) | (with_reducible refine Kd.C_alloc ?_ _) | (with_reducible refine Kd.C_drewN ?_ _) | (with_reducible refine Kd.C_drew ?_))); (case side2 => exact HC0.out); rintro e w25 ⟨v198, rfl, ho0, hb⟩; have n0_ := Aside0.mk (Kd.R_elder' (by (with_reducible repeat (first | apply Kd.R_alloc | apply Kd.R_drewN | apply Kd.R_drew)); exact HO191.out) (Kd.R_base ho0) hb); have n1_ := Aside0.mk (Kd.R_lower (Kd.R_new' ho0 (Kd.R_lt (by (with_reducible repeat (first | apply Kd.R_alloc | apply Kd.R_drewN | apply Kd.R_drew)); exact HO191.out))) (below_size (by repeat (first | (with_reducible first | exact HB.out | apply below_alloc | apply pw_below_drewN | apply below_drew1) | exact HB.out)))); have n2_ := Aside0.mk (below_step (by repeat (first | (with_reducible first | exact HB.out | apply below_alloc | apply pw_below_drewN | apply below_drew1) | exact HB.out)) hb); clear HO191; clear HB; have HO191 := n0_; have HO199 := n1_; have HB := n2_; clear n0_ n1_ n2_; (try clear hb); (try clear hb2); (try clear hk); (try clear hi); (try clear ho0); obtain ⟨Ao26, co26, eo26⟩ := Kd.R_slice HO199.out; subst eo26) | (go_at_call 21; (with_reducible refine (bordereaulaw1_same.calls k _ _ t197 a1 a2 true _ ?side1 ?side2 A16.out).mono ?_); (case side1 => repeat (first | exact (Kd.R_reads' HO199.out).2.2 | (with_reducible refine Kd.C_alloc ?_ _) | (with_reducible refine Kd.C_drewN ?_ _) | (with_reducible refine Kd.C_drew ?_))); (case side2 => exact (Kd.R_reads' HO199.out).2.1); rintro e w27 ⟨rfl, hb⟩; have n0_ := Aside0.mk (Kd.R_below (by (with_reducible repeat (first | apply Kd.R_alloc | apply Kd.R_drewN | apply Kd.R_drew)); exact HO191.out) hb); have n1_ := Aside0.mk (Kd.R_below (by (with_reducible repeat (first | apply Kd.R_alloc | apply Kd.R_drewN | apply Kd.R_drew)); exact HO199.out) hb); have n2_ := Aside0.mk (below_step (by repeat (first | (with_reducible first | exact HB.out | apply below_alloc | apply pw_below_drewN | apply below_drew1) | exact HB.out)) hb); clear HO191; clear HO199; clear HB; have HO191 := n0_; have HO199 := n1_; have HB := n2_; clear n0_ n1_ n2_; (try clear hb); (try clear hb2); (try clear hk); (try clear hi)) | (go_at_call 22; (with_reducible refine (bordereaulaw1_known.calls k  t201 _ A18.out).mono ?_); rintro e w28 ⟨rfl, hb⟩; have n0_ := Aside0.mk (Kd.R_below (by (with_reducible repeat (first | apply Kd.R_alloc | apply Kd.R_drewN | apply Kd.R_drew)); exact HO191.out) hb); have n1_ := Aside0.mk (Kd.R_below (by (with_reducible repeat (first | apply Kd.R_alloc | apply Kd.R_drewN | apply Kd.R_drew)); exact HO199.out) hb); have n2_ := Aside0.mk (below_step (by repeat (first | (with_reducible first | exact HB.out | apply below_alloc | apply pw_below_drewN | apply below_drew1) | exact HB.out)) hb); clear HO191; clear HO199; clear HB; have HO191 := n0_; have HO199 := n1_; have HB := n2_; clear n0_ n1_ n2_; (try clear hb); (try clear hb2); (try clear hk); (try clear hi)))
            go_ret
            exact ⟨by first | rfl | (simp [errW_none, errW_some] <;> rfl) | (simp [*, errW_none, errW_some] <;> rfl), by repeat (first | (with_reducible first | exact HB.out | apply below_alloc | apply pw_below_drewN | apply below_drew1) | exact HB.out)⟩
          · replace c17 := Bool.eq_false_iff.mpr c17
            subst c17
            have H1 : (none) = some r := by rw [if_neg (show ¬ (false = true) by decide)] at H; exact H
            clear H
            have H := H1
            clear H1
            exact absurd H (by simp)
        · replace c14 := Bool.eq_false_iff.mpr c14
          subst c14
          have H1 : (none) = some r := by rw [if_neg (show ¬ (false = true) by decide)] at H; exact H
          clear H
          have H := H1
          clear H1
          exact absurd H (by simp)
      · replace c12 := Bool.eq_false_iff.mpr c12
        subst c12
        have H1 : (none) = some r := by rw [if_neg (show ¬ (false = true) by decide)] at H; exact H
        clear H
        have H := H1
        clear H1
        exact absurd H (by simp)
    · rw [if_neg c9] at H
      exact absurd H (by simp)
  · rw [if_neg c8] at H
    exact absurd H (by simp)

/-- THE ONE PURE STATEMENT of bordereaulaw1_CrcTells: yours. -/
def bordereaulaw1_CrcTells.Pure : Prop := ∀ (l0 : List Int) (a1 : Int) (a2 : Int) (a3 : Int) (a4 : Int), l0.length ≤ maxLen → l0.length * 1 ≤ 140737488351232 → (∀ x ∈ l0, (Lit.int .u8 x).wf = true) → (Lit.int .u32 a1).wf = true → (Lit.int .u8 a2).wf = true → (Lit.int .i64 a3).wf = true → (Lit.int .u8 a4).wf = true → ∃ k, bordereaulaw1_CrcTells.f k l0 a1 a2 a3 a4 = some true
theorem bordereaulaw1_CrcTells.walk (P : bordereaulaw1_CrcTells.Pure) (a0 : Option Addr) (len0 cap0 : Nat) (z0 : List Int) (a1 : Int) (a2 : Int) (a3 : Int) (a4 : Int) (w : World) (w0 : (a0 = none ∧ len0 = 0 ∧ cap0 = 0 ∧ z0 = []) ∨ ∃ x, a0 = some x ∧ len0 ≤ cap0 ∧ cap0 ≤ maxLen ∧ z0.length = cap0 ∧ (∀ i, i < z0.length → w.cell? (x.add i) = some (.int .u8 (z0.getD i 0))) ∧ ∀ n ∈ z0, (Lit.int .u8 n).wf = true) (y0 : len0 * 1 ≤ 140737488351232) (w1 : (Lit.int .u32 a1).wf = true) (w2 : (Lit.int .u8 a2).wf = true) (w3 : (Lit.int .i64 a3).wf = true) (w4 : (Lit.int .u8 a4).wf = true) :
    Calls Try.prog 6 #[.slice a0 len0 cap0, .int .u32 a1, .int .u8 a2, .int .i64 a3, .int .u8 a4] w fun e w' => e = .returned (.bool true) ∧ Below w.heap.size w w' := by
  obtain ⟨l0, rfl, hr0, hm0, hw0, hc0⟩ := ReadsInt.ofRowC w0
  obtain ⟨k, h⟩ := P l0 a1 a2 a3 a4 hm0 y0 hw0 w1 w2 w3 w4
  refine (bordereaulaw1_CrcTells.calls k _ _ l0 a1 a2 a3 a4 true w (Kd.C_of_reads (d := (0 : Int)) (h1 := fun _ => rfl) hr0) hc0 h).mono ?_
  rintro e w' ⟨rfl, hd⟩
  exact ⟨rfl, hd⟩

end Go.Proofs.Ytddgichochdgcaa.PD
