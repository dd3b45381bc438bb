import Derived.Test.YtddgichochdgcaaV5
namespace Go.Abs
open Go Go.RowKit
set_option linter.unusedVariables false
set_option linter.unusedSimpArgs false

theorem bytes_app {l m : List Int} (h : Bytes l) (k : Bytes m) : Bytes (l ++ m) := fun x hx => (List.mem_append.1 hx).elim (h x) (k x)
theorem bytes_take {l : List Int} (n : Nat) (h : Bytes l) : Bytes (l.take n) := fun x hx => h x (List.mem_of_mem_take hx)
theorem bytes_drop {l : List Int} (n : Nat) (h : Bytes l) : Bytes (l.drop n) := fun x hx => h x (List.mem_of_mem_drop hx)

theorem ref_get_loop (l : List Int) (hb : Bytes l) (hl : l.length < 70368744177664) (H : Heap) (r : List Int) : ∀ (p : List Int) (u : Int), l = p ++ r → (∀ x ∈ p, 128 ≤ x ∧ x < 256) → p.length ≤ 10 → (p.length ≤ 9 → u = Vt.val p) →
    loopA W loopW (.ghost (.kill k_ref1_Get_0) l_ref1_Get_0) [(0, bytes l .ro), (4, .int .u64 u), (5, .int .i64 (p.length : Int))] H =
      some (.ret, [(2, .int .i64 (told (Vt.dec r p.length (Vt.val p))).1), (3, .int .i64 (told (Vt.dec r p.length (Vt.val p))).2)], H) ∨
    (loopA W loopW (.ghost (.kill k_ref1_Get_0) l_ref1_Get_0) [(0, bytes l .ro), (4, .int .u64 u), (5, .int .i64 (p.length : Int))] H = some (.exit 0, [], H) ∧ told (Vt.dec r p.length (Vt.val p)) = (0, 0)) := by
  have e3 : (ints .u8 l).length = l.length := by simp
  induction r with
  | nil =>
    intro p u hp hc h10 hu
    have hlen : l.length = p.length := by rw [hp, List.append_nil]
    right
    refine ⟨loop_step l_ref1_Get_0.eq_1 k_ref1_Get_0.eq_1 (by kernel_rfl) ?_, rfl⟩
    have h1 : ¬ ((p.length : Int) < (l.length : Int)) := by omega
    simp only [go_sem, h1, e3, not_true_eq_false, not_false_eq_true, decide_true, decide_false, reduceCtorEq, ne_eq, Bool.false_eq_true, ↓reduceIte, Nat.reduceAdd, Nat.reduceEqDiff, Nat.reduceLT, Int.reduceLE, Int.reduceEq, Int.reduceNeg, s_shl, s_shr, Bool.not_false, Bool.not_true, Bool.and_self, Bool.true_and, Bool.and_true]
  | cons c r ih =>
    intro p u hp hpc h10 hu
    have hlen : l.length = p.length + (r.length + 1) := by rw [hp, List.length_append, List.length_cons]
    have hc := hb c (by rw [hp]; simp)
    have h0 : (p.length : Int) < (l.length : Int) := by omega
    by_cases hi : p.length ≥ 10
    · right
      rw [Vt.dec, if_pos hi]
      refine ⟨loop_step l_ref1_Get_0.eq_1 k_ref1_Get_0.eq_1 (by kernel_rfl) ?_, rfl⟩
      have h1 : ¬ ((p.length : Int) < 10) := by omega
      simp only [go_sem, h0, h1, e3, not_true_eq_false, not_false_eq_true, decide_true, decide_false, reduceCtorEq, ne_eq, Bool.false_eq_true, ↓reduceIte, Nat.reduceAdd, Nat.reduceEqDiff, Nat.reduceLT, Int.reduceLE, Int.reduceEq, Int.reduceNeg, s_shl, s_shr, Bool.not_false, Bool.not_true, Bool.and_self, Bool.true_and, Bool.and_true]
    · have h1 : (p.length : Int) < 10 := by omega
      have h2 : (0 : Int) ≤ (p.length : Int) := by omega
      have h3 := ints_at (k := .u8) hp rfl
      have e1 := Num.and127_u8 c hc.1 hc.2
      have e2 : IntKind.u64.wrap (c % 128) = c % 128 := by rw [Num.wu64]; omega
      have e4 : IntKind.u64.wrap (IntKind.i64.wrap (7 * (p.length : Int))) = (p.length : Int) * 7 := by rw [wrap_id (by unfold I64; omega), Num.wu64]; omega
      have e4' : (0 : Int) ≤ (p.length : Int) * 7 := by omega
      have e5 := shl7 p.length (by omega) (c % 128)
      have hv0 := Vt.val_nonneg p
      have hv1 := Vt.val_lt p
      have hu' := hu (by omega)
      subst hu'
      have hj := joins p.length (by omega) (Vt.val p) (c % 128) hv0 hv1 (by omega) (by omega)
      have e6 := hj.1
      have e8 : IntKind.i64.wrap ((p.length : Int) + 1) = ((p.length + 1 : Nat) : Int) := by rw [wrap_id (by unfold I64; omega)]; omega
      have hl1 : ((p.length + 1 : Nat) : Int) = (p.length : Int) + 1 := by omega
      by_cases h128 : c < 128
      · have e128 : c % 128 = c := by omega
        rw [e128] at e6
        have hr : 0 ≤ (Vt.val p + 128 ^ p.length * c) % 18446744073709551616 ∧ (Vt.val p + 128 ^ p.length * c) % 18446744073709551616 < 18446744073709551616 := by omega
        have hz := zag_own' _ hr.1 hr.2
        have hzr : I64 _ := Num.zag_range _ hr
        have hput := ref_put_spec [] _ H .ro (.inl rfl) hzr (by simp)
        rw [List.nil_append, Num.zig_zag _ hr.1] at hput
        change W n_ref1_Put [.list 1 [] .ro, _] H = _ at hput
        have htk : (ints .u8 l).take ((p.length + 1 : Nat) : Int).toNat = ints .u8 (p ++ [c]) := by
          rw [Int.toNat_natCast, ← List.map_take, hp, List.take_append, List.take_of_length_le (by omega), Nat.add_sub_cancel_left]; rfl
        have h5 : (((p.length + 1 : Nat) : Int)) ≤ (l.length : Int) := by omega
        have h6 : (0 : Int) ≤ ((p.length + 1 : Nat) : Int) := by omega
        have hd := Vt.dec_last p c r hpc (by omega) hc.1 h128 _ rfl
        have hbp : Bytes (p ++ [c]) := bytes_app (fun x hx => ⟨by have := hpc x hx; omega, (hpc x hx).2⟩) (fun x hx => by rw [List.mem_singleton] at hx; omega)
        have hbe : Bytes (Vt.enc 9 ((Vt.val p + 128 ^ p.length * c) % 18446744073709551616)) := Vt.enc_bytes 9 _ hr.1 (Int.lt_trans hr.2 (by decide))
        rw [e128] at e1 e2 e5
        left
        by_cases he : Vt.enc 9 ((Vt.val p + 128 ^ p.length * c) % 18446744073709551616) = p ++ [c]
        · have hq : (toS (Vt.enc 9 ((Vt.val p + 128 ^ p.length * c) % 18446744073709551616)) == toS (p ++ [c])) = true := by rw [he]; simp
          rw [hd.1 he]
          refine loop_step l_ref1_Get_0.eq_1 k_ref1_Get_0.eq_1 (by kernel_rfl) ?_
          simp only [go_sem, h0, h1, h2, h3, e1, e2, e3, e4, e4', e5, e6, e8, h128, hz, hput, sl_hi, h5, h6, htk, hq, told, not_true_eq_false, not_false_eq_true, decide_true, decide_false, reduceCtorEq, ne_eq, Bool.false_eq_true, ↓reduceIte, Nat.reduceAdd, Nat.reduceEqDiff, Nat.reduceLT, Int.reduceLE, Int.reduceEq, Int.reduceNeg, s_shl, s_shr, Bool.not_false, Bool.not_true, Bool.and_self, Bool.true_and, Bool.and_true]
        · have hq : (toS (Vt.enc 9 ((Vt.val p + 128 ^ p.length * c) % 18446744073709551616)) == toS (p ++ [c])) = false := by
            simp only [beq_eq_false_iff_ne]; exact fun h => he (toS_inj hbe hbp h)
          rw [hd.2 he]
          refine loop_step l_ref1_Get_0.eq_1 k_ref1_Get_0.eq_1 (by kernel_rfl) ?_
          simp only [go_sem, h0, h1, h2, h3, e1, e2, e3, e4, e4', e5, e6, e8, h128, hz, hput, sl_hi, h5, h6, htk, hq, told, not_true_eq_false, not_false_eq_true, decide_true, decide_false, reduceCtorEq, ne_eq, Bool.false_eq_true, ↓reduceIte, Nat.reduceAdd, Nat.reduceEqDiff, Nat.reduceLT, Int.reduceLE, Int.reduceEq, Int.reduceNeg, s_shl, s_shr, Bool.not_false, Bool.not_true, Bool.and_self, Bool.true_and, Bool.and_true]
      · have hnx := ih (p ++ [c]) ((Vt.val p + 128 ^ p.length * (c % 128)) % 18446744073709551616) (by rw [hp, List.append_assoc]; rfl) (fun x hx => (List.mem_append.1 hx).elim (hpc x) (fun h => by rw [List.mem_singleton] at h; omega)) (by simp only [List.length_append, List.length_cons, List.length_nil]; omega) (by
          intro h
          rw [List.length_append, List.length_cons, List.length_nil] at h
          have hval : Vt.val (p ++ [c]) = Vt.val p + 128 ^ p.length * (c % 128) := by rw [Vt.val_append]; simp only [Vt.val]; congr 1; congr 1; omega
          rw [hval]
          have := hj.2.1 (by omega)
          have h3 : 0 ≤ 128 ^ p.length * (c % 128) := Int.mul_nonneg (Int.le_of_lt (Vt.pow_pos _)) (by omega)
          omega)
        rw [show (p ++ [c]).length = p.length + 1 by simp] at hnx
        have hval : Vt.val (p ++ [c]) = Vt.val p + 128 ^ p.length * (c % 128) := by rw [Vt.val_append]; simp only [Vt.val]; congr 1; congr 1; omega
        rw [hval] at hnx
        have step : ∀ q, loopA W loopW (.ghost (.kill k_ref1_Get_0) l_ref1_Get_0) [(0, bytes l .ro), (4, .int .u64 ((Vt.val p + 128 ^ p.length * (c % 128)) % 18446744073709551616)), (5, .int .i64 ((p.length + 1 : Nat) : Int))] H = some q →
            loopA W loopW (.ghost (.kill k_ref1_Get_0) l_ref1_Get_0) [(0, bytes l .ro), (4, .int .u64 (Vt.val p)), (5, .int .i64 (p.length : Int))] H = some q := by
          intro q hq
          refine loop_step l_ref1_Get_0.eq_1 k_ref1_Get_0.eq_1 (by kernel_rfl) ?_
          simp only [go_sem, h0, h1, h2, h3, e1, e2, e3, e4, e4', e5, e6, e8, h128, not_true_eq_false, not_false_eq_true, decide_true, decide_false, reduceCtorEq, ne_eq, Bool.false_eq_true, ↓reduceIte, Nat.reduceAdd, Nat.reduceEqDiff, Nat.reduceLT, Int.reduceLE, Int.reduceEq, Int.reduceNeg, s_shl, s_shr, Bool.not_false, Bool.not_true, Bool.and_self, Bool.true_and, Bool.and_true]
          exact hq
        rw [Vt.dec, if_neg hi]
        by_cases h9 : p.length = 9 ∧ c % 128 ≥ 2
        · rw [if_pos h9]
          have hn : Vt.dec r (p.length + 1) (Vt.val p + 128 ^ p.length * (c % 128)) = none := by
            rw [h9.1]
            cases r with
            | nil => rfl
            | cons y r => rw [Vt.dec, if_pos (by decide)]
          rw [hn] at hnx
          rcases hnx with hn | ⟨hn, ht⟩
          · exact .inl (step _ hn)
          · exact .inr ⟨step _ hn, rfl⟩
        · rw [if_neg h9, if_pos (by omega)]
          rcases hnx with hn | ⟨hn, ht⟩
          · exact .inl (step _ hn)
          · exact .inr ⟨step _ hn, ht⟩

theorem ref_get_spec (l : List Int) (H : Heap) (hb : Bytes l) (hl : l.length < 70368744177664) : W n_ref1_Get [bytes l .ro] H = some (.tuple [.int .i64 (told (Vt.dec l 0 0)).1, .int .i64 (told (Vt.dec l 0 0)).2], H) := by
  refine W_fn rfl rfl ?_
  have e0 : Vt.val [] = 0 := rfl
  rcases ref_get_loop l hb hl H l [] 0 rfl (by simp) (by simp) (fun _ => rfl) with h | ⟨h, ht⟩
  · simp only [List.length_nil, Int.natCast_zero, e0] at h
    simp only [go_sem, c_ref1_Get, h, not_true_eq_false, not_false_eq_true, decide_true, decide_false, reduceCtorEq, ne_eq, Bool.false_eq_true, ↓reduceIte, Nat.reduceAdd, Nat.reduceEqDiff, Nat.reduceLT, Int.reduceLE, Int.reduceEq, Int.reduceNeg, s_shl, s_shr, Bool.not_false, Bool.not_true, Bool.and_self, Bool.true_and, Bool.and_true]
  · simp only [List.length_nil, Int.natCast_zero, e0] at h ht
    rw [ht]
    simp only [go_sem, c_ref1_Get, h, not_true_eq_false, not_false_eq_true, decide_true, decide_false, reduceCtorEq, ne_eq, Bool.false_eq_true, ↓reduceIte, Nat.reduceAdd, Nat.reduceEqDiff, Nat.reduceLT, Int.reduceLE, Int.reduceEq, Int.reduceNeg, s_shl, s_shr, Bool.not_false, Bool.not_true, Bool.and_self, Bool.true_and, Bool.and_true]
end Go.Abs
