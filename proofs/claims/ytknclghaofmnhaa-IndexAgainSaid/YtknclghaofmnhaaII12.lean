import Derived.Test.YtknclghaofmnhaaII11
namespace Go.Abs
open Go Go.RowKit
set_option linter.unusedVariables false
set_option linter.unusedSimpArgs false

theorem again_loop0 (ns os : List Int) (k : Int) (hk : 1 ≤ k) (hns : ns.length < 100000000000000) (H M : Heap) (d : Nat) : ∀ (x : Ix) (fl : Fl) (at_ : Int), Flag x fl → IxInv x (3 + 2 * (x.l.length : Nat)) at_ → Sq x 3 2 → x.base = 3 → x.every = k → 0 ≤ at_ → at_ ≤ 51 * (x.l.length : Nat) → x.l.length + d = min ns.length 40 →
    ∃ x' fl' at', Flag x' fl' ∧ IxInv x' (3 + 2 * (x'.l.length : Nat)) at' ∧ Sq x' 3 2 ∧ x'.base = 3 ∧ x'.every = k ∧ at' ≤ 2040 ∧ x'.l.length = min ns.length 40 ∧
    loopA W loopW (.ghost (.kill k_law8_IndexAgain_0) l_law8_IndexAgain_0) [(0, .list 1 (ints .i64 ns) .ro), (2, .list 1 (ints .i64 os) .ro), (7, .int .i64 k), (8, .ptr (pt H 0) 0), (9, .int .i64 at_), (10, .int .i64 (x.l.length : Nat))] (hx H (x.B fl :: M)) =
      some (.exit 0, [(2, .list 1 (ints .i64 os) .ro), (7, .int .i64 k), (8, .ptr (pt H 0) 0)], hx H (x'.B fl' :: M)) := by
  have e0 : (ints .i64 ns).length = ns.length := by simp
  induction d with
  | zero =>
    intro x fl at_ hfl hi hsq hb hk' h0 h1 hd
    refine ⟨x, fl, at_, hfl, hi, hsq, hb, hk', by omega, by omega, loop_step l_law8_IndexAgain_0.eq_1 k_law8_IndexAgain_0.eq_1 (by kernel_rfl) ?_⟩
    by_cases c1 : ((x.l.length : Nat) : Int) < ((ns.length : Nat) : Int)
    · have c2 : ¬ (((x.l.length : Nat) : Int) < 40) := by omega
      simp only [go_sem, e0, c1, c2, not_true_eq_false, not_false_eq_true, decide_true, decide_false, reduceCtorEq, ne_eq, Bool.false_eq_true, ↓reduceIte, Nat.reduceAdd, Nat.reduceEqDiff, Nat.reduceLT, Int.reduceLE, s_shl, s_shr, Bool.not_false, Bool.not_true, Bool.and_self, Bool.true_and, Bool.and_true, Bool.and_false, Bool.false_and, Bool.not_true, Bool.true_or, Bool.or_true, Nat.reduceSub, Nat.reduceLeDiff, Nat.reduceMul, Int.reduceToNat, Int.reduceLT, Int.reduceEq, Int.reduceNeg, and_self, and_true, true_and, and_false, false_and, or_true, true_or, or_false, false_or, Int.cast_ofNat_Int, Nat.reduceBEq, Nat.reduceBNe, beq_self_eq_true, List.take_zero, List.take_succ_cons, List.take_nil]
    · simp only [go_sem, e0, c1, not_true_eq_false, not_false_eq_true, decide_true, decide_false, reduceCtorEq, ne_eq, Bool.false_eq_true, ↓reduceIte, Nat.reduceAdd, Nat.reduceEqDiff, Nat.reduceLT, Int.reduceLE, s_shl, s_shr, Bool.not_false, Bool.not_true, Bool.and_self, Bool.true_and, Bool.and_true, Bool.and_false, Bool.false_and, Bool.not_true, Bool.true_or, Bool.or_true, Nat.reduceSub, Nat.reduceLeDiff, Nat.reduceMul, Int.reduceToNat, Int.reduceLT, Int.reduceEq, Int.reduceNeg, and_self, and_true, true_and, and_false, false_and, or_true, true_or, or_false, false_or, Int.cast_ofNat_Int, Nat.reduceBEq, Nat.reduceBNe, beq_self_eq_true, List.take_zero, List.take_succ_cons, List.take_nil]
  | succ d ih =>
    intro x fl at_ hfl hi hsq hb hk' h0 h1 hd
    have c1 : ((x.l.length : Nat) : Int) < ((ns.length : Nat) : Int) := by omega
    have c2 : ((x.l.length : Nat) : Int) < 40 := by omega
    have c3 : (0 : Int) ≤ ((x.l.length : Nat) : Int) := by omega
    have h4 := ints_get (k := .i64) (l := ns) (i := x.l.length) (by omega)
    generalize ns[x.l.length]'(by omega) = c at h4
    have hw := fun H => within_spec c 0 50 H (by decide) (by decide) (by decide)
    have hr := withinQ_range c 0 50 (by decide)
    generalize withinQ c 0 50 = n at hw hr
    have e1 : IntKind.i64.wrap (1 + n) = 1 + n := wrap_id (by unfold I64; omega)
    have e2 : IntKind.i64.wrap (at_ + (1 + n)) = at_ + (1 + n) := wrap_id (by unfold I64; omega)
    have e4 : IntKind.i64.wrap (2 * ((x.l.length : Nat) : Int)) = 2 * (x.l.length : Nat) := wrap_id (by unfold I64; omega)
    have e5 : IntKind.i64.wrap (3 + 2 * ((x.l.length : Nat) : Int)) = 3 + 2 * (x.l.length : Nat) := wrap_id (by unfold I64; omega)
    obtain ⟨g1, g2⟩ := hi.add (o := 3 + 2 * (x.l.length : Nat)) (a := at_) (s := 1 + n) (Int.le_refl _) (Int.le_refl _) h0 (by omega) (by omega) (by rw [hb]; omega)
    have hadd := add_true x fl hfl (by omega) (pt H 0) (hx H (x.B fl :: M)) ⟨by rw [hx_get]; rfl⟩ (3 + 2 * (x.l.length : Nat)) at_ (1 + n) g1
    rw [hx_set, List.set_cons_zero] at hadd
    have hl' : (addI x (3 + 2 * (x.l.length : Nat)) at_ (1 + n)).l.length = x.l.length + 1 := by simp [addI]
    have hno : addOK (addI x (3 + 2 * (x.l.length : Nat)) at_ (1 + n)) (3 + 2 * (x.l.length : Nat)) (at_ + (1 + n)) 1 = false := by
      unfold addOK
      simp [addI]
    have hadd2 := add_false (addI x (3 + 2 * (x.l.length : Nat)) at_ (1 + n)) .own (.inl rfl) (by omega) (pt H 0) (hx H ((addI x (3 + 2 * (x.l.length : Nat)) at_ (1 + n)).B .own :: M)) ⟨by rw [hx_get]; rfl⟩ (3 + 2 * (x.l.length : Nat)) (at_ + (1 + n)) 1 hno
    have e3 : IntKind.i64.wrap (((x.l.length : Nat) : Int) + 1) = ((addI x (3 + 2 * (x.l.length : Nat)) at_ (1 + n)).l.length : Nat) := by rw [hl', wrap_id (by unfold I64; omega)]; omega
    have g3 : IxInv (addI x (3 + 2 * (x.l.length : Nat)) at_ (1 + n)) (3 + 2 * ((addI x (3 + 2 * (x.l.length : Nat)) at_ (1 + n)).l.length : Nat)) (at_ + (1 + n)) := by
      refine ⟨fun a ha => ?_, g2.be, g2.gap, g2.ne⟩
      have := g2.bo a ha
      rw [hl']; omega
    obtain ⟨x', fl', at', r1, r2, rs, r3, r4, r5, r6, hN⟩ := ih (addI x (3 + 2 * (x.l.length : Nat)) at_ (1 + n)) .own (at_ + (1 + n)) (.inl rfl) g3 (hsq.add rfl) hb hk' (by omega) (by rw [hl']; omega) (by rw [hl']; omega)
    refine ⟨x', fl', at', r1, r2, rs, r3, r4, r5, r6, loop_step l_law8_IndexAgain_0.eq_1 k_law8_IndexAgain_0.eq_1 (by kernel_rfl) ?_⟩
    simp only [go_sem, e0, c1, c2, c3, h4, hw, e1, e2, e3, e4, e5, hadd, hadd2, not_true_eq_false, not_false_eq_true, decide_true, decide_false, reduceCtorEq, ne_eq, Bool.false_eq_true, ↓reduceIte, Nat.reduceAdd, Nat.reduceEqDiff, Nat.reduceLT, Int.reduceLE, s_shl, s_shr, Bool.not_false, Bool.not_true, Bool.and_self, Bool.true_and, Bool.and_true, Bool.and_false, Bool.false_and, Bool.not_true, Bool.true_or, Bool.or_true, Nat.reduceSub, Nat.reduceLeDiff, Nat.reduceMul, Int.reduceToNat, Int.reduceLT, Int.reduceEq, Int.reduceNeg, and_self, and_true, true_and, and_false, false_and, or_true, true_or, or_false, false_or, Int.cast_ofNat_Int, Nat.reduceBEq, Nat.reduceBNe, beq_self_eq_true, List.take_zero, List.take_succ_cons, List.take_nil]
    exact hN
theorem again_loop1 (os : List Int) (hos : os.length < 100000000000000) (i j : Nat) (E : List En) (H : Heap) (hfi : ∀ off L, W n_index_Index_Find [.ptr i 0, .int .i64 off] (hx H L) = some (.int .i64 (findP E off 0), hx H L)) (hfj : ∀ off L, W n_index_Index_Find [.ptr j 0, .int .i64 off] (hx H L) = some (.int .i64 (findP E off 0), hx H L)) (d : Nat) : ∀ k : Nat, k + d = min os.length 30 →
    loopA W loopW (.ghost (.kill k_law8_IndexAgain_1) l_law8_IndexAgain_1) [(2, .list 1 (ints .i64 os) .ro), (8, .ptr i 0), (12, .ptr j 0), (14, .int .i64 (k : Nat))] (hx H []) = some (.exit 2, [(8, .ptr i 0)], hx H []) := by
  have e0 : (ints .i64 os).length = os.length := by simp
  induction d with
  | zero =>
    intro k hk
    refine loop_step l_law8_IndexAgain_1.eq_1 k_law8_IndexAgain_1.eq_1 (by kernel_rfl) ?_
    by_cases c1 : ((k : Nat) : Int) < ((os.length : Nat) : Int)
    · have c2 : ¬ (((k : Nat) : Int) < 30) := by omega
      simp only [go_sem, e0, c1, c2, not_true_eq_false, not_false_eq_true, decide_true, decide_false, reduceCtorEq, ne_eq, Bool.false_eq_true, ↓reduceIte, Nat.reduceAdd, Nat.reduceEqDiff, Nat.reduceLT, Int.reduceLE, s_shl, s_shr, Bool.not_false, Bool.not_true, Bool.and_self, Bool.true_and, Bool.and_true, Bool.and_false, Bool.false_and, Bool.not_true, Bool.true_or, Bool.or_true, Nat.reduceSub, Nat.reduceLeDiff, Nat.reduceMul, Int.reduceToNat, Int.reduceLT, Int.reduceEq, Int.reduceNeg, and_self, and_true, true_and, and_false, false_and, or_true, true_or, or_false, false_or, Int.cast_ofNat_Int, Nat.reduceBEq, Nat.reduceBNe, beq_self_eq_true, List.take_zero, List.take_succ_cons, List.take_nil]
    · simp only [go_sem, e0, c1, not_true_eq_false, not_false_eq_true, decide_true, decide_false, reduceCtorEq, ne_eq, Bool.false_eq_true, ↓reduceIte, Nat.reduceAdd, Nat.reduceEqDiff, Nat.reduceLT, Int.reduceLE, s_shl, s_shr, Bool.not_false, Bool.not_true, Bool.and_self, Bool.true_and, Bool.and_true, Bool.and_false, Bool.false_and, Bool.not_true, Bool.true_or, Bool.or_true, Nat.reduceSub, Nat.reduceLeDiff, Nat.reduceMul, Int.reduceToNat, Int.reduceLT, Int.reduceEq, Int.reduceNeg, and_self, and_true, true_and, and_false, false_and, or_true, true_or, or_false, false_or, Int.cast_ofNat_Int, Nat.reduceBEq, Nat.reduceBNe, beq_self_eq_true, List.take_zero, List.take_succ_cons, List.take_nil]
  | succ d ih =>
    intro k hk
    have c1 : ((k : Nat) : Int) < ((os.length : Nat) : Int) := by omega
    have c2 : ((k : Nat) : Int) < 30 := by omega
    have c3 : (0 : Int) ≤ ((k : Nat) : Int) := by omega
    have h4 := ints_get (k := .i64) (l := os) (i := k) (by omega)
    generalize os[k]'(by omega) = c at h4
    have h5 := and_7 c
    have e3 : IntKind.i64.wrap (((k : Nat) : Int) + 1) = ((k + 1 : Nat) : Int) := by rw [wrap_id (by unfold I64; omega)]; omega
    have n1 : ∀ a : Int, (decide (¬ a = a)) = false := by simp
    have hN := ih (k + 1) (by omega)
    refine loop_step l_law8_IndexAgain_1.eq_1 k_law8_IndexAgain_1.eq_1 (by kernel_rfl) ?_
    simp only [go_sem, e0, c1, c2, c3, h4, h5, e3, hfi, hfj, n1, not_true_eq_false, not_false_eq_true, decide_true, decide_false, reduceCtorEq, ne_eq, Bool.false_eq_true, ↓reduceIte, Nat.reduceAdd, Nat.reduceEqDiff, Nat.reduceLT, Int.reduceLE, s_shl, s_shr, Bool.not_false, Bool.not_true, Bool.and_self, Bool.true_and, Bool.and_true, Bool.and_false, Bool.false_and, Bool.not_true, Bool.true_or, Bool.or_true, Nat.reduceSub, Nat.reduceLeDiff, Nat.reduceMul, Int.reduceToNat, Int.reduceLT, Int.reduceEq, Int.reduceNeg, and_self, and_true, true_and, and_false, false_and, or_true, true_or, or_false, false_or, Int.cast_ofNat_Int, Nat.reduceBEq, Nat.reduceBNe, beq_self_eq_true, List.take_zero, List.take_succ_cons, List.take_nil]
    exact hN
theorem again_spec (ns : List Int) (every : Int) (os : List Int) (hns : ∀ x ∈ ns, I64 x) (hl : ns.length * 8 ≤ 140737488351232) (he : I64 every) (hos : ∀ x ∈ os, I64 x) (hl2 : os.length * 8 ≤ 140737488351232) :
    W n_law8_IndexAgain [.list 1 (ints .i64 ns) .ro, .int .i64 every, .list 1 (ints .i64 os) .ro] [] = some (.bool true, []) := by
  have hw := fun H => within_spec every 0 90 H (by decide) (by decide) (by decide)
  have hr := withinQ_range every 0 90 (by decide)
  generalize withinQ every 0 90 = n at hw hr
  have e1 : IntKind.i64.wrap (1 + n) = 1 + n := wrap_id (by unfold I64; omega)
  have hnew := fun H => new_spec 3 (1 + n) H
  have hok : newOK 3 (1 + n) = true := by unfold newOK; simp; omega
  rw [hok] at hnew
  simp only [if_true] at hnew
  obtain ⟨x, fl, at_, r1, r2, rs, r3, r4, r5, r6, hN⟩ := again_loop0 ns os (1 + n) (by omega) (by omega) [] [] (min ns.length 40) ⟨3, 1 + n, []⟩ .full 0 (.inr ⟨rfl, rfl⟩) (IxInv.nil _ _ _ _) (Sq.nil _ _ _ _) rfl rfl (Int.le_refl _) (Int.le_refl _) (by simp)
  simp only [List.map_nil, List.length_nil, show ((0 : Nat) : Int) = 0 from rfl] at hN
  have hsrt := GapS.srt (by omega) (r4 ▸ r2.gap : GapS (1 + n) (ents x.l))
  have hel := ents_len x.l
  have hbI : ∀ e ∈ ents x.l, 3 ≤ e.1 ∧ e.1 ≤ 4611686018427387904 ∧ 0 ≤ e.2 ∧ e.2 ≤ 4611686018427387904 := by
    intro e he
    unfold ents at he
    obtain ⟨c, hc, rfl⟩ := List.mem_map.1 he
    have hc := (List.mem_filter.1 hc).1
    have h1 := r2.be c hc
    have h2 := r2.bo c hc
    obtain ⟨P, Q, hPQ⟩ := List.append_of_mem hc
    have h3 := rs P c Q hPQ
    simp only; omega
  have hby := fun L => bytes_spec x fl r1 (by omega) (r2.I64 (by omega)) (pt [] 0) (hx [] (x.B fl :: L)) ⟨by rw [hx_get]; rfl⟩
  rw [r3] at hby
  have hrd := fun H => read_good 3 (1 + n) hok (ents x.l) (by omega) (r4 ▸ r2.gap) hbI H
  have hfi : ∀ off L, W n_index_Index_Find [.ptr (pt [] 0) 0, .int .i64 off] (hx (hx [] [x.B fl, (rdX 3 (1 + n) (ents x.l)).B (rdF (ents x.l))]) L) = some (.int .i64 (findP (ents x.l) off 0), hx (hx [] [x.B fl, (rdX 3 (1 + n) (ents x.l)).B (rdF (ents x.l))]) L) := fun off L => find_spec x fl r1 (by omega) (pt [] 0) _ ⟨by rw [hx_hx, hx_get]; rfl⟩ hsrt off
  have hfj : ∀ off L, W n_index_Index_Find [.ptr (pt [] 1) 0, .int .i64 off] (hx (hx [] [x.B fl, (rdX 3 (1 + n) (ents x.l)).B (rdF (ents x.l))]) L) = some (.int .i64 (findP (ents x.l) off 0), hx (hx [] [x.B fl, (rdX 3 (1 + n) (ents x.l)).B (rdF (ents x.l))]) L) := by
    intro off L
    have hE : ents (rdX 3 (1 + n) (ents x.l)).l = ents x.l := ents_rd _
    have := find_spec (rdX 3 (1 + n) (ents x.l)) (rdF (ents x.l)) (rd_flag _ _ _) (by simp [rdX]; omega) (pt [] 1) (hx (hx [] [x.B fl, (rdX 3 (1 + n) (ents x.l)).B (rdF (ents x.l))]) L) ⟨by rw [hx_hx, hx_get]; rfl⟩ (by rw [hE]; exact hsrt) off
    rw [hE] at this; exact this
  have hN1 := again_loop1 os (by omega) (pt [] 0) (pt [] 1) (ents x.l) (hx [] [x.B fl, (rdX 3 (1 + n) (ents x.l)).B (rdF (ents x.l))]) hfi hfj (min os.length 30) 0 (by omega)
  rw [hx_hx, show ((0 : Nat) : Int) = 0 from rfl] at hN1
  have hf := hfi (-1) []
  rw [hx_hx, findP_gt (-1) _ 0 (fun e he => by have := hbI e he; omega)] at hf
  simp only [List.append_nil] at hN1 hf
  generalize (rdX 3 (1 + n) (ents x.l)).B (rdF (ents x.l)) = B2 at hN1 hf hrd
  refine W_fn rfl rfl ?_
  simp only [go_sem, c_law8_IndexAgain, hw, e1, hnew, hN, hby, hrd, hN1, hf, known_spec, not_true_eq_false, not_false_eq_true, decide_true, decide_false, reduceCtorEq, ne_eq, Bool.false_eq_true, ↓reduceIte, Nat.reduceAdd, Nat.reduceEqDiff, Nat.reduceLT, Int.reduceLE, s_shl, s_shr, Bool.not_false, Bool.not_true, Bool.and_self, Bool.true_and, Bool.and_true, Bool.and_false, Bool.false_and, Bool.not_true, Bool.true_or, Bool.or_true, Nat.reduceSub, Nat.reduceLeDiff, Nat.reduceMul, Int.reduceToNat, Int.reduceLT, Int.reduceEq, Int.reduceNeg, and_self, and_true, true_and, and_false, false_and, or_true, true_or, or_false, false_or, Int.cast_ofNat_Int, Nat.reduceBEq, Nat.reduceBNe, beq_self_eq_true, List.take_zero, List.take_succ_cons, List.take_nil]
end Go.Abs
