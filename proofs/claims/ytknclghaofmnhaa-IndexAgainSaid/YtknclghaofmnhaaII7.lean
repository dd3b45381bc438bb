import Derived.Test.YtknclghaofmnhaaII6
namespace Go.Abs
open Go Go.RowKit
set_option linter.unusedVariables false
set_option linter.unusedSimpArgs false

theorem order_loop0 (ns : List Int) (a b k : Int) (hns : ns.length < 100000000000000) (H M : Heap) (d : Nat) : ∀ (x : Ix) (fl : Fl) (at_ : Int), Flag x fl → IxInv x (x.l.length : Nat) at_ → x.base = 0 → x.every = k → 0 ≤ at_ → at_ ≤ 51 * (x.l.length : Nat) → x.l.length + d = min ns.length 40 →
    ∃ x' fl' at', Flag x' fl' ∧ IxInv x' (x'.l.length : Nat) at' ∧ x'.base = 0 ∧ x'.every = k ∧ at' ≤ 2040 ∧ x'.l.length = min ns.length 40 ∧
    loopA W loopW (.ghost (.kill k_law8_IndexOrder_0) l_law8_IndexOrder_0) [(0, .list 1 (ints .i64 ns) .ro), (2, .int .i64 a), (3, .int .i64 b), (9, .int .i64 k), (10, .ptr (pt H 0) 0), (11, .int .i64 at_), (12, .int .i64 (x.l.length : Nat))] (hx H (x.B fl :: M)) =
      some (.exit 0, [(0, .list 1 (ints .i64 ns) .ro), (2, .int .i64 a), (3, .int .i64 b), (9, .int .i64 k), (10, .ptr (pt H 0) 0)], hx H (x'.B fl' :: M)) := by
  have e0 : (ints .i64 ns).length = ns.length := by simp
  induction d with
  | zero =>
    intro x fl at_ hfl hi hb hk h0 h1 hd
    refine ⟨x, fl, at_, hfl, hi, hb, hk, by omega, by omega, loop_step l_law8_IndexOrder_0.eq_1 k_law8_IndexOrder_0.eq_1 (by kernel_rfl) ?_⟩
    by_cases c1 : ((x.l.length : Nat) : Int) < ((ns.length : Nat) : Int)
    · have c2 : ¬ (((x.l.length : Nat) : Int) < 40) := by omega
      simp only [go_sem, e0, c1, c2, not_true_eq_false, not_false_eq_true, decide_true, decide_false, reduceCtorEq, ne_eq, Bool.false_eq_true, ↓reduceIte, Nat.reduceAdd, Nat.reduceEqDiff, Nat.reduceLT, Int.reduceLE, s_shl, s_shr, Bool.not_false, Bool.not_true, Bool.and_self, Bool.true_and, Bool.and_true, Bool.and_false, Bool.false_and, Bool.not_true, Bool.true_or, Bool.or_true, Nat.reduceSub, Nat.reduceLeDiff, Nat.reduceMul, Int.reduceToNat, Int.reduceLT, Int.reduceEq, Int.reduceNeg, and_self, and_true, true_and, and_false, false_and, or_true, true_or, or_false, false_or, Int.cast_ofNat_Int, Nat.reduceBEq, Nat.reduceBNe, beq_self_eq_true, List.take_zero, List.take_succ_cons, List.take_nil]
    · simp only [go_sem, e0, c1, not_true_eq_false, not_false_eq_true, decide_true, decide_false, reduceCtorEq, ne_eq, Bool.false_eq_true, ↓reduceIte, Nat.reduceAdd, Nat.reduceEqDiff, Nat.reduceLT, Int.reduceLE, s_shl, s_shr, Bool.not_false, Bool.not_true, Bool.and_self, Bool.true_and, Bool.and_true, Bool.and_false, Bool.false_and, Bool.not_true, Bool.true_or, Bool.or_true, Nat.reduceSub, Nat.reduceLeDiff, Nat.reduceMul, Int.reduceToNat, Int.reduceLT, Int.reduceEq, Int.reduceNeg, and_self, and_true, true_and, and_false, false_and, or_true, true_or, or_false, false_or, Int.cast_ofNat_Int, Nat.reduceBEq, Nat.reduceBNe, beq_self_eq_true, List.take_zero, List.take_succ_cons, List.take_nil]
  | succ d ih =>
    intro x fl at_ hfl hi hb hk h0 h1 hd
    have c1 : ((x.l.length : Nat) : Int) < ((ns.length : Nat) : Int) := by omega
    have c2 : ((x.l.length : Nat) : Int) < 40 := by omega
    have c3 : (0 : Int) ≤ ((x.l.length : Nat) : Int) := by omega
    have h4 := ints_get (k := .i64) (l := ns) (i := x.l.length) (by omega)
    generalize ns[x.l.length]'(by omega) = c at h4
    have hw := fun H => within_spec c 0 50 H (by decide) (by decide) (by decide)
    have hr := withinQ_range c 0 50 (by decide)
    generalize withinQ c 0 50 = n at hw hr
    have e1 : IntKind.i64.wrap (1 + n) = 1 + n := wrap_id (by unfold I64; omega)
    have e2 : IntKind.i64.wrap (at_ + (1 + n)) = at_ + (1 + n) := wrap_id (by unfold I64; omega)
    obtain ⟨g1, g2⟩ := hi.add (o := (x.l.length : Nat)) (a := at_) (s := 1 + n) (Int.le_refl _) (Int.le_refl _) h0 (by omega) (by omega) (by rw [hb]; omega)
    have hadd := add_true x fl hfl (by omega) (pt H 0) (hx H (x.B fl :: M)) ⟨by rw [hx_get]; rfl⟩ (x.l.length : Nat) at_ (1 + n) g1
    rw [hx_set, List.set_cons_zero] at hadd
    have hl' : (addI x (x.l.length : Nat) at_ (1 + n)).l.length = x.l.length + 1 := by simp [addI]
    have e3 : IntKind.i64.wrap (((x.l.length : Nat) : Int) + 1) = ((addI x (x.l.length : Nat) at_ (1 + n)).l.length : Nat) := by rw [hl', wrap_id (by unfold I64; omega)]; omega
    obtain ⟨x', fl', at', r1, r2, r3, r4, r5, r6, hN⟩ := ih (addI x (x.l.length : Nat) at_ (1 + n)) .own (at_ + (1 + n)) (.inl rfl) (by rw [hl']; simpa using g2) hb hk (by omega) (by rw [hl']; omega) (by rw [hl']; omega)
    refine ⟨x', fl', at', r1, r2, r3, r4, r5, r6, loop_step l_law8_IndexOrder_0.eq_1 k_law8_IndexOrder_0.eq_1 (by kernel_rfl) ?_⟩
    simp only [go_sem, e0, c1, c2, c3, h4, hw, e1, e2, e3, hadd, not_true_eq_false, not_false_eq_true, decide_true, decide_false, reduceCtorEq, ne_eq, Bool.false_eq_true, ↓reduceIte, Nat.reduceAdd, Nat.reduceEqDiff, Nat.reduceLT, Int.reduceLE, s_shl, s_shr, Bool.not_false, Bool.not_true, Bool.and_self, Bool.true_and, Bool.and_true, Bool.and_false, Bool.false_and, Bool.not_true, Bool.true_or, Bool.or_true, Nat.reduceSub, Nat.reduceLeDiff, Nat.reduceMul, Int.reduceToNat, Int.reduceLT, Int.reduceEq, Int.reduceNeg, and_self, and_true, true_and, and_false, false_and, or_true, true_or, or_false, false_or, Int.cast_ofNat_Int, Nat.reduceBEq, Nat.reduceBNe, beq_self_eq_true, List.take_zero, List.take_succ_cons, List.take_nil]
    exact hN
theorem order_loop1 (X2 X3 : AVal) (ns : List Int) (k : Int) (E : List En) (hE : E.length < 1000000000) (hI : ∀ e ∈ E, 0 ≤ e.2 ∧ e.2 ≤ 4611686018427387904) (hg : GapS k E) (P : AVal) (H : Heap) (s0 s1 : Int) (hX2 : X2 = .int .i64 s0) (hX3 : X3 = .int .i64 s1) (i0 : Nat) (hP : P = .ptr i0 0) : ∀ (r s : List En), E = s ++ r →
    loopA W loopW (.ghost (.kill k_law8_IndexOrder_1) l_law8_IndexOrder_1) [(0, .list 1 (ints .i64 ns) .ro), (2, X2), (3, X3), (9, .int .i64 k), (10, P), (14, .list 2 (E.map enV) .full), (52, .int .i64 E.length), (53, .int .i64 s.length)] H =
      some (.exit 2, [(0, .list 1 (ints .i64 ns) .ro), (2, X2), (3, X3), (10, P), (14, .list 2 (E.map enV) .full)], H) := by
  subst hX2; subst hX3; subst hP
  have gs : ∀ (r s : List En) (e : En), E = s ++ e :: r → ∀ q, s.getLast? = some q → q.1 < e.1 ∧ e.2 - q.2 ≥ k := by
    intro r s e hE q hq
    have : GapS k (s ++ e :: r) := hE ▸ hg
    clear hE hg hI
    induction s with
    | nil => simp at hq
    | cons y s ih =>
      cases s with
      | nil => simp at hq; subst hq; exact this.1
      | cons z s => exact ih (by simpa [List.getLast?_cons_cons] using hq) this.2
  intro r
  induction r with
  | nil =>
    intro s hs
    rw [List.append_nil] at hs
    subst hs
    have h1 : ¬ ((E.length : Int) < (E.length : Int)) := by omega
    refine loop_step l_law8_IndexOrder_1.eq_1 k_law8_IndexOrder_1.eq_1 (by kernel_rfl) ?_
    simp only [go_sem, h1, not_true_eq_false, not_false_eq_true, decide_true, decide_false, reduceCtorEq, ne_eq, Bool.false_eq_true, ↓reduceIte, Nat.reduceAdd, Nat.reduceEqDiff, Nat.reduceLT, Int.reduceLE, s_shl, s_shr, Bool.not_false, Bool.not_true, Bool.and_self, Bool.true_and, Bool.and_true, Bool.and_false, Bool.false_and, Bool.not_true, Bool.true_or, Bool.or_true, Nat.reduceSub, Nat.reduceLeDiff, Nat.reduceMul, Int.reduceToNat, Int.reduceLT, Int.reduceEq, Int.reduceNeg, and_self, and_true, true_and, and_false, false_and, or_true, true_or, or_false, false_or, Int.cast_ofNat_Int, Nat.reduceBEq, Nat.reduceBNe, beq_self_eq_true, List.take_zero, List.take_succ_cons, List.take_nil]
  | cons e r ih =>
    intro s hs
    have hlen : E.length = s.length + (r.length + 1) := by rw [hs, List.length_append, List.length_cons]
    have h1 : (s.length : Int) < (E.length : Int) := by omega
    have h2 : (0 : Int) ≤ (s.length : Int) := by omega
    have h3 : (E.map enV)[((s.length : Nat) : Int).toNat]? = some (enV e) := by rw [hs]; simp
    have e1 : IntKind.i64.wrap ((s.length : Int) + 1) = ((s ++ [e]).length : Int) := by rw [wrap_id (by unfold I64; omega)]; simp
    have hN := ih (s ++ [e]) (by rw [hs]; simp)
    refine loop_step l_law8_IndexOrder_1.eq_1 k_law8_IndexOrder_1.eq_1 (by kernel_rfl) ?_
    rcases List.eq_nil_or_concat s with h0 | ⟨s', q, h0⟩
    · have g0 : ¬ ((s.length : Int) > 0) := by rw [h0]; simp
      simp only [go_sem, h1, h2, h3, e1, g0, not_true_eq_false, not_false_eq_true, decide_true, decide_false, reduceCtorEq, ne_eq, Bool.false_eq_true, ↓reduceIte, Nat.reduceAdd, Nat.reduceEqDiff, Nat.reduceLT, Int.reduceLE, s_shl, s_shr, Bool.not_false, Bool.not_true, Bool.and_self, Bool.true_and, Bool.and_true, Bool.and_false, Bool.false_and, Bool.not_true, Bool.true_or, Bool.or_true, Nat.reduceSub, Nat.reduceLeDiff, Nat.reduceMul, Int.reduceToNat, Int.reduceLT, Int.reduceEq, Int.reduceNeg, and_self, and_true, true_and, and_false, false_and, or_true, true_or, or_false, false_or, Int.cast_ofNat_Int, Nat.reduceBEq, Nat.reduceBNe, beq_self_eq_true, List.take_zero, List.take_succ_cons, List.take_nil]
      exact hN
    · rw [List.concat_eq_append] at h0
      have hq := gs r s e hs q (by rw [h0]; simp)
      have i1 := hI e (by rw [hs]; simp)
      have i2 := hI q (by rw [hs, h0]; simp)
      have g0 : (s.length : Int) > 0 := by rw [h0]; simp
      have g1 : IntKind.i64.wrap ((s.length : Int) - 1) = ((s.length - 1 : Nat) : Int) := by rw [wrap_id (by unfold I64; omega)]; omega
      have g2 : (E.map enV)[((s.length - 1 : Nat) : Int).toNat]? = some (enV q) := by rw [hs, h0]; simp
      have g3 : (0 : Int) ≤ ((s.length - 1 : Nat) : Int) := by omega
      have g4 : ¬ (e.1 ≤ q.1) := by omega
      have g5 : IntKind.i64.wrap (e.2 - q.2) = e.2 - q.2 := wrap_id (by unfold I64; omega)
      have g6 : ¬ (e.2 - q.2 < k) := by omega
      simp only [go_sem, h1, h2, h3, e1, g0, g1, g2, g3, g4, g5, g6, not_true_eq_false, not_false_eq_true, decide_true, decide_false, reduceCtorEq, ne_eq, Bool.false_eq_true, ↓reduceIte, Nat.reduceAdd, Nat.reduceEqDiff, Nat.reduceLT, Int.reduceLE, s_shl, s_shr, Bool.not_false, Bool.not_true, Bool.and_self, Bool.true_and, Bool.and_true, Bool.and_false, Bool.false_and, Bool.not_true, Bool.true_or, Bool.or_true, Nat.reduceSub, Nat.reduceLeDiff, Nat.reduceMul, Int.reduceToNat, Int.reduceLT, Int.reduceEq, Int.reduceNeg, and_self, and_true, true_and, and_false, false_and, or_true, true_or, or_false, false_or, Int.cast_ofNat_Int, Nat.reduceBEq, Nat.reduceBNe, beq_self_eq_true, List.take_zero, List.take_succ_cons, List.take_nil]
      exact hN
theorem order_spec (ns : List Int) (every a b : Int) (hns : ∀ x ∈ ns, I64 x) (hl : ns.length * 8 ≤ 140737488351232) (he : I64 every) (ha : I64 a) (hb : I64 b) :
    W n_law8_IndexOrder [.list 1 (ints .i64 ns) .ro, .int .i64 every, .int .i64 a, .int .i64 b] [] = some (.bool true, []) := by
  have hw := fun H => within_spec every 0 90 H (by decide) (by decide) (by decide)
  have hr := withinQ_range every 0 90 (by decide)
  generalize withinQ every 0 90 = n at hw hr
  have e1 : IntKind.i64.wrap (1 + n) = 1 + n := wrap_id (by unfold I64; omega)
  have hnew := fun H => new_spec 0 (1 + n) H
  have hok : newOK 0 (1 + n) = true := by unfold newOK; simp; omega
  rw [hok] at hnew
  simp only [if_true] at hnew
  obtain ⟨x, fl, at_, r1, r2, r3, r4, r5, r6, hN⟩ := order_loop0 ns a b (1 + n) (by omega) [] [] (min ns.length 40) ⟨0, 1 + n, []⟩ .full 0 (.inr ⟨rfl, rfl⟩) (IxInv.nil _ _ _ _) rfl rfl (Int.le_refl _) (Int.le_refl _) (by simp)
  simp only [List.map_nil, List.length_nil, show ((0 : Nat) : Int) = 0 from rfl] at hN
  have hE := entries_spec x fl r1 (by omega) (pt [] 0) (hx [] [x.B fl]) ⟨by rw [hx_get]; rfl⟩
  have hsrt := GapS.srt (by omega) (r4 ▸ r2.gap : GapS (1 + n) (ents x.l))
  have hel := ents_len x.l
  have hbI : ∀ e ∈ ents x.l, 0 ≤ e.2 ∧ e.2 ≤ 4611686018427387904 := by
    intro e he
    unfold ents at he
    obtain ⟨c, hc, rfl⟩ := List.mem_map.1 he
    have := r2.be c (List.mem_filter.1 hc).1
    simp only; omega
  have hN1 := order_loop1 _ _ ns (1 + n) (ents x.l) (by omega) hbI (r4 ▸ r2.gap) _ (hx [] [x.B fl]) a b rfl rfl (pt [] 0) rfl (ents x.l) [] rfl
  rw [show ((([] : List En).length : Nat) : Int) = 0 from rfl] at hN1
  have hf := fun off => find_spec x fl r1 (by omega) (pt [] 0) (hx [] [x.B fl]) ⟨by rw [hx_get]; rfl⟩ hsrt off
  have e2 : ((ents x.l).map enV).length = (ents x.l).length := by simp
  have e3 : (ints .i64 ns).length = ns.length := by simp
  have hz : (decide (((ns.length : Nat) : Int) = 0) == decide ((((ents x.l).length : Nat) : Int) = 0)) = true := by
    by_cases h : ns.length = 0
    · have : x.l.length = 0 := by omega
      have h2 : (ents x.l).length = 0 := by omega
      simp [h, h2]
    · have h1 : x.l ≠ [] := by intro hh; rw [hh] at r6; simp at r6; omega
      have h2 := List.length_pos_iff.2 (r2.ne h1)
      have h3 : ¬ (((ns.length : Nat) : Int) = 0) := by omega
      have h4 : ¬ ((((ents x.l).length : Nat) : Int) = 0) := by omega
      simp only [h3, h4, decide_false]; rfl
  have hp := and_6 a
  have hq := and_6 b
  refine W_fn rfl rfl ?_
  by_cases hpq : a % 64 > b % 64
  · simp only [go_sem, c_law8_IndexOrder, hw, e1, hnew, hN, hE, e2, e3, hN1, hp, hq, hpq, hz, known_spec, not_true_eq_false, not_false_eq_true, decide_true, decide_false, reduceCtorEq, ne_eq, Bool.false_eq_true, ↓reduceIte, Nat.reduceAdd, Nat.reduceEqDiff, Nat.reduceLT, Int.reduceLE, s_shl, s_shr, Bool.not_false, Bool.not_true, Bool.and_self, Bool.true_and, Bool.and_true, Bool.and_false, Bool.false_and, Bool.not_true, Bool.true_or, Bool.or_true, Nat.reduceSub, Nat.reduceLeDiff, Nat.reduceMul, Int.reduceToNat, Int.reduceLT, Int.reduceEq, Int.reduceNeg, and_self, and_true, true_and, and_false, false_and, or_true, true_or, or_false, false_or, Int.cast_ofNat_Int, Nat.reduceBEq, Nat.reduceBNe, beq_self_eq_true, List.take_zero, List.take_succ_cons, List.take_nil]
  · have hm := findP_mono (k := 1 + n) (by omega) (a % 64) (b % 64) (by omega) (ents x.l) 0 (r4 ▸ r2.gap) (fun e he => (hbI e he).1)
    simp only [go_sem, c_law8_IndexOrder, hw, e1, hnew, hN, hE, e2, e3, hN1, hp, hq, hpq, hf, hm, hz, known_spec, not_true_eq_false, not_false_eq_true, decide_true, decide_false, reduceCtorEq, ne_eq, Bool.false_eq_true, ↓reduceIte, Nat.reduceAdd, Nat.reduceEqDiff, Nat.reduceLT, Int.reduceLE, s_shl, s_shr, Bool.not_false, Bool.not_true, Bool.and_self, Bool.true_and, Bool.and_true, Bool.and_false, Bool.false_and, Bool.not_true, Bool.true_or, Bool.or_true, Nat.reduceSub, Nat.reduceLeDiff, Nat.reduceMul, Int.reduceToNat, Int.reduceLT, Int.reduceEq, Int.reduceNeg, and_self, and_true, true_and, and_false, false_and, or_true, true_or, or_false, false_or, Int.cast_ofNat_Int, Nat.reduceBEq, Nat.reduceBNe, beq_self_eq_true, List.take_zero, List.take_succ_cons, List.take_nil]
end Go.Abs
