import Derived.Test.YtknclghaofmnhaaII7
namespace Go.Abs
open Go Go.RowKit
set_option linter.unusedVariables false
set_option linter.unusedSimpArgs false

theorem snoc_split {α : Type} {l P Q : List α} {a b : α} (h : l ++ [b] = P ++ a :: Q) : (Q = [] ∧ l = P ∧ a = b) ∨ ∃ Q', Q = Q' ++ [b] ∧ l = P ++ a :: Q' := by
  rcases List.eq_nil_or_concat Q with h0 | ⟨Q', c, h0⟩
  · subst h0
    obtain ⟨h1, h2⟩ := List.append_inj' h (by simp)
    left; exact ⟨rfl, h1, by simpa using h2.symm⟩
  · rw [List.concat_eq_append] at h0
    subst h0
    rw [show P ++ a :: (Q' ++ [c]) = (P ++ a :: Q') ++ [c] by simp] at h
    obtain ⟨h1, h2⟩ := List.append_inj' h (by simp)
    right
    have : b = c := by simpa using h2
    subst this
    exact ⟨Q', rfl, h1⟩
def Cov (x : Ix) : Prop := ∀ P a Q, x.l = P ++ a :: Q → ∃ e, lastE (P ++ [a]) = some e ∧ a.at_ - e.at_ < x.every
def Sq (x : Ix) (c d : Int) : Prop := ∀ P a Q, x.l = P ++ a :: Q → a.off = c + d * (P.length : Nat)
theorem Cov.nil (b e : Int) : Cov ⟨b, e, []⟩ := fun P a Q h => by simp at h
theorem Sq.nil (b e c d : Int) : Sq ⟨b, e, []⟩ c d := fun P a Q h => by simp at h
theorem Cov.add {x : Ix} {ho he o a s : Int} (h : Cov x) (hi : IxInv x ho he) (h2 : he ≤ a) (h5 : a ≤ 4611686018427387904) (h1 : 1 ≤ x.every) (h3 : 0 ≤ a) : Cov (addI x o a s) := by
  intro P b Q hs
  rcases snoc_split hs with ⟨rfl, rfl, rfl⟩ | ⟨Q', rfl, hs'⟩
  · rw [lastE_snoc]
    cases hE : addE x a with
    | true => exact ⟨_, by simp [hE]; rfl, by show _ < x.every; omega⟩
    | false =>
      have hE' := hE
      unfold addE at hE
      split at hE
      · cases hE
      · rename_i e he'
        simp only [decide_eq_false_iff_not] at hE
        have := hi.be e (lastE_mem he')
        rw [wrap_id (by unfold I64; omega)] at hE
        exact ⟨e, by simp [hE', he'], by show _ < x.every; simp only; omega⟩
  · exact h P b Q' hs'
theorem Sq.add {x : Ix} {c d o a s : Int} (h : Sq x c d) (ho : o = c + d * (x.l.length : Nat)) : Sq (addI x o a s) c d := by
  intro P b Q hs
  rcases snoc_split hs with ⟨rfl, rfl, rfl⟩ | ⟨Q', rfl, hs'⟩
  · exact ho
  · exact h P b Q' hs'
theorem findP_le (off) : ∀ (A : List En) (a : Int), (∀ e ∈ A, e.1 ≤ off) → findP A off a = match A.getLast? with | none => a | some e => e.2
  | [], a, _ => rfl
  | e :: A, a, h => by
    rw [findP, if_pos (h e (by simp)), findP_le off A e.2 fun e' h' => h e' (List.mem_cons_of_mem _ h')]
    cases A with
    | nil => rfl
    | cons q A =>
      rw [List.getLast?_cons_cons]
      cases hq : (q :: A).getLast? with
      | none => simp at hq
      | some y => rfl
/-- Where the one at a place of the row is found. -/
theorem find_at {x : Ix} {c d : Int} (hq : Sq x c d) (hd : 0 < d) (hcov : Cov x) {P : List Ad} {a : Ad} {Q : List Ad} (h : x.l = P ++ a :: Q) : ∃ e, e ∈ P ++ [a] ∧ findP (ents x.l) a.off 0 = e.at_ ∧ a.at_ - e.at_ < x.every := by
  obtain ⟨e, h1, h2⟩ := hcov P a Q h
  refine ⟨e, lastE_mem h1, ?_, h2⟩
  have ha := hq P a Q h
  rw [h, show P ++ a :: Q = (P ++ [a]) ++ Q by simp, ents_app, findP_app]
  have hA : ∀ e ∈ ents (P ++ [a]), e.1 ≤ a.off := by
    intro e he
    unfold ents at he
    obtain ⟨b, hb, rfl⟩ := List.mem_map.1 he
    have hb := (List.mem_filter.1 hb).1
    rcases List.mem_append.1 hb with hb | hb
    · obtain ⟨P1, P2, rfl⟩ := List.append_of_mem hb
      have := hq P1 b (P2 ++ a :: Q) (by rw [h]; simp)
      simp only
      rw [this, ha]
      have : ((P1.length : Nat) : Int) ≤ ((P1 ++ b :: P2).length : Nat) := by simp; omega
      have := Int.mul_le_mul_of_nonneg_left this (Int.le_of_lt hd)
      omega
    · rw [List.mem_singleton] at hb; subst hb; exact Int.le_refl _
  have hB : ∀ e ∈ ents Q, a.off < e.1 := by
    intro e he
    unfold ents at he
    obtain ⟨b, hb, rfl⟩ := List.mem_map.1 he
    have hb := (List.mem_filter.1 hb).1
    obtain ⟨Q1, Q2, rfl⟩ := List.append_of_mem hb
    have := hq (P ++ a :: Q1) b Q2 (by rw [h]; simp)
    simp only
    rw [this, ha]
    have h3 : ((P.length : Nat) : Int) + 1 ≤ ((P ++ a :: Q1).length : Nat) := by simp; omega
    have h4 := Int.mul_le_mul_of_nonneg_left h3 (Int.le_of_lt hd)
    rw [Int.mul_add] at h4
    omega
  rw [findP_gt _ _ _ hB, findP_le _ _ _ hA, ← lastE_ents, h1]; rfl

theorem finds_loop0 (ns : List Int) (w k : Int) (hk : 1 ≤ k) (hns : ns.length < 100000000000000) (H M : Heap) (d : Nat) : ∀ (x : Ix) (fl fa : Fl) (at_ mo : Int), Flag x fl → (fa = .own ∨ (fa = .full ∧ x.l = [])) → IxInv x (x.l.length : Nat) at_ → Cov x → Sq x 0 1 → x.base = 0 → x.every = k → 0 ≤ at_ → at_ ≤ 61 * (x.l.length : Nat) → x.l.length + d = min ns.length 40 →
    ∃ x' fl' fa' at', Flag x' fl' ∧ (fa' = .own ∨ (fa' = .full ∧ x'.l = [])) ∧ IxInv x' (x'.l.length : Nat) at' ∧ Cov x' ∧ Sq x' 0 1 ∧ x'.base = 0 ∧ x'.every = k ∧ at' ≤ 2440 ∧ x'.l.length = min ns.length 40 ∧
    loopA W loopW (.ghost (.kill k_law8_IndexFinds_0) l_law8_IndexFinds_0) [(0, .list 1 (ints .i64 ns) .ro), (2, .int .i64 w), (7, .int .i64 k), (8, .ptr (pt H 0) 0), (9, .list 1 (ints .i64 (x.l.map (·.at_))) fa), (10, .int .i64 at_), (11, .int .i64 mo), (12, .int .i64 (x.l.length : Nat))] (hx H (x.B fl :: M)) =
      some (.exit 0, [(2, .int .i64 w), (7, .int .i64 k), (8, .ptr (pt H 0) 0), (9, .list 1 (ints .i64 (x'.l.map (·.at_))) fa')], hx H (x'.B fl' :: M)) := by
  have e0 : (ints .i64 ns).length = ns.length := by simp
  induction d with
  | zero =>
    intro x fl fa at_ mo hfl hfa hi hcv hsq hb hk' h0 h1 hd
    refine ⟨x, fl, fa, at_, hfl, hfa, hi, hcv, hsq, hb, hk', by omega, by omega, loop_step l_law8_IndexFinds_0.eq_1 k_law8_IndexFinds_0.eq_1 (by kernel_rfl) ?_⟩
    by_cases c1 : ((x.l.length : Nat) : Int) < ((ns.length : Nat) : Int)
    · have c2 : ¬ (((x.l.length : Nat) : Int) < 40) := by omega
      rcases hfa with rfl | ⟨rfl, _⟩ <;> simp only [go_sem, e0, c1, c2, not_true_eq_false, not_false_eq_true, decide_true, decide_false, reduceCtorEq, ne_eq, Bool.false_eq_true, ↓reduceIte, Nat.reduceAdd, Nat.reduceEqDiff, Nat.reduceLT, Int.reduceLE, s_shl, s_shr, Bool.not_false, Bool.not_true, Bool.and_self, Bool.true_and, Bool.and_true, Bool.and_false, Bool.false_and, Bool.not_true, Bool.true_or, Bool.or_true, Nat.reduceSub, Nat.reduceLeDiff, Nat.reduceMul, Int.reduceToNat, Int.reduceLT, Int.reduceEq, Int.reduceNeg, and_self, and_true, true_and, and_false, false_and, or_true, true_or, or_false, false_or, Int.cast_ofNat_Int, Nat.reduceBEq, Nat.reduceBNe, beq_self_eq_true, List.take_zero, List.take_succ_cons, List.take_nil]
    · rcases hfa with rfl | ⟨rfl, _⟩ <;> simp only [go_sem, e0, c1, not_true_eq_false, not_false_eq_true, decide_true, decide_false, reduceCtorEq, ne_eq, Bool.false_eq_true, ↓reduceIte, Nat.reduceAdd, Nat.reduceEqDiff, Nat.reduceLT, Int.reduceLE, s_shl, s_shr, Bool.not_false, Bool.not_true, Bool.and_self, Bool.true_and, Bool.and_true, Bool.and_false, Bool.false_and, Bool.not_true, Bool.true_or, Bool.or_true, Nat.reduceSub, Nat.reduceLeDiff, Nat.reduceMul, Int.reduceToNat, Int.reduceLT, Int.reduceEq, Int.reduceNeg, and_self, and_true, true_and, and_false, false_and, or_true, true_or, or_false, false_or, Int.cast_ofNat_Int, Nat.reduceBEq, Nat.reduceBNe, beq_self_eq_true, List.take_zero, List.take_succ_cons, List.take_nil]
  | succ d ih =>
    intro x fl fa at_ mo hfl hfa hi hcv hsq hb hk' h0 h1 hd
    have c1 : ((x.l.length : Nat) : Int) < ((ns.length : Nat) : Int) := by omega
    have c2 : ((x.l.length : Nat) : Int) < 40 := by omega
    have c3 : (0 : Int) ≤ ((x.l.length : Nat) : Int) := by omega
    have h4 := ints_get (k := .i64) (l := ns) (i := x.l.length) (by omega)
    generalize ns[x.l.length]'(by omega) = c at h4
    have hw := fun H => within_spec c 0 60 H (by decide) (by decide) (by decide)
    have hr := withinQ_range c 0 60 (by decide)
    generalize withinQ c 0 60 = n at hw hr
    have e1 : IntKind.i64.wrap (1 + n) = 1 + n := wrap_id (by unfold I64; omega)
    have e2 : IntKind.i64.wrap (at_ + (1 + n)) = at_ + (1 + n) := wrap_id (by unfold I64; omega)
    obtain ⟨g1, g2⟩ := hi.add (o := (x.l.length : Nat)) (a := at_) (s := 1 + n) (Int.le_refl _) (Int.le_refl _) h0 (by omega) (by omega) (by rw [hb]; omega)
    have hadd := add_true x fl hfl (by omega) (pt H 0) (hx H (x.B fl :: M)) ⟨by rw [hx_get]; rfl⟩ (x.l.length : Nat) at_ (1 + n) g1
    rw [hx_set, List.set_cons_zero] at hadd
    have hl' : (addI x (x.l.length : Nat) at_ (1 + n)).l.length = x.l.length + 1 := by simp [addI]
    have e3 : IntKind.i64.wrap (((x.l.length : Nat) : Int) + 1) = ((addI x (x.l.length : Nat) at_ (1 + n)).l.length : Nat) := by rw [hl', wrap_id (by unfold I64; omega)]; omega
    have a1 : ints .i64 (x.l.map (·.at_)) ++ [.int .i64 at_] = ints .i64 ((addI x (x.l.length : Nat) at_ (1 + n)).l.map (·.at_)) := by simp [addI]
    have a2 : ((ints .i64 (x.l.map (·.at_))).length + 1) * 8 ≤ maxBytes := by simp [maxBytes]; omega
    obtain ⟨x', fl', fa', at', r1, r2, r3, r4, r5, r6, r7, r8, r9, hN⟩ := ih (addI x (x.l.length : Nat) at_ (1 + n)) .own .own (at_ + (1 + n)) (mx mo (1 + n)) (.inl rfl) (.inl rfl) (by rw [hl']; simpa using g2) (hcv.add hi (Int.le_refl _) (by omega) (by omega) h0) (hsq.add (by omega)) hb hk' (by omega) (by rw [hl']; omega) (by rw [hl']; omega)
    refine ⟨x', fl', fa', at', r1, r2, r3, r4, r5, r6, r7, r8, r9, loop_step l_law8_IndexFinds_0.eq_1 k_law8_IndexFinds_0.eq_1 (by kernel_rfl) ?_⟩
    rcases hfa with rfl | ⟨rfl, _⟩ <;> (simp only [go_sem, e0, c1, c2, c3, h4, hw, e1, e2, e3, hadd, a1, a2, apO, apF, not_true_eq_false, not_false_eq_true, decide_true, decide_false, reduceCtorEq, ne_eq, Bool.false_eq_true, ↓reduceIte, Nat.reduceAdd, Nat.reduceEqDiff, Nat.reduceLT, Int.reduceLE, s_shl, s_shr, Bool.not_false, Bool.not_true, Bool.and_self, Bool.true_and, Bool.and_true, Bool.and_false, Bool.false_and, Bool.not_true, Bool.true_or, Bool.or_true, Nat.reduceSub, Nat.reduceLeDiff, Nat.reduceMul, Int.reduceToNat, Int.reduceLT, Int.reduceEq, Int.reduceNeg, and_self, and_true, true_and, and_false, false_and, or_true, true_or, or_false, false_or, Int.cast_ofNat_Int, Nat.reduceBEq, Nat.reduceBNe, beq_self_eq_true, List.take_zero, List.take_succ_cons, List.take_nil]; exact hN)
theorem finds_loop1 (k i f : Int) (i0 : Nat) (L : List Int) (hL : L.length < 1000000) (I : Nat) (hI : I < L.length) (H : Heap) (d : Nat) : ∀ (j : Nat) (b : Bool), j + d = I + 1 → 
    loopA W loopW (.ghost (.kill k_law8_IndexFinds_1) l_law8_IndexFinds_1) [(7, .int .i64 k), (8, .ptr i0 0), (9, .list 1 (ints .i64 L) .own), (14, .int .i64 (I : Nat)), (15, .int .i64 f), (16, .bool b), (17, .int .i64 (j : Nat))] H =
      some (.exit 2, [(7, .int .i64 k), (8, .ptr i0 0), (9, .list 1 (ints .i64 L) .own), (14, .int .i64 (I : Nat)), (15, .int .i64 f), (16, .bool (b || ((L.take (I + 1)).drop j).any (fun v => decide (v = f))))], H) := by
  induction d with
  | zero =>
    intro j b hj
    have c1 : ¬ (((j : Nat) : Int) ≤ ((I : Nat) : Int)) := by omega
    have e : (L.take (I + 1)).drop j = [] := List.drop_eq_nil_of_le (by rw [List.length_take]; omega)
    rw [e, List.any_nil, Bool.or_false]
    refine loop_step l_law8_IndexFinds_1.eq_1 k_law8_IndexFinds_1.eq_1 (by kernel_rfl) ?_
    simp only [go_sem, c1, not_true_eq_false, not_false_eq_true, decide_true, decide_false, reduceCtorEq, ne_eq, Bool.false_eq_true, ↓reduceIte, Nat.reduceAdd, Nat.reduceEqDiff, Nat.reduceLT, Int.reduceLE, s_shl, s_shr, Bool.not_false, Bool.not_true, Bool.and_self, Bool.true_and, Bool.and_true, Bool.and_false, Bool.false_and, Bool.not_true, Bool.true_or, Bool.or_true, Nat.reduceSub, Nat.reduceLeDiff, Nat.reduceMul, Int.reduceToNat, Int.reduceLT, Int.reduceEq, Int.reduceNeg, and_self, and_true, true_and, and_false, false_and, or_true, true_or, or_false, false_or, Int.cast_ofNat_Int, Nat.reduceBEq, Nat.reduceBNe, beq_self_eq_true, List.take_zero, List.take_succ_cons, List.take_nil]
  | succ d ih =>
    intro j b hj
    have c1 : ((j : Nat) : Int) ≤ ((I : Nat) : Int) := by omega
    have c2 : (0 : Int) ≤ ((j : Nat) : Int) := by omega
    have hj2 : j < (L.take (I + 1)).length := by rw [List.length_take]; omega
    have e : (L.take (I + 1)).drop j = L[j] :: (L.take (I + 1)).drop (j + 1) := by
      rw [List.drop_eq_getElem_cons hj2]; simp
    have h4 := ints_get (k := .i64) (l := L) (i := j) (by omega)
    have e1 : IntKind.i64.wrap (((j : Nat) : Int) + 1) = ((j + 1 : Nat) : Int) := by rw [wrap_id (by unfold I64; omega)]; omega
    rw [e, List.any_cons]
    generalize L[j]'(by omega) = v at h4
    cases b with
    | true =>
      have hN := ih (j + 1) true (by omega)
      rw [Bool.true_or] at hN ⊢
      refine loop_step l_law8_IndexFinds_1.eq_1 k_law8_IndexFinds_1.eq_1 (by kernel_rfl) ?_
      simp only [go_sem, c1, c2, e1, not_true_eq_false, not_false_eq_true, decide_true, decide_false, reduceCtorEq, ne_eq, Bool.false_eq_true, ↓reduceIte, Nat.reduceAdd, Nat.reduceEqDiff, Nat.reduceLT, Int.reduceLE, s_shl, s_shr, Bool.not_false, Bool.not_true, Bool.and_self, Bool.true_and, Bool.and_true, Bool.and_false, Bool.false_and, Bool.not_true, Bool.true_or, Bool.or_true, Nat.reduceSub, Nat.reduceLeDiff, Nat.reduceMul, Int.reduceToNat, Int.reduceLT, Int.reduceEq, Int.reduceNeg, and_self, and_true, true_and, and_false, false_and, or_true, true_or, or_false, false_or, Int.cast_ofNat_Int, Nat.reduceBEq, Nat.reduceBNe, beq_self_eq_true, List.take_zero, List.take_succ_cons, List.take_nil]
      exact hN
    | false =>
      have hN := ih (j + 1) (decide (v = f)) (by omega)
      rw [Bool.false_or]
      refine loop_step l_law8_IndexFinds_1.eq_1 k_law8_IndexFinds_1.eq_1 (by kernel_rfl) ?_
      simp only [go_sem, c1, c2, h4, e1, not_true_eq_false, not_false_eq_true, decide_true, decide_false, reduceCtorEq, ne_eq, Bool.false_eq_true, ↓reduceIte, Nat.reduceAdd, Nat.reduceEqDiff, Nat.reduceLT, Int.reduceLE, s_shl, s_shr, Bool.not_false, Bool.not_true, Bool.and_self, Bool.true_and, Bool.and_true, Bool.and_false, Bool.false_and, Bool.not_true, Bool.true_or, Bool.or_true, Nat.reduceSub, Nat.reduceLeDiff, Nat.reduceMul, Int.reduceToNat, Int.reduceLT, Int.reduceEq, Int.reduceNeg, and_self, and_true, true_and, and_false, false_and, or_true, true_or, or_false, false_or, Int.cast_ofNat_Int, Nat.reduceBEq, Nat.reduceBNe, beq_self_eq_true, List.take_zero, List.take_succ_cons, List.take_nil]
      exact hN
end Go.Abs
