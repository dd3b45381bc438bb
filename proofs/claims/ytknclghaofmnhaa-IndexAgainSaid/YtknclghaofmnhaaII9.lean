import Derived.Test.YtknclghaofmnhaaII8
namespace Go.Abs
open Go Go.RowKit
set_option linter.unusedVariables false
set_option linter.unusedSimpArgs false

theorem finds_spec (ns : List Int) (every w : Int) (hns : ∀ x ∈ ns, I64 x) (hl : ns.length * 8 ≤ 140737488351232) (he : I64 every) (hw' : I64 w) :
    W n_law8_IndexFinds [.list 1 (ints .i64 ns) .ro, .int .i64 every, .int .i64 w] [] = some (.bool true, []) := by
  have hw := fun H => within_spec every 0 100 H (by decide) (by decide) (by decide)
  have hr := withinQ_range every 0 100 (by decide)
  generalize withinQ every 0 100 = n at hw hr
  have e1 : IntKind.i64.wrap (1 + n) = 1 + n := wrap_id (by unfold I64; omega)
  have hnew := fun H => new_spec 0 (1 + n) H
  have hok : newOK 0 (1 + n) = true := by unfold newOK; simp; omega
  rw [hok] at hnew
  simp only [if_true] at hnew
  obtain ⟨x, fl, fa, at_, r1, rf, r2, rc, rs, r3, r4, r5, r6, hN⟩ := finds_loop0 ns w (1 + n) (by omega) (by omega) [] [] (min ns.length 40) ⟨0, 1 + n, []⟩ .full .full 0 0 (.inr ⟨rfl, rfl⟩) (.inr ⟨rfl, rfl⟩) (IxInv.nil _ _ _ _) (Cov.nil _ _) (Sq.nil _ _ _ _) rfl rfl (Int.le_refl _) (Int.le_refl _) (by simp)
  simp only [List.map_nil, List.length_nil, show ((0 : Nat) : Int) = 0 from rfl] at hN
  have hsrt := GapS.srt (by omega) (r4 ▸ r2.gap : GapS (1 + n) (ents x.l))
  have hf := fun off => find_spec x fl r1 (by omega) (pt [] 0) (hx [] [x.B fl]) ⟨by rw [hx_get]; rfl⟩ hsrt off
  have hel := ents_len x.l
  have e2 : ((ents x.l).map enV).length = (ents x.l).length := by simp
  have e3 : (ints .i64 (x.l.map (·.at_))).length = x.l.length := by simp
  by_cases h0 : x.l = []
  · have hz : ((x.l.length : Nat) : Int) = 0 := by rw [h0]; rfl
    have hf5 := hf 5
    rw [h0, show ents [] = [] from rfl] at hf5
    simp only [findP] at hf5
    refine W_fn rfl rfl ?_
    rcases rf with rfl | ⟨rfl, _⟩ <;> simp only [go_sem, c_law8_IndexFinds, hw, e1, hnew, hN, e3, eq_true hz, hf5, known_spec, not_true_eq_false, not_false_eq_true, decide_true, decide_false, reduceCtorEq, ne_eq, Bool.false_eq_true, ↓reduceIte, Nat.reduceAdd, Nat.reduceEqDiff, Nat.reduceLT, Int.reduceLE, s_shl, s_shr, Bool.not_false, Bool.not_true, Bool.and_self, Bool.true_and, Bool.and_true, Bool.and_false, Bool.false_and, Bool.not_true, Bool.true_or, Bool.or_true, Nat.reduceSub, Nat.reduceLeDiff, Nat.reduceMul, Int.reduceToNat, Int.reduceLT, Int.reduceEq, Int.reduceNeg, and_self, and_true, true_and, and_false, false_and, or_true, true_or, or_false, false_or, Int.cast_ofNat_Int, Nat.reduceBEq, Nat.reduceBNe, beq_self_eq_true, List.take_zero, List.take_succ_cons, List.take_nil]
  · have hfa : fa = .own := by rcases rf with h | ⟨_, h⟩; exact h; exact absurd h h0
    subst hfa
    have hlp := List.length_pos_iff.2 h0
    have hz : ¬ (((x.l.length : Nat) : Int) = 0) := by omega
    have g1 : IntKind.i64.wrap ((x.l.length : Int) - 1) = (x.l.length : Int) - 1 := wrap_id (by unfold I64; omega)
    have hw2 := fun H => within_spec w 0 ((x.l.length : Int) - 1) H (by omega) (by decide) (by omega)
    have hr2 := withinQ_range w 0 ((x.l.length : Int) - 1) (by omega)
    obtain ⟨I, hI⟩ : ∃ I : Nat, (I : Int) = withinQ w 0 ((x.l.length : Int) - 1) := ⟨(withinQ w 0 ((x.l.length : Int) - 1)).toNat, by omega⟩
    rw [← hI] at hw2
    have hIl : I < x.l.length := by omega
    have hsplit : x.l = x.l.take I ++ x.l[I] :: x.l.drop (I + 1) := by
      rw [← List.drop_eq_getElem_cons hIl, List.take_append_drop]
    obtain ⟨e, q1, q2, q3⟩ := find_at rs (by decide) rc hsplit
    have hoff : (x.l[I]).off = (I : Nat) := by
      have := rs _ _ _ hsplit
      rw [List.length_take] at this
      omega
    rw [hoff] at q2
    have hfI := hf (I : Nat)
    rw [q2] at hfI
    have bA := r2.be _ (List.getElem_mem hIl)
    have hmem : e ∈ x.l := by rw [hsplit]; rcases List.mem_append.1 q1 with h | h; exact List.mem_append_left _ h; exact List.mem_append_right _ (by rw [List.mem_singleton] at h; rw [h]; exact List.mem_cons_self ..)
    have bE := r2.be e hmem
    have hL1 := finds_loop1 (1 + n) 0 e.at_ (pt [] 0) (x.l.map (·.at_)) (by simp; omega) I (by simp; exact hIl) (hx [] [x.B fl]) (I + 1) 0 false (by omega)
    have hany : (((x.l.map (·.at_)).take (I + 1)).drop 0).any (fun v => decide (v = e.at_)) = true := by
      rw [List.drop_zero, List.any_eq_true]
      refine ⟨e.at_, ?_, by simp⟩
      rw [← List.map_take]
      refine List.mem_map.2 ⟨e, ?_, rfl⟩
      rw [List.take_succ_eq_append_getElem hIl]; exact q1
    rw [hany, show ((0 : Nat) : Int) = 0 from rfl] at hL1
    simp only [Bool.or_true] at hL1
    have h4 := ints_get (k := .i64) (l := x.l.map (·.at_)) (i := I) (by simp; exact hIl)
    rw [List.getElem_map] at h4
    have h5 : (0 : Int) ≤ ((I : Nat) : Int) := by omega
    have g2 : IntKind.i64.wrap ((x.l[I]).at_ - e.at_) = (x.l[I]).at_ - e.at_ := wrap_id (by unfold I64; omega)
    have g3 : (x.l[I]).at_ - e.at_ < 1 + n := by rw [r4] at q3; exact q3
    have hE := entries_spec x fl r1 (by omega) (pt [] 0) (hx [] [x.B fl]) ⟨by rw [hx_get]; rfl⟩
    have hB := bytes_spec x fl r1 (by omega) (r2.I64 (by omega)) (pt [] 0) (hx [] [x.B fl]) ⟨by rw [hx_get]; rfl⟩
    have hbl : (ints .u8 (idxB x.base (ents x.l))).length = 16 * (ents x.l).length := by rw [List.length_map, idxB_len]
    have g4 : IntKind.i64.wrap (16 * ((ents x.l).length : Int)) = ((16 * (ents x.l).length : Nat) : Int) := by rw [wrap_id (by unfold I64; omega)]; omega
    generalize (x.l[I]).at_ = A at h4 g2 g3
    refine W_fn rfl rfl ?_
    simp only [go_sem, c_law8_IndexFinds, hw, e1, hnew, hN, e3, hz, g1, hw2, hfI, hL1, h4, h5, g2, g3, hE, hB, hbl, e2, g4, known_spec, not_true_eq_false, not_false_eq_true, decide_true, decide_false, reduceCtorEq, ne_eq, Bool.false_eq_true, ↓reduceIte, Nat.reduceAdd, Nat.reduceEqDiff, Nat.reduceLT, Int.reduceLE, s_shl, s_shr, Bool.not_false, Bool.not_true, Bool.and_self, Bool.true_and, Bool.and_true, Bool.and_false, Bool.false_and, Bool.not_true, Bool.true_or, Bool.or_true, Nat.reduceSub, Nat.reduceLeDiff, Nat.reduceMul, Int.reduceToNat, Int.reduceLT, Int.reduceEq, Int.reduceNeg, and_self, and_true, true_and, and_false, false_and, or_true, true_or, or_false, false_or, Int.cast_ofNat_Int, Nat.reduceBEq, Nat.reduceBNe, beq_self_eq_true, List.take_zero, List.take_succ_cons, List.take_nil]
end Go.Abs
