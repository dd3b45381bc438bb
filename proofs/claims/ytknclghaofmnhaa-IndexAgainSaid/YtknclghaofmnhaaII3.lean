import Derived.Test.YtknclghaofmnhaaII2
namespace Go.Abs
open Go Go.RowKit
set_option linter.unusedVariables false
set_option linter.unusedSimpArgs false

def newOK (b e : Int) : Bool := decide (¬ b < 0) && (decide (¬ b > 1099511627776) && (decide (¬ e < 1) && decide (¬ e > 1073741824)))
theorem new_spec (b e : Int) (H : Heap) : W n_index_New [.int .i64 b, .int .i64 e] H = if newOK b e = true then some (.ptr (pt H 0) 0, hx H [Ix.B ⟨b, e, []⟩ .full]) else some (.nilp, H) := by
  have hr : ∀ r, runFn W loopW c_index_New [.int .i64 b, .int .i64 e] (hx H []) = some r → W n_index_New [.int .i64 b, .int .i64 e] H = some r := fun r h => W_fnS rfl rfl h
  unfold newOK
  by_cases c1 : b < 0
  · simp only [c1, not_true_eq_false, decide_false, Bool.false_and, Bool.false_eq_true, if_false]
    apply hr
    simp only [go_sem, c_index_New, c1, not_true_eq_false, not_false_eq_true, decide_true, decide_false, reduceCtorEq, ne_eq, Bool.false_eq_true, ↓reduceIte, Nat.reduceAdd, Nat.reduceEqDiff, Nat.reduceLT, Int.reduceLE, s_shl, s_shr, Bool.not_false, Bool.not_true, Bool.and_self, Bool.true_and, Bool.and_true, Bool.and_false, Bool.false_and, Bool.not_true, Bool.true_or, Bool.or_true, Nat.reduceSub, Nat.reduceLeDiff, Nat.reduceMul, Int.reduceToNat, Int.reduceLT, Int.reduceEq, Int.reduceNeg, and_self, and_true, true_and, and_false, false_and, or_true, true_or, or_false, false_or, Int.cast_ofNat_Int, Nat.reduceBEq, Nat.reduceBNe, beq_self_eq_true, List.take_zero, List.take_succ_cons, List.take_nil]; rw [hx_nil]
  · by_cases c2 : b > 1099511627776
    · simp only [c1, c2, not_true_eq_false, not_false_eq_true, decide_true, decide_false, Bool.false_and, Bool.true_and, Bool.false_eq_true, if_false]
      apply hr
      simp only [go_sem, c_index_New, c1, c2, not_true_eq_false, not_false_eq_true, decide_true, decide_false, reduceCtorEq, ne_eq, Bool.false_eq_true, ↓reduceIte, Nat.reduceAdd, Nat.reduceEqDiff, Nat.reduceLT, Int.reduceLE, s_shl, s_shr, Bool.not_false, Bool.not_true, Bool.and_self, Bool.true_and, Bool.and_true, Bool.and_false, Bool.false_and, Bool.not_true, Bool.true_or, Bool.or_true, Nat.reduceSub, Nat.reduceLeDiff, Nat.reduceMul, Int.reduceToNat, Int.reduceLT, Int.reduceEq, Int.reduceNeg, and_self, and_true, true_and, and_false, false_and, or_true, true_or, or_false, false_or, Int.cast_ofNat_Int, Nat.reduceBEq, Nat.reduceBNe, beq_self_eq_true, List.take_zero, List.take_succ_cons, List.take_nil]; rw [hx_nil]
    · by_cases c3 : e < 1
      · simp only [c1, c2, c3, not_true_eq_false, not_false_eq_true, decide_true, decide_false, Bool.false_and, Bool.true_and, Bool.false_eq_true, if_false]
        apply hr
        simp only [go_sem, c_index_New, c1, c2, c3, not_true_eq_false, not_false_eq_true, decide_true, decide_false, reduceCtorEq, ne_eq, Bool.false_eq_true, ↓reduceIte, Nat.reduceAdd, Nat.reduceEqDiff, Nat.reduceLT, Int.reduceLE, s_shl, s_shr, Bool.not_false, Bool.not_true, Bool.and_self, Bool.true_and, Bool.and_true, Bool.and_false, Bool.false_and, Bool.not_true, Bool.true_or, Bool.or_true, Nat.reduceSub, Nat.reduceLeDiff, Nat.reduceMul, Int.reduceToNat, Int.reduceLT, Int.reduceEq, Int.reduceNeg, and_self, and_true, true_and, and_false, false_and, or_true, true_or, or_false, false_or, Int.cast_ofNat_Int, Nat.reduceBEq, Nat.reduceBNe, beq_self_eq_true, List.take_zero, List.take_succ_cons, List.take_nil]; rw [hx_nil]
      · by_cases c4 : e > 1073741824
        · simp only [c1, c2, c3, c4, not_true_eq_false, not_false_eq_true, decide_true, decide_false, Bool.false_and, Bool.true_and, Bool.false_eq_true, if_false]
          apply hr
          simp only [go_sem, c_index_New, c1, c2, c3, c4, not_true_eq_false, not_false_eq_true, decide_true, decide_false, reduceCtorEq, ne_eq, Bool.false_eq_true, ↓reduceIte, Nat.reduceAdd, Nat.reduceEqDiff, Nat.reduceLT, Int.reduceLE, s_shl, s_shr, Bool.not_false, Bool.not_true, Bool.and_self, Bool.true_and, Bool.and_true, Bool.and_false, Bool.false_and, Bool.not_true, Bool.true_or, Bool.or_true, Nat.reduceSub, Nat.reduceLeDiff, Nat.reduceMul, Int.reduceToNat, Int.reduceLT, Int.reduceEq, Int.reduceNeg, and_self, and_true, true_and, and_false, false_and, or_true, true_or, or_false, false_or, Int.cast_ofNat_Int, Nat.reduceBEq, Nat.reduceBNe, beq_self_eq_true, List.take_zero, List.take_succ_cons, List.take_nil]; rw [hx_nil]
        · simp only [c1, c2, c3, c4, not_true_eq_false, not_false_eq_true, decide_true, decide_false, Bool.false_and, Bool.true_and, Bool.false_eq_true, if_true]
          apply hr
          simp only [go_sem, c_index_New, c1, c2, c3, c4, not_true_eq_false, not_false_eq_true, decide_true, decide_false, reduceCtorEq, ne_eq, Bool.false_eq_true, ↓reduceIte, Nat.reduceAdd, Nat.reduceEqDiff, Nat.reduceLT, Int.reduceLE, s_shl, s_shr, Bool.not_false, Bool.not_true, Bool.and_self, Bool.true_and, Bool.and_true, Bool.and_false, Bool.false_and, Bool.not_true, Bool.true_or, Bool.or_true, Nat.reduceSub, Nat.reduceLeDiff, Nat.reduceMul, Int.reduceToNat, Int.reduceLT, Int.reduceEq, Int.reduceNeg, and_self, and_true, true_and, and_false, false_and, or_true, true_or, or_false, false_or, Int.cast_ofNat_Int, Nat.reduceBEq, Nat.reduceBNe, beq_self_eq_true, List.take_zero, List.take_succ_cons, List.take_nil]; rfl

def addOK (x : Ix) (o a s : Int) : Bool :=
  decide (¬ o < x.base) && (decide (¬ a < 0) && (decide (¬ s < 1) && (match x.l.getLast? with | none => true | some q => decide (¬ o ≤ q.off) && decide (¬ a < q.end_))))
def addE (x : Ix) (a : Int) : Bool := match lastE x.l with | none => true | some e => decide (IntKind.i64.wrap (a - e.at_) ≥ x.every)
def addI (x : Ix) (o a s : Int) : Ix := ⟨x.base, x.every, x.l ++ [⟨o, a, IntKind.i64.wrap (a + s), addE x a⟩]⟩
theorem under_ads (l : List Ad) : AVal.underL 0 (l.map Ad.v) = true := uL_map 0 Ad.v (fun _ => rfl) l
theorem add_false (x : Ix) (fl : Fl) (hfl : Flag x fl) (hx1 : x.l.length < 1000000000) (i : Nat) (H : Heap) (hi : Old H i (x.B fl)) (o a s : Int) (h : addOK x o a s = false) :
    W n_index_Index_Add [.ptr i 0, .int .i64 o, .int .i64 a, .int .i64 s] H = some (.bool false, H) := by
  have gi := hi.get
  have e2 : (x.l.map Ad.v).length = x.l.length := by simp
  refine W_fn rfl rfl ?_
  unfold addOK at h
  by_cases c1 : o < x.base
  · rcases hfl with rfl | ⟨rfl, h0⟩ <;> simp only [go_sem, c_index_Index_Add, gi, c1, not_true_eq_false, not_false_eq_true, decide_true, decide_false, reduceCtorEq, ne_eq, Bool.false_eq_true, ↓reduceIte, Nat.reduceAdd, Nat.reduceEqDiff, Nat.reduceLT, Int.reduceLE, s_shl, s_shr, Bool.not_false, Bool.not_true, Bool.and_self, Bool.true_and, Bool.and_true, Bool.and_false, Bool.false_and, Bool.not_true, Bool.true_or, Bool.or_true, Nat.reduceSub, Nat.reduceLeDiff, Nat.reduceMul, Int.reduceToNat, Int.reduceLT, Int.reduceEq, Int.reduceNeg, and_self, and_true, true_and, and_false, false_and, or_true, true_or, or_false, false_or, Int.cast_ofNat_Int, Nat.reduceBEq, Nat.reduceBNe, beq_self_eq_true, List.take_zero, List.take_succ_cons, List.take_nil]
  by_cases c2 : a < 0
  · rcases hfl with rfl | ⟨rfl, h0⟩ <;> simp only [go_sem, c_index_Index_Add, gi, c1, c2, not_true_eq_false, not_false_eq_true, decide_true, decide_false, reduceCtorEq, ne_eq, Bool.false_eq_true, ↓reduceIte, Nat.reduceAdd, Nat.reduceEqDiff, Nat.reduceLT, Int.reduceLE, s_shl, s_shr, Bool.not_false, Bool.not_true, Bool.and_self, Bool.true_and, Bool.and_true, Bool.and_false, Bool.false_and, Bool.not_true, Bool.true_or, Bool.or_true, Nat.reduceSub, Nat.reduceLeDiff, Nat.reduceMul, Int.reduceToNat, Int.reduceLT, Int.reduceEq, Int.reduceNeg, and_self, and_true, true_and, and_false, false_and, or_true, true_or, or_false, false_or, Int.cast_ofNat_Int, Nat.reduceBEq, Nat.reduceBNe, beq_self_eq_true, List.take_zero, List.take_succ_cons, List.take_nil]
  by_cases c3 : s < 1
  · rcases hfl with rfl | ⟨rfl, h0⟩ <;> simp only [go_sem, c_index_Index_Add, gi, c1, c2, c3, not_true_eq_false, not_false_eq_true, decide_true, decide_false, reduceCtorEq, ne_eq, Bool.false_eq_true, ↓reduceIte, Nat.reduceAdd, Nat.reduceEqDiff, Nat.reduceLT, Int.reduceLE, s_shl, s_shr, Bool.not_false, Bool.not_true, Bool.and_self, Bool.true_and, Bool.and_true, Bool.and_false, Bool.false_and, Bool.not_true, Bool.true_or, Bool.or_true, Nat.reduceSub, Nat.reduceLeDiff, Nat.reduceMul, Int.reduceToNat, Int.reduceLT, Int.reduceEq, Int.reduceNeg, and_self, and_true, true_and, and_false, false_and, or_true, true_or, or_false, false_or, Int.cast_ofNat_Int, Nat.reduceBEq, Nat.reduceBNe, beq_self_eq_true, List.take_zero, List.take_succ_cons, List.take_nil]
  rcases List.eq_nil_or_concat x.l with h0 | ⟨l, q, h0⟩
  · rw [h0] at h; simp [c1, c2, c3] at h
  · rw [List.concat_eq_append] at h0
    have hpos : (x.l.length : Int) > 0 := by rw [h0]; simp
    have e3 : IntKind.i64.wrap ((x.l.length : Int) - 1) = ((x.l.length - 1 : Nat) : Int) := by rw [wrap_id (by unfold I64; omega)]; omega
    have e4 : (x.l.map Ad.v)[((x.l.length - 1 : Nat) : Int).toNat]? = some q.v := by rw [h0]; simp
    have e5 : (0 : Int) ≤ ((x.l.length - 1 : Nat) : Int) := by omega
    rcases hfl with rfl | ⟨rfl, h1⟩
    rotate_left
    · rw [h1] at h0; simp at h0
    by_cases c4 : o ≤ q.off
    · simp only [go_sem, c_index_Index_Add, gi, c1, c2, c3, e2, hpos, e3, e4, e5, c4, not_true_eq_false, not_false_eq_true, decide_true, decide_false, reduceCtorEq, ne_eq, Bool.false_eq_true, ↓reduceIte, Nat.reduceAdd, Nat.reduceEqDiff, Nat.reduceLT, Int.reduceLE, s_shl, s_shr, Bool.not_false, Bool.not_true, Bool.and_self, Bool.true_and, Bool.and_true, Bool.and_false, Bool.false_and, Bool.not_true, Bool.true_or, Bool.or_true, Nat.reduceSub, Nat.reduceLeDiff, Nat.reduceMul, Int.reduceToNat, Int.reduceLT, Int.reduceEq, Int.reduceNeg, and_self, and_true, true_and, and_false, false_and, or_true, true_or, or_false, false_or, Int.cast_ofNat_Int, Nat.reduceBEq, Nat.reduceBNe, beq_self_eq_true, List.take_zero, List.take_succ_cons, List.take_nil]
    · have c5 : a < q.end_ := by rw [h0] at h; simp [c1, c2, c3, c4] at h; omega
      simp only [go_sem, c_index_Index_Add, gi, c1, c2, c3, e2, hpos, e3, e4, e5, c4, c5, not_true_eq_false, not_false_eq_true, decide_true, decide_false, reduceCtorEq, ne_eq, Bool.false_eq_true, ↓reduceIte, Nat.reduceAdd, Nat.reduceEqDiff, Nat.reduceLT, Int.reduceLE, s_shl, s_shr, Bool.not_false, Bool.not_true, Bool.and_self, Bool.true_and, Bool.and_true, Bool.and_false, Bool.false_and, Bool.not_true, Bool.true_or, Bool.or_true, Nat.reduceSub, Nat.reduceLeDiff, Nat.reduceMul, Int.reduceToNat, Int.reduceLT, Int.reduceEq, Int.reduceNeg, and_self, and_true, true_and, and_false, false_and, or_true, true_or, or_false, false_or, Int.cast_ofNat_Int, Nat.reduceBEq, Nat.reduceBNe, beq_self_eq_true, List.take_zero, List.take_succ_cons, List.take_nil]
theorem add_true (x : Ix) (fl : Fl) (hfl : Flag x fl) (hx1 : x.l.length < 1000000000) (i : Nat) (H : Heap) (hi : Old H i (x.B fl)) (o a s : Int) (h : addOK x o a s = true) :
    W n_index_Index_Add [.ptr i 0, .int .i64 o, .int .i64 a, .int .i64 s] H = some (.bool true, H.set i ((addI x o a s).B .own)) := by
  have gi := hi.get
  have gs := hi.set
  have gi' := hi.get'
  have gs' := hi.set'
  have e2 : (x.l.map Ad.v).length = x.l.length := by simp
  unfold addOK at h
  simp only [Bool.and_eq_true, decide_eq_true_eq] at h
  obtain ⟨c1, c2, c3, h⟩ := h
  have hl : ∀ L, W n_index_Index_last [.ptr i 0] (hx H L) = _ := fun L => last_spec x fl hfl hx1 i (hx H L) ⟨gi L⟩
  have a2 : ((x.l.map Ad.v).length + 1) * 32 ≤ maxBytes := by simp [maxBytes]; omega
  have a2' : (x.l.length + 1) * 32 ≤ maxBytes := by simp [maxBytes]; omega
  have u := under_ads x.l
  have u2 := under_ads (addI x o a s).l
  have a1 : x.l.map Ad.v ++ [AVal.agg [.int .i64 o, .int .i64 a, .int .i64 (IntKind.i64.wrap (a + s)), .bool (addE x a)]] = (addI x o a s).l.map Ad.v := by simp [addI]
  have hd : W n_index_Index_Add [.ptr i 0, .int .i64 o, .int .i64 a, .int .i64 s] H = some (.bool true, H.set i ((addI x o a s).B .own)) := by
    have hB : (addI x o a s).B .own = .cells [.int .i64 x.base, .int .i64 x.every, .list 4 ((addI x o a s).l.map Ad.v) .own] := rfl
    rw [hB]
    cases hla : lastE x.l with
    | none =>
      have he : addE x a = true := by unfold addE; rw [hla]
      rw [he] at a1
      rw [hla] at hl
      simp only [lastV, Option.getD_none, Option.isSome_none] at hl
      rcases List.eq_nil_or_concat x.l with h0 | ⟨l, q, h0⟩
      · have hpos : ¬ ((x.l.length : Int) > 0) := by rw [h0]; simp
        refine W_fnS rfl rfl ?_
        rcases hfl with rfl | ⟨rfl, _⟩ <;> simp only [go_sem, c_index_Index_Add, gi, gs, gi', gs', c1, c2, c3, e2, hpos, hl, a1, a2', apO, apF, u, u2, not_true_eq_false, not_false_eq_true, decide_true, decide_false, reduceCtorEq, ne_eq, Bool.false_eq_true, ↓reduceIte, Nat.reduceAdd, Nat.reduceEqDiff, Nat.reduceLT, Int.reduceLE, s_shl, s_shr, Bool.not_false, Bool.not_true, Bool.and_self, Bool.true_and, Bool.and_true, Bool.and_false, Bool.false_and, Bool.not_true, Bool.true_or, Bool.or_true, Nat.reduceSub, Nat.reduceLeDiff, Nat.reduceMul, Int.reduceToNat, Int.reduceLT, Int.reduceEq, Int.reduceNeg, and_self, and_true, true_and, and_false, false_and, or_true, true_or, or_false, false_or, Int.cast_ofNat_Int, Nat.reduceBEq, Nat.reduceBNe, beq_self_eq_true, List.take_zero, List.take_succ_cons, List.take_nil]
      · rw [List.concat_eq_append] at h0
        have hpos : (x.l.length : Int) > 0 := by rw [h0]; simp
        have e3 : IntKind.i64.wrap ((x.l.length : Int) - 1) = ((x.l.length - 1 : Nat) : Int) := by rw [wrap_id (by unfold I64; omega)]; omega
        have e4 : (x.l.map Ad.v)[((x.l.length - 1 : Nat) : Int).toNat]? = some q.v := by rw [h0]; simp
        have e5 : (0 : Int) ≤ ((x.l.length - 1 : Nat) : Int) := by omega
        rw [h0] at h
        simp only [List.getLast?_append, List.getLast?_singleton, Option.some_or, Bool.and_eq_true, decide_eq_true_eq] at h
        refine W_fnS rfl rfl ?_
        rcases hfl with rfl | ⟨rfl, h1⟩
        · simp only [go_sem, c_index_Index_Add, gi, gs, gi', gs', c1, c2, c3, e2, hpos, e3, e4, e5, h.1, h.2, hl, a1, a2', apO, apF, u, u2, not_true_eq_false, not_false_eq_true, decide_true, decide_false, reduceCtorEq, ne_eq, Bool.false_eq_true, ↓reduceIte, Nat.reduceAdd, Nat.reduceEqDiff, Nat.reduceLT, Int.reduceLE, s_shl, s_shr, Bool.not_false, Bool.not_true, Bool.and_self, Bool.true_and, Bool.and_true, Bool.and_false, Bool.false_and, Bool.not_true, Bool.true_or, Bool.or_true, Nat.reduceSub, Nat.reduceLeDiff, Nat.reduceMul, Int.reduceToNat, Int.reduceLT, Int.reduceEq, Int.reduceNeg, and_self, and_true, true_and, and_false, false_and, or_true, true_or, or_false, false_or, Int.cast_ofNat_Int, Nat.reduceBEq, Nat.reduceBNe, beq_self_eq_true, List.take_zero, List.take_succ_cons, List.take_nil]
        · rw [h1] at h0; simp at h0
    | some e =>
      rw [hla] at hl
      simp only [lastV, Option.getD_some, Option.isSome_some] at hl
      have hne : x.l ≠ [] := by intro h0; rw [h0] at hla; cases hla
      rcases List.eq_nil_or_concat x.l with h0 | ⟨l, q, h0⟩
      · exact absurd h0 hne
      · rw [List.concat_eq_append] at h0
        have hpos : (x.l.length : Int) > 0 := by rw [h0]; simp
        have e3 : IntKind.i64.wrap ((x.l.length : Int) - 1) = ((x.l.length - 1 : Nat) : Int) := by rw [wrap_id (by unfold I64; omega)]; omega
        have e4 : (x.l.map Ad.v)[((x.l.length - 1 : Nat) : Int).toNat]? = some q.v := by rw [h0]; simp
        have e5 : (0 : Int) ≤ ((x.l.length - 1 : Nat) : Int) := by omega
        rw [h0] at h
        simp only [List.getLast?_append, List.getLast?_singleton, Option.some_or, Bool.and_eq_true, decide_eq_true_eq] at h
        refine W_fnS rfl rfl ?_
        rcases hfl with rfl | ⟨rfl, h1⟩
        · by_cases he : IntKind.i64.wrap (a - e.at_) ≥ x.every
          · have he' : addE x a = true := by unfold addE; rw [hla]; simpa using he
            rw [he'] at a1
            simp only [go_sem, c_index_Index_Add, gi, gs, gi', gs', c1, c2, c3, e2, hpos, e3, e4, e5, h.1, h.2, hl, a1, a2', apO, apF, u, u2, he, not_true_eq_false, not_false_eq_true, decide_true, decide_false, reduceCtorEq, ne_eq, Bool.false_eq_true, ↓reduceIte, Nat.reduceAdd, Nat.reduceEqDiff, Nat.reduceLT, Int.reduceLE, s_shl, s_shr, Bool.not_false, Bool.not_true, Bool.and_self, Bool.true_and, Bool.and_true, Bool.and_false, Bool.false_and, Bool.not_true, Bool.true_or, Bool.or_true, Nat.reduceSub, Nat.reduceLeDiff, Nat.reduceMul, Int.reduceToNat, Int.reduceLT, Int.reduceEq, Int.reduceNeg, and_self, and_true, true_and, and_false, false_and, or_true, true_or, or_false, false_or, Int.cast_ofNat_Int, Nat.reduceBEq, Nat.reduceBNe, beq_self_eq_true, List.take_zero, List.take_succ_cons, List.take_nil]
          · have he' : addE x a = false := by unfold addE; rw [hla]; simpa using he
            rw [he'] at a1
            simp only [go_sem, c_index_Index_Add, gi, gs, gi', gs', c1, c2, c3, e2, hpos, e3, e4, e5, h.1, h.2, hl, a1, a2', apO, apF, u, u2, he, not_true_eq_false, not_false_eq_true, decide_true, decide_false, reduceCtorEq, ne_eq, Bool.false_eq_true, ↓reduceIte, Nat.reduceAdd, Nat.reduceEqDiff, Nat.reduceLT, Int.reduceLE, s_shl, s_shr, Bool.not_false, Bool.not_true, Bool.and_self, Bool.true_and, Bool.and_true, Bool.and_false, Bool.false_and, Bool.not_true, Bool.true_or, Bool.or_true, Nat.reduceSub, Nat.reduceLeDiff, Nat.reduceMul, Int.reduceToNat, Int.reduceLT, Int.reduceEq, Int.reduceNeg, and_self, and_true, true_and, and_false, false_and, or_true, true_or, or_false, false_or, Int.cast_ofNat_Int, Nat.reduceBEq, Nat.reduceBNe, beq_self_eq_true, List.take_zero, List.take_succ_cons, List.take_nil]
        · rw [h1] at h0; simp at h0
  exact hd
end Go.Abs
