import Derived.Test.YtknclghaofmnhaaIV2
namespace Go.Abs
open Go Go.RowKit
set_option linter.unusedVariables false
set_option linter.unusedSimpArgs false

/-! ## Indexes -/
structure Ad where
  off : Int
  at_ : Int
  end_ : Int
  entry : Bool
structure Ix where
  base : Int
  every : Int
  l : List Ad
abbrev Ad.v (a : Ad) : AVal := .agg [.int .i64 a.off, .int .i64 a.at_, .int .i64 a.end_, .bool a.entry]
abbrev Ix.B (x : Ix) (fl : Fl) : Box := .cells [.int .i64 x.base, .int .i64 x.every, .list 4 (x.l.map Ad.v) fl]
def lastE : List Ad → Option Ad
  | [] => none
  | a :: l => match lastE l with
    | some b => some b
    | none => if a.entry then some a else none
theorem lastE_snoc (l : List Ad) (a : Ad) : lastE (l ++ [a]) = if a.entry then some a else lastE l := by
  induction l with
  | nil => simp [lastE]
  | cons b l ih =>
    rw [List.cons_append, lastE, ih, lastE]
    cases a.entry <;> simp
def lastV (o : Option Ad) : AVal := (o.getD ⟨0, 0, 0, false⟩).v
abbrev Flag (x : Ix) (fl : Fl) : Prop := fl = .own ∨ (fl = .full ∧ x.l = [])

theorem last_loop (x : Ix) (fl : Fl) (hfl : Flag x fl) (hx1 : x.l.length < 1000000000) (i : Nat) : ∀ (r s : List Ad) (H M : Heap), x.l = r ++ s → lastE s = none → Old H i (x.B fl) → 
    loopA W loopW (.ghost (.kill k_index_Index_last_0) l_index_Index_last_0) [(0, .ptr i 0), (2, .ptr (pt H 0) 0), (4, .int .i64 ((r.length : Int) - 1))] (hx H (.cells [.int .i64 0, .int .i64 0, .int .i64 0, .bool false] :: M)) =
      match lastE r with
      | some a => some (.ret, [(2, .ptr (pt H 0) 0), (3, .bool true)], hx H (.cells [.int .i64 a.off, .int .i64 a.at_, .int .i64 a.end_, .bool a.entry] :: M))
      | none => some (.exit 0, [(2, .ptr (pt H 0) 0)], hx H (.cells [.int .i64 0, .int .i64 0, .int .i64 0, .bool false] :: M)) := by
  intro r
  have key : ∀ (k : Nat) (r s : List Ad) (H M : Heap), r.length = k → x.l = r ++ s → lastE s = none → Old H i (x.B fl) → 
    loopA W loopW (.ghost (.kill k_index_Index_last_0) l_index_Index_last_0) [(0, .ptr i 0), (2, .ptr (pt H 0) 0), (4, .int .i64 ((r.length : Int) - 1))] (hx H (.cells [.int .i64 0, .int .i64 0, .int .i64 0, .bool false] :: M)) =
      match lastE r with
      | some a => some (.ret, [(2, .ptr (pt H 0) 0), (3, .bool true)], hx H (.cells [.int .i64 a.off, .int .i64 a.at_, .int .i64 a.end_, .bool a.entry] :: M))
      | none => some (.exit 0, [(2, .ptr (pt H 0) 0)], hx H (.cells [.int .i64 0, .int .i64 0, .int .i64 0, .bool false] :: M)) := by
    intro k
    induction k with
    | zero =>
      intro r s H M hr hs hn hi
      have hr0 : r = [] := List.length_eq_zero_iff.1 hr
      have h1 : ¬ ((r.length : Int) - 1 ≥ 0) := by omega
      have h2 : lastE r = none := by rw [hr0]; rfl
      rw [h2]
      refine loop_step l_index_Index_last_0.eq_1 k_index_Index_last_0.eq_1 (by kernel_rfl) ?_
      simp only [go_sem, h1, not_true_eq_false, not_false_eq_true, decide_true, decide_false, reduceCtorEq, ne_eq, Bool.false_eq_true, ↓reduceIte, Nat.reduceAdd, Nat.reduceEqDiff, Nat.reduceLT, Int.reduceLE, s_shl, s_shr, Bool.not_false, Bool.not_true, Bool.and_self, Bool.true_and, Bool.and_true, Bool.and_false, Bool.false_and, Bool.not_true, Bool.true_or, Bool.or_true, Nat.reduceSub, Nat.reduceLeDiff, Nat.reduceMul, Int.reduceToNat, Int.reduceLT, Int.reduceEq, Int.reduceNeg, and_self, and_true, true_and, and_false, false_and, or_true, true_or, or_false, false_or, Int.cast_ofNat_Int, Nat.reduceBEq, Nat.reduceBNe, beq_self_eq_true, List.take_zero, List.take_succ_cons, List.take_nil]
    | succ k ih =>
      intro r s H M hr hs hn hi
      obtain ⟨r', a, rfl⟩ : ∃ r' a, r = r' ++ [a] := by
        rcases List.eq_nil_or_concat r with h | ⟨s, x, h⟩
        · subst h; cases hr
        · exact ⟨s, x, by simpa using h⟩
      have hr' : r'.length = k := by simpa using hr
      have hl : x.l.length = k + 1 + s.length := by rw [hs, List.length_append, hr]
      have e0 : (((r' ++ [a]).length : Nat) : Int) - 1 = (k : Nat) := by rw [hr]; omega
      have h1 : ((k : Nat) : Int) ≥ 0 := by omega
      have h3 : (x.l.map Ad.v)[((k : Nat) : Int).toNat]? = some a.v := by rw [hs, ← hr']; simp
      have e1 : IntKind.i64.wrap (((k : Nat) : Int) - 1) = (r'.length : Nat) - 1 := by rw [hr', wrap_id (by unfold I64; omega)]
      have gi := hi.get
      rw [lastE_snoc, e0]
      cases he : a.entry with
      | true =>
        rw [if_pos rfl]
        refine loop_step l_index_Index_last_0.eq_1 k_index_Index_last_0.eq_1 (by kernel_rfl) ?_
        rcases hfl with rfl | ⟨rfl, h0⟩
        · simp only [go_sem, h1, h3, gi, he, not_true_eq_false, not_false_eq_true, decide_true, decide_false, reduceCtorEq, ne_eq, Bool.false_eq_true, ↓reduceIte, Nat.reduceAdd, Nat.reduceEqDiff, Nat.reduceLT, Int.reduceLE, s_shl, s_shr, Bool.not_false, Bool.not_true, Bool.and_self, Bool.true_and, Bool.and_true, Bool.and_false, Bool.false_and, Bool.not_true, Bool.true_or, Bool.or_true, Nat.reduceSub, Nat.reduceLeDiff, Nat.reduceMul, Int.reduceToNat, Int.reduceLT, Int.reduceEq, Int.reduceNeg, and_self, and_true, true_and, and_false, false_and, or_true, true_or, or_false, false_or, Int.cast_ofNat_Int, Nat.reduceBEq, Nat.reduceBNe, beq_self_eq_true, List.take_zero, List.take_succ_cons, List.take_nil]
        · rw [h0] at hs; simp at hs
      | false =>
        rw [if_neg (by decide)]
        have hN := ih r' (a :: s) H M hr' (by rw [hs]; simp) (by rw [lastE, hn, he]; rfl) hi
        obtain ⟨R, hR⟩ : ∃ R, (match lastE r' with
          | some a => some (Out.ret, ([(2, .ptr (pt H 0) 0), (3, .bool true)] : Env), hx H (Box.cells [.int .i64 a.off, .int .i64 a.at_, .int .i64 a.end_, .bool a.entry] :: M))
          | none => some (Out.exit 0, [(2, .ptr (pt H 0) 0)], hx H (.cells [.int .i64 0, .int .i64 0, .int .i64 0, .bool false] :: M))) = some R := by
          split <;> exact ⟨_, rfl⟩
        rw [hR] at hN ⊢
        refine loop_step l_index_Index_last_0.eq_1 k_index_Index_last_0.eq_1 (by kernel_rfl) ?_
        rcases hfl with rfl | ⟨rfl, h0⟩
        · simp only [go_sem, h1, h3, gi, he, e1, not_true_eq_false, not_false_eq_true, decide_true, decide_false, reduceCtorEq, ne_eq, Bool.false_eq_true, ↓reduceIte, Nat.reduceAdd, Nat.reduceEqDiff, Nat.reduceLT, Int.reduceLE, s_shl, s_shr, Bool.not_false, Bool.not_true, Bool.and_self, Bool.true_and, Bool.and_true, Bool.and_false, Bool.false_and, Bool.not_true, Bool.true_or, Bool.or_true, Nat.reduceSub, Nat.reduceLeDiff, Nat.reduceMul, Int.reduceToNat, Int.reduceLT, Int.reduceEq, Int.reduceNeg, and_self, and_true, true_and, and_false, false_and, or_true, true_or, or_false, false_or, Int.cast_ofNat_Int, Nat.reduceBEq, Nat.reduceBNe, beq_self_eq_true, List.take_zero, List.take_succ_cons, List.take_nil]; exact hN
        · rw [h0] at hs; simp at hs
  exact fun s H M => key r.length r s H M rfl
theorem last_spec (x : Ix) (fl : Fl) (hfl : Flag x fl) (hx1 : x.l.length < 1000000000) (i : Nat) (H : Heap) (hi : Old H i (x.B fl)) : W n_index_Index_last [.ptr i 0] H = some (.tuple [lastV (lastE x.l), .bool (lastE x.l).isSome], H) := by
  have hN := last_loop x fl hfl hx1 i x.l [] H [] (by simp) rfl hi
  have gi := hi.get
  have e1 : IntKind.i64.wrap ((x.l.length : Int) - 1) = (x.l.length : Int) - 1 := wrap_id (by unfold I64; omega)
  have e2 : (x.l.map Ad.v).length = x.l.length := by simp
  refine W_fn rfl rfl ?_
  cases h : lastE x.l with
  | none =>
    rw [h] at hN
    rcases hfl with rfl | ⟨rfl, h0⟩ <;> (simp only [go_sem, c_index_Index_last, gi, e1, e2, hN, not_true_eq_false, not_false_eq_true, decide_true, decide_false, reduceCtorEq, ne_eq, Bool.false_eq_true, ↓reduceIte, Nat.reduceAdd, Nat.reduceEqDiff, Nat.reduceLT, Int.reduceLE, s_shl, s_shr, Bool.not_false, Bool.not_true, Bool.and_self, Bool.true_and, Bool.and_true, Bool.and_false, Bool.false_and, Bool.not_true, Bool.true_or, Bool.or_true, Nat.reduceSub, Nat.reduceLeDiff, Nat.reduceMul, Int.reduceToNat, Int.reduceLT, Int.reduceEq, Int.reduceNeg, and_self, and_true, true_and, and_false, false_and, or_true, true_or, or_false, false_or, Int.cast_ofNat_Int, Nat.reduceBEq, Nat.reduceBNe, beq_self_eq_true, List.take_zero, List.take_succ_cons, List.take_nil]; rfl)
  | some a =>
    rw [h] at hN
    rcases hfl with rfl | ⟨rfl, h0⟩ <;> (simp only [go_sem, c_index_Index_last, gi, e1, e2, hN, not_true_eq_false, not_false_eq_true, decide_true, decide_false, reduceCtorEq, ne_eq, Bool.false_eq_true, ↓reduceIte, Nat.reduceAdd, Nat.reduceEqDiff, Nat.reduceLT, Int.reduceLE, s_shl, s_shr, Bool.not_false, Bool.not_true, Bool.and_self, Bool.true_and, Bool.and_true, Bool.and_false, Bool.false_and, Bool.not_true, Bool.true_or, Bool.or_true, Nat.reduceSub, Nat.reduceLeDiff, Nat.reduceMul, Int.reduceToNat, Int.reduceLT, Int.reduceEq, Int.reduceNeg, and_self, and_true, true_and, and_false, false_and, or_true, true_or, or_false, false_or, Int.cast_ofNat_Int, Nat.reduceBEq, Nat.reduceBNe, beq_self_eq_true, List.take_zero, List.take_succ_cons, List.take_nil]; rfl)
end Go.Abs
