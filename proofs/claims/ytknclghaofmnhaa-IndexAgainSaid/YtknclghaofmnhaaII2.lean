import Derived.Test.YtknclghaofmnhaaII1
namespace Go.Abs
open Go Go.RowKit
set_option linter.unusedVariables false
set_option linter.unusedSimpArgs false

/-! ## What entries there are -/
abbrev En := Int × Int
abbrev enV (e : En) : AVal := .agg [.int .i64 e.1, .int .i64 e.2]
def ents (l : List Ad) : List En := (l.filter (·.entry)).map fun a => (a.off, a.at_)
theorem ents_cons (a : Ad) (l) : ents (a :: l) = (if a.entry then [(a.off, a.at_)] else []) ++ ents l := by
  unfold ents; cases h : a.entry <;> simp [h]
theorem ents_app (a b : List Ad) : ents (a ++ b) = ents a ++ ents b := by simp [ents]
theorem ents_len (l : List Ad) : (ents l).length ≤ l.length := by unfold ents; rw [List.length_map]; exact List.length_filter_le _ _
theorem W_clipE (xs : List AVal) (H : Heap) : W n_slices_Clip_index_Entry_index_Entry_ [.list 2 xs .ro] H = some (.list 2 xs .full, H) := by
  refine W_fn rfl rfl ?_
  simp only [go_sem, c_slices_Clip_index_Entry_index_Entry_, sl_clip, not_true_eq_false, not_false_eq_true, decide_true, decide_false, reduceCtorEq, ne_eq, Bool.false_eq_true, ↓reduceIte, Nat.reduceAdd, Nat.reduceEqDiff, Nat.reduceLT, Int.reduceLE, s_shl, s_shr, Bool.not_false, Bool.not_true, Bool.and_self, Bool.true_and, Bool.and_true, Bool.and_false, Bool.false_and, Bool.not_true, Bool.true_or, Bool.or_true, Nat.reduceSub, Nat.reduceLeDiff, Nat.reduceMul, Int.reduceToNat, Int.reduceLT, Int.reduceEq, Int.reduceNeg, and_self, and_true, true_and, and_false, false_and, or_true, true_or, or_false, false_or, Int.cast_ofNat_Int, Nat.reduceBEq, Nat.reduceBNe, beq_self_eq_true, List.take_zero, List.take_succ_cons, List.take_nil]
theorem ents_loop (l : List Ad) (fl : Fl) (hfl : fl = .ro ∨ (fl = .full ∧ l = [])) (hl : l.length < 1000000000) : ∀ (r s : List Ad) (H : Heap) (fe : Fl), l = s ++ r → (fe = .own ∨ fe = .full) →
    ∃ N fe', (fe' = .own ∨ fe' = .full) ∧ loopA W loopW (.ghost (.kill k_index_Index_Entries_0) l_index_Index_Entries_0) [(3, .list 2 ((ents s).map enV) fe), (9, .list 4 (l.map Ad.v) fl), (10, .int .i64 l.length), (11, .int .i64 s.length)] H =
      some (.exit 0, [(3, .list 2 ((ents l).map enV) fe')], hx H N) := by
  intro r
  induction r with
  | nil =>
    intro s H fe hs hfe
    rw [List.append_nil] at hs
    subst hs
    refine ⟨[], fe, hfe, ?_⟩
    rw [hx_nil]
    have h1 : ¬ ((l.length : Int) < (l.length : Int)) := by omega
    refine loop_step l_index_Index_Entries_0.eq_1 k_index_Index_Entries_0.eq_1 (by kernel_rfl) ?_
    rcases hfl with rfl | ⟨rfl, _⟩ <;> rcases hfe with rfl | rfl <;> simp only [go_sem, h1, not_true_eq_false, not_false_eq_true, decide_true, decide_false, reduceCtorEq, ne_eq, Bool.false_eq_true, ↓reduceIte, Nat.reduceAdd, Nat.reduceEqDiff, Nat.reduceLT, Int.reduceLE, s_shl, s_shr, Bool.not_false, Bool.not_true, Bool.and_self, Bool.true_and, Bool.and_true, Bool.and_false, Bool.false_and, Bool.not_true, Bool.true_or, Bool.or_true, Nat.reduceSub, Nat.reduceLeDiff, Nat.reduceMul, Int.reduceToNat, Int.reduceLT, Int.reduceEq, Int.reduceNeg, and_self, and_true, true_and, and_false, false_and, or_true, true_or, or_false, false_or, Int.cast_ofNat_Int, Nat.reduceBEq, Nat.reduceBNe, beq_self_eq_true, List.take_zero, List.take_succ_cons, List.take_nil]
  | cons a r ih =>
    intro s H fe hs hfe
    have hlen : l.length = s.length + (r.length + 1) := by rw [hs, List.length_append, List.length_cons]
    have hel := ents_len s
    rcases hfl with rfl | ⟨rfl, h0⟩
    rotate_left
    · rw [h0] at hs; simp at hs
    have h1 : (s.length : Int) < (l.length : Int) := by omega
    have h2 : (0 : Int) ≤ (s.length : Int) := by omega
    have h3 : (l.map Ad.v)[((s.length : Nat) : Int).toNat]? = some a.v := by rw [hs]; simp
    have e1 : IntKind.i64.wrap ((s.length : Int) + 1) = ((s ++ [a]).length : Int) := by rw [wrap_id (by unfold I64; omega)]; simp
    have a2 : (((ents s).map enV).length + 1) * 16 ≤ maxBytes := by simp [maxBytes]; omega
    cases he : a.entry with
    | true =>
      have a1 : (ents s).map enV ++ [AVal.agg [.int .i64 a.off, .int .i64 a.at_]] = (ents (s ++ [a])).map enV := by rw [ents_app, ents_cons, he]; simp [ents]
      obtain ⟨N, fe', hf, hN⟩ := ih (s ++ [a]) (hx H [.cells [.int .i64 a.off, .int .i64 a.at_, .int .i64 a.end_, .bool a.entry]]) .own (by rw [hs]; simp) (.inl rfl)
      rw [hx_hx] at hN
      refine ⟨.cells [.int .i64 a.off, .int .i64 a.at_, .int .i64 a.end_, .bool a.entry] :: N, fe', hf, ?_⟩
      rw [List.cons_append, List.nil_append, he] at hN
      rw [he]
      refine loop_step l_index_Index_Entries_0.eq_1 k_index_Index_Entries_0.eq_1 (by kernel_rfl) ?_
      rw [← hx_nil H]
      rcases hfe with rfl | rfl <;> (simp only [go_sem, h1, h2, h3, e1, he, a1, a2, apO, apF, not_true_eq_false, not_false_eq_true, decide_true, decide_false, reduceCtorEq, ne_eq, Bool.false_eq_true, ↓reduceIte, Nat.reduceAdd, Nat.reduceEqDiff, Nat.reduceLT, Int.reduceLE, s_shl, s_shr, Bool.not_false, Bool.not_true, Bool.and_self, Bool.true_and, Bool.and_true, Bool.and_false, Bool.false_and, Bool.not_true, Bool.true_or, Bool.or_true, Nat.reduceSub, Nat.reduceLeDiff, Nat.reduceMul, Int.reduceToNat, Int.reduceLT, Int.reduceEq, Int.reduceNeg, and_self, and_true, true_and, and_false, false_and, or_true, true_or, or_false, false_or, Int.cast_ofNat_Int, Nat.reduceBEq, Nat.reduceBNe, beq_self_eq_true, List.take_zero, List.take_succ_cons, List.take_nil]; exact hN)
    | false =>
      have a1 : (ents s) = (ents (s ++ [a])) := by rw [ents_app, ents_cons, he]; simp [ents]
      obtain ⟨N, fe', hf, hN⟩ := ih (s ++ [a]) (hx H [.cells [.int .i64 a.off, .int .i64 a.at_, .int .i64 a.end_, .bool a.entry]]) fe (by rw [hs]; simp) hfe
      rw [hx_hx, ← a1] at hN
      refine ⟨.cells [.int .i64 a.off, .int .i64 a.at_, .int .i64 a.end_, .bool a.entry] :: N, fe', hf, ?_⟩
      rw [List.cons_append, List.nil_append, he] at hN
      rw [he]
      refine loop_step l_index_Index_Entries_0.eq_1 k_index_Index_Entries_0.eq_1 (by kernel_rfl) ?_
      rw [← hx_nil H]
      rcases hfe with rfl | rfl <;> (simp only [go_sem, h1, h2, h3, e1, he, not_true_eq_false, not_false_eq_true, decide_true, decide_false, reduceCtorEq, ne_eq, Bool.false_eq_true, ↓reduceIte, Nat.reduceAdd, Nat.reduceEqDiff, Nat.reduceLT, Int.reduceLE, s_shl, s_shr, Bool.not_false, Bool.not_true, Bool.and_self, Bool.true_and, Bool.and_true, Bool.and_false, Bool.false_and, Bool.not_true, Bool.true_or, Bool.or_true, Nat.reduceSub, Nat.reduceLeDiff, Nat.reduceMul, Int.reduceToNat, Int.reduceLT, Int.reduceEq, Int.reduceNeg, and_self, and_true, true_and, and_false, false_and, or_true, true_or, or_false, false_or, Int.cast_ofNat_Int, Nat.reduceBEq, Nat.reduceBNe, beq_self_eq_true, List.take_zero, List.take_succ_cons, List.take_nil]; exact hN)
theorem under_ents (l : List En) : AVal.underL 0 (l.map enV) = true := uL_map 0 enV (fun _ => rfl) l
theorem entries_spec (x : Ix) (fl : Fl) (hfl : Flag x fl) (hx1 : x.l.length < 1000000000) (i : Nat) (H : Heap) (hi : Old H i (x.B fl)) : W n_index_Index_Entries [.ptr i 0] H = some (.list 2 ((ents x.l).map enV) .full, H) := by
  have gi := hi.get
  have e2 : (x.l.map Ad.v).length = x.l.length := by simp
  have u := under_ents (ents x.l)
  refine W_fn rfl rfl ?_
  rcases hfl with rfl | ⟨rfl, h0⟩
  · obtain ⟨N, fe', hf, hN⟩ := ents_loop x.l .ro (.inl rfl) hx1 x.l [] (hx H []) .full rfl (.inr rfl)
    rw [hx_hx, List.nil_append, show ents [] = [] from rfl] at hN
    simp only [List.map_nil, List.length_nil, show ((0 : Nat) : Int) = 0 from rfl] at hN
    rcases hf with rfl | rfl <;> simp only [go_sem, c_index_Index_Entries, gi, e2, hN, W_clipE, u, not_true_eq_false, not_false_eq_true, decide_true, decide_false, reduceCtorEq, ne_eq, Bool.false_eq_true, ↓reduceIte, Nat.reduceAdd, Nat.reduceEqDiff, Nat.reduceLT, Int.reduceLE, s_shl, s_shr, Bool.not_false, Bool.not_true, Bool.and_self, Bool.true_and, Bool.and_true, Bool.and_false, Bool.false_and, Bool.not_true, Bool.true_or, Bool.or_true, Nat.reduceSub, Nat.reduceLeDiff, Nat.reduceMul, Int.reduceToNat, Int.reduceLT, Int.reduceEq, Int.reduceNeg, and_self, and_true, true_and, and_false, false_and, or_true, true_or, or_false, false_or, Int.cast_ofNat_Int, Nat.reduceBEq, Nat.reduceBNe, beq_self_eq_true, List.take_zero, List.take_succ_cons, List.take_nil]
  · obtain ⟨N, fe', hf, hN⟩ := ents_loop x.l .full (.inr ⟨rfl, h0⟩) hx1 x.l [] (hx H []) .full rfl (.inr rfl)
    rw [hx_hx, List.nil_append, show ents [] = [] from rfl] at hN
    simp only [List.map_nil, List.length_nil, show ((0 : Nat) : Int) = 0 from rfl] at hN
    rcases hf with rfl | rfl <;> simp only [go_sem, c_index_Index_Entries, gi, e2, hN, W_clipE, u, not_true_eq_false, not_false_eq_true, decide_true, decide_false, reduceCtorEq, ne_eq, Bool.false_eq_true, ↓reduceIte, Nat.reduceAdd, Nat.reduceEqDiff, Nat.reduceLT, Int.reduceLE, s_shl, s_shr, Bool.not_false, Bool.not_true, Bool.and_self, Bool.true_and, Bool.and_true, Bool.and_false, Bool.false_and, Bool.not_true, Bool.true_or, Bool.or_true, Nat.reduceSub, Nat.reduceLeDiff, Nat.reduceMul, Int.reduceToNat, Int.reduceLT, Int.reduceEq, Int.reduceNeg, and_self, and_true, true_and, and_false, false_and, or_true, true_or, or_false, false_or, Int.cast_ofNat_Int, Nat.reduceBEq, Nat.reduceBNe, beq_self_eq_true, List.take_zero, List.take_succ_cons, List.take_nil]
end Go.Abs
