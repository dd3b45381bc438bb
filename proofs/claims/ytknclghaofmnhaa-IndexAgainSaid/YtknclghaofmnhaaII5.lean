import Derived.Test.YtknclghaofmnhaaII4
namespace Go.Abs
open Go Go.RowKit
set_option linter.unusedVariables false
set_option linter.unusedSimpArgs false

theorem wrap_I64 (n : Int) : I64 (IntKind.i64.wrap n) := by rw [IntKind.wrap_i64]; unfold I64; omega
def idxB (base : Int) : List En → List Int
  | [] => []
  | e :: l => bes (IntKind.i64.wrap (e.1 - base)) 0 ++ bes e.2 0 ++ idxB base l
theorem bes_len (n : Int) : (bes n 0).length = 8 := by simp [bes]
theorem idxB_len (base) : ∀ l : List En, (idxB base l).length = 16 * l.length
  | [] => rfl
  | e :: l => by simp only [idxB, List.length_append, bes_len, idxB_len base l, List.length_cons]; omega
theorem idxB_app (base) : ∀ a b : List En, idxB base (a ++ b) = idxB base a ++ idxB base b
  | [], b => rfl
  | e :: a, b => by simp only [List.cons_append, idxB, idxB_app base a b, List.append_assoc]
theorem bytes_loop (x : Ix) (fl : Fl) (hfl : Flag x fl) (i : Nat) (E : List En) (hE : E.length < 1000000000) (hI : ∀ e ∈ E, I64 e.2) : ∀ (r s : List En) (H : Heap), E = s ++ r → Old H i (x.B fl) →
    ∃ N, loopA W loopW (.ghost (.kill k_index_Index_Bytes_0) l_index_Index_Bytes_0) [(0, .ptr i 0), (3, bytes (idxB x.base s) .full), (7, .list 2 (E.map enV) .full), (8, .int .i64 E.length), (9, .int .i64 s.length)] H =
      some (.exit 0, [(3, bytes (idxB x.base E) .full)], hx H N) := by
  intro r
  induction r with
  | nil =>
    intro s H hs hi
    rw [List.append_nil] at hs
    subst hs
    refine ⟨[], ?_⟩
    rw [hx_nil]
    have h1 : ¬ ((E.length : Int) < (E.length : Int)) := by omega
    refine loop_step l_index_Index_Bytes_0.eq_1 k_index_Index_Bytes_0.eq_1 (by kernel_rfl) ?_
    simp only [go_sem, h1, not_true_eq_false, not_false_eq_true, decide_true, decide_false, reduceCtorEq, ne_eq, Bool.false_eq_true, ↓reduceIte, Nat.reduceAdd, Nat.reduceEqDiff, Nat.reduceLT, Int.reduceLE, s_shl, s_shr, Bool.not_false, Bool.not_true, Bool.and_self, Bool.true_and, Bool.and_true, Bool.and_false, Bool.false_and, Bool.not_true, Bool.true_or, Bool.or_true, Nat.reduceSub, Nat.reduceLeDiff, Nat.reduceMul, Int.reduceToNat, Int.reduceLT, Int.reduceEq, Int.reduceNeg, and_self, and_true, true_and, and_false, false_and, or_true, true_or, or_false, false_or, Int.cast_ofNat_Int, Nat.reduceBEq, Nat.reduceBNe, beq_self_eq_true, List.take_zero, List.take_succ_cons, List.take_nil]
  | cons e r ih =>
    intro s H hs hi
    have gi := hi.get
    have hlen : E.length = s.length + (r.length + 1) := by rw [hs, List.length_append, List.length_cons]
    have h1 : (s.length : Int) < (E.length : Int) := by omega
    have h2 : (0 : Int) ≤ (s.length : Int) := by omega
    have h3 : (E.map enV)[((s.length : Nat) : Int).toNat]? = some (enV e) := by rw [hs]; simp
    have e1 : IntKind.i64.wrap ((s.length : Int) + 1) = ((s ++ [e]).length : Int) := by rw [wrap_id (by unfold I64; omega)]; simp
    have hb := idxB_len x.base s
    have l1 := fun H => long_spec (idxB x.base s) (IntKind.i64.wrap (e.1 - x.base)) H (wrap_I64 _) (by omega)
    have l2 := fun H => long_spec (idxB x.base s ++ bes (IntKind.i64.wrap (e.1 - x.base)) 0) e.2 H (hI e (by rw [hs]; simp)) (by rw [List.length_append, bes_len]; omega)
    have e4 : idxB x.base s ++ bes (IntKind.i64.wrap (e.1 - x.base)) 0 ++ bes e.2 0 = idxB x.base (s ++ [e]) := by rw [idxB_app]; simp [idxB]
    rw [e4] at l2
    obtain ⟨N, hN⟩ := ih (s ++ [e]) (hx H [.cells [.int .i64 e.1, .int .i64 e.2]]) (by rw [hs]; simp) ⟨gi _⟩
    rw [hx_hx] at hN
    refine ⟨.cells [.int .i64 e.1, .int .i64 e.2] :: N, loop_step l_index_Index_Bytes_0.eq_1 k_index_Index_Bytes_0.eq_1 (by kernel_rfl) ?_⟩
    rw [← hx_nil H]
    rcases hfl with rfl | ⟨rfl, _⟩ <;> (simp only [go_sem, h1, h2, h3, e1, gi, l1, l2, not_true_eq_false, not_false_eq_true, decide_true, decide_false, reduceCtorEq, ne_eq, Bool.false_eq_true, ↓reduceIte, Nat.reduceAdd, Nat.reduceEqDiff, Nat.reduceLT, Int.reduceLE, s_shl, s_shr, Bool.not_false, Bool.not_true, Bool.and_self, Bool.true_and, Bool.and_true, Bool.and_false, Bool.false_and, Bool.not_true, Bool.true_or, Bool.or_true, Nat.reduceSub, Nat.reduceLeDiff, Nat.reduceMul, Int.reduceToNat, Int.reduceLT, Int.reduceEq, Int.reduceNeg, and_self, and_true, true_and, and_false, false_and, or_true, true_or, or_false, false_or, Int.cast_ofNat_Int, Nat.reduceBEq, Nat.reduceBNe, beq_self_eq_true, List.take_zero, List.take_succ_cons, List.take_nil]; exact hN)
theorem ents_I64 {l : List Ad} (h : ∀ a ∈ l, I64 a.at_) : ∀ e ∈ ents l, I64 e.2 := by
  intro e he
  unfold ents at he
  obtain ⟨a, ha, rfl⟩ := List.mem_map.1 he
  exact h a (List.mem_filter.1 ha).1
theorem bytes_spec (x : Ix) (fl : Fl) (hfl : Flag x fl) (hx1 : x.l.length < 1000000000) (hI : ∀ a ∈ x.l, I64 a.at_) (i : Nat) (H : Heap) (hi : Old H i (x.B fl)) :
    W n_index_Index_Bytes [.ptr i 0] H = some (bytes (idxB x.base (ents x.l)) .full, H) := by
  have gi := hi.get
  have he := fun L => entries_spec x fl hfl hx1 i (hx H L) ⟨gi L⟩
  have hlen := ents_len x.l
  have e2 : ((ents x.l).map enV).length = (ents x.l).length := by simp
  obtain ⟨N, hN⟩ := bytes_loop x fl hfl i (ents x.l) (by omega) (ents_I64 hI) (ents x.l) [] (hx H []) rfl ⟨gi _⟩
  rw [hx_hx, List.nil_append, show idxB x.base [] = [] from rfl, show bytes [] .full = .list 1 [] .full from rfl] at hN
  simp only [List.map_nil, List.length_nil, show ((0 : Nat) : Int) = 0 from rfl] at hN
  refine W_fn rfl rfl ?_
  simp only [go_sem, c_index_Index_Bytes, he, e2, hN, under_ints, not_true_eq_false, not_false_eq_true, decide_true, decide_false, reduceCtorEq, ne_eq, Bool.false_eq_true, ↓reduceIte, Nat.reduceAdd, Nat.reduceEqDiff, Nat.reduceLT, Int.reduceLE, s_shl, s_shr, Bool.not_false, Bool.not_true, Bool.and_self, Bool.true_and, Bool.and_true, Bool.and_false, Bool.false_and, Bool.not_true, Bool.true_or, Bool.or_true, Nat.reduceSub, Nat.reduceLeDiff, Nat.reduceMul, Int.reduceToNat, Int.reduceLT, Int.reduceEq, Int.reduceNeg, and_self, and_true, true_and, and_false, false_and, or_true, true_or, or_false, false_or, Int.cast_ofNat_Int, Nat.reduceBEq, Nat.reduceBNe, beq_self_eq_true, List.take_zero, List.take_succ_cons, List.take_nil]

/-! ## The document's own -/
structure Pl where
  base : Int
  last : Int
  every : Int
  end_ : Int
  l : List En
abbrev Pl.B (p : Pl) (fl : Fl) : Box := .cells [.int .i64 p.base, .int .i64 p.last, .int .i64 p.every, .int .i64 p.end_, .list 2 (p.l.map enV) fl]
theorem same_loop (p : Pl) (fp : Fl) (hfp : fp = .own ∨ fp = .full) (j : Nat) (hE : p.l.length < 1000000000) (hI : ∀ e ∈ p.l, I64 e.2) (xv : AVal) : ∀ (r s : List En) (H : Heap) (fb : Fl), p.l = s ++ r → (fb = .own ∨ (fb = .full ∧ s = [])) → Old H j (p.B fp) →
    ∃ N fb', (fb' = .own ∨ fb' = .full) ∧ loopA W loopW (.ghost (.kill k_law8_same_0) l_law8_same_0) [(0, xv), (1, .ptr j 0), (5, .list 2 (p.l.map enV) .full), (6, bytes (idxB p.base s) fb), (19, .int .i64 p.l.length), (20, .int .i64 s.length)] H =
      some (.exit 0, [(0, xv), (6, bytes (idxB p.base p.l) fb')], hx H N) := by
  intro r
  induction r with
  | nil =>
    intro s H fb hs hfb hj
    rw [List.append_nil] at hs
    subst hs
    refine ⟨[], fb, by rcases hfb with h | ⟨h, _⟩ <;> simp [h], ?_⟩
    rw [hx_nil]
    have h1 : ¬ ((p.l.length : Int) < (p.l.length : Int)) := by omega
    refine loop_step l_law8_same_0.eq_1 k_law8_same_0.eq_1 (by kernel_rfl) ?_
    rcases hfb with rfl | ⟨rfl, _⟩ <;> simp only [go_sem, h1, not_true_eq_false, not_false_eq_true, decide_true, decide_false, reduceCtorEq, ne_eq, Bool.false_eq_true, ↓reduceIte, Nat.reduceAdd, Nat.reduceEqDiff, Nat.reduceLT, Int.reduceLE, s_shl, s_shr, Bool.not_false, Bool.not_true, Bool.and_self, Bool.true_and, Bool.and_true, Bool.and_false, Bool.false_and, Bool.not_true, Bool.true_or, Bool.or_true, Nat.reduceSub, Nat.reduceLeDiff, Nat.reduceMul, Int.reduceToNat, Int.reduceLT, Int.reduceEq, Int.reduceNeg, and_self, and_true, true_and, and_false, false_and, or_true, true_or, or_false, false_or, Int.cast_ofNat_Int, Nat.reduceBEq, Nat.reduceBNe, beq_self_eq_true, List.take_zero, List.take_succ_cons, List.take_nil]
  | cons e r ih =>
    intro s H fb hs hfb hj
    have gj := hj.get
    have hlen : p.l.length = s.length + (r.length + 1) := by rw [hs, List.length_append, List.length_cons]
    have h1 : (s.length : Int) < (p.l.length : Int) := by omega
    have h2 : (0 : Int) ≤ (s.length : Int) := by omega
    have h3 : (p.l.map enV)[((s.length : Nat) : Int).toNat]? = some (enV e) := by rw [hs]; simp
    have e1 : IntKind.i64.wrap ((s.length : Int) + 1) = ((s ++ [e]).length : Int) := by rw [wrap_id (by unfold I64; omega)]; simp
    have hb := idxB_len p.base s
    have l1 := fun H => ref_long_spec (idxB p.base s) (IntKind.i64.wrap (e.1 - p.base)) H (wrap_I64 _) (by omega)
    have l2 := fun H => ref_long_spec (idxB p.base s ++ bes (IntKind.i64.wrap (e.1 - p.base)) 0) e.2 H (hI e (by rw [hs]; simp)) (by rw [List.length_append, bes_len]; omega)
    have e4 : idxB p.base s ++ bes (IntKind.i64.wrap (e.1 - p.base)) 0 ++ bes e.2 0 = idxB p.base (s ++ [e]) := by rw [idxB_app]; simp [idxB]
    rw [e4] at l2
    obtain ⟨N, fb', hf, hN⟩ := ih (s ++ [e]) H .own (by rw [hs]; simp) (.inl rfl) hj
    have hq : ∀ a b : Int, eqCells [.int .i64, .int .i64] [.int .i64 a, .int .i64 b] [.int .i64 a, .int .i64 b] = some true := by intro a b; simp [eqCells]
    refine ⟨N, fb', hf, loop_step l_law8_same_0.eq_1 k_law8_same_0.eq_1 (by kernel_rfl) ?_⟩
    rw [← hx_nil H]
    rcases hfp with rfl | rfl <;> rcases hfb with rfl | ⟨rfl, _⟩ <;> (simp only [go_sem, h1, h2, h3, e1, gj, l1, l2, hq, not_true_eq_false, not_false_eq_true, decide_true, decide_false, reduceCtorEq, ne_eq, Bool.false_eq_true, ↓reduceIte, Nat.reduceAdd, Nat.reduceEqDiff, Nat.reduceLT, Int.reduceLE, s_shl, s_shr, Bool.not_false, Bool.not_true, Bool.and_self, Bool.true_and, Bool.and_true, Bool.and_false, Bool.false_and, Bool.not_true, Bool.true_or, Bool.or_true, Nat.reduceSub, Nat.reduceLeDiff, Nat.reduceMul, Int.reduceToNat, Int.reduceLT, Int.reduceEq, Int.reduceNeg, and_self, and_true, true_and, and_false, false_and, or_true, true_or, or_false, false_or, Int.cast_ofNat_Int, Nat.reduceBEq, Nat.reduceBNe, beq_self_eq_true, List.take_zero, List.take_succ_cons, List.take_nil]; rw [hx_nil]; exact hN)
theorem same_spec (x : Ix) (fl : Fl) (hfl : Flag x fl) (hx1 : x.l.length < 1000000000) (hI : ∀ a ∈ x.l, I64 a.at_) (i : Nat) (H : Heap) (hi : Old H i (x.B fl))
    (p : Pl) (fp : Fl) (hfp : fp = .own ∨ fp = .full) (j : Nat) (hj : Old H j (p.B fp)) (hb : x.base = p.base) (hp : ents x.l = p.l) :
    W n_law8_same [.ptr i 0, .ptr j 0] H = some (.bool true, H) := by
  have gi := hi.get
  have gj := hj.get
  have he := fun L => entries_spec x fl hfl hx1 i (hx H L) ⟨gi L⟩
  have hby := fun L => bytes_spec x fl hfl hx1 hI i (hx H L) ⟨gi L⟩
  have hlen := ents_len x.l
  have hI' := ents_I64 hI
  rw [hp] at he hby hlen hI'
  rw [hb] at hby
  have e2 : (p.l.map enV).length = p.l.length := by simp
  obtain ⟨N, fb', hf, hN⟩ := same_loop p fp hfp j (by omega) hI' (.ptr i 0) p.l [] (hx H []) .full rfl (.inr ⟨rfl, rfl⟩) ⟨gj _⟩
  rw [hx_hx, List.nil_append, show idxB p.base [] = [] from rfl, show bytes [] .full = .list 1 [] .full from rfl] at hN
  simp only [List.map_nil, List.length_nil, show ((0 : Nat) : Int) = 0 from rfl] at hN
  have hq : (toS (idxB p.base p.l) == toS (idxB p.base p.l)) = true := by simp
  refine W_fn rfl rfl ?_
  rcases hfp with rfl | rfl <;> rcases hf with rfl | rfl <;> simp only [go_sem, c_law8_same, he, e2, gj, hN, hby, dec_ints, hq, not_true_eq_false, not_false_eq_true, decide_true, decide_false, reduceCtorEq, ne_eq, Bool.false_eq_true, ↓reduceIte, Nat.reduceAdd, Nat.reduceEqDiff, Nat.reduceLT, Int.reduceLE, s_shl, s_shr, Bool.not_false, Bool.not_true, Bool.and_self, Bool.true_and, Bool.and_true, Bool.and_false, Bool.false_and, Bool.not_true, Bool.true_or, Bool.or_true, Nat.reduceSub, Nat.reduceLeDiff, Nat.reduceMul, Int.reduceToNat, Int.reduceLT, Int.reduceEq, Int.reduceNeg, and_self, and_true, true_and, and_false, false_and, or_true, true_or, or_false, false_or, Int.cast_ofNat_Int, Nat.reduceBEq, Nat.reduceBNe, beq_self_eq_true, List.take_zero, List.take_succ_cons, List.take_nil]
end Go.Abs
