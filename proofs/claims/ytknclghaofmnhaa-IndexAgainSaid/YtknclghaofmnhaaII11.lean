import Derived.Test.YtknclghaofmnhaaII10
namespace Go.Abs
open Go Go.RowKit
set_option linter.unusedVariables false
set_option linter.unusedSimpArgs false

def rdAd (e : En) : Ad := ⟨e.1, e.2, e.2 + 1, true⟩
theorem ents_rd : ∀ E : List En, ents (E.map rdAd) = E
  | [] => rfl
  | e :: E => by rw [List.map_cons, ents_cons, ents_rd E]; rfl
def rdX (b k : Int) (E : List En) : Ix := ⟨b, k, E.map rdAd⟩
def rdF (E : List En) : Fl := if E = [] then .full else .own
theorem rd_flag (b k E) : Flag (rdX b k E) (rdF E) := by
  unfold rdF
  by_cases h : E = []
  · rw [if_pos h]; right; exact ⟨rfl, by rw [h]; rfl⟩
  · rw [if_neg h]; left; rfl
theorem idxB_cons (b : Int) (e : En) (r : List En) (h1 : b ≤ e.1) (h2 : 0 ≤ b) (h3 : e.1 ≤ 4611686018427387904) : idxB b (e :: r) = bes (e.1 - b) 0 ++ (bes e.2 0 ++ idxB b r) := by
  rw [idxB, wrap_id (by unfold I64; omega), List.append_assoc]
theorem read_loop (b k : Int) (hk : 1 ≤ k) (hb : 0 ≤ b) (E : List En) (hE : E.length < 1000000) (hg : GapS k E) (hI : ∀ e ∈ E, b ≤ e.1 ∧ e.1 ≤ 4611686018427387904 ∧ 0 ≤ e.2 ∧ e.2 ≤ 4611686018427387904) (H : Heap) : ∀ (r s : List En), E = s ++ r →
    loopA W loopW (.ghost (.kill k_index_Read_0) l_index_Read_0) [(0, .int .i64 b), (2, bytes (idxB b r) .ro), (8, .ptr (pt H 0) 0)] (hx H [(rdX b k s).B (rdF s)]) = some (.exit 0, [(8, .ptr (pt H 0) 0)], hx H [(rdX b k E).B (rdF E)]) := by
  intro r
  induction r with
  | nil =>
    intro s hs
    rw [List.append_nil] at hs
    subst hs
    have h0 : (ints .u8 (idxB b [])).length = 0 := rfl
    refine loop_step l_index_Read_0.eq_1 k_index_Read_0.eq_1 (by kernel_rfl) ?_
    simp only [go_sem, h0, gt_iff_lt, Int.lt_irrefl, not_true_eq_false, not_false_eq_true, decide_true, decide_false, reduceCtorEq, ne_eq, Bool.false_eq_true, ↓reduceIte, Nat.reduceAdd, Nat.reduceEqDiff, Nat.reduceLT, Int.reduceLE, s_shl, s_shr, Bool.not_false, Bool.not_true, Bool.and_self, Bool.true_and, Bool.and_true, Bool.and_false, Bool.false_and, Bool.not_true, Bool.true_or, Bool.or_true, Nat.reduceSub, Nat.reduceLeDiff, Nat.reduceMul, Int.reduceToNat, Int.reduceLT, Int.reduceEq, Int.reduceNeg, and_self, and_true, true_and, and_false, false_and, or_true, true_or, or_false, false_or, Int.cast_ofNat_Int, Nat.reduceBEq, Nat.reduceBNe, beq_self_eq_true, List.take_zero, List.take_succ_cons, List.take_nil]
  | cons e r ih =>
    intro s hs
    have hlen : E.length = s.length + (r.length + 1) := by rw [hs, List.length_append, List.length_cons]
    have he := hI e (by rw [hs]; simp)
    have hc := idxB_cons b e r he.1 hb he.2.1
    have hl := idxB_len b (e :: r)
    rw [List.length_cons] at hl
    have h0 : (ints .u8 (idxB b (e :: r))).length = 16 * (r.length + 1) := by rw [List.length_map, hl]
    have h1 : ((16 * (r.length + 1) : Nat) : Int) > 0 := by omega
    have h8 : (8 : Int) ≤ ((16 * (r.length + 1) : Nat) : Int) := by omega
    have h16 : (16 : Int) ≤ ((16 * (r.length + 1) : Nat) : Int) := by omega
    have d1 : (ints .u8 (idxB b (e :: r))).drop 8 = ints .u8 (bes e.2 0 ++ idxB b r) := by
      rw [← List.map_drop, hc, List.drop_append_of_le_length (by rw [bes_len]; omega), List.drop_of_length_le (by rw [bes_len]; omega), List.nil_append]
    have d2 : (ints .u8 (idxB b (e :: r))).drop 16 = ints .u8 (idxB b r) := by
      rw [show 16 = 8 + 8 from rfl, ← List.drop_drop, d1, ← List.map_drop, List.drop_append_of_le_length (by rw [bes_len]; omega), List.drop_of_length_le (by rw [bes_len]; omega), List.nil_append]
    have q1 : ∀ H, W n_varint_Back [bytes (idxB b (e :: r)) .ro] H = some (.tuple [.int .i64 (e.1 - b), .bool true], H) := by
      intro H; rw [back_spec, hc, backV_bes _ (by unfold I64; omega)]
    have q2 : ∀ H, W n_varint_Back [bytes (bes e.2 0 ++ idxB b r) .ro] H = some (.tuple [.int .i64 e.2, .bool true], H) := by
      intro H; rw [back_spec, backV_bes _ (by unfold I64; omega)]
    have c1 : ¬ (e.1 - b < 0) := by omega
    have w1 : IntKind.i64.wrap (b + (e.1 - b)) = e.1 := by rw [wrap_id (by unfold I64; omega)]; omega
    have c2 : ¬ (e.1 < b) := by omega
    have c3 : ¬ (e.2 < 0) := by omega
    have w2 : IntKind.i64.wrap (e.2 + 1) = e.2 + 1 := wrap_id (by unfold I64; omega)
    have a1 : (rdX b k s).l.map Ad.v ++ [AVal.agg [.int .i64 e.1, .int .i64 e.2, .int .i64 (e.2 + 1), .bool true]] = (rdX b k (s ++ [e])).l.map Ad.v := by simp [rdX, rdAd]
    have a2 : (((rdX b k s).l.map Ad.v).length + 1) * 32 ≤ maxBytes := by simp [maxBytes, rdX]; omega
    have a3 : ((rdX b k (s ++ [e])).l.map Ad.v).length = s.length + 1 := by simp [rdX]
    have hN := ih (s ++ [e]) (by rw [hs]; simp)
    have hF : rdF (s ++ [e]) = .own := by unfold rdF; rw [if_neg (by simp)]
    rw [hF] at hN
    refine loop_step l_index_Read_0.eq_1 k_index_Read_0.eq_1 (by kernel_rfl) ?_
    rcases List.eq_nil_or_concat s with hs0 | ⟨s', q, hs0⟩
    · have g0 : ¬ (((s.length + 1 : Nat) : Int) > 1) := by rw [hs0]; simp
      have hf : rdF s = .full := by unfold rdF; rw [if_pos hs0]
      rw [hf]
      simp only [go_sem, h0, h1, h8, h16, d1, d2, q1, q2, c1, c2, c3, w1, w2, a1, a2, a3, g0, slL, apF, not_true_eq_false, not_false_eq_true, decide_true, decide_false, reduceCtorEq, ne_eq, Bool.false_eq_true, ↓reduceIte, Nat.reduceAdd, Nat.reduceEqDiff, Nat.reduceLT, Int.reduceLE, s_shl, s_shr, Bool.not_false, Bool.not_true, Bool.and_self, Bool.true_and, Bool.and_true, Bool.and_false, Bool.false_and, Bool.not_true, Bool.true_or, Bool.or_true, Nat.reduceSub, Nat.reduceLeDiff, Nat.reduceMul, Int.reduceToNat, Int.reduceLT, Int.reduceEq, Int.reduceNeg, and_self, and_true, true_and, and_false, false_and, or_true, true_or, or_false, false_or, Int.cast_ofNat_Int, Nat.reduceBEq, Nat.reduceBNe, beq_self_eq_true, List.take_zero, List.take_succ_cons, List.take_nil]
      exact hN
    · rw [List.concat_eq_append] at hs0
      have hf : rdF s = .own := by unfold rdF; rw [hs0, if_neg (by simp)]
      have hgq : q.1 < e.1 ∧ e.2 - q.2 ≥ k := by
        have : GapS k (s' ++ q :: e :: r) := by rw [hs, hs0] at hg; simpa using hg
        clear hs0 hf hN a1 a2 a3 hs hlen
        induction s' with
        | nil => exact this.1
        | cons y s' ih' => exact ih' this.tail
      have g0 : ((s.length + 1 : Nat) : Int) > 1 := by rw [hs0]; simp; omega
      have g1 : IntKind.i64.wrap (((s.length + 1 : Nat) : Int) - 1) = ((s.length : Nat) : Int) := by rw [wrap_id (by unfold I64; omega)]; omega
      have g2 : IntKind.i64.wrap (((s.length + 1 : Nat) : Int) - 2) = ((s.length - 1 : Nat) : Int) := by rw [wrap_id (by unfold I64; omega)]; omega
      have g3 : ((rdX b k (s ++ [e])).l.map Ad.v)[((s.length : Nat) : Int).toNat]? = some (rdAd e).v := by simp [rdX]
      have g4 : ((rdX b k (s ++ [e])).l.map Ad.v)[((s.length - 1 : Nat) : Int).toNat]? = some (rdAd q).v := by rw [hs0]; simp [rdX]
      have g5 : (0 : Int) ≤ ((s.length : Nat) : Int) := by omega
      have g6 : (0 : Int) ≤ ((s.length - 1 : Nat) : Int) := by omega
      have g7 : ¬ (e.1 ≤ q.1) := by omega
      have g8 : ¬ (e.2 ≤ q.2) := by omega
      simp only [rdAd] at g3 g4
      rw [hf]
      simp only [go_sem, h0, h1, h8, h16, d1, d2, q1, q2, c1, c2, c3, w1, w2, a1, a2, a3, g0, g1, g2, g3, g4, g5, g6, g7, g8, slL, apO, not_true_eq_false, not_false_eq_true, decide_true, decide_false, reduceCtorEq, ne_eq, Bool.false_eq_true, ↓reduceIte, Nat.reduceAdd, Nat.reduceEqDiff, Nat.reduceLT, Int.reduceLE, s_shl, s_shr, Bool.not_false, Bool.not_true, Bool.and_self, Bool.true_and, Bool.and_true, Bool.and_false, Bool.false_and, Bool.not_true, Bool.true_or, Bool.or_true, Nat.reduceSub, Nat.reduceLeDiff, Nat.reduceMul, Int.reduceToNat, Int.reduceLT, Int.reduceEq, Int.reduceNeg, and_self, and_true, true_and, and_false, false_and, or_true, true_or, or_false, false_or, Int.cast_ofNat_Int, Nat.reduceBEq, Nat.reduceBNe, beq_self_eq_true, List.take_zero, List.take_succ_cons, List.take_nil]
      exact hN
theorem read_good (b k : Int) (hok : newOK b k = true) (E : List En) (hE : E.length < 1000000) (hg : GapS k E) (hI : ∀ e ∈ E, b ≤ e.1 ∧ e.1 ≤ 4611686018427387904 ∧ 0 ≤ e.2 ∧ e.2 ≤ 4611686018427387904) (H : Heap) :
    W n_index_Read [.int .i64 b, .int .i64 k, bytes (idxB b E) .ro] H = some (.tuple [.ptr (pt H 0) 0, .bool true], hx H [(rdX b k E).B (rdF E)]) := by
  have hn : ∀ H, W n_index_New [.int .i64 b, .int .i64 k] H = some (.ptr (pt H 0) 0, hx H [Ix.B ⟨b, k, []⟩ .full]) := by intro H; rw [new_spec, hok, if_pos rfl]
  have hk : 1 ≤ k ∧ 0 ≤ b := by unfold newOK at hok; simp at hok; omega
  have hN := read_loop b k hk.1 hk.2 E hE hg hI H E [] rfl
  have hl := idxB_len b E
  have h0 : (ints .u8 (idxB b E)).length = 16 * E.length := by rw [List.length_map, hl]
  have h1 : (((16 * E.length : Nat) : Int)).tmod 16 = 0 := by rw [Int.tmod_eq_emod_of_nonneg (by omega)]; omega
  simp only [rdX, List.map_nil, show rdF [] = .full from rfl] at hN
  refine W_fnS rfl rfl ?_
  simp only [go_sem, c_index_Read, hn, h0, h1, hN, gt_iff_lt, Int.lt_irrefl, not_true_eq_false, not_false_eq_true, decide_true, decide_false, reduceCtorEq, ne_eq, Bool.false_eq_true, ↓reduceIte, Nat.reduceAdd, Nat.reduceEqDiff, Nat.reduceLT, Int.reduceLE, s_shl, s_shr, Bool.not_false, Bool.not_true, Bool.and_self, Bool.true_and, Bool.and_true, Bool.and_false, Bool.false_and, Bool.not_true, Bool.true_or, Bool.or_true, Nat.reduceSub, Nat.reduceLeDiff, Nat.reduceMul, Int.reduceToNat, Int.reduceLT, Int.reduceEq, Int.reduceNeg, and_self, and_true, true_and, and_false, false_and, or_true, true_or, or_false, false_or, Int.cast_ofNat_Int, Nat.reduceBEq, Nat.reduceBNe, beq_self_eq_true, List.take_zero, List.take_succ_cons, List.take_nil]
  rfl
end Go.Abs
