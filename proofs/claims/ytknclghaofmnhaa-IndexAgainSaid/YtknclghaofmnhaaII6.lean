import Derived.Test.YtknclghaofmnhaaII5
namespace Go.Abs
open Go Go.RowKit
set_option linter.unusedVariables false
set_option linter.unusedSimpArgs false

theorem known_ok : callN tbl ext 60 n_law8_known [] [] = some (.bool true, []) := by kernel_rfl
theorem known_spec : W n_law8_known [] [] = some (.bool true, []) := callW_of known_ok
theorem within_spec (n lo hi : Int) (H : Heap) (h : lo ≤ hi) (h1 : -1000000000 ≤ lo) (h2 : hi ≤ 2000000000) : W n_book_Within [.int .i64 n, .int .i64 lo, .int .i64 hi] H = some (.int .i64 (withinQ n lo hi), H) := by
  refine W_fn rfl rfl ?_
  have q1 : n.tmod (hi - lo + 1) < hi - lo + 1 := Int.tmod_lt_of_pos n (by omega)
  have q2 : -(hi - lo + 1) < n.tmod (hi - lo + 1) := by
    have := Int.tmod_lt_of_pos (-n) (show 0 < hi - lo + 1 by omega)
    rw [Int.neg_tmod] at this; omega
  have w1 : IntKind.i64.wrap (hi - lo) = hi - lo := wrap_id (by unfold I64; omega)
  have w2 : IntKind.i64.wrap (hi - lo + 1) = hi - lo + 1 := wrap_id (by unfold I64; omega)
  have w0 : ¬ (hi - lo + 1 = 0) := by omega
  have w3 : IntKind.i64.wrap (lo + n.tmod (hi - lo + 1)) = lo + n.tmod (hi - lo + 1) := wrap_id (by unfold I64; omega)
  have w4 : IntKind.i64.wrap (n.tmod (hi - lo + 1) + hi) = n.tmod (hi - lo + 1) + hi := wrap_id (by unfold I64; omega)
  have w5 : IntKind.i64.wrap (n.tmod (hi - lo + 1) + hi - lo) = n.tmod (hi - lo + 1) + hi - lo := wrap_id (by unfold I64; omega)
  have w6 : IntKind.i64.wrap (n.tmod (hi - lo + 1) + hi - lo + 1) = n.tmod (hi - lo + 1) + hi - lo + 1 := wrap_id (by unfold I64; omega)
  have w7 : n.tmod (hi - lo + 1) < 0 → IntKind.i64.wrap (lo + (n.tmod (hi - lo + 1) + hi - lo + 1)) = lo + (n.tmod (hi - lo + 1) + hi - lo + 1) := fun _ => wrap_id (by unfold I64; omega)
  unfold withinQ
  by_cases c1 : n ≥ lo
  · by_cases c2 : n ≤ hi
    · simp only [go_sem, c_book_Within, c1, c2, not_true_eq_false, not_false_eq_true, decide_true, decide_false, reduceCtorEq, ne_eq, Bool.false_eq_true, ↓reduceIte, Nat.reduceAdd, Nat.reduceEqDiff, Nat.reduceLT, Int.reduceLE, s_shl, s_shr, Bool.not_false, Bool.not_true, Bool.and_self, Bool.true_and, Bool.and_true, Bool.and_false, Bool.false_and, Bool.not_true, Bool.true_or, Bool.or_true, Nat.reduceSub, Nat.reduceLeDiff, Nat.reduceMul, Int.reduceToNat, Int.reduceLT, Int.reduceEq, Int.reduceNeg, and_self, and_true, true_and, and_false, false_and, or_true, true_or, or_false, false_or, Int.cast_ofNat_Int, Nat.reduceBEq, Nat.reduceBNe, beq_self_eq_true, List.take_zero, List.take_succ_cons, List.take_nil]
    · by_cases c3 : n.tmod (hi - lo + 1) < 0
      · simp only [go_sem, c_book_Within, c1, c2, c3, w0, w1, w2, w3, w4, w5, w6, w7, not_true_eq_false, not_false_eq_true, decide_true, decide_false, reduceCtorEq, ne_eq, Bool.false_eq_true, ↓reduceIte, Nat.reduceAdd, Nat.reduceEqDiff, Nat.reduceLT, Int.reduceLE, s_shl, s_shr, Bool.not_false, Bool.not_true, Bool.and_self, Bool.true_and, Bool.and_true, Bool.and_false, Bool.false_and, Bool.not_true, Bool.true_or, Bool.or_true, Nat.reduceSub, Nat.reduceLeDiff, Nat.reduceMul, Int.reduceToNat, Int.reduceLT, Int.reduceEq, Int.reduceNeg, and_self, and_true, true_and, and_false, false_and, or_true, true_or, or_false, false_or, Int.cast_ofNat_Int, Nat.reduceBEq, Nat.reduceBNe, beq_self_eq_true, List.take_zero, List.take_succ_cons, List.take_nil]
      · simp only [go_sem, c_book_Within, c1, c2, c3, w0, w1, w2, w3, w4, w5, w6, not_true_eq_false, not_false_eq_true, decide_true, decide_false, reduceCtorEq, ne_eq, Bool.false_eq_true, ↓reduceIte, Nat.reduceAdd, Nat.reduceEqDiff, Nat.reduceLT, Int.reduceLE, s_shl, s_shr, Bool.not_false, Bool.not_true, Bool.and_self, Bool.true_and, Bool.and_true, Bool.and_false, Bool.false_and, Bool.not_true, Bool.true_or, Bool.or_true, Nat.reduceSub, Nat.reduceLeDiff, Nat.reduceMul, Int.reduceToNat, Int.reduceLT, Int.reduceEq, Int.reduceNeg, and_self, and_true, true_and, and_false, false_and, or_true, true_or, or_false, false_or, Int.cast_ofNat_Int, Nat.reduceBEq, Nat.reduceBNe, beq_self_eq_true, List.take_zero, List.take_succ_cons, List.take_nil]
  · by_cases c3 : n.tmod (hi - lo + 1) < 0
    · simp only [go_sem, c_book_Within, c1, c3, w0, w1, w2, w3, w4, w5, w6, w7, not_true_eq_false, not_false_eq_true, decide_true, decide_false, reduceCtorEq, ne_eq, Bool.false_eq_true, ↓reduceIte, Nat.reduceAdd, Nat.reduceEqDiff, Nat.reduceLT, Int.reduceLE, s_shl, s_shr, Bool.not_false, Bool.not_true, Bool.and_self, Bool.true_and, Bool.and_true, Bool.and_false, Bool.false_and, Bool.not_true, Bool.true_or, Bool.or_true, Nat.reduceSub, Nat.reduceLeDiff, Nat.reduceMul, Int.reduceToNat, Int.reduceLT, Int.reduceEq, Int.reduceNeg, and_self, and_true, true_and, and_false, false_and, or_true, true_or, or_false, false_or, Int.cast_ofNat_Int, Nat.reduceBEq, Nat.reduceBNe, beq_self_eq_true, List.take_zero, List.take_succ_cons, List.take_nil]
    · simp only [go_sem, c_book_Within, c1, c3, w0, w1, w2, w3, w4, w5, w6, not_true_eq_false, not_false_eq_true, decide_true, decide_false, reduceCtorEq, ne_eq, Bool.false_eq_true, ↓reduceIte, Nat.reduceAdd, Nat.reduceEqDiff, Nat.reduceLT, Int.reduceLE, s_shl, s_shr, Bool.not_false, Bool.not_true, Bool.and_self, Bool.true_and, Bool.and_true, Bool.and_false, Bool.false_and, Bool.not_true, Bool.true_or, Bool.or_true, Nat.reduceSub, Nat.reduceLeDiff, Nat.reduceMul, Int.reduceToNat, Int.reduceLT, Int.reduceEq, Int.reduceNeg, and_self, and_true, true_and, and_false, false_and, or_true, true_or, or_false, false_or, Int.cast_ofNat_Int, Nat.reduceBEq, Nat.reduceBNe, beq_self_eq_true, List.take_zero, List.take_succ_cons, List.take_nil]

/-! ## What holds of an index that was added to -/
def GapS (k : Int) : List En → Prop
  | [] => True
  | [_] => True
  | e :: e' :: l => (e.1 < e'.1 ∧ e'.2 - e.2 ≥ k) ∧ GapS k (e' :: l)
theorem GapS.snoc {k : Int} : ∀ {l : List En} {e : En}, GapS k l → (∀ q, l.getLast? = some q → q.1 < e.1 ∧ e.2 - q.2 ≥ k) → GapS k (l ++ [e])
  | [], e, _, _ => trivial
  | [q], e, _, h => ⟨h q rfl, trivial⟩
  | q :: q' :: l, e, hg, h => ⟨hg.1, GapS.snoc (l := q' :: l) hg.2 fun x hx => h x (by simpa [List.getLast?_cons_cons] using hx)⟩
theorem GapS.tail {k : Int} {e : En} {l : List En} (h : GapS k (e :: l)) : GapS k l := by
  cases l with
  | nil => trivial
  | cons e' l => exact h.2
theorem GapS.rise {k : Int} (hk : 1 ≤ k) : ∀ {l : List En} {e : En}, GapS k (e :: l) → ∀ e' ∈ l, e.1 < e'.1 ∧ e.2 + k ≤ e'.2
  | [], _, _, _, h => by simp at h
  | q :: l, e, hg, e', he => by
    rcases List.mem_cons.1 he with rfl | he
    · exact ⟨hg.1.1, by have := hg.1.2; omega⟩
    · have := GapS.rise hk hg.2 e' he
      have h1 := hg.1
      omega
theorem GapS.srt {k : Int} (hk : 1 ≤ k) : ∀ {l : List En}, GapS k l → Srt l
  | [], _ => trivial
  | e :: l, h => ⟨fun e' he => (GapS.rise hk h e' he).1, GapS.srt hk h.tail⟩
theorem lastE_ents (l : List Ad) : (lastE l).map (fun a => (a.off, a.at_)) = (ents l).getLast? := by
  have key : ∀ (n : Nat) (l : List Ad), l.length = n → (lastE l).map (fun a => (a.off, a.at_)) = (ents l).getLast? := by
    intro n
    induction n with
    | zero => intro l h; rw [List.length_eq_zero_iff.1 h]; rfl
    | succ n ih =>
      intro l h
      obtain ⟨r, a, rfl⟩ : ∃ r a, l = r ++ [a] := by
        rcases List.eq_nil_or_concat l with h' | ⟨s, x, h'⟩
        · subst h'; cases h
        · exact ⟨s, x, by simpa using h'⟩
      rw [lastE_snoc, ents_app, ents_cons]
      cases a.entry with
      | true => simp [ents]
      | false => rw [if_neg (by decide), if_neg (by decide), ih r (by simpa using h)]; simp [ents]
  exact key _ l rfl
structure IxInv (x : Ix) (ho he : Int) : Prop where
  bo : ∀ a ∈ x.l, a.off < ho
  be : ∀ a ∈ x.l, 0 ≤ a.at_ ∧ a.at_ < a.end_ ∧ a.end_ ≤ he
  gap : GapS x.every (ents x.l)
  ne : x.l ≠ [] → ents x.l ≠ []
theorem IxInv.nil (b e ho he : Int) : IxInv ⟨b, e, []⟩ ho he := ⟨by simp, by simp, trivial, fun h => absurd rfl h⟩
theorem lastE_mem : ∀ {l : List Ad} {e : Ad}, lastE l = some e → e ∈ l
  | a :: l, e, h => by
    rw [lastE] at h
    cases hl : lastE l with
    | some b => rw [hl] at h; cases h; exact List.mem_cons_of_mem _ (lastE_mem hl)
    | none =>
      rw [hl] at h
      simp only at h
      split at h
      · cases h; simp
      · cases h
theorem IxInv.add {x : Ix} {ho he o a s : Int} (h : IxInv x ho he) (h1 : ho ≤ o) (h2 : he ≤ a) (h3 : 0 ≤ a) (h4 : 1 ≤ s) (h5 : a + s ≤ 4611686018427387904) (h6 : x.base ≤ o) :
    addOK x o a s = true ∧ IxInv (addI x o a s) (o + 1) (a + s) := by
  have hw : IntKind.i64.wrap (a + s) = a + s := wrap_id (by unfold I64; omega)
  constructor
  · unfold addOK
    have c1 : ¬ o < x.base := by omega
    have c2 : ¬ a < 0 := by omega
    have c3 : ¬ s < 1 := by omega
    simp only [c1, c2, c3, not_false_eq_true, decide_true, Bool.true_and]
    cases hq : x.l.getLast? with
    | none => rfl
    | some q =>
      have hm := List.mem_of_getLast? hq
      have := h.bo q hm
      have := h.be q hm
      simp; omega
  · refine ⟨?_, ?_, ?_, ?_⟩
    · intro b hb
      rcases List.mem_append.1 hb with hb | hb
      · have := h.bo b hb; omega
      · rw [List.mem_singleton] at hb; subst hb; simp only; omega
    · intro b hb
      rcases List.mem_append.1 hb with hb | hb
      · have := h.be b hb; omega
      · rw [List.mem_singleton] at hb; subst hb; simp only [hw]; omega
    · show GapS x.every (ents (x.l ++ [_]))
      rw [ents_app, ents_cons]
      simp only [show ents [] = [] from rfl, List.append_nil]
      cases hE : addE x a with
      | false => simpa using h.gap
      | true =>
        rw [if_pos rfl]
        refine h.gap.snoc fun q hq => ?_
        rw [← lastE_ents] at hq
        obtain ⟨e, he', rfl⟩ := Option.map_eq_some_iff.1 hq
        have hm := lastE_mem he'
        have b1 := h.bo e hm
        have b2 := h.be e hm
        unfold addE at hE
        rw [he'] at hE
        simp only [decide_eq_true_eq] at hE
        rw [wrap_id (by unfold I64; omega)] at hE
        exact ⟨by simp only; omega, by simp only; omega⟩
    · intro _
      show ents (x.l ++ [_]) ≠ []
      rw [ents_app, ents_cons]
      by_cases hx : x.l = []
      · have : addE x a = true := by unfold addE; rw [hx]; rfl
        rw [this]; simp
      · intro hh
        exact h.ne hx (List.append_eq_nil_iff.1 hh).1
theorem IxInv.I64 {x : Ix} {ho he : Int} (h : IxInv x ho he) (hh : he ≤ 4611686018427387904) : ∀ a ∈ x.l, Go.Abs.I64 a.at_ := fun a ha => by
  have := h.be a ha
  unfold Go.Abs.I64; omega
/-- A greater offset is found no earlier. -/
theorem findP_mono {k : Int} (hk : 1 ≤ k) (p q : Int) (hpq : p ≤ q) : ∀ (E : List En) (a : Int), GapS k E → (∀ e ∈ E, a ≤ e.2) → findP E p a ≤ findP E q a
  | [], a, _, _ => Int.le_refl _
  | e :: E, a, hg, ha => by
    have he := ha e (by simp)
    have hr := GapS.rise hk hg
    rw [findP, findP]
    by_cases c : e.1 ≤ p
    · rw [if_pos c, if_pos (by omega)]
      exact findP_mono hk p q hpq E e.2 hg.tail fun e' h' => by have := hr e' h'; omega
    · rw [if_neg c]
      have : findP E p a = a := findP_gt p E a fun e' h' => by have := hr e' h'; omega
      rw [this]
      have low : ∀ (E : List En) (b : Int), (∀ e ∈ E, a ≤ e.2) → a ≤ b → a ≤ findP E q b := by
        intro E
        induction E with
        | nil => intro b _ hb; exact hb
        | cons e E ih =>
          intro b h1 hb
          rw [findP]
          exact ih _ (fun e' h' => h1 e' (List.mem_cons_of_mem _ h')) (by have := h1 e (by simp); split <;> omega)
      exact low E _ (fun e' h' => ha e' (List.mem_cons_of_mem _ h')) (by split <;> omega)
end Go.Abs
