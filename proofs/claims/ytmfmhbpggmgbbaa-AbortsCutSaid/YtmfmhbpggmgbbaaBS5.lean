import Derived.Test.YtmfmhbpggmgbbaaBS4
import Derived.Test.YtmfmhbpggmgbbaaB0
namespace Go.Abs
open Go Go.RowKit
set_option linter.unusedVariables false
set_option linter.unusedSimpArgs false
theorem tbl_new_spec (H : Heap) : W n_table_New [] H = some (.ptr (pt H 1) 0, hx H [.map [], .cells [.map (some (pt H 0))]]) := by
  refine W_fnS rfl rfl ?_
  have f1 : ∀ k, fillN [AVal.map none] [(0, 1)] [AVal.map (some k)] = some [AVal.map (some k)] := fun k => rfl
  simp only [go_sem, c_table_New, f1, hx_len, hx_app, reduceCtorEq, ↓reduceIte, Nat.reduceAdd, Nat.reduceEqDiff, Nat.reduceLT, Int.reduceLE, Nat.reduceSub, Nat.reduceLeDiff, Nat.reduceMul, Int.reduceToNat, Int.reduceLT, Int.reduceEq, Int.reduceNeg, Nat.reduceBEq, Nat.reduceBNe]
  first | done | rfl

/-- Producers as they are kept: five batches at most. -/
structure MK (M : List Pr) : Prop where
  last : ∀ p ∈ M, p.last.length ≤ 5
theorem setM_mem {M : List Pr} {x p : Pr} (h : p ∈ setM M x) : p ∈ M ∨ p = x := by
  unfold setM at h
  split at h
  · rcases List.mem_or_eq_of_mem_set h with h | h
    · exact .inl h
    · exact .inr h
  · simp only [List.mem_append, List.mem_singleton] at h; exact h
theorem MK.next {M} (h : MK M) (b : Ba) : MK (stepM M b) := by
  unfold stepM
  split
  · exact h
  · refine ⟨fun p hp => ?_⟩
    rcases setM_mem hp with hp | rfl
    · exact h.last p hp
    · refine apply_last _ _ _ ?_
      cases hg : getM b.prod M with
      | none => simp [zeroPr]
      | some q => exact h.last q (getM_mem hg)

/-! ## A row that its own methods write in place -/
abbrev rwB (l : List La) (fl : Fl) : Box := .cells [.list 3 (l.map laV) fl]
abbrev RF (l : List La) (fl : Fl) : Prop := fl = .uniq ∨ (fl = .full ∧ l = [])
theorem thC {l : List La} {fl : Fl} (hf : RF l fl) {i : Nat} {H : Heap} (hi : Old H i (rwB l fl)) (e : Env) (N : Heap) (h0 : Env.get e 0 = .ptr i 0) :
    agh (.thawC 0 0) e (hx H N) = some (e, hx (H.set i (.cells [.lbox (pt H N.length)])) (N ++ [.arr 3 (l.map laV)])) := by
  have g := hi.get N
  have s := hi.set N
  have hl : (hx H N).length = pt H N.length := hx_len H N
  rcases hf with rfl | ⟨rfl, rfl⟩
  · simp only [agh, h0, g, Nat.add_zero, List.getElem?_cons_zero, List.set_cons_zero, s, hl, hx_app]
  · simp only [agh, h0, g, Nat.add_zero, List.getElem?_cons_zero, List.set_cons_zero, s, hl, hx_app, List.map_nil]
theorem bkC0 {H : Heap} {i : Nat} {B : Box} (hi : Old H i B) (Xs : List AVal) (e : Env) (N : Heap) (h0 : Env.get e 0 = .ptr i 0) :
    agh (.backC 0 0) e (hx (H.set i (.cells [.lbox (pt H 0)])) (.arr 3 Xs :: N)) = some (e, hx (H.set i (.cells [.list 3 Xs .uniq])) (.dead :: N)) := by
  have g := hi.get' (.arr 3 Xs :: N) (.cells [.lbox (pt H 0)])
  have s := fun B' => hi.set' (.arr 3 Xs :: N) (.cells [.lbox (pt H 0)]) B'
  have g2 : (hx (H.set i (.cells [.lbox (pt H 0)])) (.arr 3 Xs :: N))[pt H 0]? = some (.arr 3 Xs) := by rw [hx_getS]; rfl
  simp only [agh, h0, g, Nat.add_zero, List.getElem?_cons_zero, List.set_cons_zero, g2, s, hx_setS]
theorem bkC1 {H : Heap} {i : Nat} {B : Box} (hi : Old H i B) (Xs : List AVal) (e : Env) (C : Box) (N : Heap) (h0 : Env.get e 0 = .ptr i 0) :
    agh (.backC 0 0) e (hx (H.set i (.cells [.lbox (pt H 1)])) (C :: .arr 3 Xs :: N)) = some (e, hx (H.set i (.cells [.list 3 Xs .uniq])) (C :: .dead :: N)) := by
  have g := hi.get' (C :: .arr 3 Xs :: N) (.cells [.lbox (pt H 1)])
  have s := fun B' => hi.set' (C :: .arr 3 Xs :: N) (.cells [.lbox (pt H 1)]) B'
  have g2 : (hx (H.set i (.cells [.lbox (pt H 1)])) (C :: .arr 3 Xs :: N))[pt H 1]? = some (.arr 3 Xs) := by rw [hx_getS]; rfl
  simp only [agh, h0, g, Nat.add_zero, List.getElem?_cons_zero, List.set_cons_zero, g2, s, hx_setS, List.set_cons_succ]
theorem apV (sz bytes xs ys) : evAppend sz bytes true (.list sz xs .uniq) ys = gd (decide ((xs.length + ys.length) * bytes ≤ maxBytes)) (some (.list sz (xs ++ ys) .uniq)) := by
  unfold gd; by_cases h : (xs.length + ys.length) * bytes ≤ maxBytes <;> simp [evAppend, h]
theorem abnew_spec (H : Heap) : W n_aborts_New [] H = some (.ptr (pt H 0) 0, hx H [.cells [.list 3 [] .full]]) := by
  refine W_fnS rfl rfl ?_
  simp only [go_sem, c_aborts_New, reduceCtorEq, ↓reduceIte, Nat.reduceAdd, Nat.reduceEqDiff, Nat.reduceLT, Int.reduceLE, Nat.reduceSub, Nat.reduceLeDiff, Nat.reduceMul, Int.reduceToNat, Int.reduceLT, Int.reduceEq, Int.reduceNeg, Nat.reduceBEq, Nat.reduceBNe]
  first | done | rfl
def abOK (l : List La) (d : La) : Bool :=
  decide (¬ d.1 < 0) && (decide (¬ d.2.1 < 0) && (decide (¬ d.2.2 ≤ d.2.1) && (decide (¬ d.2.2 > 1099511627776) && (match l.getLast? with | none => true | some q => decide (¬ d.2.2 ≤ q.2.2)))))
def abL (l : List La) (d : La) : List La := if abOK l d = true then l ++ [d] else l
theorem abL_len {l d} : (abL l d).length ≤ l.length + 1 := by unfold abL; split <;> simp
/-- Turned away ahead of the row: the row stays as it stands. -/
def abPre (d : La) : Bool := decide (d.1 < 0) || (decide (d.2.1 < 0) || (decide (d.2.2 ≤ d.2.1) || decide (d.2.2 > 1099511627776)))
def abF (d : La) (fl : Fl) : Fl := if abPre d = true then fl else .uniq
theorem abPre_no {l d} (h : abPre d = true) : abOK l d = false := by
  unfold abPre at h
  simp only [Bool.or_eq_true, decide_eq_true_eq] at h
  unfold abOK
  rcases h with h | h | h | h <;> simp [h]
theorem abF_ok {l d fl} (h : RF l fl) : RF (abL l d) (abF d fl) := by
  unfold abF
  split
  · rename_i hp
    unfold abL
    rw [abPre_no hp, if_neg (by decide)]
    exact h
  · exact .inl rfl
theorem abadd_spec (l : List La) (hn : l.length ≤ 1000000000000) (fl : Fl) (hfl : RF l fl) (d : La) (i : Nat) (H : Heap) (hi : Old H i (rwB l fl)) :
    W n_aborts_Row_Add [.ptr i 0, laV d] H = some (.bool (abOK l d), H.set i (rwB (abL l d) (abF d fl))) := by
  have hthC := thC hfl hi
  have hbk := bkC1 hi (l.map laV)
  have gs := hi.set
  have gi' := hi.get'
  have gs' := hi.set'
  have u := fun n => under_la n l
  obtain ⟨d1, d2, d3⟩ := d
  have hpre : abPre (d1, d2, d3) = true → W n_aborts_Row_Add [.ptr i 0, laV (d1, d2, d3)] H = some (.bool false, H) → W n_aborts_Row_Add [.ptr i 0, laV (d1, d2, d3)] H = some (.bool (abOK l (d1, d2, d3)), H.set i (rwB (abL l (d1, d2, d3)) (abF (d1, d2, d3) fl))) := by
    intro h0 h1
    unfold abL abF
    rw [h0, abPre_no h0, if_neg (by decide), if_pos rfl, hi.same]; exact h1
  by_cases c1 : d1 < 0
  · refine hpre (by simp [abPre, c1]) ?_
    unfold laV
    refine W_fn rfl rfl ?_
    simp only [go_sem, c_aborts_Row_Add, c1, reduceCtorEq, ↓reduceIte, Nat.reduceAdd, Nat.reduceEqDiff, Nat.reduceLT, Int.reduceLE, Nat.reduceSub, Nat.reduceLeDiff, Nat.reduceMul, Int.reduceToNat, Int.reduceLT, Int.reduceEq, Int.reduceNeg, Nat.reduceBEq, Nat.reduceBNe]
  by_cases c2 : d2 < 0
  · refine hpre (by simp [abPre, c2]) ?_
    unfold laV
    refine W_fn rfl rfl ?_
    simp only [go_sem, c_aborts_Row_Add, c1, c2, reduceCtorEq, ↓reduceIte, Nat.reduceAdd, Nat.reduceEqDiff, Nat.reduceLT, Int.reduceLE, Nat.reduceSub, Nat.reduceLeDiff, Nat.reduceMul, Int.reduceToNat, Int.reduceLT, Int.reduceEq, Int.reduceNeg, Nat.reduceBEq, Nat.reduceBNe]
  by_cases c3 : d3 ≤ d2
  · refine hpre (by simp [abPre, c3]) ?_
    unfold laV
    refine W_fn rfl rfl ?_
    simp only [go_sem, c_aborts_Row_Add, c1, c2, c3, reduceCtorEq, ↓reduceIte, Nat.reduceAdd, Nat.reduceEqDiff, Nat.reduceLT, Int.reduceLE, Nat.reduceSub, Nat.reduceLeDiff, Nat.reduceMul, Int.reduceToNat, Int.reduceLT, Int.reduceEq, Int.reduceNeg, Nat.reduceBEq, Nat.reduceBNe]
  by_cases c4 : d3 > 1099511627776
  · refine hpre (by simp [abPre, c4]) ?_
    unfold laV
    refine W_fn rfl rfl ?_
    simp only [go_sem, c_aborts_Row_Add, c1, c2, c3, c4, reduceCtorEq, ↓reduceIte, Nat.reduceAdd, Nat.reduceEqDiff, Nat.reduceLT, Int.reduceLE, Nat.reduceSub, Nat.reduceLeDiff, Nat.reduceMul, Int.reduceToNat, Int.reduceLT, Int.reduceEq, Int.reduceNeg, Nat.reduceBEq, Nat.reduceBNe]
  have hF : abF (d1, d2, d3) fl = .uniq := by unfold abF; rw [if_neg (by simp [abPre]; omega)]
  have b1 : (l.length + 1) * 24 ≤ maxBytes := by simp only [maxBytes]; omega
  have b0 : (0 + 1) * 24 ≤ maxBytes := by decide
  rw [hF]
  rcases List.eq_nil_or_concat l with h0 | ⟨l', q, h0⟩
  · have hk : abOK l (d1, d2, d3) = true := by simp [abOK, h0, c1, c2, c3, c4]
    unfold abL
    rw [hk, if_pos rfl]
    have hpos : ¬ ((0 : Int) > 0) := by decide
    subst h0
    simp only [List.map_nil] at hthC hbk
    show W n_aborts_Row_Add [.ptr i 0, .agg [.int .i64 d1, .int .i64 d2, .int .i64 d3]] H = _
    refine W_fnS rfl rfl ?_
    simp only [go_sem, c_aborts_Row_Add, hthC, hbk, gs, gi', gs', pt_set, hx_getS, hx_setS, c1, c2, c3, c4, hpos, List.length_nil, Int.natCast_zero, List.nil_append, List.map_nil, List.map_cons, b0, apV, reduceCtorEq, ↓reduceIte, Nat.reduceAdd, Nat.reduceEqDiff, Nat.reduceLT, Int.reduceLE, Nat.reduceSub, Nat.reduceLeDiff, Nat.reduceMul, Int.reduceToNat, Int.reduceLT, Int.reduceEq, Int.reduceNeg, Nat.reduceBEq, Nat.reduceBNe]
    rfl
  · rw [List.concat_eq_append] at h0
    have hln : l.length = l'.length + 1 := by rw [h0]; simp
    have hpos : (l.length : Int) > 0 := by omega
    have w1 : IntKind.i64.wrap ((l.length : Int) - 1) = ((l'.length : Nat) : Int) := by rw [wrap_id (by unfold I64; omega)]; omega
    have e0 : (0 : Int) ≤ ((l'.length : Nat) : Int) := by omega
    have e2 : ((l'.length : Nat) : Int) < (l.length : Int) := by omega
    have e7 : ((l'.length : Nat) : Int).toNat = l'.length := by omega
    have e1 : (l.map laV)[l'.length]? = some (.agg [.int .i64 q.1, .int .i64 q.2.1, .int .i64 q.2.2]) := by rw [h0]; simp [laV]
    by_cases c5 : d3 ≤ q.2.2
    · have hk : abOK l (d1, d2, d3) = false := by simp [abOK, h0, c5]
      unfold abL
      rw [hk, if_neg (by decide)]
      show W n_aborts_Row_Add [.ptr i 0, .agg [.int .i64 d1, .int .i64 d2, .int .i64 d3]] H = _
      refine W_fnS rfl rfl ?_
      simp only [go_sem, c_aborts_Row_Add, hthC, hbk, gs, gi', gs', pt_set, hx_getS, hx_setS, c1, c2, c3, c4, List.length_map, hpos, w1, e0, e2, e7, e1, c5, u, reduceCtorEq, ↓reduceIte, Nat.reduceAdd, Nat.reduceEqDiff, Nat.reduceLT, Int.reduceLE, Nat.reduceSub, Nat.reduceLeDiff, Nat.reduceMul, Int.reduceToNat, Int.reduceLT, Int.reduceEq, Int.reduceNeg, Nat.reduceBEq, Nat.reduceBNe]
      first | done | rfl
    · have hk : abOK l (d1, d2, d3) = true := by simp [abOK, h0, c1, c2, c3, c4, c5]
      unfold abL
      rw [hk, if_pos rfl]
      have a1 : l.map laV ++ [.agg [.int .i64 d1, .int .i64 d2, .int .i64 d3]] = (l ++ [(d1, d2, d3)]).map laV := by simp [laV]
      have u2 := fun n => under_la n (l ++ [(d1, d2, d3)])
      generalize l ++ [(d1, d2, d3)] = l2 at *
      show W n_aborts_Row_Add [.ptr i 0, .agg [.int .i64 d1, .int .i64 d2, .int .i64 d3]] H = _
      refine W_fnS rfl rfl ?_
      simp only [go_sem, c_aborts_Row_Add, hthC, hbk, gs, gi', gs', pt_set, hx_getS, hx_setS, c1, c2, c3, c4, List.length_map, hpos, w1, e0, e2, e7, e1, c5, b1, apV, a1, u, u2, reduceCtorEq, ↓reduceIte, Nat.reduceAdd, Nat.reduceEqDiff, Nat.reduceLT, Int.reduceLE, Nat.reduceSub, Nat.reduceLeDiff, Nat.reduceMul, Int.reduceToNat, Int.reduceLT, Int.reduceEq, Int.reduceNeg, Nat.reduceBEq, Nat.reduceBNe]
      first | done | rfl
end Go.Abs

namespace Go.Abs
open Go Go.RowKit
set_option linter.unusedVariables false
set_option linter.unusedSimpArgs false

def abOf : List Ba → List Pr → List La → List La
  | [], _, l => l
  | b :: bs, M, l => abOf bs (stepM M b) (match stepD M b with | some d => abL l d | none => l)
set_option maxHeartbeats 1000000 in
theorem abof_loop (A : List Ba) (hA : ∀ b ∈ A, BOK b) (hR : ∀ b ∈ A, b.recs.length ≤ 1000) (hn : A.length ≤ 1000) (H : Heap) (r : List Ba) : ∀ (q : List Ba) (M : List Pr) (l : List La) (fl : Fl) (N : Heap), A = q ++ r → MK M → l.length ≤ q.length → RF l fl →
    ∃ N' fl', loopA W loopW (.ghost (.kill k_aborts_Of_0) l_aborts_Of_0) [(3, .ptr (pt H 0) 0), (4, .ptr (pt H 2) 0), (11, .list 7 (A.map Ba.V) .ro), (12, .int .i64 (A.length : Nat)), (13, .int .i64 (q.length : Nat))] (hx H (rwB l fl :: mapB M :: tblB (pt H 1) :: N)) =
      some (.exit 0, [(3, .ptr (pt H 0) 0)], hx H (rwB (abOf r M l) fl' :: N')) ∧ RF (abOf r M l) fl' ∧ (abOf r M l).length ≤ A.length := by
  induction r with
  | nil =>
    intro q M l fl N hq hM hl hfl
    rw [List.append_nil] at hq
    subst hq
    refine ⟨mapB M :: tblB (pt H 1) :: N, fl, ?_, hfl, hl⟩
    have h1 : ¬ ((A.length : Int) < (A.length : Int)) := by omega
    rw [show abOf [] M l = l from rfl]
    refine loop_step l_aborts_Of_0.eq_1 k_aborts_Of_0.eq_1 (by kernel_rfl) ?_
    simp only [go_sem, h1, reduceCtorEq, ↓reduceIte, Nat.reduceAdd, Nat.reduceEqDiff, Nat.reduceLT, Int.reduceLE, Nat.reduceSub, Nat.reduceLeDiff, Nat.reduceMul, Int.reduceToNat, Int.reduceLT, Int.reduceEq, Int.reduceNeg, Nat.reduceBEq, Nat.reduceBNe]
  | cons b r ih =>
    intro q M l fl N hq hM hl hfl
    have hlen : q.length < A.length := by rw [hq]; simp
    have h1 : ((q.length : Int) < (A.length : Int)) := by omega
    have e0 : (0 : Int) ≤ (q.length : Int) := by omega
    have e7 : ((q.length : Nat) : Int).toNat = q.length := by omega
    have e1 : (A.map Ba.V)[q.length]? = some (.agg [.int .i64 b.base, .int .i64 b.prod, .int .i64 b.epoch, .int .i64 b.seq, .bool b.txn, .int .i64 b.mark, .list 2 (b.recs.map rcV) .ro]) := by rw [hq]; simp [Ba.V, Ba.cs]
    have e6 : IntKind.i64.wrap ((q.length : Int) + 1) = ((q.length + 1 : Nat) : Int) := by rw [wrap_id (by unfold I64; omega)]; omega
    have hbo := hA b (by rw [hq]; simp)
    have hbr := hR b (by rw [hq]; simp)
    have ta := fun N => tbl_apply_spec M (fun p hp => by have := hM.last p hp; omega) b hbo hbr (pt H 2) (pt H 1) (hx H (rwB l fl :: mapB M :: tblB (pt H 1) :: N)) ⟨by rw [hx_get]; rfl⟩ ⟨by rw [hx_get]; rfl⟩
    simp only [hx_set, List.set_cons_succ, List.set_cons_zero] at ta
    have n1 : ∀ x : Box, (N ++ [x])[N.length]? = some x := fun x => by simp
    have n2 : ∀ x z : Box, (N ++ [x]).set N.length z = N ++ [z] := fun x z => by simp
    have hab : abOf (b :: r) M l = abOf r (stepM M b) (match stepD M b with | some d => abL l d | none => l) := rfl
    rw [hab]
    cases hd : stepD M b with
    | none =>
      simp only
      obtain ⟨N', fl', h2, h3, h4⟩ := ih (q ++ [b]) (stepM M b) l fl (N ++ [.cells b.cs, .cells [.int .i64 0, .int .i64 0, .int .i64 0]]) (by rw [hq]; simp) (hM.next b) (by simp; omega) hfl
      refine ⟨N', fl', ?_, h3, h4⟩
      rw [hd] at ta
      simp only [List.length_append, List.length_cons, List.length_nil, Nat.zero_add] at h2
      simp only [optLa, Option.isSome_none, laV] at ta
      generalize stepM M b = M2 at *
      unfold Ba.V Ba.cs at *
      refine loop_step l_aborts_Of_0.eq_1 k_aborts_Of_0.eq_1 (by kernel_rfl) ?_
      simp only [go_sem, h1, e0, e7, e1, ta, n1, n2, e6, List.length_append, reduceCtorEq, ↓reduceIte, Nat.reduceAdd, Nat.reduceEqDiff, Nat.reduceLT, Int.reduceLE, Nat.reduceSub, Nat.reduceLeDiff, Nat.reduceMul, Int.reduceToNat, Int.reduceLT, Int.reduceEq, Int.reduceNeg, Nat.reduceBEq, Nat.reduceBNe]
      exact h2
    | some d =>
      simp only
      obtain ⟨N', fl', h2, h3, h4⟩ := ih (q ++ [b]) (stepM M b) (abL l d) (abF d fl) (N ++ [.cells b.cs, .cells [.int .i64 d.1, .int .i64 d.2.1, .int .i64 d.2.2]]) (by rw [hq]; simp) (hM.next b) (by have := @abL_len l d; simp; omega) (abF_ok hfl)
      refine ⟨N', fl', ?_, h3, h4⟩
      rw [hd] at ta
      simp only [List.length_append, List.length_cons, List.length_nil, Nat.zero_add] at h2
      have tb := fun M2 N => abadd_spec l (by omega) fl hfl d (pt H 0) (hx H (rwB l fl :: M2 :: N)) ⟨by rw [hx_get]; rfl⟩
      simp only [hx_set, List.set_cons_zero, laV] at tb
      simp only [optLa, Option.isSome_some, laV] at ta
      generalize stepM M b = M2 at *
      generalize abL l d = l2 at *
      generalize abF d fl = f2 at *
      generalize abOK l d = ok at *
      unfold Ba.V Ba.cs at *
      refine loop_step l_aborts_Of_0.eq_1 k_aborts_Of_0.eq_1 (by kernel_rfl) ?_
      simp only [go_sem, h1, e0, e7, e1, ta, tb, n1, n2, e6, List.length_append, reduceCtorEq, ↓reduceIte, Nat.reduceAdd, Nat.reduceEqDiff, Nat.reduceLT, Int.reduceLE, Nat.reduceSub, Nat.reduceLeDiff, Nat.reduceMul, Int.reduceToNat, Int.reduceLT, Int.reduceEq, Int.reduceNeg, Nat.reduceBEq, Nat.reduceBNe]
      exact h2
theorem abof_spec (A : List Ba) (hA : ∀ b ∈ A, BOK b) (hR : ∀ b ∈ A, b.recs.length ≤ 1000) (hn : A.length ≤ 1000) (H : Heap) :
    ∃ N fl, W n_aborts_Of [.list 7 (A.map Ba.V) .ro] H = some (.ptr (pt H 0) 0, hx H (rwB (abOf A [] []) fl :: N)) ∧ RF (abOf A [] []) fl ∧ (abOf A [] []).length ≤ A.length := by
  obtain ⟨N, fl, h, h3, h4⟩ := abof_loop A hA hR hn H A [] [] [] .full [] rfl ⟨by simp⟩ (by simp) (.inr ⟨rfl, rfl⟩)
  refine ⟨N, fl, W_fnS rfl rfl ?_, h3, h4⟩
  have g0 : ((([] : List Ba).length : Nat) : Int) = 0 := rfl
  rw [g0] at h
  have ta := abnew_spec (hx H [])
  have tn := fun L => tbl_new_spec (hx H L)
  simp only [rwB, mapB, List.map_nil] at h
  generalize abOf A [] [] = R at *
  simp only [go_sem, c_aborts_Of, List.length_map, ta, tn, h, reduceCtorEq, ↓reduceIte, Nat.reduceAdd, Nat.reduceEqDiff, Nat.reduceLT, Int.reduceLE, Nat.reduceSub, Nat.reduceLeDiff, Nat.reduceMul, Int.reduceToNat, Int.reduceLT, Int.reduceEq, Int.reduceNeg, Nat.reduceBEq, Nat.reduceBNe]
  first | done | rfl

/-! ## Within, All, Dropped -/
def inR (lo hi : Int) (d : La) : Bool := decide (mx d.2.1 lo ≤ d.2.2) && decide (mx d.2.1 lo < hi)
theorem within_loop (l : List La) (hn : l.length ≤ 100000) (lo hi : Int) (i : Nat) (H : Heap) (r : List La) : ∀ (p out : List La) (fl : Fl) (N : Heap), l = p ++ r → out.length ≤ p.length → (fl = .own ∨ (fl = .full ∧ out = [])) →
    ∃ N' fl', loopA W loopW (.ghost (.kill k_aborts_Row_Within_0) l_aborts_Row_Within_0) [(0, .ptr i 0), (1, .int .i64 lo), (2, .int .i64 hi), (7, .list 3 (out.map laV) fl), (13, .lbox (pt H 0)), (14, .int .i64 (l.length : Nat)), (15, .int .i64 (p.length : Nat))] (hx H (.arr 3 (l.map laV) :: N)) =
      some (.exit 0, [(0, .ptr i 0), (7, .list 3 ((out ++ r.filter (inR lo hi)).map laV) fl')], hx H (.arr 3 (l.map laV) :: N')) ∧ (fl' = .own ∨ (fl' = .full ∧ out ++ r.filter (inR lo hi) = [])) := by
  induction r with
  | nil =>
    intro p out fl N hp ho hfl
    rw [List.append_nil] at hp
    subst hp
    rw [List.filter_nil, List.append_nil]
    refine ⟨N, fl, ?_, hfl⟩
    have h1 : ¬ ((l.length : Int) < (l.length : Int)) := by omega
    refine loop_step l_aborts_Row_Within_0.eq_1 k_aborts_Row_Within_0.eq_1 (by kernel_rfl) ?_
    simp only [go_sem, h1, reduceCtorEq, ↓reduceIte, Nat.reduceAdd, Nat.reduceEqDiff, Nat.reduceLT, Int.reduceLE, Nat.reduceSub, Nat.reduceLeDiff, Nat.reduceMul, Int.reduceToNat, Int.reduceLT, Int.reduceEq, Int.reduceNeg, Nat.reduceBEq, Nat.reduceBNe]
  | cons d r ih =>
    intro p out fl N hp ho hfl
    have hlen : l.length = p.length + (r.length + 1) := by rw [hp]; simp
    have h1 : ((p.length : Int) < (l.length : Int)) := by omega
    have e0 : (0 : Int) ≤ (p.length : Int) := by omega
    have e7 : ((p.length : Nat) : Int).toNat = p.length := by omega
    have e1 : (l.map laV)[p.length]? = some (.agg [.int .i64 d.1, .int .i64 d.2.1, .int .i64 d.2.2]) := by rw [hp]; simp [laV]
    have e6 : IntKind.i64.wrap ((p.length : Int) + 1) = ((p.length + 1 : Nat) : Int) := by rw [wrap_id (by unfold I64; omega)]; omega
    have n1 : ∀ x : Box, (N ++ [x])[N.length]? = some x := fun x => by simp
    have n2 : ∀ x z : Box, (N ++ [x]).set N.length z = N ++ [z] := fun x z => by simp
    have bb : (out.length + 1) * 24 ≤ maxBytes := by simp only [maxBytes]; omega
    have b0 : (0 + 1) * 24 ≤ maxBytes := by decide
    have e8 : out.map laV ++ [.agg [.int .i64 d.1, .int .i64 d.2.1, .int .i64 d.2.2]] = (out ++ [d]).map laV := by simp [laV]
    rw [List.filter_cons]
    by_cases c1 : mx d.2.1 lo ≤ d.2.2
    · by_cases c2 : mx d.2.1 lo < hi
      · have hk : inR lo hi d = true := by simp [inR, c1, c2]
        rw [hk, if_pos rfl]
        obtain ⟨N', fl', h2, h3⟩ := ih (p ++ [d]) (out ++ [d]) .own (N ++ [.cells [.int .i64 d.1, .int .i64 d.2.1, .int .i64 d.2.2]]) (by rw [hp]; simp) (by simp; omega) (.inl rfl)
        rw [List.append_assoc, List.cons_append, List.nil_append] at h2 h3
        simp only [List.length_append, List.length_cons, List.length_nil, Nat.zero_add] at h2
        refine ⟨N', fl', ?_, h3⟩
        refine loop_step l_aborts_Row_Within_0.eq_1 k_aborts_Row_Within_0.eq_1 (by kernel_rfl) ?_
        rcases hfl with rfl | ⟨rfl, rfl⟩
        · simp only [go_sem, h1, e0, e7, e1, n1, n2, c1, c2, List.length_map, apO, bb, e8, e6, reduceCtorEq, ↓reduceIte, Nat.reduceAdd, Nat.reduceEqDiff, Nat.reduceLT, Int.reduceLE, Nat.reduceSub, Nat.reduceLeDiff, Nat.reduceMul, Int.reduceToNat, Int.reduceLT, Int.reduceEq, Int.reduceNeg, Nat.reduceBEq, Nat.reduceBNe]
          exact h2
        · simp only [List.map_nil, List.nil_append] at *
          simp only [go_sem, h1, e0, e7, e1, n1, n2, c1, c2, List.length_map, List.length_nil, apF, b0, List.nil_append, e6, reduceCtorEq, ↓reduceIte, Nat.reduceAdd, Nat.reduceEqDiff, Nat.reduceLT, Int.reduceLE, Nat.reduceSub, Nat.reduceLeDiff, Nat.reduceMul, Int.reduceToNat, Int.reduceLT, Int.reduceEq, Int.reduceNeg, Nat.reduceBEq, Nat.reduceBNe]
          rw [e8]
          exact h2
      · have hk : inR lo hi d = false := by simp [inR, c2]
        rw [hk, if_neg (by decide)]
        obtain ⟨N', fl', h2, h3⟩ := ih (p ++ [d]) out fl (N ++ [.cells [.int .i64 d.1, .int .i64 d.2.1, .int .i64 d.2.2]]) (by rw [hp]; simp) (by simp; omega) hfl
        simp only [List.length_append, List.length_cons, List.length_nil, Nat.zero_add] at h2
        refine ⟨N', fl', ?_, h3⟩
        refine loop_step l_aborts_Row_Within_0.eq_1 k_aborts_Row_Within_0.eq_1 (by kernel_rfl) ?_
        simp only [go_sem, h1, e0, e7, e1, n1, n2, c1, c2, List.length_map, e6, reduceCtorEq, ↓reduceIte, Nat.reduceAdd, Nat.reduceEqDiff, Nat.reduceLT, Int.reduceLE, Nat.reduceSub, Nat.reduceLeDiff, Nat.reduceMul, Int.reduceToNat, Int.reduceLT, Int.reduceEq, Int.reduceNeg, Nat.reduceBEq, Nat.reduceBNe]
        exact h2
    · have hk : inR lo hi d = false := by simp [inR, c1]
      rw [hk, if_neg (by decide)]
      obtain ⟨N', fl', h2, h3⟩ := ih (p ++ [d]) out fl (N ++ [.cells [.int .i64 d.1, .int .i64 d.2.1, .int .i64 d.2.2]]) (by rw [hp]; simp) (by simp; omega) hfl
      simp only [List.length_append, List.length_cons, List.length_nil, Nat.zero_add] at h2
      refine ⟨N', fl', ?_, h3⟩
      refine loop_step l_aborts_Row_Within_0.eq_1 k_aborts_Row_Within_0.eq_1 (by kernel_rfl) ?_
      simp only [go_sem, h1, e0, e7, e1, n1, n2, c1, List.length_map, e6, reduceCtorEq, ↓reduceIte, Nat.reduceAdd, Nat.reduceEqDiff, Nat.reduceLT, Int.reduceLE, Nat.reduceSub, Nat.reduceLeDiff, Nat.reduceMul, Int.reduceToNat, Int.reduceLT, Int.reduceEq, Int.reduceNeg, Nat.reduceBEq, Nat.reduceBNe]
      exact h2
theorem abwithin_spec (l : List La) (hn : l.length ≤ 100000) (fl : Fl) (hfl : RF l fl) (lo hi : Int) (i : Nat) (H : Heap) (hi' : Old H i (rwB l fl)) :
    ∃ f, W n_aborts_Row_Within [.ptr i 0, .int .i64 lo, .int .i64 hi] H = some (.list 3 ((l.filter (inR lo hi)).map laV) f, H.set i (rwB l .uniq)) ∧ (f = .own ∨ (f = .full ∧ l.filter (inR lo hi) = [])) := by
  have hth := thC hfl hi'
  have hbk := bkC0 hi' (l.map laV)
  have gi' := hi'.get'
  obtain ⟨N, f, h, hf⟩ := within_loop l hn lo hi i (H.set i (.cells [.lbox (pt H 0)])) l [] [] .full [] rfl (by simp) (.inr ⟨rfl, rfl⟩)
  simp only [List.length_nil, Int.natCast_zero, List.map_nil, List.nil_append, pt_set] at h hf
  have u := fun n => under_la n l
  refine ⟨f, ?_, hf⟩
  generalize l.filter (inR lo hi) = R at *
  refine W_fnS rfl rfl ?_
  rcases hf with rfl | ⟨rfl, rfl⟩
  · have u2 := fun n => under_la n R
    simp only [go_sem, c_aborts_Row_Within, hth, hbk, gi', pt_set, hx_getS, hx_setS, List.length_map, h, u, u2, reduceCtorEq, ↓reduceIte, Nat.reduceAdd, Nat.reduceEqDiff, Nat.reduceLT, Int.reduceLE, Nat.reduceSub, Nat.reduceLeDiff, Nat.reduceMul, Int.reduceToNat, Int.reduceLT, Int.reduceEq, Int.reduceNeg, Nat.reduceBEq, Nat.reduceBNe]
    first | done | rfl
  · simp only [List.map_nil] at h ⊢
    simp only [go_sem, c_aborts_Row_Within, hth, hbk, gi', pt_set, hx_getS, hx_setS, List.length_map, h, u, reduceCtorEq, ↓reduceIte, Nat.reduceAdd, Nat.reduceEqDiff, Nat.reduceLT, Int.reduceLE, Nat.reduceSub, Nat.reduceLeDiff, Nat.reduceMul, Int.reduceToNat, Int.reduceLT, Int.reduceEq, Int.reduceNeg, Nat.reduceBEq, Nat.reduceBNe]
    first | done | rfl
theorem W_cloneB (xs : List AVal) (id : Nat) (H : Heap) (hH : H[id]? = some (.arr 3 xs)) (h : xs.length * 24 ≤ maxBytes) : W n_slices_Clone_api_Dropped_api_Dropped_ [.lbox id] H = some (.list 3 xs .own, H) :=
  callW_ext (s := cloneSem 3 24) rfl (by unfold cloneSem; simp only [hH]; exact if_pos ⟨trivial, h⟩)
theorem aball_spec (l : List La) (hn : l.length ≤ 100000) (fl : Fl) (hfl : RF l fl) (i : Nat) (H : Heap) (hi' : Old H i (rwB l fl)) :
    W n_aborts_Row_All [.ptr i 0] H = some (.list 3 (l.map laV) .own, H.set i (rwB l .uniq)) := by
  have hth := thC hfl hi'
  have hbk := bkC0 hi' (l.map laV)
  have gi' := hi'.get'
  have u := fun n => under_la n l
  have tc := W_cloneB (l.map laV) (pt H 0) (hx (H.set i (.cells [.lbox (pt H 0)])) [.arr 3 (l.map laV)]) (by rw [hx_getS]; rfl) (by simp only [List.length_map, maxBytes]; omega)
  refine W_fnS rfl rfl ?_
  simp only [go_sem, c_aborts_Row_All, hth, hbk, gi', pt_set, hx_getS, hx_setS, tc, u, reduceCtorEq, ↓reduceIte, Nat.reduceAdd, Nat.reduceEqDiff, Nat.reduceLT, Int.reduceLE, Nat.reduceSub, Nat.reduceLeDiff, Nat.reduceMul, Int.reduceToNat, Int.reduceLT, Int.reduceEq, Int.reduceNeg, Nat.reduceBEq, Nat.reduceBNe]
  first | done | rfl
theorem eq_la (x : La) : eqCells [.int .i64, .int .i64, .int .i64] [.int .i64 x.1, .int .i64 x.2.1, .int .i64 x.2.2] [.int .i64 x.1, .int .i64 x.2.1, .int .i64 x.2.2] = some true := by
  simp [eqCells]
theorem dropped_loop (l : List La) (hn : l.length ≤ 1000000) (H : Heap) (r : List La) : ∀ (p : List La), l = p ++ r →
    loopA W loopW (.ghost (.kill k_ref10_Dropped_0) l_ref10_Dropped_0) [(0, .list 3 (l.map laV) .ro), (1, .list 3 (l.map laV) .ro), (12, .int .i64 (l.length : Nat)), (13, .int .i64 (p.length : Nat))] H = some (.exit 0, [], H) := by
  induction r with
  | nil =>
    intro p hp
    have h1 : ¬ ((p.length : Int) < (l.length : Int)) := by rw [hp]; simp
    refine loop_step l_ref10_Dropped_0.eq_1 k_ref10_Dropped_0.eq_1 (by kernel_rfl) ?_
    simp only [go_sem, h1, reduceCtorEq, ↓reduceIte, Nat.reduceAdd, Nat.reduceEqDiff, Nat.reduceLT, Int.reduceLE, Nat.reduceSub, Nat.reduceLeDiff, Nat.reduceMul, Int.reduceToNat, Int.reduceLT, Int.reduceEq, Int.reduceNeg, Nat.reduceBEq, Nat.reduceBNe]
  | cons x r ih =>
    intro p hp
    have h1 : ((p.length : Int) < (l.length : Int)) := by rw [hp]; simp; omega
    have e0 : (0 : Int) ≤ (p.length : Int) := by omega
    have e7 : ((p.length : Nat) : Int).toNat = p.length := by omega
    have e1 : (l.map laV)[p.length]? = some (.agg [.int .i64 x.1, .int .i64 x.2.1, .int .i64 x.2.2]) := by rw [hp]; simp [laV]
    have hlen : l.length = p.length + (r.length + 1) := by rw [hp]; simp
    have e6 : IntKind.i64.wrap ((p.length : Int) + 1) = ((p.length + 1 : Nat) : Int) := by rw [wrap_id (by unfold I64; omega)]; omega
    have hq := eq_la x
    have h2 := ih (p ++ [x]) (by rw [hp]; simp)
    simp only [List.length_append, List.length_cons, List.length_nil, Nat.zero_add] at h2
    refine loop_step l_ref10_Dropped_0.eq_1 k_ref10_Dropped_0.eq_1 (by kernel_rfl) ?_
    simp only [go_sem, h1, e0, e7, e1, hq, e6, reduceCtorEq, ↓reduceIte, Nat.reduceAdd, Nat.reduceEqDiff, Nat.reduceLT, Int.reduceLE, Nat.reduceSub, Nat.reduceLeDiff, Nat.reduceMul, Int.reduceToNat, Int.reduceLT, Int.reduceEq, Int.reduceNeg, Nat.reduceBEq, Nat.reduceBNe]
    exact h2
theorem dropped_self (l : List La) (hn : l.length ≤ 1000000) (H : Heap) : W n_ref10_Dropped [.list 3 (l.map laV) .ro, .list 3 (l.map laV) .ro] H = some (.bool true, H) := by
  have h := dropped_loop l hn H l [] rfl
  simp only [List.length_nil, Int.natCast_zero] at h
  refine W_fn0 rfl rfl ?_
  simp only [go_sem, trim_same, c_ref10_Dropped, List.length_map, h, reduceCtorEq, ↓reduceIte, Nat.reduceAdd, Nat.reduceEqDiff, Nat.reduceLT, Int.reduceLE, Nat.reduceSub, Nat.reduceLeDiff, Nat.reduceMul, Int.reduceToNat, Int.reduceLT, Int.reduceEq, Int.reduceNeg, Nat.reduceBEq, Nat.reduceBNe]
  first | done | rfl
end Go.Abs

namespace Go.Abs
open Go Go.RowKit
set_option linter.unusedVariables false
set_option linter.unusedSimpArgs false

/-! ## What is within a range is within each greater one -/
def AOK (d : La) : Prop := 0 ≤ d.1 ∧ 0 ≤ d.2.1 ∧ d.2.1 < d.2.2 ∧ d.2.2 ≤ 1099511627776
theorem abOK_ok {l d} (h : abOK l d = true) : AOK d := by
  unfold abOK at h
  simp only [Bool.and_eq_true, decide_eq_true_eq] at h
  unfold AOK; omega
theorem abOf_ok : ∀ (A : List Ba) (M : List Pr) (l : List La), (∀ d ∈ l, AOK d) → ∀ d ∈ abOf A M l, AOK d
  | [], _, _, h => h
  | b :: A, M, l, h => by
    refine abOf_ok A _ _ ?_
    split
    · rename_i d0 _
      unfold abL
      split
      · rename_i hk
        intro d hd
        rw [List.mem_append, List.mem_singleton] at hd
        rcases hd with hd | rfl
        · exact h d hd
        · exact abOK_ok hk
      · exact h
    · exact h
def grd : List La → List La → Nat
  | _, [] => 0
  | [], _ :: _ => 0
  | a :: s, g :: r => if a = g then 1 + grd s r else grd (a :: s) r
theorem grd_sub : ∀ (r s : List La), s.Sublist r → grd s r = s.length
  | [], s, h => by
    cases h; rfl
  | g :: r, [], h => by simp [grd]
  | g :: r, a :: s, h => by
    unfold grd
    by_cases c : a = g
    · rw [if_pos c]
      have h' : s.Sublist r := by subst c; exact (List.cons_sublist_cons).1 h
      rw [grd_sub r s h', List.length_cons]; omega
    · rw [if_neg c]
      refine grd_sub r (a :: s) ?_
      cases h with
      | cons _ h => exact h
      | cons_cons _ h => exact absurd rfl c
theorem eq_la2 (x y : La) : eqCells [.int .i64, .int .i64, .int .i64] [.int .i64 x.1, .int .i64 x.2.1, .int .i64 x.2.2] [.int .i64 y.1, .int .i64 y.2.1, .int .i64 y.2.2] = some (decide (x = y)) := by
  obtain ⟨a, b, c⟩ := x
  obtain ⟨d, e, f⟩ := y
  simp only [eqCells, and_self, if_true, Option.map_some, Bool.and_true, Prod.mk.injEq]
  congr 1
  by_cases h1 : a = d <;> by_cases h2 : b = e <;> by_cases h3 : c = f <;> simp [h1, h2, h3]
theorem grd_drop (small : List La) (k : Nat) (g : La) (r : List La) : grd (small.drop k) (g :: r) = if small[k]? = some g then 1 + grd (small.drop (k + 1)) r else if k < small.length then grd (small.drop k) r else 0 := by
  by_cases hk : k < small.length
  · have h1 : small.drop k = small[k] :: small.drop (k + 1) := List.drop_eq_getElem_cons hk
    have h2 : grd (small[k] :: small.drop (k + 1)) (g :: r) = if small[k] = g then 1 + grd (small.drop (k + 1)) r else grd (small[k] :: small.drop (k + 1)) r := by rw [grd]
    rw [h1, h2]
    rw [List.getElem?_eq_getElem hk]
    by_cases c : small[k] = g
    · rw [if_pos c, if_pos (by rw [c])]
    · rw [if_neg c, if_neg (by simpa using c), if_pos hk]
  · rw [List.drop_eq_nil_of_le (by omega), if_neg (by rw [List.getElem?_eq_none (by omega)]; simp), if_neg hk]
    rfl
theorem grd_nil (r : List La) : grd [] r = 0 := by cases r <;> rfl

set_option maxHeartbeats 1000000 in
theorem greedy_loop (R : AVal) (small great : List La) (f1 f2 : Fl) (hf1 : f1 = .own ∨ f1 = .full) (hf2 : f2 = .own ∨ f2 = .full) (hs : small.length ≤ 100000) (hg : great.length ≤ 100000) (hR : R = .ptr (pt [] 0) 0) (H : Heap) (r : List La) : ∀ (p : List La) (k : Nat), great = p ++ r → k ≤ small.length →
    ∃ f1' f2', loopA W loopW (.ghost (.kill k_law13_AbortsWithin_0) l_law13_AbortsWithin_0) [(11, R), (14, .list 3 (small.map laV) f1), (15, .list 3 (great.map laV) f2), (16, .int .i64 (k : Nat)), (45, .int .i64 (great.length : Nat)), (46, .int .i64 (p.length : Nat))] H =
      some (.exit 0, [(11, R), (14, .list 3 (small.map laV) f1'), (15, .list 3 (great.map laV) f2'), (16, .int .i64 ((k + grd (small.drop k) r : Nat) : Int))], H) ∧ (f1' = .own ∨ f1' = .full) ∧ (f2' = .own ∨ f2' = .full) := by
  subst hR
  induction r with
  | nil =>
    intro p k hp hk
    rw [List.append_nil] at hp
    subst hp
    refine ⟨f1, f2, ?_, hf1, hf2⟩
    have h1 : ¬ ((great.length : Int) < (great.length : Int)) := by omega
    have e : grd (small.drop k) [] = 0 := by cases small.drop k <;> rfl
    rw [e, Nat.add_zero]
    refine loop_step l_law13_AbortsWithin_0.eq_1 k_law13_AbortsWithin_0.eq_1 (by kernel_rfl) ?_
    simp only [go_sem, h1, reduceCtorEq, ↓reduceIte, Nat.reduceAdd, Nat.reduceEqDiff, Nat.reduceLT, Int.reduceLE, Nat.reduceSub, Nat.reduceLeDiff, Nat.reduceMul, Int.reduceToNat, Int.reduceLT, Int.reduceEq, Int.reduceNeg, Nat.reduceBEq, Nat.reduceBNe]
  | cons g r ih =>
    intro p k hp hk
    have hlen : great.length = p.length + (r.length + 1) := by rw [hp]; simp
    have h1 : ((p.length : Int) < (great.length : Int)) := by omega
    have e0 : (0 : Int) ≤ (p.length : Int) := by omega
    have e7 : ((p.length : Nat) : Int).toNat = p.length := by omega
    have e1 : (great.map laV)[p.length]? = some (.agg [.int .i64 g.1, .int .i64 g.2.1, .int .i64 g.2.2]) := by rw [hp]; simp [laV]
    have e6 : IntKind.i64.wrap ((p.length : Int) + 1) = ((p.length + 1 : Nat) : Int) := by rw [wrap_id (by unfold I64; omega)]; omega
    have k0 : (0 : Int) ≤ (k : Int) := by omega
    have k7 : ((k : Nat) : Int).toNat = k := by omega
    have k6 : IntKind.i64.wrap ((k : Int) + 1) = ((k + 1 : Nat) : Int) := by rw [wrap_id (by unfold I64; omega)]; omega
    rw [grd_drop]
    by_cases c : k < small.length
    · have c' : ((k : Int) < (small.length : Int)) := by omega
      have e2 : (small.map laV)[k]? = some (.agg [.int .i64 small[k].1, .int .i64 small[k].2.1, .int .i64 small[k].2.2]) := by rw [List.getElem?_map, List.getElem?_eq_getElem c]; rfl
      have hq := eq_la2 small[k] g
      rw [List.getElem?_eq_getElem c]
      by_cases d : small[k] = g
      · rw [if_pos (by rw [d])]
        rw [decide_eq_true d] at hq
        obtain ⟨f1', f2', h2, h3⟩ := ih (p ++ [g]) (k + 1) (by rw [hp]; simp) (by omega)
        simp only [List.length_append, List.length_cons, List.length_nil, Nat.zero_add] at h2
        refine ⟨f1', f2', ?_, h3⟩
        rw [show k + (1 + grd (small.drop (k + 1)) r) = k + 1 + grd (small.drop (k + 1)) r by omega]
        refine loop_step l_law13_AbortsWithin_0.eq_1 k_law13_AbortsWithin_0.eq_1 (by kernel_rfl) ?_
        rcases hf1 with rfl | rfl <;> rcases hf2 with rfl | rfl
        all_goals
          simp only [go_sem, h1, e0, e7, e1, c', k0, k7, e2, hq, k6, e6, List.length_map, reduceCtorEq, ↓reduceIte, Nat.reduceAdd, Nat.reduceEqDiff, Nat.reduceLT, Int.reduceLE, Nat.reduceSub, Nat.reduceLeDiff, Nat.reduceMul, Int.reduceToNat, Int.reduceLT, Int.reduceEq, Int.reduceNeg, Nat.reduceBEq, Nat.reduceBNe]
          exact h2
      · rw [if_neg (by simpa using d), if_pos c]
        rw [decide_eq_false d] at hq
        obtain ⟨f1', f2', h2, h3⟩ := ih (p ++ [g]) k (by rw [hp]; simp) (by omega)
        simp only [List.length_append, List.length_cons, List.length_nil, Nat.zero_add] at h2
        refine ⟨f1', f2', ?_, h3⟩
        refine loop_step l_law13_AbortsWithin_0.eq_1 k_law13_AbortsWithin_0.eq_1 (by kernel_rfl) ?_
        rcases hf1 with rfl | rfl <;> rcases hf2 with rfl | rfl
        all_goals
          simp only [go_sem, h1, e0, e7, e1, c', k0, k7, e2, hq, e6, List.length_map, reduceCtorEq, ↓reduceIte, Nat.reduceAdd, Nat.reduceEqDiff, Nat.reduceLT, Int.reduceLE, Nat.reduceSub, Nat.reduceLeDiff, Nat.reduceMul, Int.reduceToNat, Int.reduceLT, Int.reduceEq, Int.reduceNeg, Nat.reduceBEq, Nat.reduceBNe]
          exact h2
    · have c' : ¬ ((k : Int) < (small.length : Int)) := by omega
      rw [List.getElem?_eq_none (by omega), if_neg (by simp), if_neg c]
      obtain ⟨f1', f2', h2, h3⟩ := ih (p ++ [g]) k (by rw [hp]; simp) (by omega)
      simp only [List.length_append, List.length_cons, List.length_nil, Nat.zero_add] at h2
      have e : grd (small.drop k) r = 0 := by rw [List.drop_eq_nil_of_le (by omega), grd_nil]
      rw [e] at h2
      refine ⟨f1', f2', ?_, h3⟩
      refine loop_step l_law13_AbortsWithin_0.eq_1 k_law13_AbortsWithin_0.eq_1 (by kernel_rfl) ?_
      rcases hf1 with rfl | rfl <;> rcases hf2 with rfl | rfl
      all_goals
        simp only [go_sem, h1, e0, e7, e1, c', e6, List.length_map, reduceCtorEq, ↓reduceIte, Nat.reduceAdd, Nat.reduceEqDiff, Nat.reduceLT, Int.reduceLE, Nat.reduceSub, Nat.reduceLeDiff, Nat.reduceMul, Int.reduceToNat, Int.reduceLT, Int.reduceEq, Int.reduceNeg, Nat.reduceBEq, Nat.reduceBNe]
        exact h2
theorem filter_le {p q : La → Bool} : ∀ (l : List La), (∀ d ∈ l, p d = true → q d = true) → (l.filter p).Sublist (l.filter q)
  | [], _ => List.Sublist.refl _
  | d :: l, h => by
    have ih := filter_le l (fun x hx => h x (List.mem_cons_of_mem _ hx))
    have hd := h d List.mem_cons_self
    rw [List.filter_cons, List.filter_cons]
    cases hp : p d with
    | true => rw [hd hp]; simpa using ih
    | false =>
      cases hq : q d with
      | true => simpa using ih.cons d
      | false => simpa using ih
theorem inR_mono {lo hi lo' hi' : Int} (h1 : lo' ≤ lo) (h2 : hi ≤ hi') (d : La) (h : inR lo hi d = true) : inR lo' hi' d = true := by
  unfold inR at *
  simp only [Bool.and_eq_true, decide_eq_true_eq] at h ⊢
  unfold mx at *
  split at h <;> split <;> omega
theorem inR_all {l : List La} (h : ∀ d ∈ l, AOK d) : l.filter (inR 0 1099511627776) = l := by
  rw [List.filter_eq_self]
  intro d hd
  have := h d hd
  unfold AOK at this
  unfold inR mx
  simp only [Bool.and_eq_true, decide_eq_true_eq]
  split <;> omega
end Go.Abs

