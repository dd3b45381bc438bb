import Derived.Test.YtljlbcipngmdmaaGreatBS3
set_option linter.unusedVariables false
set_option linter.unusedSimpArgs false
namespace Go.Abs.Pq
open Go Go.RowKit
def rightQ (n : Int) : Bool := decide (0 ≤ n ∧ n ≤ 2147483647)
def addQ (n k : Int) : Int := if rightQ n = true then (n + k) % 2147483648 else -1
def lastQ (f c : Int) : Int := if 1 ≤ c ∧ c ≤ 16 then addQ f (c - 1) else -1
def followsQ (l f : Int) : Bool := if l = -1 then decide (f = 0) else rightQ l && decide (f = addQ l 1)
def gapQ (a b : Int) : Int := if rightQ a = true ∧ rightQ b = true then (b - a) % 2147483648 else -1
theorem right_spec (n : Int) (H : Heap) : W n_seq_Right [.int .i64 n] H = some (.bool (rightQ n), H) := by
 refine W_fn rfl rfl ?_
 unfold rightQ
 by_cases h1 : n ≥ 0 <;> by_cases h2 : n ≤ 2147483647 <;> simp only [go_sem, c_seq_Right, h1, h2, reduceCtorEq, ↓reduceIte, Nat.reduceAdd, Nat.reduceEqDiff, Nat.reduceLT, Int.reduceLE, Nat.reduceSub, Nat.reduceLeDiff, Nat.reduceMul, Int.reduceToNat, Int.reduceLT, Int.reduceEq, Int.reduceNeg, Nat.reduceBEq, Nat.reduceBNe]
theorem add_spec (n k : Int) (H : Heap) (h0 : 0 ≤ k) (h1 : k ≤ 1000000) : W n_seq_Add [.int .i64 n, .int .i64 k] H = some (.int .i64 (addQ n k), H) := by
 have hs := right_spec n
 refine W_fn rfl rfl ?_
 cases h : rightQ n with
 | false => rw [h] at hs; simp only [go_sem, c_seq_Add, hs, reduceCtorEq, ↓reduceIte, Nat.reduceAdd, Nat.reduceEqDiff, Nat.reduceLT, Int.reduceLE, Nat.reduceSub, Nat.reduceLeDiff, Nat.reduceMul, Int.reduceToNat, Int.reduceLT, Int.reduceEq, Int.reduceNeg, Nat.reduceBEq, Nat.reduceBNe]; simp [addQ, h]
 | true =>
  rw [h] at hs
  have hr : 0 ≤ n ∧ n ≤ 2147483647 := by simpa [rightQ] using h
  have e1 : IntKind.i64.wrap (n + k.tmod 2147483648) = n + k := by
   rw [Int.tmod_eq_emod_of_nonneg h0, wrap_id (by unfold I64; omega)]; omega
  have e2 : IntKind.i64.wrap ((n + k).tmod 2147483648 + 2147483648) = (n + k) % 2147483648 + 2147483648 := by
   rw [Int.tmod_eq_emod_of_nonneg (by omega), wrap_id (by unfold I64; omega)]
  have e3 : ((n + k) % 2147483648 + 2147483648).tmod 2147483648 = (n + k) % 2147483648 := by
   rw [Int.tmod_eq_emod_of_nonneg (by omega)]; omega
  simp only [go_sem, c_seq_Add, hs, e1, e2, e3, addQ, h, reduceCtorEq, ↓reduceIte, Nat.reduceAdd, Nat.reduceEqDiff, Nat.reduceLT, Int.reduceLE, Nat.reduceSub, Nat.reduceLeDiff, Nat.reduceMul, Int.reduceToNat, Int.reduceLT, Int.reduceEq, Int.reduceNeg, Nat.reduceBEq, Nat.reduceBNe]
theorem last_spec (f c : Int) (H : Heap) (hc : I64 c) : W n_seq_Last [.int .i64 f, .int .i64 c] H = some (.int .i64 (lastQ f c), H) := by
 refine W_fn rfl rfl ?_
 by_cases h1 : c < 1
 ·simp only [go_sem, c_seq_Last, h1, lastQ, show ¬ (1 ≤ c ∧ c ≤ 16) by omega, reduceCtorEq, ↓reduceIte, Nat.reduceAdd, Nat.reduceEqDiff, Nat.reduceLT, Int.reduceLE, Nat.reduceSub, Nat.reduceLeDiff, Nat.reduceMul, Int.reduceToNat, Int.reduceLT, Int.reduceEq, Int.reduceNeg, Nat.reduceBEq, Nat.reduceBNe]
 ·by_cases h2 : c > 16
  ·simp only [go_sem, c_seq_Last, h1, h2, lastQ, show ¬ (1 ≤ c ∧ c ≤ 16) by omega, reduceCtorEq, ↓reduceIte, Nat.reduceAdd, Nat.reduceEqDiff, Nat.reduceLT, Int.reduceLE, Nat.reduceSub, Nat.reduceLeDiff, Nat.reduceMul, Int.reduceToNat, Int.reduceLT, Int.reduceEq, Int.reduceNeg, Nat.reduceBEq, Nat.reduceBNe]
  ·have ha := fun H => add_spec f (c - 1) H (by omega) (by omega)
   have e1 : IntKind.i64.wrap (c - 1) = c - 1 := wrap_id (by unfold I64 at *; omega)
   simp only [go_sem, c_seq_Last, h1, h2, lastQ, show (1 ≤ c ∧ c ≤ 16) by omega, e1, ha, reduceCtorEq, ↓reduceIte, Nat.reduceAdd, Nat.reduceEqDiff, Nat.reduceLT, Int.reduceLE, Nat.reduceSub, Nat.reduceLeDiff, Nat.reduceMul, Int.reduceToNat, Int.reduceLT, Int.reduceEq, Int.reduceNeg, Nat.reduceBEq, Nat.reduceBNe]
structure Pr where
 id : Int
 ep : Int
 last : List (Int × Int × Int)
 op : Int
structure Ba where
 base : Int
 prod : Int
 ep : Int
 seq : Int
 txn : Bool
 mark : Int
 recs : List AVal
abbrev t3 (t : Int × Int × Int) : AVal := .agg [.int .i64 t.1, .int .i64 t.2.1, .int .i64 t.2.2]
abbrev lastV (l : List (Int × Int × Int)) (fl : Fl) : AVal := .list 3 (l.map t3) fl
abbrev Pr.v (p : Pr) : AVal := .agg [.int .i64 p.id, .int .i64 p.ep, lastV p.last .ro, .int .i64 p.op]
abbrev Ba.v (b : Ba) : AVal := .agg [.int .i64 b.base, .int .i64 b.prod, .int .i64 b.ep, .int .i64 b.seq, .bool b.txn, .int .i64 b.mark, .list 2 b.recs .ro]
def dupQ (p : Pr) (b : Ba) : List (Int × Int × Int) → Int × Bool
 | [] => (-1, false)
 | l :: ls => if b.mark = 0 ∧ b.ep = p.ep ∧ l.1 = b.seq ∧ l.2.1 = lastQ b.seq b.recs.length then (l.2.2, true) else dupQ p b ls
def checkQ (p : Pr) (known : Bool) (b : Ba) : Int × Int :=
 if b.mark ≠ 0 then (-1, if known = false then 16 else if b.ep < p.ep then 14 else if p.op < 0 then 16 else 0)
 else if known = false then (-1, 0)
 else if b.ep < p.ep then (-1, 14)
 else if b.ep > p.ep then (-1, if p.op ≥ 0 then 16 else if b.seq ≠ 0 then 15 else 0)
 else if (dupQ p b p.last).2 = true then ((dupQ p b p.last).1, 0)
 else if p.last ≠ [] ∧ followsQ (p.last.getLastD (0, 0, 0)).2.1 b.seq = false then (-1, 15)
 else if p.op ≥ 0 ∧ b.txn = false then (-1, 16)
 else (-1, 0)
def applyQ (p : Pr) (known : Bool) (b : Ba) : Pr :=
 let op := if known then p.op else -1
 let l := if known = true ∧ b.ep = p.ep then p.last else []
 if b.mark ≠ 0 then ⟨b.prod, b.ep, l, -1⟩
 else
  let l2 := l ++ [(b.seq, lastQ b.seq b.recs.length, b.base)]
  ⟨b.prod, b.ep, l2.drop (l2.length - 5), if b.txn = true ∧ op < 0 then b.base else op⟩
theorem apply_spec (p : Pr) (k : Bool) (b : Ba) (H : Heap) (hl : p.last.length < 1000000) (hr : b.recs.length < 1000000000) :
  W n_producer_Apply [p.v, .bool k, b.v] H = some ((applyQ p k b).v, H) := by
 have hlast := fun H => last_spec b.seq (b.recs.length : Int) H (by unfold I64; omega)
 have hcl : (p.last.map t3).length * 24 ≤ maxBytes := by simp [maxBytes]; omega
 have u1 : ∀ l : List (Int × Int × Int), AVal.underL 0 (l.map t3) = true := fun l => uL_map 0 t3 (fun _ => rfl) l
 by_cases c1 : b.mark = 0
 ·have key : ∀ (l : List (Int × Int × Int)), l.length ≤ p.last.length →
   ((l.map t3).length + 1) * 24 ≤ maxBytes ∧
   (l.map t3 ++ [AVal.agg [.int .i64 b.seq, .int .i64 (lastQ b.seq b.recs.length), .int .i64 b.base]]) = (l ++ [(b.seq, lastQ b.seq b.recs.length, b.base)]).map t3 ∧
   ((l ++ [(b.seq, lastQ b.seq b.recs.length, b.base)]).map t3).length = l.length + 1 ∧
   IntKind.i64.wrap (((l.length + 1 : Nat) : Int) - 5) = (l.length : Int) - 4 := by
   intro l hl'
   refine ⟨by simp [maxBytes]; omega, by simp, by simp, by rw [wrap_id (by unfold I64; omega)]; omega⟩
  have tail : ∀ (l : List (Int × Int × Int)), l.length ≤ p.last.length → 
   (0 : Int) ≤ mx 0 ((l.length : Int) - 4) ∧ mx 0 ((l.length : Int) - 4) ≤ ((l.length + 1 : Nat) : Int) ∧
   ((l ++ [(b.seq, lastQ b.seq b.recs.length, b.base)]).map t3).drop (mx 0 ((l.length : Int) - 4)).toNat = ((l ++ [(b.seq, lastQ b.seq b.recs.length, b.base)]).drop ((l ++ [(b.seq, lastQ b.seq b.recs.length, b.base)]).length - 5)).map t3 ∧
   (((l ++ [(b.seq, lastQ b.seq b.recs.length, b.base)]).drop ((l ++ [(b.seq, lastQ b.seq b.recs.length, b.base)]).length - 5)).map t3).length * 24 ≤ maxBytes := by
   intro l hl'
   have h : (mx 0 ((l.length : Int) - 4)).toNat = (l ++ [(b.seq, lastQ b.seq b.recs.length, b.base)]).length - 5 := by
    rw [List.length_append]; simp only [List.length_cons, List.length_nil]; unfold mx; split <;> omega
   refine ⟨by unfold mx; split <;> omega, by unfold mx; split <;> omega, by rw [h, List.map_drop], by simp [maxBytes]; omega⟩
  obtain ⟨k1, k2, k3, k4⟩ := key p.last (Nat.le_refl _)
  obtain ⟨t1, t2, t3', t4⟩ := tail p.last (Nat.le_refl _)
  have w1 : IntKind.i64.wrap (1 - 5) = -4 := by decide
  have w2 : mx 0 (-4) = 0 := by decide
  have w3 : (0 + 1) * 24 ≤ maxBytes := by decide
  have w4 : 1 * 24 ≤ maxBytes := by decide
  refine W_fn rfl rfl ?_
  cases k with
  | false =>
   by_cases c5 : b.txn = true
   ·simp only [go_sem, c_producer_Apply, eq_true c1, c5, applyQ, u1, hlast, apF, w1, w2, w3, w4, slL, W_slices_Clone_3_int64_3_int64_, Pr.v, reduceCtorEq, ↓reduceIte, Nat.reduceAdd, Nat.reduceEqDiff, Nat.reduceLT, Int.reduceLE, Nat.reduceSub, Nat.reduceLeDiff, Nat.reduceMul, Int.reduceToNat, Int.reduceLT, Int.reduceEq, Int.reduceNeg, Nat.reduceBEq, Nat.reduceBNe]; rfl
   ·simp only [go_sem, c_producer_Apply, eq_true c1, c5, applyQ, u1, hlast, apF, w1, w2, w3, w4, slL, W_slices_Clone_3_int64_3_int64_, Pr.v, reduceCtorEq, ↓reduceIte, Nat.reduceAdd, Nat.reduceEqDiff, Nat.reduceLT, Int.reduceLE, Nat.reduceSub, Nat.reduceLeDiff, Nat.reduceMul, Int.reduceToNat, Int.reduceLT, Int.reduceEq, Int.reduceNeg, Nat.reduceBEq, Nat.reduceBNe]; rfl
  | true =>
   by_cases c2 : b.ep = p.ep
   ·by_cases c5 : b.txn = true
    ·by_cases c6 : p.op < 0
     ·simp only [go_sem, c_producer_Apply, eq_true c1, eq_true c2, c5, c6, applyQ, u1, hlast, apO, k1, k2, k3, k4, t1, t2, t3', t4, hcl, slL, W_slices_Clone_3_int64_3_int64_, Pr.v, reduceCtorEq, ↓reduceIte, Nat.reduceAdd, Nat.reduceEqDiff, Nat.reduceLT, Int.reduceLE, Nat.reduceSub, Nat.reduceLeDiff, Nat.reduceMul, Int.reduceToNat, Int.reduceLT, Int.reduceEq, Int.reduceNeg, Nat.reduceBEq, Nat.reduceBNe]
     ·simp only [go_sem, c_producer_Apply, eq_true c1, eq_true c2, c5, c6, applyQ, u1, hlast, apO, k1, k2, k3, k4, t1, t2, t3', t4, hcl, slL, W_slices_Clone_3_int64_3_int64_, Pr.v, reduceCtorEq, ↓reduceIte, Nat.reduceAdd, Nat.reduceEqDiff, Nat.reduceLT, Int.reduceLE, Nat.reduceSub, Nat.reduceLeDiff, Nat.reduceMul, Int.reduceToNat, Int.reduceLT, Int.reduceEq, Int.reduceNeg, Nat.reduceBEq, Nat.reduceBNe]
    ·simp only [go_sem, c_producer_Apply, eq_true c1, eq_true c2, c5, applyQ, u1, hlast, apO, k1, k2, k3, k4, t1, t2, t3', t4, hcl, slL, W_slices_Clone_3_int64_3_int64_, Pr.v, reduceCtorEq, ↓reduceIte, Nat.reduceAdd, Nat.reduceEqDiff, Nat.reduceLT, Int.reduceLE, Nat.reduceSub, Nat.reduceLeDiff, Nat.reduceMul, Int.reduceToNat, Int.reduceLT, Int.reduceEq, Int.reduceNeg, Nat.reduceBEq, Nat.reduceBNe]
   ·by_cases c5 : b.txn = true
    ·by_cases c6 : p.op < 0
     ·simp only [go_sem, c_producer_Apply, eq_true c1, c2, c5, c6, applyQ, u1, hlast, apF, w1, w2, w3, w4, slL, W_slices_Clone_3_int64_3_int64_, Pr.v, reduceCtorEq, ↓reduceIte, Nat.reduceAdd, Nat.reduceEqDiff, Nat.reduceLT, Int.reduceLE, Nat.reduceSub, Nat.reduceLeDiff, Nat.reduceMul, Int.reduceToNat, Int.reduceLT, Int.reduceEq, Int.reduceNeg, Nat.reduceBEq, Nat.reduceBNe]; rfl
     ·simp only [go_sem, c_producer_Apply, eq_true c1, c2, c5, c6, applyQ, u1, hlast, apF, w1, w2, w3, w4, slL, W_slices_Clone_3_int64_3_int64_, Pr.v, reduceCtorEq, ↓reduceIte, Nat.reduceAdd, Nat.reduceEqDiff, Nat.reduceLT, Int.reduceLE, Nat.reduceSub, Nat.reduceLeDiff, Nat.reduceMul, Int.reduceToNat, Int.reduceLT, Int.reduceEq, Int.reduceNeg, Nat.reduceBEq, Nat.reduceBNe]; rfl
    ·simp only [go_sem, c_producer_Apply, eq_true c1, c2, c5, applyQ, u1, hlast, apF, w1, w2, w3, w4, slL, W_slices_Clone_3_int64_3_int64_, Pr.v, reduceCtorEq, ↓reduceIte, Nat.reduceAdd, Nat.reduceEqDiff, Nat.reduceLT, Int.reduceLE, Nat.reduceSub, Nat.reduceLeDiff, Nat.reduceMul, Int.reduceToNat, Int.reduceLT, Int.reduceEq, Int.reduceNeg, Nat.reduceBEq, Nat.reduceBNe]; rfl
 ·refine W_fn rfl rfl ?_
  cases k with
  | false => simp only [go_sem, c_producer_Apply, c1, applyQ, u1, Pr.v, reduceCtorEq, ↓reduceIte, Nat.reduceAdd, Nat.reduceEqDiff, Nat.reduceLT, Int.reduceLE, Nat.reduceSub, Nat.reduceLeDiff, Nat.reduceMul, Int.reduceToNat, Int.reduceLT, Int.reduceEq, Int.reduceNeg, Nat.reduceBEq, Nat.reduceBNe]; rfl
  | true =>
   by_cases c2 : b.ep = p.ep
   ·simp only [go_sem, c_producer_Apply, c1, eq_true c2, applyQ, u1, W_slices_Clone_3_int64_3_int64_, hcl, reduceCtorEq, ↓reduceIte, Nat.reduceAdd, Nat.reduceEqDiff, Nat.reduceLT, Int.reduceLE, Nat.reduceSub, Nat.reduceLeDiff, Nat.reduceMul, Int.reduceToNat, Int.reduceLT, Int.reduceEq, Int.reduceNeg, Nat.reduceBEq, Nat.reduceBNe]
   ·simp only [go_sem, c_producer_Apply, c1, c2, applyQ, u1, Pr.v, reduceCtorEq, ↓reduceIte, Nat.reduceAdd, Nat.reduceEqDiff, Nat.reduceLT, Int.reduceLE, Nat.reduceSub, Nat.reduceLeDiff, Nat.reduceMul, Int.reduceToNat, Int.reduceLT, Int.reduceEq, Int.reduceNeg, Nat.reduceBEq, Nat.reduceBNe]; rfl
end Go.Abs.Pq
namespace Go.Abs
open Go Go.RowKit
def toP (p : Pr) : Pq.Pr := ⟨p.id, p.epoch, p.last, p.open_⟩
def toB (b : Ba) : Pq.Ba := ⟨b.base, b.prod, b.epoch, b.seq, b.txn, b.mark, b.recs.map rcV⟩
theorem toP_v (p : Pr) : (toP p).v = p.V := rfl
theorem toB_v (b : Ba) : (toB b).v = b.V := rfl
theorem rightQ_eq (n : Int) : Pq.rightQ n = seqR n := by
 unfold Pq.rightQ seqR
 by_cases h : n ≥ 0 <;> by_cases k : n ≤ 2147483647 <;> simp [h, k]
 all_goals omega
theorem addQ_eq (n k : Int) : Pq.addQ n k = addS n k := by unfold Pq.addQ addS; rw [rightQ_eq]
theorem lastQ_eq (n c : Int) : Pq.lastQ n c = lastS n c := by
 unfold Pq.lastQ lastS
 rw [addQ_eq]
 by_cases h : 1 ≤ c ∧ c ≤ 16
 ·rw [if_pos h, if_neg (by omega)]
 ·rw [if_neg h, if_pos (by omega)]
theorem applyQ_eq (p : Pr) (k : Bool) (b : Ba) : Pq.applyQ (toP p) k (toB b) = toP (applyP p k b) := by
 have hl : (if k = true ∧ b.epoch = p.epoch then p.last else []) = lastsP p k b := by
  unfold lastsP
  by_cases h : k = true ∧ b.epoch = p.epoch
  ·rw [if_pos h, if_pos ⟨h.1, h.2.symm⟩]
  ·rw [if_neg h, if_neg (fun q => h ⟨q.1, q.2.symm⟩)]
 have hll : (b.recs.map rcV).length = b.recs.length := List.length_map _
 have h : Pq.applyQ (toP p) k (toB b) = (if b.mark ≠ 0 then (⟨b.prod, b.epoch, if k = true ∧ b.epoch = p.epoch then p.last else [], -1⟩ : Pq.Pr)
  else ⟨b.prod, b.epoch, ((if k = true ∧ b.epoch = p.epoch then p.last else []) ++ [(b.seq, Pq.lastQ b.seq (b.recs.map rcV).length, b.base)]).drop (((if k = true ∧ b.epoch = p.epoch then p.last else []) ++ [(b.seq, Pq.lastQ b.seq (b.recs.map rcV).length, b.base)]).length - 5), if b.txn = true ∧ openP p k < 0 then b.base else openP p k⟩) := rfl
 rw [h, hl, hll, lastQ_eq]
 unfold applyP
 by_cases c : b.mark ≠ 0
 ·rw [if_pos c, if_pos c]; rfl
 ·rw [if_neg c, if_neg c]; rfl
theorem papply_spec (p : Pr) (k : Bool) (b : Ba) (hl : p.last.length ≤ 1000) (hr : b.recs.length ≤ 1000) (H : Heap) :
  W n_producer_Apply [p.V, .bool k, b.V] H = some ((applyP p k b).V, H) := by
 have := Pq.apply_spec (toP p) k (toB b) H (by show p.last.length < _; omega) (by simp only [toB, List.length_map]; omega)
 rw [toP_v, toB_v, applyQ_eq, toP_v] at this
 exact this
theorem putOK_right {cap start L b} (h : putOK cap start L b = true) : rightE b = 0 := by
 unfold putOK at h
 rw [Bool.and_eq_true, decide_eq_true_eq] at h
 have h1 := h.1
 unfold tabCheck at h1
 by_cases c : rightE b = 0
 ·exact c
 ·rw [if_pos c] at h1; exact absurd h1 c
theorem putOK_end {cap start L b} (h : putOK cap start L b = true) : endE start L + countE b ≤ 1099511627776 := by
 unfold putOK at h
 simp only [Bool.and_eq_true, decide_eq_true_eq] at h
 exact h.2.2.2
theorem Fit.all {L : List Ba} {b : Ba} (h : ∀ b ∈ L, Fit b) (hb : Fit b) : ∀ x ∈ L ++ [b], Fit x := by
 intro x hx
 rw [List.mem_append, List.mem_singleton] at hx
 rcases hx with hx | rfl
 ·exact h x hx
 ·exact hb
theorem prodL_fit {cap start L b} (hL : ∀ b ∈ L, Fit b) (h0 : 0 ≤ start) (h1 : start ≤ 1099511627776) (hb : BOK b) : ∀ x ∈ prodL cap start L b, Fit x := by
 unfold prodL
 split
 ·rename_i h
  refine Fit.all hL ⟨?_, ?_⟩
  ·have re := endE_range start L hL h0 h1
   exact ⟨by unfold I64 atEnd; simp only; omega, hb.prod, hb.epoch, hb.seq, hb.mark⟩
  ·unfold prodOK at h
   rw [Bool.and_eq_true, decide_eq_true_eq] at h
   exact h.1
 ·exact hL
theorem markL_fit {cap start L p e m} (hL : ∀ b ∈ L, Fit b) (h0 : 0 ≤ start) (h1 : start ≤ 1099511627776) (hp : I64 p) (he : I64 e) (hm : I64 m) : ∀ x ∈ markL cap start L p e m, Fit x := by
 unfold markL
 split
 ·rename_i h
  have re := endE_range start L hL h0 h1
  refine Fit.all hL ⟨⟨by unfold I64 markB; simp only; omega, hp, he, show I64 (-1) from i64_c (by decide) (by decide), hm⟩, ?_⟩
  unfold markOK at h
  rw [Bool.and_eq_true] at h
  exact putOK_right h.2
 ·exact hL
theorem prodF_ok {cap start L b fl} (h : fl = .own ∨ (fl = .full ∧ L = [])) : prodF cap start L b fl = .own ∨ (prodF cap start L b fl = .full ∧ prodL cap start L b = []) := by
 unfold prodF prodL
 split
 ·exact .inl rfl
 ·exact h
theorem markF_ok {cap start L p e m fl} (h : fl = .own ∨ (fl = .full ∧ L = [])) : markF cap start L p e m fl = .own ∨ (markF cap start L p e m fl = .full ∧ markL cap start L p e m = []) := by
 unfold markF markL
 split
 ·exact .inl rfl
 ·exact h
theorem prodL_len {cap start L b} : (prodL cap start L b).length ≤ L.length + 1 := by unfold prodL; split <;> simp
theorem markL_len {cap start L p e m} : (markL cap start L p e m).length ≤ L.length + 1 := by unfold markL; split <;> simp
structure RS where
 L : List Ba
 at_ : Nat
 fl : Fl
def rowStep (l : List Int) (cap start : Int) (s : RS) : RS :=
 let b := (askB l s.L s.at_).1
 if b.mark = 0 then ⟨prodL cap start s.L b, (askB l s.L s.at_).2, prodF cap start s.L b s.fl⟩
 else ⟨markL cap start s.L b.prod b.epoch b.mark, (askB l s.L s.at_).2, markF cap start s.L b.prod b.epoch b.mark s.fl⟩
def rowGo (l : List Int) (cap start : Int) (most : Nat) : Nat → RS → RS
 | 0, s => s
 | k + 1, s => if s.L.length < most ∧ s.at_ < l.length then rowGo l cap start most k (rowStep l cap start s) else s
structure RI (l : List Int) (most : Nat) (s : RS) : Prop where
 fit : ∀ b ∈ s.L, Fit b
 len : s.L.length ≤ most
 at_ : s.at_ ≤ l.length
 fl : s.fl = .own ∨ (s.fl = .full ∧ s.L = [])
theorem askB_ok {l L a} (hl : l.length ≤ 140737488355328) (ha : a ≤ l.length) (hL : ∀ b ∈ L, Fit b) : AskOK l (askB l L a) := by
 have hb := tapeBatch_right l 0 (by omega) (by omega) a
 have ha1 := tapeBatch_at l 0 a ha
 have hr1 := tapeBatch_recs l 0 a
 have hPr := foldL_ok L [] (fun b hb => (hL b hb).ok) (by simp)
 have hTK := foldL_TK L [] 0 ⟨by simp, by simp⟩
 unfold askB
 simp only
 split
 ·exact ⟨hb.ok, ha1, hr1⟩
 ·split
  ·exact ⟨hb.ok, nextA_le ha1, hr1⟩
  ·exact askFold_ok hl _ _ ⟨hb.ok, nextA_le ha1, hr1⟩ (fun p hp => ⟨hPr p hp, hTK.last p hp⟩)
theorem RI.step {l most s cap start} (hl : l.length ≤ 140737488355328) (h0 : 0 ≤ start) (h1 : start ≤ 1099511627776) (h : RI l most s) (hm : s.L.length < most) : RI l most (rowStep l cap start s) := by
 have ha := askB_ok hl h.at_ h.fit
 unfold rowStep
 simp only
 split
 ·exact ⟨prodL_fit h.fit h0 h1 ha.bok, Nat.le_trans prodL_len hm, ha.at_, prodF_ok h.fl⟩
 ·exact ⟨markL_fit h.fit h0 h1 ha.bok.prod ha.bok.epoch ha.bok.mark, Nat.le_trans markL_len hm, ha.at_, markF_ok h.fl⟩
theorem RI.go {l most cap start} (hl : l.length ≤ 140737488355328) (h0 : 0 ≤ start) (h1 : start ≤ 1099511627776) : ∀ (k : Nat) (s : RS), RI l most s → RI l most (rowGo l cap start most k s)
 | 0, _, h => h
 | k + 1, s, h => by
  unfold rowGo
  split
  ·rename_i hc
   exact RI.go hl h0 h1 k _ (h.step hl h0 h1 hc.1)
  ·exact h
theorem hxg0 (H : Heap) (A B : Box) (N : Heap) : Old (hx H (A :: B :: N)) (pt H 0) A := ⟨by rw [hx_get]; rfl⟩
theorem hxg1 (H : Heap) (A B : Box) (N : Heap) : Old (hx H (A :: B :: N)) (pt H 1) B := ⟨by rw [hx_get]; rfl⟩
theorem pt_ne {H : Heap} {i j : Nat} (h : i ≠ j) : pt H i ≠ pt H j := by unfold pt; omega
set_option maxHeartbeats 2000000 in
theorem row_loop (l : List Int) (hl : l.length ≤ 140737488355328) (start : Int) (h0 : 0 ≤ start) (hs1 : start ≤ 1099511627776) (most : Nat) (hm : most ≤ 900) (H : Heap) (k : Nat) : ∀ (i : Nat) (s : RS) (N : Heap), i + k = 4 * most → RI l most s →
  ∃ M, loopA W loopW (.ghost (.kill k_keep_Row_0) l_keep_Row_0) [(0, .list 1 (ints .i64 l) .ro), (2, .int .i64 (most : Nat)), (7, .ptr (pt H 0) 0), (8, .ptr (pt H 1) 0), (9, .int .i64 (i : Nat))] (hx H (tapeB l s.at_ :: mdB 1073741824 start s.L s.fl :: N)) =
   some (.exit 0, [(8, .ptr (pt H 1) 0)], hx H (tapeB l (rowGo l 1073741824 start most k s).at_ :: mdB 1073741824 start (rowGo l 1073741824 start most k s).L (rowGo l 1073741824 start most k s).fl :: M)) := by
 have w4 : IntKind.i64.wrap (4 * (most : Int)) = 4 * (most : Int) := wrap_id (by unfold I64; omega)
 induction k with
 | zero =>
  intro i s N hi hs
  refine ⟨N, ?_⟩
  have h1 : ¬ ((i : Int) < 4 * (most : Int)) := by omega
  unfold rowGo
  refine loop_step l_keep_Row_0.eq_1 k_keep_Row_0.eq_1 (by kernel_rfl) ?_
  simp only [go_sem, w4, h1, simprocAttr]
 | succ k ih =>
  intro i s N hi hs
  have h1 : ((i : Int) < 4 * (most : Int)) := by omega
  unfold rowGo
  obtain ⟨L, a, fl⟩ := s
  have hs' := fun hc => RI.step (cap := 1073741824) (start := start) hl h0 hs1 hs hc
  have ha := askB_ok hl hs.at_ hs.fit
  have hfl := hs.fl
  have hfit := hs.fit
  have hle := hs.len
  have hat := hs.at_
  simp only at ha hfl hfit hle hat hs' ⊢
  by_cases c1 : L.length < most
  ·by_cases c2 : a < l.length
   ·rw [if_pos ⟨c1, c2⟩]
    have c1' : ((L.length : Int) < (most : Int)) := by omega
    have c2' : ((a : Int) < (l.length : Int)) := by omega
    have e6 : IntKind.i64.wrap ((i : Int) + 1) = ((i + 1 : Nat) : Int) := by rw [wrap_id (by unfold I64; omega)]; omega
    have ta := ask_spec l hl a hat (pt H 0) 1073741824 start L hfit (by omega) fl hfl (pt H 1) (pt_ne (by decide)) (hx H (tapeB l a :: mdB 1073741824 start L fl :: N)) (hxg0 _ _ _ _) (hxg1 _ _ _ _)
    simp only [hx_set, List.set_cons_zero] at ta
    have hst : rowStep l 1073741824 start ⟨L, a, fl⟩ = if (askB l L a).1.mark = 0 then ⟨prodL 1073741824 start L (askB l L a).1, (askB l L a).2, prodF 1073741824 start L (askB l L a).1 fl⟩
     else ⟨markL 1073741824 start L (askB l L a).1.prod (askB l L a).1.epoch (askB l L a).1.mark, (askB l L a).2, markF 1073741824 start L (askB l L a).1.prod (askB l L a).1.epoch (askB l L a).1.mark fl⟩ := rfl
    have hsn := hs' c1
    rw [hst] at hsn ⊢
    generalize askB l L a = r at *
    obtain ⟨b, a1⟩ := r
    simp only at ta ha hst hsn ⊢
    have hab := ha.bok
    have har := ha.recs
    simp only at hab har
    by_cases c3 : b.mark = 0
    ·rw [if_pos c3] at hsn ⊢
     obtain ⟨x, y, tp⟩ := produce_spec 1073741824 start L hfit (by omega) fl hfl h0 hs1 b hab (by omega) (pt H 1) (hx H (tapeB l a1 :: mdB 1073741824 start L fl :: (N ++ [.cells b.cs]))) (hxg1 _ _ _ _)
     simp only [hx_set, List.set_cons_succ, List.set_cons_zero] at tp
     obtain ⟨M, h2⟩ := ih (i + 1) _ (N ++ [.cells b.cs]) (by omega) hsn
     refine ⟨M, ?_⟩
     simp only at h2
     generalize prodL 1073741824 start L b = L' at *
     generalize prodF 1073741824 start L b fl = fl' at *
     generalize rowGo l 1073741824 start most k _ = R at *
     unfold Ba.V Ba.cs at *
     unfold tapeB mdB at *
     refine loop_step l_keep_Row_0.eq_1 k_keep_Row_0.eq_1 (by kernel_rfl) ?_
     rcases hfl with rfl | ⟨rfl, rfl⟩
     ·simp only [go_sem, w4, h1, List.length_map, c1', c2', ta, eq_true c3, tp, e6, simprocAttr]
      exact h2
     ·simp only [List.map_nil, List.length_nil, Int.natCast_zero] at ta tp c1' ⊢
      simp only [go_sem, w4, h1, List.length_map, List.length_nil, Int.natCast_zero, c1', c2', ta, eq_true c3, tp, e6, simprocAttr]
      exact h2
    ·rw [if_neg c3] at hsn ⊢
     obtain ⟨x, y, tp⟩ := mark_spec 1073741824 start L hfit (by omega) fl hfl h0 hs1 b.prod b.epoch b.mark hab.prod hab.epoch hab.mark (pt H 1) (hx H (tapeB l a1 :: mdB 1073741824 start L fl :: (N ++ [.cells b.cs]))) (hxg1 _ _ _ _)
     simp only [hx_set, List.set_cons_succ, List.set_cons_zero] at tp
     obtain ⟨M, h2⟩ := ih (i + 1) _ (N ++ [.cells b.cs]) (by omega) hsn
     refine ⟨M, ?_⟩
     simp only at h2
     generalize markL 1073741824 start L b.prod b.epoch b.mark = L' at *
     generalize markF 1073741824 start L b.prod b.epoch b.mark fl = fl' at *
     generalize rowGo l 1073741824 start most k _ = R at *
     unfold Ba.V Ba.cs at *
     unfold tapeB mdB at *
     refine loop_step l_keep_Row_0.eq_1 k_keep_Row_0.eq_1 (by kernel_rfl) ?_
     rcases hfl with rfl | ⟨rfl, rfl⟩
     ·simp only [go_sem, w4, h1, List.length_map, c1', c2', ta, c3, tp, e6, simprocAttr]
      exact h2
     ·simp only [List.map_nil, List.length_nil, Int.natCast_zero] at ta tp c1' ⊢
      simp only [go_sem, w4, h1, List.length_map, List.length_nil, Int.natCast_zero, c1', c2', ta, c3, tp, e6, simprocAttr]
      exact h2
   ·rw [if_neg (by omega)]
    have c1' : ((L.length : Int) < (most : Int)) := by omega
    have c2' : ¬ ((a : Int) < (l.length : Int)) := by omega
    refine ⟨N, ?_⟩
    simp only
    unfold tapeB mdB
    refine loop_step l_keep_Row_0.eq_1 k_keep_Row_0.eq_1 (by kernel_rfl) ?_
    rcases hfl with rfl | ⟨rfl, rfl⟩
    ·simp only [go_sem, w4, h1, List.length_map, c1', c2', simprocAttr]
    ·simp only [List.map_nil, List.length_nil, Int.natCast_zero] at c1' ⊢
     simp only [go_sem, w4, h1, List.length_map, List.length_nil, Int.natCast_zero, c1', c2', simprocAttr]
  ·rw [if_neg (by omega)]
   have c1' : ¬ ((L.length : Int) < (most : Int)) := by omega
   refine ⟨N, ?_⟩
   simp only
   unfold tapeB mdB
   refine loop_step l_keep_Row_0.eq_1 k_keep_Row_0.eq_1 (by kernel_rfl) ?_
   rcases hfl with rfl | ⟨rfl, rfl⟩
   ·simp only [go_sem, w4, h1, List.length_map, c1', simprocAttr]
   ·simp only [List.map_nil, List.length_nil, Int.natCast_zero] at c1' ⊢
    simp only [go_sem, w4, h1, List.length_map, List.length_nil, Int.natCast_zero, c1', simprocAttr]
def rowOf (l : List Int) (start : Int) (most : Nat) : List Ba := (rowGo l 1073741824 start most (4 * most) ⟨[], 0, .full⟩).L
theorem row_ri (l : List Int) (hl : l.length ≤ 140737488355328) (start : Int) (h0 : 0 ≤ start) (hs1 : start ≤ 1099511627776) (most : Nat) : RI l most (rowGo l 1073741824 start most (4 * most) ⟨[], 0, .full⟩) :=
 RI.go hl h0 hs1 _ _ ⟨by simp, by simp, by simp, .inr ⟨rfl, rfl⟩⟩
theorem under_bas' (n : Nat) (L : List Ba) : AVal.underL n (L.map Ba.V) = true := under_bas n L
theorem row_spec (l : List Int) (hl : l.length ≤ 140737488355328) (start : Int) (h0 : 0 ≤ start) (hs1 : start ≤ 1099511627776) (most : Nat) (hm : most ≤ 900) (H : Heap) :
  ∃ f, W n_keep_Row [.list 1 (ints .i64 l) .ro, .int .i64 start, .int .i64 (most : Nat)] H = some (.list 7 ((rowOf l start most).map Ba.V) f, H) ∧ (f = .ro ∨ (f = .full ∧ rowOf l start most = [])) := by
 obtain ⟨M, h⟩ := row_loop l hl start h0 hs1 most hm H (4 * most) 0 ⟨[], 0, .full⟩ [] (by omega) ⟨by simp, by simp, by simp, .inr ⟨rfl, rfl⟩⟩
 have hr := (row_ri l hl start h0 hs1 most).fl
 unfold rowOf
 generalize rowGo l 1073741824 start most (4 * most) ⟨[], 0, .full⟩ = R at *
 obtain ⟨L, a, fl⟩ := R
 simp only [Int.natCast_zero] at h hr ⊢
 unfold tapeB mdB at h
 simp only [List.map_nil, Int.natCast_zero] at h
 rcases hr with rfl | ⟨rfl, rfl⟩
 ·refine ⟨.ro, ?_, .inl rfl⟩
  refine W_fn rfl rfl ?_
  simp only [go_sem, c_keep_Row, h, under_bas, simprocAttr]
 ·refine ⟨.full, ?_, .inr ⟨rfl, rfl⟩⟩
  refine W_fn rfl rfl ?_
  simp only [go_sem, c_keep_Row, h, under_bas, simprocAttr]
abbrev prE (p : Pr) : AVal × AVal := (.int .i64 p.id, p.V)
abbrev mapB (M : List Pr) : Box := .map (M.map prE)
abbrev tblB (j : Nat) : Box := .cells [.map (some j)]
def idxM (id : Int) (M : List Pr) : Option Nat := M.findIdx? fun p => p.id == id
def getM (id : Int) (M : List Pr) : Option Pr := (idxM id M).bind fun i => M[i]?
def setM (M : List Pr) (x : Pr) : List Pr := match idxM x.id M with | some i => M.set i x | none => M ++ [x]
theorem findK_m (id : Int) (M : List Pr) : findK id (M.map prE) = idxM id M := by
 unfold findK idxM
 rw [List.findIdx?_map]
 rfl
theorem all_m (M : List Pr) : ((M.map prE).all fun p => keyOK .i64 p.1) = true := by
 rw [List.all_eq_true]
 intro p hp
 obtain ⟨q, _, rfl⟩ := List.mem_map.1 hp
 simp [keyOK]
abbrev zPr : AVal := .agg [.int .i64 0, .int .i64 0, .list 3 [] .full, .int .i64 0]
theorem getM_some {id : Int} {M : List Pr} {i : Nat} (h : idxM id M = some i) : ∃ p, M[i]? = some p ∧ getM id M = some p := by
 have h' := h
 unfold idxM at h'
 rw [List.findIdx?_eq_some_iff_getElem] at h'
 obtain ⟨hi, _⟩ := h'
 exact ⟨M[i], List.getElem?_eq_getElem hi, by unfold getM; rw [h]; simp [hi]⟩
theorem look_m (id : Int) (M : List Pr) (j : Nat) (H : Heap) (hj : H[j]? = some (mapB M)) :
  evLookup .i64 zPr true (.map (some j)) (.int .i64 id) H = some (.tuple [((getM id M).getD zeroPr).V, .bool (getM id M).isSome]) := by
 simp only [evLookup, hj]
 rw [if_pos ⟨trivial, all_m M⟩, findK_m]
 unfold lookA
 cases h : idxM id M with
 | none =>
  have : getM id M = none := by unfold getM; rw [h]; rfl
  rw [this]
  rfl
 | some i =>
  obtain ⟨p, h1, h2⟩ := getM_some h
  rw [h2]
  have : (M.map prE)[i]? = some (prE p) := by rw [List.getElem?_map, h1]; rfl
  simp only [this]
  rfl
theorem set_m (x : Pr) (M : List Pr) (j : Nat) (H : Heap) (hj : H[j]? = some (mapB M)) :
  evMapSet .i64 (.map (some j)) (.int .i64 x.id) x.V H = some (.tuple [], H.set j (mapB (setM M x))) := by
 simp only [evMapSet, hj]
 rw [if_pos ⟨trivial, all_m M, rfl⟩, findK_m]
 unfold setM
 cases h : idxM x.id M with
 | none =>
  simp only [setA]
  rw [show mapB (M ++ [x]) = .map (M.map prE ++ [prE x]) by simp [mapB]]
  rfl
 | some i =>
  simp only [setA]
  rw [show mapB (M.set i x) = .map ((M.map prE).set i (prE x)) by simp [mapB, List.map_set]]
  rfl
def stepM (M : List Pr) (b : Ba) : List Pr := if rightE b ≠ 0 ∨ b.prod < 0 then M else setM M (applyP ((getM b.prod M).getD zeroPr) (getM b.prod M).isSome b)
def stepD (M : List Pr) (b : Ba) : Option La :=
 if rightE b ≠ 0 ∨ b.prod < 0 then none
 else match getM b.prod M with
  | some p => if b.mark = 2 ∧ p.open_ ≥ 0 then some (b.prod, p.open_, b.base) else none
  | none => none
theorem applyP_id (p : Pr) (k : Bool) (b : Ba) : (applyP p k b).id = b.prod := by
 unfold applyP; split <;> rfl
theorem idxM_mem {id : Int} {M : List Pr} {i : Nat} (h : idxM id M = some i) : ∃ p, M[i]? = some p ∧ p.id = id := by
 unfold idxM at h
 rw [List.findIdx?_eq_some_iff_getElem] at h
 obtain ⟨hi, h1, _⟩ := h
 exact ⟨M[i], List.getElem?_eq_getElem hi, by simpa using h1⟩
theorem getM_find (id : Int) (M : List Pr) : getM id M = M.find? (fun p => p.id == id) := by
 unfold getM idxM
 induction M with
 | nil => rfl
 | cons p M ih =>
  rw [List.findIdx?_cons, List.find?_cons]
  cases h : p.id == id with
  | true => simp
  | false =>
   simp only [Bool.false_eq_true, if_false]
   rw [← ih]
   cases List.findIdx? (fun p => p.id == id) M <;> simp
theorem getM_set (id : Int) (M : List Pr) (x : Pr) : getM id (setM M x) = if id = x.id then some x else getM id M := by
 unfold setM
 cases h : idxM x.id M with
 | none =>
  simp only
  rw [getM_find, getM_find, List.find?_append]
  have hno : M.find? (fun p => p.id == x.id) = none := by rw [← getM_find]; unfold getM; rw [h]; rfl
  by_cases hid : id = x.id
  ·subst hid; rw [if_pos rfl, hno]; simp
  ·rw [if_neg hid]
   have : [x].find? (fun p => p.id == id) = none := by simp; exact fun e => hid e.symm
   rw [this]; cases M.find? (fun p => p.id == id) <;> rfl
 | some i =>
  simp only
  unfold idxM at h
  rw [List.findIdx?_eq_some_iff_getElem] at h
  obtain ⟨hi, h1, h2⟩ := h
  rw [getM_find, getM_find]
  induction M generalizing i with
  | nil => simp at hi
  | cons p M ih =>
   cases i with
   | zero =>
    simp only [List.set_cons_zero, List.find?_cons]
    simp only [List.getElem_cons_zero, beq_iff_eq] at h1
    by_cases hid : id = x.id
    ·subst hid; simp
    ·rw [if_neg hid]
     have e1 : (x.id == id) = false := by simp; exact fun e => hid e.symm
     have e2 : (p.id == id) = false := by simp; rw [h1]; exact fun e => hid e.symm
     rw [e1, e2]
   | succ i =>
    simp only [List.set_cons_succ, List.find?_cons]
    have h0 := h2 0 (by omega)
    simp only [List.getElem_cons_zero, Bool.not_eq_true] at h0
    have ih' := ih i (by simpa using hi) (by simpa using h1) (fun j hj => by simpa using h2 (j + 1) (by omega))
    by_cases hid : id = x.id
    ·subst hid
     rw [h0, if_pos rfl]; rw [if_pos rfl] at ih'; exact ih'
    ·rw [if_neg hid] at ih' ⊢
     rw [ih']
theorem flatB_m (M : List Pr) : Box.flatB (.map (M.map prE)) = true := by
 simp only [Box.flatB, List.all_eq_true, Bool.and_eq_true]
 intro p hp
 obtain ⟨q, _, rfl⟩ := List.mem_map.1 hp
 exact ⟨rfl, by show AVal.under 0 (.agg q.cs) = true; simp only [AVal.under]; exact under_pr 0 q⟩
theorem getM_mem {id : Int} {M : List Pr} {p : Pr} (h : getM id M = some p) : p ∈ M := by
 rw [getM_find] at h; exact List.mem_of_find?_eq_some h
theorem right_prod {b : Ba} (h : rightE b = 0) : -1 ≤ b.prod := by
 have key : noneB b = true ∨ namedB b = true := by
  unfold rightE at h
  split at h
  ·cases h
  split at h
  ·unfold dataE at h
   cases hn : noneB b with
   | true => exact .inl rfl
   | false =>
    cases hm : namedB b with
    | true => exact .inr rfl
    | false => simp [hn, hm] at h
  ·unfold markE at h
   cases hm : namedB b with
   | true => exact .inr rfl
   | false => simp [hm] at h
 rcases key with h1 | h1
 ·unfold noneB at h1
  simp at h1; omega
 ·unfold namedB at h1
  simp at h1; omega
set_option maxHeartbeats 2000000 in
theorem tbl_apply_spec (M : List Pr) (hM : ∀ p ∈ M, p.last.length ≤ 1000) (b : Ba) (hb : BOK b) (hr : b.recs.length ≤ 1000) (i j : Nat) (H : Heap) (hi : Old H i (tblB j)) (hj : Old H j (mapB M)) :
  W n_table_Table_Apply [.ptr i 0, b.V] H = some (.tuple [laV (optLa (stepD M b)), .bool (stepD M b).isSome], H.set j (mapB (stepM M b))) := by
 have tr := fun H => right_spec b hb H
 by_cases hc : rightE b ≠ 0 ∨ b.prod < 0
 ·rw [show stepD M b = none by unfold stepD; rw [if_pos hc], show stepM M b = M by unfold stepM; rw [if_pos hc], hj.same]
  by_cases c1 : rightE b = 0
  ·have c2 : b.prod = -1 := by
    have h2 : b.prod < 0 := by rcases hc with h | h; exact absurd c1 h; exact h
    have h3 := right_prod c1
    omega
   rw [c1] at tr
   unfold Ba.V Ba.cs at *
   refine W_fn rfl rfl ?_
   simp only [go_sem, c_table_Table_Apply, tr, eq_true c2, simprocAttr]
   rfl
  ·unfold Ba.V Ba.cs at *
   refine W_fn rfl rfl ?_
   simp only [go_sem, c_table_Table_Apply, tr, c1, simprocAttr]
   rfl
 ·have c1 : rightE b = 0 := by omega
  have c2 : ¬ b.prod = -1 := by omega
  rw [c1] at tr
  rw [show stepM M b = setM M (applyP ((getM b.prod M).getD zeroPr) (getM b.prod M).isSome b) by unfold stepM; rw [if_neg hc]]
  have hq : ((getM b.prod M).getD zeroPr).last.length ≤ 1000 := by
   cases h : getM b.prod M with
   | none => simp [zeroPr]
   | some p => exact hM p (getM_mem h)
  have hd : stepD M b = if (getM b.prod M).isSome = true ∧ b.mark = 2 ∧ ((getM b.prod M).getD zeroPr).open_ ≥ 0 then some (b.prod, ((getM b.prod M).getD zeroPr).open_, b.base) else none := by
   unfold stepD
   rw [if_neg hc]
   cases h : getM b.prod M with
   | none => simp
   | some p => simp
  rw [hd]
  have lk := fun N => look_m b.prod M j (hx H N) (hj.get N)
  generalize (getM b.prod M).getD zeroPr = q at *
  generalize (getM b.prod M).isSome = known at *
  have hxid := applyP_id q known b
  have tp := fun H => papply_spec q known b hq hr H
  have sm : ∀ N, evMapSet .i64 (.map (some j)) (.int .i64 b.prod) (applyP q known b).V (hx H N) = some (.tuple [], hx (H.set j (mapB (setM M (applyP q known b)))) N) := fun N => by
   have := set_m (applyP q known b) M j (hx H N) (hj.get N)
   rw [hxid, hj.set] at this
   exact this
  generalize applyP q known b = x at *
  have fm := flatB_m (setM M x)
  generalize setM M x = M2 at *
  have gi := hi.get
  unfold Pr.V Pr.cs at *
  unfold Ba.V Ba.cs at *
  refine W_fnS rfl rfl ?_
  cases known with
  | false =>
   rw [if_neg (by simp)]
   by_cases c3 : b.mark = 2
   ·simp only [go_sem, c_table_Table_Apply, tr, c2, gi, lk, tp, sm, eq_true c3, fm, simprocAttr]
    rfl
   ·simp only [go_sem, c_table_Table_Apply, tr, c2, gi, lk, tp, sm, c3, fm, simprocAttr]
    rfl
  | true =>
   by_cases c3 : b.mark = 2
   ·by_cases c4 : q.open_ ≥ 0
    ·rw [if_pos ⟨rfl, c3, c4⟩]
     have c5 : ¬ q.open_ < 0 := by omega
     simp only [go_sem, c_table_Table_Apply, tr, c2, gi, lk, tp, sm, eq_true c3, c5, fm, simprocAttr]
     rfl
    ·rw [if_neg (fun h => c4 h.2.2)]
     have c5 : q.open_ < 0 := by omega
     simp only [go_sem, c_table_Table_Apply, tr, c2, gi, lk, tp, sm, eq_true c3, c5, fm, simprocAttr]
     rfl
   ·rw [if_neg (fun h => c3 h.2.1)]
    simp only [go_sem, c_table_Table_Apply, tr, c2, gi, lk, tp, sm, c3, fm, simprocAttr]
    rfl
theorem tbl_new_spec (H : Heap) : W n_table_New [] H = some (.ptr (pt H 1) 0, hx H [.map [], .cells [.map (some (pt H 0))]]) := by
 refine W_fnS rfl rfl ?_
 have f1 : ∀ k, fillN [AVal.map none] [(0, 1)] [AVal.map (some k)] = some [AVal.map (some k)] := fun k => rfl
 simp only [go_sem, c_table_New, f1, hx_len, hx_app, simprocAttr]
 first | done | rfl
structure MK (M : List Pr) : Prop where
 last : ∀ p ∈ M, p.last.length ≤ 5
theorem setM_mem {M : List Pr} {x p : Pr} (h : p ∈ setM M x) : p ∈ M ∨ p = x := by
 unfold setM at h
 split at h
 ·rcases List.mem_or_eq_of_mem_set h with h | h
  ·exact .inl h
  ·exact .inr h
 ·simp only [List.mem_append, List.mem_singleton] at h; exact h
theorem MK.next {M} (h : MK M) (b : Ba) : MK (stepM M b) := by
 unfold stepM
 split
 ·exact h
 ·refine ⟨fun p hp => ?_⟩
  rcases setM_mem hp with hp | rfl
  ·exact h.last p hp
  ·refine apply_last _ _ _ ?_
   cases hg : getM b.prod M with
   | none => simp [zeroPr]
   | some q => exact h.last q (getM_mem hg)
abbrev rwB (l : List La) (fl : Fl) : Box := .cells [.list 3 (l.map laV) fl]
abbrev RF (l : List La) (fl : Fl) : Prop := fl = .uniq ∨ (fl = .full ∧ l = [])
theorem thC {l : List La} {fl : Fl} (hf : RF l fl) {i : Nat} {H : Heap} (hi : Old H i (rwB l fl)) (e : Env) (N : Heap) (h0 : Env.get e 0 = .ptr i 0) :
  agh (.thawC 0 0) e (hx H N) = some (e, hx (H.set i (.cells [.lbox (pt H N.length)])) (N ++ [.arr 3 (l.map laV)])) := by
 have g := hi.get N
 have s := hi.set N
 have hl : (hx H N).length = pt H N.length := hx_len H N
 rcases hf with rfl | ⟨rfl, rfl⟩
 ·simp only [agh, h0, g, Nat.add_zero, List.getElem?_cons_zero, List.set_cons_zero, s, hl, hx_app]
 ·simp only [agh, h0, g, Nat.add_zero, List.getElem?_cons_zero, List.set_cons_zero, s, hl, hx_app, List.map_nil]
theorem bkC0 {H : Heap} {i : Nat} {B : Box} (hi : Old H i B) (Xs : List AVal) (e : Env) (N : Heap) (h0 : Env.get e 0 = .ptr i 0) :
  agh (.backC 0 0) e (hx (H.set i (.cells [.lbox (pt H 0)])) (.arr 3 Xs :: N)) = some (e, hx (H.set i (.cells [.list 3 Xs .uniq])) (.dead :: N)) := by
 have g := hi.get' (.arr 3 Xs :: N) (.cells [.lbox (pt H 0)])
 have s := fun B' => hi.set' (.arr 3 Xs :: N) (.cells [.lbox (pt H 0)]) B'
 have g2 : (hx (H.set i (.cells [.lbox (pt H 0)])) (.arr 3 Xs :: N))[pt H 0]? = some (.arr 3 Xs) := by rw [hx_getS]; rfl
 simp only [agh, h0, g, Nat.add_zero, List.getElem?_cons_zero, List.set_cons_zero, g2, s, hx_setS]
theorem bkC1 {H : Heap} {i : Nat} {B : Box} (hi : Old H i B) (Xs : List AVal) (e : Env) (C : Box) (N : Heap) (h0 : Env.get e 0 = .ptr i 0) :
  agh (.backC 0 0) e (hx (H.set i (.cells [.lbox (pt H 1)])) (C :: .arr 3 Xs :: N)) = some (e, hx (H.set i (.cells [.list 3 Xs .uniq])) (C :: .dead :: N)) := by
 have g := hi.get' (C :: .arr 3 Xs :: N) (.cells [.lbox (pt H 1)])
 have s := fun B' => hi.set' (C :: .arr 3 Xs :: N) (.cells [.lbox (pt H 1)]) B'
 have g2 : (hx (H.set i (.cells [.lbox (pt H 1)])) (C :: .arr 3 Xs :: N))[pt H 1]? = some (.arr 3 Xs) := by rw [hx_getS]; rfl
 simp only [agh, h0, g, Nat.add_zero, List.getElem?_cons_zero, List.set_cons_zero, g2, s, hx_setS, List.set_cons_succ]
theorem apV (sz bytes xs ys) : evAppend sz bytes true (.list sz xs .uniq) ys = gd (decide ((xs.length + ys.length) * bytes ≤ maxBytes)) (some (.list sz (xs ++ ys) .uniq)) := by
 unfold gd; by_cases h : (xs.length + ys.length) * bytes ≤ maxBytes <;> simp [evAppend, h]
theorem abnew_spec (H : Heap) : W n_aborts_New [] H = some (.ptr (pt H 0) 0, hx H [.cells [.list 3 [] .full]]) := by
 refine W_fnS rfl rfl ?_
 simp only [go_sem, c_aborts_New, simprocAttr]
 first | done | rfl
def abOK (l : List La) (d : La) : Bool :=
 decide (¬ d.1 < 0) && (decide (¬ d.2.1 < 0) && (decide (¬ d.2.2 ≤ d.2.1) && (decide (¬ d.2.2 > 1099511627776) && (match l.getLast? with | none => true | some q => decide (¬ d.2.2 ≤ q.2.2)))))
def abL (l : List La) (d : La) : List La := if abOK l d = true then l ++ [d] else l
theorem abL_len {l d} : (abL l d).length ≤ l.length + 1 := by unfold abL; split <;> simp
def abPre (d : La) : Bool := decide (d.1 < 0) || (decide (d.2.1 < 0) || (decide (d.2.2 ≤ d.2.1) || decide (d.2.2 > 1099511627776)))
def abF (d : La) (fl : Fl) : Fl := if abPre d = true then fl else .uniq
theorem abPre_no {l d} (h : abPre d = true) : abOK l d = false := by
 unfold abPre at h
 simp only [Bool.or_eq_true, decide_eq_true_eq] at h
 unfold abOK
 rcases h with h | h | h | h <;> simp [h]
theorem abF_ok {l d fl} (h : RF l fl) : RF (abL l d) (abF d fl) := by
 unfold abF
 split
 ·rename_i hp
  unfold abL
  rw [abPre_no hp, if_neg (by decide)]
  exact h
 ·exact .inl rfl
theorem abadd_spec (l : List La) (hn : l.length ≤ 1000000000000) (fl : Fl) (hfl : RF l fl) (d : La) (i : Nat) (H : Heap) (hi : Old H i (rwB l fl)) :
  W n_aborts_Row_Add [.ptr i 0, laV d] H = some (.bool (abOK l d), H.set i (rwB (abL l d) (abF d fl))) := by
 have hthC := thC hfl hi
 have hbk := bkC1 hi (l.map laV)
 have gs := hi.set
 have gi' := hi.get'
 have gs' := hi.set'
 have u := fun n => under_la n l
 obtain ⟨d1, d2, d3⟩ := d
 have hpre : abPre (d1, d2, d3) = true → W n_aborts_Row_Add [.ptr i 0, laV (d1, d2, d3)] H = some (.bool false, H) → W n_aborts_Row_Add [.ptr i 0, laV (d1, d2, d3)] H = some (.bool (abOK l (d1, d2, d3)), H.set i (rwB (abL l (d1, d2, d3)) (abF (d1, d2, d3) fl))) := by
  intro h0 h1
  unfold abL abF
  rw [h0, abPre_no h0, if_neg (by decide), if_pos rfl, hi.same]; exact h1
 by_cases c1 : d1 < 0
 ·refine hpre (by simp [abPre, c1]) ?_
  unfold laV
  refine W_fn rfl rfl ?_
  simp only [go_sem, c_aborts_Row_Add, c1, simprocAttr]
 by_cases c2 : d2 < 0
 ·refine hpre (by simp [abPre, c2]) ?_
  unfold laV
  refine W_fn rfl rfl ?_
  simp only [go_sem, c_aborts_Row_Add, c1, c2, simprocAttr]
 by_cases c3 : d3 ≤ d2
 ·refine hpre (by simp [abPre, c3]) ?_
  unfold laV
  refine W_fn rfl rfl ?_
  simp only [go_sem, c_aborts_Row_Add, c1, c2, c3, simprocAttr]
 by_cases c4 : d3 > 1099511627776
 ·refine hpre (by simp [abPre, c4]) ?_
  unfold laV
  refine W_fn rfl rfl ?_
  simp only [go_sem, c_aborts_Row_Add, c1, c2, c3, c4, simprocAttr]
 have hF : abF (d1, d2, d3) fl = .uniq := by unfold abF; rw [if_neg (by simp [abPre]; omega)]
 have b1 : (l.length + 1) * 24 ≤ maxBytes := by simp only [maxBytes]; omega
 have b0 : (0 + 1) * 24 ≤ maxBytes := by decide
 rw [hF]
 rcases List.eq_nil_or_concat l with h0 | ⟨l', q, h0⟩
 ·have hk : abOK l (d1, d2, d3) = true := by simp [abOK, h0, c1, c2, c3, c4]
  unfold abL
  rw [hk, if_pos rfl]
  have hpos : ¬ ((0 : Int) > 0) := by decide
  subst h0
  simp only [List.map_nil] at hthC hbk
  show W n_aborts_Row_Add [.ptr i 0, .agg [.int .i64 d1, .int .i64 d2, .int .i64 d3]] H = _
  refine W_fnS rfl rfl ?_
  simp only [go_sem, c_aborts_Row_Add, hthC, hbk, gs, gi', gs', pt_set, hx_getS, hx_setS, c1, c2, c3, c4, hpos, List.length_nil, Int.natCast_zero, List.nil_append, List.map_nil, List.map_cons, b0, apV, simprocAttr]
  rfl
 ·rw [List.concat_eq_append] at h0
  have hln : l.length = l'.length + 1 := by rw [h0]; simp
  have hpos : (l.length : Int) > 0 := by omega
  have w1 : IntKind.i64.wrap ((l.length : Int) - 1) = ((l'.length : Nat) : Int) := by rw [wrap_id (by unfold I64; omega)]; omega
  have e0 : (0 : Int) ≤ ((l'.length : Nat) : Int) := by omega
  have e2 : ((l'.length : Nat) : Int) < (l.length : Int) := by omega
  have e7 : ((l'.length : Nat) : Int).toNat = l'.length := by omega
  have e1 : (l.map laV)[l'.length]? = some (.agg [.int .i64 q.1, .int .i64 q.2.1, .int .i64 q.2.2]) := by rw [h0]; simp [laV]
  by_cases c5 : d3 ≤ q.2.2
  ·have hk : abOK l (d1, d2, d3) = false := by simp [abOK, h0, c5]
   unfold abL
   rw [hk, if_neg (by decide)]
   show W n_aborts_Row_Add [.ptr i 0, .agg [.int .i64 d1, .int .i64 d2, .int .i64 d3]] H = _
   refine W_fnS rfl rfl ?_
   simp only [go_sem, c_aborts_Row_Add, hthC, hbk, gs, gi', gs', pt_set, hx_getS, hx_setS, c1, c2, c3, c4, List.length_map, hpos, w1, e0, e2, e7, e1, c5, u, simprocAttr]
   first | done | rfl
  ·have hk : abOK l (d1, d2, d3) = true := by simp [abOK, h0, c1, c2, c3, c4, c5]
   unfold abL
   rw [hk, if_pos rfl]
   have a1 : l.map laV ++ [.agg [.int .i64 d1, .int .i64 d2, .int .i64 d3]] = (l ++ [(d1, d2, d3)]).map laV := by simp [laV]
   have u2 := fun n => under_la n (l ++ [(d1, d2, d3)])
   generalize l ++ [(d1, d2, d3)] = l2 at *
   show W n_aborts_Row_Add [.ptr i 0, .agg [.int .i64 d1, .int .i64 d2, .int .i64 d3]] H = _
   refine W_fnS rfl rfl ?_
   simp only [go_sem, c_aborts_Row_Add, hthC, hbk, gs, gi', gs', pt_set, hx_getS, hx_setS, c1, c2, c3, c4, List.length_map, hpos, w1, e0, e2, e7, e1, c5, b1, apV, a1, u, u2, simprocAttr]
   first | done | rfl
def abOf : List Ba → List Pr → List La → List La
 | [], _, l => l
 | b :: bs, M, l => abOf bs (stepM M b) (match stepD M b with | some d => abL l d | none => l)
set_option maxHeartbeats 1000000 in
theorem abof_loop (A : List Ba) (hA : ∀ b ∈ A, BOK b) (hR : ∀ b ∈ A, b.recs.length ≤ 1000) (hn : A.length ≤ 1000) (H : Heap) (r : List Ba) : ∀ (q : List Ba) (M : List Pr) (l : List La) (fl : Fl) (N : Heap), A = q ++ r → MK M → l.length ≤ q.length → RF l fl →
  ∃ N' fl', loopA W loopW (.ghost (.kill k_aborts_Of_0) l_aborts_Of_0) [(3, .ptr (pt H 0) 0), (4, .ptr (pt H 2) 0), (11, .list 7 (A.map Ba.V) .ro), (12, .int .i64 (A.length : Nat)), (13, .int .i64 (q.length : Nat))] (hx H (rwB l fl :: mapB M :: tblB (pt H 1) :: N)) =
   some (.exit 0, [(3, .ptr (pt H 0) 0)], hx H (rwB (abOf r M l) fl' :: N')) ∧ RF (abOf r M l) fl' ∧ (abOf r M l).length ≤ A.length := by
 induction r with
 | nil =>
  intro q M l fl N hq hM hl hfl
  rw [List.append_nil] at hq
  subst hq
  refine ⟨mapB M :: tblB (pt H 1) :: N, fl, ?_, hfl, hl⟩
  have h1 : ¬ ((A.length : Int) < (A.length : Int)) := by omega
  rw [show abOf [] M l = l from rfl]
  refine loop_step l_aborts_Of_0.eq_1 k_aborts_Of_0.eq_1 (by kernel_rfl) ?_
  simp only [go_sem, h1, simprocAttr]
 | cons b r ih =>
  intro q M l fl N hq hM hl hfl
  have hlen : q.length < A.length := by rw [hq]; simp
  have h1 : ((q.length : Int) < (A.length : Int)) := by omega
  have e0 : (0 : Int) ≤ (q.length : Int) := by omega
  have e7 : ((q.length : Nat) : Int).toNat = q.length := by omega
  have e1 : (A.map Ba.V)[q.length]? = some (.agg [.int .i64 b.base, .int .i64 b.prod, .int .i64 b.epoch, .int .i64 b.seq, .bool b.txn, .int .i64 b.mark, .list 2 (b.recs.map rcV) .ro]) := by rw [hq]; simp [Ba.V, Ba.cs]
  have e6 : IntKind.i64.wrap ((q.length : Int) + 1) = ((q.length + 1 : Nat) : Int) := by rw [wrap_id (by unfold I64; omega)]; omega
  have hbo := hA b (by rw [hq]; simp)
  have hbr := hR b (by rw [hq]; simp)
  have ta := fun N => tbl_apply_spec M (fun p hp => by have := hM.last p hp; omega) b hbo hbr (pt H 2) (pt H 1) (hx H (rwB l fl :: mapB M :: tblB (pt H 1) :: N)) ⟨by rw [hx_get]; rfl⟩ ⟨by rw [hx_get]; rfl⟩
  simp only [hx_set, List.set_cons_succ, List.set_cons_zero] at ta
  have n1 : ∀ x : Box, (N ++ [x])[N.length]? = some x := fun x => by simp
  have n2 : ∀ x z : Box, (N ++ [x]).set N.length z = N ++ [z] := fun x z => by simp
  have hab : abOf (b :: r) M l = abOf r (stepM M b) (match stepD M b with | some d => abL l d | none => l) := rfl
  rw [hab]
  cases hd : stepD M b with
  | none =>
   simp only
   obtain ⟨N', fl', h2, h3, h4⟩ := ih (q ++ [b]) (stepM M b) l fl (N ++ [.cells b.cs, .cells [.int .i64 0, .int .i64 0, .int .i64 0]]) (by rw [hq]; simp) (hM.next b) (by simp; omega) hfl
   refine ⟨N', fl', ?_, h3, h4⟩
   rw [hd] at ta
   simp only [List.length_append, List.length_cons, List.length_nil, Nat.zero_add] at h2
   simp only [optLa, Option.isSome_none, laV] at ta
   generalize stepM M b = M2 at *
   unfold Ba.V Ba.cs at *
   refine loop_step l_aborts_Of_0.eq_1 k_aborts_Of_0.eq_1 (by kernel_rfl) ?_
   simp only [go_sem, h1, e0, e7, e1, ta, n1, n2, e6, List.length_append, simprocAttr]
   exact h2
  | some d =>
   simp only
   obtain ⟨N', fl', h2, h3, h4⟩ := ih (q ++ [b]) (stepM M b) (abL l d) (abF d fl) (N ++ [.cells b.cs, .cells [.int .i64 d.1, .int .i64 d.2.1, .int .i64 d.2.2]]) (by rw [hq]; simp) (hM.next b) (by have := @abL_len l d; simp; omega) (abF_ok hfl)
   refine ⟨N', fl', ?_, h3, h4⟩
   rw [hd] at ta
   simp only [List.length_append, List.length_cons, List.length_nil, Nat.zero_add] at h2
   have tb := fun M2 N => abadd_spec l (by omega) fl hfl d (pt H 0) (hx H (rwB l fl :: M2 :: N)) ⟨by rw [hx_get]; rfl⟩
   simp only [hx_set, List.set_cons_zero, laV] at tb
   simp only [optLa, Option.isSome_some, laV] at ta
   generalize stepM M b = M2 at *
   generalize abL l d = l2 at *
   generalize abF d fl = f2 at *
   generalize abOK l d = ok at *
   unfold Ba.V Ba.cs at *
   refine loop_step l_aborts_Of_0.eq_1 k_aborts_Of_0.eq_1 (by kernel_rfl) ?_
   simp only [go_sem, h1, e0, e7, e1, ta, tb, n1, n2, e6, List.length_append, simprocAttr]
   exact h2
theorem abof_spec (A : List Ba) (hA : ∀ b ∈ A, BOK b) (hR : ∀ b ∈ A, b.recs.length ≤ 1000) (hn : A.length ≤ 1000) (H : Heap) :
  ∃ N fl, W n_aborts_Of [.list 7 (A.map Ba.V) .ro] H = some (.ptr (pt H 0) 0, hx H (rwB (abOf A [] []) fl :: N)) ∧ RF (abOf A [] []) fl ∧ (abOf A [] []).length ≤ A.length := by
 obtain ⟨N, fl, h, h3, h4⟩ := abof_loop A hA hR hn H A [] [] [] .full [] rfl ⟨by simp⟩ (by simp) (.inr ⟨rfl, rfl⟩)
 refine ⟨N, fl, W_fnS rfl rfl ?_, h3, h4⟩
 have g0 : ((([] : List Ba).length : Nat) : Int) = 0 := rfl
 rw [g0] at h
 have ta := abnew_spec (hx H [])
 have tn := fun L => tbl_new_spec (hx H L)
 simp only [rwB, mapB, List.map_nil] at h
 generalize abOf A [] [] = R at *
 simp only [go_sem, c_aborts_Of, List.length_map, ta, tn, h, simprocAttr]
 first | done | rfl
def inR (lo hi : Int) (d : La) : Bool := decide (mx d.2.1 lo ≤ d.2.2) && decide (mx d.2.1 lo < hi)
theorem within_loop (l : List La) (hn : l.length ≤ 100000) (lo hi : Int) (i : Nat) (H : Heap) (r : List La) : ∀ (p out : List La) (fl : Fl) (N : Heap), l = p ++ r → out.length ≤ p.length → (fl = .own ∨ (fl = .full ∧ out = [])) →
  ∃ N' fl', loopA W loopW (.ghost (.kill k_aborts_Row_Within_0) l_aborts_Row_Within_0) [(0, .ptr i 0), (1, .int .i64 lo), (2, .int .i64 hi), (7, .list 3 (out.map laV) fl), (13, .lbox (pt H 0)), (14, .int .i64 (l.length : Nat)), (15, .int .i64 (p.length : Nat))] (hx H (.arr 3 (l.map laV) :: N)) =
   some (.exit 0, [(0, .ptr i 0), (7, .list 3 ((out ++ r.filter (inR lo hi)).map laV) fl')], hx H (.arr 3 (l.map laV) :: N')) ∧ (fl' = .own ∨ (fl' = .full ∧ out ++ r.filter (inR lo hi) = [])) := by
 induction r with
 | nil =>
  intro p out fl N hp ho hfl
  rw [List.append_nil] at hp
  subst hp
  rw [List.filter_nil, List.append_nil]
  refine ⟨N, fl, ?_, hfl⟩
  have h1 : ¬ ((l.length : Int) < (l.length : Int)) := by omega
  refine loop_step l_aborts_Row_Within_0.eq_1 k_aborts_Row_Within_0.eq_1 (by kernel_rfl) ?_
  simp only [go_sem, h1, simprocAttr]
 | cons d r ih =>
  intro p out fl N hp ho hfl
  have hlen : l.length = p.length + (r.length + 1) := by rw [hp]; simp
  have h1 : ((p.length : Int) < (l.length : Int)) := by omega
  have e0 : (0 : Int) ≤ (p.length : Int) := by omega
  have e7 : ((p.length : Nat) : Int).toNat = p.length := by omega
  have e1 : (l.map laV)[p.length]? = some (.agg [.int .i64 d.1, .int .i64 d.2.1, .int .i64 d.2.2]) := by rw [hp]; simp [laV]
  have e6 : IntKind.i64.wrap ((p.length : Int) + 1) = ((p.length + 1 : Nat) : Int) := by rw [wrap_id (by unfold I64; omega)]; omega
  have n1 : ∀ x : Box, (N ++ [x])[N.length]? = some x := fun x => by simp
  have n2 : ∀ x z : Box, (N ++ [x]).set N.length z = N ++ [z] := fun x z => by simp
  have bb : (out.length + 1) * 24 ≤ maxBytes := by simp only [maxBytes]; omega
  have b0 : (0 + 1) * 24 ≤ maxBytes := by decide
  have e8 : out.map laV ++ [.agg [.int .i64 d.1, .int .i64 d.2.1, .int .i64 d.2.2]] = (out ++ [d]).map laV := by simp [laV]
  rw [List.filter_cons]
  by_cases c1 : mx d.2.1 lo ≤ d.2.2
  ·by_cases c2 : mx d.2.1 lo < hi
   ·have hk : inR lo hi d = true := by simp [inR, c1, c2]
    rw [hk, if_pos rfl]
    obtain ⟨N', fl', h2, h3⟩ := ih (p ++ [d]) (out ++ [d]) .own (N ++ [.cells [.int .i64 d.1, .int .i64 d.2.1, .int .i64 d.2.2]]) (by rw [hp]; simp) (by simp; omega) (.inl rfl)
    rw [List.append_assoc, List.cons_append, List.nil_append] at h2 h3
    simp only [List.length_append, List.length_cons, List.length_nil, Nat.zero_add] at h2
    refine ⟨N', fl', ?_, h3⟩
    refine loop_step l_aborts_Row_Within_0.eq_1 k_aborts_Row_Within_0.eq_1 (by kernel_rfl) ?_
    rcases hfl with rfl | ⟨rfl, rfl⟩
    ·simp only [go_sem, h1, e0, e7, e1, n1, n2, c1, c2, List.length_map, apO, bb, e8, e6, simprocAttr]
     exact h2
    ·simp only [List.map_nil, List.nil_append] at *
     simp only [go_sem, h1, e0, e7, e1, n1, n2, c1, c2, List.length_map, List.length_nil, apF, b0, List.nil_append, e6, simprocAttr]
     rw [e8]
     exact h2
   ·have hk : inR lo hi d = false := by simp [inR, c2]
    rw [hk, if_neg (by decide)]
    obtain ⟨N', fl', h2, h3⟩ := ih (p ++ [d]) out fl (N ++ [.cells [.int .i64 d.1, .int .i64 d.2.1, .int .i64 d.2.2]]) (by rw [hp]; simp) (by simp; omega) hfl
    simp only [List.length_append, List.length_cons, List.length_nil, Nat.zero_add] at h2
    refine ⟨N', fl', ?_, h3⟩
    refine loop_step l_aborts_Row_Within_0.eq_1 k_aborts_Row_Within_0.eq_1 (by kernel_rfl) ?_
    simp only [go_sem, h1, e0, e7, e1, n1, n2, c1, c2, List.length_map, e6, simprocAttr]
    exact h2
  ·have hk : inR lo hi d = false := by simp [inR, c1]
   rw [hk, if_neg (by decide)]
   obtain ⟨N', fl', h2, h3⟩ := ih (p ++ [d]) out fl (N ++ [.cells [.int .i64 d.1, .int .i64 d.2.1, .int .i64 d.2.2]]) (by rw [hp]; simp) (by simp; omega) hfl
   simp only [List.length_append, List.length_cons, List.length_nil, Nat.zero_add] at h2
   refine ⟨N', fl', ?_, h3⟩
   refine loop_step l_aborts_Row_Within_0.eq_1 k_aborts_Row_Within_0.eq_1 (by kernel_rfl) ?_
   simp only [go_sem, h1, e0, e7, e1, n1, n2, c1, List.length_map, e6, simprocAttr]
   exact h2
theorem abwithin_spec (l : List La) (hn : l.length ≤ 100000) (fl : Fl) (hfl : RF l fl) (lo hi : Int) (i : Nat) (H : Heap) (hi' : Old H i (rwB l fl)) :
  ∃ f, W n_aborts_Row_Within [.ptr i 0, .int .i64 lo, .int .i64 hi] H = some (.list 3 ((l.filter (inR lo hi)).map laV) f, H.set i (rwB l .uniq)) ∧ (f = .own ∨ (f = .full ∧ l.filter (inR lo hi) = [])) := by
 have hth := thC hfl hi'
 have hbk := bkC0 hi' (l.map laV)
 have gi' := hi'.get'
 obtain ⟨N, f, h, hf⟩ := within_loop l hn lo hi i (H.set i (.cells [.lbox (pt H 0)])) l [] [] .full [] rfl (by simp) (.inr ⟨rfl, rfl⟩)
 simp only [List.length_nil, Int.natCast_zero, List.map_nil, List.nil_append, pt_set] at h hf
 have u := fun n => under_la n l
 refine ⟨f, ?_, hf⟩
 generalize l.filter (inR lo hi) = R at *
 refine W_fnS rfl rfl ?_
 rcases hf with rfl | ⟨rfl, rfl⟩
 ·have u2 := fun n => under_la n R
  simp only [go_sem, c_aborts_Row_Within, hth, hbk, gi', pt_set, hx_getS, hx_setS, List.length_map, h, u, u2, simprocAttr]
  first | done | rfl
 ·simp only [List.map_nil] at h ⊢
  simp only [go_sem, c_aborts_Row_Within, hth, hbk, gi', pt_set, hx_getS, hx_setS, List.length_map, h, u, simprocAttr]
  first | done | rfl
theorem eq_la (x : La) : eqCells [.int .i64, .int .i64, .int .i64] [.int .i64 x.1, .int .i64 x.2.1, .int .i64 x.2.2] [.int .i64 x.1, .int .i64 x.2.1, .int .i64 x.2.2] = some true := by
 simp [eqCells]
def foldM : List Ba → List Pr → List Pr
 | [], M => M
 | b :: l, M => foldM l (stepM M b)
theorem foldM_ok : ∀ (A : List Ba) (M : List Pr), MK M → MK (foldM A M)
 | [], _, h => h
 | b :: A, M, h => foldM_ok A _ (h.next b)
theorem tfold_loop (A : List Ba) (hA : ∀ b ∈ A, BOK b) (hR : ∀ b ∈ A, b.recs.length ≤ 1000) (hn : A.length ≤ 1000) (H : Heap) (r : List Ba) : ∀ (q : List Ba) (M : List Pr) (N : Heap), A = q ++ r → MK M →
  ∃ N', loopA W loopW (.ghost (.kill k_table_Fold_0) l_table_Fold_0) [(3, .ptr (pt H 1) 0), (7, .list 7 (A.map Ba.V) .ro), (8, .int .i64 (A.length : Nat)), (9, .int .i64 (q.length : Nat))] (hx H (mapB M :: tblB (pt H 0) :: N)) =
   some (.exit 0, [(3, .ptr (pt H 1) 0)], hx H (mapB (foldM r M) :: tblB (pt H 0) :: N')) := by
 induction r with
 | nil =>
  intro q M N hq hM
  rw [List.append_nil] at hq
  subst hq
  refine ⟨N, ?_⟩
  have h1 : ¬ ((A.length : Int) < (A.length : Int)) := by omega
  rw [show foldM [] M = M from rfl]
  refine loop_step l_table_Fold_0.eq_1 k_table_Fold_0.eq_1 (by kernel_rfl) ?_
  simp only [go_sem, h1, simprocAttr]
 | cons b r ih =>
  intro q M N hq hM
  have hlen : q.length < A.length := by rw [hq]; simp
  have h1 : ((q.length : Int) < (A.length : Int)) := by omega
  have e0 : (0 : Int) ≤ (q.length : Int) := by omega
  have e7 : ((q.length : Nat) : Int).toNat = q.length := by omega
  have e1 : (A.map Ba.V)[q.length]? = some (.agg [.int .i64 b.base, .int .i64 b.prod, .int .i64 b.epoch, .int .i64 b.seq, .bool b.txn, .int .i64 b.mark, .list 2 (b.recs.map rcV) .ro]) := by rw [hq]; simp [Ba.V, Ba.cs]
  have e6 : IntKind.i64.wrap ((q.length : Int) + 1) = ((q.length + 1 : Nat) : Int) := by rw [wrap_id (by unfold I64; omega)]; omega
  have hbo := hA b (by rw [hq]; simp)
  have hbr := hR b (by rw [hq]; simp)
  have ta := fun N => tbl_apply_spec M (fun p hp => by have := hM.last p hp; omega) b hbo hbr (pt H 1) (pt H 0) (hx H (mapB M :: tblB (pt H 0) :: N)) ⟨by rw [hx_get]; rfl⟩ ⟨by rw [hx_get]; rfl⟩
  simp only [hx_set, List.set_cons_zero] at ta
  have n1 : ∀ x x' : Box, (N ++ [x])[N.length]? = some x := fun x x' => by simp
  have n2 : ∀ x z : Box, (N ++ [x]).set N.length z = N ++ [z] := fun x z => by simp
  obtain ⟨N', h2⟩ := ih (q ++ [b]) (stepM M b) (N ++ [.cells b.cs]) (by rw [hq]; simp) (hM.next b)
  refine ⟨N', ?_⟩
  rw [show foldM (b :: r) M = foldM r (stepM M b) from rfl]
  simp only [List.length_append, List.length_cons, List.length_nil, Nat.zero_add] at h2
  generalize stepM M b = M2 at *
  generalize stepD M b = D at *
  unfold Ba.V Ba.cs at *
  unfold laV at ta
  refine loop_step l_table_Fold_0.eq_1 k_table_Fold_0.eq_1 (by kernel_rfl) ?_
  simp only [go_sem, h1, e0, e7, e1, ta, n1, n2, e6, simprocAttr]
  exact h2
theorem tfold_spec (A : List Ba) (hA : ∀ b ∈ A, BOK b) (hR : ∀ b ∈ A, b.recs.length ≤ 1000) (hn : A.length ≤ 1000) (H : Heap) :
  ∃ N, W n_table_Fold [.list 7 (A.map Ba.V) .ro] H = some (.ptr (pt H 1) 0, hx H (mapB (foldM A []) :: tblB (pt H 0) :: N)) := by
 obtain ⟨N, h⟩ := tfold_loop A hA hR hn H A [] [] [] rfl ⟨by simp⟩
 have g0 : ((([] : List Ba).length : Nat) : Int) = 0 := rfl
 rw [g0] at h
 refine ⟨N, W_fnS rfl rfl ?_⟩
 have tn := tbl_new_spec (hx H [])
 have h' : loopA W loopW (.ghost (.kill k_table_Fold_0) l_table_Fold_0) [(3, .ptr (pt H 1) 0), (7, .list 7 (A.map Ba.V) .ro), (8, .int .i64 (A.length : Nat)), (9, .int .i64 0)] (hx H [.map [], .cells [.map (some (pt H 0))]]) = _ := h
 simp only [go_sem, c_table_Fold, List.length_map, tn, h', simprocAttr]
 first | done | rfl
end Go.Abs
