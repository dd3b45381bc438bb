import Derived.Test.YtmfmhbpggmgbbaaBS3
set_option linter.unusedVariables false
set_option linter.unusedSimpArgs false
namespace Go.Abs.Pq
open Go Go.RowKit
def rightQ (n : Int) : Bool := decide (0 ≤ n ∧ n ≤ 2147483647)
def addQ (n k : Int) : Int := if rightQ n = true then (n + k) % 2147483648 else -1
def lastQ (f c : Int) : Int := if 1 ≤ c ∧ c ≤ 16 then addQ f (c - 1) else -1
def followsQ (l f : Int) : Bool := if l = -1 then decide (f = 0) else rightQ l && decide (f = addQ l 1)
def gapQ (a b : Int) : Int := if rightQ a = true ∧ rightQ b = true then (b - a) % 2147483648 else -1
theorem right_spec (n : Int) (H : Heap) : W n_seq_Right [.int .i64 n] H = some (.bool (rightQ n), H) := by
 refine W_fn rfl rfl ?_
 unfold rightQ
 by_cases h1 : n ≥ 0 <;> by_cases h2 : n ≤ 2147483647 <;> simp only [go_sem, c_seq_Right, h1, h2, reduceCtorEq, ↓reduceIte, Nat.reduceAdd, Nat.reduceEqDiff, Nat.reduceLT, Int.reduceLE, Nat.reduceSub, Nat.reduceLeDiff, Nat.reduceMul, Int.reduceToNat, Int.reduceLT, Int.reduceEq, Int.reduceNeg, Nat.reduceBEq, Nat.reduceBNe]
theorem add_spec (n k : Int) (H : Heap) (h0 : 0 ≤ k) (h1 : k ≤ 1000000) : W n_seq_Add [.int .i64 n, .int .i64 k] H = some (.int .i64 (addQ n k), H) := by
 have hs := right_spec n
 refine W_fn rfl rfl ?_
 cases h : rightQ n with
 | false => rw [h] at hs; simp only [go_sem, c_seq_Add, hs, reduceCtorEq, ↓reduceIte, Nat.reduceAdd, Nat.reduceEqDiff, Nat.reduceLT, Int.reduceLE, Nat.reduceSub, Nat.reduceLeDiff, Nat.reduceMul, Int.reduceToNat, Int.reduceLT, Int.reduceEq, Int.reduceNeg, Nat.reduceBEq, Nat.reduceBNe]; simp [addQ, h]
 | true =>
  rw [h] at hs
  have hr : 0 ≤ n ∧ n ≤ 2147483647 := by simpa [rightQ] using h
  have e1 : IntKind.i64.wrap (n + k.tmod 2147483648) = n + k := by
   rw [Int.tmod_eq_emod_of_nonneg h0, wrap_id (by unfold I64; omega)]; omega
  have e2 : IntKind.i64.wrap ((n + k).tmod 2147483648 + 2147483648) = (n + k) % 2147483648 + 2147483648 := by
   rw [Int.tmod_eq_emod_of_nonneg (by omega), wrap_id (by unfold I64; omega)]
  have e3 : ((n + k) % 2147483648 + 2147483648).tmod 2147483648 = (n + k) % 2147483648 := by
   rw [Int.tmod_eq_emod_of_nonneg (by omega)]; omega
  simp only [go_sem, c_seq_Add, hs, e1, e2, e3, addQ, h, reduceCtorEq, ↓reduceIte, Nat.reduceAdd, Nat.reduceEqDiff, Nat.reduceLT, Int.reduceLE, Nat.reduceSub, Nat.reduceLeDiff, Nat.reduceMul, Int.reduceToNat, Int.reduceLT, Int.reduceEq, Int.reduceNeg, Nat.reduceBEq, Nat.reduceBNe]
theorem last_spec (f c : Int) (H : Heap) (hc : I64 c) : W n_seq_Last [.int .i64 f, .int .i64 c] H = some (.int .i64 (lastQ f c), H) := by
 refine W_fn rfl rfl ?_
 by_cases h1 : c < 1
 ·simp only [go_sem, c_seq_Last, h1, lastQ, show ¬ (1 ≤ c ∧ c ≤ 16) by omega, reduceCtorEq, ↓reduceIte, Nat.reduceAdd, Nat.reduceEqDiff, Nat.reduceLT, Int.reduceLE, Nat.reduceSub, Nat.reduceLeDiff, Nat.reduceMul, Int.reduceToNat, Int.reduceLT, Int.reduceEq, Int.reduceNeg, Nat.reduceBEq, Nat.reduceBNe]
 ·by_cases h2 : c > 16
  ·simp only [go_sem, c_seq_Last, h1, h2, lastQ, show ¬ (1 ≤ c ∧ c ≤ 16) by omega, reduceCtorEq, ↓reduceIte, Nat.reduceAdd, Nat.reduceEqDiff, Nat.reduceLT, Int.reduceLE, Nat.reduceSub, Nat.reduceLeDiff, Nat.reduceMul, Int.reduceToNat, Int.reduceLT, Int.reduceEq, Int.reduceNeg, Nat.reduceBEq, Nat.reduceBNe]
  ·have ha := fun H => add_spec f (c - 1) H (by omega) (by omega)
   have e1 : IntKind.i64.wrap (c - 1) = c - 1 := wrap_id (by unfold I64 at *; omega)
   simp only [go_sem, c_seq_Last, h1, h2, lastQ, show (1 ≤ c ∧ c ≤ 16) by omega, e1, ha, reduceCtorEq, ↓reduceIte, Nat.reduceAdd, Nat.reduceEqDiff, Nat.reduceLT, Int.reduceLE, Nat.reduceSub, Nat.reduceLeDiff, Nat.reduceMul, Int.reduceToNat, Int.reduceLT, Int.reduceEq, Int.reduceNeg, Nat.reduceBEq, Nat.reduceBNe]
structure Pr where
 id : Int
 ep : Int
 last : List (Int × Int × Int)
 op : Int
structure Ba where
 base : Int
 prod : Int
 ep : Int
 seq : Int
 txn : Bool
 mark : Int
 recs : List AVal
abbrev t3 (t : Int × Int × Int) : AVal := .agg [.int .i64 t.1, .int .i64 t.2.1, .int .i64 t.2.2]
abbrev lastV (l : List (Int × Int × Int)) (fl : Fl) : AVal := .list 3 (l.map t3) fl
abbrev Pr.v (p : Pr) : AVal := .agg [.int .i64 p.id, .int .i64 p.ep, lastV p.last .ro, .int .i64 p.op]
abbrev Ba.v (b : Ba) : AVal := .agg [.int .i64 b.base, .int .i64 b.prod, .int .i64 b.ep, .int .i64 b.seq, .bool b.txn, .int .i64 b.mark, .list 2 b.recs .ro]
def dupQ (p : Pr) (b : Ba) : List (Int × Int × Int) → Int × Bool
 | [] => (-1, false)
 | l :: ls => if b.mark = 0 ∧ b.ep = p.ep ∧ l.1 = b.seq ∧ l.2.1 = lastQ b.seq b.recs.length then (l.2.2, true) else dupQ p b ls
def checkQ (p : Pr) (known : Bool) (b : Ba) : Int × Int :=
 if b.mark ≠ 0 then (-1, if known = false then 16 else if b.ep < p.ep then 14 else if p.op < 0 then 16 else 0)
 else if known = false then (-1, 0)
 else if b.ep < p.ep then (-1, 14)
 else if b.ep > p.ep then (-1, if p.op ≥ 0 then 16 else if b.seq ≠ 0 then 15 else 0)
 else if (dupQ p b p.last).2 = true then ((dupQ p b p.last).1, 0)
 else if p.last ≠ [] ∧ followsQ (p.last.getLastD (0, 0, 0)).2.1 b.seq = false then (-1, 15)
 else if p.op ≥ 0 ∧ b.txn = false then (-1, 16)
 else (-1, 0)
def applyQ (p : Pr) (known : Bool) (b : Ba) : Pr :=
 let op := if known then p.op else -1
 let l := if known = true ∧ b.ep = p.ep then p.last else []
 if b.mark ≠ 0 then ⟨b.prod, b.ep, l, -1⟩
 else
  let l2 := l ++ [(b.seq, lastQ b.seq b.recs.length, b.base)]
  ⟨b.prod, b.ep, l2.drop (l2.length - 5), if b.txn = true ∧ op < 0 then b.base else op⟩
theorem apply_spec (p : Pr) (k : Bool) (b : Ba) (H : Heap) (hl : p.last.length < 1000000) (hr : b.recs.length < 1000000000) :
  W n_producer_Apply [p.v, .bool k, b.v] H = some ((applyQ p k b).v, H) := by
 have hlast := fun H => last_spec b.seq (b.recs.length : Int) H (by unfold I64; omega)
 have hcl : (p.last.map t3).length * 24 ≤ maxBytes := by simp [maxBytes]; omega
 have u1 : ∀ l : List (Int × Int × Int), AVal.underL 0 (l.map t3) = true := fun l => uL_map 0 t3 (fun _ => rfl) l
 by_cases c1 : b.mark = 0
 ·have key : ∀ (l : List (Int × Int × Int)), l.length ≤ p.last.length →
   ((l.map t3).length + 1) * 24 ≤ maxBytes ∧
   (l.map t3 ++ [AVal.agg [.int .i64 b.seq, .int .i64 (lastQ b.seq b.recs.length), .int .i64 b.base]]) = (l ++ [(b.seq, lastQ b.seq b.recs.length, b.base)]).map t3 ∧
   ((l ++ [(b.seq, lastQ b.seq b.recs.length, b.base)]).map t3).length = l.length + 1 ∧
   IntKind.i64.wrap (((l.length + 1 : Nat) : Int) - 5) = (l.length : Int) - 4 := by
   intro l hl'
   refine ⟨by simp [maxBytes]; omega, by simp, by simp, by rw [wrap_id (by unfold I64; omega)]; omega⟩
  have tail : ∀ (l : List (Int × Int × Int)), l.length ≤ p.last.length → 
   (0 : Int) ≤ mx 0 ((l.length : Int) - 4) ∧ mx 0 ((l.length : Int) - 4) ≤ ((l.length + 1 : Nat) : Int) ∧
   ((l ++ [(b.seq, lastQ b.seq b.recs.length, b.base)]).map t3).drop (mx 0 ((l.length : Int) - 4)).toNat = ((l ++ [(b.seq, lastQ b.seq b.recs.length, b.base)]).drop ((l ++ [(b.seq, lastQ b.seq b.recs.length, b.base)]).length - 5)).map t3 ∧
   (((l ++ [(b.seq, lastQ b.seq b.recs.length, b.base)]).drop ((l ++ [(b.seq, lastQ b.seq b.recs.length, b.base)]).length - 5)).map t3).length * 24 ≤ maxBytes := by
   intro l hl'
   have h : (mx 0 ((l.length : Int) - 4)).toNat = (l ++ [(b.seq, lastQ b.seq b.recs.length, b.base)]).length - 5 := by
    rw [List.length_append]; simp only [List.length_cons, List.length_nil]; unfold mx; split <;> omega
   refine ⟨by unfold mx; split <;> omega, by unfold mx; split <;> omega, by rw [h, List.map_drop], by simp [maxBytes]; omega⟩
  obtain ⟨k1, k2, k3, k4⟩ := key p.last (Nat.le_refl _)
  obtain ⟨t1, t2, t3', t4⟩ := tail p.last (Nat.le_refl _)
  have w1 : IntKind.i64.wrap (1 - 5) = -4 := by decide
  have w2 : mx 0 (-4) = 0 := by decide
  have w3 : (0 + 1) * 24 ≤ maxBytes := by decide
  have w4 : 1 * 24 ≤ maxBytes := by decide
  refine W_fn rfl rfl ?_
  cases k with
  | false =>
   by_cases c5 : b.txn = true
   ·simp only [go_sem, c_producer_Apply, eq_true c1, c5, applyQ, u1, hlast, apF, w1, w2, w3, w4, slL, W_slices_Clone_3_int64_3_int64_, Pr.v, reduceCtorEq, ↓reduceIte, Nat.reduceAdd, Nat.reduceEqDiff, Nat.reduceLT, Int.reduceLE, Nat.reduceSub, Nat.reduceLeDiff, Nat.reduceMul, Int.reduceToNat, Int.reduceLT, Int.reduceEq, Int.reduceNeg, Nat.reduceBEq, Nat.reduceBNe]; rfl
   ·simp only [go_sem, c_producer_Apply, eq_true c1, c5, applyQ, u1, hlast, apF, w1, w2, w3, w4, slL, W_slices_Clone_3_int64_3_int64_, Pr.v, reduceCtorEq, ↓reduceIte, Nat.reduceAdd, Nat.reduceEqDiff, Nat.reduceLT, Int.reduceLE, Nat.reduceSub, Nat.reduceLeDiff, Nat.reduceMul, Int.reduceToNat, Int.reduceLT, Int.reduceEq, Int.reduceNeg, Nat.reduceBEq, Nat.reduceBNe]; rfl
  | true =>
   by_cases c2 : b.ep = p.ep
   ·by_cases c5 : b.txn = true
    ·by_cases c6 : p.op < 0
     ·simp only [go_sem, c_producer_Apply, eq_true c1, eq_true c2, c5, c6, applyQ, u1, hlast, apO, k1, k2, k3, k4, t1, t2, t3', t4, hcl, slL, W_slices_Clone_3_int64_3_int64_, Pr.v, reduceCtorEq, ↓reduceIte, Nat.reduceAdd, Nat.reduceEqDiff, Nat.reduceLT, Int.reduceLE, Nat.reduceSub, Nat.reduceLeDiff, Nat.reduceMul, Int.reduceToNat, Int.reduceLT, Int.reduceEq, Int.reduceNeg, Nat.reduceBEq, Nat.reduceBNe]
     ·simp only [go_sem, c_producer_Apply, eq_true c1, eq_true c2, c5, c6, applyQ, u1, hlast, apO, k1, k2, k3, k4, t1, t2, t3', t4, hcl, slL, W_slices_Clone_3_int64_3_int64_, Pr.v, reduceCtorEq, ↓reduceIte, Nat.reduceAdd, Nat.reduceEqDiff, Nat.reduceLT, Int.reduceLE, Nat.reduceSub, Nat.reduceLeDiff, Nat.reduceMul, Int.reduceToNat, Int.reduceLT, Int.reduceEq, Int.reduceNeg, Nat.reduceBEq, Nat.reduceBNe]
    ·simp only [go_sem, c_producer_Apply, eq_true c1, eq_true c2, c5, applyQ, u1, hlast, apO, k1, k2, k3, k4, t1, t2, t3', t4, hcl, slL, W_slices_Clone_3_int64_3_int64_, Pr.v, reduceCtorEq, ↓reduceIte, Nat.reduceAdd, Nat.reduceEqDiff, Nat.reduceLT, Int.reduceLE, Nat.reduceSub, Nat.reduceLeDiff, Nat.reduceMul, Int.reduceToNat, Int.reduceLT, Int.reduceEq, Int.reduceNeg, Nat.reduceBEq, Nat.reduceBNe]
   ·by_cases c5 : b.txn = true
    ·by_cases c6 : p.op < 0
     ·simp only [go_sem, c_producer_Apply, eq_true c1, c2, c5, c6, applyQ, u1, hlast, apF, w1, w2, w3, w4, slL, W_slices_Clone_3_int64_3_int64_, Pr.v, reduceCtorEq, ↓reduceIte, Nat.reduceAdd, Nat.reduceEqDiff, Nat.reduceLT, Int.reduceLE, Nat.reduceSub, Nat.reduceLeDiff, Nat.reduceMul, Int.reduceToNat, Int.reduceLT, Int.reduceEq, Int.reduceNeg, Nat.reduceBEq, Nat.reduceBNe]; rfl
     ·simp only [go_sem, c_producer_Apply, eq_true c1, c2, c5, c6, applyQ, u1, hlast, apF, w1, w2, w3, w4, slL, W_slices_Clone_3_int64_3_int64_, Pr.v, reduceCtorEq, ↓reduceIte, Nat.reduceAdd, Nat.reduceEqDiff, Nat.reduceLT, Int.reduceLE, Nat.reduceSub, Nat.reduceLeDiff, Nat.reduceMul, Int.reduceToNat, Int.reduceLT, Int.reduceEq, Int.reduceNeg, Nat.reduceBEq, Nat.reduceBNe]; rfl
    ·simp only [go_sem, c_producer_Apply, eq_true c1, c2, c5, applyQ, u1, hlast, apF, w1, w2, w3, w4, slL, W_slices_Clone_3_int64_3_int64_, Pr.v, reduceCtorEq, ↓reduceIte, Nat.reduceAdd, Nat.reduceEqDiff, Nat.reduceLT, Int.reduceLE, Nat.reduceSub, Nat.reduceLeDiff, Nat.reduceMul, Int.reduceToNat, Int.reduceLT, Int.reduceEq, Int.reduceNeg, Nat.reduceBEq, Nat.reduceBNe]; rfl
 ·refine W_fn rfl rfl ?_
  cases k with
  | false => simp only [go_sem, c_producer_Apply, c1, applyQ, u1, Pr.v, reduceCtorEq, ↓reduceIte, Nat.reduceAdd, Nat.reduceEqDiff, Nat.reduceLT, Int.reduceLE, Nat.reduceSub, Nat.reduceLeDiff, Nat.reduceMul, Int.reduceToNat, Int.reduceLT, Int.reduceEq, Int.reduceNeg, Nat.reduceBEq, Nat.reduceBNe]; rfl
  | true =>
   by_cases c2 : b.ep = p.ep
   ·simp only [go_sem, c_producer_Apply, c1, eq_true c2, applyQ, u1, W_slices_Clone_3_int64_3_int64_, hcl, reduceCtorEq, ↓reduceIte, Nat.reduceAdd, Nat.reduceEqDiff, Nat.reduceLT, Int.reduceLE, Nat.reduceSub, Nat.reduceLeDiff, Nat.reduceMul, Int.reduceToNat, Int.reduceLT, Int.reduceEq, Int.reduceNeg, Nat.reduceBEq, Nat.reduceBNe]
   ·simp only [go_sem, c_producer_Apply, c1, c2, applyQ, u1, Pr.v, reduceCtorEq, ↓reduceIte, Nat.reduceAdd, Nat.reduceEqDiff, Nat.reduceLT, Int.reduceLE, Nat.reduceSub, Nat.reduceLeDiff, Nat.reduceMul, Int.reduceToNat, Int.reduceLT, Int.reduceEq, Int.reduceNeg, Nat.reduceBEq, Nat.reduceBNe]; rfl
end Go.Abs.Pq
namespace Go.Abs
open Go Go.RowKit
def toP (p : Pr) : Pq.Pr := ⟨p.id, p.epoch, p.last, p.open_⟩
def toB (b : Ba) : Pq.Ba := ⟨b.base, b.prod, b.epoch, b.seq, b.txn, b.mark, b.recs.map rcV⟩
theorem toP_v (p : Pr) : (toP p).v = p.V := rfl
theorem toB_v (b : Ba) : (toB b).v = b.V := rfl
theorem rightQ_eq (n : Int) : Pq.rightQ n = seqR n := by
 unfold Pq.rightQ seqR
 by_cases h : n ≥ 0 <;> by_cases k : n ≤ 2147483647 <;> simp [h, k]
 all_goals omega
theorem addQ_eq (n k : Int) : Pq.addQ n k = addS n k := by unfold Pq.addQ addS; rw [rightQ_eq]
theorem lastQ_eq (n c : Int) : Pq.lastQ n c = lastS n c := by
 unfold Pq.lastQ lastS
 rw [addQ_eq]
 by_cases h : 1 ≤ c ∧ c ≤ 16
 ·rw [if_pos h, if_neg (by omega)]
 ·rw [if_neg h, if_pos (by omega)]
theorem applyQ_eq (p : Pr) (k : Bool) (b : Ba) : Pq.applyQ (toP p) k (toB b) = toP (applyP p k b) := by
 have hl : (if k = true ∧ b.epoch = p.epoch then p.last else []) = lastsP p k b := by
  unfold lastsP
  by_cases h : k = true ∧ b.epoch = p.epoch
  ·rw [if_pos h, if_pos ⟨h.1, h.2.symm⟩]
  ·rw [if_neg h, if_neg (fun q => h ⟨q.1, q.2.symm⟩)]
 have hll : (b.recs.map rcV).length = b.recs.length := List.length_map _
 have h : Pq.applyQ (toP p) k (toB b) = (if b.mark ≠ 0 then (⟨b.prod, b.epoch, if k = true ∧ b.epoch = p.epoch then p.last else [], -1⟩ : Pq.Pr)
  else ⟨b.prod, b.epoch, ((if k = true ∧ b.epoch = p.epoch then p.last else []) ++ [(b.seq, Pq.lastQ b.seq (b.recs.map rcV).length, b.base)]).drop (((if k = true ∧ b.epoch = p.epoch then p.last else []) ++ [(b.seq, Pq.lastQ b.seq (b.recs.map rcV).length, b.base)]).length - 5), if b.txn = true ∧ openP p k < 0 then b.base else openP p k⟩) := rfl
 rw [h, hl, hll, lastQ_eq]
 unfold applyP
 by_cases c : b.mark ≠ 0
 ·rw [if_pos c, if_pos c]; rfl
 ·rw [if_neg c, if_neg c]; rfl
theorem papply_spec (p : Pr) (k : Bool) (b : Ba) (hl : p.last.length ≤ 1000) (hr : b.recs.length ≤ 1000) (H : Heap) :
  W n_producer_Apply [p.V, .bool k, b.V] H = some ((applyP p k b).V, H) := by
 have := Pq.apply_spec (toP p) k (toB b) H (by show p.last.length < _; omega) (by simp only [toB, List.length_map]; omega)
 rw [toP_v, toB_v, applyQ_eq, toP_v] at this
 exact this
abbrev prE (p : Pr) : AVal × AVal := (.int .i64 p.id, p.V)
abbrev mapB (M : List Pr) : Box := .map (M.map prE)
abbrev tblB (j : Nat) : Box := .cells [.map (some j)]
def idxM (id : Int) (M : List Pr) : Option Nat := M.findIdx? fun p => p.id == id
def getM (id : Int) (M : List Pr) : Option Pr := (idxM id M).bind fun i => M[i]?
def setM (M : List Pr) (x : Pr) : List Pr := match idxM x.id M with | some i => M.set i x | none => M ++ [x]
theorem findK_m (id : Int) (M : List Pr) : findK id (M.map prE) = idxM id M := by
 unfold findK idxM
 rw [List.findIdx?_map]
 rfl
theorem all_m (M : List Pr) : ((M.map prE).all fun p => keyOK .i64 p.1) = true := by
 rw [List.all_eq_true]
 intro p hp
 obtain ⟨q, _, rfl⟩ := List.mem_map.1 hp
 simp [keyOK]
abbrev zPr : AVal := .agg [.int .i64 0, .int .i64 0, .list 3 [] .full, .int .i64 0]
theorem getM_some {id : Int} {M : List Pr} {i : Nat} (h : idxM id M = some i) : ∃ p, M[i]? = some p ∧ getM id M = some p := by
 have h' := h
 unfold idxM at h'
 rw [List.findIdx?_eq_some_iff_getElem] at h'
 obtain ⟨hi, _⟩ := h'
 exact ⟨M[i], List.getElem?_eq_getElem hi, by unfold getM; rw [h]; simp [hi]⟩
theorem look_m (id : Int) (M : List Pr) (j : Nat) (H : Heap) (hj : H[j]? = some (mapB M)) :
  evLookup .i64 zPr true (.map (some j)) (.int .i64 id) H = some (.tuple [((getM id M).getD zeroPr).V, .bool (getM id M).isSome]) := by
 simp only [evLookup, hj]
 rw [if_pos ⟨trivial, all_m M⟩, findK_m]
 unfold lookA
 cases h : idxM id M with
 | none =>
  have : getM id M = none := by unfold getM; rw [h]; rfl
  rw [this]
  rfl
 | some i =>
  obtain ⟨p, h1, h2⟩ := getM_some h
  rw [h2]
  have : (M.map prE)[i]? = some (prE p) := by rw [List.getElem?_map, h1]; rfl
  simp only [this]
  rfl
theorem set_m (x : Pr) (M : List Pr) (j : Nat) (H : Heap) (hj : H[j]? = some (mapB M)) :
  evMapSet .i64 (.map (some j)) (.int .i64 x.id) x.V H = some (.tuple [], H.set j (mapB (setM M x))) := by
 simp only [evMapSet, hj]
 rw [if_pos ⟨trivial, all_m M, rfl⟩, findK_m]
 unfold setM
 cases h : idxM x.id M with
 | none =>
  simp only [setA]
  rw [show mapB (M ++ [x]) = .map (M.map prE ++ [prE x]) by simp [mapB]]
  rfl
 | some i =>
  simp only [setA]
  rw [show mapB (M.set i x) = .map ((M.map prE).set i (prE x)) by simp [mapB, List.map_set]]
  rfl
def stepM (M : List Pr) (b : Ba) : List Pr := if rightE b ≠ 0 ∨ b.prod < 0 then M else setM M (applyP ((getM b.prod M).getD zeroPr) (getM b.prod M).isSome b)
def stepD (M : List Pr) (b : Ba) : Option La :=
 if rightE b ≠ 0 ∨ b.prod < 0 then none
 else match getM b.prod M with
  | some p => if b.mark = 2 ∧ p.open_ ≥ 0 then some (b.prod, p.open_, b.base) else none
  | none => none
theorem applyP_id (p : Pr) (k : Bool) (b : Ba) : (applyP p k b).id = b.prod := by
 unfold applyP; split <;> rfl
theorem idxM_mem {id : Int} {M : List Pr} {i : Nat} (h : idxM id M = some i) : ∃ p, M[i]? = some p ∧ p.id = id := by
 unfold idxM at h
 rw [List.findIdx?_eq_some_iff_getElem] at h
 obtain ⟨hi, h1, _⟩ := h
 exact ⟨M[i], List.getElem?_eq_getElem hi, by simpa using h1⟩
theorem getM_find (id : Int) (M : List Pr) : getM id M = M.find? (fun p => p.id == id) := by
 unfold getM idxM
 induction M with
 | nil => rfl
 | cons p M ih =>
  rw [List.findIdx?_cons, List.find?_cons]
  cases h : p.id == id with
  | true => simp
  | false =>
   simp only [Bool.false_eq_true, if_false]
   rw [← ih]
   cases List.findIdx? (fun p => p.id == id) M <;> simp
theorem getM_set (id : Int) (M : List Pr) (x : Pr) : getM id (setM M x) = if id = x.id then some x else getM id M := by
 unfold setM
 cases h : idxM x.id M with
 | none =>
  simp only
  rw [getM_find, getM_find, List.find?_append]
  have hno : M.find? (fun p => p.id == x.id) = none := by rw [← getM_find]; unfold getM; rw [h]; rfl
  by_cases hid : id = x.id
  ·subst hid; rw [if_pos rfl, hno]; simp
  ·rw [if_neg hid]
   have : [x].find? (fun p => p.id == id) = none := by simp; exact fun e => hid e.symm
   rw [this]; cases M.find? (fun p => p.id == id) <;> rfl
 | some i =>
  simp only
  unfold idxM at h
  rw [List.findIdx?_eq_some_iff_getElem] at h
  obtain ⟨hi, h1, h2⟩ := h
  rw [getM_find, getM_find]
  induction M generalizing i with
  | nil => simp at hi
  | cons p M ih =>
   cases i with
   | zero =>
    simp only [List.set_cons_zero, List.find?_cons]
    simp only [List.getElem_cons_zero, beq_iff_eq] at h1
    by_cases hid : id = x.id
    ·subst hid; simp
    ·rw [if_neg hid]
     have e1 : (x.id == id) = false := by simp; exact fun e => hid e.symm
     have e2 : (p.id == id) = false := by simp; rw [h1]; exact fun e => hid e.symm
     rw [e1, e2]
   | succ i =>
    simp only [List.set_cons_succ, List.find?_cons]
    have h0 := h2 0 (by omega)
    simp only [List.getElem_cons_zero, Bool.not_eq_true] at h0
    have ih' := ih i (by simpa using hi) (by simpa using h1) (fun j hj => by simpa using h2 (j + 1) (by omega))
    by_cases hid : id = x.id
    ·subst hid
     rw [h0, if_pos rfl]; rw [if_pos rfl] at ih'; exact ih'
    ·rw [if_neg hid] at ih' ⊢
     rw [ih']
theorem flatB_m (M : List Pr) : Box.flatB (.map (M.map prE)) = true := by
 simp only [Box.flatB, List.all_eq_true, Bool.and_eq_true]
 intro p hp
 obtain ⟨q, _, rfl⟩ := List.mem_map.1 hp
 exact ⟨rfl, by show AVal.under 0 (.agg q.cs) = true; simp only [AVal.under]; exact under_pr 0 q⟩
theorem getM_mem {id : Int} {M : List Pr} {p : Pr} (h : getM id M = some p) : p ∈ M := by
 rw [getM_find] at h; exact List.mem_of_find?_eq_some h
theorem right_prod {b : Ba} (h : rightE b = 0) : -1 ≤ b.prod := by
 have key : noneB b = true ∨ namedB b = true := by
  unfold rightE at h
  split at h
  ·cases h
  split at h
  ·unfold dataE at h
   cases hn : noneB b with
   | true => exact .inl rfl
   | false =>
    cases hm : namedB b with
    | true => exact .inr rfl
    | false => simp [hn, hm] at h
  ·unfold markE at h
   cases hm : namedB b with
   | true => exact .inr rfl
   | false => simp [hm] at h
 rcases key with h1 | h1
 ·unfold noneB at h1
  simp at h1; omega
 ·unfold namedB at h1
  simp at h1; omega
set_option maxHeartbeats 2000000 in
theorem tbl_apply_spec (M : List Pr) (hM : ∀ p ∈ M, p.last.length ≤ 1000) (b : Ba) (hb : BOK b) (hr : b.recs.length ≤ 1000) (i j : Nat) (H : Heap) (hi : Old H i (tblB j)) (hj : Old H j (mapB M)) :
  W n_table_Table_Apply [.ptr i 0, b.V] H = some (.tuple [laV (optLa (stepD M b)), .bool (stepD M b).isSome], H.set j (mapB (stepM M b))) := by
 have tr := fun H => right_spec b hb H
 by_cases hc : rightE b ≠ 0 ∨ b.prod < 0
 ·rw [show stepD M b = none by unfold stepD; rw [if_pos hc], show stepM M b = M by unfold stepM; rw [if_pos hc], hj.same]
  by_cases c1 : rightE b = 0
  ·have c2 : b.prod = -1 := by
    have h2 : b.prod < 0 := by rcases hc with h | h; exact absurd c1 h; exact h
    have h3 := right_prod c1
    omega
   rw [c1] at tr
   unfold Ba.V Ba.cs at *
   refine W_fn rfl rfl ?_
   simp only [go_sem, c_table_Table_Apply, tr, eq_true c2, simprocAttr]
   rfl
  ·unfold Ba.V Ba.cs at *
   refine W_fn rfl rfl ?_
   simp only [go_sem, c_table_Table_Apply, tr, c1, simprocAttr]
   rfl
 ·have c1 : rightE b = 0 := by omega
  have c2 : ¬ b.prod = -1 := by omega
  rw [c1] at tr
  rw [show stepM M b = setM M (applyP ((getM b.prod M).getD zeroPr) (getM b.prod M).isSome b) by unfold stepM; rw [if_neg hc]]
  have hq : ((getM b.prod M).getD zeroPr).last.length ≤ 1000 := by
   cases h : getM b.prod M with
   | none => simp [zeroPr]
   | some p => exact hM p (getM_mem h)
  have hd : stepD M b = if (getM b.prod M).isSome = true ∧ b.mark = 2 ∧ ((getM b.prod M).getD zeroPr).open_ ≥ 0 then some (b.prod, ((getM b.prod M).getD zeroPr).open_, b.base) else none := by
   unfold stepD
   rw [if_neg hc]
   cases h : getM b.prod M with
   | none => simp
   | some p => simp
  rw [hd]
  have lk := fun N => look_m b.prod M j (hx H N) (hj.get N)
  generalize (getM b.prod M).getD zeroPr = q at *
  generalize (getM b.prod M).isSome = known at *
  have hxid := applyP_id q known b
  have tp := fun H => papply_spec q known b hq hr H
  have sm : ∀ N, evMapSet .i64 (.map (some j)) (.int .i64 b.prod) (applyP q known b).V (hx H N) = some (.tuple [], hx (H.set j (mapB (setM M (applyP q known b)))) N) := fun N => by
   have := set_m (applyP q known b) M j (hx H N) (hj.get N)
   rw [hxid, hj.set] at this
   exact this
  generalize applyP q known b = x at *
  have fm := flatB_m (setM M x)
  generalize setM M x = M2 at *
  have gi := hi.get
  unfold Pr.V Pr.cs at *
  unfold Ba.V Ba.cs at *
  refine W_fnS rfl rfl ?_
  cases known with
  | false =>
   rw [if_neg (by simp)]
   by_cases c3 : b.mark = 2
   ·simp only [go_sem, c_table_Table_Apply, tr, c2, gi, lk, tp, sm, eq_true c3, fm, simprocAttr]
    rfl
   ·simp only [go_sem, c_table_Table_Apply, tr, c2, gi, lk, tp, sm, c3, fm, simprocAttr]
    rfl
  | true =>
   by_cases c3 : b.mark = 2
   ·by_cases c4 : q.open_ ≥ 0
    ·rw [if_pos ⟨rfl, c3, c4⟩]
     have c5 : ¬ q.open_ < 0 := by omega
     simp only [go_sem, c_table_Table_Apply, tr, c2, gi, lk, tp, sm, eq_true c3, c5, fm, simprocAttr]
     rfl
    ·rw [if_neg (fun h => c4 h.2.2)]
     have c5 : q.open_ < 0 := by omega
     simp only [go_sem, c_table_Table_Apply, tr, c2, gi, lk, tp, sm, eq_true c3, c5, fm, simprocAttr]
     rfl
   ·rw [if_neg (fun h => c3 h.2.1)]
    simp only [go_sem, c_table_Table_Apply, tr, c2, gi, lk, tp, sm, c3, fm, simprocAttr]
    rfl
theorem tbl_new_spec (H : Heap) : W n_table_New [] H = some (.ptr (pt H 1) 0, hx H [.map [], .cells [.map (some (pt H 0))]]) := by
 refine W_fnS rfl rfl ?_
 have f1 : ∀ k, fillN [AVal.map none] [(0, 1)] [AVal.map (some k)] = some [AVal.map (some k)] := fun k => rfl
 simp only [go_sem, c_table_New, f1, hx_len, hx_app, simprocAttr]
 first | done | rfl
structure MK (M : List Pr) : Prop where
 last : ∀ p ∈ M, p.last.length ≤ 5
theorem setM_mem {M : List Pr} {x p : Pr} (h : p ∈ setM M x) : p ∈ M ∨ p = x := by
 unfold setM at h
 split at h
 ·rcases List.mem_or_eq_of_mem_set h with h | h
  ·exact .inl h
  ·exact .inr h
 ·simp only [List.mem_append, List.mem_singleton] at h; exact h
theorem MK.next {M} (h : MK M) (b : Ba) : MK (stepM M b) := by
 unfold stepM
 split
 ·exact h
 ·refine ⟨fun p hp => ?_⟩
  rcases setM_mem hp with hp | rfl
  ·exact h.last p hp
  ·refine apply_last _ _ _ ?_
   cases hg : getM b.prod M with
   | none => simp [zeroPr]
   | some q => exact h.last q (getM_mem hg)
abbrev rwB (l : List La) (fl : Fl) : Box := .cells [.list 3 (l.map laV) fl]
abbrev RF (l : List La) (fl : Fl) : Prop := fl = .uniq ∨ (fl = .full ∧ l = [])
theorem thC {l : List La} {fl : Fl} (hf : RF l fl) {i : Nat} {H : Heap} (hi : Old H i (rwB l fl)) (e : Env) (N : Heap) (h0 : Env.get e 0 = .ptr i 0) :
  agh (.thawC 0 0) e (hx H N) = some (e, hx (H.set i (.cells [.lbox (pt H N.length)])) (N ++ [.arr 3 (l.map laV)])) := by
 have g := hi.get N
 have s := hi.set N
 have hl : (hx H N).length = pt H N.length := hx_len H N
 rcases hf with rfl | ⟨rfl, rfl⟩
 ·simp only [agh, h0, g, Nat.add_zero, List.getElem?_cons_zero, List.set_cons_zero, s, hl, hx_app]
 ·simp only [agh, h0, g, Nat.add_zero, List.getElem?_cons_zero, List.set_cons_zero, s, hl, hx_app, List.map_nil]
theorem bkC0 {H : Heap} {i : Nat} {B : Box} (hi : Old H i B) (Xs : List AVal) (e : Env) (N : Heap) (h0 : Env.get e 0 = .ptr i 0) :
  agh (.backC 0 0) e (hx (H.set i (.cells [.lbox (pt H 0)])) (.arr 3 Xs :: N)) = some (e, hx (H.set i (.cells [.list 3 Xs .uniq])) (.dead :: N)) := by
 have g := hi.get' (.arr 3 Xs :: N) (.cells [.lbox (pt H 0)])
 have s := fun B' => hi.set' (.arr 3 Xs :: N) (.cells [.lbox (pt H 0)]) B'
 have g2 : (hx (H.set i (.cells [.lbox (pt H 0)])) (.arr 3 Xs :: N))[pt H 0]? = some (.arr 3 Xs) := by rw [hx_getS]; rfl
 simp only [agh, h0, g, Nat.add_zero, List.getElem?_cons_zero, List.set_cons_zero, g2, s, hx_setS]
theorem bkC1 {H : Heap} {i : Nat} {B : Box} (hi : Old H i B) (Xs : List AVal) (e : Env) (C : Box) (N : Heap) (h0 : Env.get e 0 = .ptr i 0) :
  agh (.backC 0 0) e (hx (H.set i (.cells [.lbox (pt H 1)])) (C :: .arr 3 Xs :: N)) = some (e, hx (H.set i (.cells [.list 3 Xs .uniq])) (C :: .dead :: N)) := by
 have g := hi.get' (C :: .arr 3 Xs :: N) (.cells [.lbox (pt H 1)])
 have s := fun B' => hi.set' (C :: .arr 3 Xs :: N) (.cells [.lbox (pt H 1)]) B'
 have g2 : (hx (H.set i (.cells [.lbox (pt H 1)])) (C :: .arr 3 Xs :: N))[pt H 1]? = some (.arr 3 Xs) := by rw [hx_getS]; rfl
 simp only [agh, h0, g, Nat.add_zero, List.getElem?_cons_zero, List.set_cons_zero, g2, s, hx_setS, List.set_cons_succ]
theorem apV (sz bytes xs ys) : evAppend sz bytes true (.list sz xs .uniq) ys = gd (decide ((xs.length + ys.length) * bytes ≤ maxBytes)) (some (.list sz (xs ++ ys) .uniq)) := by
 unfold gd; by_cases h : (xs.length + ys.length) * bytes ≤ maxBytes <;> simp [evAppend, h]
theorem abnew_spec (H : Heap) : W n_aborts_New [] H = some (.ptr (pt H 0) 0, hx H [.cells [.list 3 [] .full]]) := by
 refine W_fnS rfl rfl ?_
 simp only [go_sem, c_aborts_New, simprocAttr]
 first | done | rfl
def abOK (l : List La) (d : La) : Bool :=
 decide (¬ d.1 < 0) && (decide (¬ d.2.1 < 0) && (decide (¬ d.2.2 ≤ d.2.1) && (decide (¬ d.2.2 > 1099511627776) && (match l.getLast? with | none => true | some q => decide (¬ d.2.2 ≤ q.2.2)))))
def abL (l : List La) (d : La) : List La := if abOK l d = true then l ++ [d] else l
theorem abL_len {l d} : (abL l d).length ≤ l.length + 1 := by unfold abL; split <;> simp
def abPre (d : La) : Bool := decide (d.1 < 0) || (decide (d.2.1 < 0) || (decide (d.2.2 ≤ d.2.1) || decide (d.2.2 > 1099511627776)))
def abF (d : La) (fl : Fl) : Fl := if abPre d = true then fl else .uniq
theorem abPre_no {l d} (h : abPre d = true) : abOK l d = false := by
 unfold abPre at h
 simp only [Bool.or_eq_true, decide_eq_true_eq] at h
 unfold abOK
 rcases h with h | h | h | h <;> simp [h]
theorem abF_ok {l d fl} (h : RF l fl) : RF (abL l d) (abF d fl) := by
 unfold abF
 split
 ·rename_i hp
  unfold abL
  rw [abPre_no hp, if_neg (by decide)]
  exact h
 ·exact .inl rfl
theorem abadd_spec (l : List La) (hn : l.length ≤ 1000000000000) (fl : Fl) (hfl : RF l fl) (d : La) (i : Nat) (H : Heap) (hi : Old H i (rwB l fl)) :
  W n_aborts_Row_Add [.ptr i 0, laV d] H = some (.bool (abOK l d), H.set i (rwB (abL l d) (abF d fl))) := by
 have hthC := thC hfl hi
 have hbk := bkC1 hi (l.map laV)
 have gs := hi.set
 have gi' := hi.get'
 have gs' := hi.set'
 have u := fun n => under_la n l
 obtain ⟨d1, d2, d3⟩ := d
 have hpre : abPre (d1, d2, d3) = true → W n_aborts_Row_Add [.ptr i 0, laV (d1, d2, d3)] H = some (.bool false, H) → W n_aborts_Row_Add [.ptr i 0, laV (d1, d2, d3)] H = some (.bool (abOK l (d1, d2, d3)), H.set i (rwB (abL l (d1, d2, d3)) (abF (d1, d2, d3) fl))) := by
  intro h0 h1
  unfold abL abF
  rw [h0, abPre_no h0, if_neg (by decide), if_pos rfl, hi.same]; exact h1
 by_cases c1 : d1 < 0
 ·refine hpre (by simp [abPre, c1]) ?_
  unfold laV
  refine W_fn rfl rfl ?_
  simp only [go_sem, c_aborts_Row_Add, c1, simprocAttr]
 by_cases c2 : d2 < 0
 ·refine hpre (by simp [abPre, c2]) ?_
  unfold laV
  refine W_fn rfl rfl ?_
  simp only [go_sem, c_aborts_Row_Add, c1, c2, simprocAttr]
 by_cases c3 : d3 ≤ d2
 ·refine hpre (by simp [abPre, c3]) ?_
  unfold laV
  refine W_fn rfl rfl ?_
  simp only [go_sem, c_aborts_Row_Add, c1, c2, c3, simprocAttr]
 by_cases c4 : d3 > 1099511627776
 ·refine hpre (by simp [abPre, c4]) ?_
  unfold laV
  refine W_fn rfl rfl ?_
  simp only [go_sem, c_aborts_Row_Add, c1, c2, c3, c4, simprocAttr]
 have hF : abF (d1, d2, d3) fl = .uniq := by unfold abF; rw [if_neg (by simp [abPre]; omega)]
 have b1 : (l.length + 1) * 24 ≤ maxBytes := by simp only [maxBytes]; omega
 have b0 : (0 + 1) * 24 ≤ maxBytes := by decide
 rw [hF]
 rcases List.eq_nil_or_concat l with h0 | ⟨l', q, h0⟩
 ·have hk : abOK l (d1, d2, d3) = true := by simp [abOK, h0, c1, c2, c3, c4]
  unfold abL
  rw [hk, if_pos rfl]
  have hpos : ¬ ((0 : Int) > 0) := by decide
  subst h0
  simp only [List.map_nil] at hthC hbk
  show W n_aborts_Row_Add [.ptr i 0, .agg [.int .i64 d1, .int .i64 d2, .int .i64 d3]] H = _
  refine W_fnS rfl rfl ?_
  simp only [go_sem, c_aborts_Row_Add, hthC, hbk, gs, gi', gs', pt_set, hx_getS, hx_setS, c1, c2, c3, c4, hpos, List.length_nil, Int.natCast_zero, List.nil_append, List.map_nil, List.map_cons, b0, apV, simprocAttr]
  rfl
 ·rw [List.concat_eq_append] at h0
  have hln : l.length = l'.length + 1 := by rw [h0]; simp
  have hpos : (l.length : Int) > 0 := by omega
  have w1 : IntKind.i64.wrap ((l.length : Int) - 1) = ((l'.length : Nat) : Int) := by rw [wrap_id (by unfold I64; omega)]; omega
  have e0 : (0 : Int) ≤ ((l'.length : Nat) : Int) := by omega
  have e2 : ((l'.length : Nat) : Int) < (l.length : Int) := by omega
  have e7 : ((l'.length : Nat) : Int).toNat = l'.length := by omega
  have e1 : (l.map laV)[l'.length]? = some (.agg [.int .i64 q.1, .int .i64 q.2.1, .int .i64 q.2.2]) := by rw [h0]; simp [laV]
  by_cases c5 : d3 ≤ q.2.2
  ·have hk : abOK l (d1, d2, d3) = false := by simp [abOK, h0, c5]
   unfold abL
   rw [hk, if_neg (by decide)]
   show W n_aborts_Row_Add [.ptr i 0, .agg [.int .i64 d1, .int .i64 d2, .int .i64 d3]] H = _
   refine W_fnS rfl rfl ?_
   simp only [go_sem, c_aborts_Row_Add, hthC, hbk, gs, gi', gs', pt_set, hx_getS, hx_setS, c1, c2, c3, c4, List.length_map, hpos, w1, e0, e2, e7, e1, c5, u, simprocAttr]
   first | done | rfl
  ·have hk : abOK l (d1, d2, d3) = true := by simp [abOK, h0, c1, c2, c3, c4, c5]
   unfold abL
   rw [hk, if_pos rfl]
   have a1 : l.map laV ++ [.agg [.int .i64 d1, .int .i64 d2, .int .i64 d3]] = (l ++ [(d1, d2, d3)]).map laV := by simp [laV]
   have u2 := fun n => under_la n (l ++ [(d1, d2, d3)])
   generalize l ++ [(d1, d2, d3)] = l2 at *
   show W n_aborts_Row_Add [.ptr i 0, .agg [.int .i64 d1, .int .i64 d2, .int .i64 d3]] H = _
   refine W_fnS rfl rfl ?_
   simp only [go_sem, c_aborts_Row_Add, hthC, hbk, gs, gi', gs', pt_set, hx_getS, hx_setS, c1, c2, c3, c4, List.length_map, hpos, w1, e0, e2, e7, e1, c5, b1, apV, a1, u, u2, simprocAttr]
   first | done | rfl
def abOf : List Ba → List Pr → List La → List La
 | [], _, l => l
 | b :: bs, M, l => abOf bs (stepM M b) (match stepD M b with | some d => abL l d | none => l)
set_option maxHeartbeats 1000000 in
theorem abof_loop (A : List Ba) (hA : ∀ b ∈ A, BOK b) (hR : ∀ b ∈ A, b.recs.length ≤ 1000) (hn : A.length ≤ 1000) (H : Heap) (r : List Ba) : ∀ (q : List Ba) (M : List Pr) (l : List La) (fl : Fl) (N : Heap), A = q ++ r → MK M → l.length ≤ q.length → RF l fl →
  ∃ N' fl', loopA W loopW (.ghost (.kill k_aborts_Of_0) l_aborts_Of_0) [(3, .ptr (pt H 0) 0), (4, .ptr (pt H 2) 0), (11, .list 7 (A.map Ba.V) .ro), (12, .int .i64 (A.length : Nat)), (13, .int .i64 (q.length : Nat))] (hx H (rwB l fl :: mapB M :: tblB (pt H 1) :: N)) =
   some (.exit 0, [(3, .ptr (pt H 0) 0)], hx H (rwB (abOf r M l) fl' :: N')) ∧ RF (abOf r M l) fl' ∧ (abOf r M l).length ≤ A.length := by
 induction r with
 | nil =>
  intro q M l fl N hq hM hl hfl
  rw [List.append_nil] at hq
  subst hq
  refine ⟨mapB M :: tblB (pt H 1) :: N, fl, ?_, hfl, hl⟩
  have h1 : ¬ ((A.length : Int) < (A.length : Int)) := by omega
  rw [show abOf [] M l = l from rfl]
  refine loop_step l_aborts_Of_0.eq_1 k_aborts_Of_0.eq_1 (by kernel_rfl) ?_
  simp only [go_sem, h1, simprocAttr]
 | cons b r ih =>
  intro q M l fl N hq hM hl hfl
  have hlen : q.length < A.length := by rw [hq]; simp
  have h1 : ((q.length : Int) < (A.length : Int)) := by omega
  have e0 : (0 : Int) ≤ (q.length : Int) := by omega
  have e7 : ((q.length : Nat) : Int).toNat = q.length := by omega
  have e1 : (A.map Ba.V)[q.length]? = some (.agg [.int .i64 b.base, .int .i64 b.prod, .int .i64 b.epoch, .int .i64 b.seq, .bool b.txn, .int .i64 b.mark, .list 2 (b.recs.map rcV) .ro]) := by rw [hq]; simp [Ba.V, Ba.cs]
  have e6 : IntKind.i64.wrap ((q.length : Int) + 1) = ((q.length + 1 : Nat) : Int) := by rw [wrap_id (by unfold I64; omega)]; omega
  have hbo := hA b (by rw [hq]; simp)
  have hbr := hR b (by rw [hq]; simp)
  have ta := fun N => tbl_apply_spec M (fun p hp => by have := hM.last p hp; omega) b hbo hbr (pt H 2) (pt H 1) (hx H (rwB l fl :: mapB M :: tblB (pt H 1) :: N)) ⟨by rw [hx_get]; rfl⟩ ⟨by rw [hx_get]; rfl⟩
  simp only [hx_set, List.set_cons_succ, List.set_cons_zero] at ta
  have n1 : ∀ x : Box, (N ++ [x])[N.length]? = some x := fun x => by simp
  have n2 : ∀ x z : Box, (N ++ [x]).set N.length z = N ++ [z] := fun x z => by simp
  have hab : abOf (b :: r) M l = abOf r (stepM M b) (match stepD M b with | some d => abL l d | none => l) := rfl
  rw [hab]
  cases hd : stepD M b with
  | none =>
   simp only
   obtain ⟨N', fl', h2, h3, h4⟩ := ih (q ++ [b]) (stepM M b) l fl (N ++ [.cells b.cs, .cells [.int .i64 0, .int .i64 0, .int .i64 0]]) (by rw [hq]; simp) (hM.next b) (by simp; omega) hfl
   refine ⟨N', fl', ?_, h3, h4⟩
   rw [hd] at ta
   simp only [List.length_append, List.length_cons, List.length_nil, Nat.zero_add] at h2
   simp only [optLa, Option.isSome_none, laV] at ta
   generalize stepM M b = M2 at *
   unfold Ba.V Ba.cs at *
   refine loop_step l_aborts_Of_0.eq_1 k_aborts_Of_0.eq_1 (by kernel_rfl) ?_
   simp only [go_sem, h1, e0, e7, e1, ta, n1, n2, e6, List.length_append, simprocAttr]
   exact h2
  | some d =>
   simp only
   obtain ⟨N', fl', h2, h3, h4⟩ := ih (q ++ [b]) (stepM M b) (abL l d) (abF d fl) (N ++ [.cells b.cs, .cells [.int .i64 d.1, .int .i64 d.2.1, .int .i64 d.2.2]]) (by rw [hq]; simp) (hM.next b) (by have := @abL_len l d; simp; omega) (abF_ok hfl)
   refine ⟨N', fl', ?_, h3, h4⟩
   rw [hd] at ta
   simp only [List.length_append, List.length_cons, List.length_nil, Nat.zero_add] at h2
   have tb := fun M2 N => abadd_spec l (by omega) fl hfl d (pt H 0) (hx H (rwB l fl :: M2 :: N)) ⟨by rw [hx_get]; rfl⟩
   simp only [hx_set, List.set_cons_zero, laV] at tb
   simp only [optLa, Option.isSome_some, laV] at ta
   generalize stepM M b = M2 at *
   generalize abL l d = l2 at *
   generalize abF d fl = f2 at *
   generalize abOK l d = ok at *
   unfold Ba.V Ba.cs at *
   refine loop_step l_aborts_Of_0.eq_1 k_aborts_Of_0.eq_1 (by kernel_rfl) ?_
   simp only [go_sem, h1, e0, e7, e1, ta, tb, n1, n2, e6, List.length_append, simprocAttr]
   exact h2
theorem abof_spec (A : List Ba) (hA : ∀ b ∈ A, BOK b) (hR : ∀ b ∈ A, b.recs.length ≤ 1000) (hn : A.length ≤ 1000) (H : Heap) :
  ∃ N fl, W n_aborts_Of [.list 7 (A.map Ba.V) .ro] H = some (.ptr (pt H 0) 0, hx H (rwB (abOf A [] []) fl :: N)) ∧ RF (abOf A [] []) fl ∧ (abOf A [] []).length ≤ A.length := by
 obtain ⟨N, fl, h, h3, h4⟩ := abof_loop A hA hR hn H A [] [] [] .full [] rfl ⟨by simp⟩ (by simp) (.inr ⟨rfl, rfl⟩)
 refine ⟨N, fl, W_fnS rfl rfl ?_, h3, h4⟩
 have g0 : ((([] : List Ba).length : Nat) : Int) = 0 := rfl
 rw [g0] at h
 have ta := abnew_spec (hx H [])
 have tn := fun L => tbl_new_spec (hx H L)
 simp only [rwB, mapB, List.map_nil] at h
 generalize abOf A [] [] = R at *
 simp only [go_sem, c_aborts_Of, List.length_map, ta, tn, h, simprocAttr]
 first | done | rfl
def inR (lo hi : Int) (d : La) : Bool := decide (mx d.2.1 lo ≤ d.2.2) && decide (mx d.2.1 lo < hi)
theorem within_loop (l : List La) (hn : l.length ≤ 100000) (lo hi : Int) (i : Nat) (H : Heap) (r : List La) : ∀ (p out : List La) (fl : Fl) (N : Heap), l = p ++ r → out.length ≤ p.length → (fl = .own ∨ (fl = .full ∧ out = [])) →
  ∃ N' fl', loopA W loopW (.ghost (.kill k_aborts_Row_Within_0) l_aborts_Row_Within_0) [(0, .ptr i 0), (1, .int .i64 lo), (2, .int .i64 hi), (7, .list 3 (out.map laV) fl), (13, .lbox (pt H 0)), (14, .int .i64 (l.length : Nat)), (15, .int .i64 (p.length : Nat))] (hx H (.arr 3 (l.map laV) :: N)) =
   some (.exit 0, [(0, .ptr i 0), (7, .list 3 ((out ++ r.filter (inR lo hi)).map laV) fl')], hx H (.arr 3 (l.map laV) :: N')) ∧ (fl' = .own ∨ (fl' = .full ∧ out ++ r.filter (inR lo hi) = [])) := by
 induction r with
 | nil =>
  intro p out fl N hp ho hfl
  rw [List.append_nil] at hp
  subst hp
  rw [List.filter_nil, List.append_nil]
  refine ⟨N, fl, ?_, hfl⟩
  have h1 : ¬ ((l.length : Int) < (l.length : Int)) := by omega
  refine loop_step l_aborts_Row_Within_0.eq_1 k_aborts_Row_Within_0.eq_1 (by kernel_rfl) ?_
  simp only [go_sem, h1, simprocAttr]
 | cons d r ih =>
  intro p out fl N hp ho hfl
  have hlen : l.length = p.length + (r.length + 1) := by rw [hp]; simp
  have h1 : ((p.length : Int) < (l.length : Int)) := by omega
  have e0 : (0 : Int) ≤ (p.length : Int) := by omega
  have e7 : ((p.length : Nat) : Int).toNat = p.length := by omega
  have e1 : (l.map laV)[p.length]? = some (.agg [.int .i64 d.1, .int .i64 d.2.1, .int .i64 d.2.2]) := by rw [hp]; simp [laV]
  have e6 : IntKind.i64.wrap ((p.length : Int) + 1) = ((p.length + 1 : Nat) : Int) := by rw [wrap_id (by unfold I64; omega)]; omega
  have n1 : ∀ x : Box, (N ++ [x])[N.length]? = some x := fun x => by simp
  have n2 : ∀ x z : Box, (N ++ [x]).set N.length z = N ++ [z] := fun x z => by simp
  have bb : (out.length + 1) * 24 ≤ maxBytes := by simp only [maxBytes]; omega
  have b0 : (0 + 1) * 24 ≤ maxBytes := by decide
  have e8 : out.map laV ++ [.agg [.int .i64 d.1, .int .i64 d.2.1, .int .i64 d.2.2]] = (out ++ [d]).map laV := by simp [laV]
  rw [List.filter_cons]
  by_cases c1 : mx d.2.1 lo ≤ d.2.2
  ·by_cases c2 : mx d.2.1 lo < hi
   ·have hk : inR lo hi d = true := by simp [inR, c1, c2]
    rw [hk, if_pos rfl]
    obtain ⟨N', fl', h2, h3⟩ := ih (p ++ [d]) (out ++ [d]) .own (N ++ [.cells [.int .i64 d.1, .int .i64 d.2.1, .int .i64 d.2.2]]) (by rw [hp]; simp) (by simp; omega) (.inl rfl)
    rw [List.append_assoc, List.cons_append, List.nil_append] at h2 h3
    simp only [List.length_append, List.length_cons, List.length_nil, Nat.zero_add] at h2
    refine ⟨N', fl', ?_, h3⟩
    refine loop_step l_aborts_Row_Within_0.eq_1 k_aborts_Row_Within_0.eq_1 (by kernel_rfl) ?_
    rcases hfl with rfl | ⟨rfl, rfl⟩
    ·simp only [go_sem, h1, e0, e7, e1, n1, n2, c1, c2, List.length_map, apO, bb, e8, e6, simprocAttr]
     exact h2
    ·simp only [List.map_nil, List.nil_append] at *
     simp only [go_sem, h1, e0, e7, e1, n1, n2, c1, c2, List.length_map, List.length_nil, apF, b0, List.nil_append, e6, simprocAttr]
     rw [e8]
     exact h2
   ·have hk : inR lo hi d = false := by simp [inR, c2]
    rw [hk, if_neg (by decide)]
    obtain ⟨N', fl', h2, h3⟩ := ih (p ++ [d]) out fl (N ++ [.cells [.int .i64 d.1, .int .i64 d.2.1, .int .i64 d.2.2]]) (by rw [hp]; simp) (by simp; omega) hfl
    simp only [List.length_append, List.length_cons, List.length_nil, Nat.zero_add] at h2
    refine ⟨N', fl', ?_, h3⟩
    refine loop_step l_aborts_Row_Within_0.eq_1 k_aborts_Row_Within_0.eq_1 (by kernel_rfl) ?_
    simp only [go_sem, h1, e0, e7, e1, n1, n2, c1, c2, List.length_map, e6, simprocAttr]
    exact h2
  ·have hk : inR lo hi d = false := by simp [inR, c1]
   rw [hk, if_neg (by decide)]
   obtain ⟨N', fl', h2, h3⟩ := ih (p ++ [d]) out fl (N ++ [.cells [.int .i64 d.1, .int .i64 d.2.1, .int .i64 d.2.2]]) (by rw [hp]; simp) (by simp; omega) hfl
   simp only [List.length_append, List.length_cons, List.length_nil, Nat.zero_add] at h2
   refine ⟨N', fl', ?_, h3⟩
   refine loop_step l_aborts_Row_Within_0.eq_1 k_aborts_Row_Within_0.eq_1 (by kernel_rfl) ?_
   simp only [go_sem, h1, e0, e7, e1, n1, n2, c1, List.length_map, e6, simprocAttr]
   exact h2
theorem abwithin_spec (l : List La) (hn : l.length ≤ 100000) (fl : Fl) (hfl : RF l fl) (lo hi : Int) (i : Nat) (H : Heap) (hi' : Old H i (rwB l fl)) :
  ∃ f, W n_aborts_Row_Within [.ptr i 0, .int .i64 lo, .int .i64 hi] H = some (.list 3 ((l.filter (inR lo hi)).map laV) f, H.set i (rwB l .uniq)) ∧ (f = .own ∨ (f = .full ∧ l.filter (inR lo hi) = [])) := by
 have hth := thC hfl hi'
 have hbk := bkC0 hi' (l.map laV)
 have gi' := hi'.get'
 obtain ⟨N, f, h, hf⟩ := within_loop l hn lo hi i (H.set i (.cells [.lbox (pt H 0)])) l [] [] .full [] rfl (by simp) (.inr ⟨rfl, rfl⟩)
 simp only [List.length_nil, Int.natCast_zero, List.map_nil, List.nil_append, pt_set] at h hf
 have u := fun n => under_la n l
 refine ⟨f, ?_, hf⟩
 generalize l.filter (inR lo hi) = R at *
 refine W_fnS rfl rfl ?_
 rcases hf with rfl | ⟨rfl, rfl⟩
 ·have u2 := fun n => under_la n R
  simp only [go_sem, c_aborts_Row_Within, hth, hbk, gi', pt_set, hx_getS, hx_setS, List.length_map, h, u, u2, simprocAttr]
  first | done | rfl
 ·simp only [List.map_nil] at h ⊢
  simp only [go_sem, c_aborts_Row_Within, hth, hbk, gi', pt_set, hx_getS, hx_setS, List.length_map, h, u, simprocAttr]
  first | done | rfl
theorem eq_la (x : La) : eqCells [.int .i64, .int .i64, .int .i64] [.int .i64 x.1, .int .i64 x.2.1, .int .i64 x.2.2] [.int .i64 x.1, .int .i64 x.2.1, .int .i64 x.2.2] = some true := by
 simp [eqCells]
theorem dropped_loop (l : List La) (hn : l.length ≤ 1000000) (H : Heap) (r : List La) : ∀ (p : List La), l = p ++ r →
  loopA W loopW (.ghost (.kill k_ref10_Dropped_0) l_ref10_Dropped_0) [(0, .list 3 (l.map laV) .ro), (1, .list 3 (l.map laV) .ro), (12, .int .i64 (l.length : Nat)), (13, .int .i64 (p.length : Nat))] H = some (.exit 0, [], H) := by
 induction r with
 | nil =>
  intro p hp
  have h1 : ¬ ((p.length : Int) < (l.length : Int)) := by rw [hp]; simp
  refine loop_step l_ref10_Dropped_0.eq_1 k_ref10_Dropped_0.eq_1 (by kernel_rfl) ?_
  simp only [go_sem, h1, simprocAttr]
 | cons x r ih =>
  intro p hp
  have h1 : ((p.length : Int) < (l.length : Int)) := by rw [hp]; simp; omega
  have e0 : (0 : Int) ≤ (p.length : Int) := by omega
  have e7 : ((p.length : Nat) : Int).toNat = p.length := by omega
  have e1 : (l.map laV)[p.length]? = some (.agg [.int .i64 x.1, .int .i64 x.2.1, .int .i64 x.2.2]) := by rw [hp]; simp [laV]
  have hlen : l.length = p.length + (r.length + 1) := by rw [hp]; simp
  have e6 : IntKind.i64.wrap ((p.length : Int) + 1) = ((p.length + 1 : Nat) : Int) := by rw [wrap_id (by unfold I64; omega)]; omega
  have hq := eq_la x
  have h2 := ih (p ++ [x]) (by rw [hp]; simp)
  simp only [List.length_append, List.length_cons, List.length_nil, Nat.zero_add] at h2
  refine loop_step l_ref10_Dropped_0.eq_1 k_ref10_Dropped_0.eq_1 (by kernel_rfl) ?_
  simp only [go_sem, h1, e0, e7, e1, hq, e6, simprocAttr]
  exact h2
theorem dropped_self (l : List La) (hn : l.length ≤ 1000000) (H : Heap) : W n_ref10_Dropped [.list 3 (l.map laV) .ro, .list 3 (l.map laV) .ro] H = some (.bool true, H) := by
 have h := dropped_loop l hn H l [] rfl
 simp only [List.length_nil, Int.natCast_zero] at h
 refine W_fn0 rfl rfl ?_
 simp only [go_sem, trim_same, c_ref10_Dropped, List.length_map, h, simprocAttr]
 first | done | rfl
def foldM : List Ba → List Pr → List Pr
 | [], M => M
 | b :: l, M => foldM l (stepM M b)
theorem foldM_ok : ∀ (A : List Ba) (M : List Pr), MK M → MK (foldM A M)
 | [], _, h => h
 | b :: A, M, h => foldM_ok A _ (h.next b)
theorem tfold_loop (A : List Ba) (hA : ∀ b ∈ A, BOK b) (hR : ∀ b ∈ A, b.recs.length ≤ 1000) (hn : A.length ≤ 1000) (H : Heap) (r : List Ba) : ∀ (q : List Ba) (M : List Pr) (N : Heap), A = q ++ r → MK M →
  ∃ N', loopA W loopW (.ghost (.kill k_table_Fold_0) l_table_Fold_0) [(3, .ptr (pt H 1) 0), (7, .list 7 (A.map Ba.V) .ro), (8, .int .i64 (A.length : Nat)), (9, .int .i64 (q.length : Nat))] (hx H (mapB M :: tblB (pt H 0) :: N)) =
   some (.exit 0, [(3, .ptr (pt H 1) 0)], hx H (mapB (foldM r M) :: tblB (pt H 0) :: N')) := by
 induction r with
 | nil =>
  intro q M N hq hM
  rw [List.append_nil] at hq
  subst hq
  refine ⟨N, ?_⟩
  have h1 : ¬ ((A.length : Int) < (A.length : Int)) := by omega
  rw [show foldM [] M = M from rfl]
  refine loop_step l_table_Fold_0.eq_1 k_table_Fold_0.eq_1 (by kernel_rfl) ?_
  simp only [go_sem, h1, simprocAttr]
 | cons b r ih =>
  intro q M N hq hM
  have hlen : q.length < A.length := by rw [hq]; simp
  have h1 : ((q.length : Int) < (A.length : Int)) := by omega
  have e0 : (0 : Int) ≤ (q.length : Int) := by omega
  have e7 : ((q.length : Nat) : Int).toNat = q.length := by omega
  have e1 : (A.map Ba.V)[q.length]? = some (.agg [.int .i64 b.base, .int .i64 b.prod, .int .i64 b.epoch, .int .i64 b.seq, .bool b.txn, .int .i64 b.mark, .list 2 (b.recs.map rcV) .ro]) := by rw [hq]; simp [Ba.V, Ba.cs]
  have e6 : IntKind.i64.wrap ((q.length : Int) + 1) = ((q.length + 1 : Nat) : Int) := by rw [wrap_id (by unfold I64; omega)]; omega
  have hbo := hA b (by rw [hq]; simp)
  have hbr := hR b (by rw [hq]; simp)
  have ta := fun N => tbl_apply_spec M (fun p hp => by have := hM.last p hp; omega) b hbo hbr (pt H 1) (pt H 0) (hx H (mapB M :: tblB (pt H 0) :: N)) ⟨by rw [hx_get]; rfl⟩ ⟨by rw [hx_get]; rfl⟩
  simp only [hx_set, List.set_cons_zero] at ta
  have n1 : ∀ x x' : Box, (N ++ [x])[N.length]? = some x := fun x x' => by simp
  have n2 : ∀ x z : Box, (N ++ [x]).set N.length z = N ++ [z] := fun x z => by simp
  obtain ⟨N', h2⟩ := ih (q ++ [b]) (stepM M b) (N ++ [.cells b.cs]) (by rw [hq]; simp) (hM.next b)
  refine ⟨N', ?_⟩
  rw [show foldM (b :: r) M = foldM r (stepM M b) from rfl]
  simp only [List.length_append, List.length_cons, List.length_nil, Nat.zero_add] at h2
  generalize stepM M b = M2 at *
  generalize stepD M b = D at *
  unfold Ba.V Ba.cs at *
  unfold laV at ta
  refine loop_step l_table_Fold_0.eq_1 k_table_Fold_0.eq_1 (by kernel_rfl) ?_
  simp only [go_sem, h1, e0, e7, e1, ta, n1, n2, e6, simprocAttr]
  exact h2
theorem tfold_spec (A : List Ba) (hA : ∀ b ∈ A, BOK b) (hR : ∀ b ∈ A, b.recs.length ≤ 1000) (hn : A.length ≤ 1000) (H : Heap) :
  ∃ N, W n_table_Fold [.list 7 (A.map Ba.V) .ro] H = some (.ptr (pt H 1) 0, hx H (mapB (foldM A []) :: tblB (pt H 0) :: N)) := by
 obtain ⟨N, h⟩ := tfold_loop A hA hR hn H A [] [] [] rfl ⟨by simp⟩
 have g0 : ((([] : List Ba).length : Nat) : Int) = 0 := rfl
 rw [g0] at h
 refine ⟨N, W_fnS rfl rfl ?_⟩
 have tn := tbl_new_spec (hx H [])
 have h' : loopA W loopW (.ghost (.kill k_table_Fold_0) l_table_Fold_0) [(3, .ptr (pt H 1) 0), (7, .list 7 (A.map Ba.V) .ro), (8, .int .i64 (A.length : Nat)), (9, .int .i64 0)] (hx H [.map [], .cells [.map (some (pt H 0))]]) = _ := h
 simp only [go_sem, c_table_Fold, List.length_map, tn, h', simprocAttr]
 first | done | rfl
def openI : MInfo := ⟨11, 12, 13, 15, 14, [0, 7, 8, 9, 10, 11, 13, 14, 15, 16, 17, 18, 19, 20, 21, 22, 23, 24, 25, 26, 27, 28, 29, 30, 31], [12, 14], [⟨(some 8), none, .move, [.tmp 0 false]⟩,
  ⟨(some 9), none, .nilCheck, [.tmp 8 false]⟩,
  ⟨(some 10), none, .addOff 0, [.tmp 9 false]⟩,
  ⟨(some 11), none, .load false 1 false, [.tmp 10 false]⟩], [⟨(some 14), none, .move, [.proj 13 0 false]⟩], [⟨(some 16), none, .move, [.proj 15 1 false]⟩,
  ⟨(some 7), none, .alloc [.int .i64 0, .int .i64 0, .list 3 [] .full, .int .i64 0], []⟩,
  ⟨none, none, .store 4, [.tmp 7 false, .tmp 16 false]⟩]⟩
def openS (s : Int × Bool) (p : Pr) : Int × Bool := if p.open_ ≥ 0 ∧ (s.2 = false ∨ p.open_ < s.1) then (p.open_, true) else s
theorem openS_comm (s : Int × Bool) (x y : Pr) : openS (openS s x) y = openS (openS s y) x := by
 obtain ⟨l, b⟩ := s
 unfold openS
 cases b <;> by_cases h1 : x.open_ ≥ 0 <;> by_cases h2 : y.open_ ≥ 0 <;> simp [h1, h2]
 ·by_cases h3 : y.open_ < x.open_ <;> by_cases h4 : x.open_ < y.open_ <;> simp [h3, h4] <;> omega
 ·by_cases h3 : x.open_ < l <;> by_cases h4 : y.open_ < l <;> simp [h3, h4] <;> (try split) <;> (try split) <;> (try simp) <;> omega
def openM (M : List Pr) : Int × Bool := M.foldl openS (-1, false)
abbrev openE (H : Heap) (s : Int × Bool) : Env := [(4, .int .i64 s.1), (5, .bool s.2), (12, .ptr (pt H 0) 0)]
set_option maxHeartbeats 2000000 in
theorem open_mstep (M : List Pr) (j : Nat) (H : Heap) (hj : Old H j (mapB M)) (q : Pr) (s : Int × Bool) (e : Env) (he : e.dels openI.kA = openE H s) :
  mstep W (fun e H => aexec W loopW l_table_Table_Open_0 e H) openI (pt H 0) j (M.map prE) (prE q) e (hx H [.dead]) = some (openE H (openS s q), hx H [.dead]) := by
 obtain ⟨l, b⟩ := s
 have hs := hj.set [.dead] .dead
 unfold mstep
 rw [he, hs]
 have c1 : (isIter (openE H (l, b)) openI.it (pt H 0) && (prE q).1.argOK && (prE q).2.argOK) = true := by
  simp [isIter, openE, openI, Env.get, AVal.argOK, AVal.isU, Pr.V]
 rw [if_pos c1]
 have hst : (prE q).1.strip = .int .i64 q.id := rfl
 have hst1 : (prE q).2.strip = q.V := rfl
 rw [hst, hst1]
 have a1 : aops W openI.r2 ((openE H (l, b)).put openI.nx (.tuple [.bool true, .int .i64 q.id, q.V])) (hx (H.set j .dead) [.dead]) =
   some ([(4, .int .i64 l), (5, .bool b), (12, .ptr (pt H 0) 0), (13, .tuple [.bool true, .int .i64 q.id, q.V]), (14, .bool true)], hx (H.set j .dead) [.dead]) := rfl
 rw [a1, Option.bind_some]
 have c2 : (isB [(4, .int .i64 l), (5, .bool b), (12, .ptr (pt H 0) 0), (13, .tuple [.bool true, .int .i64 q.id, q.V]), (14, .bool true)] openI.ok true && isIter [(4, .int .i64 l), (5, .bool b), (12, .ptr (pt H 0) 0), (13, .tuple [.bool true, .int .i64 q.id, q.V]), (14, .bool true)] openI.it (pt H 0)) = true := by
  simp [isB, isIter, openI, Env.get]
 simp only
 rw [if_pos c2]
 have hp0 : pt H 1 = pt (H.set j .dead) 1 := (pt_set _ _ _ _).symm
 have a2 : aops W openI.r3 (Env.put [(4, .int .i64 l), (5, .bool b), (12, .ptr (pt H 0) 0), (13, .tuple [.bool true, .int .i64 q.id, q.V]), (14, .bool true)] openI.en (.tuple [.int .i64 q.id, q.V])) (hx (H.set j .dead) [.dead]) =
   some ([(4, .int .i64 l), (5, .bool b), (7, .ptr (pt H 1) 0), (12, .ptr (pt H 0) 0), (13, .tuple [.bool true, .int .i64 q.id, q.V]), (14, .bool true), (15, .tuple [.int .i64 q.id, q.V]), (16, q.V)], hx (H.set j .dead) [.dead, .cells q.cs]) := by
  rw [hp0]
  unfold Pr.V Pr.cs openI
  simp only [go_sem, simprocAttr]
  done
 rw [a2, Option.bind_some]
 have a3 : ∃ e3, aexec W loopW l_table_Table_Open_0 [(4, .int .i64 l), (5, .bool b), (7, .ptr (pt H 1) 0), (12, .ptr (pt H 0) 0), (13, .tuple [.bool true, .int .i64 q.id, q.V]), (14, .bool true), (15, .tuple [.int .i64 q.id, q.V]), (16, q.V)] (hx (H.set j .dead) [.dead, .cells q.cs]) =
   some (.normal, e3, hx (H.set j .dead) [.dead, .cells q.cs]) ∧ e3.dels openI.kA = openE H (openS (l, b) q) := by
  rw [hp0]
  unfold Pr.V Pr.cs openS
  by_cases d1 : q.open_ ≥ 0
  ·cases b with
   | false =>
    rw [if_pos ⟨d1, .inl rfl⟩]
    refine ⟨?_, ?_, ?_⟩
    rotate_left
    ·simp only [go_sem, l_table_Table_Open_0.eq_1, d1, simprocAttr]
     rfl
    ·simp only [go_sem, openI, simprocAttr]
   | true =>
    by_cases d2 : q.open_ < l
    ·rw [if_pos ⟨d1, .inr d2⟩]
     refine ⟨?_, ?_, ?_⟩
     rotate_left
     ·simp only [go_sem, l_table_Table_Open_0.eq_1, d1, d2, simprocAttr]
      rfl
     ·simp only [go_sem, openI, simprocAttr]
    ·rw [if_neg (fun h => by rcases h.2 with h | h; cases h; exact d2 h)]
     refine ⟨?_, ?_, ?_⟩
     rotate_left
     ·simp only [go_sem, l_table_Table_Open_0.eq_1, d1, d2, simprocAttr]
      rfl
     ·simp only [go_sem, openI, simprocAttr]
  ·rw [if_neg (fun h => d1 h.1)]
   refine ⟨?_, ?_, ?_⟩
   rotate_left
   ·simp only [go_sem, l_table_Table_Open_0.eq_1, d1, simprocAttr]
    rfl
   ·simp only [go_sem, openI, simprocAttr]
 obtain ⟨e3, a3, a4⟩ := a3
 simp only
 rw [a3, Option.bind_some]
 unfold mback
 simp only
 have c3 : (decide ((hx H [.dead]).length ≤ (hx (H.set j .dead) [.dead, .cells q.cs]).length) && ((e3.dels openI.kA).all fun p => p.2.under (hx H [.dead]).length) && trimOK (hx H [.dead]).length ((hx H [.dead]).set j .dead) (hx (H.set j .dead) [.dead, .cells q.cs]) && isDead (hx (H.set j .dead) [.dead, .cells q.cs]) j) = true := by
  have l1 : (hx H [.dead]).length = pt H 1 := hx_len H _
  have l2 : (hx (H.set j .dead) [.dead, .cells q.cs]).length = pt H 2 := by rw [hx_len]; exact pt_set _ _ _ _
  have l3 : decide (pt H 1 ≤ pt H 2) = true := by unfold pt; simp
  have l4 : ((openE H (openS (l, b) q)).all fun p => p.2.under (pt H 1)) = true := by
   have : pt H 0 < pt H 1 := by unfold pt; omega
   simp [openE, AVal.under, this]
  have l5 : trimOK (pt H 1) (hx (H.set j .dead) [.dead]) (hx (H.set j .dead) [.dead, .cells q.cs]) = true := by
   have := trimOK_app (pt H 1) (hx (H.set j .dead) [.dead]) [.cells q.cs]
   rwa [hx_app] at this
  have l6 : isDead (hx (H.set j .dead) [.dead, .cells q.cs]) j = true := by unfold isDead; rw [hj.get']
  rw [a4, hs, l1, l2, l3, l4, l5, l6]
  rfl
 rw [if_pos c3, a4]
 have l7 : ((hx (H.set j .dead) [.dead, .cells q.cs]).take (hx H [.dead]).length).set j (.map (M.map prE)) = hx H [.dead] := by
  have : (hx (H.set j .dead) [.dead, .cells q.cs]).take (hx H [.dead]).length = hx (H.set j .dead) [.dead] := by
   rw [show (hx H [.dead]).length = (hx (H.set j .dead) [.dead]).length by rw [hx_len, hx_len, pt_set]]
   rw [show hx (H.set j .dead) [.dead, .cells q.cs] = hx (H.set j .dead) [.dead] ++ [.cells q.cs] by rw [hx_app]; rfl]
   exact List.take_left
  rw [this, hj.set', hj.same]
 rw [l7]
theorem perm_foldl {f : Int × Bool → Pr → Int × Bool} (hc : ∀ s x y, f (f s x) y = f (f s y) x) {l l' : List Pr} (h : l.Perm l') : ∀ s, l.foldl f s = l'.foldl f s := by
 induction h with
 | nil => intro s; rfl
 | cons x _ ih => intro s; exact ih _
 | swap x y l => intro s; simp only [List.foldl_cons]; rw [hc]
 | trans _ _ h1 h2 => intro s; rw [h1, h2]
theorem range_fm (M : List Pr) : (List.range M.length).filterMap (fun i => M[i]?) = M := by
 induction M with
 | nil => rfl
 | cons a M ih =>
  rw [List.length_cons, List.range_succ_eq_map, List.filterMap_cons]
  simp only [List.getElem?_cons_zero, List.filterMap_map]
  congr 1
theorem open_mfold (M : List Pr) (j : Nat) (H : Heap) (hj : Old H j (mapB M)) (path : List Nat) : ∀ (s : Int × Bool) (e : Env), (∀ i ∈ path, i < M.length) → e.dels openI.kA = openE H s →
  path ≠ [] → mfold (mstep W (fun e H => aexec W loopW l_table_Table_Open_0 e H) openI (pt H 0) j (M.map prE)) (M.map prE) path e (hx H [.dead]) =
   some (openE H ((path.filterMap fun i => M[i]?).foldl openS s), hx H [.dead]) := by
 have hd : ∀ s, (openE H s).dels openI.kA = openE H s := fun s => by simp only [go_sem, openI, simprocAttr]
 have hm := open_mstep M j H hj
 generalize mstep W (fun e H => aexec W loopW l_table_Table_Open_0 e H) openI (pt H 0) j (M.map prE) = st at *
 induction path with
 | nil => intro s e _ _ h; exact absurd rfl h
 | cons i path ih =>
  intro s e hb he _
  have hi := hb i List.mem_cons_self
  have h1 : (M.map prE)[i]? = some (prE M[i]) := by rw [List.getElem?_map, List.getElem?_eq_getElem hi]; rfl
  have h2 : M[i]? = some M[i] := List.getElem?_eq_getElem hi
  unfold mfold
  rw [h1, Option.bind_some, hm M[i] s e he, Option.bind_some]
  simp only [List.filterMap_cons, h2, List.foldl_cons]
  by_cases hp : path = []
  ·subst hp
   simp only [mfold, List.filterMap_nil, List.foldl_nil]
  ·exact ih (openS s M[i]) _ (fun x hx => hb x (List.mem_cons_of_mem _ hx)) (hd _) hp
theorem open_mrun (M : List Pr) (hM : M ≠ []) (j : Nat) (H : Heap) (hj : Old H j (mapB M)) (e : Env) (he : e.dels openI.kA = openE H (-1, false)) :
  mrun (mstep W (fun e H => aexec W loopW l_table_Table_Open_0 e H) openI (pt H 0) j (M.map prE)) (M.map prE) e (hx H [.dead]) = some (openE H (openM M), hx H [.dead]) := by
 refine mrun_of (fun p hp => ?_) (fun p hp => perms_perm _ _ hp)
 rw [List.length_map] at hp
 have hb : ∀ i ∈ p, i < M.length := fun i hi => List.mem_range.1 (hp.mem_iff.1 hi)
 have hne : p ≠ [] := by
  intro h; subst h
  have := hp.length_eq
  simp at this
  exact hM (List.eq_nil_of_length_eq_zero this.symm)
 rw [open_mfold M j H hj p (-1, false) e hb he hne]
 have hpm : (p.filterMap fun i => M[i]?).Perm M := by
  have := hp.filterMap (fun i => M[i]?)
  rwa [range_fm] at this
 rw [perm_foldl openS_comm hpm]
 rfl
theorem open_mloop (M : List Pr) (i j : Nat) (H : Heap) (hi : Old H i (tblB j)) (hj : Old H j (mapB M)) :
  mloopA W (fun e H => aexec W loopW l_table_Table_Open_0 e H) openI [(0, .ptr i 0), (4, .int .i64 (-1)), (5, .bool false)] (hx H []) =
   some ([(4, .int .i64 (openM M).1), (5, .bool (openM M).2), (13, .tuple [.bool false])], hx H [.dead]) := by
 have gi := hi.get
 unfold mloopA
 have a1 : aops W openI.pre [(0, .ptr i 0), (4, .int .i64 (-1)), (5, .bool false)] (hx H []) =
   some ([(0, .ptr i 0), (4, .int .i64 (-1)), (5, .bool false), (8, .ptr i 0), (9, .ptr i 0), (10, .ptr i 0), (11, .map (some j))], hx H []) := by
  unfold openI
  simp only [go_sem, gi, simprocAttr]
 rw [a1, Option.bind_some]
 have a2 : Env.get [(0, .ptr i 0), (4, .int .i64 (-1)), (5, .bool false), (8, .ptr i 0), (9, .ptr i 0), (10, .ptr i 0), (11, .map (some j))] openI.mt = .map (some j) := rfl
 simp only [a2, hj.get []]
 have l1 : (hx H []).length = pt H 0 := hx_len H _
 have l2 : hx H [] ++ [Box.dead] = hx H [.dead] := hx_app H [] [.dead]
 rw [l1, l2]
 have hd : (Env.put [(0, .ptr i 0), (4, .int .i64 (-1)), (5, .bool false), (8, .ptr i 0), (9, .ptr i 0), (10, .ptr i 0), (11, .map (some j))] openI.it (.ptr (pt H 0) 0)).dels openI.kA = openE H (-1, false) := by
  unfold openI
  simp only [go_sem, simprocAttr]
 generalize Env.put [(0, .ptr i 0), (4, .int .i64 (-1)), (5, .bool false), (8, .ptr i 0), (9, .ptr i 0), (10, .ptr i 0), (11, .map (some j))] openI.it (.ptr (pt H 0) 0) = e at *
 have hl : ∀ e' : Env, ∀ s, e'.dels openI.kA = openE H s → mlast W openI (pt H 0) e' (hx H [.dead]) = some ([(4, .int .i64 s.1), (5, .bool s.2), (13, .tuple [.bool false])], hx H [.dead]) := by
  intro e' s he'
  unfold mlast
  rw [he']
  have c1 : isIter (openE H s) openI.it (pt H 0) = true := by simp [isIter, openE, openI, Env.get]
  rw [if_pos c1]
  have a3 : aops W openI.r2 ((openE H s).put openI.nx (.tuple [.bool false])) (hx H [.dead]) = some ([(4, .int .i64 s.1), (5, .bool s.2), (12, .ptr (pt H 0) 0), (13, .tuple [.bool false]), (14, .bool false)], hx H [.dead]) := by
   unfold openI openE
   simp only [go_sem, simprocAttr]
  rw [a3, Option.bind_some]
  have c2 : isB [(4, .int .i64 s.1), (5, .bool s.2), (12, .ptr (pt H 0) 0), (13, .tuple [.bool false]), (14, .bool false)] openI.ok false = true := by simp [isB, openI, Env.get]
  simp only
  rw [if_pos c2]
  unfold openI
  simp only [go_sem, simprocAttr]
 by_cases hM : M = []
 ·subst hM
  have : mrun (mstep W (fun e H => aexec W loopW l_table_Table_Open_0 e H) openI (pt H 0) j (([] : List Pr).map prE)) (([] : List Pr).map prE) e (hx H [.dead]) = some (e, hx H [.dead]) := by
   refine mrun_of (fun p hp => ?_) (fun p hp => perms_perm _ _ hp)
   have : p = [] := List.eq_nil_of_length_eq_zero (by rw [hp.length_eq]; rfl)
   subst this
   rfl
  rw [this, Option.bind_some]
  exact hl e (-1, false) hd
 ·rw [open_mrun M hM j H hj e hd, Option.bind_some]
  exact hl _ _ (by simp only [go_sem, openI, simprocAttr])
theorem x_mloop (c : CallF) (l) (I x e H) : aexec c l (.mloop I x) e H = (mloopA c (fun e H => aexec c l x e H) I e H).map fun q => (.normal, q.1, q.2) := rfl
theorem topen_spec (M : List Pr) (i j : Nat) (H : Heap) (hi : Old H i (tblB j)) (hj : Old H j (mapB M)) :
  W n_table_Table_Open [.ptr i 0] H = some (.tuple [.int .i64 (openM M).1, .bool (openM M).2], H) := by
 have h := open_mloop M i j H hi hj
 generalize openM M = s at *
 unfold openI at h
 refine W_fn rfl rfl ?_
 simp only [go_sem, c_table_Table_Open, x_mloop, h, Option.map_some, simprocAttr]
def endB (b : Ba) : Int := b.base + countE b
theorem send_spec (b : Ba) (hb : Fit b) (H : Heap) : W n_segment_End [b.V] H = some (.int .i64 (endB b), H) := by
 have t : ∀ H, W n_batch_Count [b.V] H = some (.int .i64 (countE b), H) := fun H => count_spec b H
 have h1 := hb.base
 have h2 := hb.count
 have w : IntKind.i64.wrap (b.base + countE b) = endB b := wrap_id (by unfold I64; omega)
 unfold Ba.V Ba.cs at *
 refine W_fn rfl rfl ?_
 simp only [go_sem, c_segment_End, t, w, simprocAttr]
theorem next_spec9 (l : List Ba) (hl : ∀ b ∈ l, Fit b) (hn : l.length ≤ 1000000) (base : Int) (H : Heap) : W n_segment_Next [.list 7 (l.map Ba.V) .ro, .int .i64 base] H = some (.int .i64 (endE base l), H) := by
 rcases List.eq_nil_or_concat l with rfl | ⟨l', x, h⟩
 ·rw [show endE base [] = base from rfl]
  refine W_fn0 rfl rfl ?_
  simp only [go_sem, trim_same, c_segment_Next, List.map_nil, List.length_nil, Int.natCast_zero, simprocAttr]
 ·rw [List.concat_eq_append] at h
  have hx := hl x (by rw [h]; simp)
  have t := fun H => send_spec x hx H
  have e : endE base l = endB x := by unfold endE endB; rw [h]; simp
  have hln : l.length = l'.length + 1 := by rw [h]; simp
  have h1 : ¬ ((l.length : Int) = 0) := by omega
  have w1 : IntKind.i64.wrap ((l.length : Int) - 1) = ((l'.length : Nat) : Int) := by rw [wrap_id (by unfold I64; omega)]; omega
  have e0 : (0 : Int) ≤ ((l'.length : Nat) : Int) := by omega
  have e7 : ((l'.length : Nat) : Int).toNat = l'.length := by omega
  have e1 : (l.map Ba.V)[l'.length]? = some (.agg [.int .i64 x.base, .int .i64 x.prod, .int .i64 x.epoch, .int .i64 x.seq, .bool x.txn, .int .i64 x.mark, .list 2 (x.recs.map rcV) .ro]) := by rw [h]; simp [Ba.V, Ba.cs]
  rw [e]
  unfold Ba.V Ba.cs at t
  refine W_fn0 rfl rfl ?_
  simp only [go_sem, trim_same, c_segment_Next, List.length_map, h1, w1, e0, e7, e1, t, simprocAttr]
theorem fend_spec (l : List Ba) (hl : ∀ b ∈ l, Fit b) (hn : l.length ≤ 1000000) (base : Int) (H : Heap) : W n_fold_End [.int .i64 base, .list 7 (l.map Ba.V) .ro] H = some (.int .i64 (endE base l), H) := by
 have t := fun H => next_spec9 l hl hn base H
 refine W_fn0 rfl rfl ?_
 simp only [go_sem, trim_same, c_fold_End, t, simprocAttr]
abbrev Gt := Int × Int × Rc
def gV (g : Gt) : AVal := .agg [.int .i64 g.1, .int .i64 g.2.1, .str g.2.2.1, .str g.2.2.2]
theorem under_g (n : Nat) (l : List Gt) : AVal.underL n (l.map gV) = true := uL_map n gV (fun _ => rfl) l
theorem clip_got (xs : List AVal) (fl : Fl) (hf : fl = .ro ∨ fl = .own ∨ fl = .full ∨ fl = .uniq) (H : Heap) : W n_slices_Clip_api_Got_api_Got_ [.list 4 xs fl] H = some (.list 4 xs .full, H) := by
 have f1 : ∀ (e : Env) (H : Heap) (fl : Fl), Env.get e 0 = .list 4 xs fl → fl ≠ .uniq → agh (.freeze 0) e H = some (e, H) := fun e H fl h hn => by
  cases fl <;> first | exact absurd rfl hn | simp only [agh, h]
 have f2 : ∀ (e : Env) (H : Heap), Env.get e 0 = .list 4 xs .uniq → agh (.freeze 0) e H = some (e.put 0 (.list 4 xs .own), H) := fun e H h => by simp only [agh, h]
 have f3 : ∀ H, agh (.freeze 0) [(0, .list 4 xs .ro)] H = some ([(0, .list 4 xs .ro)], H) := fun H => f1 _ H .ro rfl (by simp)
 have f4 : ∀ H, agh (.freeze 0) [(0, .list 4 xs .own)] H = some ([(0, .list 4 xs .own)], H) := fun H => f1 _ H .own rfl (by simp)
 have f5 : ∀ H, agh (.freeze 0) [(0, .list 4 xs .full)] H = some ([(0, .list 4 xs .full)], H) := fun H => f1 _ H .full rfl (by simp)
 have f6 : ∀ H, agh (.freeze 0) [(0, .list 4 xs .uniq)] H = some ([(0, .list 4 xs .own)], H) := fun H => f2 _ H rfl
 refine W_fn0 rfl rfl ?_
 rcases hf with rfl | rfl | rfl | rfl <;> simp only [go_sem, trim_same, c_slices_Clip_api_Got_api_Got_, f3, f4, f5, f6, sl_clip, simprocAttr]
def recsF (b : Ba) (lo hi : Int) : Int → List Rc → List Gt
 | _, [] => []
 | i, r :: rs => if b.base + i ≥ lo ∧ b.base + i < hi then (b.base + i, b.prod, r) :: recsF b lo hi (i + 1) rs else recsF b lo hi (i + 1) rs
def recB (b : Ba) (lo hi : Int) : List Gt := if b.mark = 0 then recsF b lo hi 0 b.recs else []
def recordsL (lo hi : Int) : List Ba → List Gt
 | [] => []
 | b :: L => recB b lo hi ++ recordsL lo hi L
theorem recsF_len (b lo hi) : ∀ (rs : List Rc) (i : Int), (recsF b lo hi i rs).length ≤ rs.length
 | [], _ => by simp [recsF]
 | r :: rs, i => by
  unfold recsF
  have := recsF_len b lo hi rs (i + 1)
  split <;> simp <;> omega
theorem frecs_loop (b : Ba) (hb : Fit b) (lo hi : Int) (X : AVal) (n m : Int) (k : Nat) (H : Heap) (r : List Rc) : ∀ (p : List Rc) (out : List Gt) (fl : Fl) (N : Heap), b.recs = p ++ r → out.length ≤ 100000 + p.length →
  N[k]? = some (.cells b.cs) → (fl = .own ∨ (fl = .full ∧ out = [])) →
  ∃ N' fl', loopA W loopW (.ghost (.kill k_fold_Records_0) l_fold_Records_0) [(2, .int .i64 lo), (3, .int .i64 hi), (9, .list 4 (out.map gV) fl), (11, .ptr (pt H k) 0), (15, X), (16, .int .i64 n), (17, .int .i64 m), (25, .list 2 (b.recs.map rcV) .ro), (26, .int .i64 (b.recs.length : Nat)), (27, .int .i64 (p.length : Nat))] (hx H N) =
   some (.exit 2, [(2, .int .i64 lo), (3, .int .i64 hi), (9, .list 4 ((out ++ recsF b lo hi (p.length : Nat) r).map gV) fl'), (15, X), (16, .int .i64 n), (17, .int .i64 m)], hx H N') ∧ (fl' = .own ∨ (fl' = .full ∧ out ++ recsF b lo hi (p.length : Nat) r = [])) := by
 induction r with
 | nil =>
  intro p out fl N hp ho hk hfl
  rw [List.append_nil] at hp
  refine ⟨N, fl, ?_, ?_⟩
  ·have h1 : ¬ ((p.length : Int) < (p.length : Int)) := by omega
   rw [hp]
   rw [show recsF b lo hi (p.length : Nat) [] = [] from rfl, List.append_nil]
   refine loop_step l_fold_Records_0.eq_1 k_fold_Records_0.eq_1 (by kernel_rfl) ?_
   simp only [go_sem, h1, simprocAttr]
  ·rw [show recsF b lo hi (p.length : Nat) [] = [] from rfl, List.append_nil]; exact hfl
 | cons a r ih =>
  intro p out fl N hp ho hk hfl
  have hsm := (rightE_small hb.right).1
  have hbase := hb.base
  have hlen : b.recs.length = p.length + (r.length + 1) := by rw [hp]; simp
  have h1 : ((p.length : Int) < (b.recs.length : Int)) := by omega
  have e0 : (0 : Int) ≤ (p.length : Int) := by omega
  have e7 : ((p.length : Nat) : Int).toNat = p.length := by omega
  have e1 : (b.recs.map rcV)[p.length]? = some (.agg [.str a.1, .str a.2]) := by rw [hp]; simp [rcV]
  have e6 : IntKind.i64.wrap ((p.length : Int) + 1) = ((p.length + 1 : Nat) : Int) := by rw [wrap_id (by unfold I64; omega)]; omega
  have w1 : IntKind.i64.wrap (b.base + (p.length : Int)) = b.base + (p.length : Int) := wrap_id (by unfold I64; omega)
  have n0 : k < N.length := (List.getElem?_eq_some_iff.1 hk).1
  have n3 : (N ++ [.cells [.str a.1, .str a.2]])[k]? = some (.cells [.int .i64 b.base, .int .i64 b.prod, .int .i64 b.epoch, .int .i64 b.seq, .bool b.txn, .int .i64 b.mark, .list 2 (b.recs.map rcV) .ro]) := by rw [List.getElem?_append_left n0, hk]; rfl
  have n1 : ∀ x : Box, (N ++ [x])[N.length]? = some x := fun x => by simp
  have n2 : ∀ x z : Box, (N ++ [x]).set N.length z = N ++ [z] := fun x z => by simp
  have key : ∀ out' fl', (out' = if b.base + (p.length : Int) ≥ lo ∧ b.base + (p.length : Int) < hi then out ++ [(b.base + (p.length : Int), b.prod, a)] else out) → (fl' = .own ∨ (fl' = .full ∧ out' = [])) →
    ∃ N' fl'', loopA W loopW (.ghost (.kill k_fold_Records_0) l_fold_Records_0) [(2, .int .i64 lo), (3, .int .i64 hi), (9, .list 4 (out'.map gV) fl'), (11, .ptr (pt H k) 0), (15, X), (16, .int .i64 n), (17, .int .i64 m), (25, .list 2 (b.recs.map rcV) .ro), (26, .int .i64 (b.recs.length : Nat)), (27, .int .i64 (p.length + 1 : Nat))] (hx H (N ++ [.cells [.str a.1, .str a.2]])) =
   some (.exit 2, [(2, .int .i64 lo), (3, .int .i64 hi), (9, .list 4 ((out ++ recsF b lo hi (p.length : Nat) (a :: r)).map gV) fl''), (15, X), (16, .int .i64 n), (17, .int .i64 m)], hx H N') ∧ (fl'' = .own ∨ (fl'' = .full ∧ out ++ recsF b lo hi (p.length : Nat) (a :: r) = [])) := by
   intro out' fl' ho' hfl'
   have hl' : out'.length ≤ 100000 + (p ++ [a]).length := by
    rw [ho']; split <;> simp <;> omega
   have h3 : (N ++ [Box.cells [.str a.1, .str a.2]])[k]? = some (.cells b.cs) := by rw [List.getElem?_append_left n0, hk]
   obtain ⟨N', fl'', h, hh⟩ := ih (p ++ [a]) out' fl' (N ++ [.cells [.str a.1, .str a.2]]) (by rw [hp]; simp) hl' h3 hfl'
   have e : out' ++ recsF b lo hi ((p ++ [a]).length : Nat) r = out ++ recsF b lo hi (p.length : Nat) (a :: r) := by
    rw [ho']
    simp only [List.length_append, List.length_cons, List.length_nil, Nat.zero_add, Int.natCast_add, Int.cast_ofNat_Int]
    rw [show recsF b lo hi (p.length : Nat) (a :: r) = if b.base + (p.length : Int) ≥ lo ∧ b.base + (p.length : Int) < hi then (b.base + (p.length : Int), b.prod, a) :: recsF b lo hi ((p.length : Int) + 1) r else recsF b lo hi ((p.length : Int) + 1) r from rfl]
    split <;> simp
   rw [e] at h hh
   simp only [List.length_append, List.length_cons, List.length_nil, Nat.zero_add] at h
   exact ⟨N', fl'', h, hh⟩
  by_cases c1 : b.base + (p.length : Int) ≥ lo
  ·by_cases c2 : b.base + (p.length : Int) < hi
   ·obtain ⟨N', fl'', h, hh⟩ := key (out ++ [(b.base + (p.length : Int), b.prod, a)]) .own (by rw [if_pos ⟨c1, c2⟩]) (.inl rfl)
    refine ⟨N', fl'', ?_, hh⟩
    have bb : (out.length + 1) * 48 ≤ maxBytes := by simp only [maxBytes]; omega
    have b0 : (0 + 1) * 48 ≤ maxBytes := by decide
    have e8 : out.map gV ++ [.agg [.int .i64 (b.base + (p.length : Int)), .int .i64 b.prod, .str a.1, .str a.2]] = (out ++ [(b.base + (p.length : Int), b.prod, a)]).map gV := by simp [gV]
    generalize recsF b lo hi (p.length : Nat) (a :: r) = R at *
    refine loop_step l_fold_Records_0.eq_1 k_fold_Records_0.eq_1 (by kernel_rfl) ?_
    rcases hfl with rfl | ⟨rfl, rfl⟩
    ·simp only [go_sem, h1, e0, e7, e1, n1, n2, n3, w1, c1, c2, List.length_map, apO, bb, e8, e6, simprocAttr]
     exact h
    ·simp only [List.map_nil, List.nil_append] at *
     simp only [go_sem, h1, e0, e7, e1, n1, n2, n3, w1, c1, c2, List.length_map, apF, List.length_nil, b0, List.nil_append, e6, simprocAttr]
     rw [e8]
     exact h
   ·obtain ⟨N', fl'', h, hh⟩ := key out fl (by rw [if_neg (fun h => c2 h.2)]) hfl
    refine ⟨N', fl'', ?_, hh⟩
    generalize recsF b lo hi (p.length : Nat) (a :: r) = R at *
    refine loop_step l_fold_Records_0.eq_1 k_fold_Records_0.eq_1 (by kernel_rfl) ?_
    simp only [go_sem, h1, e0, e7, e1, n1, n2, n3, w1, c1, c2, e6, simprocAttr]
    exact h
  ·obtain ⟨N', fl'', h, hh⟩ := key out fl (by rw [if_neg (fun h => c1 h.1)]) hfl
   refine ⟨N', fl'', ?_, hh⟩
   generalize recsF b lo hi (p.length : Nat) (a :: r) = R at *
   refine loop_step l_fold_Records_0.eq_1 k_fold_Records_0.eq_1 (by kernel_rfl) ?_
   simp only [go_sem, h1, e0, e7, e1, n1, n2, n3, w1, c1, e6, simprocAttr]
   exact h
theorem recB_len (b : Ba) (hb : Fit b) (lo hi : Int) : (recB b lo hi).length ≤ 16 := by
 have := (rightE_small hb.right).1
 have := recsF_len b lo hi b.recs 0
 unfold recB
 split
 ·omega
 ·simp
set_option maxHeartbeats 1000000 in
theorem records_loop (L : List Ba) (hL : ∀ b ∈ L, Fit b) (hn : L.length ≤ 1000) (lo hi : Int) (H : Heap) (r : List Ba) : ∀ (p : List Ba) (out : List Gt) (fl : Fl) (N : Heap), L = p ++ r → out.length ≤ 16 * p.length → (fl = .own ∨ (fl = .full ∧ out = [])) →
  ∃ N' fl', loopA W loopW (.ghost (.kill k_fold_Records_1) l_fold_Records_1) [(2, .int .i64 lo), (3, .int .i64 hi), (9, .list 4 (out.map gV) fl), (15, .list 7 (L.map Ba.V) .ro), (16, .int .i64 (L.length : Nat)), (17, .int .i64 (p.length : Nat))] (hx H N) =
   some (.exit 0, [(9, .list 4 ((out ++ recordsL lo hi r).map gV) fl')], hx H N') ∧ (fl' = .own ∨ (fl' = .full ∧ out ++ recordsL lo hi r = [])) := by
 induction r with
 | nil =>
  intro p out fl N hp ho hfl
  rw [List.append_nil] at hp
  subst hp
  rw [show recordsL lo hi [] = [] from rfl, List.append_nil]
  refine ⟨N, fl, ?_, hfl⟩
  have h1 : ¬ ((L.length : Int) < (L.length : Int)) := by omega
  refine loop_step l_fold_Records_1.eq_1 k_fold_Records_1.eq_1 (by kernel_rfl) ?_
  simp only [go_sem, h1, simprocAttr]
 | cons b r ih =>
  intro p out fl N hp ho hfl
  have hb := hL b (by rw [hp]; simp)
  have hlen : L.length = p.length + (r.length + 1) := by rw [hp]; simp
  have h1 : ((p.length : Int) < (L.length : Int)) := by omega
  have e0 : (0 : Int) ≤ (p.length : Int) := by omega
  have e7 : ((p.length : Nat) : Int).toNat = p.length := by omega
  have e1 : (L.map Ba.V)[p.length]? = some (.agg [.int .i64 b.base, .int .i64 b.prod, .int .i64 b.epoch, .int .i64 b.seq, .bool b.txn, .int .i64 b.mark, .list 2 (b.recs.map rcV) .ro]) := by rw [hp]; simp [Ba.V, Ba.cs]
  have e6 : IntKind.i64.wrap ((p.length : Int) + 1) = ((p.length + 1 : Nat) : Int) := by rw [wrap_id (by unfold I64; omega)]; omega
  have n1 : ∀ x : Box, (N ++ [x])[N.length]? = some x := fun x => by simp
  have n2 : ∀ x z : Box, (N ++ [x]).set N.length z = N ++ [z] := fun x z => by simp
  by_cases c : b.mark = 0
  ·obtain ⟨N1, fl1, h2, hf1⟩ := frecs_loop b hb lo hi (.list 7 (L.map Ba.V) .ro) (L.length : Nat) (p.length : Nat) N.length H b.recs [] out fl (N ++ [.cells b.cs]) rfl (by omega) (by simp) hfl
   have er : recsF b lo hi (([] : List Rc).length : Nat) b.recs = recB b lo hi := by unfold recB; rw [if_pos c]; rfl
   rw [er] at h2 hf1
   have hrl := recB_len b hb lo hi
   obtain ⟨N', fl', h3, hf'⟩ := ih (p ++ [b]) (out ++ recB b lo hi) fl1 N1 (by rw [hp]; simp) (by simp; omega) hf1
   rw [List.append_assoc, show recB b lo hi ++ recordsL lo hi r = recordsL lo hi (b :: r) from rfl] at h3 hf'
   simp only [List.length_append, List.length_cons, List.length_nil, Nat.zero_add] at h3
   refine ⟨N', fl', ?_, hf'⟩
   generalize recordsL lo hi (b :: r) = R at *
   generalize recB b lo hi = R1 at *
   have c' : ¬ b.mark ≠ 0 := by omega
   simp only [List.length_nil, Int.natCast_zero] at h2
   unfold Ba.cs at *
   refine loop_step l_fold_Records_1.eq_1 k_fold_Records_1.eq_1 (by kernel_rfl) ?_
   simp only [go_sem, h1, e0, e7, e1, n1, n2, eq_true c, List.length_map, h2, e6, simprocAttr]
   exact h3
  ·have er : recB b lo hi = [] := by unfold recB; rw [if_neg c]
   obtain ⟨N', fl', h3, hf'⟩ := ih (p ++ [b]) out fl (N ++ [.cells b.cs]) (by rw [hp]; simp) (by simp; omega) hfl
   rw [show recordsL lo hi r = recordsL lo hi (b :: r) by rw [show recordsL lo hi (b :: r) = recB b lo hi ++ recordsL lo hi r from rfl, er]; rfl] at h3 hf'
   simp only [List.length_append, List.length_cons, List.length_nil, Nat.zero_add] at h3
   refine ⟨N', fl', ?_, hf'⟩
   generalize recordsL lo hi (b :: r) = R at *
   unfold Ba.cs at *
   refine loop_step l_fold_Records_1.eq_1 k_fold_Records_1.eq_1 (by kernel_rfl) ?_
   simp only [go_sem, h1, e0, e7, e1, n1, n2, c, e6, simprocAttr]
   exact h3
theorem records_spec (L : List Ba) (hL : ∀ b ∈ L, Fit b) (hn : L.length ≤ 1000) (st lo hi : Int) (H : Heap) :
  W n_fold_Records [.int .i64 st, .list 7 (L.map Ba.V) .ro, .int .i64 lo, .int .i64 hi] H = some (.list 4 ((recordsL lo hi L).map gV) .full, H) := by
 obtain ⟨N, fl, h, hf⟩ := records_loop L hL hn lo hi H L [] [] .full [] rfl (by simp) (.inr ⟨rfl, rfl⟩)
 simp only [List.length_nil, Int.natCast_zero, List.map_nil, List.nil_append] at h hf
 have tc := fun H => clip_got ((recordsL lo hi L).map gV) fl (by rcases hf with rfl | ⟨rfl, _⟩ <;> simp) H
 generalize recordsL lo hi L = R at *
 refine W_fn rfl rfl ?_
 rcases hf with rfl | ⟨rfl, rfl⟩
 ·simp only [go_sem, c_fold_Records, List.length_map, h, tc, under_g, simprocAttr]
 ·simp only [List.map_nil] at h tc ⊢
  simp only [go_sem, c_fold_Records, List.length_map, h, tc, simprocAttr]
  first | done | rfl
def keptQ (p : Int) : List Ba → Bool
 | [] => false
 | x :: l => if x.mark ≠ 0 ∧ x.prod = p then decide (x.mark = 1) else keptQ p l
theorem kept_loop (b : Ba) (L : List Ba) (hn : L.length ≤ 1000) (H : Heap) (r : List Ba) : ∀ (p : List Ba) (N : Heap), L = p ++ r →
  ∃ N', loopA W loopW (.ghost (.kill k_fold_kept_0) l_fold_kept_0) [(2, .ptr (pt H 0) 0), (7, .list 7 (L.map Ba.V) .ro), (8, .int .i64 (L.length : Nat)), (9, .int .i64 (p.length : Nat))] (hx H (.cells b.cs :: N)) = some (.exit 0, [], hx H N') ∧ keptQ b.prod r = false ∨
   loopA W loopW (.ghost (.kill k_fold_kept_0) l_fold_kept_0) [(2, .ptr (pt H 0) 0), (7, .list 7 (L.map Ba.V) .ro), (8, .int .i64 (L.length : Nat)), (9, .int .i64 (p.length : Nat))] (hx H (.cells b.cs :: N)) = some (.ret, [(4, .bool (keptQ b.prod r))], hx H N') := by
 induction r with
 | nil =>
  intro p N hp
  rw [List.append_nil] at hp
  subst hp
  refine ⟨.cells b.cs :: N, .inl ⟨?_, rfl⟩⟩
  have h1 : ¬ ((L.length : Int) < (L.length : Int)) := by omega
  refine loop_step l_fold_kept_0.eq_1 k_fold_kept_0.eq_1 (by kernel_rfl) ?_
  simp only [go_sem, h1, simprocAttr]
 | cons x r ih =>
  intro p N hp
  have hlen : L.length = p.length + (r.length + 1) := by rw [hp]; simp
  have h1 : ((p.length : Int) < (L.length : Int)) := by omega
  have e0 : (0 : Int) ≤ (p.length : Int) := by omega
  have e7 : ((p.length : Nat) : Int).toNat = p.length := by omega
  have e1 : (L.map Ba.V)[p.length]? = some (.agg [.int .i64 x.base, .int .i64 x.prod, .int .i64 x.epoch, .int .i64 x.seq, .bool x.txn, .int .i64 x.mark, .list 2 (x.recs.map rcV) .ro]) := by rw [hp]; simp [Ba.V, Ba.cs]
  have e6 : IntKind.i64.wrap ((p.length : Int) + 1) = ((p.length + 1 : Nat) : Int) := by rw [wrap_id (by unfold I64; omega)]; omega
  have n1 : ∀ y : Box, (N ++ [y])[N.length]? = some y := fun y => by simp
  have n2 : ∀ y z : Box, (N ++ [y]).set N.length z = N ++ [z] := fun y z => by simp
  obtain ⟨N', h2⟩ := ih (p ++ [x]) (N ++ [.cells x.cs]) (by rw [hp]; simp)
  simp only [List.length_append, List.length_cons, List.length_nil, Nat.zero_add] at h2
  have hq : keptQ b.prod (x :: r) = if x.mark ≠ 0 ∧ x.prod = b.prod then decide (x.mark = 1) else keptQ b.prod r := rfl
  rw [hq]
  unfold Ba.cs at *
  by_cases c1 : x.mark = 0
  ·rw [if_neg (fun h => h.1 c1)]
   refine ⟨N', ?_⟩
   rcases h2 with ⟨h2, h3⟩ | h2
   ·refine .inl ⟨?_, h3⟩
    refine loop_step l_fold_kept_0.eq_1 k_fold_kept_0.eq_1 (by kernel_rfl) ?_
    simp only [go_sem, h1, e0, e7, e1, n1, n2, eq_true c1, e6, simprocAttr]
    exact h2
   ·refine .inr ?_
    refine loop_step l_fold_kept_0.eq_1 k_fold_kept_0.eq_1 (by kernel_rfl) ?_
    simp only [go_sem, h1, e0, e7, e1, n1, n2, eq_true c1, e6, simprocAttr]
    exact h2
  ·by_cases c2 : x.prod = b.prod
   ·rw [if_pos ⟨c1, c2⟩]
    refine ⟨.cells b.cs :: (N ++ [.cells x.cs]), .inr ?_⟩
    unfold Ba.cs
    refine loop_step l_fold_kept_0.eq_1 k_fold_kept_0.eq_1 (by kernel_rfl) ?_
    by_cases c3 : x.mark = 1
    ·simp only [go_sem, h1, e0, e7, e1, n1, n2, c1, eq_true c2, eq_true c3, simprocAttr]
     first | done | simp [c3]
    ·simp only [go_sem, h1, e0, e7, e1, n1, n2, c1, eq_true c2, c3, simprocAttr]
     first | done | simp [c3]
   ·rw [if_neg (fun h => c2 h.2)]
    refine ⟨N', ?_⟩
    rcases h2 with ⟨h2, h3⟩ | h2
    ·refine .inl ⟨?_, h3⟩
     refine loop_step l_fold_kept_0.eq_1 k_fold_kept_0.eq_1 (by kernel_rfl) ?_
     simp only [go_sem, h1, e0, e7, e1, n1, n2, c1, c2, e6, simprocAttr]
     exact h2
    ·refine .inr ?_
     refine loop_step l_fold_kept_0.eq_1 k_fold_kept_0.eq_1 (by kernel_rfl) ?_
     simp only [go_sem, h1, e0, e7, e1, n1, n2, c1, c2, e6, simprocAttr]
     exact h2
theorem kept_spec (b : Ba) (L : List Ba) (hn : L.length ≤ 1000) (H : Heap) : W n_fold_kept [b.V, .list 7 (L.map Ba.V) .ro] H = some (.bool (keptQ b.prod L), H) := by
 obtain ⟨N, h⟩ := kept_loop b L hn H L [] [] rfl
 simp only [List.length_nil, Int.natCast_zero] at h
 unfold Ba.V Ba.cs at *
 refine W_fn rfl rfl ?_
 rcases h with ⟨h, h'⟩ | h
 ·rw [h']
  simp only [go_sem, c_fold_kept, List.length_map, h, simprocAttr]
 ·simp only [go_sem, c_fold_kept, List.length_map, h, simprocAttr]
end Go.Abs
