import Derived.Test.YtknclghaofmnhaaPS1
namespace Go.Abs
open Go Go.RowKit
set_option linter.unusedVariables false
set_option linter.unusedSimpArgs false

/-! ## Producers, batches -/
structure Pr where
  id : Int
  ep : Int
  last : List (Int × Int × Int)
  op : Int
structure Ba where
  base : Int
  prod : Int
  ep : Int
  seq : Int
  txn : Bool
  mark : Int
  recs : List AVal
abbrev t3 (t : Int × Int × Int) : AVal := .agg [.int .i64 t.1, .int .i64 t.2.1, .int .i64 t.2.2]
abbrev lastV (l : List (Int × Int × Int)) (fl : Fl) : AVal := .list 3 (l.map t3) fl
abbrev Pr.v (p : Pr) : AVal := .agg [.int .i64 p.id, .int .i64 p.ep, lastV p.last .ro, .int .i64 p.op]
abbrev Ba.v (b : Ba) : AVal := .agg [.int .i64 b.base, .int .i64 b.prod, .int .i64 b.ep, .int .i64 b.seq, .bool b.txn, .int .i64 b.mark, .list 2 b.recs .ro]

def dupQ (p : Pr) (b : Ba) : List (Int × Int × Int) → Int × Bool
  | [] => (-1, false)
  | l :: ls => if b.mark = 0 ∧ b.ep = p.ep ∧ l.1 = b.seq ∧ l.2.1 = lastQ b.seq b.recs.length then (l.2.2, true) else dupQ p b ls
def checkQ (p : Pr) (known : Bool) (b : Ba) : Int × Int :=
  if b.mark ≠ 0 then (-1, if known = false then 16 else if b.ep < p.ep then 14 else if p.op < 0 then 16 else 0)
  else if known = false then (-1, 0)
  else if b.ep < p.ep then (-1, 14)
  else if b.ep > p.ep then (-1, if p.op ≥ 0 then 16 else if b.seq ≠ 0 then 15 else 0)
  else if (dupQ p b p.last).2 = true then ((dupQ p b p.last).1, 0)
  else if p.last ≠ [] ∧ followsQ (p.last.getLastD (0, 0, 0)).2.1 b.seq = false then (-1, 15)
  else if p.op ≥ 0 ∧ b.txn = false then (-1, 16)
  else (-1, 0)
def applyQ (p : Pr) (known : Bool) (b : Ba) : Pr :=
  let op := if known then p.op else -1
  let l := if known = true ∧ b.ep = p.ep then p.last else []
  if b.mark ≠ 0 then ⟨b.prod, b.ep, l, -1⟩
  else
    let l2 := l ++ [(b.seq, lastQ b.seq b.recs.length, b.base)]
    ⟨b.prod, b.ep, l2.drop (l2.length - 5), if b.txn = true ∧ op < 0 then b.base else op⟩

theorem marker_spec (p : Pr) (k : Bool) (b : Ba) (H : Heap) : W n_producer_marker [p.v, .bool k, b.v] H = some (.int .i64 (if k = false then 16 else if b.ep < p.ep then 14 else if p.op < 0 then 16 else 0), H) := by
  refine W_fn rfl rfl ?_
  cases k
  · simp only [go_sem, c_producer_marker, not_true_eq_false, not_false_eq_true, decide_true, decide_false, reduceCtorEq, ne_eq, Bool.false_eq_true, ↓reduceIte, Nat.reduceAdd, Nat.reduceEqDiff, Nat.reduceLT, Int.reduceLE, s_shl, s_shr, Bool.not_false, Bool.not_true, Bool.and_self, Bool.true_and, Bool.and_true, Bool.and_false, Bool.false_and, Bool.not_true, Bool.true_or, Bool.or_true, Nat.reduceSub, Nat.reduceLeDiff, Nat.reduceMul, Int.reduceToNat, Int.reduceLT, Int.reduceEq, Int.reduceNeg, and_self, and_true, true_and, and_false, false_and, or_true, true_or, or_false, false_or, Int.cast_ofNat_Int, Nat.reduceBEq, Nat.reduceBNe, beq_self_eq_true]
  · by_cases h1 : b.ep < p.ep
    · simp only [go_sem, c_producer_marker, h1, not_true_eq_false, not_false_eq_true, decide_true, decide_false, reduceCtorEq, ne_eq, Bool.false_eq_true, ↓reduceIte, Nat.reduceAdd, Nat.reduceEqDiff, Nat.reduceLT, Int.reduceLE, s_shl, s_shr, Bool.not_false, Bool.not_true, Bool.and_self, Bool.true_and, Bool.and_true, Bool.and_false, Bool.false_and, Bool.not_true, Bool.true_or, Bool.or_true, Nat.reduceSub, Nat.reduceLeDiff, Nat.reduceMul, Int.reduceToNat, Int.reduceLT, Int.reduceEq, Int.reduceNeg, and_self, and_true, true_and, and_false, false_and, or_true, true_or, or_false, false_or, Int.cast_ofNat_Int, Nat.reduceBEq, Nat.reduceBNe, beq_self_eq_true]
    · by_cases h2 : p.op < 0
      · simp only [go_sem, c_producer_marker, h1, h2, not_true_eq_false, not_false_eq_true, decide_true, decide_false, reduceCtorEq, ne_eq, Bool.false_eq_true, ↓reduceIte, Nat.reduceAdd, Nat.reduceEqDiff, Nat.reduceLT, Int.reduceLE, s_shl, s_shr, Bool.not_false, Bool.not_true, Bool.and_self, Bool.true_and, Bool.and_true, Bool.and_false, Bool.false_and, Bool.not_true, Bool.true_or, Bool.or_true, Nat.reduceSub, Nat.reduceLeDiff, Nat.reduceMul, Int.reduceToNat, Int.reduceLT, Int.reduceEq, Int.reduceNeg, and_self, and_true, true_and, and_false, false_and, or_true, true_or, or_false, false_or, Int.cast_ofNat_Int, Nat.reduceBEq, Nat.reduceBNe, beq_self_eq_true]
      · simp only [go_sem, c_producer_marker, h1, h2, not_true_eq_false, not_false_eq_true, decide_true, decide_false, reduceCtorEq, ne_eq, Bool.false_eq_true, ↓reduceIte, Nat.reduceAdd, Nat.reduceEqDiff, Nat.reduceLT, Int.reduceLE, s_shl, s_shr, Bool.not_false, Bool.not_true, Bool.and_self, Bool.true_and, Bool.and_true, Bool.and_false, Bool.false_and, Bool.not_true, Bool.true_or, Bool.or_true, Nat.reduceSub, Nat.reduceLeDiff, Nat.reduceMul, Int.reduceToNat, Int.reduceLT, Int.reduceEq, Int.reduceNeg, and_self, and_true, true_and, and_false, false_and, or_true, true_or, or_false, false_or, Int.cast_ofNat_Int, Nat.reduceBEq, Nat.reduceBNe, beq_self_eq_true]
theorem later_spec (p : Pr) (b : Ba) (H : Heap) : W n_producer_later [p.v, b.v] H = some (.int .i64 (if p.op ≥ 0 then 16 else if b.seq ≠ 0 then 15 else 0), H) := by
  refine W_fn rfl rfl ?_
  by_cases h1 : p.op ≥ 0
  · simp only [go_sem, c_producer_later, h1, not_true_eq_false, not_false_eq_true, decide_true, decide_false, reduceCtorEq, ne_eq, Bool.false_eq_true, ↓reduceIte, Nat.reduceAdd, Nat.reduceEqDiff, Nat.reduceLT, Int.reduceLE, s_shl, s_shr, Bool.not_false, Bool.not_true, Bool.and_self, Bool.true_and, Bool.and_true, Bool.and_false, Bool.false_and, Bool.not_true, Bool.true_or, Bool.or_true, Nat.reduceSub, Nat.reduceLeDiff, Nat.reduceMul, Int.reduceToNat, Int.reduceLT, Int.reduceEq, Int.reduceNeg, and_self, and_true, true_and, and_false, false_and, or_true, true_or, or_false, false_or, Int.cast_ofNat_Int, Nat.reduceBEq, Nat.reduceBNe, beq_self_eq_true]
  · by_cases h2 : b.seq = 0
    · simp only [go_sem, c_producer_later, h1, h2, not_true_eq_false, not_false_eq_true, decide_true, decide_false, reduceCtorEq, ne_eq, Bool.false_eq_true, ↓reduceIte, Nat.reduceAdd, Nat.reduceEqDiff, Nat.reduceLT, Int.reduceLE, s_shl, s_shr, Bool.not_false, Bool.not_true, Bool.and_self, Bool.true_and, Bool.and_true, Bool.and_false, Bool.false_and, Bool.not_true, Bool.true_or, Bool.or_true, Nat.reduceSub, Nat.reduceLeDiff, Nat.reduceMul, Int.reduceToNat, Int.reduceLT, Int.reduceEq, Int.reduceNeg, and_self, and_true, true_and, and_false, false_and, or_true, true_or, or_false, false_or, Int.cast_ofNat_Int, Nat.reduceBEq, Nat.reduceBNe, beq_self_eq_true]
    · simp only [go_sem, c_producer_later, h1, h2, not_true_eq_false, not_false_eq_true, decide_true, decide_false, reduceCtorEq, ne_eq, Bool.false_eq_true, ↓reduceIte, Nat.reduceAdd, Nat.reduceEqDiff, Nat.reduceLT, Int.reduceLE, s_shl, s_shr, Bool.not_false, Bool.not_true, Bool.and_self, Bool.true_and, Bool.and_true, Bool.and_false, Bool.false_and, Bool.not_true, Bool.true_or, Bool.or_true, Nat.reduceSub, Nat.reduceLeDiff, Nat.reduceMul, Int.reduceToNat, Int.reduceLT, Int.reduceEq, Int.reduceNeg, and_self, and_true, true_and, and_false, false_and, or_true, true_or, or_false, false_or, Int.cast_ofNat_Int, Nat.reduceBEq, Nat.reduceBNe, beq_self_eq_true]
end Go.Abs
