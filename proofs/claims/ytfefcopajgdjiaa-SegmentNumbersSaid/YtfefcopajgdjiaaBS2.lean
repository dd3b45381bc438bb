import Derived.Test.YtfefcopajgdjiaaBS1
namespace Go.Abs
open Go Go.RowKit
set_option linter.unusedVariables false
set_option linter.unusedSimpArgs false

theorem ref_seq_spec (n : Int) (H : Heap) : W n_ref3_Seq [.int .i64 n] H = some (.bool (seqR n), H) := by
 refine W_fn rfl rfl ?_
 unfold seqR
 by_cases c1 : n ≥ 0
 ·by_cases c2 : n ≤ 2147483647 <;> simp only [go_sem, c_ref3_Seq, c1, c2, reduceCtorEq, ↓reduceIte, Nat.reduceAdd, Nat.reduceEqDiff, Nat.reduceLT, Int.reduceLE, Nat.reduceSub, Nat.reduceLeDiff, Nat.reduceMul, Int.reduceToNat, Int.reduceLT, Int.reduceEq, Int.reduceNeg, Nat.reduceBEq, Nat.reduceBNe]
 ·simp only [go_sem, c_ref3_Seq, c1, reduceCtorEq, ↓reduceIte, Nat.reduceAdd, Nat.reduceEqDiff, Nat.reduceLT, Int.reduceLE, Nat.reduceSub, Nat.reduceLeDiff, Nat.reduceMul, Int.reduceToNat, Int.reduceLT, Int.reduceEq, Int.reduceNeg, Nat.reduceBEq, Nat.reduceBNe]
end Go.Abs

namespace Go.Abs
open Go Go.RowKit
set_option linter.unusedVariables false
set_option linter.unusedSimpArgs false

/-! ## Seqs, by the document -/
def addS (n k : Int) : Int := if seqR n = true then (n + k) % 2147483648 else -1
def lastS (n c : Int) : Int := if c < 1 ∨ c > 16 then -1 else addS n (c - 1)
def followsS (l f : Int) : Bool := if l = -1 then decide (f = 0) else seqR l && decide (addS l 1 = f)

theorem ref_add_spec (n k : Int) (H : Heap) (hk : 0 ≤ k) (hk1 : k ≤ 1000) : W n_ref3_Add [.int .i64 n, .int .i64 k] H = some (.int .i64 (addS n k), H) := by
 have t := fun H => ref_seq_spec n H
 unfold addS
 cases c : seqR n with
 | false =>
  rw [c] at t
  refine W_fn rfl rfl ?_
  simp only [go_sem, c_ref3_Add, t, reduceCtorEq, ↓reduceIte, Nat.reduceAdd, Nat.reduceEqDiff, Nat.reduceLT, Int.reduceLE, Nat.reduceSub, Nat.reduceLeDiff, Nat.reduceMul, Int.reduceToNat, Int.reduceLT, Int.reduceEq, Int.reduceNeg, Nat.reduceBEq, Nat.reduceBNe]
 | true =>
  rw [c] at t
  have hn : 0 ≤ n ∧ n ≤ 2147483647 := by simpa [seqR] using c
  have e1 : k.tmod 2147483648 = k := Int.tmod_eq_of_lt hk (by omega)
  have w1 : IntKind.i64.wrap (n + k) = n + k := wrap_id (by unfold I64; omega)
  have e2 : (n + k).tmod 2147483648 = (n + k) % 2147483648 := Int.tmod_eq_emod_of_nonneg (by omega)
  have w2 : IntKind.i64.wrap ((n + k) % 2147483648 + 2147483648) = (n + k) % 2147483648 + 2147483648 := wrap_id (by unfold I64; omega)
  have e3 : ((n + k) % 2147483648 + 2147483648).tmod 2147483648 = (n + k) % 2147483648 := by
   rw [Int.tmod_eq_emod_of_nonneg (by omega)]; omega
  have n0 : ¬ (2147483648 : Int) = 0 := by decide
  refine W_fn rfl rfl ?_
  simp only [go_sem, c_ref3_Add, t, e1, w1, e2, w2, e3, n0, reduceCtorEq, ↓reduceIte, Nat.reduceAdd, Nat.reduceEqDiff, Nat.reduceLT, Int.reduceLE, Nat.reduceSub, Nat.reduceLeDiff, Nat.reduceMul, Int.reduceToNat, Int.reduceLT, Int.reduceEq, Int.reduceNeg, Nat.reduceBEq, Nat.reduceBNe]
theorem ref_last_spec (n c : Int) (H : Heap) (hc : 0 ≤ c) : W n_ref3_Last [.int .i64 n, .int .i64 c] H = some (.int .i64 (lastS n c), H) := by
 unfold lastS
 by_cases c1 : c < 1
 ·rw [if_pos (.inl c1)]
  refine W_fn rfl rfl ?_
  simp only [go_sem, c_ref3_Last, c1, reduceCtorEq, ↓reduceIte, Nat.reduceAdd, Nat.reduceEqDiff, Nat.reduceLT, Int.reduceLE, Nat.reduceSub, Nat.reduceLeDiff, Nat.reduceMul, Int.reduceToNat, Int.reduceLT, Int.reduceEq, Int.reduceNeg, Nat.reduceBEq, Nat.reduceBNe]
 by_cases c2 : c > 16
 ·rw [if_pos (.inr c2)]
  refine W_fn rfl rfl ?_
  simp only [go_sem, c_ref3_Last, c1, c2, reduceCtorEq, ↓reduceIte, Nat.reduceAdd, Nat.reduceEqDiff, Nat.reduceLT, Int.reduceLE, Nat.reduceSub, Nat.reduceLeDiff, Nat.reduceMul, Int.reduceToNat, Int.reduceLT, Int.reduceEq, Int.reduceNeg, Nat.reduceBEq, Nat.reduceBNe]
 ·rw [if_neg (by omega)]
  have t := fun H => ref_add_spec n (c - 1) H (by omega) (by omega)
  have w1 : IntKind.i64.wrap (c - 1) = c - 1 := wrap_id (by unfold I64; omega)
  refine W_fn rfl rfl ?_
  simp only [go_sem, c_ref3_Last, c1, c2, w1, t, reduceCtorEq, ↓reduceIte, Nat.reduceAdd, Nat.reduceEqDiff, Nat.reduceLT, Int.reduceLE, Nat.reduceSub, Nat.reduceLeDiff, Nat.reduceMul, Int.reduceToNat, Int.reduceLT, Int.reduceEq, Int.reduceNeg, Nat.reduceBEq, Nat.reduceBNe]
theorem ref_follows_spec (l f : Int) (H : Heap) : W n_ref3_Follows [.int .i64 l, .int .i64 f] H = some (.bool (followsS l f), H) := by
 have t1 := fun H => ref_seq_spec l H
 have t2 := fun H => ref_add_spec l 1 H (by omega) (by omega)
 unfold followsS
 by_cases c : l = -1
 ·rw [if_pos c]
  refine W_fn rfl rfl ?_
  simp only [go_sem, c_ref3_Follows, eq_true c, reduceCtorEq, ↓reduceIte, Nat.reduceAdd, Nat.reduceEqDiff, Nat.reduceLT, Int.reduceLE, Nat.reduceSub, Nat.reduceLeDiff, Nat.reduceMul, Int.reduceToNat, Int.reduceLT, Int.reduceEq, Int.reduceNeg, Nat.reduceBEq, Nat.reduceBNe]
 ·rw [if_neg c]
  cases c2 : seqR l with
  | false =>
   rw [c2] at t1
   refine W_fn rfl rfl ?_
   simp only [go_sem, c_ref3_Follows, c, t1, reduceCtorEq, ↓reduceIte, Nat.reduceAdd, Nat.reduceEqDiff, Nat.reduceLT, Int.reduceLE, Nat.reduceSub, Nat.reduceLeDiff, Nat.reduceMul, Int.reduceToNat, Int.reduceLT, Int.reduceEq, Int.reduceNeg, Nat.reduceBEq, Nat.reduceBNe]
  | true =>
   rw [c2] at t1
   refine W_fn rfl rfl ?_
   simp only [go_sem, c_ref3_Follows, c, t1, t2, reduceCtorEq, ↓reduceIte, Nat.reduceAdd, Nat.reduceEqDiff, Nat.reduceLT, Int.reduceLE, Nat.reduceSub, Nat.reduceLeDiff, Nat.reduceMul, Int.reduceToNat, Int.reduceLT, Int.reduceEq, Int.reduceNeg, Nat.reduceBEq, Nat.reduceBNe]

/-! ## Producers -/
abbrev La := Int × Int × Int
def laV (x : La) : AVal := .agg [.int .i64 x.1, .int .i64 x.2.1, .int .i64 x.2.2]
structure Pr where
 id : Int
 epoch : Int
 last : List La
 open_ : Int
def Pr.cs (p : Pr) : List AVal := [.int .i64 p.id, .int .i64 p.epoch, .list 3 (p.last.map laV) .ro, .int .i64 p.open_]
def Pr.V (p : Pr) : AVal := .agg p.cs

def dupIn (n c : Int) : List La → Option Int
 | [] => none
 | x :: l => if x.1 = n ∧ x.2.1 = lastS n c then some x.2.2 else dupIn n c l
def dupP (p : Pr) (b : Ba) : Option Int := if b.epoch = p.epoch ∧ b.mark = 0 then dupIn b.seq b.recs.length p.last else none

theorem dup_loop (b : Ba) (L : List La) (hn : L.length ≤ 1000000) (C : Box) (H : Heap) (r : List La) : ∀ (p : List La) (N : Heap), L = p ++ r →
  ∃ M, loopA W loopW (.ghost (.kill k_ref10_Dup_0) l_ref10_Dup_0) [(3, .ptr (pt H 1) 0), (19, .list 3 (L.map laV) .ro), (20, .int .i64 (L.length : Nat)), (21, .int .i64 (p.length : Nat))] (hx H (C :: .cells b.cs :: N)) =
   match dupIn b.seq b.recs.length r with
   | some v => some (.ret, [(4, .int .i64 v), (5, .bool true)], hx H M)
   | none => some (.exit 0, [], hx H M) := by
 induction r with
 | nil =>
  intro p N hp
  rw [List.append_nil] at hp
  subst hp
  refine ⟨(C :: .cells b.cs :: N), ?_⟩
  have h1 : ¬ ((L.length : Int) < (L.length : Int)) := by omega
  show _ = some (Out.exit 0, _, _)
  refine loop_step l_ref10_Dup_0.eq_1 k_ref10_Dup_0.eq_1 (by kernel_rfl) ?_
  simp only [go_sem, h1, reduceCtorEq, ↓reduceIte, Nat.reduceAdd, Nat.reduceEqDiff, Nat.reduceLT, Int.reduceLE, Nat.reduceSub, Nat.reduceLeDiff, Nat.reduceMul, Int.reduceToNat, Int.reduceLT, Int.reduceEq, Int.reduceNeg, Nat.reduceBEq, Nat.reduceBNe]
 | cons x r ih =>
  intro p N hp
  have hlen : p.length < L.length := by rw [hp]; simp
  have h1 : ((p.length : Int) < (L.length : Int)) := by omega
  have e0 : (0 : Int) ≤ (p.length : Int) := by omega
  have e7 : ((p.length : Nat) : Int).toNat = p.length := by omega
  have e1 : (L.map laV)[p.length]? = some (.agg [.int .i64 x.1, .int .i64 x.2.1, .int .i64 x.2.2]) := by rw [hp]; simp [laV]
  have e6 : IntKind.i64.wrap ((p.length : Int) + 1) = ((p.length + 1 : Nat) : Int) := by rw [wrap_id (by unfold I64; omega)]; omega
  have t := fun H => ref_last_spec b.seq b.recs.length H (by omega)
  obtain ⟨M, h2⟩ := ih (p ++ [x]) (N ++ [.cells [.int .i64 x.1, .int .i64 x.2.1, .int .i64 x.2.2]]) (by rw [hp]; simp)
  simp only [List.length_append, List.length_cons, List.length_nil, Nat.zero_add] at h2
  have no : ¬ (x.1 = b.seq ∧ x.2.1 = lastS b.seq b.recs.length) → dupIn b.seq b.recs.length (x :: r) = dupIn b.seq b.recs.length r := fun h => by rw [dupIn, if_neg h]
  by_cases c1 : x.1 = b.seq
  ·by_cases c2 : x.2.1 = lastS b.seq b.recs.length
   ·refine ⟨C :: .cells b.cs :: N ++ [.cells [.int .i64 x.1, .int .i64 x.2.1, .int .i64 x.2.2]], ?_⟩
    rw [show dupIn b.seq b.recs.length (x :: r) = some x.2.2 by rw [dupIn, if_pos ⟨c1, c2⟩]]
    unfold Ba.cs
    show _ = some (Out.ret, _, _)
    refine loop_step l_ref10_Dup_0.eq_1 k_ref10_Dup_0.eq_1 (by kernel_rfl) ?_
    simp only [go_sem, h1, e0, e7, e1, eq_true c1, eq_true c2, t, List.length_map, reduceCtorEq, ↓reduceIte, Nat.reduceAdd, Nat.reduceEqDiff, Nat.reduceLT, Int.reduceLE, Nat.reduceSub, Nat.reduceLeDiff, Nat.reduceMul, Int.reduceToNat, Int.reduceLT, Int.reduceEq, Int.reduceNeg, Nat.reduceBEq, Nat.reduceBNe]
   ·refine ⟨M, ?_⟩
    rw [no (fun h => c2 h.2)]
    cases hd : dupIn b.seq b.recs.length r with
    | none =>
     rw [hd] at h2
     unfold Ba.cs at h2 ⊢
     show _ = some (Out.exit 0, _, _)
     refine loop_step l_ref10_Dup_0.eq_1 k_ref10_Dup_0.eq_1 (by kernel_rfl) ?_
     simp only [go_sem, h1, e0, e7, e1, eq_true c1, c2, t, e6, List.length_map, reduceCtorEq, ↓reduceIte, Nat.reduceAdd, Nat.reduceEqDiff, Nat.reduceLT, Int.reduceLE, Nat.reduceSub, Nat.reduceLeDiff, Nat.reduceMul, Int.reduceToNat, Int.reduceLT, Int.reduceEq, Int.reduceNeg, Nat.reduceBEq, Nat.reduceBNe]
     exact h2
    | some v =>
     rw [hd] at h2
     unfold Ba.cs at h2 ⊢
     show _ = some (Out.ret, _, _)
     refine loop_step l_ref10_Dup_0.eq_1 k_ref10_Dup_0.eq_1 (by kernel_rfl) ?_
     simp only [go_sem, h1, e0, e7, e1, eq_true c1, c2, t, e6, List.length_map, reduceCtorEq, ↓reduceIte, Nat.reduceAdd, Nat.reduceEqDiff, Nat.reduceLT, Int.reduceLE, Nat.reduceSub, Nat.reduceLeDiff, Nat.reduceMul, Int.reduceToNat, Int.reduceLT, Int.reduceEq, Int.reduceNeg, Nat.reduceBEq, Nat.reduceBNe]
     exact h2
  ·refine ⟨M, ?_⟩
   rw [no (fun h => c1 h.1)]
   cases hd : dupIn b.seq b.recs.length r with
   | none =>
    rw [hd] at h2
    unfold Ba.cs at h2 ⊢
    show _ = some (Out.exit 0, _, _)
    refine loop_step l_ref10_Dup_0.eq_1 k_ref10_Dup_0.eq_1 (by kernel_rfl) ?_
    simp only [go_sem, h1, e0, e7, e1, c1, e6, reduceCtorEq, ↓reduceIte, Nat.reduceAdd, Nat.reduceEqDiff, Nat.reduceLT, Int.reduceLE, Nat.reduceSub, Nat.reduceLeDiff, Nat.reduceMul, Int.reduceToNat, Int.reduceLT, Int.reduceEq, Int.reduceNeg, Nat.reduceBEq, Nat.reduceBNe]
    exact h2
   | some v =>
    rw [hd] at h2
    unfold Ba.cs at h2 ⊢
    show _ = some (Out.ret, _, _)
    refine loop_step l_ref10_Dup_0.eq_1 k_ref10_Dup_0.eq_1 (by kernel_rfl) ?_
    simp only [go_sem, h1, e0, e7, e1, c1, e6, reduceCtorEq, ↓reduceIte, Nat.reduceAdd, Nat.reduceEqDiff, Nat.reduceLT, Int.reduceLE, Nat.reduceSub, Nat.reduceLeDiff, Nat.reduceMul, Int.reduceToNat, Int.reduceLT, Int.reduceEq, Int.reduceNeg, Nat.reduceBEq, Nat.reduceBNe]
    exact h2

theorem ref_dup_spec (p : Pr) (b : Ba) (hn : p.last.length ≤ 1000000) (H : Heap) :
  W n_ref10_Dup [p.V, b.V] H = some (.tuple [.int .i64 ((dupP p b).getD (-1)), .bool (dupP p b).isSome], H) := by
 obtain ⟨M, h⟩ := dup_loop b p.last hn (.cells p.cs) H p.last [] [] rfl
 have g0 : ((([] : List La).length : Nat) : Int) = 0 := rfl
 rw [g0] at h
 unfold Ba.cs Pr.cs at h
 have no : ¬ (b.epoch = p.epoch ∧ b.mark = 0) → dupP p b = none := fun h => by unfold dupP; rw [if_neg h]
 unfold Pr.V Pr.cs Ba.V Ba.cs
 by_cases c1 : b.epoch = p.epoch
 ·by_cases c2 : b.mark = 0
  ·rw [show dupP p b = dupIn b.seq b.recs.length p.last by unfold dupP; rw [if_pos ⟨c1, c2⟩]]
   cases hd : dupIn b.seq b.recs.length p.last with
   | none =>
    rw [hd] at h
    refine W_fn rfl rfl ?_
    simp only [go_sem, c_ref10_Dup, eq_true c1, eq_true c2, List.length_map, h, reduceCtorEq, ↓reduceIte, Nat.reduceAdd, Nat.reduceEqDiff, Nat.reduceLT, Int.reduceLE, Nat.reduceSub, Nat.reduceLeDiff, Nat.reduceMul, Int.reduceToNat, Int.reduceLT, Int.reduceEq, Int.reduceNeg, Nat.reduceBEq, Nat.reduceBNe]
    rfl
   | some v =>
    rw [hd] at h
    refine W_fn rfl rfl ?_
    simp only [go_sem, c_ref10_Dup, eq_true c1, eq_true c2, List.length_map, h, reduceCtorEq, ↓reduceIte, Nat.reduceAdd, Nat.reduceEqDiff, Nat.reduceLT, Int.reduceLE, Nat.reduceSub, Nat.reduceLeDiff, Nat.reduceMul, Int.reduceToNat, Int.reduceLT, Int.reduceEq, Int.reduceNeg, Nat.reduceBEq, Nat.reduceBNe]
    rfl
  ·rw [no (fun h => c2 h.2)]
   refine W_fn rfl rfl ?_
   simp only [go_sem, c_ref10_Dup, eq_true c1, c2, reduceCtorEq, ↓reduceIte, Nat.reduceAdd, Nat.reduceEqDiff, Nat.reduceLT, Int.reduceLE, Nat.reduceSub, Nat.reduceLeDiff, Nat.reduceMul, Int.reduceToNat, Int.reduceLT, Int.reduceEq, Int.reduceNeg, Nat.reduceBEq, Nat.reduceBNe]
   rfl
 ·rw [no (fun h => c1 h.1)]
  refine W_fn rfl rfl ?_
  simp only [go_sem, c_ref10_Dup, c1, reduceCtorEq, ↓reduceIte, Nat.reduceAdd, Nat.reduceEqDiff, Nat.reduceLT, Int.reduceLE, Nat.reduceSub, Nat.reduceLeDiff, Nat.reduceMul, Int.reduceToNat, Int.reduceLT, Int.reduceEq, Int.reduceNeg, Nat.reduceBEq, Nat.reduceBNe]
  rfl
end Go.Abs

namespace Go.Abs
open Go Go.RowKit
set_option linter.unusedVariables false
set_option linter.unusedSimpArgs false

/-- How one producer is judged: the base that is known, or -1; why not. -/
def checkP (p : Pr) (known : Bool) (b : Ba) : Int × Int :=
 if b.mark ≠ 0 then
  if known = false then (-1, 16) else if b.epoch < p.epoch then (-1, 14) else if p.open_ < 0 then (-1, 16) else (-1, 0)
 else if known = false then (-1, 0)
 else if b.epoch < p.epoch then (-1, 14)
 else if b.epoch > p.epoch then (if p.open_ ≥ 0 then (-1, 16) else if b.seq ≠ 0 then (-1, 15) else (-1, 0))
 else match dupP p b with
  | some v => (v, 0)
  | none => match p.last.getLast? with
   | some x => if followsS x.2.1 b.seq = false then (-1, 15) else if p.open_ ≥ 0 ∧ b.txn = false then (-1, 16) else (-1, 0)
   | none => if p.open_ ≥ 0 ∧ b.txn = false then (-1, 16) else (-1, 0)

theorem ref_check_spec (p : Pr) (known : Bool) (b : Ba) (hn : p.last.length ≤ 1000000) (H : Heap) :
  W n_ref10_Check [p.V, .bool known, b.V] H = some (.tuple [.int .i64 (checkP p known b).1, .int .i64 (checkP p known b).2], H) := by
 have td := fun H => ref_dup_spec p b hn H
 unfold checkP
 unfold Pr.V Pr.cs Ba.V Ba.cs at *
 by_cases c1 : b.mark = 0
 ·rw [if_neg (by omega)]
  cases known with
  | false =>
   simp only [if_true]
   refine W_fn rfl rfl ?_
   simp only [go_sem, c_ref10_Check, eq_true c1, reduceCtorEq, ↓reduceIte, Nat.reduceAdd, Nat.reduceEqDiff, Nat.reduceLT, Int.reduceLE, Nat.reduceSub, Nat.reduceLeDiff, Nat.reduceMul, Int.reduceToNat, Int.reduceLT, Int.reduceEq, Int.reduceNeg, Nat.reduceBEq, Nat.reduceBNe]
  | true =>
   simp only [Bool.true_eq_false, if_false]
   by_cases c2 : b.epoch < p.epoch
   ·rw [if_pos c2]
    refine W_fn rfl rfl ?_
    simp only [go_sem, c_ref10_Check, eq_true c1, c2, reduceCtorEq, ↓reduceIte, Nat.reduceAdd, Nat.reduceEqDiff, Nat.reduceLT, Int.reduceLE, Nat.reduceSub, Nat.reduceLeDiff, Nat.reduceMul, Int.reduceToNat, Int.reduceLT, Int.reduceEq, Int.reduceNeg, Nat.reduceBEq, Nat.reduceBNe]
   ·rw [if_neg c2]
    by_cases c3 : b.epoch > p.epoch
    ·rw [if_pos c3]
     by_cases c4 : p.open_ ≥ 0
     ·rw [if_pos c4]
      refine W_fn rfl rfl ?_
      simp only [go_sem, c_ref10_Check, eq_true c1, c2, c3, c4, reduceCtorEq, ↓reduceIte, Nat.reduceAdd, Nat.reduceEqDiff, Nat.reduceLT, Int.reduceLE, Nat.reduceSub, Nat.reduceLeDiff, Nat.reduceMul, Int.reduceToNat, Int.reduceLT, Int.reduceEq, Int.reduceNeg, Nat.reduceBEq, Nat.reduceBNe]
     ·rw [if_neg c4]
      by_cases c5 : b.seq = 0
      ·rw [if_neg (by omega)]
       refine W_fn rfl rfl ?_
       simp only [go_sem, c_ref10_Check, eq_true c1, c2, c3, c4, eq_true c5, reduceCtorEq, ↓reduceIte, Nat.reduceAdd, Nat.reduceEqDiff, Nat.reduceLT, Int.reduceLE, Nat.reduceSub, Nat.reduceLeDiff, Nat.reduceMul, Int.reduceToNat, Int.reduceLT, Int.reduceEq, Int.reduceNeg, Nat.reduceBEq, Nat.reduceBNe]
      ·rw [if_pos c5]
       refine W_fn rfl rfl ?_
       simp only [go_sem, c_ref10_Check, eq_true c1, c2, c3, c4, c5, reduceCtorEq, ↓reduceIte, Nat.reduceAdd, Nat.reduceEqDiff, Nat.reduceLT, Int.reduceLE, Nat.reduceSub, Nat.reduceLeDiff, Nat.reduceMul, Int.reduceToNat, Int.reduceLT, Int.reduceEq, Int.reduceNeg, Nat.reduceBEq, Nat.reduceBNe]
    ·rw [if_neg c3]
     cases hd : dupP p b with
     | some v =>
      rw [hd] at td
      simp only [Option.getD_some, Option.isSome_some] at td
      refine W_fn rfl rfl ?_
      simp only [go_sem, c_ref10_Check, eq_true c1, c2, c3, td, reduceCtorEq, ↓reduceIte, Nat.reduceAdd, Nat.reduceEqDiff, Nat.reduceLT, Int.reduceLE, Nat.reduceSub, Nat.reduceLeDiff, Nat.reduceMul, Int.reduceToNat, Int.reduceLT, Int.reduceEq, Int.reduceNeg, Nat.reduceBEq, Nat.reduceBNe]
     | none =>
      rw [hd] at td
      simp only [Option.getD_none, Option.isSome_none] at td
      rcases List.eq_nil_or_concat p.last with hl | ⟨l, x, hl⟩
      ·have l0 : p.last.length = 0 := by rw [hl]; rfl
       rw [hl]
       rw [hl] at td
       simp only [List.map_nil] at td
       by_cases c6 : p.open_ ≥ 0
       ·cases c7 : b.txn with
        | false =>
         rw [c7] at td
         simp only [List.getLast?_nil, c6, true_and, if_true]
         refine W_fn rfl rfl ?_
         simp only [go_sem, c_ref10_Check, eq_true c1, c2, c3, td, List.map_nil, List.length_nil, c6, c7, Int.natCast_zero, gt_iff_lt, Int.lt_irrefl, reduceCtorEq, ↓reduceIte, Nat.reduceAdd, Nat.reduceEqDiff, Nat.reduceLT, Int.reduceLE, Nat.reduceSub, Nat.reduceLeDiff, Nat.reduceMul, Int.reduceToNat, Int.reduceLT, Int.reduceEq, Int.reduceNeg, Nat.reduceBEq, Nat.reduceBNe]
        | true =>
         rw [c7] at td
         simp only [List.getLast?_nil, c6, Bool.true_eq_false, and_false, if_false]
         refine W_fn rfl rfl ?_
         simp only [go_sem, c_ref10_Check, eq_true c1, c2, c3, td, List.map_nil, List.length_nil, c6, c7, Int.natCast_zero, gt_iff_lt, Int.lt_irrefl, reduceCtorEq, ↓reduceIte, Nat.reduceAdd, Nat.reduceEqDiff, Nat.reduceLT, Int.reduceLE, Nat.reduceSub, Nat.reduceLeDiff, Nat.reduceMul, Int.reduceToNat, Int.reduceLT, Int.reduceEq, Int.reduceNeg, Nat.reduceBEq, Nat.reduceBNe]
       ·simp only [List.getLast?_nil, c6, false_and, if_false]
        refine W_fn rfl rfl ?_
        simp only [go_sem, c_ref10_Check, eq_true c1, c2, c3, td, List.map_nil, List.length_nil, c6, Int.natCast_zero, gt_iff_lt, Int.lt_irrefl, reduceCtorEq, ↓reduceIte, Nat.reduceAdd, Nat.reduceEqDiff, Nat.reduceLT, Int.reduceLE, Nat.reduceSub, Nat.reduceLeDiff, Nat.reduceMul, Int.reduceToNat, Int.reduceLT, Int.reduceEq, Int.reduceNeg, Nat.reduceBEq, Nat.reduceBNe]
      ·have hx : p.last.getLast? = some x := by rw [hl]; simp
       have hlen : p.last.length = l.length + 1 := by rw [hl]; simp
       have h1 : (p.last.length : Int) > 0 := by omega
       have w1 : IntKind.i64.wrap ((p.last.length : Int) - 1) = (l.length : Int) := by rw [wrap_id (by unfold I64; omega)]; omega
       have e0 : (0 : Int) ≤ (l.length : Int) := by omega
       have e7 : ((l.length : Nat) : Int).toNat = l.length := by omega
       have e1 : (p.last.map laV)[l.length]? = some (.agg [.int .i64 x.1, .int .i64 x.2.1, .int .i64 x.2.2]) := by rw [hl]; simp [laV]
       have tf := fun H => ref_follows_spec x.2.1 b.seq H
       rw [hx]
       simp only
       cases c5 : followsS x.2.1 b.seq with
       | false =>
        rw [c5] at tf
        simp only [if_true]
        refine W_fn rfl rfl ?_
        simp only [go_sem, c_ref10_Check, eq_true c1, c2, c3, td, List.length_map, h1, w1, e0, e7, e1, tf, reduceCtorEq, ↓reduceIte, Nat.reduceAdd, Nat.reduceEqDiff, Nat.reduceLT, Int.reduceLE, Nat.reduceSub, Nat.reduceLeDiff, Nat.reduceMul, Int.reduceToNat, Int.reduceLT, Int.reduceEq, Int.reduceNeg, Nat.reduceBEq, Nat.reduceBNe]
       | true =>
        rw [c5] at tf
        simp only [Bool.true_eq_false, if_false]
        by_cases c6 : p.open_ ≥ 0
        ·cases c7 : b.txn with
         | false =>
          rw [c7] at td
          simp only [c6, true_and, if_true]
          refine W_fn rfl rfl ?_
          simp only [go_sem, c_ref10_Check, eq_true c1, c2, c3, td, List.length_map, h1, w1, e0, e7, e1, tf, c6, c7, reduceCtorEq, ↓reduceIte, Nat.reduceAdd, Nat.reduceEqDiff, Nat.reduceLT, Int.reduceLE, Nat.reduceSub, Nat.reduceLeDiff, Nat.reduceMul, Int.reduceToNat, Int.reduceLT, Int.reduceEq, Int.reduceNeg, Nat.reduceBEq, Nat.reduceBNe]
         | true =>
          rw [c7] at td
          simp only [c6, Bool.true_eq_false, and_false, if_false]
          refine W_fn rfl rfl ?_
          simp only [go_sem, c_ref10_Check, eq_true c1, c2, c3, td, List.length_map, h1, w1, e0, e7, e1, tf, c6, c7, reduceCtorEq, ↓reduceIte, Nat.reduceAdd, Nat.reduceEqDiff, Nat.reduceLT, Int.reduceLE, Nat.reduceSub, Nat.reduceLeDiff, Nat.reduceMul, Int.reduceToNat, Int.reduceLT, Int.reduceEq, Int.reduceNeg, Nat.reduceBEq, Nat.reduceBNe]
        ·simp only [c6, false_and, if_false]
         refine W_fn rfl rfl ?_
         simp only [go_sem, c_ref10_Check, eq_true c1, c2, c3, td, List.length_map, h1, w1, e0, e7, e1, tf, c6, reduceCtorEq, ↓reduceIte, Nat.reduceAdd, Nat.reduceEqDiff, Nat.reduceLT, Int.reduceLE, Nat.reduceSub, Nat.reduceLeDiff, Nat.reduceMul, Int.reduceToNat, Int.reduceLT, Int.reduceEq, Int.reduceNeg, Nat.reduceBEq, Nat.reduceBNe]
 ·rw [if_pos c1]
  cases known with
  | false =>
   simp only [if_true]
   refine W_fn rfl rfl ?_
   simp only [go_sem, c_ref10_Check, c1, reduceCtorEq, ↓reduceIte, Nat.reduceAdd, Nat.reduceEqDiff, Nat.reduceLT, Int.reduceLE, Nat.reduceSub, Nat.reduceLeDiff, Nat.reduceMul, Int.reduceToNat, Int.reduceLT, Int.reduceEq, Int.reduceNeg, Nat.reduceBEq, Nat.reduceBNe]
  | true =>
   simp only [Bool.true_eq_false, if_false]
   by_cases c2 : b.epoch < p.epoch
   ·rw [if_pos c2]
    refine W_fn rfl rfl ?_
    simp only [go_sem, c_ref10_Check, c1, c2, reduceCtorEq, ↓reduceIte, Nat.reduceAdd, Nat.reduceEqDiff, Nat.reduceLT, Int.reduceLE, Nat.reduceSub, Nat.reduceLeDiff, Nat.reduceMul, Int.reduceToNat, Int.reduceLT, Int.reduceEq, Int.reduceNeg, Nat.reduceBEq, Nat.reduceBNe]
   ·rw [if_neg c2]
    by_cases c4 : p.open_ < 0
    ·rw [if_pos c4]
     refine W_fn rfl rfl ?_
     simp only [go_sem, c_ref10_Check, c1, c2, c4, reduceCtorEq, ↓reduceIte, Nat.reduceAdd, Nat.reduceEqDiff, Nat.reduceLT, Int.reduceLE, Nat.reduceSub, Nat.reduceLeDiff, Nat.reduceMul, Int.reduceToNat, Int.reduceLT, Int.reduceEq, Int.reduceNeg, Nat.reduceBEq, Nat.reduceBNe]
    ·rw [if_neg c4]
     refine W_fn rfl rfl ?_
     simp only [go_sem, c_ref10_Check, c1, c2, c4, reduceCtorEq, ↓reduceIte, Nat.reduceAdd, Nat.reduceEqDiff, Nat.reduceLT, Int.reduceLE, Nat.reduceSub, Nat.reduceLeDiff, Nat.reduceMul, Int.reduceToNat, Int.reduceLT, Int.reduceEq, Int.reduceNeg, Nat.reduceBEq, Nat.reduceBNe]

/-- A producer behind a batch that was taken. -/
def lastsP (p : Pr) (known : Bool) (b : Ba) : List La := if known = true ∧ p.epoch = b.epoch then p.last else []
def openP (p : Pr) (known : Bool) : Int := if known then p.open_ else -1
def newL (p : Pr) (known : Bool) (b : Ba) : List La := lastsP p known b ++ [(b.seq, lastS b.seq b.recs.length, b.base)]
def applyP (p : Pr) (known : Bool) (b : Ba) : Pr :=
 if b.mark ≠ 0 then ⟨b.prod, b.epoch, lastsP p known b, -1⟩
 else ⟨b.prod, b.epoch, (newL p known b).drop ((newL p known b).length - 5), if b.txn = true ∧ openP p known < 0 then b.base else openP p known⟩

theorem under_la (n : Nat) : ∀ (r : List La), AVal.underL n (r.map laV) = true
 | [] => rfl
 | x :: r => by simp [laV, AVal.underL, AVal.under, under_la n r]

theorem under_lad (n k : Nat) (r : List La) : AVal.underL n ((r.map laV).drop k) = true := by rw [← List.map_drop]; exact under_la n _

theorem ref_apply_spec (p : Pr) (known : Bool) (b : Ba) (hn : p.last.length ≤ 1000000) (H : Heap) :
  W n_ref10_Apply [p.V, .bool known, b.V] H = some ((applyP p known b).V, H) := by
 have t := fun H => ref_last_spec b.seq b.recs.length H (by omega)
 have b0 : (0 + p.last.length) * 24 ≤ maxBytes := by simp only [maxBytes]; omega
 have b0' : p.last.length * 24 ≤ maxBytes := by simp only [maxBytes]; omega
 have b1 : (p.last.length + 1) * 24 ≤ maxBytes := by simp only [maxBytes]; omega
 have b2 : (0 + 1) * 24 ≤ maxBytes := by simp only [maxBytes]; omega
 have n1 : ∀ (l : List La), l.map laV ++ [.agg [.int .i64 b.seq, .int .i64 (lastS b.seq b.recs.length), .int .i64 b.base]] = (l ++ [(b.seq, lastS b.seq b.recs.length, b.base)]).map laV := fun l => by simp [laV]
 have mx0 : mx (-4) 0 = 0 := rfl
 have w4 : IntKind.i64.wrap ((1 : Int) - 5) = -4 := rfl
 obtain ⟨m, hm, hm2⟩ : ∃ m : Int, mx (IntKind.i64.wrap (((p.last.length + 1 : Nat) : Int) - 5)) 0 = m ∧ m = ((p.last.length + 1 - 5 : Nat) : Int) := by
  refine ⟨_, rfl, ?_⟩
  rw [wrap_id (by unfold I64; omega)]
  unfold mx
  split <;> omega
 have m0 : 0 ≤ m := by omega
 have m1 : m ≤ ((p.last.length + 1 : Nat) : Int) := by omega
 have m3 : m.toNat = p.last.length + 1 - 5 := by omega
 unfold applyP openP
 unfold Pr.V Pr.cs Ba.V Ba.cs
 cases known with
 | false =>
  have hl : lastsP p false b = [] := by unfold lastsP; rw [if_neg (by simp)]
  by_cases c1 : b.mark = 0
  ·rw [if_neg (by omega)]
   simp only [newL, hl, if_true, Bool.false_eq_true, if_false]
   cases c7 : b.txn with
   | false =>
    simp only [Bool.false_eq_true, false_and, if_false]
    refine W_fn rfl rfl ?_
    simp only [go_sem, c_ref10_Apply, eq_true c1, apF, List.length_nil, b2, w4, mx0, slL, List.nil_append, List.length_cons, List.drop_zero, Int.toNat_zero, t, under_la, c7, List.length_map, reduceCtorEq, ↓reduceIte, Nat.reduceAdd, Nat.reduceEqDiff, Nat.reduceLT, Int.reduceLE, Nat.reduceSub, Nat.reduceLeDiff, Nat.reduceMul, Int.reduceToNat, Int.reduceLT, Int.reduceEq, Int.reduceNeg, Nat.reduceBEq, Nat.reduceBNe]
    all_goals rfl
   | true =>
    rw [if_pos (by simp)]
    refine W_fn rfl rfl ?_
    simp only [go_sem, c_ref10_Apply, eq_true c1, apF, List.length_nil, b2, w4, mx0, slL, List.nil_append, List.length_cons, List.drop_zero, Int.toNat_zero, t, under_la, c7, List.length_map, reduceCtorEq, ↓reduceIte, Nat.reduceAdd, Nat.reduceEqDiff, Nat.reduceLT, Int.reduceLE, Nat.reduceSub, Nat.reduceLeDiff, Nat.reduceMul, Int.reduceToNat, Int.reduceLT, Int.reduceEq, Int.reduceNeg, Nat.reduceBEq, Nat.reduceBNe]
    all_goals rfl
  ·rw [if_pos c1, hl]
   refine W_fn rfl rfl ?_
   simp only [go_sem, c_ref10_Apply, c1, under_la, reduceCtorEq, ↓reduceIte, Nat.reduceAdd, Nat.reduceEqDiff, Nat.reduceLT, Int.reduceLE, Nat.reduceSub, Nat.reduceLeDiff, Nat.reduceMul, Int.reduceToNat, Int.reduceLT, Int.reduceEq, Int.reduceNeg, Nat.reduceBEq, Nat.reduceBNe]
   all_goals rfl
 | true =>
  by_cases c2 : p.epoch = b.epoch
  ·have hl : lastsP p true b = p.last := by unfold lastsP; rw [if_pos ⟨rfl, c2⟩]
   by_cases c1 : b.mark = 0
   ·rw [if_neg (by omega)]
    simp only [newL, hl, if_true, Bool.false_eq_true, if_false]
    cases c7 : b.txn with
    | false =>
     simp only [Bool.false_eq_true, false_and, if_false]
     refine W_fn rfl rfl ?_
     simp only [go_sem, c_ref10_Apply, eq_true c1, eq_true c2, apF, apO, List.length_nil, List.nil_append, b0', b1, n1, List.length_append, List.length_cons, Nat.zero_add, hm, slL, m0, m1, m3, List.map_drop, under_lad, t, under_la, c7, List.length_map, reduceCtorEq, ↓reduceIte, Nat.reduceAdd, Nat.reduceEqDiff, Nat.reduceLT, Int.reduceLE, Nat.reduceSub, Nat.reduceLeDiff, Nat.reduceMul, Int.reduceToNat, Int.reduceLT, Int.reduceEq, Int.reduceNeg, Nat.reduceBEq, Nat.reduceBNe]
     all_goals rfl
    | true =>
     simp only [true_and]
     by_cases c8 : p.open_ < 0
     ·rw [if_pos c8]
      refine W_fn rfl rfl ?_
      simp only [go_sem, c_ref10_Apply, eq_true c1, eq_true c2, apF, apO, List.length_nil, List.nil_append, b0', b1, n1, List.length_append, List.length_cons, Nat.zero_add, hm, slL, m0, m1, m3, List.map_drop, under_lad, t, under_la, c7, c8, List.length_map, reduceCtorEq, ↓reduceIte, Nat.reduceAdd, Nat.reduceEqDiff, Nat.reduceLT, Int.reduceLE, Nat.reduceSub, Nat.reduceLeDiff, Nat.reduceMul, Int.reduceToNat, Int.reduceLT, Int.reduceEq, Int.reduceNeg, Nat.reduceBEq, Nat.reduceBNe]
      all_goals rfl
     ·rw [if_neg c8]
      refine W_fn rfl rfl ?_
      simp only [go_sem, c_ref10_Apply, eq_true c1, eq_true c2, apF, apO, List.length_nil, List.nil_append, b0', b1, n1, List.length_append, List.length_cons, Nat.zero_add, hm, slL, m0, m1, m3, List.map_drop, under_lad, t, under_la, c7, c8, List.length_map, reduceCtorEq, ↓reduceIte, Nat.reduceAdd, Nat.reduceEqDiff, Nat.reduceLT, Int.reduceLE, Nat.reduceSub, Nat.reduceLeDiff, Nat.reduceMul, Int.reduceToNat, Int.reduceLT, Int.reduceEq, Int.reduceNeg, Nat.reduceBEq, Nat.reduceBNe]
      all_goals rfl
   ·rw [if_pos c1, hl]
    refine W_fn rfl rfl ?_
    simp only [go_sem, c_ref10_Apply, eq_true c2, c1, apF, List.length_nil, List.length_map, List.nil_append, b0, under_la, reduceCtorEq, ↓reduceIte, Nat.reduceAdd, Nat.reduceEqDiff, Nat.reduceLT, Int.reduceLE, Nat.reduceSub, Nat.reduceLeDiff, Nat.reduceMul, Int.reduceToNat, Int.reduceLT, Int.reduceEq, Int.reduceNeg, Nat.reduceBEq, Nat.reduceBNe]
    all_goals rfl
  ·have hl : lastsP p true b = [] := by unfold lastsP; rw [if_neg (fun h => c2 h.2)]
   by_cases c1 : b.mark = 0
   ·rw [if_neg (by omega)]
    simp only [newL, hl, if_true, Bool.false_eq_true, if_false]
    cases c7 : b.txn with
    | false =>
     simp only [Bool.false_eq_true, false_and, if_false]
     refine W_fn rfl rfl ?_
     simp only [go_sem, c_ref10_Apply, eq_true c1, c2, apF, List.length_nil, b2, w4, mx0, slL, List.nil_append, List.length_cons, List.drop_zero, Int.toNat_zero, t, under_la, c7, List.length_map, reduceCtorEq, ↓reduceIte, Nat.reduceAdd, Nat.reduceEqDiff, Nat.reduceLT, Int.reduceLE, Nat.reduceSub, Nat.reduceLeDiff, Nat.reduceMul, Int.reduceToNat, Int.reduceLT, Int.reduceEq, Int.reduceNeg, Nat.reduceBEq, Nat.reduceBNe]
     all_goals rfl
    | true =>
     simp only [true_and]
     by_cases c8 : p.open_ < 0
     ·rw [if_pos c8]
      refine W_fn rfl rfl ?_
      simp only [go_sem, c_ref10_Apply, eq_true c1, c2, apF, List.length_nil, b2, w4, mx0, slL, List.nil_append, List.length_cons, List.drop_zero, Int.toNat_zero, t, under_la, c7, c8, List.length_map, reduceCtorEq, ↓reduceIte, Nat.reduceAdd, Nat.reduceEqDiff, Nat.reduceLT, Int.reduceLE, Nat.reduceSub, Nat.reduceLeDiff, Nat.reduceMul, Int.reduceToNat, Int.reduceLT, Int.reduceEq, Int.reduceNeg, Nat.reduceBEq, Nat.reduceBNe]
      all_goals rfl
     ·rw [if_neg c8]
      refine W_fn rfl rfl ?_
      simp only [go_sem, c_ref10_Apply, eq_true c1, c2, apF, List.length_nil, b2, w4, mx0, slL, List.nil_append, List.length_cons, List.drop_zero, Int.toNat_zero, t, under_la, c7, c8, List.length_map, reduceCtorEq, ↓reduceIte, Nat.reduceAdd, Nat.reduceEqDiff, Nat.reduceLT, Int.reduceLE, Nat.reduceSub, Nat.reduceLeDiff, Nat.reduceMul, Int.reduceToNat, Int.reduceLT, Int.reduceEq, Int.reduceNeg, Nat.reduceBEq, Nat.reduceBNe]
      all_goals rfl
   ·rw [if_pos c1, hl]
    refine W_fn rfl rfl ?_
    simp only [go_sem, c_ref10_Apply, c2, c1, under_la, reduceCtorEq, ↓reduceIte, Nat.reduceAdd, Nat.reduceEqDiff, Nat.reduceLT, Int.reduceLE, Nat.reduceSub, Nat.reduceLeDiff, Nat.reduceMul, Int.reduceToNat, Int.reduceLT, Int.reduceEq, Int.reduceNeg, Nat.reduceBEq, Nat.reduceBNe]
    all_goals rfl
end Go.Abs

namespace Go.Abs
open Go Go.RowKit
set_option linter.unusedVariables false
set_option linter.unusedSimpArgs false

/-! ## Tables of producers -/
def tabB (l : List Pr) (fl : Fl) : Box := .cells [.list 4 (l.map Pr.V) fl]
/-- So many have an ID below. -/
def belowN (id : Int) : List Pr → Nat
 | [] => 0
 | p :: l => if p.id < id then belowN id l + 1 else 0
def atP (id : Int) (l : List Pr) : Option Pr := match l[belowN id l]? with
 | some p => if p.id = id then some p else none
 | none => none
theorem belowN_le (id : Int) : ∀ l, belowN id l ≤ l.length
 | [] => Nat.le_refl _
 | p :: l => by unfold belowN; split; exact Nat.succ_le_succ (belowN_le id l); exact Nat.zero_le _

theorem at_loop (id : Int) (L : List Pr) (hn : L.length ≤ 1000000) (fl : Fl) (hfl : fl = .own ∨ (fl = .full ∧ L = [])) (i : Nat) (H : Heap) (hi : Old H i (tabB L fl)) (r : List Pr) : ∀ (p : List Pr), L = p ++ r →
  loopA W loopW (.ghost (.kill k_ref10_Table_at_0) l_ref10_Table_at_0) [(0, .ptr i 0), (1, .int .i64 id), (6, .int .i64 (p.length : Nat))] H =
   some (.exit 0, [(0, .ptr i 0), (1, .int .i64 id), (6, .int .i64 ((p.length + belowN id r : Nat) : Int))], H) := by
 have gj := hi.g
 unfold tabB at gj
 induction r with
 | nil =>
  intro p hp
  rw [List.append_nil] at hp
  subst hp
  have h1 : ¬ ((L.length : Int) < (L.length : Int)) := by omega
  have e5 : L.length + belowN id [] = L.length := rfl
  rw [e5]
  refine loop_step l_ref10_Table_at_0.eq_1 k_ref10_Table_at_0.eq_1 (by kernel_rfl) ?_
  rcases hfl with rfl | ⟨rfl, rfl⟩
  ·simp only [go_sem, gj, List.length_map, h1, reduceCtorEq, ↓reduceIte, Nat.reduceAdd, Nat.reduceEqDiff, Nat.reduceLT, Int.reduceLE, Nat.reduceSub, Nat.reduceLeDiff, Nat.reduceMul, Int.reduceToNat, Int.reduceLT, Int.reduceEq, Int.reduceNeg, Nat.reduceBEq, Nat.reduceBNe]
  ·simp only [go_sem, gj, List.length_map, List.map_nil, List.length_nil, Int.natCast_zero, Int.lt_irrefl, reduceCtorEq, ↓reduceIte, Nat.reduceAdd, Nat.reduceEqDiff, Nat.reduceLT, Int.reduceLE, Nat.reduceSub, Nat.reduceLeDiff, Nat.reduceMul, Int.reduceToNat, Int.reduceLT, Int.reduceEq, Int.reduceNeg, Nat.reduceBEq, Nat.reduceBNe]
 | cons x r ih =>
  intro p hp
  have hfl' : fl = .own := by
   rcases hfl with h | ⟨_, h⟩
   ·exact h
   ·rw [hp] at h; simp at h
  subst hfl'
  have hlen : p.length < L.length := by rw [hp]; simp
  have h1 : ((p.length : Int) < (L.length : Int)) := by omega
  have e0 : (0 : Int) ≤ (p.length : Int) := by omega
  have e7 : ((p.length : Nat) : Int).toNat = p.length := by omega
  have e1 : (L.map Pr.V)[p.length]? = some (.agg [.int .i64 x.id, .int .i64 x.epoch, .list 3 (x.last.map laV) .ro, .int .i64 x.open_]) := by rw [hp]; simp [Pr.V, Pr.cs]
  have e6 : IntKind.i64.wrap ((p.length : Int) + 1) = ((p.length + 1 : Nat) : Int) := by rw [wrap_id (by unfold I64; omega)]; omega
  have h2 := ih (p ++ [x]) (by rw [hp]; simp)
  simp only [List.length_append, List.length_cons, List.length_nil, Nat.zero_add] at h2
  by_cases c : x.id < id
  ·have e5 : belowN id (x :: r) = belowN id r + 1 := by rw [belowN, if_pos c]
   rw [show p.length + belowN id (x :: r) = p.length + 1 + belowN id r by rw [e5]; omega]
   refine loop_step l_ref10_Table_at_0.eq_1 k_ref10_Table_at_0.eq_1 (by kernel_rfl) ?_
   simp only [go_sem, gj, List.length_map, h1, e0, e7, e1, c, e6, reduceCtorEq, ↓reduceIte, Nat.reduceAdd, Nat.reduceEqDiff, Nat.reduceLT, Int.reduceLE, Nat.reduceSub, Nat.reduceLeDiff, Nat.reduceMul, Int.reduceToNat, Int.reduceLT, Int.reduceEq, Int.reduceNeg, Nat.reduceBEq, Nat.reduceBNe]
   exact h2
  ·have e5 : belowN id (x :: r) = 0 := by rw [belowN, if_neg c]
   rw [e5, Nat.add_zero]
   refine loop_step l_ref10_Table_at_0.eq_1 k_ref10_Table_at_0.eq_1 (by kernel_rfl) ?_
   simp only [go_sem, gj, List.length_map, h1, e0, e7, e1, c, reduceCtorEq, ↓reduceIte, Nat.reduceAdd, Nat.reduceEqDiff, Nat.reduceLT, Int.reduceLE, Nat.reduceSub, Nat.reduceLeDiff, Nat.reduceMul, Int.reduceToNat, Int.reduceLT, Int.reduceEq, Int.reduceNeg, Nat.reduceBEq, Nat.reduceBNe]

theorem at_spec (id : Int) (L : List Pr) (hn : L.length ≤ 1000000) (fl : Fl) (hfl : fl = .own ∨ (fl = .full ∧ L = [])) (i : Nat) (H : Heap) (hi : Old H i (tabB L fl)) :
  W n_ref10_Table_at [.ptr i 0, .int .i64 id] H = some (.tuple [.int .i64 (belowN id L : Nat), .bool (atP id L).isSome], H) := by
 have h := at_loop id L hn fl hfl i H hi L [] rfl
 have gj := hi.g
 unfold tabB at gj
 simp only [List.length_nil, Int.natCast_zero, Nat.zero_add] at h
 have hle := belowN_le id L
 unfold atP
 cases hx : L[belowN id L]? with
 | none =>
  have hge := List.getElem?_eq_none_iff.1 hx
  have h1 : ¬ ((belowN id L : Int) < (L.length : Int)) := by omega
  refine W_fn0 rfl rfl ?_
  rcases hfl with rfl | ⟨rfl, rfl⟩
  ·simp only [go_sem, trim_same, c_ref10_Table_at, h, gj, List.length_map, h1, reduceCtorEq, ↓reduceIte, Nat.reduceAdd, Nat.reduceEqDiff, Nat.reduceLT, Int.reduceLE, Nat.reduceSub, Nat.reduceLeDiff, Nat.reduceMul, Int.reduceToNat, Int.reduceLT, Int.reduceEq, Int.reduceNeg, Nat.reduceBEq, Nat.reduceBNe]
   rfl
  ·have b0 : belowN id [] = 0 := rfl
   rw [b0] at h ⊢
   simp only [Int.natCast_zero, List.map_nil] at h gj ⊢
   simp only [go_sem, trim_same, c_ref10_Table_at, h, gj, List.length_nil, Int.natCast_zero, Int.lt_irrefl, reduceCtorEq, ↓reduceIte, Nat.reduceAdd, Nat.reduceEqDiff, Nat.reduceLT, Int.reduceLE, Nat.reduceSub, Nat.reduceLeDiff, Nat.reduceMul, Int.reduceToNat, Int.reduceLT, Int.reduceEq, Int.reduceNeg, Nat.reduceBEq, Nat.reduceBNe]
   rfl
 | some x =>
  have hlt := (List.getElem?_eq_some_iff.1 hx).1
  have hfl' : fl = .own := by
   rcases hfl with h | ⟨_, h⟩
   ·exact h
   ·rw [h] at hlt; simp at hlt
  subst hfl'
  have h1 : ((belowN id L : Int) < (L.length : Int)) := by omega
  have e0 : (0 : Int) ≤ (belowN id L : Int) := by omega
  have e7 : ((belowN id L : Nat) : Int).toNat = belowN id L := by omega
  have e1 : (L.map Pr.V)[belowN id L]? = some (.agg [.int .i64 x.id, .int .i64 x.epoch, .list 3 (x.last.map laV) .ro, .int .i64 x.open_]) := by simp [hx, Pr.V, Pr.cs]
  by_cases c : x.id = id
  ·simp only [c, if_true]
   refine W_fn0 rfl rfl ?_
   simp only [go_sem, trim_same, c_ref10_Table_at, h, gj, List.length_map, h1, e0, e7, e1, eq_true c, reduceCtorEq, ↓reduceIte, Nat.reduceAdd, Nat.reduceEqDiff, Nat.reduceLT, Int.reduceLE, Nat.reduceSub, Nat.reduceLeDiff, Nat.reduceMul, Int.reduceToNat, Int.reduceLT, Int.reduceEq, Int.reduceNeg, Nat.reduceBEq, Nat.reduceBNe]
   rfl
  ·simp only [c, if_false]
   refine W_fn0 rfl rfl ?_
   simp only [go_sem, trim_same, c_ref10_Table_at, h, gj, List.length_map, h1, e0, e7, e1, c, reduceCtorEq, ↓reduceIte, Nat.reduceAdd, Nat.reduceEqDiff, Nat.reduceLT, Int.reduceLE, Nat.reduceSub, Nat.reduceLeDiff, Nat.reduceMul, Int.reduceToNat, Int.reduceLT, Int.reduceEq, Int.reduceNeg, Nat.reduceBEq, Nat.reduceBNe]
   rfl

def zeroPr : Pr := ⟨0, 0, [], 0⟩
theorem under_pr (n : Nat) (p : Pr) : AVal.underL n p.cs = true := by
 simp [Pr.cs, AVal.underL, AVal.under, under_la]

theorem get_spec (id : Int) (L : List Pr) (hn : L.length ≤ 1000000) (fl : Fl) (hfl : fl = .own ∨ (fl = .full ∧ L = [])) (i : Nat) (H : Heap) (hi : Old H i (tabB L fl)) :
  W n_ref10_Table_Get [.ptr i 0, .int .i64 id] H = some (.tuple [((atP id L).getD zeroPr).V, .bool (atP id L).isSome], H) := by
 have t := fun M => at_spec id L hn fl hfl i (hx H M) ⟨hi.get M⟩
 have gj := hi.get
 unfold tabB at gj
 have hle := belowN_le id L
 cases ha : atP id L with
 | none =>
  rw [ha] at t
  simp only [Option.isSome_none] at t
  refine W_fn rfl rfl ?_
  simp only [go_sem, c_ref10_Table_Get, t, reduceCtorEq, ↓reduceIte, Nat.reduceAdd, Nat.reduceEqDiff, Nat.reduceLT, Int.reduceLE, Nat.reduceSub, Nat.reduceLeDiff, Nat.reduceMul, Int.reduceToNat, Int.reduceLT, Int.reduceEq, Int.reduceNeg, Nat.reduceBEq, Nat.reduceBNe]
  rfl
 | some x =>
  rw [ha] at t
  simp only [Option.isSome_some] at t
  have hx : L[belowN id L]? = some x := by
   unfold atP at ha
   split at ha
   ·rename_i p hp
    split at ha
    ·cases ha; exact hp
    ·cases ha
   ·cases ha
  have hlt := (List.getElem?_eq_some_iff.1 hx).1
  have hfl' : fl = .own := by
   rcases hfl with h | ⟨_, h⟩
   ·exact h
   ·rw [h] at hlt; simp at hlt
  subst hfl'
  have e0 : (0 : Int) ≤ (belowN id L : Int) := by omega
  have e7 : ((belowN id L : Nat) : Int).toNat = belowN id L := by omega
  have e1 : (L.map Pr.V)[belowN id L]? = some (.agg [.int .i64 x.id, .int .i64 x.epoch, .list 3 (x.last.map laV) .ro, .int .i64 x.open_]) := by simp [hx, Pr.V, Pr.cs]
  refine W_fn rfl rfl ?_
  simp only [go_sem, c_ref10_Table_Get, t, gj, e0, e7, e1, under_la, reduceCtorEq, ↓reduceIte, Nat.reduceAdd, Nat.reduceEqDiff, Nat.reduceLT, Int.reduceLE, Nat.reduceSub, Nat.reduceLeDiff, Nat.reduceMul, Int.reduceToNat, Int.reduceLT, Int.reduceEq, Int.reduceNeg, Nat.reduceBEq, Nat.reduceBNe]
  rfl
end Go.Abs

namespace Go.Abs
open Go Go.RowKit
set_option linter.unusedVariables false
set_option linter.unusedSimpArgs false
theorem ref_long_loop (l0 : List Int) (n : Int) (hn : I64 n) (hl : l0.length + 8 ≤ 70368744177664) (d : Nat) : ∀ (i : Nat) (l : List Int) (H : Heap), i + d = 8 → l.length = l0.length + i →
  loopA W loopW (.ghost (.kill k_ref1_Long_0) l_ref1_Long_0) [(1, .int .i64 n), (5, bytes l .own), (6, .int .i64 (56 - 8 * (i : Int)))] H = some (.exit 0, [(5, bytes (l ++ bes n i) .own)], H) := by
 induction d with
 | zero =>
  intro i l H hi hl'
  have : i = 8 := by omega
  subst this
  refine loop_step l_ref1_Long_0.eq_1 k_ref1_Long_0.eq_1 (by kernel_rfl) ?_
  have h1 : ¬ ((56 : Int) - 8 * 8 ≥ 0) := by omega
  simp only [go_sem, trim_same, trim_same, h1, reduceCtorEq, ↓reduceIte, Nat.reduceAdd, Nat.reduceEqDiff, Nat.reduceLT, Int.reduceLE, Nat.reduceSub, Nat.reduceLeDiff, Nat.reduceMul, Int.reduceToNat, Int.reduceLT, Int.reduceEq, Int.reduceNeg, Nat.reduceBEq, Nat.reduceBNe]
  simp [bes]
 | succ d ih =>
  intro i l H hi hl'
  have h1 : (56 - 8 * (i : Int) ≥ 0) := by omega
  have e1 : IntKind.u64.wrap (56 - 8 * (i : Int)) = ((8 * (7 - i) : Nat) : Int) := by rw [Num.wu64]; omega
  have e4 := (toB8 n hn (8 * (7 - i)) (by omega)).1
  have e5 : (0 : Int) ≤ ((8 * (7 - i) : Nat) : Int) := by omega
  have e6 : IntKind.i64.wrap (56 - 8 * (i : Int) - 8) = 56 - 8 * ((i + 1 : Nat) : Int) := by rw [wrap_id (by unfold I64; omega)]; omega
  have e7 : ints .u8 l ++ [.int .u8 (n / 2 ^ (8 * (7 - i)) % 256)] = ints .u8 (l ++ [be n i]) := by simp [be]
  have hb : ((ints .u8 l).length + 1) * 1 ≤ maxBytes := by simp [maxBytes]; omega
  have h2 := ih (i + 1) (l ++ [be n i]) H (by omega) (by simp; omega)
  refine loop_step l_ref1_Long_0.eq_1 k_ref1_Long_0.eq_1 (by kernel_rfl) ?_
  simp only [go_sem, trim_same, trim_same, h1, e1, e4, e5, e6, apO, hb, e7, reduceCtorEq, ↓reduceIte, Nat.reduceAdd, Nat.reduceEqDiff, Nat.reduceLT, Int.reduceLE, Nat.reduceSub, Nat.reduceLeDiff, Nat.reduceMul, Int.reduceToNat, Int.reduceLT, Int.reduceEq, Int.reduceNeg, Nat.reduceBEq, Nat.reduceBNe]
  refine h2.trans ?_
  have : bes n i = be n i :: bes n (i + 1) := by
   unfold bes
   rw [List.drop_eq_getElem_cons (by simp; omega)]
   simp
  rw [this]; simp

theorem ref_long_spec (l : List Int) (n : Int) (H : Heap) (hn : I64 n) (hl : l.length + 8 ≤ 70368744177664) : W n_ref1_Long [bytes l .ro, .int .i64 n] H = some (bytes (l ++ bes n 0) .own, H) := by
 have h := ref_long_loop l n hn hl 8 0 l H rfl (by simp)
 have hb0 : (0 + (ints .u8 l).length) * 1 ≤ maxBytes := by simp [maxBytes]; omega
 simp only [Int.natCast_zero, Int.mul_zero, Int.sub_zero] at h
 refine W_fn0 rfl rfl ?_
 simp only [go_sem, trim_same, trim_same, c_ref1_Long, fs_nil, apF, hb0, List.nil_append, h, reduceCtorEq, ↓reduceIte, Nat.reduceAdd, Nat.reduceEqDiff, Nat.reduceLT, Int.reduceLE, Nat.reduceSub, Nat.reduceLeDiff, Nat.reduceMul, Int.reduceToNat, Int.reduceLT, Int.reduceEq, Int.reduceNeg, Nat.reduceBEq, Nat.reduceBNe]

theorem w64eq (n : Int) : IntKind.i64.wrap n = wrap64 n := by rw [IntKind.wrap_i64]; unfold wrap64; rfl
theorem ref_put_loop (f : Nat) : ∀ (l : List Int) (u : Int) (H : Heap), 0 ≤ u → u < 128 ^ (f + 1) → l.length + f + 1 ≤ 70368744177664 → ∃ p q, p ++ [q] = Vt.enc f u ∧ 0 ≤ q ∧ q < 128 ∧
  loopA W loopW (.ghost (.kill k_ref1_Put_0) l_ref1_Put_0) [(5, bytes l .own), (6, .int .u64 u)] H = some (.exit 0, [(5, bytes (l ++ p) .own), (6, .int .u64 q)], H) := by
 induction f with
 | zero =>
  intro l u H h0 h1 hl
  rw [Vt.pow128] at h1
  have : (128 : Int) ^ 0 = 1 := rfl
  refine ⟨[], u, rfl, h0, by omega, loop_step l_ref1_Put_0.eq_1 k_ref1_Put_0.eq_1 (by kernel_rfl) ?_⟩
  have hu : ¬ (u ≥ 128) := by omega
  simp only [go_sem, trim_same, hu, List.append_nil, reduceCtorEq, ↓reduceIte, Nat.reduceAdd, Nat.reduceEqDiff, Nat.reduceLT, Int.reduceLE, Nat.reduceSub, Nat.reduceLeDiff, Nat.reduceMul, Int.reduceToNat, Int.reduceLT, Int.reduceEq, Int.reduceNeg, Nat.reduceBEq, Nat.reduceBNe]
 | succ f ih =>
  intro l u H h0 h1 hl
  rw [Vt.pow128] at h1
  by_cases h : u ≥ 128
  ·obtain ⟨p, q, g1, g2, g3, g4⟩ := ih (l ++ [u % 128 + 128]) (u / 128) H (by omega) (by omega) (by simp; omega)
   refine ⟨(u % 128 + 128) :: p, q, by rw [Vt.enc, if_pos h, ← g1]; rfl, g2, g3, loop_step l_ref1_Put_0.eq_1 k_ref1_Put_0.eq_1 (by kernel_rfl) ?_⟩
   have e1 : bits .or .u8 (IntKind.u8.wrap u) 128 = u % 128 + 128 := by
    rw [Num.wu8, Num.or128_u8 _ (by omega) (by omega)]; omega
   have e2 : shr .u64 u 7 = u / 128 := rfl
   have e4 : ints .u8 l ++ [.int .u8 (u % 128 + 128)] = ints .u8 (l ++ [u % 128 + 128]) := by simp
   have hb : ((ints .u8 l).length + 1) * 1 ≤ maxBytes := by simp [maxBytes]; omega
   simp only [go_sem, trim_same, h, e1, e2, apO, hb, e4, reduceCtorEq, ↓reduceIte, Nat.reduceAdd, Nat.reduceEqDiff, Nat.reduceLT, Int.reduceLE, Nat.reduceSub, Nat.reduceLeDiff, Nat.reduceMul, Int.reduceToNat, Int.reduceLT, Int.reduceEq, Int.reduceNeg, Nat.reduceBEq, Nat.reduceBNe]
   exact g4.trans (by simp)
  ·refine ⟨[], u, by rw [Vt.enc, if_neg h]; rfl, h0, by omega, loop_step l_ref1_Put_0.eq_1 k_ref1_Put_0.eq_1 (by kernel_rfl) ?_⟩
   simp only [go_sem, trim_same, h, List.append_nil, reduceCtorEq, ↓reduceIte, Nat.reduceAdd, Nat.reduceEqDiff, Nat.reduceLT, Int.reduceLE, Nat.reduceSub, Nat.reduceLeDiff, Nat.reduceMul, Int.reduceToNat, Int.reduceLT, Int.reduceEq, Int.reduceNeg, Nat.reduceBEq, Nat.reduceBNe]

theorem zig_ref' (n : Int) (h : I64 n) : bits .xor .u64 (IntKind.u64.wrap (shl .i64 n 1)) (IntKind.u64.wrap (shr .i64 n 63)) = Num.zig n := by
 rw [← Num.zig_ref n h, ← w64eq]; rfl

theorem ref_put_spec (l : List Int) (n : Int) (H : Heap) (fl : Fl) (hfl : fl = .ro ∨ fl = .full) (hn : I64 n) (hl : l.length + 10 ≤ 70368744177664) : W n_ref1_Put [bytes l .ro, .int .i64 n] H = some (bytes (l ++ Vt.enc 9 (Num.zig n)) .own, H) := by
 have hz := Num.zig_range n hn
 obtain ⟨p, q, g1, g2, g3, g4⟩ := ref_put_loop 9 l (Num.zig n) H hz.1 (Int.lt_trans hz.2 (by decide)) (by omega)
 have hp : p.length < 10 := by
  have := Vt.enc_len' 9 (Num.zig n); rw [← g1] at this; simp at this; omega
 have hb : ((ints .u8 (l ++ p)).length + 1) * 1 ≤ maxBytes := by simp [maxBytes]; omega
 have hb0 : (0 + (ints .u8 l).length) * 1 ≤ maxBytes := by simp [maxBytes]; omega
 have e1 : IntKind.u8.wrap q = q := by rw [Num.wu8]; omega
 refine W_fn0 rfl rfl ?_
 simp only [go_sem, trim_same, c_ref1_Put, zig_ref' n hn, g4, e1, fs_nil, apO, apF, hb, hb0, List.nil_append, reduceCtorEq, ↓reduceIte, Nat.reduceAdd, Nat.reduceEqDiff, Nat.reduceLT, Int.reduceLE, Nat.reduceSub, Nat.reduceLeDiff, Nat.reduceMul, Int.reduceToNat, Int.reduceLT, Int.reduceEq, Int.reduceNeg, Nat.reduceBEq, Nat.reduceBNe]
 rw [← g1]; simp

theorem ref_text_spec (l : List Int) (s : List UInt8) (H : Heap) (hl : l.length + s.length + 10 ≤ 70368744177664) : W n_ref1_Text [bytes l .ro, .str s] H = some (bytes (l ++ Vt.enc 9 (Num.zig s.length) ++ s.map fun b => (b.toNat : Int)) .own, H) := by
 have h1 := ref_put_spec l s.length H .ro (.inl rfl) (by unfold I64; omega) (by omega)
 have h2 := Vt.enc_len' 9 (Num.zig s.length)
 have hb : ((ints .u8 (l ++ Vt.enc 9 (Num.zig s.length))).length + (encBytes s).length) * 1 ≤ maxBytes := by simp [maxBytes, encBytes]; omega
 refine W_fn0 rfl rfl ?_
 simp only [go_sem, trim_same, c_ref1_Text, h1, apO, hb, reduceCtorEq, ↓reduceIte, Nat.reduceAdd, Nat.reduceEqDiff, Nat.reduceLT, Int.reduceLE, Nat.reduceSub, Nat.reduceLeDiff, Nat.reduceMul, Int.reduceToNat, Int.reduceLT, Int.reduceEq, Int.reduceNeg, Nat.reduceBEq, Nat.reduceBNe]
 simp [encBytes]
end Go.Abs

namespace Go.Abs
open Go Go.RowKit
set_option linter.unusedVariables false
set_option linter.unusedSimpArgs false

/-! ## The document's sum -/
theorem ref_next_loop (d : Nat) : ∀ (i c : Nat) (H : Heap), i + d = 8 → c < 4294967296 →
  loopA W0 loopW (.ghost (.kill k_ref1_Next_0) l_ref1_Next_0) [(0, .int .u32 (c : Nat)), (5, .int .i64 (i : Nat))] H = some (.exit 0, [(0, .int .u32 (stepN d c : Nat))], H) := by
 induction d with
 | zero =>
  intro i c H hi hc
  have : i = 8 := by omega
  subst this
  refine loop_step l_ref1_Next_0.eq_1 k_ref1_Next_0.eq_1 (by kernel_rfl) ?_
  have h1 : ¬ (((8 : Nat) : Int) < 8) := by omega
  simp only [go_sem, h1, reduceCtorEq, ↓reduceIte, Nat.reduceAdd, Nat.reduceEqDiff, Nat.reduceLT, Int.reduceLE, Nat.reduceSub, Nat.reduceLeDiff, Nat.reduceMul, Int.reduceToNat, Int.reduceLT, Int.reduceEq, Int.reduceNeg, Nat.reduceBEq, Nat.reduceBNe]
  rfl
 | succ d ih =>
  intro i c H hi hc
  have h1 : ((i : Int) < 8) := by omega
  have e1 := and32 c hc
  have e2 := shr32 c
  have hle : c &&& 1 ≤ 1 := Nat.and_le_right
  have hs : c >>> 1 < 4294967296 := by rw [Nat.shiftRight_eq_div_pow]; omega
  have e4 := xor32 (c >>> 1) 2197175160 hs (by decide)
  have e6 : IntKind.i64.wrap ((i : Int) + 1) = ((i + 1 : Nat) : Int) := by rw [wrap_id (by unfold I64; omega)]; omega
  have h2 := ih (i + 1) (crcStep c) H (by omega) (crcStep_lt hc)
  by_cases hb : c &&& 1 = 1
  ·have c1 : ((c &&& 1 : Nat) : Int) = 1 := by omega
   have e5 : crcStep c = c >>> 1 ^^^ 2197175160 := by unfold crcStep; rw [hb, Nat.mul_one]
   rw [e5] at h2
   refine loop_step l_ref1_Next_0.eq_1 k_ref1_Next_0.eq_1 (by kernel_rfl) ?_
   rw [show ((2197175160 : Nat) : Int) = 2197175160 from rfl] at e4
   simp only [go_sem, h1, e1, e2, c1, e4, e6, reduceCtorEq, ↓reduceIte, Nat.reduceAdd, Nat.reduceEqDiff, Nat.reduceLT, Int.reduceLE, Nat.reduceSub, Nat.reduceLeDiff, Nat.reduceMul, Int.reduceToNat, Int.reduceLT, Int.reduceEq, Int.reduceNeg, Nat.reduceBEq, Nat.reduceBNe]
   show _ = some (Out.exit 0, [(0, AVal.int .u32 ((stepN d (crcStep c) : Nat) : Int))], H)
   rw [e5]
   exact h2
  ·have c1 : ¬ ((c &&& 1 : Nat) : Int) = 1 := by omega
   have e5 : crcStep c = c >>> 1 := by unfold crcStep; rw [show c &&& 1 = 0 by omega, Nat.mul_zero, Nat.xor_zero]
   rw [e5] at h2
   refine loop_step l_ref1_Next_0.eq_1 k_ref1_Next_0.eq_1 (by kernel_rfl) ?_
   simp only [go_sem, h1, e1, e2, c1, e6, reduceCtorEq, ↓reduceIte, Nat.reduceAdd, Nat.reduceEqDiff, Nat.reduceLT, Int.reduceLE, Nat.reduceSub, Nat.reduceLeDiff, Nat.reduceMul, Int.reduceToNat, Int.reduceLT, Int.reduceEq, Int.reduceNeg, Nat.reduceBEq, Nat.reduceBNe]
   show _ = some (Out.exit 0, [(0, AVal.int .u32 ((stepN d (crcStep c) : Nat) : Int))], H)
   rw [e5]
   exact h2

theorem ref_next_spec0 (c b : Nat) (H : Heap) (hc : c < 4294967296) (hb : b < 256) : W0 n_ref1_Next [.int .u32 (c : Nat), .int .u8 (b : Nat)] H = some (.int .u32 (crcNext c b : Nat), H) := by
 have h := ref_next_loop 8 0 (c ^^^ b) H rfl (xor_lt32 hc (by omega))
 have e1 := wrap32 b (by omega)
 have e2 := xor32 c b hc (by omega)
 simp only [Int.natCast_zero] at h
 refine W0_fn rfl rfl ?_
 simp only [go_sem, trim_same, c_ref1_Next, e1, e2, h, reduceCtorEq, ↓reduceIte, Nat.reduceAdd, Nat.reduceEqDiff, Nat.reduceLT, Int.reduceLE, Nat.reduceSub, Nat.reduceLeDiff, Nat.reduceMul, Int.reduceToNat, Int.reduceLT, Int.reduceEq, Int.reduceNeg, Nat.reduceBEq, Nat.reduceBNe]
 rfl

theorem ref_of_loop (l : List Int) (hb : ∀ x ∈ l, 0 ≤ x ∧ x < 256) (hl : l.length ≤ 70368744177664) (H : Heap) (r : List Int) : ∀ (p : List Int) (c : Nat), l = p ++ r → c < 4294967296 →
  loopA W0 loopW (.ghost (.kill k_ref1_Crc_0) l_ref1_Crc_0) [(0, bytes l .ro), (3, .int .u32 (c : Nat)), (4, .int .i64 (p.length : Nat))] H =
   some (.exit 0, [(3, .int .u32 (((toN r).foldl crcNext c : Nat) : Int))], H) := by
 induction r with
 | nil =>
  intro p c hp hc
  have h1 : ¬ ((p.length : Int) < (l.length : Int)) := by rw [hp]; simp
  refine loop_step l_ref1_Crc_0.eq_1 k_ref1_Crc_0.eq_1 (by kernel_rfl) ?_
  simp only [go_sem, h1, List.length_map, reduceCtorEq, ↓reduceIte, Nat.reduceAdd, Nat.reduceEqDiff, Nat.reduceLT, Int.reduceLE, Nat.reduceSub, Nat.reduceLeDiff, Nat.reduceMul, Int.reduceToNat, Int.reduceLT, Int.reduceEq, Int.reduceNeg, Nat.reduceBEq, Nat.reduceBNe]
  rfl
 | cons x r ih =>
  intro p c hp hc
  have hx := hb x (by rw [hp]; simp)
  have h1 : ((p.length : Int) < (l.length : Int)) := by rw [hp]; simp; omega
  have hlen : p.length < l.length := by omega
  obtain ⟨n, rfl⟩ : ∃ n : Nat, x = n := ⟨x.toNat, by omega⟩
  have e1 : (ints .u8 l)[p.length]? = some (.int .u8 (n : Int)) := by rw [hp]; simp
  have e6 : IntKind.i64.wrap ((p.length : Int) + 1) = ((p.length + 1 : Nat) : Int) := by rw [wrap_id (by unfold I64; omega)]; omega
  have h2 := ih (p ++ [(n : Int)]) (crcNext c n) (by rw [hp]; simp) (crcNext_lt hc (by omega))
  have e2 := ref_next_spec0 c n H hc (by omega)
  have e0 : (0 : Int) ≤ (p.length : Int) := by omega
  have e7 : ((p.length : Nat) : Int).toNat = p.length := by omega
  simp only [List.length_append, List.length_cons, List.length_nil, Nat.zero_add] at h2
  refine loop_step l_ref1_Crc_0.eq_1 k_ref1_Crc_0.eq_1 (by kernel_rfl) ?_
  simp only [go_sem, h1, List.length_map, e0, e7, e1, e2, e6, reduceCtorEq, ↓reduceIte, Nat.reduceAdd, Nat.reduceEqDiff, Nat.reduceLT, Int.reduceLE, Nat.reduceSub, Nat.reduceLeDiff, Nat.reduceMul, Int.reduceToNat, Int.reduceLT, Int.reduceEq, Int.reduceNeg, Nat.reduceBEq, Nat.reduceBNe]
  exact h2

theorem ref_crc_spec0 (l : List Int) (H : Heap) (hb : ∀ x ∈ l, 0 ≤ x ∧ x < 256) (hl : l.length ≤ 70368744177664) : W0 n_ref1_Crc [bytes l .ro] H = some (.int .u32 (crcN (toN l) : Nat), H) := by
 have h := ref_of_loop l hb hl H l [] 4294967295 rfl (by decide)
 have hlt : (toN l).foldl crcNext 4294967295 < 4294967296 := crcFold_lt _ _ (by decide) (fun x hx => by
  obtain ⟨y, hy, rfl⟩ := List.mem_map.1 hx
  have := hb y hy
  omega)
 have e1 : bits .xor .u32 (if IntKind.u32.signed = true then -1 else IntKind.u32.max) (((toN l).foldl crcNext 4294967295 : Nat) : Int) = (crcN (toN l) : Nat) := by
  have := xor32 4294967295 ((toN l).foldl crcNext 4294967295) (by decide) hlt
  rw [Nat.xor_comm] at this
  exact this
 simp only [List.length_nil, Int.natCast_zero, Int.cast_ofNat_Int] at h
 refine W0_fn rfl rfl ?_
 simp only [go_sem, trim_same, c_ref1_Crc, h, e1, reduceCtorEq, ↓reduceIte, Nat.reduceAdd, Nat.reduceEqDiff, Nat.reduceLT, Int.reduceLE, Nat.reduceSub, Nat.reduceLeDiff, Nat.reduceMul, Int.reduceToNat, Int.reduceLT, Int.reduceEq, Int.reduceNeg, Nat.reduceBEq, Nat.reduceBNe]

theorem refCrc_le {args H r} (h : crcSem args H = some r) : W0 n_ref1_Crc args H = some r := by
 unfold crcSem at h
 split at h
 ·rename_i xs
  obtain ⟨h1, h2⟩ := ite_some h
  obtain ⟨l, h3, rfl⟩ := Option.map_eq_some_iff.1 h2
  obtain ⟨zs, rfl, h4, rfl⟩ := nats8_inv h3
  exact ref_crc_spec0 zs _ h4 (by simpa [maxBytes] using h1)
 ·cases h

theorem ref_crc_spec (l : List Int) (H : Heap) (hb : ∀ x ∈ l, 0 ≤ x ∧ x < 256) (hl : l.length ≤ 70368744177664) : W n_ref1_Crc [bytes l .ro] H = some (.int .u32 (crcN (toN l) : Nat), H) := by
 refine W_ref1_Crc ?_
 show (if (ints .u8 l).length ≤ maxBytes then _ else none) = _
 rw [if_pos (by simpa [maxBytes] using hl), nats8_ints l hb]; rfl

theorem ref_sealed_spec (l : List Int) (H : Heap) (hb : ∀ x ∈ l, 0 ≤ x ∧ x < 256) (hl : l.length + 4 ≤ 70368744177664) :
  W n_ref1_Sealed [bytes l .ro] H = some (bytes (le4 (crcN (toN l) : Nat) ++ l) .own, H) := by
 have h1 := ref_crc_spec l H hb (by omega)
 obtain ⟨c, hc⟩ : ∃ c : Int, (crcN (toN l) : Int) = c := ⟨_, rfl⟩
 rw [hc] at h1 ⊢
 have e1 : IntKind.u8.wrap c = c % 256 := Num.wu8 _
 have e2 : IntKind.u8.wrap (shr .u32 c 8) = c / 256 % 256 := Num.wu8 _
 have e3 : IntKind.u8.wrap (shr .u32 c 16) = c / 65536 % 256 := Num.wu8 _
 have e4 : IntKind.u8.wrap (shr .u32 c 24) = c / 16777216 % 256 := Num.wu8 _
 have b1 : (4 + l.length) * 1 ≤ maxBytes := by simp only [maxBytes]; omega
 refine W_fn0 rfl rfl ?_
 simp only [go_sem, trim_same, c_ref1_Sealed, h1, e1, e2, e3, e4, fs_int, apF, List.length_map, List.length_cons, List.length_nil, Nat.zero_add, b1, reduceCtorEq, ↓reduceIte, Nat.reduceAdd, Nat.reduceEqDiff, Nat.reduceLT, Int.reduceLE, Nat.reduceSub, Nat.reduceLeDiff, Nat.reduceMul, Int.reduceToNat, Int.reduceLT, Int.reduceEq, Int.reduceNeg, Nat.reduceBEq, Nat.reduceBNe]
 simp [le4]
end Go.Abs

namespace Go.Abs
open Go Go.RowKit
set_option linter.unusedVariables false
set_option linter.unusedSimpArgs false

/-! ## What is right, by the document -/
theorem ref_head_spec (b : Ba) (H : Heap) : W n_ref6_head [b.V] H = some (.bool (namedB b), H) := by
 refine W_fn rfl rfl ?_
 unfold Ba.V Ba.cs namedB
 by_cases c1 : b.prod ≥ 0
 ·by_cases c2 : b.epoch ≥ 0
  ·by_cases c3 : b.epoch ≤ 32767 <;> simp only [go_sem, c_ref6_head, c1, c2, c3, reduceCtorEq, ↓reduceIte, Nat.reduceAdd, Nat.reduceEqDiff, Nat.reduceLT, Int.reduceLE, Nat.reduceSub, Nat.reduceLeDiff, Nat.reduceMul, Int.reduceToNat, Int.reduceLT, Int.reduceEq, Int.reduceNeg, Nat.reduceBEq, Nat.reduceBNe]
  ·simp only [go_sem, c_ref6_head, c1, c2, reduceCtorEq, ↓reduceIte, Nat.reduceAdd, Nat.reduceEqDiff, Nat.reduceLT, Int.reduceLE, Nat.reduceSub, Nat.reduceLeDiff, Nat.reduceMul, Int.reduceToNat, Int.reduceLT, Int.reduceEq, Int.reduceNeg, Nat.reduceBEq, Nat.reduceBNe]
 ·simp only [go_sem, c_ref6_head, c1, reduceCtorEq, ↓reduceIte, Nat.reduceAdd, Nat.reduceEqDiff, Nat.reduceLT, Int.reduceLE, Nat.reduceSub, Nat.reduceLeDiff, Nat.reduceMul, Int.reduceToNat, Int.reduceLT, Int.reduceEq, Int.reduceNeg, Nat.reduceBEq, Nat.reduceBNe]
theorem ref_count_spec (b : Ba) (H : Heap) : W n_ref6_Count [b.V] H = some (.int .i64 (if b.mark = 0 then (b.recs.length : Int) else 1), H) := by
 refine W_fn rfl rfl ?_
 unfold Ba.V Ba.cs
 by_cases c : b.mark = 0
 ·rw [if_pos c]; simp only [go_sem, c_ref6_Count, c, List.length_map, reduceCtorEq, ↓reduceIte, Nat.reduceAdd, Nat.reduceEqDiff, Nat.reduceLT, Int.reduceLE, Nat.reduceSub, Nat.reduceLeDiff, Nat.reduceMul, Int.reduceToNat, Int.reduceLT, Int.reduceEq, Int.reduceNeg, Nat.reduceBEq, Nat.reduceBNe]
 ·rw [if_neg c]; simp only [go_sem, c_ref6_Count, c, reduceCtorEq, ↓reduceIte, Nat.reduceAdd, Nat.reduceEqDiff, Nat.reduceLT, Int.reduceLE, Nat.reduceSub, Nat.reduceLeDiff, Nat.reduceMul, Int.reduceToNat, Int.reduceLT, Int.reduceEq, Int.reduceNeg, Nat.reduceBEq, Nat.reduceBNe]

theorem plain_loop (L : List Rc) (hn : L.length ≤ 16) (H : Heap) (r : List Rc) : ∀ (p : List Rc) (N : Heap), L = p ++ r →
  ∃ M, loopA W loopW (.ghost (.kill k_ref6_plain_0) l_ref6_plain_0) [(88, .list 2 (L.map rcV) .ro), (89, .int .i64 (L.length : Nat)), (90, .int .i64 (p.length : Nat))] (hx H N) =
   if r.any bigR then some (.ret, [(2, .int .i64 13)], hx H M) else some (.exit 0, [], hx H M) := by
 induction r with
 | nil =>
  intro p N hp
  rw [List.append_nil] at hp
  subst hp
  refine ⟨N, ?_⟩
  have h1 : ¬ ((L.length : Int) < (L.length : Int)) := by omega
  rw [if_neg (by simp)]
  refine loop_step l_ref6_plain_0.eq_1 k_ref6_plain_0.eq_1 (by kernel_rfl) ?_
  simp only [go_sem, h1, reduceCtorEq, ↓reduceIte, Nat.reduceAdd, Nat.reduceEqDiff, Nat.reduceLT, Int.reduceLE, Nat.reduceSub, Nat.reduceLeDiff, Nat.reduceMul, Int.reduceToNat, Int.reduceLT, Int.reduceEq, Int.reduceNeg, Nat.reduceBEq, Nat.reduceBNe]
 | cons x r ih =>
  intro p N hp
  have hlen : p.length < L.length := by rw [hp]; simp
  have h1 : ((p.length : Int) < (L.length : Int)) := by omega
  have e0 : (0 : Int) ≤ (p.length : Int) := by omega
  have e7 : ((p.length : Nat) : Int).toNat = p.length := by omega
  have e1 : (L.map rcV)[p.length]? = some (.agg [.str x.1, .str x.2]) := by rw [hp]; simp [rcV]
  have e6 : IntKind.i64.wrap ((p.length : Int) + 1) = ((p.length + 1 : Nat) : Int) := by rw [wrap_id (by unfold I64; omega)]; omega
  obtain ⟨M, h2⟩ := ih (p ++ [x]) (N ++ [.cells [.str x.1, .str x.2]]) (by rw [hp]; simp)
  simp only [List.length_append, List.length_cons, List.length_nil, Nat.zero_add] at h2
  by_cases c1 : (x.1.length : Int) > 64
  ·refine ⟨N ++ [.cells [.str x.1, .str x.2]], ?_⟩
   rw [if_pos (by simp [bigR]; omega)]
   refine loop_step l_ref6_plain_0.eq_1 k_ref6_plain_0.eq_1 (by kernel_rfl) ?_
   simp only [go_sem, h1, e0, e7, e1, c1, reduceCtorEq, ↓reduceIte, Nat.reduceAdd, Nat.reduceEqDiff, Nat.reduceLT, Int.reduceLE, Nat.reduceSub, Nat.reduceLeDiff, Nat.reduceMul, Int.reduceToNat, Int.reduceLT, Int.reduceEq, Int.reduceNeg, Nat.reduceBEq, Nat.reduceBNe]
  ·by_cases c2 : (x.2.length : Int) > 64
   ·refine ⟨N ++ [.cells [.str x.1, .str x.2]], ?_⟩
    rw [if_pos (by simp [bigR]; omega)]
    refine loop_step l_ref6_plain_0.eq_1 k_ref6_plain_0.eq_1 (by kernel_rfl) ?_
    simp only [go_sem, h1, e0, e7, e1, c1, c2, reduceCtorEq, ↓reduceIte, Nat.reduceAdd, Nat.reduceEqDiff, Nat.reduceLT, Int.reduceLE, Nat.reduceSub, Nat.reduceLeDiff, Nat.reduceMul, Int.reduceToNat, Int.reduceLT, Int.reduceEq, Int.reduceNeg, Nat.reduceBEq, Nat.reduceBNe]
   ·refine ⟨M, ?_⟩
    have hb : bigR x = false := by simp [bigR]; omega
    rw [List.any_cons, hb, Bool.false_or]
    obtain ⟨R, hR⟩ : ∃ R, (if r.any bigR = true then some (Out.ret, ([(2, .int .i64 13)] : Env), hx H M) else some (.exit 0, [], hx H M)) = some R := by split <;> exact ⟨_, rfl⟩
    rw [hR] at h2 ⊢
    refine loop_step l_ref6_plain_0.eq_1 k_ref6_plain_0.eq_1 (by kernel_rfl) ?_
    simp only [go_sem, h1, e0, e7, e1, c1, c2, e6, reduceCtorEq, ↓reduceIte, Nat.reduceAdd, Nat.reduceEqDiff, Nat.reduceLT, Int.reduceLE, Nat.reduceSub, Nat.reduceLeDiff, Nat.reduceMul, Int.reduceToNat, Int.reduceLT, Int.reduceEq, Int.reduceNeg, Nat.reduceBEq, Nat.reduceBNe]
    exact h2

set_option maxHeartbeats 3200000 in
theorem plain_data (b : Ba) (H : Heap) (c1 : ¬ b.base < 0) (c2 : ¬ b.base > 1099511627776) (c3 : b.mark = 0) : W n_ref6_plain [b.V] H = some (.int .i64 (dataE b), H) := by
 have t1 := fun H => ref_head_spec b H
 have t2 := fun H => ref_seq_spec b.seq H
 unfold Ba.V Ba.cs at t1 ⊢
 have tail : (!noneB b && !(namedB b && seqR b.seq)) = false → dataE b = if b.recs.length = 0 then 12 else if 16 < b.recs.length then 13 else if b.recs.any bigR = true then 13 else 0 := by
  intro h; unfold dataE; rw [if_neg (by rw [h]; decide)]
 have head : (!noneB b && !(namedB b && seqR b.seq)) = true → dataE b = 12 := by
  intro h; unfold dataE; rw [if_pos h]
 have g0 : ((([] : List Rc).length : Nat) : Int) = 0 := rfl
 by_cases n1 : b.prod = -1
 ·by_cases n2 : b.epoch = -1
  ·by_cases n3 : b.seq = -1
   ·cases ht : b.txn
    ·have hz : (!noneB b && !(namedB b && seqR b.seq)) = false := by unfold noneB; rw [ht]; simp [n1, n2, n3]
     rw [ht] at t1
     by_cases d1 : (b.recs.length : Int) = 0
     ·rw [tail hz, if_pos (by omega)]
      refine W_fn rfl rfl ?_
      simp only [go_sem, c_ref6_plain, List.length_map, c1, c2, eq_true c3, eq_true n1, eq_true n2, eq_true n3, ht, d1, reduceCtorEq, ↓reduceIte, Nat.reduceAdd, Nat.reduceEqDiff, Nat.reduceLT, Int.reduceLE, Nat.reduceSub, Nat.reduceLeDiff, Nat.reduceMul, Int.reduceToNat, Int.reduceLT, Int.reduceEq, Int.reduceNeg, Nat.reduceBEq, Nat.reduceBNe]
     ·by_cases d2 : (b.recs.length : Int) > 16
      ·rw [tail hz, if_neg (by omega), if_pos (by omega)]
       refine W_fn rfl rfl ?_
       simp only [go_sem, c_ref6_plain, List.length_map, c1, c2, eq_true c3, eq_true n1, eq_true n2, eq_true n3, ht, d1, d2, reduceCtorEq, ↓reduceIte, Nat.reduceAdd, Nat.reduceEqDiff, Nat.reduceLT, Int.reduceLE, Nat.reduceSub, Nat.reduceLeDiff, Nat.reduceMul, Int.reduceToNat, Int.reduceLT, Int.reduceEq, Int.reduceNeg, Nat.reduceBEq, Nat.reduceBNe]
      ·rw [tail hz, if_neg (by omega), if_neg (by omega)]
       obtain ⟨M, t3⟩ := plain_loop b.recs (by omega) H b.recs [] [.cells b.cs] rfl
       rw [g0] at t3
       unfold Ba.cs at t3
       rw [ht] at t3
       cases ha : b.recs.any bigR
       ·rw [ha] at t3
        refine W_fn rfl rfl ?_
        simp only [go_sem, c_ref6_plain, List.length_map, c1, c2, eq_true c3, eq_true n1, eq_true n2, eq_true n3, ht, d1, d2, t3, reduceCtorEq, ↓reduceIte, Nat.reduceAdd, Nat.reduceEqDiff, Nat.reduceLT, Int.reduceLE, Nat.reduceSub, Nat.reduceLeDiff, Nat.reduceMul, Int.reduceToNat, Int.reduceLT, Int.reduceEq, Int.reduceNeg, Nat.reduceBEq, Nat.reduceBNe]
       ·rw [ha] at t3
        refine W_fn rfl rfl ?_
        simp only [go_sem, c_ref6_plain, List.length_map, c1, c2, eq_true c3, eq_true n1, eq_true n2, eq_true n3, ht, d1, d2, t3, reduceCtorEq, ↓reduceIte, Nat.reduceAdd, Nat.reduceEqDiff, Nat.reduceLT, Int.reduceLE, Nat.reduceSub, Nat.reduceLeDiff, Nat.reduceMul, Int.reduceToNat, Int.reduceLT, Int.reduceEq, Int.reduceNeg, Nat.reduceBEq, Nat.reduceBNe]
    ·have hno : noneB b = false := by unfold noneB; rw [ht]; simp
     rw [ht] at t1
     cases hna : namedB b
     ·have hz : (!noneB b && !(namedB b && seqR b.seq)) = true := by rw [hno, hna]; rfl
      rw [hna] at t1
      rw [head hz]
      refine W_fn rfl rfl ?_
      simp only [go_sem, c_ref6_plain, c1, c2, eq_true c3, eq_true n1, eq_true n2, eq_true n3, ht, t1, reduceCtorEq, ↓reduceIte, Nat.reduceAdd, Nat.reduceEqDiff, Nat.reduceLT, Int.reduceLE, Nat.reduceSub, Nat.reduceLeDiff, Nat.reduceMul, Int.reduceToNat, Int.reduceLT, Int.reduceEq, Int.reduceNeg, Nat.reduceBEq, Nat.reduceBNe]
     ·rw [hna] at t1
      cases hsq : seqR b.seq
      ·have hz : (!noneB b && !(namedB b && seqR b.seq)) = true := by rw [hno, hna, hsq]; rfl
       rw [hsq] at t2
       rw [head hz]
       refine W_fn rfl rfl ?_
       simp only [go_sem, c_ref6_plain, c1, c2, eq_true c3, eq_true n1, eq_true n2, eq_true n3, ht, t1, t2, reduceCtorEq, ↓reduceIte, Nat.reduceAdd, Nat.reduceEqDiff, Nat.reduceLT, Int.reduceLE, Nat.reduceSub, Nat.reduceLeDiff, Nat.reduceMul, Int.reduceToNat, Int.reduceLT, Int.reduceEq, Int.reduceNeg, Nat.reduceBEq, Nat.reduceBNe]
      ·have hz : (!noneB b && !(namedB b && seqR b.seq)) = false := by rw [hno, hna, hsq]; rfl
       rw [hsq] at t2
       by_cases d1 : (b.recs.length : Int) = 0
       ·rw [tail hz, if_pos (by omega)]
        refine W_fn rfl rfl ?_
        simp only [go_sem, c_ref6_plain, List.length_map, c1, c2, eq_true c3, eq_true n1, eq_true n2, eq_true n3, ht, t1, t2, d1, reduceCtorEq, ↓reduceIte, Nat.reduceAdd, Nat.reduceEqDiff, Nat.reduceLT, Int.reduceLE, Nat.reduceSub, Nat.reduceLeDiff, Nat.reduceMul, Int.reduceToNat, Int.reduceLT, Int.reduceEq, Int.reduceNeg, Nat.reduceBEq, Nat.reduceBNe]
       ·by_cases d2 : (b.recs.length : Int) > 16
        ·rw [tail hz, if_neg (by omega), if_pos (by omega)]
         refine W_fn rfl rfl ?_
         simp only [go_sem, c_ref6_plain, List.length_map, c1, c2, eq_true c3, eq_true n1, eq_true n2, eq_true n3, ht, t1, t2, d1, d2, reduceCtorEq, ↓reduceIte, Nat.reduceAdd, Nat.reduceEqDiff, Nat.reduceLT, Int.reduceLE, Nat.reduceSub, Nat.reduceLeDiff, Nat.reduceMul, Int.reduceToNat, Int.reduceLT, Int.reduceEq, Int.reduceNeg, Nat.reduceBEq, Nat.reduceBNe]
        ·rw [tail hz, if_neg (by omega), if_neg (by omega)]
         obtain ⟨M, t3⟩ := plain_loop b.recs (by omega) H b.recs [] [.cells b.cs] rfl
         rw [g0] at t3
         unfold Ba.cs at t3
         rw [ht] at t3
         cases ha : b.recs.any bigR
         ·rw [ha] at t3
          refine W_fn rfl rfl ?_
          simp only [go_sem, c_ref6_plain, List.length_map, c1, c2, eq_true c3, eq_true n1, eq_true n2, eq_true n3, ht, t1, t2, d1, d2, t3, reduceCtorEq, ↓reduceIte, Nat.reduceAdd, Nat.reduceEqDiff, Nat.reduceLT, Int.reduceLE, Nat.reduceSub, Nat.reduceLeDiff, Nat.reduceMul, Int.reduceToNat, Int.reduceLT, Int.reduceEq, Int.reduceNeg, Nat.reduceBEq, Nat.reduceBNe]
         ·rw [ha] at t3
          refine W_fn rfl rfl ?_
          simp only [go_sem, c_ref6_plain, List.length_map, c1, c2, eq_true c3, eq_true n1, eq_true n2, eq_true n3, ht, t1, t2, d1, d2, t3, reduceCtorEq, ↓reduceIte, Nat.reduceAdd, Nat.reduceEqDiff, Nat.reduceLT, Int.reduceLE, Nat.reduceSub, Nat.reduceLeDiff, Nat.reduceMul, Int.reduceToNat, Int.reduceLT, Int.reduceEq, Int.reduceNeg, Nat.reduceBEq, Nat.reduceBNe]
   ·have hno : noneB b = false := by unfold noneB; simp [n3]
    cases hna : namedB b
    ·have hz : (!noneB b && !(namedB b && seqR b.seq)) = true := by rw [hno, hna]; rfl
     rw [hna] at t1
     rw [head hz]
     refine W_fn rfl rfl ?_
     simp only [go_sem, c_ref6_plain, c1, c2, eq_true c3, eq_true n1, eq_true n2, n3, t1, reduceCtorEq, ↓reduceIte, Nat.reduceAdd, Nat.reduceEqDiff, Nat.reduceLT, Int.reduceLE, Nat.reduceSub, Nat.reduceLeDiff, Nat.reduceMul, Int.reduceToNat, Int.reduceLT, Int.reduceEq, Int.reduceNeg, Nat.reduceBEq, Nat.reduceBNe]
    ·rw [hna] at t1
     cases hsq : seqR b.seq
     ·have hz : (!noneB b && !(namedB b && seqR b.seq)) = true := by rw [hno, hna, hsq]; rfl
      rw [hsq] at t2
      rw [head hz]
      refine W_fn rfl rfl ?_
      simp only [go_sem, c_ref6_plain, c1, c2, eq_true c3, eq_true n1, eq_true n2, n3, t1, t2, reduceCtorEq, ↓reduceIte, Nat.reduceAdd, Nat.reduceEqDiff, Nat.reduceLT, Int.reduceLE, Nat.reduceSub, Nat.reduceLeDiff, Nat.reduceMul, Int.reduceToNat, Int.reduceLT, Int.reduceEq, Int.reduceNeg, Nat.reduceBEq, Nat.reduceBNe]
     ·have hz : (!noneB b && !(namedB b && seqR b.seq)) = false := by rw [hno, hna, hsq]; rfl
      rw [hsq] at t2
      by_cases d1 : (b.recs.length : Int) = 0
      ·rw [tail hz, if_pos (by omega)]
       refine W_fn rfl rfl ?_
       simp only [go_sem, c_ref6_plain, List.length_map, c1, c2, eq_true c3, eq_true n1, eq_true n2, n3, t1, t2, d1, reduceCtorEq, ↓reduceIte, Nat.reduceAdd, Nat.reduceEqDiff, Nat.reduceLT, Int.reduceLE, Nat.reduceSub, Nat.reduceLeDiff, Nat.reduceMul, Int.reduceToNat, Int.reduceLT, Int.reduceEq, Int.reduceNeg, Nat.reduceBEq, Nat.reduceBNe]
      ·by_cases d2 : (b.recs.length : Int) > 16
       ·rw [tail hz, if_neg (by omega), if_pos (by omega)]
        refine W_fn rfl rfl ?_
        simp only [go_sem, c_ref6_plain, List.length_map, c1, c2, eq_true c3, eq_true n1, eq_true n2, n3, t1, t2, d1, d2, reduceCtorEq, ↓reduceIte, Nat.reduceAdd, Nat.reduceEqDiff, Nat.reduceLT, Int.reduceLE, Nat.reduceSub, Nat.reduceLeDiff, Nat.reduceMul, Int.reduceToNat, Int.reduceLT, Int.reduceEq, Int.reduceNeg, Nat.reduceBEq, Nat.reduceBNe]
       ·rw [tail hz, if_neg (by omega), if_neg (by omega)]
        obtain ⟨M, t3⟩ := plain_loop b.recs (by omega) H b.recs [] [.cells b.cs] rfl
        rw [g0] at t3
        unfold Ba.cs at t3
        cases ha : b.recs.any bigR
        ·rw [ha] at t3
         refine W_fn rfl rfl ?_
         simp only [go_sem, c_ref6_plain, List.length_map, c1, c2, eq_true c3, eq_true n1, eq_true n2, n3, t1, t2, d1, d2, t3, reduceCtorEq, ↓reduceIte, Nat.reduceAdd, Nat.reduceEqDiff, Nat.reduceLT, Int.reduceLE, Nat.reduceSub, Nat.reduceLeDiff, Nat.reduceMul, Int.reduceToNat, Int.reduceLT, Int.reduceEq, Int.reduceNeg, Nat.reduceBEq, Nat.reduceBNe]
        ·rw [ha] at t3
         refine W_fn rfl rfl ?_
         simp only [go_sem, c_ref6_plain, List.length_map, c1, c2, eq_true c3, eq_true n1, eq_true n2, n3, t1, t2, d1, d2, t3, reduceCtorEq, ↓reduceIte, Nat.reduceAdd, Nat.reduceEqDiff, Nat.reduceLT, Int.reduceLE, Nat.reduceSub, Nat.reduceLeDiff, Nat.reduceMul, Int.reduceToNat, Int.reduceLT, Int.reduceEq, Int.reduceNeg, Nat.reduceBEq, Nat.reduceBNe]
  ·have hno : noneB b = false := by unfold noneB; simp [n2]
   cases hna : namedB b
   ·have hz : (!noneB b && !(namedB b && seqR b.seq)) = true := by rw [hno, hna]; rfl
    rw [hna] at t1
    rw [head hz]
    refine W_fn rfl rfl ?_
    simp only [go_sem, c_ref6_plain, c1, c2, eq_true c3, eq_true n1, n2, t1, reduceCtorEq, ↓reduceIte, Nat.reduceAdd, Nat.reduceEqDiff, Nat.reduceLT, Int.reduceLE, Nat.reduceSub, Nat.reduceLeDiff, Nat.reduceMul, Int.reduceToNat, Int.reduceLT, Int.reduceEq, Int.reduceNeg, Nat.reduceBEq, Nat.reduceBNe]
   ·rw [hna] at t1
    cases hsq : seqR b.seq
    ·have hz : (!noneB b && !(namedB b && seqR b.seq)) = true := by rw [hno, hna, hsq]; rfl
     rw [hsq] at t2
     rw [head hz]
     refine W_fn rfl rfl ?_
     simp only [go_sem, c_ref6_plain, c1, c2, eq_true c3, eq_true n1, n2, t1, t2, reduceCtorEq, ↓reduceIte, Nat.reduceAdd, Nat.reduceEqDiff, Nat.reduceLT, Int.reduceLE, Nat.reduceSub, Nat.reduceLeDiff, Nat.reduceMul, Int.reduceToNat, Int.reduceLT, Int.reduceEq, Int.reduceNeg, Nat.reduceBEq, Nat.reduceBNe]
    ·have hz : (!noneB b && !(namedB b && seqR b.seq)) = false := by rw [hno, hna, hsq]; rfl
     rw [hsq] at t2
     by_cases d1 : (b.recs.length : Int) = 0
     ·rw [tail hz, if_pos (by omega)]
      refine W_fn rfl rfl ?_
      simp only [go_sem, c_ref6_plain, List.length_map, c1, c2, eq_true c3, eq_true n1, n2, t1, t2, d1, reduceCtorEq, ↓reduceIte, Nat.reduceAdd, Nat.reduceEqDiff, Nat.reduceLT, Int.reduceLE, Nat.reduceSub, Nat.reduceLeDiff, Nat.reduceMul, Int.reduceToNat, Int.reduceLT, Int.reduceEq, Int.reduceNeg, Nat.reduceBEq, Nat.reduceBNe]
     ·by_cases d2 : (b.recs.length : Int) > 16
      ·rw [tail hz, if_neg (by omega), if_pos (by omega)]
       refine W_fn rfl rfl ?_
       simp only [go_sem, c_ref6_plain, List.length_map, c1, c2, eq_true c3, eq_true n1, n2, t1, t2, d1, d2, reduceCtorEq, ↓reduceIte, Nat.reduceAdd, Nat.reduceEqDiff, Nat.reduceLT, Int.reduceLE, Nat.reduceSub, Nat.reduceLeDiff, Nat.reduceMul, Int.reduceToNat, Int.reduceLT, Int.reduceEq, Int.reduceNeg, Nat.reduceBEq, Nat.reduceBNe]
      ·rw [tail hz, if_neg (by omega), if_neg (by omega)]
       obtain ⟨M, t3⟩ := plain_loop b.recs (by omega) H b.recs [] [.cells b.cs] rfl
       rw [g0] at t3
       unfold Ba.cs at t3
       cases ha : b.recs.any bigR
       ·rw [ha] at t3
        refine W_fn rfl rfl ?_
        simp only [go_sem, c_ref6_plain, List.length_map, c1, c2, eq_true c3, eq_true n1, n2, t1, t2, d1, d2, t3, reduceCtorEq, ↓reduceIte, Nat.reduceAdd, Nat.reduceEqDiff, Nat.reduceLT, Int.reduceLE, Nat.reduceSub, Nat.reduceLeDiff, Nat.reduceMul, Int.reduceToNat, Int.reduceLT, Int.reduceEq, Int.reduceNeg, Nat.reduceBEq, Nat.reduceBNe]
       ·rw [ha] at t3
        refine W_fn rfl rfl ?_
        simp only [go_sem, c_ref6_plain, List.length_map, c1, c2, eq_true c3, eq_true n1, n2, t1, t2, d1, d2, t3, reduceCtorEq, ↓reduceIte, Nat.reduceAdd, Nat.reduceEqDiff, Nat.reduceLT, Int.reduceLE, Nat.reduceSub, Nat.reduceLeDiff, Nat.reduceMul, Int.reduceToNat, Int.reduceLT, Int.reduceEq, Int.reduceNeg, Nat.reduceBEq, Nat.reduceBNe]
 ·have hno : noneB b = false := by unfold noneB; simp [n1]
  cases hna : namedB b
  ·have hz : (!noneB b && !(namedB b && seqR b.seq)) = true := by rw [hno, hna]; rfl
   rw [hna] at t1
   rw [head hz]
   refine W_fn rfl rfl ?_
   simp only [go_sem, c_ref6_plain, c1, c2, eq_true c3, n1, t1, reduceCtorEq, ↓reduceIte, Nat.reduceAdd, Nat.reduceEqDiff, Nat.reduceLT, Int.reduceLE, Nat.reduceSub, Nat.reduceLeDiff, Nat.reduceMul, Int.reduceToNat, Int.reduceLT, Int.reduceEq, Int.reduceNeg, Nat.reduceBEq, Nat.reduceBNe]
  ·rw [hna] at t1
   cases hsq : seqR b.seq
   ·have hz : (!noneB b && !(namedB b && seqR b.seq)) = true := by rw [hno, hna, hsq]; rfl
    rw [hsq] at t2
    rw [head hz]
    refine W_fn rfl rfl ?_
    simp only [go_sem, c_ref6_plain, c1, c2, eq_true c3, n1, t1, t2, reduceCtorEq, ↓reduceIte, Nat.reduceAdd, Nat.reduceEqDiff, Nat.reduceLT, Int.reduceLE, Nat.reduceSub, Nat.reduceLeDiff, Nat.reduceMul, Int.reduceToNat, Int.reduceLT, Int.reduceEq, Int.reduceNeg, Nat.reduceBEq, Nat.reduceBNe]
   ·have hz : (!noneB b && !(namedB b && seqR b.seq)) = false := by rw [hno, hna, hsq]; rfl
    rw [hsq] at t2
    by_cases d1 : (b.recs.length : Int) = 0
    ·rw [tail hz, if_pos (by omega)]
     refine W_fn rfl rfl ?_
     simp only [go_sem, c_ref6_plain, List.length_map, c1, c2, eq_true c3, n1, t1, t2, d1, reduceCtorEq, ↓reduceIte, Nat.reduceAdd, Nat.reduceEqDiff, Nat.reduceLT, Int.reduceLE, Nat.reduceSub, Nat.reduceLeDiff, Nat.reduceMul, Int.reduceToNat, Int.reduceLT, Int.reduceEq, Int.reduceNeg, Nat.reduceBEq, Nat.reduceBNe]
    ·by_cases d2 : (b.recs.length : Int) > 16
     ·rw [tail hz, if_neg (by omega), if_pos (by omega)]
      refine W_fn rfl rfl ?_
      simp only [go_sem, c_ref6_plain, List.length_map, c1, c2, eq_true c3, n1, t1, t2, d1, d2, reduceCtorEq, ↓reduceIte, Nat.reduceAdd, Nat.reduceEqDiff, Nat.reduceLT, Int.reduceLE, Nat.reduceSub, Nat.reduceLeDiff, Nat.reduceMul, Int.reduceToNat, Int.reduceLT, Int.reduceEq, Int.reduceNeg, Nat.reduceBEq, Nat.reduceBNe]
     ·rw [tail hz, if_neg (by omega), if_neg (by omega)]
      obtain ⟨M, t3⟩ := plain_loop b.recs (by omega) H b.recs [] [.cells b.cs] rfl
      rw [g0] at t3
      unfold Ba.cs at t3
      cases ha : b.recs.any bigR
      ·rw [ha] at t3
       refine W_fn rfl rfl ?_
       simp only [go_sem, c_ref6_plain, List.length_map, c1, c2, eq_true c3, n1, t1, t2, d1, d2, t3, reduceCtorEq, ↓reduceIte, Nat.reduceAdd, Nat.reduceEqDiff, Nat.reduceLT, Int.reduceLE, Nat.reduceSub, Nat.reduceLeDiff, Nat.reduceMul, Int.reduceToNat, Int.reduceLT, Int.reduceEq, Int.reduceNeg, Nat.reduceBEq, Nat.reduceBNe]
      ·rw [ha] at t3
       refine W_fn rfl rfl ?_
       simp only [go_sem, c_ref6_plain, List.length_map, c1, c2, eq_true c3, n1, t1, t2, d1, d2, t3, reduceCtorEq, ↓reduceIte, Nat.reduceAdd, Nat.reduceEqDiff, Nat.reduceLT, Int.reduceLE, Nat.reduceSub, Nat.reduceLeDiff, Nat.reduceMul, Int.reduceToNat, Int.reduceLT, Int.reduceEq, Int.reduceNeg, Nat.reduceBEq, Nat.reduceBNe]
end Go.Abs

namespace Go.Abs
open Go Go.RowKit
set_option linter.unusedVariables false
set_option linter.unusedSimpArgs false

theorem plain_spec (b : Ba) (H : Heap) : W n_ref6_plain [b.V] H = some (.int .i64 (rightE b), H) := by
 have tn := fun H => ref_head_spec b H
 have td := plain_data b H
 by_cases c1 : b.base < 0
 ·have hr : rightE b = 18 := by unfold rightE; rw [if_pos (.inl c1)]
  rw [hr]
  unfold Ba.V Ba.cs
  refine W_fn rfl rfl ?_
  simp only [go_sem, c_ref6_plain, c1, reduceCtorEq, ↓reduceIte, Nat.reduceAdd, Nat.reduceEqDiff, Nat.reduceLT, Int.reduceLE, Nat.reduceSub, Nat.reduceLeDiff, Nat.reduceMul, Int.reduceToNat, Int.reduceLT, Int.reduceEq, Int.reduceNeg, Nat.reduceBEq, Nat.reduceBNe]
 by_cases c2 : b.base > 1099511627776
 ·have hr : rightE b = 18 := by unfold rightE; rw [if_pos (.inr c2)]
  rw [hr]
  unfold Ba.V Ba.cs
  refine W_fn rfl rfl ?_
  simp only [go_sem, c_ref6_plain, c1, c2, reduceCtorEq, ↓reduceIte, Nat.reduceAdd, Nat.reduceEqDiff, Nat.reduceLT, Int.reduceLE, Nat.reduceSub, Nat.reduceLeDiff, Nat.reduceMul, Int.reduceToNat, Int.reduceLT, Int.reduceEq, Int.reduceNeg, Nat.reduceBEq, Nat.reduceBNe]
 by_cases c3 : b.mark = 0
 ·have hr : rightE b = dataE b := by unfold rightE; rw [if_neg (by omega), if_pos c3]
  rw [hr]
  exact td c1 c2 c3
 ·have hr : rightE b = if markE b = true then 12 else 0 := by unfold rightE; rw [if_neg (by omega), if_neg c3]
  rw [hr]
  unfold Ba.V Ba.cs at tn
  have bad : markE b = true → (W n_ref6_plain [b.V] H = some (.int .i64 12, H)) → W n_ref6_plain [b.V] H = some (.int .i64 (if markE b = true then 12 else 0), H) := fun h1 h2 => by rw [if_pos h1]; exact h2
  have good : markE b = false → (W n_ref6_plain [b.V] H = some (.int .i64 0, H)) → W n_ref6_plain [b.V] H = some (.int .i64 (if markE b = true then 12 else 0), H) := fun h1 h2 => by rw [if_neg (by rw [h1]; decide)]; exact h2
  have rest : (b.mark = 1 ∨ b.mark = 2) → W n_ref6_plain [b.V] H = some (.int .i64 (if markE b = true then 12 else 0), H) := by
   intro hm
   have m12 : (decide (b.mark ≠ 1) && decide (b.mark ≠ 2)) = false := by rcases hm with hm | hm <;> rw [hm] <;> rfl
   have em : markE b = (!namedB b || (decide (b.seq ≠ -1) || (!b.txn || decide (0 < b.recs.length)))) := by unfold markE; rw [m12, Bool.false_or]
   cases hn : namedB b with
   | false =>
    rw [hn] at tn
    refine bad (by rw [em, hn]; rfl) (W_fn rfl rfl ?_)
    unfold Ba.V Ba.cs
    rcases hm with hm | hm
    ·simp only [go_sem, c_ref6_plain, c1, c2, c3, eq_true hm, tn, reduceCtorEq, ↓reduceIte, Nat.reduceAdd, Nat.reduceEqDiff, Nat.reduceLT, Int.reduceLE, Nat.reduceSub, Nat.reduceLeDiff, Nat.reduceMul, Int.reduceToNat, Int.reduceLT, Int.reduceEq, Int.reduceNeg, Nat.reduceBEq, Nat.reduceBNe]
    ·have hm1 : ¬ b.mark = 1 := by omega
     simp only [go_sem, c_ref6_plain, c1, c2, c3, hm1, eq_true hm, tn, reduceCtorEq, ↓reduceIte, Nat.reduceAdd, Nat.reduceEqDiff, Nat.reduceLT, Int.reduceLE, Nat.reduceSub, Nat.reduceLeDiff, Nat.reduceMul, Int.reduceToNat, Int.reduceLT, Int.reduceEq, Int.reduceNeg, Nat.reduceBEq, Nat.reduceBNe]
   | true =>
    rw [hn] at tn
    by_cases c6 : b.seq = -1
    ·cases ht : b.txn with
     | false =>
      rw [ht] at tn
      refine bad (by rw [em, hn, ht]; simp) (W_fn rfl rfl ?_)
      unfold Ba.V Ba.cs
      rcases hm with hm | hm
      ·simp only [go_sem, c_ref6_plain, c1, c2, c3, eq_true hm, tn, eq_true c6, ht, reduceCtorEq, ↓reduceIte, Nat.reduceAdd, Nat.reduceEqDiff, Nat.reduceLT, Int.reduceLE, Nat.reduceSub, Nat.reduceLeDiff, Nat.reduceMul, Int.reduceToNat, Int.reduceLT, Int.reduceEq, Int.reduceNeg, Nat.reduceBEq, Nat.reduceBNe]
      ·have hm1 : ¬ b.mark = 1 := by omega
       simp only [go_sem, c_ref6_plain, c1, c2, c3, hm1, eq_true hm, tn, eq_true c6, ht, reduceCtorEq, ↓reduceIte, Nat.reduceAdd, Nat.reduceEqDiff, Nat.reduceLT, Int.reduceLE, Nat.reduceSub, Nat.reduceLeDiff, Nat.reduceMul, Int.reduceToNat, Int.reduceLT, Int.reduceEq, Int.reduceNeg, Nat.reduceBEq, Nat.reduceBNe]
     | true =>
      rw [ht] at tn
      by_cases c7 : (b.recs.length : Int) > 0
      ·refine bad (by rw [em, hn, ht]; simp; right; omega) (W_fn rfl rfl ?_)
       unfold Ba.V Ba.cs
       rcases hm with hm | hm
       ·simp only [go_sem, c_ref6_plain, c1, c2, c3, eq_true hm, tn, eq_true c6, ht, c7, List.length_map, reduceCtorEq, ↓reduceIte, Nat.reduceAdd, Nat.reduceEqDiff, Nat.reduceLT, Int.reduceLE, Nat.reduceSub, Nat.reduceLeDiff, Nat.reduceMul, Int.reduceToNat, Int.reduceLT, Int.reduceEq, Int.reduceNeg, Nat.reduceBEq, Nat.reduceBNe]
       ·have hm1 : ¬ b.mark = 1 := by omega
        simp only [go_sem, c_ref6_plain, c1, c2, c3, hm1, eq_true hm, tn, eq_true c6, ht, c7, List.length_map, reduceCtorEq, ↓reduceIte, Nat.reduceAdd, Nat.reduceEqDiff, Nat.reduceLT, Int.reduceLE, Nat.reduceSub, Nat.reduceLeDiff, Nat.reduceMul, Int.reduceToNat, Int.reduceLT, Int.reduceEq, Int.reduceNeg, Nat.reduceBEq, Nat.reduceBNe]
      ·have h0 : b.recs = [] := List.length_eq_zero_iff.1 (by omega)
       refine good (by rw [em, hn, ht]; simp [c6, h0]) (W_fn rfl rfl ?_)
       unfold Ba.V Ba.cs
       rcases hm with hm | hm
       ·simp only [go_sem, c_ref6_plain, c1, c2, c3, eq_true hm, tn, eq_true c6, ht, c7, List.length_map, reduceCtorEq, ↓reduceIte, Nat.reduceAdd, Nat.reduceEqDiff, Nat.reduceLT, Int.reduceLE, Nat.reduceSub, Nat.reduceLeDiff, Nat.reduceMul, Int.reduceToNat, Int.reduceLT, Int.reduceEq, Int.reduceNeg, Nat.reduceBEq, Nat.reduceBNe]
       ·have hm1 : ¬ b.mark = 1 := by omega
        simp only [go_sem, c_ref6_plain, c1, c2, c3, hm1, eq_true hm, tn, eq_true c6, ht, c7, List.length_map, reduceCtorEq, ↓reduceIte, Nat.reduceAdd, Nat.reduceEqDiff, Nat.reduceLT, Int.reduceLE, Nat.reduceSub, Nat.reduceLeDiff, Nat.reduceMul, Int.reduceToNat, Int.reduceLT, Int.reduceEq, Int.reduceNeg, Nat.reduceBEq, Nat.reduceBNe]
    ·refine bad (by rw [em, hn]; simp [c6]) (W_fn rfl rfl ?_)
     unfold Ba.V Ba.cs
     rcases hm with hm | hm
     ·simp only [go_sem, c_ref6_plain, c1, c2, c3, eq_true hm, tn, c6, reduceCtorEq, ↓reduceIte, Nat.reduceAdd, Nat.reduceEqDiff, Nat.reduceLT, Int.reduceLE, Nat.reduceSub, Nat.reduceLeDiff, Nat.reduceMul, Int.reduceToNat, Int.reduceLT, Int.reduceEq, Int.reduceNeg, Nat.reduceBEq, Nat.reduceBNe]
     ·have hm1 : ¬ b.mark = 1 := by omega
      simp only [go_sem, c_ref6_plain, c1, c2, c3, hm1, eq_true hm, tn, c6, reduceCtorEq, ↓reduceIte, Nat.reduceAdd, Nat.reduceEqDiff, Nat.reduceLT, Int.reduceLE, Nat.reduceSub, Nat.reduceLeDiff, Nat.reduceMul, Int.reduceToNat, Int.reduceLT, Int.reduceEq, Int.reduceNeg, Nat.reduceBEq, Nat.reduceBNe]
  by_cases m1 : b.mark = 1
  ·exact rest (.inl m1)
  by_cases m2 : b.mark = 2
  ·exact rest (.inr m2)
  refine bad (by unfold markE; simp [m1, m2]) (W_fn rfl rfl ?_)
  unfold Ba.V Ba.cs
  simp only [go_sem, c_ref6_plain, c1, c2, c3, m1, m2, reduceCtorEq, ↓reduceIte, Nat.reduceAdd, Nat.reduceEqDiff, Nat.reduceLT, Int.reduceLE, Nat.reduceSub, Nat.reduceLeDiff, Nat.reduceMul, Int.reduceToNat, Int.reduceLT, Int.reduceEq, Int.reduceNeg, Nat.reduceBEq, Nat.reduceBNe]

theorem write_loop (L : List Rc) (hL : ∀ r ∈ L, r.1.length ≤ 64 ∧ r.2.length ≤ 64) (hn : L.length ≤ 16) (B : Box) (H : Heap) (r : List Rc) : ∀ (p : List Rc) (l : List Int) (N : Heap), L = p ++ r → l.length + r.length * 148 ≤ 100000 →
  ∃ M, loopA W loopW (.ghost (.kill k_ref6_write_0) l_ref6_write_0) [(1, .ptr (pt H 0) 0), (4, bytes l .own), (43, .list 2 (L.map rcV) .ro), (44, .int .i64 (L.length : Nat)), (45, .int .i64 (p.length : Nat))] (hx H (B :: N)) =
   some (.exit 0, [(1, .ptr (pt H 0) 0), (4, bytes (l ++ rcsB r) .own)], hx H (B :: M)) := by
 induction r with
 | nil =>
  intro p l N hp hk
  rw [List.append_nil] at hp
  subst hp
  refine ⟨N, ?_⟩
  have h1 : ¬ ((L.length : Int) < (L.length : Int)) := by omega
  refine loop_step l_ref6_write_0.eq_1 k_ref6_write_0.eq_1 (by kernel_rfl) ?_
  simp only [go_sem, h1, rcsB, List.flatMap_nil, List.append_nil, reduceCtorEq, ↓reduceIte, Nat.reduceAdd, Nat.reduceEqDiff, Nat.reduceLT, Int.reduceLE, Nat.reduceSub, Nat.reduceLeDiff, Nat.reduceMul, Int.reduceToNat, Int.reduceLT, Int.reduceEq, Int.reduceNeg, Nat.reduceBEq, Nat.reduceBNe]
 | cons x r ih =>
  intro p l N hp hk
  have hlen : p.length < L.length := by rw [hp]; simp
  have hx2 := hL x (by rw [hp]; simp)
  have h1 : ((p.length : Int) < (L.length : Int)) := by omega
  have e0 : (0 : Int) ≤ (p.length : Int) := by omega
  have e7 : ((p.length : Nat) : Int).toNat = p.length := by omega
  have e1 : (L.map rcV)[p.length]? = some (.agg [.str x.1, .str x.2]) := by rw [hp]; simp [rcV]
  have e6 : IntKind.i64.wrap ((p.length : Int) + 1) = ((p.length + 1 : Nat) : Int) := by rw [wrap_id (by unfold I64; omega)]; omega
  have hk' : l.length + (r.length * 148 + 148) ≤ 100000 := by
   have : (x :: r).length * 148 = r.length * 148 + 148 := by simp [Nat.add_mul]
   omega
  have l1 := txt_len x.1
  have l2 := txt_len x.2
  have t1 := fun H => ref_text_spec l x.1 H (by omega)
  have t2 := fun H => ref_text_spec (l ++ txt x.1) x.2 H (by simp; omega)
  have t1' : ∀ H, W n_ref1_Text [bytes l .ro, .str x.1] H = some (bytes (l ++ txt x.1) .own, H) := fun H => by rw [t1, List.append_assoc]; rfl
  have t2' : ∀ H, W n_ref1_Text [bytes (l ++ txt x.1) .ro, .str x.2] H = some (bytes (l ++ rcB x) .own, H) := fun H => by rw [t2]; simp [rcB, txt]
  obtain ⟨M, h2⟩ := ih (p ++ [x]) (l ++ rcB x) (N ++ [.cells [.str x.1, .str x.2]]) (by rw [hp]; simp) (by simp [rcB]; omega)
  refine ⟨M, ?_⟩
  simp only [List.length_append, List.length_cons, List.length_nil, Nat.zero_add] at h2
  have e9 : l ++ rcsB (x :: r) = l ++ rcB x ++ rcsB r := by simp [rcsB]
  simp only [List.append_assoc] at h2
  rw [e9]
  simp only [List.append_assoc]
  refine loop_step l_ref6_write_0.eq_1 k_ref6_write_0.eq_1 (by kernel_rfl) ?_
  simp only [go_sem, h1, e0, e7, e1, t1', t2', e6, reduceCtorEq, ↓reduceIte, Nat.reduceAdd, Nat.reduceEqDiff, Nat.reduceLT, Int.reduceLE, Nat.reduceSub, Nat.reduceLeDiff, Nat.reduceMul, Int.reduceToNat, Int.reduceLT, Int.reduceEq, Int.reduceNeg, Nat.reduceBEq, Nat.reduceBNe]
  exact h2

theorem write_spec (b : Ba) (h : BOK b) (hr : SmallR b.recs) (H : Heap) : W n_ref6_write [b.V] H = some (bytes (baBytes b) .own, H) := by
 have hf := flagI_range b
 have hlen := rcsB_len hr.2
 have hn := hr.1
 obtain ⟨F, hF⟩ : ∃ F, flagI b = F := ⟨_, rfl⟩
 obtain ⟨l1, hl1⟩ : ∃ l1, [F] ++ bes b.prod 0 = l1 := ⟨_, rfl⟩
 obtain ⟨l2, hl2⟩ : ∃ l2, l1 ++ [b.epoch / 256 % 256, b.epoch % 256] = l2 := ⟨_, rfl⟩
 obtain ⟨l3, hl3⟩ : ∃ l3, l2 ++ bes b.seq 0 = l3 := ⟨_, rfl⟩
 obtain ⟨l4, hl4⟩ : ∃ l4, l3 ++ [(b.recs.length : Int) % 256] = l4 := ⟨_, rfl⟩
 have hh : l4 = headI b := by rw [← hl4, ← hl3, ← hl2, ← hl1, ← hF]; rfl
 have k1 : l1.length = 9 := by rw [← hl1]; simp [bes_len]
 have k2 : l2.length = 11 := by rw [← hl2]; simp [k1]
 have k3 : l3.length = 19 := by rw [← hl3]; simp [k2, bes_len]
 have t1 : ∀ H, W n_ref1_Long [.list 1 [.int .u8 F] .ro, .int .i64 b.prod] H = some (bytes l1 .own, H) := fun H => by rw [← hl1]; exact ref_long_spec [F] b.prod H h.prod (by simp)
 have t2 : ∀ H, W n_ref1_Long [bytes l2 .ro, .int .i64 b.seq] H = some (bytes l3 .own, H) := fun H => by rw [← hl3]; exact ref_long_spec l2 b.seq H h.seq (by rw [k2]; decide)
 obtain ⟨M, t3⟩ := write_loop b.recs hr.2 hr.1 (.cells b.cs) H b.recs [] l4 [] rfl (by rw [hh, headI_len]; omega)
 rw [show l4 ++ rcsB b.recs = inner b by rw [hh]; rfl] at t3
 obtain ⟨S, hS⟩ : ∃ S, sealedI b = S := ⟨_, rfl⟩
 have t4 : ∀ H, W n_ref1_Sealed [bytes (inner b) .ro] H = some (bytes S .own, H) := fun H => by rw [← hS]; exact ref_sealed_spec (inner b) H (inner_bytes hr) (by have := inner_len hr; omega)
 have kS : S.length ≤ 2392 := by rw [← hS, sealedI, List.length_append]; have := inner_len hr; simp [le4]; omega
 obtain ⟨X, hX⟩ : ∃ X, bes b.base 0 = X := ⟨_, rfl⟩
 have kX : X.length = 8 := by rw [← hX]; exact bes_len _
 have t5 : ∀ H, W n_ref1_Long [.list 1 [] .ro, .int .i64 b.base] H = some (bytes X .own, H) := fun H => by rw [← hX]; exact ref_long_spec [] b.base H h.base (by simp)
 obtain ⟨Y, hY⟩ : ∃ Y, X ++ [(S.length : Int) / 16777216 % 256, (S.length : Int) / 65536 % 256, (S.length : Int) / 256 % 256, (S.length : Int) % 256] = Y := ⟨_, rfl⟩
 have kY : Y.length = 12 := by rw [← hY]; simp [kX]
 have e1 : IntKind.u8.wrap (shr .i64 b.epoch 8) = b.epoch / 256 % 256 := Num.wu8 _
 have e2 : IntKind.u8.wrap b.epoch = b.epoch % 256 := Num.wu8 _
 have e3 : IntKind.u8.wrap (b.recs.length : Int) = (b.recs.length : Int) % 256 := Num.wu8 _
 have a2 : ints .u8 l1 ++ [.int .u8 (b.epoch / 256 % 256), .int .u8 (b.epoch % 256)] = ints .u8 l2 := by rw [← hl2]; simp
 have a4 : ints .u8 l3 ++ [.int .u8 ((b.recs.length : Int) % 256)] = ints .u8 l4 := by rw [← hl4]; simp
 have a5 : ints .u8 X ++ [.int .u8 ((S.length : Int) / 16777216 % 256), .int .u8 ((S.length : Int) / 65536 % 256), .int .u8 ((S.length : Int) / 256 % 256), .int .u8 ((S.length : Int) % 256)] = ints .u8 Y := by rw [← hY]; simp
 have a6 : ints .u8 Y ++ ints .u8 S = ints .u8 (baBytes b) := by rw [← List.map_append, ← hY, ← hX]; simp [baBytes, be4, hS]
 have b2 : (l1.length + 2) * 1 ≤ maxBytes := by rw [k1]; decide
 have b4 : (l3.length + 1) * 1 ≤ maxBytes := by rw [k3]; decide
 have b5 : (X.length + 4) * 1 ≤ maxBytes := by rw [kX]; decide
 have b6 : (Y.length + S.length) * 1 ≤ maxBytes := by rw [kY]; simp only [maxBytes]; omega
 have s1 : IntKind.u8.wrap (shr .i64 (S.length : Nat) 24) = (S.length : Int) / 16777216 % 256 := Num.wu8 _
 have s2 : IntKind.u8.wrap (shr .i64 (S.length : Nat) 16) = (S.length : Int) / 65536 % 256 := Num.wu8 _
 have s3 : IntKind.u8.wrap (shr .i64 (S.length : Nat) 8) = (S.length : Int) / 256 % 256 := Num.wu8 _
 have s4 : IntKind.u8.wrap (S.length : Nat) = (S.length : Int) % 256 := Num.wu8 _
 have g0 : ((([] : List Rc).length : Nat) : Int) = 0 := rfl
 rw [g0] at t3
 unfold Ba.cs at t3
 refine W_fn rfl rfl ?_
 unfold Ba.V Ba.cs
 cases ht : b.txn
 ·rw [ht] at t3
  have f1 : IntKind.u8.wrap (IntKind.i64.wrap (2 * b.mark)) = F := by rw [← hF]; unfold flagI; rw [ht]; rfl
  simp only [go_sem, c_ref6_write, f1, fs_int, t1, e1, e2, e3, apO, a2, a4, b2, b4, t2, t3, t4, t5, a5, b5, a6, b6, s1, s2, s3, s4, List.length_map, reduceCtorEq, ↓reduceIte, Nat.reduceAdd, Nat.reduceEqDiff, Nat.reduceLT, Int.reduceLE, Nat.reduceSub, Nat.reduceLeDiff, Nat.reduceMul, Int.reduceToNat, Int.reduceLT, Int.reduceEq, Int.reduceNeg, Nat.reduceBEq, Nat.reduceBNe]
 ·rw [ht] at t3
  have f1 : IntKind.u8.wrap (IntKind.u8.wrap (IntKind.i64.wrap (2 * b.mark)) + 1) = F := by rw [← hF]; unfold flagI; rw [ht]; rfl
  simp only [go_sem, c_ref6_write, f1, fs_int, t1, e1, e2, e3, apO, a2, a4, b2, b4, t2, t3, t4, t5, a5, b5, a6, b6, s1, s2, s3, s4, List.length_map, reduceCtorEq, ↓reduceIte, Nat.reduceAdd, Nat.reduceEqDiff, Nat.reduceLT, Int.reduceLE, Nat.reduceSub, Nat.reduceLeDiff, Nat.reduceMul, Int.reduceToNat, Int.reduceLT, Int.reduceEq, Int.reduceNeg, Nat.reduceBEq, Nat.reduceBNe]

theorem ref_right_spec (b : Ba) (h : BOK b) (H : Heap) : W n_ref6_Right [b.V] H = some (.int .i64 (rightE b), H) := by
 have tp := fun H => plain_spec b H
 have tw := fun hs H => write_spec b h hs H
 unfold Ba.V Ba.cs at *
 by_cases c : rightE b = 0
 ·have hs := rightE_small c
  have hl := baBytes_len hs
  have tw' := tw hs
  have c5 : ¬ ((baBytes b).length : Int) > 4096 := by omega
  rw [c] at tp ⊢
  refine W_fn rfl rfl ?_
  simp only [go_sem, c_ref6_Right, tp, tw', c5, List.length_map, reduceCtorEq, ↓reduceIte, Nat.reduceAdd, Nat.reduceEqDiff, Nat.reduceLT, Int.reduceLE, Nat.reduceSub, Nat.reduceLeDiff, Nat.reduceMul, Int.reduceToNat, Int.reduceLT, Int.reduceEq, Int.reduceNeg, Nat.reduceBEq, Nat.reduceBNe]
 ·refine W_fn rfl rfl ?_
  simp only [go_sem, c_ref6_Right, tp, c, reduceCtorEq, ↓reduceIte, Nat.reduceAdd, Nat.reduceEqDiff, Nat.reduceLT, Int.reduceLE, Nat.reduceSub, Nat.reduceLeDiff, Nat.reduceMul, Int.reduceToNat, Int.reduceLT, Int.reduceEq, Int.reduceNeg, Nat.reduceBEq, Nat.reduceBNe]

theorem ref_Bytes_spec (b : Ba) (h : BOK b) (H : Heap) :
  W n_ref6_Bytes [b.V] H = some (.tuple [if rightE b = 0 then bytes (baBytes b) .own else .list 1 [] .full, .int .i64 (rightE b)], H) := by
 have tr := fun H => ref_right_spec b h H
 have tb := fun hs H => write_spec b h hs H
 unfold Ba.V Ba.cs at tr tb ⊢
 by_cases c : rightE b = 0
 ·have tb' := tb (rightE_small c)
  rw [if_pos c]
  rw [c] at tr ⊢
  refine W_fn rfl rfl ?_
  simp only [go_sem, c_ref6_Bytes, tr, tb', reduceCtorEq, ↓reduceIte, Nat.reduceAdd, Nat.reduceEqDiff, Nat.reduceLT, Int.reduceLE, Nat.reduceSub, Nat.reduceLeDiff, Nat.reduceMul, Int.reduceToNat, Int.reduceLT, Int.reduceEq, Int.reduceNeg, Nat.reduceBEq, Nat.reduceBNe]
 ·rw [if_neg c]
  refine W_fn rfl rfl ?_
  simp only [go_sem, c_ref6_Bytes, tr, c, reduceCtorEq, ↓reduceIte, Nat.reduceAdd, Nat.reduceEqDiff, Nat.reduceLT, Int.reduceLE, Nat.reduceSub, Nat.reduceLeDiff, Nat.reduceMul, Int.reduceToNat, Int.reduceLT, Int.reduceEq, Int.reduceNeg, Nat.reduceBEq, Nat.reduceBNe]

def sizeE (b : Ba) : Int := if rightE b = 0 then ((baBytes b).length : Int) else 0
theorem ref_size_spec (b : Ba) (h : BOK b) (H : Heap) : W n_ref6_Size [b.V] H = some (.int .i64 (sizeE b), H) := by
 have tb := fun H => ref_Bytes_spec b h H
 unfold sizeE
 unfold Ba.V Ba.cs at tb ⊢
 by_cases c : rightE b = 0
 ·rw [if_pos c]
  rw [c, if_pos rfl] at tb
  refine W_fn rfl rfl ?_
  simp only [go_sem, c_ref6_Size, tb, List.length_map, reduceCtorEq, ↓reduceIte, Nat.reduceAdd, Nat.reduceEqDiff, Nat.reduceLT, Int.reduceLE, Nat.reduceSub, Nat.reduceLeDiff, Nat.reduceMul, Int.reduceToNat, Int.reduceLT, Int.reduceEq, Int.reduceNeg, Nat.reduceBEq, Nat.reduceBNe]
 ·rw [if_neg c]
  simp only [if_neg c] at tb
  refine W_fn rfl rfl ?_
  simp only [go_sem, c_ref6_Size, tb, List.length_nil, Int.natCast_zero, reduceCtorEq, ↓reduceIte, Nat.reduceAdd, Nat.reduceEqDiff, Nat.reduceLT, Int.reduceLE, Nat.reduceSub, Nat.reduceLeDiff, Nat.reduceMul, Int.reduceToNat, Int.reduceLT, Int.reduceEq, Int.reduceNeg, Nat.reduceBEq, Nat.reduceBNe]
end Go.Abs

namespace Go.Abs
open Go Go.RowKit
set_option linter.unusedVariables false
set_option linter.unusedSimpArgs false

theorem i64_c {n : Int} (h : -9223372036854775808 ≤ n) (k : n ≤ 9223372036854775807) : I64 n := by unfold I64; omega
end Go.Abs

namespace Go.Abs
open Go Go.RowKit
set_option linter.unusedVariables false
set_option linter.unusedSimpArgs false

/-! ## A table, and a batch -/
def tabCheck (L : List Pr) (b : Ba) : Int × Int :=
 if rightE b ≠ 0 then (-1, rightE b) else if b.prod < 0 then (-1, 0) else checkP ((atP b.prod L).getD zeroPr) (atP b.prod L).isSome b
structure TOK (L : List Pr) : Prop where
 len : L.length ≤ 100000
 last : ∀ p ∈ L, p.last.length ≤ 1000000
theorem atP_mem {id : Int} {L : List Pr} {p : Pr} (h : atP id L = some p) : p ∈ L ∧ L[belowN id L]? = some p := by
 unfold atP at h
 split at h
 ·rename_i q hq
  split at h
  ·cases h; exact ⟨List.mem_of_getElem? hq, hq⟩
  ·cases h
 ·cases h
theorem getD_last {L : List Pr} (h : TOK L) (id : Int) : ((atP id L).getD zeroPr).last.length ≤ 1000000 := by
 cases ha : atP id L with
 | none => simp [zeroPr]
 | some p => exact h.last p (atP_mem ha).1

theorem tab_check_spec (L : List Pr) (hL : TOK L) (fl : Fl) (hfl : fl = .own ∨ (fl = .full ∧ L = [])) (i : Nat) (H : Heap) (hi : Old H i (tabB L fl)) (b : Ba) (hb : BOK b) :
  W n_ref10_Table_Check [.ptr i 0, b.V] H = some (.tuple [.int .i64 (tabCheck L b).1, .int .i64 (tabCheck L b).2], H) := by
 have tr := fun H => ref_right_spec b hb H
 have tg := fun M => get_spec b.prod L (by have := hL.len; omega) fl hfl i (hx H M) ⟨hi.get M⟩
 have hq := getD_last hL b.prod
 unfold tabCheck
 generalize (atP b.prod L).isSome = known at *
 have tc := fun H => ref_check_spec ((atP b.prod L).getD zeroPr) known b hq H
 by_cases c1 : rightE b = 0
 ·rw [if_neg (by omega)]
  rw [c1] at tr
  by_cases c2 : b.prod < 0
  ·rw [if_pos c2]
   unfold Ba.V Ba.cs at *
   refine W_fn rfl rfl ?_
   simp only [go_sem, c_ref10_Table_Check, tr, c2, reduceCtorEq, ↓reduceIte, Nat.reduceAdd, Nat.reduceEqDiff, Nat.reduceLT, Int.reduceLE, Nat.reduceSub, Nat.reduceLeDiff, Nat.reduceMul, Int.reduceToNat, Int.reduceLT, Int.reduceEq, Int.reduceNeg, Nat.reduceBEq, Nat.reduceBNe]
  ·rw [if_neg c2]
   generalize (atP b.prod L).getD zeroPr = q at *
   unfold Pr.V Pr.cs at *
   unfold Ba.V Ba.cs at *
   refine W_fn rfl rfl ?_
   simp only [go_sem, c_ref10_Table_Check, tr, c2, tg, tc, reduceCtorEq, ↓reduceIte, Nat.reduceAdd, Nat.reduceEqDiff, Nat.reduceLT, Int.reduceLE, Nat.reduceSub, Nat.reduceLeDiff, Nat.reduceMul, Int.reduceToNat, Int.reduceLT, Int.reduceEq, Int.reduceNeg, Nat.reduceBEq, Nat.reduceBNe]
 ·rw [if_pos c1]
  unfold Ba.V Ba.cs at *
  refine W_fn rfl rfl ?_
  simp only [go_sem, c_ref10_Table_Check, tr, c1, reduceCtorEq, ↓reduceIte, Nat.reduceAdd, Nat.reduceEqDiff, Nat.reduceLT, Int.reduceLE, Nat.reduceSub, Nat.reduceLeDiff, Nat.reduceMul, Int.reduceToNat, Int.reduceLT, Int.reduceEq, Int.reduceNeg, Nat.reduceBEq, Nat.reduceBNe]

/-- What a batch makes of a table; what it drops. -/
def tabL (L : List Pr) (b : Ba) : List Pr :=
 if rightE b ≠ 0 ∨ b.prod < 0 then L
 else match atP b.prod L with
  | some p => L.set (belowN b.prod L) (applyP p true b)
  | none => L.take (belowN b.prod L) ++ [applyP zeroPr false b] ++ L.drop (belowN b.prod L)
def tabD (L : List Pr) (b : Ba) : Option La :=
 if rightE b ≠ 0 ∨ b.prod < 0 then none
 else match atP b.prod L with
  | some p => if b.mark = 2 ∧ p.open_ ≥ 0 then some (b.prod, p.open_, b.base) else none
  | none => none
def optLa : Option La → La
 | some x => x
 | none => (0, 0, 0)
def newFl (L : List Pr) (b : Ba) (fl : Fl) : Fl := if rightE b ≠ 0 ∨ b.prod < 0 then fl else .own

theorem thaw_r (i : Nat) (Xs : List AVal) (e : Env) (H : Heap) (h1 : Env.get e 0 = .ptr i 0) (h2 : H[i]? = some (.cells [.list 4 Xs .uniq])) :
  agh (.thawC 0 0) e H = some (e, H.set i (.cells [.lbox H.length]) ++ [.arr 4 Xs]) := by
 simp only [agh, h1, h2, Nat.add_zero, List.getElem?_cons_zero]; rfl
theorem back_r (i b : Nat) (Xs : List AVal) (e : Env) (H : Heap) (h1 : Env.get e 0 = .ptr i 0) (h2 : H[i]? = some (.cells [.lbox b])) (h3 : H[b]? = some (.arr 4 Xs)) :
  agh (.backC 0 0) e H = some (e, (H.set i (.cells [.list 4 Xs .uniq])).set b .dead) := by
 simp only [agh, h1, h2, h3, Nat.add_zero, List.getElem?_cons_zero]; rfl
theorem freeze_r (i : Nat) (Xs : List AVal) (e : Env) (H : Heap) (h1 : Env.get e 0 = .ptr i 0) (h2 : H[i]? = some (.cells [.list 4 Xs .uniq])) :
  agh (.freezeC 0 0) e H = some (e, H.set i (.cells [.list 4 Xs .own])) := by
 simp only [agh, h1, h2, Nat.add_zero, List.getElem?_cons_zero]; rfl
theorem back_o (i : Nat) (Xs : List AVal) (e : Env) (H : Heap) (h1 : Env.get e 0 = .ptr i 0) (h2 : H[i]? = some (.cells [.list 4 Xs .own])) :
  agh (.backC 0 0) e H = some (e, H) := by
 simp only [agh, h1, h2, Nat.add_zero, List.getElem?_cons_zero]
theorem freeze_o (i : Nat) (Xs : List AVal) (e : Env) (H : Heap) (h1 : Env.get e 0 = .ptr i 0) (h2 : H[i]? = some (.cells [.list 4 Xs .own])) :
  agh (.freezeC 0 0) e H = some (e, H) := by
 simp only [agh, h1, h2, Nat.add_zero, List.getElem?_cons_zero]
theorem ix_r (k b : Nat) (L : List Pr) (hk : k < L.length) (H : Heap) (h : H[b]? = some (.arr 4 (L.map Pr.V))) : ev W (.ixAddr 4) [.lbox b, .int .i64 (k : Nat)] H = some (.eptr b k 0, H) := by
 simp only [ev, h, List.length_map]
 rw [if_pos (by refine ⟨?_, ?_, ?_⟩ <;> first | trivial | omega)]
 simp
theorem st_r (k b : Nat) (L : List Pr) (hk : k < L.length) (x : Pr) (H : Heap) (h : H[b]? = some (.arr 4 (L.map Pr.V))) :
  evStore 4 (.eptr b k 0) (.agg [.int .i64 x.id, .int .i64 x.epoch, .list 3 (x.last.map laV) .ro, .int .i64 x.open_]) H = some (.tuple [], H.set b (.arr 4 ((L.set k x).map Pr.V))) := by
 have hx : (L.map Pr.V)[k]? = some (L[k].V) := by simp [hk]
 unfold evStore
 rw [if_pos (by simp [AVal.flat, AVal.share0, AVal.one])]
 simp only [h, hx]
 rw [if_pos (by simp [Pr.V, Pr.cs, AVal.cells, AVal.flat, AVal.argOK, AVal.isU])]
 have e : (L[k].V).withCells (overwrite (L[k].V).cells 0 ((AVal.agg [.int .i64 x.id, .int .i64 x.epoch, .list 3 (x.last.map laV) .ro, .int .i64 x.open_]).flat.map AVal.strip)) = x.V := by
  simp [Pr.V, Pr.cs, AVal.withCells, AVal.cells, AVal.flat, AVal.share0, AVal.strip, overwrite]
 rw [e, List.map_set]
end Go.Abs

namespace Go.Abs
open Go Go.RowKit
set_option linter.unusedVariables false
set_option linter.unusedSimpArgs false

theorem under_prs (n : Nat) : ∀ (r : List Pr), AVal.underL n (r.map Pr.V) = true
 | [] => rfl
 | x :: r => by simp [Pr.V, AVal.underL, AVal.under, under_pr, under_prs n r]
theorem tabB_flat (L fl) : (tabB L fl).flatB = true := by
 simp only [tabB, Box.flatB, AVal.underL, AVal.under, under_prs, Bool.and_self]
theorem flat_prs (L : List Pr) (fl) : Box.flatB (.cells [.list 4 (L.map Pr.V) fl]) = true := tabB_flat L fl

set_option maxHeartbeats 1000000 in
theorem tab_apply_none (L : List Pr) (fl : Fl) (i : Nat) (H : Heap) (b : Ba) (hb : BOK b) (hc : rightE b ≠ 0 ∨ b.prod < 0) :
  W n_ref10_Table_Apply [.ptr i 0, b.V] H = some (.tuple [laV (0, 0, 0), .bool false], H) := by
 have tr := fun H => ref_right_spec b hb H
 by_cases c1 : rightE b = 0
 ·have c2 : b.prod < 0 := by rcases hc with h | h; exact absurd c1 h; exact h
  rw [c1] at tr
  unfold Ba.V Ba.cs at *
  refine W_fn rfl rfl ?_
  simp only [go_sem, c_ref10_Table_Apply, tr, c2, reduceCtorEq, ↓reduceIte, Nat.reduceAdd, Nat.reduceEqDiff, Nat.reduceLT, Int.reduceLE, Nat.reduceSub, Nat.reduceLeDiff, Nat.reduceMul, Int.reduceToNat, Int.reduceLT, Int.reduceEq, Int.reduceNeg, Nat.reduceBEq, Nat.reduceBNe]
  rfl
 ·unfold Ba.V Ba.cs at *
  refine W_fn rfl rfl ?_
  simp only [go_sem, c_ref10_Table_Apply, tr, c1, reduceCtorEq, ↓reduceIte, Nat.reduceAdd, Nat.reduceEqDiff, Nat.reduceLT, Int.reduceLE, Nat.reduceSub, Nat.reduceLeDiff, Nat.reduceMul, Int.reduceToNat, Int.reduceLT, Int.reduceEq, Int.reduceNeg, Nat.reduceBEq, Nat.reduceBNe]
  rfl

set_option maxHeartbeats 1000000 in
theorem tab_apply_known (L : List Pr) (hL : TOK L) (p : Pr) (b : Ba) (hb : BOK b) (c1 : rightE b = 0) (c2 : ¬ b.prod < 0) (ha : atP b.prod L = some p) (i : Nat) (H : Heap) (hi : Old H i (tabB L .own)) :
  W n_ref10_Table_Apply [.ptr i 0, b.V] H = some (.tuple [laV (optLa (tabD L b)), .bool (tabD L b).isSome], H.set i (tabB (L.set (belowN b.prod L) (applyP p true b)) .own)) := by
 have tr := fun H => ref_right_spec b hb H
 have ta := fun M => at_spec b.prod L (by have := hL.len; omega) .own (.inl rfl) i (hx H M) ⟨hi.get M⟩
 have tg := fun M => get_spec b.prod L (by have := hL.len; omega) .own (.inl rfl) i (hx H M) ⟨hi.get M⟩
 have tp := fun H => ref_apply_spec p true b (hL.last p (atP_mem ha).1) H
 have hk := (List.getElem?_eq_some_iff.1 (atP_mem ha).2).1
 rw [c1] at tr
 rw [ha] at ta tg
 simp only [Option.isSome_some, Option.getD_some] at ta tg
 have hd : tabD L b = if b.mark = 2 ∧ p.open_ ≥ 0 then some (b.prod, p.open_, b.base) else none := by
  unfold tabD; rw [if_neg (by omega), ha]
 rw [hd]
 generalize belowN b.prod L = k at *
 generalize applyP p true b = x at *
 have gj := hi.get
 have gs := hi.set
 have gj' := hi.get'
 have gs' := hi.set'
 have bL : (0 + L.length) * 48 ≤ maxBytes := by have := hL.len; simp only [maxBytes]; omega
 have bL' : L.length * 48 ≤ maxBytes := by have := hL.len; simp only [maxBytes]; omega
 have tw := thaw_r i (L.map Pr.V)
 have ix := ix_r k (pt H 4) L hk
 have st := st_r k (pt H 4) L hk x
 have bk := back_r i (pt H 4) ((L.set k x).map Pr.V)
 have fz := freeze_r i ((L.set k x).map Pr.V)
 unfold tabB at *
 unfold Pr.V Pr.cs at tg tp
 unfold Ba.V Ba.cs at *
 have apU : ∀ (Xs : List AVal), evAppend 4 48 true (.list 4 [] .full) Xs = gd (decide ((0 + Xs.length) * 48 ≤ maxBytes)) (some (.list 4 Xs .uniq)) := fun Xs => by
  unfold gd; by_cases h : (0 + Xs.length) * 48 ≤ maxBytes <;> simp [evAppend] at h ⊢ <;> simp [h]
 refine W_fnS rfl rfl ?_
 by_cases c3 : b.mark = 2
 ·by_cases c4 : p.open_ ≥ 0
  ·rw [if_pos ⟨c3, c4⟩]
   simp only [go_sem, c_ref10_Table_Apply, tr, c2, ta, tg, tp, gj, gs, gj', gs', bL, bL', apU, List.length_map, tw, ix, st, bk, fz, hx_len, hx_app, List.length_cons, List.length_nil, List.cons_append, List.nil_append, List.set_cons_succ, List.set_cons_zero, flat_prs, eq_true c3, c4, reduceCtorEq, ↓reduceIte, Nat.reduceAdd, Nat.reduceEqDiff, Nat.reduceLT, Int.reduceLE, Nat.reduceSub, Nat.reduceLeDiff, Nat.reduceMul, Int.reduceToNat, Int.reduceLT, Int.reduceEq, Int.reduceNeg, Nat.reduceBEq, Nat.reduceBNe]
   rfl
  ·rw [if_neg (fun h => c4 h.2)]
   simp only [go_sem, c_ref10_Table_Apply, tr, c2, ta, tg, tp, gj, gs, gj', gs', bL, bL', apU, List.length_map, tw, ix, st, bk, fz, hx_len, hx_app, List.length_cons, List.length_nil, List.cons_append, List.nil_append, List.set_cons_succ, List.set_cons_zero, flat_prs, eq_true c3, c4, reduceCtorEq, ↓reduceIte, Nat.reduceAdd, Nat.reduceEqDiff, Nat.reduceLT, Int.reduceLE, Nat.reduceSub, Nat.reduceLeDiff, Nat.reduceMul, Int.reduceToNat, Int.reduceLT, Int.reduceEq, Int.reduceNeg, Nat.reduceBEq, Nat.reduceBNe]
   rfl
 ·rw [if_neg (fun h => c3 h.1)]
  simp only [go_sem, c_ref10_Table_Apply, tr, c2, ta, tg, tp, gj, gs, gj', gs', bL, bL', apU, List.length_map, tw, ix, st, bk, fz, hx_len, hx_app, List.length_cons, List.length_nil, List.cons_append, List.nil_append, List.set_cons_succ, List.set_cons_zero, flat_prs, c3, reduceCtorEq, ↓reduceIte, Nat.reduceAdd, Nat.reduceEqDiff, Nat.reduceLT, Int.reduceLE, Nat.reduceSub, Nat.reduceLeDiff, Nat.reduceMul, Int.reduceToNat, Int.reduceLT, Int.reduceEq, Int.reduceNeg, Nat.reduceBEq, Nat.reduceBNe]
  rfl

set_option maxHeartbeats 1000000 in
theorem tab_apply_new (L : List Pr) (hL : TOK L) (fl : Fl) (hfl : fl = .own ∨ (fl = .full ∧ L = [])) (b : Ba) (hb : BOK b) (c1 : rightE b = 0) (c2 : ¬ b.prod < 0) (ha : atP b.prod L = none) (i : Nat) (H : Heap) (hi : Old H i (tabB L fl)) :
  W n_ref10_Table_Apply [.ptr i 0, b.V] H = some (.tuple [laV (0, 0, 0), .bool false], H.set i (tabB (L.take (belowN b.prod L) ++ [applyP zeroPr false b] ++ L.drop (belowN b.prod L)) .own)) := by
 have tr := fun H => ref_right_spec b hb H
 have ta := fun M => at_spec b.prod L (by have := hL.len; omega) fl hfl i (hx H M) ⟨hi.get M⟩
 have tg := fun M => get_spec b.prod L (by have := hL.len; omega) fl hfl i (hx H M) ⟨hi.get M⟩
 have tp := fun H => ref_apply_spec zeroPr false b (by simp [zeroPr]) H
 have hk := belowN_le b.prod L
 have hlen := hL.len
 rw [c1] at tr
 rw [ha] at ta tg
 simp only [Option.isSome_none, Option.getD_none] at ta tg
 generalize hkk : belowN b.prod L = k at *
 generalize applyP zeroPr false b = x at *
 have gj := hi.get
 have gs := hi.set
 have gj' := hi.get'
 have gs' := hi.set'
 have e0 : (0 : Int) ≤ (k : Int) := by omega
 have e1 : (k : Int) ≤ (L.length : Int) := by omega
 have e7 : ((k : Nat) : Int).toNat = k := by omega
 have m1 : (L.map Pr.V).take k = (L.take k).map Pr.V := by simp
 have m2 : (L.map Pr.V).drop k = (L.drop k).map Pr.V := by simp
 have b1 : (0 + (L.take k).length) * 48 ≤ maxBytes := by simp only [maxBytes, List.length_take]; omega
 have b2 : ((L.take k).length + 1) * 48 ≤ maxBytes := by simp only [maxBytes, List.length_take]; omega
 have b3 : ((L.take k ++ [x]).length + (L.drop k).length) * 48 ≤ maxBytes := by simp only [maxBytes, List.length_append, List.length_take, List.length_drop, List.length_cons, List.length_nil]; omega
 rcases hfl with rfl | ⟨rfl, rfl⟩
 ·skip
  have a1 : (L.take k).map Pr.V ++ [.agg [.int .i64 x.id, .int .i64 x.epoch, .list 3 (x.last.map laV) .ro, .int .i64 x.open_]] = (L.take k ++ [x]).map Pr.V := by simp [Pr.V, Pr.cs]
  have a2 : (L.take k ++ [x]).map Pr.V ++ (L.drop k).map Pr.V = (L.take k ++ [x] ++ L.drop k).map Pr.V := by simp
  generalize L.take k ++ [x] = Y at *
  generalize Y ++ L.drop k = Z at *
  have bk := back_o i (Z.map Pr.V)
  have fz := freeze_o i (Z.map Pr.V)
  unfold tabB at *
  unfold Pr.V Pr.cs at tg tp
  unfold Ba.V Ba.cs at *
  refine W_fnS rfl rfl ?_
  simp only [go_sem, c_ref10_Table_Apply, tr, c2, ta, tg, tp, gj, gs, gj', gs', slH, slL, m1, m2, e0, e1, e7, apF, apO, List.length_map, b1, b2, b3, a1, a2, bk, fz, List.length_cons, List.length_nil, List.nil_append, flat_prs, reduceCtorEq, ↓reduceIte, Nat.reduceAdd, Nat.reduceEqDiff, Nat.reduceLT, Int.reduceLE, Nat.reduceSub, Nat.reduceLeDiff, Nat.reduceMul, Int.reduceToNat, Int.reduceLT, Int.reduceEq, Int.reduceNeg, Nat.reduceBEq, Nat.reduceBNe]
  rfl
 ·have hk0 : k = 0 := by simpa using hk
  subst hk0
  have bk := back_o i ([x].map Pr.V)
  have fz := freeze_o i ([x].map Pr.V)
  have s1 : evSlice 4 true false false (.list 4 [] .full) [.int .i64 0] = some (.list 4 [] .full) := rfl
  have s2 : evSlice 4 false true false (.list 4 [] .full) [.int .i64 0] = some (.list 4 [] .ro) := rfl
  have b5 : (0 + 0) * 48 ≤ maxBytes := by decide
  have b6 : (0 + 1) * 48 ≤ maxBytes := by decide
  have b7 : (1 + 0) * 48 ≤ maxBytes := by decide
  unfold tabB at *
  unfold Pr.V Pr.cs at tg tp
  unfold Ba.V Ba.cs at *
  simp only [List.map_nil, List.map_cons, Pr.V, Pr.cs, Int.natCast_zero] at gj gs gj' gs' ta tg bk fz
  refine W_fnS rfl rfl ?_
  simp only [go_sem, c_ref10_Table_Apply, tr, c2, ta, tg, tp, gj, gs, gj', gs', s1, s2, apF, apO, List.length_nil, List.length_cons, b5, b6, b7, bk, fz, List.nil_append, List.append_nil, AVal.underL, AVal.under, under_la, flatB_c, reduceCtorEq, ↓reduceIte, Nat.reduceAdd, Nat.reduceEqDiff, Nat.reduceLT, Int.reduceLE, Nat.reduceSub, Nat.reduceLeDiff, Nat.reduceMul, Int.reduceToNat, Int.reduceLT, Int.reduceEq, Int.reduceNeg, Nat.reduceBEq, Nat.reduceBNe]
  rfl

theorem tab_apply_spec (L : List Pr) (hL : TOK L) (fl : Fl) (hfl : fl = .own ∨ (fl = .full ∧ L = [])) (b : Ba) (hb : BOK b) (i : Nat) (H : Heap) (hi : Old H i (tabB L fl)) :
  W n_ref10_Table_Apply [.ptr i 0, b.V] H = some (.tuple [laV (optLa (tabD L b)), .bool (tabD L b).isSome], H.set i (tabB (tabL L b) (newFl L b fl))) := by
 by_cases hc : rightE b ≠ 0 ∨ b.prod < 0
 ·have h := tab_apply_none L fl i H b hb hc
  rw [show tabD L b = none by unfold tabD; rw [if_pos hc], show tabL L b = L by unfold tabL; rw [if_pos hc], show newFl L b fl = fl by unfold newFl; rw [if_pos hc], hi.same]
  exact h
 ·have c1 : rightE b = 0 := by omega
  have c2 : ¬ b.prod < 0 := fun h => hc (.inr h)
  rw [show newFl L b fl = .own by unfold newFl; rw [if_neg hc]]
  cases ha : atP b.prod L with
  | some p =>
   have hfl' : fl = .own := by
    rcases hfl with h | ⟨_, h⟩
    ·exact h
    ·have := (atP_mem ha).1; rw [h] at this; cases this
   subst hfl'
   have h := tab_apply_known L hL p b hb c1 c2 ha i H hi
   rw [show tabL L b = L.set (belowN b.prod L) (applyP p true b) by unfold tabL; rw [if_neg hc, ha]]
   exact h
  | none =>
   have h := tab_apply_new L hL fl hfl b hb c1 c2 ha i H hi
   rw [show tabL L b = L.take (belowN b.prod L) ++ [applyP zeroPr false b] ++ L.drop (belowN b.prod L) by unfold tabL; rw [if_neg hc, ha], show tabD L b = none by unfold tabD; rw [if_neg hc, ha]]
   exact h
end Go.Abs

namespace Go.Abs
open Go Go.RowKit
set_option linter.unusedVariables false
set_option linter.unusedSimpArgs false

/-! ## A row, folded -/
structure TK (L : List Pr) (n : Nat) : Prop where
 len : L.length ≤ n
 last : ∀ p ∈ L, p.last.length ≤ 5
theorem TK.ok {L n} (h : TK L n) (hn : n ≤ 100000) : TOK L := ⟨Nat.le_trans h.len hn, fun p hp => by have := h.last p hp; omega⟩
theorem apply_last (p : Pr) (known : Bool) (b : Ba) (h : p.last.length ≤ 5) : (applyP p known b).last.length ≤ 5 := by
 unfold applyP
 split
 ·simp only [lastsP]; split
  ·exact h
  ·simp
 ·simp only [List.length_drop]; omega
theorem TK.next {L n} (h : TK L n) (b : Ba) : TK (tabL L b) (n + 1) := by
 unfold tabL
 split
 ·exact ⟨Nat.le_trans h.len (Nat.le_succ n), h.last⟩
 ·split
  ·rename_i p hp
   refine ⟨by simpa using Nat.le_trans h.len (Nat.le_succ n), fun q hq => ?_⟩
   rcases List.mem_or_eq_of_mem_set hq with hq | rfl
   ·exact h.last q hq
   ·exact apply_last p true b (h.last p (atP_mem hp).1)
  ·refine ⟨?_, fun q hq => ?_⟩
   ·have h1 := h.len
    have h2 := belowN_le b.prod L
    simp only [List.length_append, List.length_take, List.length_drop, List.length_cons, List.length_nil]
    omega
   ·simp only [List.append_assoc, List.mem_append, List.mem_cons, List.not_mem_nil, or_false] at hq
    rcases hq with hq | rfl | hq
    ·exact h.last q (List.mem_of_mem_take hq)
    ·exact apply_last zeroPr false b (by simp [zeroPr])
    ·exact h.last q (List.mem_of_mem_drop hq)

def foldL : List Ba → List Pr → List Pr
 | [], L => L
 | b :: l, L => foldL l (tabL L b)
def foldD : List Ba → List Pr → List La
 | [], _ => []
 | b :: l, L => (match tabD L b with | some d => [d] | none => []) ++ foldD l (tabL L b)
def foldF : List Ba → List Pr → Fl → Fl
 | [], _, fl => fl
 | b :: l, L, fl => foldF l (tabL L b) (newFl L b fl)
def dFl (d : List La) : Fl := if d = [] then .full else .own
theorem newFl_ok {L b fl} (h : fl = .own ∨ (fl = .full ∧ L = [])) : newFl L b fl = .own ∨ (newFl L b fl = .full ∧ tabL L b = []) := by
 unfold newFl tabL
 split
 ·exact h
 ·exact .inl rfl

theorem fold_loop (A : List Ba) (hA : ∀ b ∈ A, BOK b) (hn : A.length ≤ 1000) (H : Heap) (r : List Ba) : ∀ (q : List Ba) (L : List Pr) (fl : Fl) (D : List La) (N : Heap), A = q ++ r → TK L q.length → (fl = .own ∨ (fl = .full ∧ L = [])) → D.length ≤ q.length →
  ∃ M, loopA W loopW (.ghost (.kill k_ref10_Fold_0) l_ref10_Fold_0) [(4, .ptr (pt H 0) 0), (5, .list 3 (D.map laV) (dFl D)), (12, .list 7 (A.map Ba.V) .ro), (13, .int .i64 (A.length : Nat)), (14, .int .i64 (q.length : Nat))] (hx H (tabB L fl :: N)) =
   some (.exit 0, [(4, .ptr (pt H 0) 0), (5, .list 3 ((D ++ foldD r L).map laV) (dFl (D ++ foldD r L)))], hx H (tabB (foldL r L) (foldF r L fl) :: M)) := by
 induction r with
 | nil =>
  intro q L fl D N hq hT hfl hD
  rw [List.append_nil] at hq
  subst hq
  refine ⟨N, ?_⟩
  have h1 : ¬ ((A.length : Int) < (A.length : Int)) := by omega
  rw [show foldD [] L = [] from rfl, List.append_nil, show foldL [] L = L from rfl, show foldF [] L fl = fl from rfl]
  refine loop_step l_ref10_Fold_0.eq_1 k_ref10_Fold_0.eq_1 (by kernel_rfl) ?_
  simp only [go_sem, h1, reduceCtorEq, ↓reduceIte, Nat.reduceAdd, Nat.reduceEqDiff, Nat.reduceLT, Int.reduceLE, Nat.reduceSub, Nat.reduceLeDiff, Nat.reduceMul, Int.reduceToNat, Int.reduceLT, Int.reduceEq, Int.reduceNeg, Nat.reduceBEq, Nat.reduceBNe]
 | cons b r ih =>
  intro q L fl D N hq hT hfl hD
  have hlen : q.length < A.length := by rw [hq]; simp
  have h1 : ((q.length : Int) < (A.length : Int)) := by omega
  have e0 : (0 : Int) ≤ (q.length : Int) := by omega
  have e7 : ((q.length : Nat) : Int).toNat = q.length := by omega
  have e1 : (A.map Ba.V)[q.length]? = some (.agg [.int .i64 b.base, .int .i64 b.prod, .int .i64 b.epoch, .int .i64 b.seq, .bool b.txn, .int .i64 b.mark, .list 2 (b.recs.map rcV) .ro]) := by rw [hq]; simp [Ba.V, Ba.cs]
  have e6 : IntKind.i64.wrap ((q.length : Int) + 1) = ((q.length + 1 : Nat) : Int) := by rw [wrap_id (by unfold I64; omega)]; omega
  have hbo := hA b (by rw [hq]; simp)
  have ta := fun M => tab_apply_spec L (hT.ok (by omega)) fl hfl b hbo (pt H 0) (hx H (tabB L fl :: M)) ⟨by rw [hx_get]; rfl⟩
  simp only [hx_set, List.set_cons_zero] at ta
  have hb : ((D.map laV).length + 1) * 24 ≤ maxBytes := by simp only [List.length_map, maxBytes]; omega
  have hb' : (D.length + 1) * 24 ≤ maxBytes := by simp only [maxBytes]; omega
  have hb0 : (0 + 1) * 24 ≤ maxBytes := by decide
  have n1 : ∀ x x' y : Box, (N ++ [x, y])[(N ++ [x']).length]? = some y := fun x x' y => by simp
  have n2 : ∀ x x' y z : Box, (N ++ [x, y]).set (N ++ [x']).length z = N ++ [x, z] := fun x x' y z => by simp
  have g1 : foldL (b :: r) L = foldL r (tabL L b) := rfl
  have g2 : foldF (b :: r) L fl = foldF r (tabL L b) (newFl L b fl) := rfl
  rw [g1, g2]
  cases hd : tabD L b with
  | none =>
   rw [hd] at ta
   obtain ⟨M, h2⟩ := ih (q ++ [b]) (tabL L b) (newFl L b fl) D (N ++ [.cells b.cs, .cells [.int .i64 0, .int .i64 0, .int .i64 0]]) (by rw [hq]; simp) (by simpa using hT.next b) (newFl_ok hfl) (by simp; omega)
   refine ⟨M, ?_⟩
   have g3 : D ++ foldD (b :: r) L = D ++ foldD r (tabL L b) := by simp [foldD, hd]
   rw [g3]
   simp only [List.length_append, List.length_cons, List.length_nil, Nat.zero_add] at h2
   simp only [optLa, laV, Option.isSome_none] at ta
   unfold Ba.V Ba.cs at *
   refine loop_step l_ref10_Fold_0.eq_1 k_ref10_Fold_0.eq_1 (by kernel_rfl) ?_
   simp only [go_sem, h1, e0, e7, e1, ta, n1, n2, e6, reduceCtorEq, ↓reduceIte, Nat.reduceAdd, Nat.reduceEqDiff, Nat.reduceLT, Int.reduceLE, Nat.reduceSub, Nat.reduceLeDiff, Nat.reduceMul, Int.reduceToNat, Int.reduceLT, Int.reduceEq, Int.reduceNeg, Nat.reduceBEq, Nat.reduceBNe]
   exact h2
  | some d =>
   rw [hd] at ta
   obtain ⟨M, h2⟩ := ih (q ++ [b]) (tabL L b) (newFl L b fl) (D ++ [d]) (N ++ [.cells b.cs, .cells [.int .i64 d.1, .int .i64 d.2.1, .int .i64 d.2.2]]) (by rw [hq]; simp) (by simpa using hT.next b) (newFl_ok hfl) (by simp; omega)
   refine ⟨M, ?_⟩
   have g3 : D ++ foldD (b :: r) L = D ++ [d] ++ foldD r (tabL L b) := by simp [foldD, hd]
   rw [g3]
   have g4 : dFl (D ++ [d]) = .own := by unfold dFl; rw [if_neg (by simp)]
   have g5 : D.map laV ++ [.agg [.int .i64 d.1, .int .i64 d.2.1, .int .i64 d.2.2]] = (D ++ [d]).map laV := by simp [laV]
   rw [g4] at h2
   simp only [List.length_append, List.length_cons, List.length_nil, Nat.zero_add] at h2
   simp only [optLa, laV, Option.isSome_some] at ta
   unfold Ba.V Ba.cs at *
   refine loop_step l_ref10_Fold_0.eq_1 k_ref10_Fold_0.eq_1 (by kernel_rfl) ?_
   by_cases hD0 : D = []
   ·subst hD0
    have g6 : dFl ([] : List La) = .full := rfl
    rw [g6]
    simp only [List.map_nil, List.nil_append] at g5 h2 ⊢
    simp only [go_sem, h1, e0, e7, e1, ta, n1, n2, apF, List.length_nil, hb0, List.nil_append, e6, reduceCtorEq, ↓reduceIte, Nat.reduceAdd, Nat.reduceEqDiff, Nat.reduceLT, Int.reduceLE, Nat.reduceSub, Nat.reduceLeDiff, Nat.reduceMul, Int.reduceToNat, Int.reduceLT, Int.reduceEq, Int.reduceNeg, Nat.reduceBEq, Nat.reduceBNe]
    rw [g5]
    exact h2
   ·have g6 : dFl D = .own := by unfold dFl; rw [if_neg hD0]
    rw [g6]
    simp only [List.append_assoc, List.cons_append, List.nil_append] at h2 ⊢
    simp only [go_sem, h1, e0, e7, e1, ta, n1, n2, apO, hb, g5, e6, reduceCtorEq, ↓reduceIte, Nat.reduceAdd, Nat.reduceEqDiff, Nat.reduceLT, Int.reduceLE, Nat.reduceSub, Nat.reduceLeDiff, Nat.reduceMul, Int.reduceToNat, Int.reduceLT, Int.reduceEq, Int.reduceNeg, Nat.reduceBEq, Nat.reduceBNe]
    exact h2

theorem fold_spec (A : List Ba) (hA : ∀ b ∈ A, BOK b) (hn : A.length ≤ 1000) (H : Heap) :
  ∃ M, W n_ref10_Fold [.list 7 (A.map Ba.V) .ro] H = some (.tuple [.ptr (pt H 0) 0, .list 3 ((foldD A []).map laV) (dFl (foldD A []))], hx H (tabB (foldL A []) (foldF A [] .full) :: M)) := by
 obtain ⟨M, h⟩ := fold_loop A hA hn H A [] [] .full [] [] rfl ⟨by simp, by simp⟩ (.inr ⟨rfl, rfl⟩) (by simp)
 have g0 : ((([] : List Ba).length : Nat) : Int) = 0 := rfl
 rw [g0, List.nil_append] at h
 refine ⟨M, W_fnS rfl rfl ?_⟩
 simp only [List.map_nil, show dFl ([] : List La) = .full from rfl] at h
 have h' : loopA W loopW (.ghost (.kill k_ref10_Fold_0) l_ref10_Fold_0) [(4, .ptr (pt H 0) 0), (5, .list 3 [] .full), (12, .list 7 (A.map Ba.V) .ro), (13, .int .i64 (A.length : Nat)), (14, .int .i64 0)] (hx H [.cells [.list 4 [] .full]]) = _ := h
 simp only [go_sem, c_ref10_Fold, List.length_map, h', reduceCtorEq, ↓reduceIte, Nat.reduceAdd, Nat.reduceEqDiff, Nat.reduceLT, Int.reduceLE, Nat.reduceSub, Nat.reduceLeDiff, Nat.reduceMul, Int.reduceToNat, Int.reduceLT, Int.reduceEq, Int.reduceNeg, Nat.reduceBEq, Nat.reduceBNe]
end Go.Abs

namespace Go.Abs
open Go Go.RowKit
set_option linter.unusedVariables false
set_option linter.unusedSimpArgs false

/-! ## The model of a partition -/
def countE (b : Ba) : Int := if b.mark = 0 then (b.recs.length : Int) else 1
def endE (start : Int) (L : List Ba) : Int := match L.getLast? with
 | none => start
 | some b => b.base + countE b
/-- Batches as a row has them. -/
structure Fit (b : Ba) : Prop where
 ok : BOK b
 right : rightE b = 0
theorem Fit.base {b : Ba} (h : Fit b) : 0 ≤ b.base ∧ b.base ≤ 1099511627776 := by
 have := h.right
 unfold rightE at this
 split at this
 ·cases this
 ·omega
theorem Fit.count {b : Ba} (h : Fit b) : 0 ≤ countE b ∧ countE b ≤ 16 := by
 have := (rightE_small h.right).1
 unfold countE
 split <;> omega

theorem end_spec (start : Int) (L : List Ba) (hL : ∀ b ∈ L, Fit b) (hn : L.length ≤ 1000) (fl : Fl) (hfl : fl = .ro ∨ (fl = .full ∧ L = [])) (H : Heap) :
  W n_ref14_End [.int .i64 start, .list 7 (L.map Ba.V) .ro] H = some (.int .i64 (endE start L), H) := by
 unfold endE
 rcases List.eq_nil_or_concat L with rfl | ⟨l, b, hl⟩
 ·refine W_fn rfl rfl ?_
  simp only [go_sem, c_ref14_End, List.map_nil, List.length_nil, Int.natCast_zero, List.getLast?_nil, reduceCtorEq, ↓reduceIte, Nat.reduceAdd, Nat.reduceEqDiff, Nat.reduceLT, Int.reduceLE, Nat.reduceSub, Nat.reduceLeDiff, Nat.reduceMul, Int.reduceToNat, Int.reduceLT, Int.reduceEq, Int.reduceNeg, Nat.reduceBEq, Nat.reduceBNe]
 ·have hx : L.getLast? = some b := by rw [hl]; simp
  have hlen : L.length = l.length + 1 := by rw [hl]; simp
  have hb := hL b (by rw [hl]; simp)
  have b1 := hb.base
  have b2 := hb.count
  have h1 : ¬ (L.length : Int) = 0 := by omega
  have w1 : IntKind.i64.wrap ((L.length : Int) - 1) = (l.length : Int) := by rw [wrap_id (by unfold I64; omega)]; omega
  have e0 : (0 : Int) ≤ (l.length : Int) := by omega
  have e7 : ((l.length : Nat) : Int).toNat = l.length := by omega
  have e1 : (L.map Ba.V)[l.length]? = some (.agg [.int .i64 b.base, .int .i64 b.prod, .int .i64 b.epoch, .int .i64 b.seq, .bool b.txn, .int .i64 b.mark, .list 2 (b.recs.map rcV) .ro]) := by rw [hl]; simp [Ba.V, Ba.cs]
  have tc := fun H => ref_count_spec b H
  rw [show (if b.mark = 0 then (b.recs.length : Int) else 1) = countE b from rfl] at tc
  have w2 : IntKind.i64.wrap (b.base + countE b) = b.base + countE b := wrap_id (by unfold I64; omega)
  rw [hx]
  simp only
  unfold Ba.V Ba.cs at tc
  refine W_fn rfl rfl ?_
  simp only [go_sem, c_ref14_End, List.length_map, h1, w1, e0, e7, e1, tc, w2, reduceCtorEq, ↓reduceIte, Nat.reduceAdd, Nat.reduceEqDiff, Nat.reduceLT, Int.reduceLE, Nat.reduceSub, Nat.reduceLeDiff, Nat.reduceMul, Int.reduceToNat, Int.reduceLT, Int.reduceEq, Int.reduceNeg, Nat.reduceBEq, Nat.reduceBNe]

def mdB (cap start : Int) (L : List Ba) (fl : Fl) : Box := .cells [.int .i64 cap, .int .i64 start, .list 7 (L.map Ba.V) fl]
theorem model_end_spec (cap start : Int) (L : List Ba) (hL : ∀ b ∈ L, Fit b) (hn : L.length ≤ 1000) (fl : Fl) (hfl : fl = .own ∨ (fl = .full ∧ L = [])) (i : Nat) (H : Heap) (hi : Old H i (mdB cap start L fl)) :
  W n_ref14_Model_End [.ptr i 0] H = some (.int .i64 (endE start L), H) := by
 have te := fun H => end_spec start L hL hn .ro (.inl rfl) H
 have gj := hi.g
 unfold mdB at gj
 refine W_fn0 rfl rfl ?_
 rcases hfl with rfl | ⟨rfl, rfl⟩
 ·simp only [go_sem, trim_same, c_ref14_Model_End, gj, te, reduceCtorEq, ↓reduceIte, Nat.reduceAdd, Nat.reduceEqDiff, Nat.reduceLT, Int.reduceLE, Nat.reduceSub, Nat.reduceLeDiff, Nat.reduceMul, Int.reduceToNat, Int.reduceLT, Int.reduceEq, Int.reduceNeg, Nat.reduceBEq, Nat.reduceBNe]
 ·simp only [List.map_nil] at te gj
  simp only [go_sem, trim_same, c_ref14_Model_End, gj, te, reduceCtorEq, ↓reduceIte, Nat.reduceAdd, Nat.reduceEqDiff, Nat.reduceLT, Int.reduceLE, Nat.reduceSub, Nat.reduceLeDiff, Nat.reduceMul, Int.reduceToNat, Int.reduceLT, Int.reduceEq, Int.reduceNeg, Nat.reduceBEq, Nat.reduceBNe]

theorem foldF_ok : ∀ (A : List Ba) (L : List Pr) (fl : Fl), (fl = .own ∨ (fl = .full ∧ L = [])) → foldF A L fl = .own ∨ (foldF A L fl = .full ∧ foldL A L = [])
 | [], _, _, h => h
 | b :: A, L, fl, h => foldF_ok A (tabL L b) (newFl L b fl) (newFl_ok h)

theorem producers_spec (cap start : Int) (L : List Ba) (hL : ∀ b ∈ L, Fit b) (hn : L.length ≤ 1000) (fl : Fl) (hfl : fl = .own ∨ (fl = .full ∧ L = [])) (i : Nat) (H : Heap) (hi : Old H i (mdB cap start L fl)) :
  ∃ fl', W n_ref14_Model_Producers [.ptr i 0] H = some (.list 4 ((foldL L []).map Pr.V) fl', H) ∧ (fl' = .ro ∨ fl' = .full) := by
 obtain ⟨M, tf⟩ := fold_spec L (fun b hb => (hL b hb).ok) hn H
 rw [← hx_nil H] at tf
 simp only [hx_nil (hx H []), show pt (hx H []) 0 = pt H 0 by rw [hx_nil], show ∀ L, hx (hx H []) L = hx H L from fun L => by rw [hx_nil]] at tf
 have gj := hi.get
 unfold mdB at gj
 unfold tabB at tf
 rcases foldF_ok L [] .full (.inr ⟨rfl, rfl⟩) with h | ⟨h, h0⟩
 ·rw [h] at tf
  refine ⟨.ro, ?_, .inl rfl⟩
  refine W_fn rfl rfl ?_
  rcases hfl with rfl | ⟨rfl, rfl⟩
  ·simp only [go_sem, c_ref14_Model_Producers, gj, tf, under_prs, reduceCtorEq, ↓reduceIte, Nat.reduceAdd, Nat.reduceEqDiff, Nat.reduceLT, Int.reduceLE, Nat.reduceSub, Nat.reduceLeDiff, Nat.reduceMul, Int.reduceToNat, Int.reduceLT, Int.reduceEq, Int.reduceNeg, Nat.reduceBEq, Nat.reduceBNe]
  ·simp only [List.map_nil] at tf gj
   simp only [go_sem, c_ref14_Model_Producers, gj, tf, under_prs, reduceCtorEq, ↓reduceIte, Nat.reduceAdd, Nat.reduceEqDiff, Nat.reduceLT, Int.reduceLE, Nat.reduceSub, Nat.reduceLeDiff, Nat.reduceMul, Int.reduceToNat, Int.reduceLT, Int.reduceEq, Int.reduceNeg, Nat.reduceBEq, Nat.reduceBNe]
 ·rw [h] at tf
  refine ⟨.full, ?_, .inr rfl⟩
  refine W_fn rfl rfl ?_
  rcases hfl with rfl | ⟨rfl, rfl⟩
  ·simp only [go_sem, c_ref14_Model_Producers, gj, tf, under_prs, reduceCtorEq, ↓reduceIte, Nat.reduceAdd, Nat.reduceEqDiff, Nat.reduceLT, Int.reduceLE, Nat.reduceSub, Nat.reduceLeDiff, Nat.reduceMul, Int.reduceToNat, Int.reduceLT, Int.reduceEq, Int.reduceNeg, Nat.reduceBEq, Nat.reduceBNe]
  ·simp only [List.map_nil] at tf gj
   simp only [go_sem, c_ref14_Model_Producers, gj, tf, under_prs, reduceCtorEq, ↓reduceIte, Nat.reduceAdd, Nat.reduceEqDiff, Nat.reduceLT, Int.reduceLE, Nat.reduceSub, Nat.reduceLeDiff, Nat.reduceMul, Int.reduceToNat, Int.reduceLT, Int.reduceEq, Int.reduceNeg, Nat.reduceBEq, Nat.reduceBNe]
end Go.Abs

namespace Go.Abs
open Go Go.RowKit
set_option linter.unusedVariables false
set_option linter.unusedSimpArgs false

def sizeL : List Ba → Int
 | [] => 0
 | b :: l => sizeE b + sizeL l
theorem sizeE_range {b : Ba} : 0 ≤ sizeE b ∧ sizeE b ≤ 2404 := by
 unfold sizeE
 split
 ·rename_i h
  have := baBytes_len (rightE_small h)
  omega
 ·omega
theorem sizeL_app : ∀ (p r : List Ba), sizeL (p ++ r) = sizeL p + sizeL r
 | [], r => by simp [sizeL]
 | b :: p, r => by simp only [List.cons_append, sizeL, sizeL_app p r]; omega
theorem sizeL_range : ∀ (l : List Ba), 0 ≤ sizeL l ∧ sizeL l ≤ 2404 * l.length
 | [] => by simp [sizeL]
 | b :: l => by
  have h1 := sizeE_range (b := b)
  have h2 := sizeL_range l
  simp only [sizeL, List.length_cons]
  omega

theorem size_loop (A : List Ba) (hA : ∀ b ∈ A, BOK b) (hn : A.length ≤ 1000) (H : Heap) (r : List Ba) : ∀ (q : List Ba) (N : Heap), A = q ++ r →
  ∃ M, loopA W loopW (.ghost (.kill k_ref14_Model_size_0) l_ref14_Model_size_0) [(3, .int .i64 (sizeL q)), (9, .list 7 (A.map Ba.V) .ro), (10, .int .i64 (A.length : Nat)), (11, .int .i64 (q.length : Nat))] (hx H N) =
   some (.exit 0, [(3, .int .i64 (sizeL A))], hx H M) := by
 induction r with
 | nil =>
  intro q N hq
  rw [List.append_nil] at hq
  subst hq
  refine ⟨N, ?_⟩
  have h1 : ¬ ((A.length : Int) < (A.length : Int)) := by omega
  refine loop_step l_ref14_Model_size_0.eq_1 k_ref14_Model_size_0.eq_1 (by kernel_rfl) ?_
  simp only [go_sem, h1, reduceCtorEq, ↓reduceIte, Nat.reduceAdd, Nat.reduceEqDiff, Nat.reduceLT, Int.reduceLE, Nat.reduceSub, Nat.reduceLeDiff, Nat.reduceMul, Int.reduceToNat, Int.reduceLT, Int.reduceEq, Int.reduceNeg, Nat.reduceBEq, Nat.reduceBNe]
 | cons b r ih =>
  intro q N hq
  have hlen : q.length < A.length := by rw [hq]; simp
  have h1 : ((q.length : Int) < (A.length : Int)) := by omega
  have e0 : (0 : Int) ≤ (q.length : Int) := by omega
  have e7 : ((q.length : Nat) : Int).toNat = q.length := by omega
  have e1 : (A.map Ba.V)[q.length]? = some (.agg [.int .i64 b.base, .int .i64 b.prod, .int .i64 b.epoch, .int .i64 b.seq, .bool b.txn, .int .i64 b.mark, .list 2 (b.recs.map rcV) .ro]) := by rw [hq]; simp [Ba.V, Ba.cs]
  have e6 : IntKind.i64.wrap ((q.length : Int) + 1) = ((q.length + 1 : Nat) : Int) := by rw [wrap_id (by unfold I64; omega)]; omega
  have hbo := hA b (by rw [hq]; simp)
  have ts := fun H => ref_size_spec b hbo H
  have r1 := sizeE_range (b := b)
  have r2 := sizeL_range q
  have w1 : IntKind.i64.wrap (sizeL q + sizeE b) = sizeL (q ++ [b]) := by
   rw [sizeL_app, wrap_id (by unfold I64; omega)]; simp [sizeL]
  obtain ⟨M, h2⟩ := ih (q ++ [b]) (N ++ [.cells b.cs]) (by rw [hq]; simp)
  refine ⟨M, ?_⟩
  simp only [List.length_append, List.length_cons, List.length_nil, Nat.zero_add] at h2
  unfold Ba.V Ba.cs at *
  refine loop_step l_ref14_Model_size_0.eq_1 k_ref14_Model_size_0.eq_1 (by kernel_rfl) ?_
  simp only [go_sem, h1, e0, e7, e1, ts, w1, e6, reduceCtorEq, ↓reduceIte, Nat.reduceAdd, Nat.reduceEqDiff, Nat.reduceLT, Int.reduceLE, Nat.reduceSub, Nat.reduceLeDiff, Nat.reduceMul, Int.reduceToNat, Int.reduceLT, Int.reduceEq, Int.reduceNeg, Nat.reduceBEq, Nat.reduceBNe]
  exact h2

theorem size_spec (cap start : Int) (L : List Ba) (hL : ∀ b ∈ L, Fit b) (hn : L.length ≤ 1000) (fl : Fl) (hfl : fl = .own ∨ (fl = .full ∧ L = [])) (i : Nat) (H : Heap) (hi : Old H i (mdB cap start L fl)) :
  W n_ref14_Model_size [.ptr i 0] H = some (.int .i64 (sizeL L), H) := by
 obtain ⟨M, h⟩ := size_loop L (fun b hb => (hL b hb).ok) hn H L [] [] rfl
 have g0 : ((([] : List Ba).length : Nat) : Int) = 0 := rfl
 have g1 : sizeL [] = 0 := rfl
 rw [g0, g1] at h
 have gj := hi.get
 unfold mdB at gj
 refine W_fn rfl rfl ?_
 rcases hfl with rfl | ⟨rfl, rfl⟩
 ·simp only [go_sem, c_ref14_Model_size, gj, List.length_map, h, reduceCtorEq, ↓reduceIte, Nat.reduceAdd, Nat.reduceEqDiff, Nat.reduceLT, Int.reduceLE, Nat.reduceSub, Nat.reduceLeDiff, Nat.reduceMul, Int.reduceToNat, Int.reduceLT, Int.reduceEq, Int.reduceNeg, Nat.reduceBEq, Nat.reduceBNe]
 ·simp only [List.map_nil] at gj
  have h0 : ¬ ((0 : Int) < 0) := by omega
  have hl : loopA W loopW (.ghost (.kill k_ref14_Model_size_0) l_ref14_Model_size_0) [(3, .int .i64 0), (9, .list 7 [] .full), (10, .int .i64 0), (11, .int .i64 0)] (hx H []) = some (.exit 0, [(3, .int .i64 0)], hx H []) := by
   refine loop_step l_ref14_Model_size_0.eq_1 k_ref14_Model_size_0.eq_1 (by kernel_rfl) ?_
   simp only [go_sem, h0, Int.lt_irrefl, reduceCtorEq, ↓reduceIte, Nat.reduceAdd, Nat.reduceEqDiff, Nat.reduceLT, Int.reduceLE, Nat.reduceSub, Nat.reduceLeDiff, Nat.reduceMul, Int.reduceToNat, Int.reduceLT, Int.reduceEq, Int.reduceNeg, Nat.reduceBEq, Nat.reduceBNe]
  simp only [go_sem, c_ref14_Model_size, gj, List.length_nil, Int.natCast_zero, hl, reduceCtorEq, ↓reduceIte, Nat.reduceAdd, Nat.reduceEqDiff, Nat.reduceLT, Int.reduceLE, Nat.reduceSub, Nat.reduceLeDiff, Nat.reduceMul, Int.reduceToNat, Int.reduceLT, Int.reduceEq, Int.reduceNeg, Nat.reduceBEq, Nat.reduceBNe]
  rfl
end Go.Abs

namespace Go.Abs
open Go Go.RowKit
set_option linter.unusedVariables false
set_option linter.unusedSimpArgs false

def putR (cap start : Int) (L : List Ba) (b : Ba) : Int × Int :=
 if (tabCheck (foldL L []) b).2 ≠ 0 then (-1, (tabCheck (foldL L []) b).2)
 else if (tabCheck (foldL L []) b).1 ≥ 0 then ((tabCheck (foldL L []) b).1, 0)
 else if sizeL L + sizeE b > cap then (-1, 17)
 else if endE start L + countE b > 1099511627776 then (-1, 18)
 else (b.base, 0)
def putOK (cap start : Int) (L : List Ba) (b : Ba) : Bool :=
 decide ((tabCheck (foldL L []) b).2 = 0) && (decide ((tabCheck (foldL L []) b).1 < 0) && (decide (sizeL L + sizeE b ≤ cap) && decide (endE start L + countE b ≤ 1099511627776)))

theorem foldL_tk : ∀ (A : List Ba) (L : List Pr) (n : Nat), TK L n → TK (foldL A L) (n + A.length)
 | [], _, _, h => h
 | b :: A, L, n, h => by
  have := foldL_tk A (tabL L b) (n + 1) (h.next b)
  rw [show n + (b :: A).length = n + 1 + A.length by simp; omega]
  exact this

theorem endE_range (start : Int) (L : List Ba) (hL : ∀ b ∈ L, Fit b) (h0 : 0 ≤ start) (h1 : start ≤ 1099511627776) : 0 ≤ endE start L ∧ endE start L ≤ 1099511627792 := by
 unfold endE
 split
 ·omega
 ·rename_i b hb
  have hm := hL b (List.mem_of_getLast? hb)
  have := hm.base
  have := hm.count
  omega

set_option maxHeartbeats 1000000 in
theorem put_no (cap start : Int) (L : List Ba) (hL : ∀ b ∈ L, Fit b) (hn : L.length ≤ 900) (fl : Fl) (hfl : fl = .own ∨ (fl = .full ∧ L = [])) (h0 : 0 ≤ start) (hs1 : start ≤ 1099511627776) (b : Ba) (hb : BOK b) (hr : b.recs.length ≤ 1000)
  (i : Nat) (H : Heap) (hi : Old H i (mdB cap start L fl)) (hc : putOK cap start L b = false) :
  W n_ref14_Model_put [.ptr i 0, b.V] H = some (.tuple [.int .i64 (putR cap start L b).1, .int .i64 (putR cap start L b).2], H) := by
 obtain ⟨M, tf0⟩ := fold_spec L (fun b hb => (hL b hb).ok) (by omega) (hx H [.cells b.cs])
 obtain ⟨T, hT⟩ : ∃ T, tabB (foldL L []) (foldF L [] .full) = T := ⟨_, rfl⟩
 have tf : W n_ref10_Fold [.list 7 (L.map Ba.V) .ro] (hx H [.cells b.cs]) = some (.tuple [.ptr (pt H 1) 0, .list 3 ((foldD L []).map laV) (dFl (foldD L []))], hx H (.cells b.cs :: T :: M)) := by
  rw [tf0, hT]
  simp [hx, pt]
 have hfo := foldF_ok L [] .full (.inr ⟨rfl, rfl⟩)
 have hTK := foldL_tk L [] 0 ⟨by simp, by simp⟩
 have tc := fun M' => tab_check_spec (foldL L []) (hTK.ok (by omega)) (foldF L [] .full) hfo (pt H 1) (hx H (.cells b.cs :: T :: M')) ⟨by rw [hx_get, hT]; rfl⟩ b hb
 have tz := fun M' => size_spec cap start L hL (by omega) fl hfl i (hx H M') ⟨hi.get M'⟩
 have te := fun M' => model_end_spec cap start L hL (by omega) fl hfl i (hx H M') ⟨hi.get M'⟩
 have ts := fun H => ref_size_spec b hb H
 have tn := fun H => ref_count_spec b H
 rw [show (if b.mark = 0 then (b.recs.length : Int) else 1) = countE b from rfl] at tn
 have r1 := sizeE_range (b := b)
 have r2 := sizeL_range L
 have w1 : IntKind.i64.wrap (sizeL L + sizeE b) = sizeL L + sizeE b := wrap_id (by unfold I64; omega)
 have re := endE_range start L hL h0 hs1
 have rc : 0 ≤ countE b ∧ countE b ≤ 1000 := by unfold countE; split <;> omega
 have w2 : IntKind.i64.wrap (endE start L + countE b) = endE start L + countE b := wrap_id (by unfold I64; omega)
 have gj := hi.get
 unfold mdB at gj
 unfold putOK at hc
 unfold putR
 generalize tabCheck (foldL L []) b = R at *
 obtain ⟨ba, er⟩ := R
 obtain ⟨sz, hsz⟩ : ∃ sz, sizeL L + sizeE b = sz := ⟨_, rfl⟩
 obtain ⟨en, hen⟩ : ∃ en, endE start L + countE b = en := ⟨_, rfl⟩
 replace w1 := w1.trans hsz
 replace w2 := w2.trans hen
 simp only [hsz, hen] at hc tc ⊢
 unfold Ba.V Ba.cs at *
 by_cases c1 : er = 0
 ·subst c1
  rw [if_neg (by simp)]
  by_cases c2 : ba ≥ 0
  ·rw [if_pos c2]
   refine W_fn rfl rfl ?_
   rcases hfl with rfl | ⟨rfl, rfl⟩
   ·simp only [go_sem, c_ref14_Model_put, gj, tf, tc, c2, reduceCtorEq, ↓reduceIte, Nat.reduceAdd, Nat.reduceEqDiff, Nat.reduceLT, Int.reduceLE, Nat.reduceSub, Nat.reduceLeDiff, Nat.reduceMul, Int.reduceToNat, Int.reduceLT, Int.reduceEq, Int.reduceNeg, Nat.reduceBEq, Nat.reduceBNe]
   ·simp only [List.map_nil] at gj tf
    simp only [go_sem, c_ref14_Model_put, gj, tf, tc, c2, reduceCtorEq, ↓reduceIte, Nat.reduceAdd, Nat.reduceEqDiff, Nat.reduceLT, Int.reduceLE, Nat.reduceSub, Nat.reduceLeDiff, Nat.reduceMul, Int.reduceToNat, Int.reduceLT, Int.reduceEq, Int.reduceNeg, Nat.reduceBEq, Nat.reduceBNe]
  ·rw [if_neg c2]
   by_cases c3 : sz > cap
   ·rw [if_pos c3]
    refine W_fn rfl rfl ?_
    rcases hfl with rfl | ⟨rfl, rfl⟩
    ·simp only [go_sem, c_ref14_Model_put, gj, tf, tc, c2, tz, ts, w1, c3, reduceCtorEq, ↓reduceIte, Nat.reduceAdd, Nat.reduceEqDiff, Nat.reduceLT, Int.reduceLE, Nat.reduceSub, Nat.reduceLeDiff, Nat.reduceMul, Int.reduceToNat, Int.reduceLT, Int.reduceEq, Int.reduceNeg, Nat.reduceBEq, Nat.reduceBNe]
    ·simp only [List.map_nil] at gj tf
     simp only [go_sem, c_ref14_Model_put, gj, tf, tc, c2, tz, ts, w1, c3, reduceCtorEq, ↓reduceIte, Nat.reduceAdd, Nat.reduceEqDiff, Nat.reduceLT, Int.reduceLE, Nat.reduceSub, Nat.reduceLeDiff, Nat.reduceMul, Int.reduceToNat, Int.reduceLT, Int.reduceEq, Int.reduceNeg, Nat.reduceBEq, Nat.reduceBNe]
   ·rw [if_neg c3]
    have c4 : en > 1099511627776 := by
     simp at hc
     omega
    rw [if_pos c4]
    refine W_fn rfl rfl ?_
    rcases hfl with rfl | ⟨rfl, rfl⟩
    ·simp only [go_sem, c_ref14_Model_put, gj, tf, tc, c2, tz, ts, w1, c3, te, tn, w2, c4, reduceCtorEq, ↓reduceIte, Nat.reduceAdd, Nat.reduceEqDiff, Nat.reduceLT, Int.reduceLE, Nat.reduceSub, Nat.reduceLeDiff, Nat.reduceMul, Int.reduceToNat, Int.reduceLT, Int.reduceEq, Int.reduceNeg, Nat.reduceBEq, Nat.reduceBNe]
    ·simp only [List.map_nil] at gj tf
     simp only [go_sem, c_ref14_Model_put, gj, tf, tc, c2, tz, ts, w1, c3, te, tn, w2, c4, reduceCtorEq, ↓reduceIte, Nat.reduceAdd, Nat.reduceEqDiff, Nat.reduceLT, Int.reduceLE, Nat.reduceSub, Nat.reduceLeDiff, Nat.reduceMul, Int.reduceToNat, Int.reduceLT, Int.reduceEq, Int.reduceNeg, Nat.reduceBEq, Nat.reduceBNe]
 ·rw [if_pos c1]
  refine W_fn rfl rfl ?_
  rcases hfl with rfl | ⟨rfl, rfl⟩
  ·simp only [go_sem, c_ref14_Model_put, gj, tf, tc, c1, reduceCtorEq, ↓reduceIte, Nat.reduceAdd, Nat.reduceEqDiff, Nat.reduceLT, Int.reduceLE, Nat.reduceSub, Nat.reduceLeDiff, Nat.reduceMul, Int.reduceToNat, Int.reduceLT, Int.reduceEq, Int.reduceNeg, Nat.reduceBEq, Nat.reduceBNe]
  ·simp only [List.map_nil] at gj tf
   simp only [go_sem, c_ref14_Model_put, gj, tf, tc, c1, reduceCtorEq, ↓reduceIte, Nat.reduceAdd, Nat.reduceEqDiff, Nat.reduceLT, Int.reduceLE, Nat.reduceSub, Nat.reduceLeDiff, Nat.reduceMul, Int.reduceToNat, Int.reduceLT, Int.reduceEq, Int.reduceNeg, Nat.reduceBEq, Nat.reduceBNe]
end Go.Abs

namespace Go.Abs
open Go Go.RowKit
set_option linter.unusedVariables false
set_option linter.unusedSimpArgs false

set_option maxHeartbeats 1000000 in
theorem put_yes (cap start : Int) (L : List Ba) (hL : ∀ b ∈ L, Fit b) (hn : L.length ≤ 900) (fl : Fl) (hfl : fl = .own ∨ (fl = .full ∧ L = [])) (h0 : 0 ≤ start) (hs1 : start ≤ 1099511627776) (b : Ba) (hb : BOK b) (hr : b.recs.length ≤ 1000)
  (i : Nat) (H : Heap) (hi : Old H i (mdB cap start L fl)) (hc : putOK cap start L b = true) :
  W n_ref14_Model_put [.ptr i 0, b.V] H = some (.tuple [.int .i64 b.base, .int .i64 0], H.set i (mdB cap start (L ++ [b]) .own)) := by
 obtain ⟨M, tf0⟩ := fold_spec L (fun b hb => (hL b hb).ok) (by omega) (hx H [.cells b.cs])
 obtain ⟨T, hT⟩ : ∃ T, tabB (foldL L []) (foldF L [] .full) = T := ⟨_, rfl⟩
 have tf : W n_ref10_Fold [.list 7 (L.map Ba.V) .ro] (hx H [.cells b.cs]) = some (.tuple [.ptr (pt H 1) 0, .list 3 ((foldD L []).map laV) (dFl (foldD L []))], hx H (.cells b.cs :: T :: M)) := by
  rw [tf0, hT]
  simp [hx, pt]
 have hfo := foldF_ok L [] .full (.inr ⟨rfl, rfl⟩)
 have hTK := foldL_tk L [] 0 ⟨by simp, by simp⟩
 have tc := fun M' => tab_check_spec (foldL L []) (hTK.ok (by omega)) (foldF L [] .full) hfo (pt H 1) (hx H (.cells b.cs :: T :: M')) ⟨by rw [hx_get, hT]; rfl⟩ b hb
 have tz := fun M' => size_spec cap start L hL (by omega) fl hfl i (hx H M') ⟨hi.get M'⟩
 have te := fun M' => model_end_spec cap start L hL (by omega) fl hfl i (hx H M') ⟨hi.get M'⟩
 have ts := fun H => ref_size_spec b hb H
 have tn := fun H => ref_count_spec b H
 rw [show (if b.mark = 0 then (b.recs.length : Int) else 1) = countE b from rfl] at tn
 have r1 := sizeE_range (b := b)
 have r2 := sizeL_range L
 have w1 : IntKind.i64.wrap (sizeL L + sizeE b) = sizeL L + sizeE b := wrap_id (by unfold I64; omega)
 have re := endE_range start L hL h0 hs1
 have rc : 0 ≤ countE b ∧ countE b ≤ 1000 := by unfold countE; split <;> omega
 have w2 : IntKind.i64.wrap (endE start L + countE b) = endE start L + countE b := wrap_id (by unfold I64; omega)
 have gj := hi.get
 have gs := hi.set
 have gj' := hi.get'
 have gs' := hi.set'
 unfold mdB at gj gs gj' gs' ⊢
 unfold putOK at hc
 generalize tabCheck (foldL L []) b = R at *
 obtain ⟨ba, er⟩ := R
 obtain ⟨sz, hsz⟩ : ∃ sz, sizeL L + sizeE b = sz := ⟨_, rfl⟩
 obtain ⟨en, hen⟩ : ∃ en, endE start L + countE b = en := ⟨_, rfl⟩
 replace w1 := w1.trans hsz
 replace w2 := w2.trans hen
 simp only [hsz, hen] at hc tc
 have d : er = 0 ∧ ba < 0 ∧ sz ≤ cap ∧ en ≤ 1099511627776 := by simpa using hc
 obtain ⟨rfl, d2, d3, d4⟩ := d
 have c2 : ¬ ba ≥ 0 := by omega
 have c3 : ¬ sz > cap := by omega
 have c4 : ¬ en > 1099511627776 := by omega
 have b1 : b.recs.length * 32 ≤ maxBytes := by simp only [maxBytes]; omega
 have b1' : (0 + b.recs.length) * 32 ≤ maxBytes := by simp only [maxBytes]; omega
 have b2 : L.length * 72 ≤ maxBytes := by simp only [maxBytes]; omega
 have b2' : (0 + L.length) * 72 ≤ maxBytes := by simp only [maxBytes]; omega
 have b3 : (L.length + 1) * 72 ≤ maxBytes := by simp only [maxBytes]; omega
 have a1 : L.map Ba.V ++ [.agg [.int .i64 b.base, .int .i64 b.prod, .int .i64 b.epoch, .int .i64 b.seq, .bool b.txn, .int .i64 b.mark, .list 2 (b.recs.map rcV) .ro]] = (L ++ [b]).map Ba.V := by simp [Ba.V, Ba.cs]
 have fb : Box.flatB (.cells [.int .i64 cap, .int .i64 start, .list 7 ((L ++ [b]).map Ba.V) .own]) = true := by
  have u : ∀ (l : List Ba), AVal.underL 0 (l.map Ba.V) = true := by
   intro l
   induction l with
   | nil => rfl
   | cons x l ih => simp [Ba.V, Ba.cs, AVal.underL, AVal.under, under_rc, ih]
  simp only [Box.flatB, AVal.underL, AVal.under, u, Bool.and_self]
 unfold Ba.V Ba.cs at *
 refine W_fnS rfl rfl ?_
 rcases hfl with rfl | ⟨rfl, rfl⟩
 ·simp only [go_sem, c_ref14_Model_put, gj, gs, gj', gs', tf, tc, c2, tz, ts, w1, c3, te, tn, w2, c4, apF, apO, List.length_nil, List.length_map, Nat.zero_add, List.nil_append, b1, b2, b3, a1, fb, reduceCtorEq, ↓reduceIte, Nat.reduceAdd, Nat.reduceEqDiff, Nat.reduceLT, Int.reduceLE, Nat.reduceSub, Nat.reduceLeDiff, Nat.reduceMul, Int.reduceToNat, Int.reduceLT, Int.reduceEq, Int.reduceNeg, Nat.reduceBEq, Nat.reduceBNe]
 ·simp only [List.map_nil, List.nil_append, List.map_cons] at gj gs gj' gs' tf fb ⊢
  have b5 : (0 + 0) * 72 ≤ maxBytes := by decide
  have b6 : (0 + 1) * 72 ≤ maxBytes := by decide
  simp only [go_sem, c_ref14_Model_put, gj, gs, gj', gs', tf, tc, c2, tz, ts, w1, c3, te, tn, w2, c4, apF, apO, List.length_nil, List.length_map, Nat.zero_add, List.nil_append, b1, b5, b6, fb, reduceCtorEq, ↓reduceIte, Nat.reduceAdd, Nat.reduceEqDiff, Nat.reduceLT, Int.reduceLE, Nat.reduceSub, Nat.reduceLeDiff, Nat.reduceMul, Int.reduceToNat, Int.reduceLT, Int.reduceEq, Int.reduceNeg, Nat.reduceBEq, Nat.reduceBNe]
end Go.Abs

namespace Go.Abs
open Go Go.RowKit
set_option linter.unusedVariables false
set_option linter.unusedSimpArgs false

theorem under_bas (n : Nat) : ∀ (l : List Ba), AVal.underL n (l.map Ba.V) = true
 | [] => rfl
 | x :: l => by simp [Ba.V, Ba.cs, AVal.underL, AVal.under, under_rc, under_bas n l]
theorem mdB_flat (cap start L fl) : (mdB cap start L fl).flatB = true := by
 simp only [mdB, Box.flatB, AVal.underL, AVal.under, under_bas, Bool.and_self]

def atEnd (start : Int) (L : List Ba) (b : Ba) : Ba := { b with base := endE start L }
def prodOK (cap start : Int) (L : List Ba) (b : Ba) : Bool :=
 decide (rightE (atEnd start L b) = 0) && (decide (b.mark = 0) && putOK cap start L (atEnd start L b))
def prodL (cap start : Int) (L : List Ba) (b : Ba) : List Ba := if prodOK cap start L b = true then L ++ [atEnd start L b] else L
def prodF (cap start : Int) (L : List Ba) (b : Ba) (fl : Fl) : Fl := if prodOK cap start L b = true then .own else fl

theorem produce_spec (cap start : Int) (L : List Ba) (hL : ∀ b ∈ L, Fit b) (hn : L.length ≤ 900) (fl : Fl) (hfl : fl = .own ∨ (fl = .full ∧ L = [])) (h0 : 0 ≤ start) (hs1 : start ≤ 1099511627776) (b : Ba) (hb : BOK b) (hr : b.recs.length ≤ 1000)
  (i : Nat) (H : Heap) (hi : Old H i (mdB cap start L fl)) :
  ∃ x y, W n_ref14_Model_Produce [.ptr i 0, b.V] H = some (.tuple [.int .i64 x, .int .i64 y], H.set i (mdB cap start (prodL cap start L b) (prodF cap start L b fl))) := by
 have re := endE_range start L hL h0 hs1
 obtain ⟨b', hb'⟩ : ∃ b', atEnd start L b = b' := ⟨_, rfl⟩
 have hbo : BOK b' := by
  rw [← hb']
  exact ⟨by unfold I64 atEnd; simp only; omega, hb.prod, hb.epoch, hb.seq, hb.mark⟩
 have hrr : b'.recs.length ≤ 1000 := by rw [← hb']; exact hr
 have f1 : b'.base = endE start L := by rw [← hb']; rfl
 have f2 : b'.prod = b.prod := by rw [← hb']; rfl
 have f3 : b'.epoch = b.epoch := by rw [← hb']; rfl
 have f4 : b'.seq = b.seq := by rw [← hb']; rfl
 have f5 : b'.txn = b.txn := by rw [← hb']; rfl
 have f6 : b'.mark = b.mark := by rw [← hb']; rfl
 have f7 : b'.recs = b.recs := by rw [← hb']; rfl
 have te := fun M' => model_end_spec cap start L hL (by omega) fl hfl i (hx H M') ⟨hi.get M'⟩
 have tr := fun H => ref_right_spec b' hbo H
 have tn := fun M' => put_no cap start L hL hn fl hfl h0 hs1 b' hbo hrr i (hx H M') ⟨hi.get M'⟩
 have ty := fun M' => put_yes cap start L hL hn fl hfl h0 hs1 b' hbo hrr i (hx H M') ⟨hi.get M'⟩
 have gs := hi.set
 have hsame := hi.same
 unfold prodL prodF prodOK
 rw [hb']
 unfold Ba.V Ba.cs at *
 rw [f1, f2, f3, f4, f5, f6, f7] at tr tn ty
 by_cases c1 : rightE b' = 0
 ·rw [c1] at tr
  have d1 : decide (rightE b' = 0) = true := decide_eq_true c1
  by_cases c2 : b.mark = 0
  ·have d2 : decide (b.mark = 0) = true := decide_eq_true c2
   cases c3 : putOK cap start L b' with
   | false =>
    have tn' := fun M' => tn M' c3
    simp only [d1, d2, Bool.and_false, Bool.false_eq_true, if_false, hsame]
    refine ⟨(putR cap start L b').1, (putR cap start L b').2, ?_⟩
    refine W_fn rfl rfl ?_
    simp only [go_sem, c_ref14_Model_Produce, te, tr, tn', eq_true c2, reduceCtorEq, ↓reduceIte, Nat.reduceAdd, Nat.reduceEqDiff, Nat.reduceLT, Int.reduceLE, Nat.reduceSub, Nat.reduceLeDiff, Nat.reduceMul, Int.reduceToNat, Int.reduceLT, Int.reduceEq, Int.reduceNeg, Nat.reduceBEq, Nat.reduceBNe]
   | true =>
    have ty' := fun M' => ty M' c3
    simp only [gs] at ty'
    simp only [d1, d2, Bool.and_true, if_true]
    refine ⟨endE start L, 0, ?_⟩
    refine W_fnS rfl rfl ?_
    simp only [go_sem, c_ref14_Model_Produce, te, tr, ty', eq_true c2, mdB_flat, reduceCtorEq, ↓reduceIte, Nat.reduceAdd, Nat.reduceEqDiff, Nat.reduceLT, Int.reduceLE, Nat.reduceSub, Nat.reduceLeDiff, Nat.reduceMul, Int.reduceToNat, Int.reduceLT, Int.reduceEq, Int.reduceNeg, Nat.reduceBEq, Nat.reduceBNe]
  ·simp only [c1, c2, decide_true, decide_false, Bool.and_false, Bool.false_and, Bool.false_eq_true, if_false, hsame]
   refine ⟨-1, 16, ?_⟩
   refine W_fn rfl rfl ?_
   simp only [go_sem, c_ref14_Model_Produce, te, tr, c2, reduceCtorEq, ↓reduceIte, Nat.reduceAdd, Nat.reduceEqDiff, Nat.reduceLT, Int.reduceLE, Nat.reduceSub, Nat.reduceLeDiff, Nat.reduceMul, Int.reduceToNat, Int.reduceLT, Int.reduceEq, Int.reduceNeg, Nat.reduceBEq, Nat.reduceBNe]
 ·simp only [c1, decide_false, Bool.false_and, Bool.false_eq_true, if_false, hsame]
  refine ⟨-1, rightE b', ?_⟩
  refine W_fn rfl rfl ?_
  simp only [go_sem, c_ref14_Model_Produce, te, tr, c1, reduceCtorEq, ↓reduceIte, Nat.reduceAdd, Nat.reduceEqDiff, Nat.reduceLT, Int.reduceLE, Nat.reduceSub, Nat.reduceLeDiff, Nat.reduceMul, Int.reduceToNat, Int.reduceLT, Int.reduceEq, Int.reduceNeg, Nat.reduceBEq, Nat.reduceBNe]

def markB (start : Int) (L : List Ba) (prod epoch mark : Int) : Ba := ⟨endE start L, prod, epoch, -1, true, mark, []⟩
def markOK (cap start : Int) (L : List Ba) (prod epoch mark : Int) : Bool := !decide (mark = 0) && putOK cap start L (markB start L prod epoch mark)
def markL (cap start : Int) (L : List Ba) (prod epoch mark : Int) : List Ba := if markOK cap start L prod epoch mark = true then L ++ [markB start L prod epoch mark] else L
def markF (cap start : Int) (L : List Ba) (prod epoch mark : Int) (fl : Fl) : Fl := if markOK cap start L prod epoch mark = true then .own else fl

theorem mark_spec (cap start : Int) (L : List Ba) (hL : ∀ b ∈ L, Fit b) (hn : L.length ≤ 900) (fl : Fl) (hfl : fl = .own ∨ (fl = .full ∧ L = [])) (h0 : 0 ≤ start) (hs1 : start ≤ 1099511627776) (prod epoch mark : Int) (hp : I64 prod) (he : I64 epoch) (hm : I64 mark)
  (i : Nat) (H : Heap) (hi : Old H i (mdB cap start L fl)) :
  ∃ x y, W n_ref14_Model_Mark [.ptr i 0, .int .i64 prod, .int .i64 epoch, .int .i64 mark] H = some (.tuple [.int .i64 x, .int .i64 y], H.set i (mdB cap start (markL cap start L prod epoch mark) (markF cap start L prod epoch mark fl))) := by
 have re := endE_range start L hL h0 hs1
 obtain ⟨b', hb'⟩ : ∃ b', markB start L prod epoch mark = b' := ⟨_, rfl⟩
 have hbo : BOK b' := by
  rw [← hb']
  exact ⟨by unfold I64 markB; simp only; omega, hp, he, by unfold I64 markB; simp only; omega, hm⟩
 have te := fun M' => model_end_spec cap start L hL (by omega) fl hfl i (hx H M') ⟨hi.get M'⟩
 have hrr : b'.recs.length ≤ 1000 := by rw [← hb']; simp [markB]
 have tn := fun M' => put_no cap start L hL hn fl hfl h0 hs1 b' hbo hrr i (hx H M') ⟨hi.get M'⟩
 have ty := fun M' => put_yes cap start L hL hn fl hfl h0 hs1 b' hbo hrr i (hx H M') ⟨hi.get M'⟩
 have gs := hi.set
 have hsame := hi.same
 unfold markL markF markOK
 rw [hb']
 have hv : b'.V = .agg [.int .i64 (endE start L), .int .i64 prod, .int .i64 epoch, .int .i64 (-1), .bool true, .int .i64 mark, .list 2 [] .ro] := by rw [← hb']; rfl
 have hba : b'.base = endE start L := by rw [← hb']; rfl
 rw [hv] at tn ty
 rw [hba] at ty
 by_cases c2 : mark = 0
 ·have d2 : decide (mark = 0) = true := decide_eq_true c2
  simp only [d2, Bool.not_true, Bool.false_and, Bool.false_eq_true, if_false, hsame]
  refine ⟨-1, 12, ?_⟩
  refine W_fn rfl rfl ?_
  simp only [go_sem, c_ref14_Model_Mark, eq_true c2, reduceCtorEq, ↓reduceIte, Nat.reduceAdd, Nat.reduceEqDiff, Nat.reduceLT, Int.reduceLE, Nat.reduceSub, Nat.reduceLeDiff, Nat.reduceMul, Int.reduceToNat, Int.reduceLT, Int.reduceEq, Int.reduceNeg, Nat.reduceBEq, Nat.reduceBNe]
 ·have d2 : decide (mark = 0) = false := decide_eq_false c2
  cases c3 : putOK cap start L b' with
  | false =>
   have tn' := fun M' => tn M' c3
   simp only [d2, Bool.not_false, Bool.and_false, Bool.false_eq_true, if_false, hsame]
   refine ⟨(putR cap start L b').1, (putR cap start L b').2, ?_⟩
   refine W_fn rfl rfl ?_
   simp only [go_sem, c_ref14_Model_Mark, te, tn', c2, reduceCtorEq, ↓reduceIte, Nat.reduceAdd, Nat.reduceEqDiff, Nat.reduceLT, Int.reduceLE, Nat.reduceSub, Nat.reduceLeDiff, Nat.reduceMul, Int.reduceToNat, Int.reduceLT, Int.reduceEq, Int.reduceNeg, Nat.reduceBEq, Nat.reduceBNe]
  | true =>
   have ty' := fun M' => ty M' c3
   simp only [gs] at ty'
   simp only [d2, Bool.not_false, Bool.and_self, if_true]
   refine ⟨endE start L, 0, ?_⟩
   refine W_fnS rfl rfl ?_
   simp only [go_sem, c_ref14_Model_Mark, te, ty', c2, mdB_flat, reduceCtorEq, ↓reduceIte, Nat.reduceAdd, Nat.reduceEqDiff, Nat.reduceLT, Int.reduceLE, Nat.reduceSub, Nat.reduceLeDiff, Nat.reduceMul, Int.reduceToNat, Int.reduceLT, Int.reduceEq, Int.reduceNeg, Nat.reduceBEq, Nat.reduceBNe]
end Go.Abs

namespace Go.Abs
open Go Go.RowKit
set_option linter.unusedVariables false
set_option linter.unusedSimpArgs false

theorem Old.other {H i j B} (h : Old H j B) (hij : i ≠ j) (B') : Old (H.set i B') j B := ⟨by rw [List.getElem?_set_ne hij]; exact h.g⟩

/-! ## What stands in a table is whole -/
structure PrOK (p : Pr) : Prop where
 id : I64 p.id
 epoch : I64 p.epoch
 open_ : I64 p.open_
 last : ∀ x ∈ p.last, I64 x.1 ∧ I64 x.2.1 ∧ I64 x.2.2
theorem lastS_i64 (n c : Int) : I64 (lastS n c) := by
 unfold lastS
 split
 ·exact i64_c (by omega) (by omega)
 ·unfold addS
  split
  ·exact i64_c (by omega) (by omega)
  ·exact i64_c (by omega) (by omega)
theorem zeroPr_ok : PrOK zeroPr := ⟨i64_c (by decide) (by decide), i64_c (by decide) (by decide), i64_c (by decide) (by decide), by simp [zeroPr]⟩
theorem applyP_ok {p : Pr} (h : PrOK p) (known : Bool) {b : Ba} (hb : BOK b) : PrOK (applyP p known b) := by
 have hl : ∀ x ∈ lastsP p known b, I64 x.1 ∧ I64 x.2.1 ∧ I64 x.2.2 := by
  unfold lastsP
  split
  ·exact h.last
  ·simp
 have ho : I64 (openP p known) := by
  unfold openP
  split
  ·exact h.open_
  ·exact i64_c (by decide) (by decide)
 unfold applyP
 split
 ·exact ⟨hb.prod, hb.epoch, show I64 (-1) from i64_c (by decide) (by decide), hl⟩
 ·refine ⟨hb.prod, hb.epoch, ?_, ?_⟩
  ·simp only; split
   ·exact hb.base
   ·exact ho
  ·intro x hx
   have hx' := List.mem_of_mem_drop hx
   unfold newL at hx'
   rw [List.mem_append] at hx'
   rcases hx' with hx' | hx'
   ·exact hl x hx'
   ·simp only [List.mem_cons, List.not_mem_nil, or_false] at hx'
    rw [hx']
    exact ⟨hb.seq, lastS_i64 _ _, hb.base⟩
theorem tabL_ok {L : List Pr} (h : ∀ p ∈ L, PrOK p) {b : Ba} (hb : BOK b) : ∀ p ∈ tabL L b, PrOK p := by
 unfold tabL
 split
 ·exact h
 ·split
  ·rename_i p hp
   intro q hq
   rcases List.mem_or_eq_of_mem_set hq with hq | rfl
   ·exact h q hq
   ·exact applyP_ok (h p (atP_mem hp).1) true hb
  ·intro q hq
   simp only [List.append_assoc, List.mem_append, List.mem_cons, List.not_mem_nil, or_false] at hq
   rcases hq with hq | rfl | hq
   ·exact h q (List.mem_of_mem_take hq)
   ·exact applyP_ok zeroPr_ok false hb
   ·exact h q (List.mem_of_mem_drop hq)
theorem foldL_ok : ∀ (A : List Ba) (L : List Pr), (∀ b ∈ A, BOK b) → (∀ p ∈ L, PrOK p) → ∀ p ∈ foldL A L, PrOK p
 | [], _, _, h => h
 | b :: A, L, hA, h => foldL_ok A (tabL L b) (fun x hx => hA x (List.mem_cons_of_mem _ hx)) (tabL_ok h (hA b List.mem_cons_self))
theorem foldL_TK : ∀ (A : List Ba) (L : List Pr) (n : Nat), TK L n → TK (foldL A L) (n + A.length)
 | [], _, _, h => h
 | b :: A, L, n, h => by
  have := foldL_TK A (tabL L b) (n + 1) (h.next b)
  rw [show n + (b :: A).length = n + 1 + A.length by simp only [List.length_cons]; omega]
  exact this

/-! ## Ask -/
def seqAsk (p : Pr) : Int := match p.last.getLast? with
 | some x => (x.2.1 + 1) % 2147483648
 | none => 0
def askData (l : List Int) (b : Ba) (p : Pr) (a : Nat) : Ba × Nat :=
 let b1 : Ba := { b with epoch := p.epoch, seq := seqAsk p, txn := decide (p.open_ ≥ 0) || b.txn }
 if p.last = [] then (b1, a)
 else if nextV l a 7 = 0 then ({ b1 with seq := (p.last.getD (nextV l (nextA l a 7) p.last.length).toNat (0, 0, 0)).1 }, nextA l (nextA l a 7) p.last.length)
 else (b1, nextA l a 7)
def askStep (l : List Int) (s : Ba × Nat) (p : Pr) : Ba × Nat :=
 if p.id ≠ s.1.prod then s
 else if s.1.mark ≠ 0 then ({ s.1 with epoch := p.epoch }, s.2)
 else askData l s.1 p s.2
def askB (l : List Int) (L : List Ba) (a : Nat) : Ba × Nat :=
 let s := tapeBatch l 0 a
 if s.1.prod < 0 then s
 else if nextV l s.2 8 = 0 then (s.1, nextA l s.2 8)
 else (foldL L []).foldl (askStep l) (s.1, nextA l s.2 8)

/-- What is known of what is asked for. -/
structure AskOK (l : List Int) (s : Ba × Nat) : Prop where
 bok : BOK s.1
 at_ : s.2 ≤ l.length
 recs : s.1.recs.length ≤ 16
theorem askData_ok {l b p a} (hl : l.length ≤ 70368744177664) (h : AskOK l (b, a)) (hp : PrOK p) (hn : p.last.length ≤ 5) : AskOK l (askData l b p a) := by
 have hs : I64 (seqAsk p) := by
  unfold seqAsk
  split
  ·exact i64_c (by omega) (by omega)
  ·exact i64_c (by omega) (by omega)
 have h1 := nextA_le (n := 7) h.at_
 unfold askData
 simp only
 split
 ·exact ⟨⟨h.bok.base, h.bok.prod, hp.epoch, hs, h.bok.mark⟩, h.at_, h.recs⟩
 ·rename_i hne
  split
  ·refine ⟨⟨h.bok.base, h.bok.prod, hp.epoch, ?_, h.bok.mark⟩, nextA_le h1, h.recs⟩
   simp only
   have hpos : 0 < p.last.length := List.length_pos_iff.2 hne
   have r := nextV_range (l := l) (a := nextA l a 7) (n := p.last.length) (by omega) (by omega)
   rw [List.getD_eq_getElem?_getD]
   have : (nextV l (nextA l a 7) p.last.length).toNat < p.last.length := by omega
   rw [List.getElem?_eq_getElem this]
   exact (hp.last _ (List.getElem_mem this)).1
  ·exact ⟨⟨h.bok.base, h.bok.prod, hp.epoch, hs, h.bok.mark⟩, h1, h.recs⟩
theorem askStep_ok {l s p} (hl : l.length ≤ 70368744177664) (h : AskOK l s) (hp : PrOK p) (hn : p.last.length ≤ 5) : AskOK l (askStep l s p) := by
 unfold askStep
 split
 ·exact h
 ·split
  ·exact ⟨⟨h.bok.base, h.bok.prod, hp.epoch, h.bok.seq, h.bok.mark⟩, h.at_, h.recs⟩
  ·exact askData_ok hl h hp hn
theorem askFold_ok {l} (hl : l.length ≤ 70368744177664) : ∀ (P : List Pr) (s : Ba × Nat), AskOK l s → (∀ p ∈ P, PrOK p ∧ p.last.length ≤ 5) → AskOK l (P.foldl (askStep l) s)
 | [], _, h, _ => h
 | p :: P, s, h, hP => askFold_ok hl P (askStep l s p) (askStep_ok hl h (hP p List.mem_cons_self).1 (hP p List.mem_cons_self).2) (fun q hq => hP q (List.mem_cons_of_mem _ hq))
end Go.Abs

namespace Go.Abs
open Go Go.RowKit
set_option linter.unusedVariables false
set_option linter.unusedSimpArgs false

set_option maxHeartbeats 2000000 in
theorem ask_loop (l : List Int) (hl : l.length ≤ 70368744177664) (P : List Pr) (hP : ∀ p ∈ P, PrOK p ∧ p.last.length ≤ 5) (hn : P.length ≤ 1000000) (fl : Fl) (hfl : fl = .ro ∨ fl = .full) (i : Nat) (X : Box) (r : List Pr) : ∀ (q : List Pr) (s : Ba × Nat) (G N : Heap), P = q ++ r → AskOK l s → Old G i (tapeB l s.2) →
  ∃ M, loopA W loopW (.ghost (.kill k_keep_Tape_Ask_0) l_keep_Tape_Ask_0) [(0, .ptr i 0), (4, .ptr (pt G 0) 0), (5, .ptr (pt G 1) 0), (22, .list 4 (P.map Pr.V) fl), (23, .int .i64 (P.length : Nat)), (24, .int .i64 (q.length : Nat))] (hx G (X :: .cells s.1.cs :: N)) =
   some (.exit 0, [(4, .ptr (pt G 0) 0), (5, .ptr (pt G 1) 0)], hx (G.set i (tapeB l (r.foldl (askStep l) s).2)) (X :: .cells (r.foldl (askStep l) s).1.cs :: M)) := by
 induction r with
 | nil =>
  intro q s G N hq hs hi
  rw [List.append_nil] at hq
  subst hq
  refine ⟨N, ?_⟩
  have h1 : ¬ ((P.length : Int) < (P.length : Int)) := by omega
  rw [List.foldl_nil, hi.same]
  refine loop_step l_keep_Tape_Ask_0.eq_1 k_keep_Tape_Ask_0.eq_1 (by kernel_rfl) ?_
  simp only [go_sem, h1, reduceCtorEq, ↓reduceIte, Nat.reduceAdd, Nat.reduceEqDiff, Nat.reduceLT, Int.reduceLE, Nat.reduceSub, Nat.reduceLeDiff, Nat.reduceMul, Int.reduceToNat, Int.reduceLT, Int.reduceEq, Int.reduceNeg, Nat.reduceBEq, Nat.reduceBNe]
 | cons p r ih =>
  intro q s G N hq hs hi
  obtain ⟨b, a⟩ := s
  have hlen : q.length < P.length := by rw [hq]; simp
  have h1 : ((q.length : Int) < (P.length : Int)) := by omega
  have e0 : (0 : Int) ≤ (q.length : Int) := by omega
  have e7 : ((q.length : Nat) : Int).toNat = q.length := by omega
  have e1 : (P.map Pr.V)[q.length]? = some (.agg [.int .i64 p.id, .int .i64 p.epoch, .list 3 (p.last.map laV) .ro, .int .i64 p.open_]) := by rw [hq]; simp [Pr.V, Pr.cs]
  have e6 : IntKind.i64.wrap ((q.length : Int) + 1) = ((q.length + 1 : Nat) : Int) := by rw [wrap_id (by unfold I64; omega)]; omega
  obtain ⟨hp, hp5⟩ := hP p (by rw [hq]; simp)
  have hs' := askStep_ok hl hs hp hp5
  rw [List.foldl_cons]
  have step := fun (s' : Ba × Nat) (e : askStep l (b, a) p = s') (N' : Heap) => ih (q ++ [p]) s' (G.set i (tapeB l s'.2)) N' (by rw [hq]; simp) (by rw [← e]; exact hs') (hi.step _)
  simp only [List.length_append, List.length_cons, List.length_nil, Nat.zero_add, pt_set, List.set_set] at step
  have hi' := hi.same
  simp only at hi hi' hs
  by_cases c0 : p.id = b.prod
  ·by_cases c1 : b.mark = 0
   ·have hst : askStep l (b, a) p = askData l b p a := by unfold askStep; rw [if_neg (by simpa using c0), if_neg (by simpa using c1)]
    rw [hst] at step ⊢
    rcases List.eq_nil_or_concat p.last with hl0 | ⟨l', x, hl0⟩
    ·have hq0 : seqAsk p = 0 := by unfold seqAsk; rw [hl0]; rfl
     by_cases c3 : p.open_ ≥ 0
     ·have e : askData l b p a = ({ b with epoch := p.epoch, seq := 0, txn := true }, a) := by
       unfold askData; rw [if_pos hl0, hq0, decide_eq_true c3, Bool.true_or]
      rw [e]
      obtain ⟨M, h2⟩ := step _ e (N ++ [.cells p.cs])
      refine ⟨M, ?_⟩
      simp only [hi'] at h2
      unfold Ba.cs Pr.cs at *
      rw [hl0, List.map_nil] at h2 e1
      refine loop_step l_keep_Tape_Ask_0.eq_1 k_keep_Tape_Ask_0.eq_1 (by kernel_rfl) ?_
      rcases hfl with rfl | rfl
      ·simp only [go_sem, h1, e0, e7, e1, eq_true c0, eq_true c1, e6, List.length_nil, Int.natCast_zero, gt_iff_lt, Int.lt_irrefl, c3, reduceCtorEq, ↓reduceIte, Nat.reduceAdd, Nat.reduceEqDiff, Nat.reduceLT, Int.reduceLE, Nat.reduceSub, Nat.reduceLeDiff, Nat.reduceMul, Int.reduceToNat, Int.reduceLT, Int.reduceEq, Int.reduceNeg, Nat.reduceBEq, Nat.reduceBNe]
       exact h2
      ·simp only [go_sem, h1, e0, e7, e1, eq_true c0, eq_true c1, e6, List.length_nil, Int.natCast_zero, gt_iff_lt, Int.lt_irrefl, c3, reduceCtorEq, ↓reduceIte, Nat.reduceAdd, Nat.reduceEqDiff, Nat.reduceLT, Int.reduceLE, Nat.reduceSub, Nat.reduceLeDiff, Nat.reduceMul, Int.reduceToNat, Int.reduceLT, Int.reduceEq, Int.reduceNeg, Nat.reduceBEq, Nat.reduceBNe]
       exact h2
     ·have e : askData l b p a = ({ b with epoch := p.epoch, seq := 0 }, a) := by
       unfold askData; rw [if_pos hl0, hq0, decide_eq_false c3, Bool.false_or]
      rw [e]
      obtain ⟨M, h2⟩ := step _ e (N ++ [.cells p.cs])
      refine ⟨M, ?_⟩
      simp only [hi'] at h2
      unfold Ba.cs Pr.cs at *
      rw [hl0, List.map_nil] at h2 e1
      refine loop_step l_keep_Tape_Ask_0.eq_1 k_keep_Tape_Ask_0.eq_1 (by kernel_rfl) ?_
      rcases hfl with rfl | rfl
      ·simp only [go_sem, h1, e0, e7, e1, eq_true c0, eq_true c1, e6, List.length_nil, Int.natCast_zero, gt_iff_lt, Int.lt_irrefl, c3, reduceCtorEq, ↓reduceIte, Nat.reduceAdd, Nat.reduceEqDiff, Nat.reduceLT, Int.reduceLE, Nat.reduceSub, Nat.reduceLeDiff, Nat.reduceMul, Int.reduceToNat, Int.reduceLT, Int.reduceEq, Int.reduceNeg, Nat.reduceBEq, Nat.reduceBNe]
       exact h2
      ·simp only [go_sem, h1, e0, e7, e1, eq_true c0, eq_true c1, e6, List.length_nil, Int.natCast_zero, gt_iff_lt, Int.lt_irrefl, c3, reduceCtorEq, ↓reduceIte, Nat.reduceAdd, Nat.reduceEqDiff, Nat.reduceLT, Int.reduceLE, Nat.reduceSub, Nat.reduceLeDiff, Nat.reduceMul, Int.reduceToNat, Int.reduceLT, Int.reduceEq, Int.reduceNeg, Nat.reduceBEq, Nat.reduceBNe]
       exact h2
    ·have hne : p.last ≠ [] := by rw [hl0]; simp
     have hx1 : p.last.getLast? = some x := by rw [hl0]; simp
     have hln : p.last.length = l'.length + 1 := by rw [hl0]; simp
     have hx2 := hp.last x (by rw [hl0]; simp)
     have hq0 : seqAsk p = (x.2.1 + 1) % 2147483648 := by unfold seqAsk; rw [hx1]
     have j1 : (p.last.length : Int) > 0 := by omega
     have w1 : IntKind.i64.wrap ((p.last.length : Int) - 1) = (l'.length : Int) := by rw [wrap_id (by unfold I64; omega)]; omega
     have j0 : (0 : Int) ≤ (l'.length : Int) := by omega
     have j7 : ((l'.length : Nat) : Int).toNat = l'.length := by omega
     have j2 : (p.last.map laV)[l'.length]? = some (.agg [.int .i64 x.1, .int .i64 x.2.1, .int .i64 x.2.2]) := by rw [hl0]; simp [laV]
     have w2 : bits .and .i64 (IntKind.i64.wrap (x.2.1 + 1)) 2147483647 = (x.2.1 + 1) % 2147483648 := by
      rw [and_seq, IntKind.wrap_i64]; omega
     have t1 := next_hx l hl a hs.at_ 7 i G hi
     have ha1 := nextA_le (n := 7) hs.at_
     have hi1 := hi.step (tapeB l (nextA l a 7))
     have t2 := next_hx l hl (nextA l a 7) ha1 (p.last.length : Nat) i _ hi1
     simp only [List.set_set] at t2
     have r2 := nextV_range (l := l) (a := nextA l a 7) (n := p.last.length) (by omega) (by omega)
     have j3 : (p.last.map laV)[(nextV l (nextA l a 7) p.last.length).toNat]? = some ((fun y => AVal.agg [.int .i64 y.1, .int .i64 y.2.1, .int .i64 y.2.2]) (p.last.getD (nextV l (nextA l a 7) p.last.length).toNat (0, 0, 0))) := by
      have : (nextV l (nextA l a 7) p.last.length).toNat < p.last.length := by omega
      rw [List.getElem?_map, List.getD_eq_getElem?_getD, List.getElem?_eq_getElem this]; rfl
     have j4 := r2.1
     by_cases c4 : nextV l a 7 = 0
     ·have e' : askData l b p a = ({ b with epoch := p.epoch, seq := (p.last.getD (nextV l (nextA l a 7) p.last.length).toNat (0, 0, 0)).1, txn := decide (p.open_ ≥ 0) || b.txn }, nextA l (nextA l a 7) p.last.length) := by
       unfold askData; rw [if_neg hne, if_pos c4]
      generalize nextA l (nextA l a 7) p.last.length = a2 at *
      generalize nextV l (nextA l a 7) p.last.length = v at *
      generalize p.last.getD v.toNat (0, 0, 0) = y at *
      generalize nextA l a 7 = a1 at *
      generalize nextV l a 7 = v1 at *
      by_cases c3 : p.open_ ≥ 0
      ·have e : askData l b p a = ({ b with epoch := p.epoch, seq := y.1, txn := true }, a2) := by rw [e', decide_eq_true c3, Bool.true_or]
       rw [e]
       obtain ⟨M, h2⟩ := step _ e (N ++ [.cells p.cs])
       refine ⟨M, ?_⟩
       simp only at j3
       unfold Ba.cs Pr.cs at *
       refine loop_step l_keep_Tape_Ask_0.eq_1 k_keep_Tape_Ask_0.eq_1 (by kernel_rfl) ?_
       rcases hfl with rfl | rfl
       ·simp only [go_sem, h1, e0, e7, e1, eq_true c0, eq_true c1, e6, List.length_map, j1, w1, j0, j7, j2, w2, c3, t1, eq_true c4, t2, j3, j4, reduceCtorEq, ↓reduceIte, Nat.reduceAdd, Nat.reduceEqDiff, Nat.reduceLT, Int.reduceLE, Nat.reduceSub, Nat.reduceLeDiff, Nat.reduceMul, Int.reduceToNat, Int.reduceLT, Int.reduceEq, Int.reduceNeg, Nat.reduceBEq, Nat.reduceBNe]
        exact h2
       ·simp only [go_sem, h1, e0, e7, e1, eq_true c0, eq_true c1, e6, List.length_map, j1, w1, j0, j7, j2, w2, c3, t1, eq_true c4, t2, j3, j4, reduceCtorEq, ↓reduceIte, Nat.reduceAdd, Nat.reduceEqDiff, Nat.reduceLT, Int.reduceLE, Nat.reduceSub, Nat.reduceLeDiff, Nat.reduceMul, Int.reduceToNat, Int.reduceLT, Int.reduceEq, Int.reduceNeg, Nat.reduceBEq, Nat.reduceBNe]
        exact h2
      ·have e : askData l b p a = ({ b with epoch := p.epoch, seq := y.1 }, a2) := by rw [e', decide_eq_false c3, Bool.false_or]
       rw [e]
       obtain ⟨M, h2⟩ := step _ e (N ++ [.cells p.cs])
       refine ⟨M, ?_⟩
       simp only at j3
       unfold Ba.cs Pr.cs at *
       refine loop_step l_keep_Tape_Ask_0.eq_1 k_keep_Tape_Ask_0.eq_1 (by kernel_rfl) ?_
       rcases hfl with rfl | rfl
       ·simp only [go_sem, h1, e0, e7, e1, eq_true c0, eq_true c1, e6, List.length_map, j1, w1, j0, j7, j2, w2, c3, t1, eq_true c4, t2, j3, j4, reduceCtorEq, ↓reduceIte, Nat.reduceAdd, Nat.reduceEqDiff, Nat.reduceLT, Int.reduceLE, Nat.reduceSub, Nat.reduceLeDiff, Nat.reduceMul, Int.reduceToNat, Int.reduceLT, Int.reduceEq, Int.reduceNeg, Nat.reduceBEq, Nat.reduceBNe]
        exact h2
       ·simp only [go_sem, h1, e0, e7, e1, eq_true c0, eq_true c1, e6, List.length_map, j1, w1, j0, j7, j2, w2, c3, t1, eq_true c4, t2, j3, j4, reduceCtorEq, ↓reduceIte, Nat.reduceAdd, Nat.reduceEqDiff, Nat.reduceLT, Int.reduceLE, Nat.reduceSub, Nat.reduceLeDiff, Nat.reduceMul, Int.reduceToNat, Int.reduceLT, Int.reduceEq, Int.reduceNeg, Nat.reduceBEq, Nat.reduceBNe]
        exact h2
     ·have e' : askData l b p a = ({ b with epoch := p.epoch, seq := (x.2.1 + 1) % 2147483648, txn := decide (p.open_ ≥ 0) || b.txn }, nextA l a 7) := by
       unfold askData; rw [if_neg hne, if_neg c4, hq0]
      clear t2 j3
      generalize nextA l a 7 = a1 at *
      generalize nextV l a 7 = v1 at *
      by_cases c3 : p.open_ ≥ 0
      ·have e : askData l b p a = ({ b with epoch := p.epoch, seq := (x.2.1 + 1) % 2147483648, txn := true }, a1) := by rw [e', decide_eq_true c3, Bool.true_or]
       rw [e]
       obtain ⟨M, h2⟩ := step _ e (N ++ [.cells p.cs])
       refine ⟨M, ?_⟩
       unfold Ba.cs Pr.cs at *
       refine loop_step l_keep_Tape_Ask_0.eq_1 k_keep_Tape_Ask_0.eq_1 (by kernel_rfl) ?_
       rcases hfl with rfl | rfl
       ·simp only [go_sem, h1, e0, e7, e1, eq_true c0, eq_true c1, e6, List.length_map, j1, w1, j0, j7, j2, w2, c3, t1, c4, reduceCtorEq, ↓reduceIte, Nat.reduceAdd, Nat.reduceEqDiff, Nat.reduceLT, Int.reduceLE, Nat.reduceSub, Nat.reduceLeDiff, Nat.reduceMul, Int.reduceToNat, Int.reduceLT, Int.reduceEq, Int.reduceNeg, Nat.reduceBEq, Nat.reduceBNe]
        exact h2
       ·simp only [go_sem, h1, e0, e7, e1, eq_true c0, eq_true c1, e6, List.length_map, j1, w1, j0, j7, j2, w2, c3, t1, c4, reduceCtorEq, ↓reduceIte, Nat.reduceAdd, Nat.reduceEqDiff, Nat.reduceLT, Int.reduceLE, Nat.reduceSub, Nat.reduceLeDiff, Nat.reduceMul, Int.reduceToNat, Int.reduceLT, Int.reduceEq, Int.reduceNeg, Nat.reduceBEq, Nat.reduceBNe]
        exact h2
      ·have e : askData l b p a = ({ b with epoch := p.epoch, seq := (x.2.1 + 1) % 2147483648 }, a1) := by rw [e', decide_eq_false c3, Bool.false_or]
       rw [e]
       obtain ⟨M, h2⟩ := step _ e (N ++ [.cells p.cs])
       refine ⟨M, ?_⟩
       unfold Ba.cs Pr.cs at *
       refine loop_step l_keep_Tape_Ask_0.eq_1 k_keep_Tape_Ask_0.eq_1 (by kernel_rfl) ?_
       rcases hfl with rfl | rfl
       ·simp only [go_sem, h1, e0, e7, e1, eq_true c0, eq_true c1, e6, List.length_map, j1, w1, j0, j7, j2, w2, c3, t1, c4, reduceCtorEq, ↓reduceIte, Nat.reduceAdd, Nat.reduceEqDiff, Nat.reduceLT, Int.reduceLE, Nat.reduceSub, Nat.reduceLeDiff, Nat.reduceMul, Int.reduceToNat, Int.reduceLT, Int.reduceEq, Int.reduceNeg, Nat.reduceBEq, Nat.reduceBNe]
        exact h2
       ·simp only [go_sem, h1, e0, e7, e1, eq_true c0, eq_true c1, e6, List.length_map, j1, w1, j0, j7, j2, w2, c3, t1, c4, reduceCtorEq, ↓reduceIte, Nat.reduceAdd, Nat.reduceEqDiff, Nat.reduceLT, Int.reduceLE, Nat.reduceSub, Nat.reduceLeDiff, Nat.reduceMul, Int.reduceToNat, Int.reduceLT, Int.reduceEq, Int.reduceNeg, Nat.reduceBEq, Nat.reduceBNe]
        exact h2
   ·have e : askStep l (b, a) p = ({ b with epoch := p.epoch }, a) := by unfold askStep; rw [if_neg (by simpa using c0), if_pos c1]
    rw [e]
    obtain ⟨M, h2⟩ := step _ e (N ++ [.cells p.cs])
    refine ⟨M, ?_⟩
    simp only [hi'] at h2
    unfold Ba.cs Pr.cs at *
    rcases hfl with rfl | rfl
    ·refine loop_step l_keep_Tape_Ask_0.eq_1 k_keep_Tape_Ask_0.eq_1 (by kernel_rfl) ?_
     simp only [go_sem, h1, e0, e7, e1, eq_true c0, c1, e6, reduceCtorEq, ↓reduceIte, Nat.reduceAdd, Nat.reduceEqDiff, Nat.reduceLT, Int.reduceLE, Nat.reduceSub, Nat.reduceLeDiff, Nat.reduceMul, Int.reduceToNat, Int.reduceLT, Int.reduceEq, Int.reduceNeg, Nat.reduceBEq, Nat.reduceBNe]
     exact h2
    ·refine loop_step l_keep_Tape_Ask_0.eq_1 k_keep_Tape_Ask_0.eq_1 (by kernel_rfl) ?_
     simp only [go_sem, h1, e0, e7, e1, eq_true c0, c1, e6, reduceCtorEq, ↓reduceIte, Nat.reduceAdd, Nat.reduceEqDiff, Nat.reduceLT, Int.reduceLE, Nat.reduceSub, Nat.reduceLeDiff, Nat.reduceMul, Int.reduceToNat, Int.reduceLT, Int.reduceEq, Int.reduceNeg, Nat.reduceBEq, Nat.reduceBNe]
     exact h2
  ·have e : askStep l (b, a) p = (b, a) := by unfold askStep; rw [if_pos (by simpa using c0)]
   rw [e]
   obtain ⟨M, h2⟩ := step _ e (N ++ [.cells p.cs])
   refine ⟨M, ?_⟩
   simp only [hi'] at h2
   unfold Ba.cs Pr.cs at *
   rcases hfl with rfl | rfl
   ·refine loop_step l_keep_Tape_Ask_0.eq_1 k_keep_Tape_Ask_0.eq_1 (by kernel_rfl) ?_
    simp only [go_sem, h1, e0, e7, e1, c0, e6, reduceCtorEq, ↓reduceIte, Nat.reduceAdd, Nat.reduceEqDiff, Nat.reduceLT, Int.reduceLE, Nat.reduceSub, Nat.reduceLeDiff, Nat.reduceMul, Int.reduceToNat, Int.reduceLT, Int.reduceEq, Int.reduceNeg, Nat.reduceBEq, Nat.reduceBNe]
    exact h2
   ·refine loop_step l_keep_Tape_Ask_0.eq_1 k_keep_Tape_Ask_0.eq_1 (by kernel_rfl) ?_
    simp only [go_sem, h1, e0, e7, e1, c0, e6, reduceCtorEq, ↓reduceIte, Nat.reduceAdd, Nat.reduceEqDiff, Nat.reduceLT, Int.reduceLE, Nat.reduceSub, Nat.reduceLeDiff, Nat.reduceMul, Int.reduceToNat, Int.reduceLT, Int.reduceEq, Int.reduceNeg, Nat.reduceBEq, Nat.reduceBNe]
    exact h2

set_option maxHeartbeats 1000000 in
theorem ask_spec (l : List Int) (hl : l.length ≤ 70368744177664) (a : Nat) (ha : a ≤ l.length) (i : Nat) (cap start : Int) (L : List Ba) (hL : ∀ b ∈ L, Fit b) (hn : L.length ≤ 900) (fl : Fl) (hfl : fl = .own ∨ (fl = .full ∧ L = [])) (j : Nat) (hij : i ≠ j) (H : Heap) (hi : Old H i (tapeB l a)) (hj : Old H j (mdB cap start L fl)) :
  W n_keep_Tape_Ask [.ptr i 0, .ptr j 0] H = some ((askB l L a).1.V, H.set i (tapeB l (askB l L a).2)) := by
 have hb := tapeBatch_right l 0 (by omega) (by omega) a
 have ha1 := tapeBatch_at l 0 a ha
 have hr1 := tapeBatch_recs l 0 a
 have t1 := fun M => tape_batch_spec l hl a ha 0 i (hx H M) ⟨hi.get M⟩
 simp only [hi.set] at t1
 have hi1 := hi.step (tapeB l (tapeBatch l 0 a).2)
 have hj1 := hj.other hij (tapeB l (tapeBatch l 0 a).2)
 unfold askB
 simp only
 generalize tapeBatch l 0 a = s at *
 obtain ⟨b, a1⟩ := s
 simp only at *
 by_cases c1 : b.prod < 0
 ·rw [if_pos c1]
  unfold Ba.V Ba.cs at *
  refine W_fnS rfl rfl ?_
  simp only [go_sem, c_keep_Tape_Ask, t1, c1, under_rc, tapeB_flat, reduceCtorEq, ↓reduceIte, Nat.reduceAdd, Nat.reduceEqDiff, Nat.reduceLT, Int.reduceLE, Nat.reduceSub, Nat.reduceLeDiff, Nat.reduceMul, Int.reduceToNat, Int.reduceLT, Int.reduceEq, Int.reduceNeg, Nat.reduceBEq, Nat.reduceBNe]
 ·rw [if_neg c1]
  have t2 := next_hx l hl a1 ha1 8 i _ hi1
  simp only [List.set_set] at t2
  have ha2 := nextA_le (n := 8) ha1
  have hi2 := hi1.step (tapeB l (nextA l a1 8))
  have hj2 := hj1.other hij (tapeB l (nextA l a1 8))
  simp only [List.set_set] at hi2 hj2
  generalize nextA l a1 8 = a2 at *
  by_cases c2 : nextV l a1 8 = 0
  ·rw [if_pos c2]
   unfold Ba.V Ba.cs at *
   refine W_fnS rfl rfl ?_
   simp only [go_sem, c_keep_Tape_Ask, t1, c1, t2, c2, under_rc, tapeB_flat, reduceCtorEq, ↓reduceIte, Nat.reduceAdd, Nat.reduceEqDiff, Nat.reduceLT, Int.reduceLE, Nat.reduceSub, Nat.reduceLeDiff, Nat.reduceMul, Int.reduceToNat, Int.reduceLT, Int.reduceEq, Int.reduceNeg, Nat.reduceBEq, Nat.reduceBNe]
  ·rw [if_neg c2]
   have hPr := foldL_ok L [] (fun b hb => (hL b hb).ok) (by simp)
   have hTK := foldL_TK L [] 0 ⟨by simp, by simp⟩
   obtain ⟨f', tp, hf⟩ := producers_spec cap start L hL (by omega) fl hfl j (hx (H.set i (tapeB l a2)) [.cells [.int .i64 0, .int .i64 0, .int .i64 0, .int .i64 0, .bool false, .int .i64 0, .list 2 [] .full], .cells b.cs]) ⟨hj2.get _⟩
   generalize foldL L [] = P at *
   have hPl : P.length ≤ 1000000 := by have := hTK.len; omega
   obtain ⟨M, h⟩ := ask_loop l hl P (fun p hp => ⟨hPr p hp, hTK.last p hp⟩) hPl f' hf i (.cells [.int .i64 0, .int .i64 0, .int .i64 0, .int .i64 0, .bool false, .int .i64 0, .list 2 [] .full]) P [] (b, a2) (H.set i (tapeB l a2)) [] rfl ⟨hb.ok, ha2, hr1⟩ hi2
   simp only [List.length_nil, Int.natCast_zero, pt_set, List.set_set] at h
   generalize P.foldl (askStep l) (b, a2) = s at *
   obtain ⟨b', a3⟩ := s
   unfold Ba.V Ba.cs at *
   refine W_fnS rfl rfl ?_
   rcases hf with rfl | rfl
   ·simp only [go_sem, c_keep_Tape_Ask, t1, c1, t2, c2, tp, List.length_map, h, under_rc, tapeB_flat, reduceCtorEq, ↓reduceIte, Nat.reduceAdd, Nat.reduceEqDiff, Nat.reduceLT, Int.reduceLE, Nat.reduceSub, Nat.reduceLeDiff, Nat.reduceMul, Int.reduceToNat, Int.reduceLT, Int.reduceEq, Int.reduceNeg, Nat.reduceBEq, Nat.reduceBNe]
   ·simp only [go_sem, c_keep_Tape_Ask, t1, c1, t2, c2, tp, List.length_map, h, under_rc, tapeB_flat, reduceCtorEq, ↓reduceIte, Nat.reduceAdd, Nat.reduceEqDiff, Nat.reduceLT, Int.reduceLE, Nat.reduceSub, Nat.reduceLeDiff, Nat.reduceMul, Int.reduceToNat, Int.reduceLT, Int.reduceEq, Int.reduceNeg, Nat.reduceBEq, Nat.reduceBNe]
end Go.Abs

namespace Go.Abs
open Go Go.RowKit
set_option linter.unusedVariables false
set_option linter.unusedSimpArgs false

/-! ## Row -/
theorem putOK_right {cap start L b} (h : putOK cap start L b = true) : rightE b = 0 := by
 unfold putOK at h
 rw [Bool.and_eq_true, decide_eq_true_eq] at h
 have h1 := h.1
 unfold tabCheck at h1
 by_cases c : rightE b = 0
 ·exact c
 ·rw [if_pos c] at h1; exact absurd h1 c
theorem putOK_end {cap start L b} (h : putOK cap start L b = true) : endE start L + countE b ≤ 1099511627776 := by
 unfold putOK at h
 simp only [Bool.and_eq_true, decide_eq_true_eq] at h
 exact h.2.2.2
theorem Fit.all {L : List Ba} {b : Ba} (h : ∀ b ∈ L, Fit b) (hb : Fit b) : ∀ x ∈ L ++ [b], Fit x := by
 intro x hx
 rw [List.mem_append, List.mem_singleton] at hx
 rcases hx with hx | rfl
 ·exact h x hx
 ·exact hb
theorem prodL_fit {cap start L b} (hL : ∀ b ∈ L, Fit b) (h0 : 0 ≤ start) (h1 : start ≤ 1099511627776) (hb : BOK b) : ∀ x ∈ prodL cap start L b, Fit x := by
 unfold prodL
 split
 ·rename_i h
  refine Fit.all hL ⟨?_, ?_⟩
  ·have re := endE_range start L hL h0 h1
   exact ⟨by unfold I64 atEnd; simp only; omega, hb.prod, hb.epoch, hb.seq, hb.mark⟩
  ·unfold prodOK at h
   rw [Bool.and_eq_true, decide_eq_true_eq] at h
   exact h.1
 ·exact hL
theorem markL_fit {cap start L p e m} (hL : ∀ b ∈ L, Fit b) (h0 : 0 ≤ start) (h1 : start ≤ 1099511627776) (hp : I64 p) (he : I64 e) (hm : I64 m) : ∀ x ∈ markL cap start L p e m, Fit x := by
 unfold markL
 split
 ·rename_i h
  have re := endE_range start L hL h0 h1
  refine Fit.all hL ⟨⟨by unfold I64 markB; simp only; omega, hp, he, show I64 (-1) from i64_c (by decide) (by decide), hm⟩, ?_⟩
  unfold markOK at h
  rw [Bool.and_eq_true] at h
  exact putOK_right h.2
 ·exact hL
theorem prodF_ok {cap start L b fl} (h : fl = .own ∨ (fl = .full ∧ L = [])) : prodF cap start L b fl = .own ∨ (prodF cap start L b fl = .full ∧ prodL cap start L b = []) := by
 unfold prodF prodL
 split
 ·exact .inl rfl
 ·exact h
theorem markF_ok {cap start L p e m fl} (h : fl = .own ∨ (fl = .full ∧ L = [])) : markF cap start L p e m fl = .own ∨ (markF cap start L p e m fl = .full ∧ markL cap start L p e m = []) := by
 unfold markF markL
 split
 ·exact .inl rfl
 ·exact h
theorem prodL_len {cap start L b} : (prodL cap start L b).length ≤ L.length + 1 := by unfold prodL; split <;> simp
theorem markL_len {cap start L p e m} : (markL cap start L p e m).length ≤ L.length + 1 := by unfold markL; split <;> simp

structure RS where
 L : List Ba
 at_ : Nat
 fl : Fl
def rowStep (l : List Int) (cap start : Int) (s : RS) : RS :=
 let b := (askB l s.L s.at_).1
 if b.mark = 0 then ⟨prodL cap start s.L b, (askB l s.L s.at_).2, prodF cap start s.L b s.fl⟩
 else ⟨markL cap start s.L b.prod b.epoch b.mark, (askB l s.L s.at_).2, markF cap start s.L b.prod b.epoch b.mark s.fl⟩
def rowGo (l : List Int) (cap start : Int) (most : Nat) : Nat → RS → RS
 | 0, s => s
 | k + 1, s => if s.L.length < most ∧ s.at_ < l.length then rowGo l cap start most k (rowStep l cap start s) else s
structure RI (l : List Int) (most : Nat) (s : RS) : Prop where
 fit : ∀ b ∈ s.L, Fit b
 len : s.L.length ≤ most
 at_ : s.at_ ≤ l.length
 fl : s.fl = .own ∨ (s.fl = .full ∧ s.L = [])
theorem askB_ok {l L a} (hl : l.length ≤ 70368744177664) (ha : a ≤ l.length) (hL : ∀ b ∈ L, Fit b) : AskOK l (askB l L a) := by
 have hb := tapeBatch_right l 0 (by omega) (by omega) a
 have ha1 := tapeBatch_at l 0 a ha
 have hr1 := tapeBatch_recs l 0 a
 have hPr := foldL_ok L [] (fun b hb => (hL b hb).ok) (by simp)
 have hTK := foldL_TK L [] 0 ⟨by simp, by simp⟩
 unfold askB
 simp only
 split
 ·exact ⟨hb.ok, ha1, hr1⟩
 ·split
  ·exact ⟨hb.ok, nextA_le ha1, hr1⟩
  ·exact askFold_ok hl _ _ ⟨hb.ok, nextA_le ha1, hr1⟩ (fun p hp => ⟨hPr p hp, hTK.last p hp⟩)
theorem RI.step {l most s cap start} (hl : l.length ≤ 70368744177664) (h0 : 0 ≤ start) (h1 : start ≤ 1099511627776) (h : RI l most s) (hm : s.L.length < most) : RI l most (rowStep l cap start s) := by
 have ha := askB_ok hl h.at_ h.fit
 unfold rowStep
 simp only
 split
 ·exact ⟨prodL_fit h.fit h0 h1 ha.bok, Nat.le_trans prodL_len hm, ha.at_, prodF_ok h.fl⟩
 ·exact ⟨markL_fit h.fit h0 h1 ha.bok.prod ha.bok.epoch ha.bok.mark, Nat.le_trans markL_len hm, ha.at_, markF_ok h.fl⟩
theorem RI.go {l most cap start} (hl : l.length ≤ 70368744177664) (h0 : 0 ≤ start) (h1 : start ≤ 1099511627776) : ∀ (k : Nat) (s : RS), RI l most s → RI l most (rowGo l cap start most k s)
 | 0, _, h => h
 | k + 1, s, h => by
  unfold rowGo
  split
  ·rename_i hc
   exact RI.go hl h0 h1 k _ (h.step hl h0 h1 hc.1)
  ·exact h

theorem hxg0 (H : Heap) (A B : Box) (N : Heap) : Old (hx H (A :: B :: N)) (pt H 0) A := ⟨by rw [hx_get]; rfl⟩
theorem hxg1 (H : Heap) (A B : Box) (N : Heap) : Old (hx H (A :: B :: N)) (pt H 1) B := ⟨by rw [hx_get]; rfl⟩
theorem pt_ne {H : Heap} {i j : Nat} (h : i ≠ j) : pt H i ≠ pt H j := by unfold pt; omega

end Go.Abs

namespace Go.Abs
open Go Go.RowKit
set_option linter.unusedVariables false
set_option linter.unusedSimpArgs false

set_option maxHeartbeats 2000000 in
theorem row_loop (l : List Int) (hl : l.length ≤ 70368744177664) (start : Int) (h0 : 0 ≤ start) (hs1 : start ≤ 1099511627776) (most : Nat) (hm : most ≤ 900) (H : Heap) (k : Nat) : ∀ (i : Nat) (s : RS) (N : Heap), i + k = 4 * most → RI l most s →
  ∃ M, loopA W loopW (.ghost (.kill k_keep_Row_0) l_keep_Row_0) [(0, .list 1 (ints .i64 l) .ro), (2, .int .i64 (most : Nat)), (7, .ptr (pt H 0) 0), (8, .ptr (pt H 1) 0), (9, .int .i64 (i : Nat))] (hx H (tapeB l s.at_ :: mdB 1073741824 start s.L s.fl :: N)) =
   some (.exit 0, [(8, .ptr (pt H 1) 0)], hx H (tapeB l (rowGo l 1073741824 start most k s).at_ :: mdB 1073741824 start (rowGo l 1073741824 start most k s).L (rowGo l 1073741824 start most k s).fl :: M)) := by
 have w4 : IntKind.i64.wrap (4 * (most : Int)) = 4 * (most : Int) := wrap_id (by unfold I64; omega)
 induction k with
 | zero =>
  intro i s N hi hs
  refine ⟨N, ?_⟩
  have h1 : ¬ ((i : Int) < 4 * (most : Int)) := by omega
  unfold rowGo
  refine loop_step l_keep_Row_0.eq_1 k_keep_Row_0.eq_1 (by kernel_rfl) ?_
  simp only [go_sem, w4, h1, reduceCtorEq, ↓reduceIte, Nat.reduceAdd, Nat.reduceEqDiff, Nat.reduceLT, Int.reduceLE, Nat.reduceSub, Nat.reduceLeDiff, Nat.reduceMul, Int.reduceToNat, Int.reduceLT, Int.reduceEq, Int.reduceNeg, Nat.reduceBEq, Nat.reduceBNe]
 | succ k ih =>
  intro i s N hi hs
  have h1 : ((i : Int) < 4 * (most : Int)) := by omega
  unfold rowGo
  obtain ⟨L, a, fl⟩ := s
  have hs' := fun hc => RI.step (cap := 1073741824) (start := start) hl h0 hs1 hs hc
  have ha := askB_ok hl hs.at_ hs.fit
  have hfl := hs.fl
  have hfit := hs.fit
  have hle := hs.len
  have hat := hs.at_
  simp only at ha hfl hfit hle hat hs' ⊢
  by_cases c1 : L.length < most
  ·by_cases c2 : a < l.length
   ·rw [if_pos ⟨c1, c2⟩]
    have c1' : ((L.length : Int) < (most : Int)) := by omega
    have c2' : ((a : Int) < (l.length : Int)) := by omega
    have e6 : IntKind.i64.wrap ((i : Int) + 1) = ((i + 1 : Nat) : Int) := by rw [wrap_id (by unfold I64; omega)]; omega
    have ta := ask_spec l hl a hat (pt H 0) 1073741824 start L hfit (by omega) fl hfl (pt H 1) (pt_ne (by decide)) (hx H (tapeB l a :: mdB 1073741824 start L fl :: N)) (hxg0 _ _ _ _) (hxg1 _ _ _ _)
    simp only [hx_set, List.set_cons_zero] at ta
    have hst : rowStep l 1073741824 start ⟨L, a, fl⟩ = if (askB l L a).1.mark = 0 then ⟨prodL 1073741824 start L (askB l L a).1, (askB l L a).2, prodF 1073741824 start L (askB l L a).1 fl⟩
     else ⟨markL 1073741824 start L (askB l L a).1.prod (askB l L a).1.epoch (askB l L a).1.mark, (askB l L a).2, markF 1073741824 start L (askB l L a).1.prod (askB l L a).1.epoch (askB l L a).1.mark fl⟩ := rfl
    have hsn := hs' c1
    rw [hst] at hsn ⊢
    generalize askB l L a = r at *
    obtain ⟨b, a1⟩ := r
    simp only at ta ha hst hsn ⊢
    have hab := ha.bok
    have har := ha.recs
    simp only at hab har
    by_cases c3 : b.mark = 0
    ·rw [if_pos c3] at hsn ⊢
     obtain ⟨x, y, tp⟩ := produce_spec 1073741824 start L hfit (by omega) fl hfl h0 hs1 b hab (by omega) (pt H 1) (hx H (tapeB l a1 :: mdB 1073741824 start L fl :: (N ++ [.cells b.cs]))) (hxg1 _ _ _ _)
     simp only [hx_set, List.set_cons_succ, List.set_cons_zero] at tp
     obtain ⟨M, h2⟩ := ih (i + 1) _ (N ++ [.cells b.cs]) (by omega) hsn
     refine ⟨M, ?_⟩
     simp only at h2
     generalize prodL 1073741824 start L b = L' at *
     generalize prodF 1073741824 start L b fl = fl' at *
     generalize rowGo l 1073741824 start most k _ = R at *
     unfold Ba.V Ba.cs at *
     unfold tapeB mdB at *
     refine loop_step l_keep_Row_0.eq_1 k_keep_Row_0.eq_1 (by kernel_rfl) ?_
     rcases hfl with rfl | ⟨rfl, rfl⟩
     ·simp only [go_sem, w4, h1, List.length_map, c1', c2', ta, eq_true c3, tp, e6, reduceCtorEq, ↓reduceIte, Nat.reduceAdd, Nat.reduceEqDiff, Nat.reduceLT, Int.reduceLE, Nat.reduceSub, Nat.reduceLeDiff, Nat.reduceMul, Int.reduceToNat, Int.reduceLT, Int.reduceEq, Int.reduceNeg, Nat.reduceBEq, Nat.reduceBNe]
      exact h2
     ·simp only [List.map_nil, List.length_nil, Int.natCast_zero] at ta tp c1' ⊢
      simp only [go_sem, w4, h1, List.length_map, List.length_nil, Int.natCast_zero, c1', c2', ta, eq_true c3, tp, e6, reduceCtorEq, ↓reduceIte, Nat.reduceAdd, Nat.reduceEqDiff, Nat.reduceLT, Int.reduceLE, Nat.reduceSub, Nat.reduceLeDiff, Nat.reduceMul, Int.reduceToNat, Int.reduceLT, Int.reduceEq, Int.reduceNeg, Nat.reduceBEq, Nat.reduceBNe]
      exact h2
    ·rw [if_neg c3] at hsn ⊢
     obtain ⟨x, y, tp⟩ := mark_spec 1073741824 start L hfit (by omega) fl hfl h0 hs1 b.prod b.epoch b.mark hab.prod hab.epoch hab.mark (pt H 1) (hx H (tapeB l a1 :: mdB 1073741824 start L fl :: (N ++ [.cells b.cs]))) (hxg1 _ _ _ _)
     simp only [hx_set, List.set_cons_succ, List.set_cons_zero] at tp
     obtain ⟨M, h2⟩ := ih (i + 1) _ (N ++ [.cells b.cs]) (by omega) hsn
     refine ⟨M, ?_⟩
     simp only at h2
     generalize markL 1073741824 start L b.prod b.epoch b.mark = L' at *
     generalize markF 1073741824 start L b.prod b.epoch b.mark fl = fl' at *
     generalize rowGo l 1073741824 start most k _ = R at *
     unfold Ba.V Ba.cs at *
     unfold tapeB mdB at *
     refine loop_step l_keep_Row_0.eq_1 k_keep_Row_0.eq_1 (by kernel_rfl) ?_
     rcases hfl with rfl | ⟨rfl, rfl⟩
     ·simp only [go_sem, w4, h1, List.length_map, c1', c2', ta, c3, tp, e6, reduceCtorEq, ↓reduceIte, Nat.reduceAdd, Nat.reduceEqDiff, Nat.reduceLT, Int.reduceLE, Nat.reduceSub, Nat.reduceLeDiff, Nat.reduceMul, Int.reduceToNat, Int.reduceLT, Int.reduceEq, Int.reduceNeg, Nat.reduceBEq, Nat.reduceBNe]
      exact h2
     ·simp only [List.map_nil, List.length_nil, Int.natCast_zero] at ta tp c1' ⊢
      simp only [go_sem, w4, h1, List.length_map, List.length_nil, Int.natCast_zero, c1', c2', ta, c3, tp, e6, reduceCtorEq, ↓reduceIte, Nat.reduceAdd, Nat.reduceEqDiff, Nat.reduceLT, Int.reduceLE, Nat.reduceSub, Nat.reduceLeDiff, Nat.reduceMul, Int.reduceToNat, Int.reduceLT, Int.reduceEq, Int.reduceNeg, Nat.reduceBEq, Nat.reduceBNe]
      exact h2
   ·rw [if_neg (by omega)]
    have c1' : ((L.length : Int) < (most : Int)) := by omega
    have c2' : ¬ ((a : Int) < (l.length : Int)) := by omega
    refine ⟨N, ?_⟩
    simp only
    unfold tapeB mdB
    refine loop_step l_keep_Row_0.eq_1 k_keep_Row_0.eq_1 (by kernel_rfl) ?_
    rcases hfl with rfl | ⟨rfl, rfl⟩
    ·simp only [go_sem, w4, h1, List.length_map, c1', c2', reduceCtorEq, ↓reduceIte, Nat.reduceAdd, Nat.reduceEqDiff, Nat.reduceLT, Int.reduceLE, Nat.reduceSub, Nat.reduceLeDiff, Nat.reduceMul, Int.reduceToNat, Int.reduceLT, Int.reduceEq, Int.reduceNeg, Nat.reduceBEq, Nat.reduceBNe]
    ·simp only [List.map_nil, List.length_nil, Int.natCast_zero] at c1' ⊢
     simp only [go_sem, w4, h1, List.length_map, List.length_nil, Int.natCast_zero, c1', c2', reduceCtorEq, ↓reduceIte, Nat.reduceAdd, Nat.reduceEqDiff, Nat.reduceLT, Int.reduceLE, Nat.reduceSub, Nat.reduceLeDiff, Nat.reduceMul, Int.reduceToNat, Int.reduceLT, Int.reduceEq, Int.reduceNeg, Nat.reduceBEq, Nat.reduceBNe]
  ·rw [if_neg (by omega)]
   have c1' : ¬ ((L.length : Int) < (most : Int)) := by omega
   refine ⟨N, ?_⟩
   simp only
   unfold tapeB mdB
   refine loop_step l_keep_Row_0.eq_1 k_keep_Row_0.eq_1 (by kernel_rfl) ?_
   rcases hfl with rfl | ⟨rfl, rfl⟩
   ·simp only [go_sem, w4, h1, List.length_map, c1', reduceCtorEq, ↓reduceIte, Nat.reduceAdd, Nat.reduceEqDiff, Nat.reduceLT, Int.reduceLE, Nat.reduceSub, Nat.reduceLeDiff, Nat.reduceMul, Int.reduceToNat, Int.reduceLT, Int.reduceEq, Int.reduceNeg, Nat.reduceBEq, Nat.reduceBNe]
   ·simp only [List.map_nil, List.length_nil, Int.natCast_zero] at c1' ⊢
    simp only [go_sem, w4, h1, List.length_map, List.length_nil, Int.natCast_zero, c1', reduceCtorEq, ↓reduceIte, Nat.reduceAdd, Nat.reduceEqDiff, Nat.reduceLT, Int.reduceLE, Nat.reduceSub, Nat.reduceLeDiff, Nat.reduceMul, Int.reduceToNat, Int.reduceLT, Int.reduceEq, Int.reduceNeg, Nat.reduceBEq, Nat.reduceBNe]

/-- What Row makes of a tape. -/
def rowOf (l : List Int) (start : Int) (most : Nat) : List Ba := (rowGo l 1073741824 start most (4 * most) ⟨[], 0, .full⟩).L
theorem row_ri (l : List Int) (hl : l.length ≤ 70368744177664) (start : Int) (h0 : 0 ≤ start) (hs1 : start ≤ 1099511627776) (most : Nat) : RI l most (rowGo l 1073741824 start most (4 * most) ⟨[], 0, .full⟩) :=
 RI.go hl h0 hs1 _ _ ⟨by simp, by simp, by simp, .inr ⟨rfl, rfl⟩⟩
theorem under_bas' (n : Nat) (L : List Ba) : AVal.underL n (L.map Ba.V) = true := under_bas n L
theorem row_spec (l : List Int) (hl : l.length ≤ 70368744177664) (start : Int) (h0 : 0 ≤ start) (hs1 : start ≤ 1099511627776) (most : Nat) (hm : most ≤ 900) (H : Heap) :
  ∃ f, W n_keep_Row [.list 1 (ints .i64 l) .ro, .int .i64 start, .int .i64 (most : Nat)] H = some (.list 7 ((rowOf l start most).map Ba.V) f, H) ∧ (f = .ro ∨ (f = .full ∧ rowOf l start most = [])) := by
 obtain ⟨M, h⟩ := row_loop l hl start h0 hs1 most hm H (4 * most) 0 ⟨[], 0, .full⟩ [] (by omega) ⟨by simp, by simp, by simp, .inr ⟨rfl, rfl⟩⟩
 have hr := (row_ri l hl start h0 hs1 most).fl
 unfold rowOf
 generalize rowGo l 1073741824 start most (4 * most) ⟨[], 0, .full⟩ = R at *
 obtain ⟨L, a, fl⟩ := R
 simp only [Int.natCast_zero] at h hr ⊢
 unfold tapeB mdB at h
 simp only [List.map_nil, Int.natCast_zero] at h
 rcases hr with rfl | ⟨rfl, rfl⟩
 ·refine ⟨.ro, ?_, .inl rfl⟩
  refine W_fn rfl rfl ?_
  simp only [go_sem, c_keep_Row, h, under_bas, reduceCtorEq, ↓reduceIte, Nat.reduceAdd, Nat.reduceEqDiff, Nat.reduceLT, Int.reduceLE, Nat.reduceSub, Nat.reduceLeDiff, Nat.reduceMul, Int.reduceToNat, Int.reduceLT, Int.reduceEq, Int.reduceNeg, Nat.reduceBEq, Nat.reduceBNe]
 ·refine ⟨.full, ?_, .inr ⟨rfl, rfl⟩⟩
  refine W_fn rfl rfl ?_
  simp only [go_sem, c_keep_Row, h, under_bas, reduceCtorEq, ↓reduceIte, Nat.reduceAdd, Nat.reduceEqDiff, Nat.reduceLT, Int.reduceLE, Nat.reduceSub, Nat.reduceLeDiff, Nat.reduceMul, Int.reduceToNat, Int.reduceLT, Int.reduceEq, Int.reduceNeg, Nat.reduceBEq, Nat.reduceBNe]
end Go.Abs

