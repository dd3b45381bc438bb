import Derived.Test.YtknclghaofmnhaaPS10
namespace Go.Abs
open Go Go.RowKit
set_option linter.unusedVariables false
set_option linter.unusedSimpArgs false

def Bs : Nat → List Ba → Prop
  | _, [] => True
  | o, b :: B => b.base = (o : Nat) ∧ Bs (o + b.recs.length) B
theorem Bs.app : ∀ {A B : List Ba} {o}, Bs o (A ++ B) ↔ Bs o A ∧ Bs (o + sumL A) B
  | [], B, o => by simp [Bs, sumL]
  | b :: A, B, o => by
    rw [List.cons_append, Bs, Bs, Bs.app (A := A), sumL, Nat.add_assoc]
    exact and_assoc.symm
theorem rightQ_mod (x : Int) : rightQ (x % 2147483648) = true := by unfold rightQ; simp; omega
theorem gap_tri {f e : Int} {o : Nat} {b : Ba} (h : b.seq = (f + o) % 2147483648 ∧ 1 ≤ b.recs.length ∧ b.recs.length ≤ 16 ∧ b.mark = 0 ∧ b.ep = e) (hb : b.base = (o : Nat)) (ho : o ≤ 100000) : okT (tri b) = true := by
  have hl := lastQ_eq f o b.recs.length h.2.1 h.2.2.1
  unfold okT tri
  simp only [h.1, hl, rightQ_mod, Bool.true_and, hb]
  unfold gapQ
  rw [if_pos ⟨rightQ_mod _, rightQ_mod _⟩]
  simp; omega
theorem batches_good {f e : Int} : ∀ (B : List Ba) (o : Nat) (b : Ba), Good f e o (b :: B) → Bs o (b :: B) → o + sumL (b :: B) ≤ 100000 → batchesQ (some (tri b)) (B.map tri) = true
  | [], _, _, _, _, _ => rfl
  | c :: B, o, b, hg, hb, hs => by
    have hg2 := hg.2
    have hb2 := hb.2
    rw [sumL] at hs
    have h1 := gap_tri hg2.1 hb2.1 (by rw [sumL] at hs; omega)
    have h2 := batches_good B _ c hg2 hb2 (by omega)
    rw [List.map_cons, batchesQ, h1, h2, Bool.true_and, Bool.and_true]
    unfold okP tri
    simp only [hg.1.1, hg2.1.1, lastQ_eq f o b.recs.length hg.1.2.1 hg.1.2.2.1, followsQ_eq, hb.1, hb2.1]
    have := hg.1.2.1
    simp; omega
theorem batches_good0 {f e : Int} (B : List Ba) (o : Nat) (hg : Good f e o B) (hb : Bs o B) (hs : o + sumL B ≤ 100000) : batchesQ none (B.map tri) = true := by
  cases B with
  | nil => rfl
  | cons b B =>
    rw [List.map_cons, batchesQ, gap_tri hg.1 hb.1 (by rw [sumL] at hs; omega), batches_good B o b hg hb hs]; rfl
theorem right_lastOf {f e : Int} (B : List Ba) (hg : Good f e 0 B) (hb : Bs 0 B) (hs : sumL B ≤ 100000) : batchesQ none (lastOf B) = true := by
  unfold lastOf
  rw [← List.map_drop]
  have h := List.take_append_drop (B.length - 5) B
  rw [← h] at hg hb hs
  rw [sumL_app] at hs
  exact batches_good0 _ _ (Good.app.1 hg).2 (Bs.app.1 hb).2 (by omega)
/-- One that was there, again. -/
theorem check_again {f e id op : Int} {P Q : List Ba} {b : Ba} (hg : Good f e 0 (P ++ b :: Q)) (hs : sumL (P ++ b :: Q) ≤ 100000) (hop : op < 0) (x : Int) :
    checkQ ⟨id, e, lastOf (P ++ b :: Q), op⟩ true ⟨x, b.prod, b.ep, b.seq, b.txn, b.mark, b.recs⟩ = if Q.length < 5 then (b.base, 0) else (-1, 15) := by
  have hg' := Good.app.1 hg
  have hb := hg'.2.1
  have hs' := hs
  rw [sumL_app, sumL] at hs'
  simp only [Nat.zero_add] at hb hg'
  obtain ⟨b1, b2, b3, b4, b5⟩ := hb
  have hm : (P ++ b :: Q) ≠ [] := by simp
  by_cases hq : Q.length < 5
  · rw [if_pos hq]
    have hl : lastOf (P ++ b :: Q) = (P.map tri).drop (P.length + (Q.length + 1) - 5) ++ tri b :: Q.map tri := by
      unfold lastOf
      rw [List.map_append, List.map_cons, List.length_append, List.length_cons, List.drop_append_of_le_length (by simp; omega)]
    have hd : dupQ ⟨id, e, lastOf (P ++ b :: Q), op⟩ ⟨x, b.prod, b.ep, b.seq, b.txn, b.mark, b.recs⟩ (lastOf (P ++ b :: Q)) = (b.base, true) := by
      generalize hL : (Pr.mk id e (lastOf (P ++ b :: Q)) op) = p
      have hpe : p.ep = e := by rw [← hL]
      rw [hl]
      refine dupQ_found p ⟨x, b.prod, b.ep, b.seq, b.txn, b.mark, b.recs⟩ b4 (by rw [hpe]; exact b5) (Q.map tri) b.base _ fun t ht h => ?_
      obtain ⟨c, hc, rfl⟩ := List.mem_map.1 (List.mem_of_mem_drop ht)
      obtain ⟨o', _, g2, g3, g4⟩ := hg'.1.mem hc
      simp only [tri] at h
      rw [g3, b1] at h
      omega
    unfold checkQ
    simp only [b4, b5] at hd ⊢
    simp only [hd, ne_eq, not_true_eq_false, if_false, Bool.true_eq_false, Int.lt_irrefl, gt_iff_lt, if_true]
  · rw [if_neg hq]
    have hd : dupQ ⟨id, e, lastOf (P ++ b :: Q), op⟩ ⟨x, b.prod, b.ep, b.seq, b.txn, b.mark, b.recs⟩ (lastOf (P ++ b :: Q)) = (-1, false) := by
      refine dupQ_none _ _ _ fun t ht h => ?_
      have hl : lastOf (P ++ b :: Q) = (Q.map tri).drop (Q.length - 5) := by
        unfold lastOf
        rw [List.map_append, List.map_cons, List.length_append, List.length_cons, show P.length + (Q.length + 1) - 5 = (P.map tri).length + (Q.length - 5 + 1) by simp; omega, List.drop_length_add_append, List.drop_succ_cons]
      rw [hl] at ht
      obtain ⟨c, hc, rfl⟩ := List.mem_map.1 (List.mem_of_mem_drop ht)
      obtain ⟨o', g1, g2, g3, g4⟩ := hg'.2.2.mem hc
      simp only [tri] at h
      rw [g3, b1] at h
      omega
    have hf : followsQ ((lastOf (P ++ b :: Q)).getLastD (0, 0, 0)).2.1 b.seq = false := by
      obtain ⟨Q', c, rfl⟩ : ∃ Q' c, Q = Q' ++ [c] := by
        rcases List.eq_nil_or_concat Q with h | ⟨s, y, h⟩
        · subst h; exact absurd (by simp) hq
        · exact ⟨s, y, by simpa using h⟩
      rw [show P ++ b :: (Q' ++ [c]) = (P ++ b :: Q') ++ [c] by simp, lastOf_getLast]
      have hc := (Good.app.1 hg'.2.2).2.1
      simp only [tri]
      rw [hc.1, lastQ_eq f _ _ hc.2.1 hc.2.2.1, b1, followsQ_eq]
      rw [sumL_app] at hs'
      simp only [sumL] at hs'
      have := hc.2.1
      simp; omega
    have hne : lastOf (P ++ b :: Q) ≠ [] := by
      intro h; have := lastOf_len (P ++ b :: Q); rw [h] at this; simp at this; omega
    unfold checkQ
    simp only [b4, b5] at hd ⊢
    simp only [hd, hf, ne_eq, not_true_eq_false, if_false, Bool.true_eq_false, Int.lt_irrefl, gt_iff_lt, Bool.false_eq_true, hne, not_false_eq_true, and_self, if_true]
end Go.Abs
