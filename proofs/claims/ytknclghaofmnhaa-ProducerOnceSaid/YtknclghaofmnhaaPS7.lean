import Derived.Test.YtknclghaofmnhaaPS6
namespace Go.Abs
open Go Go.RowKit
set_option linter.unusedVariables false
set_option linter.unusedSimpArgs false

/-! ## Batches that follow one another -/
abbrev M31 : Int := 2147483648
def tri (b : Ba) : Int × Int × Int := (b.seq, lastQ b.seq b.recs.length, b.base)
def lastOf (B : List Ba) : List (Int × Int × Int) := (B.map tri).drop (B.length - 5)
def sumL : List Ba → Nat
  | [] => 0
  | b :: B => b.recs.length + sumL B
def Good (f e : Int) : Nat → List Ba → Prop
  | _, [] => True
  | o, b :: B => (b.seq = (f + o) % 2147483648 ∧ 1 ≤ b.recs.length ∧ b.recs.length ≤ 16 ∧ b.mark = 0 ∧ b.ep = e) ∧ Good f e (o + b.recs.length) B
theorem sumL_app : ∀ (A B : List Ba), sumL (A ++ B) = sumL A + sumL B
  | [], B => by simp [sumL]
  | b :: A, B => by rw [List.cons_append, sumL, sumL, sumL_app A B]; omega
theorem Good.app {f e} : ∀ {A B : List Ba} {o}, Good f e o (A ++ B) ↔ Good f e o A ∧ Good f e (o + sumL A) B
  | [], B, o => by simp [Good, sumL]
  | b :: A, B, o => by
    rw [List.cons_append, Good, Good, Good.app (A := A), sumL, Nat.add_assoc]
    exact and_assoc.symm
theorem Good.mem {f e} : ∀ {B : List Ba} {o b}, Good f e o B → b ∈ B → ∃ o', o ≤ o' ∧ o' + b.recs.length ≤ o + sumL B ∧ b.seq = (f + (o' : Nat)) % 2147483648 ∧ 1 ≤ b.recs.length
  | c :: B, o, b, h, hb => by
    obtain ⟨h1, h2⟩ := h
    rcases List.mem_cons.1 hb with rfl | hb
    · exact ⟨o, Nat.le_refl _, by rw [sumL]; omega, h1.1, h1.2.1⟩
    · obtain ⟨o', g1, g2, g3, g4⟩ := Good.mem h2 hb
      exact ⟨o', by omega, by rw [sumL]; omega, g3, g4⟩
theorem mem_lastOf {B : List Ba} {t} (h : t ∈ lastOf B) : ∃ b ∈ B, t = tri b := by
  have := List.mem_of_mem_drop h
  obtain ⟨b, hb, rfl⟩ := List.mem_map.1 this
  exact ⟨b, hb, rfl⟩
theorem dupQ_none (p : Pr) (b : Ba) : ∀ l, (∀ t ∈ l, t.1 ≠ b.seq) → dupQ p b l = (-1, false)
  | [], _ => rfl
  | t :: l, h => by
    rw [dupQ, if_neg (fun hc => h t (by simp) hc.2.2.1)]
    exact dupQ_none p b l fun t ht => h t (List.mem_cons_of_mem _ ht)
theorem dupQ_found (p : Pr) (b : Ba) (hm : b.mark = 0) (he : b.ep = p.ep) (l2) (base : Int) : ∀ l1, (∀ t ∈ l1, t.1 ≠ b.seq) → dupQ p b (l1 ++ (b.seq, lastQ b.seq b.recs.length, base) :: l2) = (base, true)
  | [], _ => by rw [List.nil_append, dupQ, if_pos ⟨hm, he, rfl, rfl⟩]
  | t :: l, h => by
    rw [List.cons_append, dupQ, if_neg (fun hc => h t (by simp) hc.2.2.1)]
    exact dupQ_found p b hm he l2 base l fun t ht => h t (List.mem_cons_of_mem _ ht)
theorem lastQ_eq (f : Int) (o c : Nat) (h1 : 1 ≤ c) (h2 : c ≤ 16) : lastQ ((f + o) % 2147483648) c = (f + o + c - 1) % 2147483648 := by
  unfold lastQ addQ rightQ
  rw [if_pos (by omega), if_pos (by simp; omega)]
  omega
theorem followsQ_eq (x y : Int) : followsQ (x % 2147483648) (y % 2147483648) = decide ((x + 1) % 2147483648 = y % 2147483648) := by
  unfold followsQ addQ rightQ
  rw [if_neg (by omega)]
  have h : (decide (0 ≤ x % 2147483648 ∧ x % 2147483648 ≤ 2147483647)) = true := by simp; omega
  rw [h, if_pos rfl, Bool.true_and]
  congr 1; apply propext; omega
theorem lastOf_snoc (B : List Ba) (b : Ba) : lastOf (B ++ [b]) = (lastOf B ++ [tri b]).drop ((lastOf B ++ [tri b]).length - 5) := by
  unfold lastOf
  simp only [List.map_append, List.map_cons, List.map_nil, List.length_append, List.length_drop, List.length_map, List.length_cons, List.length_nil]
  by_cases h : B.length < 5
  · have e : B.length - 5 = 0 := by omega
    rw [e, show B.length + (0 + 1) - 5 = 0 by omega, show B.length - 0 + (0 + 1) - 5 = 0 by omega]
    simp
  · rw [show B.length + (0 + 1) - 5 = (B.length - 5) + 1 by omega, show B.length - (B.length - 5) + (0 + 1) - 5 = 1 by omega, ← List.drop_drop]
    rw [List.drop_append_of_le_length (by simp)]
theorem lastOf_getLast (B : List Ba) (b : Ba) (d) : (lastOf (B ++ [b])).getLastD d = tri b := by
  rw [lastOf_snoc]
  have h : (lastOf B).length ≤ 5 := by unfold lastOf; simp; omega
  by_cases h5 : (lastOf B).length = 5
  · rw [List.length_append, h5, List.length_cons, List.length_nil]
    obtain ⟨x, l, hx⟩ : ∃ x l, lastOf B = x :: l := by cases hl : lastOf B with | nil => rw [hl] at h5; simp at h5 | cons x l => exact ⟨x, l, rfl⟩
    rw [hx]; simp
  · rw [List.length_append, List.length_cons, List.length_nil, show (lastOf B).length + (0 + 1) - 5 = 0 by omega, List.drop_zero]; simp
theorem lastOf_len (B : List Ba) : (lastOf B).length = min B.length 5 := by unfold lastOf; simp; omega
theorem lastOf_ne (B : List Ba) (b : Ba) : lastOf (B ++ [b]) ≠ [] := by
  intro h; have := lastOf_len (B ++ [b]); rw [h] at this; simp at this; omega

/-- The next one. -/
theorem check_next {f e id op : Int} {B : List Ba} {b : Ba} (hg : Good f e 0 B) (hs : sumL B ≤ 100000) (hb : b.seq = (f + (sumL B : Nat)) % 2147483648) (hm : b.mark = 0) (he : b.ep = e) (hne : B ≠ []) (ht : op < 0 ∨ b.txn = true) :
    checkQ ⟨id, e, lastOf B, op⟩ true b = (-1, 0) := by
  have hd : dupQ ⟨id, e, lastOf B, op⟩ b (lastOf B) = (-1, false) := by
    refine dupQ_none _ _ _ fun t ht h => ?_
    obtain ⟨c, hc, rfl⟩ := mem_lastOf ht
    obtain ⟨o', _, g2, g3, g4⟩ := hg.mem hc
    simp only [tri] at h
    rw [g3, hb] at h
    omega
  obtain ⟨B', c, rfl⟩ : ∃ B' c, B = B' ++ [c] := by
    rcases List.eq_nil_or_concat B with h | ⟨s, x, h⟩
    · exact absurd h hne
    · exact ⟨s, x, by simpa using h⟩
  have hc := (Good.app.1 hg).2
  simp only [Good, Nat.zero_add] at hc
  have hf : followsQ ((lastOf (B' ++ [c])).getLastD (0, 0, 0)).2.1 b.seq = true := by
    rw [lastOf_getLast]
    simp only [tri]
    rw [hc.1.1, hb, lastQ_eq f _ _ hc.1.2.1 hc.1.2.2.1, followsQ_eq, sumL_app]
    simp only [sumL]
    simp; omega
  have hop : ¬ (op ≥ 0 ∧ b.txn = false) := by
    rintro ⟨h1, h2⟩
    rcases ht with h | h
    · omega
    · rw [h] at h2; cases h2
  unfold checkQ
  simp only [hm, he, hd]
  simp only [hf, ne_eq, not_true_eq_false, if_false, Bool.true_eq_false, Int.lt_irrefl, gt_iff_lt, Bool.false_eq_true, and_false]
  rw [if_neg hop]
theorem check_next' {f e id op : Int} {B : List Ba} {b : Ba} (hg : Good f e 0 B) (hs : sumL B ≤ 100000) (hb : b.seq = (f + (sumL B : Nat)) % 2147483648) (hm : b.mark = 0) (he : b.ep = e) (hne : B ≠ []) (ht : op ≥ 0 ∧ b.txn = false) :
    checkQ ⟨id, e, lastOf B, op⟩ true b = (-1, 16) := by
  have hd : dupQ ⟨id, e, lastOf B, op⟩ b (lastOf B) = (-1, false) := by
    refine dupQ_none _ _ _ fun t ht h => ?_
    obtain ⟨c, hc, rfl⟩ := mem_lastOf ht
    obtain ⟨o', _, g2, g3, g4⟩ := hg.mem hc
    simp only [tri] at h
    rw [g3, hb] at h
    omega
  obtain ⟨B', c, rfl⟩ : ∃ B' c, B = B' ++ [c] := by
    rcases List.eq_nil_or_concat B with h | ⟨s, x, h⟩
    · exact absurd h hne
    · exact ⟨s, x, by simpa using h⟩
  have hc := (Good.app.1 hg).2
  simp only [Good, Nat.zero_add] at hc
  have hf : followsQ ((lastOf (B' ++ [c])).getLastD (0, 0, 0)).2.1 b.seq = true := by
    rw [lastOf_getLast]
    simp only [tri]
    rw [hc.1.1, hb, lastQ_eq f _ _ hc.1.2.1 hc.1.2.2.1, followsQ_eq, sumL_app]
    simp only [sumL]
    simp; omega
  unfold checkQ
  simp only [hm, he, hd]
  simp only [hf, ne_eq, not_true_eq_false, if_false, Bool.true_eq_false, Int.lt_irrefl, gt_iff_lt, Bool.false_eq_true, and_false]
  rw [if_pos ht]
end Go.Abs
