import Derived.Test.YtegpgelddogoiaaBS5
import Derived.Test.YtegpgelddogoiaaB0
namespace Go.Abs
open Go Go.RowKit
set_option linter.unusedVariables false
set_option linter.unusedSimpArgs false

/-! ## A fetch of more begins as one of fewer -/
theorem rise_last {R : List Gt} {g : Gt} (h : Rise R) (hg : R.getLast? = some g) : ∀ x ∈ R, x.1 ≤ g.1 := by
  rcases List.eq_nil_or_concat R with rfl | ⟨R', y, rfl⟩
  · cases hg
  · rw [List.concat_eq_append] at *
    simp only [List.getLast?_append, List.getLast?_singleton, Option.some_or, Option.some.injEq] at hg
    subst hg
    intro x hx
    rcases List.mem_append.1 hx with hx | hx
    · have := (List.pairwise_append.1 h).2.2 x hx y (by simp); omega
    · simp only [List.mem_singleton] at hx; subst hx; omega
theorem getLast_some {R : List Gt} (h : R ≠ []) : ∃ g, R.getLast? = some g ∧ g ∈ R := by
  rcases List.eq_nil_or_concat R with rfl | ⟨R', y, rfl⟩
  · exact absurd rfl h
  · exact ⟨y, by simp, by simp⟩
/-- What is told lies from the place on, ahead of the next one. -/
theorem next_all (lo top n : Int) (R0 : List Gt) (hr : Rise R0) (ho : ∀ g ∈ R0, lo ≤ g.1 ∧ g.1 < top) (h1 : 1 ≤ n) :
    (∀ g ∈ R0.take n.toNat, lo ≤ g.1 ∧ g.1 < fNext lo top n (R0.take n.toNat)) ∧ lo ≤ fNext lo top n (R0.take n.toNat) := by
  have hr' : Rise (R0.take n.toNat) := hr.sublist (List.take_sublist _ _)
  have ho' : ∀ g ∈ R0.take n.toNat, lo ≤ g.1 ∧ g.1 < top := fun g hg => ho g (List.mem_of_mem_take hg)
  have hmx : lo ≤ mx lo top ∧ top ≤ mx lo top := by unfold mx; split <;> omega
  generalize R0.take n.toNat = R at *
  unfold fNext
  by_cases c : (R.length : Int) = n
  · rw [if_pos c]
    have hne : R ≠ [] := by intro h; rw [h] at c; simp at c; omega
    obtain ⟨g, hg, hm⟩ := getLast_some hne
    rw [hg]
    have hl := rise_last hr' hg
    refine ⟨fun x hx => ?_, ?_⟩
    · have a1 := ho' x hx; have a2 := hl x hx; simp only; omega
    · have a1 := ho' g hm; simp only; omega
  · rw [if_neg c]
    refine ⟨fun x hx => ?_, hmx.1⟩
    have a1 := ho' x hx; omega
theorem next_le (lo top n m : Int) (R0 : List Gt) (hr : Rise R0) (ho : ∀ g ∈ R0, lo ≤ g.1 ∧ g.1 < top) (h1 : 1 ≤ n) (h2 : n ≤ m) :
    fNext lo top n (R0.take n.toNat) ≤ fNext lo top m (R0.take m.toNat) := by
  have hmx : lo ≤ mx lo top ∧ top ≤ mx lo top := by unfold mx; split <;> omega
  by_cases c : ((R0.take n.toNat).length : Int) = n
  · have hne : R0.take n.toNat ≠ [] := by intro h; rw [h] at c; simp at c; omega
    obtain ⟨g, hg, hm⟩ := getLast_some hne
    have hgm : g ∈ R0.take m.toNat := by
      have : R0.take n.toNat = (R0.take m.toNat).take n.toNat := by rw [List.take_take, Nat.min_eq_left (by omega)]
      rw [this] at hm
      exact List.mem_of_mem_take hm
    have hb := (next_all lo top m R0 hr ho (by omega)).1 g hgm
    have e : fNext lo top n (R0.take n.toNat) = g.1 + 1 := by unfold fNext; rw [if_pos c, hg]
    rw [e]; omega
  · have hlt : R0.length < n.toNat := by
      rw [List.length_take] at c
      omega
    rw [List.take_of_length_le (by omega : R0.length ≤ n.toNat), List.take_of_length_le (by omega : R0.length ≤ m.toNat)]
    unfold fNext
    rw [if_neg (by omega), if_neg (by omega)]
    omega

theorem parts_loop (o nx st : Int) (B : List Gt) (x : AVal) (hB : ∀ g ∈ B, o ≤ g.1 ∧ g.1 < nx) (hn : B.length ≤ 1000) (Y : AVal) (c14 : Box) (Q : List AVal) (H : Heap) (r : List Gt) : ∀ (p : List Gt) (N : Heap), B = p ++ r →
    ∃ N', loopA W loopW (.ghost (.kill k_law14_FoldParts_0) l_law14_FoldParts_0) [(13, .int .i64 o), (14, .ptr (pt H 0) 0), (16, .ptr (pt H 1) 0), (100, .list 4 (B.map gV) .ro), (101, .int .i64 (B.length : Nat)), (102, .int .i64 (p.length : Nat))] (hx H (c14 :: .cells [Y, x, .int .i64 nx, .int .i64 st] :: N)) =
      some (.exit 0, [(13, .int .i64 o), (14, .ptr (pt H 0) 0)], hx H (c14 :: N')) := by
  induction r with
  | nil =>
    intro p N hp
    rw [List.append_nil] at hp
    subst hp
    refine ⟨.cells [Y, x, .int .i64 nx, .int .i64 st] :: N, ?_⟩
    have h1 : ¬ ((B.length : Int) < (B.length : Int)) := by omega
    refine loop_step l_law14_FoldParts_0.eq_1 k_law14_FoldParts_0.eq_1 (by kernel_rfl) ?_
    simp only [go_sem, h1, reduceCtorEq, ↓reduceIte, Nat.reduceAdd, Nat.reduceEqDiff, Nat.reduceLT, Int.reduceLE, Nat.reduceSub, Nat.reduceLeDiff, Nat.reduceMul, Int.reduceToNat, Int.reduceLT, Int.reduceEq, Int.reduceNeg, Nat.reduceBEq, Nat.reduceBNe]
  | cons g r ih =>
    intro p N hp
    have hlen : B.length = p.length + (r.length + 1) := by rw [hp]; simp
    have h1 : ((p.length : Int) < (B.length : Int)) := by omega
    have e0 : (0 : Int) ≤ (p.length : Int) := by omega
    have e7 : ((p.length : Nat) : Int).toNat = p.length := by omega
    have e1 : (B.map gV)[p.length]? = some (.agg [.int .i64 g.1, .int .i64 g.2.1, .str g.2.2.1, .str g.2.2.2]) := by rw [hp]; simp [gV]
    have e6 : IntKind.i64.wrap ((p.length : Int) + 1) = ((p.length + 1 : Nat) : Int) := by rw [wrap_id (by unfold I64; omega)]; omega
    have n1 : ∀ x : Box, (N ++ [x])[N.length]? = some x := fun x => by simp
    have n2 : ∀ x z : Box, (N ++ [x]).set N.length z = N ++ [z] := fun x z => by simp
    have hg := hB g (by rw [hp]; simp)
    have k1 : ¬ g.1 < o := by omega
    have k2 : ¬ g.1 ≥ nx := by omega
    obtain ⟨N', h2⟩ := ih (p ++ [g]) (N ++ [.cells [.int .i64 g.1, .int .i64 g.2.1, .str g.2.2.1, .str g.2.2.2]]) (by rw [hp]; simp)
    simp only [List.length_append, List.length_cons, List.length_nil, Nat.zero_add] at h2
    refine ⟨N', ?_⟩
    refine loop_step l_law14_FoldParts_0.eq_1 k_law14_FoldParts_0.eq_1 (by kernel_rfl) ?_
    simp only [go_sem, h1, e0, e7, e1, n1, n2, k1, k2, e6, reduceCtorEq, ↓reduceIte, Nat.reduceAdd, Nat.reduceEqDiff, Nat.reduceLT, Int.reduceLE, Nat.reduceSub, Nat.reduceLeDiff, Nat.reduceMul, Int.reduceToNat, Int.reduceLT, Int.reduceEq, Int.reduceNeg, Nat.reduceBEq, Nat.reduceBNe]
    exact h2

set_option maxHeartbeats 2000000 in
theorem parts_spec14 (t : List Int) (from_ n m : Int) (only : Bool) (ht : ∀ x ∈ t, I64 x) (hl : t.length * 8 ≤ 140737488351232) (hf0 : I64 from_) (hn : I64 n) (hm : I64 m) :
    W n_law14_FoldParts [.list 1 (ints .i64 t) .ro, .int .i64 from_, .int .i64 n, .int .i64 m, .bool only] [] = some (.bool true, []) := by
  obtain ⟨f, t1, hf⟩ : ∃ f, W n_keep_Row [.list 1 (ints .i64 t) .ro, .int .i64 0, .int .i64 20] (hx [] []) = some (.list 7 ((rowOf t 0 20).map Ba.V) f, hx [] []) ∧ (f = .ro ∨ (f = .full ∧ rowOf t 0 20 = [])) := row_spec t (by omega) 0 (by decide) (by decide) 20 (by decide) (hx [] [])
  have hri := row_ri t (by omega) 0 (by decide) (by decide) 20
  have hfit : ∀ b ∈ rowOf t 0 20, Fit b := hri.fit
  have hlen : (rowOf t 0 20).length ≤ 20 := hri.len
  have hrow := row_rowC t 0 20
  generalize rowOf t 0 20 = L at *
  have te := fun H => fend_spec L hfit (by omega) 0 H
  have hE0 := endE_le hfit hrow
  have hE1 := endE_bound hfit hrow
  have hE2 : endE 0 L ≤ 320 := by omega
  obtain ⟨o, ho⟩ : ∃ o, (from_ % 65536).tmod (endE 0 L + 1) = o := ⟨_, rfl⟩
  have ho0 : 0 ≤ o := by rw [← ho]; exact Int.tmod_nonneg _ (by omega)
  have ho1 : o ≤ endE 0 L := by rw [← ho]; have := Int.tmod_lt_of_pos (from_ % 65536) (show 0 < endE 0 L + 1 by omega); omega
  obtain ⟨na, hna⟩ : ∃ na, 1 + n % 16 = na := ⟨_, rfl⟩
  obtain ⟨nb, hnb⟩ : ∃ nb, na + m % 32 = nb := ⟨_, rfl⟩
  have hr := records_rise o (topE 0 L only) L 0 hfit hrow
  have hof := records_off o (topE 0 L only) L hfit
  obtain ⟨D1, ta⟩ := fetch_spec L hfit (by omega) 0 o na only (by omega) (by omega) ho0 ho1 (hx [] [])
  unfold fRecs at ta
  have nl := next_le o (topE 0 L only) na nb (recordsL o (topE 0 L only) L) hr.1 (fun g hg => ⟨(hof g hg).1, (hof g hg).2.1⟩) (by omega) (by omega)
  have n1 := next_all o (topE 0 L only) na (recordsL o (topE 0 L only) L) hr.1 (fun g hg => ⟨(hof g hg).1, (hof g hg).2.1⟩) (by omega)
  have n2 := next_all o (topE 0 L only) nb (recordsL o (topE 0 L only) L) hr.1 (fun g hg => ⟨(hof g hg).1, (hof g hg).2.1⟩) (by omega)
  obtain ⟨D2, tb⟩ := fetch_spec L hfit (by omega) 0 o nb only (by omega) (by omega) ho0 ho1 (hx [] [.cells [.list 4 (((recordsL o (topE 0 L only) L).take na.toNat).map gV) .ro, .list 3 (D1.map laV) .ro, .int .i64 (fNext o (topE 0 L only) na ((recordsL o (topE 0 L only) L).take na.toNat)), .int .i64 (stableE 0 L)]])
  unfold fRecs at tb
  have hln := recordsL_len o (topE 0 L only) L hfit
  generalize stableE 0 L = st at *
  generalize recordsL o (topE 0 L only) L = R0 at *
  have hRA : R0.take na.toNat = (R0.take nb.toNat).take na.toNat := by rw [List.take_take, Nat.min_eq_left (by omega)]
  have hlb : (R0.take nb.toNat).length ≤ 320 := Nat.le_trans (List.length_take_le _ _) (by omega)
  generalize hRB : R0.take nb.toNat = RB at *
  rw [hRA] at ta tb nl n1
  generalize hRA' : RB.take na.toNat = RA at *
  have hla : RA.length ≤ RB.length := by rw [← hRA', List.length_take]; omega
  have hpre : (RB.map gV).take RA.length = RA.map gV := by
    rw [← List.map_take]; congr 1
    rw [← hRA', List.length_take]
    by_cases hc : na.toNat ≤ RB.length
    · rw [Nat.min_eq_left hc]
    · rw [Nat.min_eq_right (by omega), List.take_of_length_le (by omega), List.take_of_length_le (by omega)]
  generalize fNext o (topE 0 L only) na RA = xa at *
  generalize fNext o (topE 0 L only) nb RB = xb at *
  have tg := fun H => gots_self RA (by omega) H
  obtain ⟨N', tl⟩ := parts_loop o xb st RB (.list 3 (D2.map laV) .ro) n2.1 (by omega) (.list 4 (RB.map gV) .ro) (.cells [.list 4 (RA.map gV) .ro, .list 3 (D1.map laV) .ro, .int .i64 xa, .int .i64 st]) [] [] RB [] [] rfl
  simp only [List.length_nil, Int.natCast_zero] at tl
  have e1 : ¬ endE 0 L < 0 := by omega
  have e2 : ¬ endE 0 L > 1048576 := by omega
  have w1 : IntKind.i64.wrap (endE 0 L + 1) = endE 0 L + 1 := wrap_id (by unfold I64; omega)
  have w0 : ¬ (endE 0 L + 1 = 0) := by omega
  have w2 : IntKind.i64.wrap (1 + n % 16) = na := by rw [hna]; exact wrap_id (by unfold I64; omega)
  have w3 : IntKind.i64.wrap (na + m % 32) = nb := by rw [hnb]; exact wrap_id (by unfold I64; omega)
  have k1 : ¬ ((RA.length : Nat) : Int) > (RB.length : Nat) := by omega
  have k2 : ¬ xa > xb := by omega
  have k3 : xa ≥ o := n1.2
  have g3 : (0 : Int) ≤ (RA.length : Nat) := by omega
  have g4 : ((RA.length : Nat) : Int).toNat = RA.length := by omega
  have g5 : ((RA.length : Nat) : Int) ≤ (RB.length : Nat) := by omega
  have kn := known_spec
  clear hRA hRB hRA' hr hof hrow hfit hri n1 n2 nl hna hnb
  generalize endE 0 L = E at *
  refine W_fn rfl rfl ?_
  rcases hf with rfl | ⟨rfl, hnil⟩
  · simp only [go_sem, c_law14_FoldParts, t1, te, e1, e2, and_16, w1, w0, ho, and_4, w2, and_5, w3, ta, tb, k1, List.length_map, slH, g3, g4, g5, hpre, tg, k2, tl, k3, kn, reduceCtorEq, ↓reduceIte, Nat.reduceAdd, Nat.reduceEqDiff, Nat.reduceLT, Int.reduceLE, Nat.reduceSub, Nat.reduceLeDiff, Nat.reduceMul, Int.reduceToNat, Int.reduceLT, Int.reduceEq, Int.reduceNeg, Nat.reduceBEq, Nat.reduceBNe]
  · simp only [go_sem, c_law14_FoldParts, t1, te, e1, e2, and_16, w1, w0, ho, and_4, w2, and_5, w3, ta, tb, k1, List.length_map, slH, g3, g4, g5, hpre, tg, k2, tl, k3, kn, reduceCtorEq, ↓reduceIte, Nat.reduceAdd, Nat.reduceEqDiff, Nat.reduceLT, Int.reduceLE, Nat.reduceSub, Nat.reduceLeDiff, Nat.reduceMul, Int.reduceToNat, Int.reduceLT, Int.reduceEq, Int.reduceNeg, Nat.reduceBEq, Nat.reduceBNe]
end Go.Abs
