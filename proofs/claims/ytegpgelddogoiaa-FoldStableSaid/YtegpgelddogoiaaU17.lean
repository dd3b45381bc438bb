import Derived.Test.YtegpgelddogoiaaBS5
import Derived.Test.YtegpgelddogoiaaB0
namespace Go.Abs
open Go Go.RowKit
set_option linter.unusedVariables false
set_option linter.unusedSimpArgs false

/-! ## The marker of the one that is open first -/
theorem right_named {b : Ba} (hr : rightE b = 0) (h : ¬ b.prod < 0) : namedB b = true := by
  have hn : noneB b = false := by unfold noneB; simp; intro h'; omega
  unfold rightE at hr
  split at hr
  · cases hr
  split at hr
  · unfold dataE at hr
    cases hm : namedB b with
    | true => rfl
    | false => simp [hn, hm] at hr
  · unfold markE at hr
    cases hm : namedB b with
    | true => rfl
    | false => simp [hm] at hr
def NE (p : Pr) : Prop := 0 ≤ p.id ∧ 0 ≤ p.epoch ∧ p.epoch ≤ 32767
theorem applyP_ne {b : Ba} (hr : rightE b = 0) (h : ¬ b.prod < 0) (p : Pr) (k : Bool) : NE (applyP p k b) := by
  have hn := right_named hr h
  unfold namedB at hn
  simp only [Bool.and_eq_true, decide_eq_true_eq] at hn
  unfold NE applyP
  split <;> exact ⟨by simp only; omega, hn.2.1, hn.2.2⟩
theorem tabL_ne {L : List Pr} {b : Ba} (hr : rightE b = 0) (h : ∀ p ∈ L, NE p) : ∀ p ∈ tabL L b, NE p := by
  intro p hp
  unfold tabL at hp
  by_cases c : b.prod < 0
  · rw [if_pos (.inr c)] at hp; exact h p hp
  · rw [if_neg (by omega)] at hp
    cases ha : atP b.prod L with
    | some q =>
      rw [ha] at hp
      rcases List.mem_or_eq_of_mem_set hp with hp | rfl
      · exact h p hp
      · exact applyP_ne hr c _ _
    | none =>
      rw [ha] at hp
      simp only [List.mem_append, List.mem_singleton] at hp
      rcases hp with (hp | rfl) | hp
      · exact h p (List.mem_of_mem_take hp)
      · exact applyP_ne hr c _ _
      · exact h p (List.mem_of_mem_drop hp)
theorem foldL_ne : ∀ (A : List Ba) (L : List Pr), (∀ b ∈ A, Fit b) → (∀ p ∈ L, NE p) → ∀ p ∈ foldL A L, NE p
  | [], _, _, h => h
  | b :: A, L, hA, h => foldL_ne A _ (fun x hx => hA x (List.mem_cons_of_mem _ hx)) (tabL_ne (hA b List.mem_cons_self).right h)
theorem endE_snoc (s : Int) (L : List Ba) (b : Ba) : endE s (L ++ [b]) = b.base + countE b := by unfold endE; simp

def markM (e : Int) (x : Pr) (w : Int) : Ba := ⟨e, x.id, x.epoch, -1, true, 1 + w, []⟩
theorem stable_marker (L : List Ba) (hL : ∀ b ∈ L, Fit b) (hr : RowC 0 L) (hlen : L.length ≤ 20) (hopen : (openM (foldL L [])).2 = true) (x : Pr) (hx : x ∈ foldL L []) (hxo : x.open_ = (openM (foldL L [])).1) (w : Int) (hw : 0 ≤ w ∧ w ≤ 1) :
    Fit (markM (endE 0 L) x w) ∧ stableE 0 (L ++ [markM (endE 0 L) x w]) > (openM (foldL L [])).1 ∧ endE 0 (L ++ [markM (endE 0 L) x w]) = endE 0 L + 1 := by
  have hE0 := endE_le hL hr
  have hE1 := endE_bound hL hr
  have hpr := foldL_ok L [] (fun b hb => (hL b hb).ok) (by simp) x hx
  have hne := foldL_ne L [] hL (by simp) x hx
  have hrep := (foldL_rep L [] _ hL List.Pairwise.nil rep_nil).2
  have hlst := hrep.least
  have hO := (OIs.nil (Int.le_refl 0)).fold hL hr
  have hval := hrep.val x hx
  change Least (openM (foldL L [])) (opens L) at hlst
  change OIs (endE 0 L) (opens L) at hO
  change x.open_ = opens L x.id at hval
  have hfit : Fit (markM (endE 0 L) x w) := by
    refine ⟨⟨?_, ?_, ?_, ?_, ?_⟩, ?_⟩
    · show I64 (endE 0 L); unfold I64; omega
    · exact hpr.id
    · show I64 x.epoch; unfold NE at hne; unfold I64; omega
    · show I64 (-1); exact i64_c (by decide) (by decide)
    · show I64 (1 + w); unfold I64; omega
    · unfold rightE
      rw [if_neg (by show ¬ (endE 0 L < 0 ∨ endE 0 L > 1099511627776); omega), if_neg (by show ¬ (1 + w = 0); omega)]
      have : markE (markM (endE 0 L) x w) = false := by
        have hn : namedB (markM (endE 0 L) x w) = true := by
          unfold namedB markM
          unfold NE at hne
          simp only [Bool.and_eq_true, decide_eq_true_eq]
          omega
        unfold markE
        rw [hn]
        have : (markM (endE 0 L) x w).mark = 1 ∨ (markM (endE 0 L) x w).mark = 2 := by show 1 + w = 1 ∨ 1 + w = 2; omega
        rcases this with h | h
        · rw [h]; rfl
        · rw [h]; rfl
      rw [this, if_neg (by decide)]
  have hend : endE 0 (L ++ [markM (endE 0 L) x w]) = endE 0 L + 1 := by
    rw [endE_snoc]
    show endE 0 L + countE (markM (endE 0 L) x w) = _
    unfold countE
    rw [if_neg (by show ¬ (1 + w = 0); omega)]
  refine ⟨hfit, ?_, hend⟩
  have hst := stable_stab 0 (L ++ [markM (endE 0 L) x w]) (by
    intro b hb
    rw [List.mem_append, List.mem_singleton] at hb
    rcases hb with hb | rfl
    · exact hL b hb
    · exact hfit)
  rw [hend, opens_snoc] at hst
  rcases hlst with ⟨_, l2, ⟨id0, l3⟩, l4⟩ | ⟨l1, _⟩
  · have hi0 := hO.hi id0
    generalize (openM (foldL L [])).1 = first at *
    rcases hst with ⟨h1, _⟩ | ⟨h0, ⟨id, h1⟩, _⟩
    · omega
    · rcases stepO_cases (opens L) (markM (endE 0 L) x w) id with e | ⟨_, _, e⟩ | ⟨_, _, _, _, e, _⟩
      · rw [e] at h1
        have h4 := l4 id (by omega)
        by_cases hid : id = x.id
        · exfalso
          have : stepO (opens L) (markM (endE 0 L) x w) id = -1 := by
            unfold stepO
            rw [if_pos ⟨hid, hne.1⟩, if_pos (by show 1 + w ≠ 0; omega)]
          omega
        · have : opens L id ≠ first := fun h => hid (hO.inj id x.id (by omega) (by omega))
          omega
      · omega
      · exfalso; have e : 1 + w = 0 := e; omega
  · rw [l1] at hopen; cases hopen
theorem first_in (L : List Ba) (hL : ∀ b ∈ L, Fit b) (hr : RowC 0 L) (hopen : (openM (foldL L [])).2 = true) :
    (∃ x ∈ foldL L [], x.open_ = (openM (foldL L [])).1) ∧ (openM (foldL L [])).1 < endE 0 L := by
  have hrep := (foldL_rep L [] _ hL List.Pairwise.nil rep_nil).2
  have hlst := hrep.least
  have hO := (OIs.nil (Int.le_refl 0)).fold hL hr
  rcases hlst with ⟨_, l2, ⟨id0, l3⟩, l4⟩ | ⟨l1, _⟩
  · refine ⟨?_, by have := hO.hi id0; omega⟩
    by_cases hex : ∃ p ∈ foldL L [], p.id = id0
    · obtain ⟨p, hp, e⟩ := hex
      exact ⟨p, hp, by rw [hrep.val p hp, e, l3]⟩
    · have := hrep.neg id0 (fun p hp e => hex ⟨p, hp, e⟩)
      omega
  · rw [l1] at hopen; cases hopen

set_option maxHeartbeats 2000000 in
theorem stable_loop (L : List Ba) (hL : ∀ b ∈ L, Fit b) (hr : RowC 0 L) (hlen : L.length ≤ 20) (hopen : (openM (foldL L [])).2 = true) (marker : Int) (hPl : (foldL L []).length ≤ 100000) (r : List Pr) : ∀ (p : List Pr) (N : Heap), foldL L [] = p ++ r → (∃ x ∈ r, x.open_ = (openM (foldL L [])).1) →
    ∃ N', loopA W loopW (.ghost (.kill k_law14_FoldStable_0) l_law14_FoldStable_0) [(1, .int .i64 marker), (5, .list 7 (L.map Ba.V) .ro), (8, .int .i64 (openM (foldL L [])).1), (9, .int .i64 (endE 0 L)), (10, .int .i64 (openM (foldL L [])).1), (43, .list 4 ((foldL L []).map Pr.V) .ro), (44, .int .i64 ((foldL L []).length : Nat)), (45, .int .i64 (p.length : Nat))] (hx [] N) =
      some (.ret, [(4, .bool true)], hx [] N') := by
  have hE0 := endE_le hL hr
  have hE1 := endE_bound hL hr
  have hsm := stable_marker L hL hr hlen hopen
  have hlt := (first_in L hL hr hopen).2
  have hst0 : stableE 0 L = (openM (foldL L [])).1 := by unfold stableE; rw [open_same L hL, if_pos hopen]
  generalize hPL : foldL L [] = PL at *
  generalize (openM PL).1 = first at *
  induction r with
  | nil => intro p N hp h; obtain ⟨x, hx, _⟩ := h; cases hx
  | cons x r ih =>
    intro p N hp hex
    have hlen2 : PL.length = p.length + (r.length + 1) := by rw [hp]; simp
    have h1 : ((p.length : Int) < (PL.length : Int)) := by omega
    have e0 : (0 : Int) ≤ (p.length : Int) := by omega
    have e7 : ((p.length : Nat) : Int).toNat = p.length := by omega
    have e1 : (PL.map Pr.V)[p.length]? = some (.agg [.int .i64 x.id, .int .i64 x.epoch, .list 3 (x.last.map laV) .ro, .int .i64 x.open_]) := by rw [hp]; simp [Pr.V, Pr.cs]
    have e6 : IntKind.i64.wrap ((p.length : Int) + 1) = ((p.length + 1 : Nat) : Int) := by rw [wrap_id (by unfold I64; omega)]; omega
    have n1 : ∀ x : Box, (N ++ [x])[N.length]? = some x := fun x => by simp
    have n2 : ∀ x z : Box, (N ++ [x]).set N.length z = N ++ [z] := fun x z => by simp
    by_cases c : x.open_ = first
    · have tw := fun H => within_spec marker 0 1 H (by decide) (by decide) (by decide)
      have rw_ := withinQ_range marker 0 1 (by decide)
      generalize withinQ marker 0 1 = w at *
      have w1 : IntKind.i64.wrap (1 + w) = 1 + w := wrap_id (by unfold I64; omega)
      have w2 : IntKind.i64.wrap (endE 0 L + 1) = endE 0 L + 1 := wrap_id (by unfold I64; omega)
      obtain ⟨g1, g2, g3⟩ := hsm x (by rw [hp]; simp) c w rw_
      have hLm : ∀ b ∈ L ++ [markM (endE 0 L) x w], Fit b := by
        intro b hb
        rw [List.mem_append, List.mem_singleton] at hb
        rcases hb with hb | rfl
        · exact hL b hb
        · exact g1
      have ts := fun H => stable_spec (L ++ [markM (endE 0 L) x w]) hLm (by simp; omega) 0 H
      have te := fun H => fend_spec (L ++ [markM (endE 0 L) x w]) hLm (by simp; omega) 0 H
      rw [g3] at te
      have ea : L.map Ba.V ++ [.agg [.int .i64 (endE 0 L), .int .i64 x.id, .int .i64 x.epoch, .int .i64 (-1), .bool true, .int .i64 (1 + w), .list 2 [] .ro]] = (L ++ [markM (endE 0 L) x w]).map Ba.V := by simp [Ba.V, Ba.cs, markM]
      generalize stableE 0 (L ++ [markM (endE 0 L) x w]) = sv at *
      generalize L ++ [markM (endE 0 L) x w] = Lm at *
      have b1 : (0 + L.length) * 72 ≤ maxBytes := by simp only [maxBytes]; omega
      have b2 : (L.length + 1) * 72 ≤ maxBytes := by simp only [maxBytes]; omega
      have kn := known_spec
      generalize endE 0 L = E at *
      refine ⟨?_, ?_⟩
      rotate_left
      · refine loop_step l_law14_FoldStable_0.eq_1 k_law14_FoldStable_0.eq_1 (by kernel_rfl) ?_
        simp only [go_sem, h1, e0, e7, e1, n1, n2, eq_true c, tw, w1, w2, apF, apO, List.length_nil, List.nil_append, List.length_map, b1, b2, ea, hlt, ts, te, g2, kn, List.length_append, reduceCtorEq, ↓reduceIte, Nat.reduceAdd, Nat.reduceEqDiff, Nat.reduceLT, Int.reduceLE, Nat.reduceSub, Nat.reduceLeDiff, Nat.reduceMul, Int.reduceToNat, Int.reduceLT, Int.reduceEq, Int.reduceNeg, Nat.reduceBEq, Nat.reduceBNe]
        rfl
    · have hex' : ∃ x ∈ r, x.open_ = first := by
        obtain ⟨y, hy, hyo⟩ := hex
        rcases List.mem_cons.1 hy with rfl | hy
        · exact absurd hyo c
        · exact ⟨y, hy, hyo⟩
      obtain ⟨N', h2⟩ := ih (p ++ [x]) (N ++ [.cells x.cs]) (by rw [hp]; simp) hex'
      simp only [List.length_append, List.length_cons, List.length_nil, Nat.zero_add] at h2
      refine ⟨N', ?_⟩
      unfold Pr.cs at h2
      refine loop_step l_law14_FoldStable_0.eq_1 k_law14_FoldStable_0.eq_1 (by kernel_rfl) ?_
      simp only [go_sem, h1, e0, e7, e1, n1, n2, c, e6, reduceCtorEq, ↓reduceIte, Nat.reduceAdd, Nat.reduceEqDiff, Nat.reduceLT, Int.reduceLE, Nat.reduceSub, Nat.reduceLeDiff, Nat.reduceMul, Int.reduceToNat, Int.reduceLT, Int.reduceEq, Int.reduceNeg, Nat.reduceBEq, Nat.reduceBNe]
      exact h2

theorem foldF_ok14 : ∀ (A : List Ba) (L : List Pr) (fl : Fl), (fl = .own ∨ (fl = .full ∧ L = [])) → foldF A L fl = .own ∨ (foldF A L fl = .full ∧ foldL A L = [])
  | [], _, _, h => h
  | b :: A, L, fl, h => foldF_ok14 A (tabL L b) (newFl L b fl) (newFl_ok h)
theorem stable_spec14 (t : List Int) (marker : Int) (ht : ∀ x ∈ t, I64 x) (hl : t.length * 8 ≤ 140737488351232) (hm : I64 marker) :
    W n_law14_FoldStable [.list 1 (ints .i64 t) .ro, .int .i64 marker] [] = some (.bool true, []) := by
  obtain ⟨f, t1, hf⟩ : ∃ f, W n_keep_Row [.list 1 (ints .i64 t) .ro, .int .i64 0, .int .i64 20] (hx [] []) = some (.list 7 ((rowOf t 0 20).map Ba.V) f, hx [] []) ∧ (f = .ro ∨ (f = .full ∧ rowOf t 0 20 = [])) := row_spec t (by omega) 0 (by decide) (by decide) 20 (by decide) (hx [] [])
  have hri := row_ri t (by omega) 0 (by decide) (by decide) 20
  have hfit : ∀ b ∈ rowOf t 0 20, Fit b := hri.fit
  have hlen : (rowOf t 0 20).length ≤ 20 := hri.len
  have hrow := row_rowC t 0 20
  generalize rowOf t 0 20 = L at *
  obtain ⟨M, t2⟩ := fold_spec L (fun b hb => (hfit b hb).ok) (by omega) (hx [] [])
  have p0 : pt (hx [] []) 0 = pt [] 0 := by rw [hx_nil]
  rw [p0, hx_hx, List.nil_append] at t2
  have hTK := foldL_TK L [] 0 ⟨by simp, by simp⟩
  have hPl : (foldL L []).length ≤ 100000 := by have := hTK.len; omega
  have hfl : foldF L [] .full = .own ∨ (foldF L [] .full = .full ∧ foldL L [] = []) := foldF_ok14 L [] .full (.inr ⟨rfl, rfl⟩)
  have t3 := fun H i hi => ropen_spec (foldL L []) hPl (foldF L [] .full) hfl i H hi
  have t3' := fun M => t3 (hx [] (tabB (foldL L []) (foldF L [] .full) :: M)) (pt [] 0) ⟨by rw [hx_get]; rfl⟩
  have t4 := fun H => stable_spec L hfit (by omega) 0 H
  have t5 := fun H => fend_spec L hfit (by omega) 0 H
  have kn := known_spec
  have hst : stableE 0 L = if (openM (foldL L [])).2 = true then (openM (foldL L [])).1 else endE 0 L := by unfold stableE; rw [open_same L hfit]
  cases ho : (openM (foldL L [])).2 with
  | false =>
    rw [ho, if_neg (by decide)] at hst
    rw [hst] at t4
    simp only [ho] at t3'
    generalize (openM (foldL L [])).1 = o1 at *
    generalize endE 0 L = E at *
    unfold tabB at t2 t3'
    generalize (foldD L []).map laV = DD at *
    generalize dFl (foldD L []) = df at *
    refine W_fn rfl rfl ?_
    rcases hf with rfl | ⟨rfl, hnil⟩
    · simp only [go_sem, c_law14_FoldStable, t1, t2, t3', t4, t5, kn, reduceCtorEq, ↓reduceIte, Nat.reduceAdd, Nat.reduceEqDiff, Nat.reduceLT, Int.reduceLE, Nat.reduceSub, Nat.reduceLeDiff, Nat.reduceMul, Int.reduceToNat, Int.reduceLT, Int.reduceEq, Int.reduceNeg, Nat.reduceBEq, Nat.reduceBNe]
      done
    · simp only [go_sem, c_law14_FoldStable, t1, t2, t3', t4, t5, kn, reduceCtorEq, ↓reduceIte, Nat.reduceAdd, Nat.reduceEqDiff, Nat.reduceLT, Int.reduceLE, Nat.reduceSub, Nat.reduceLeDiff, Nat.reduceMul, Int.reduceToNat, Int.reduceLT, Int.reduceEq, Int.reduceNeg, Nat.reduceBEq, Nat.reduceBNe]
      done
  | true =>
    have hx1 := first_in L hfit hrow ho
    have hne : foldL L [] ≠ [] := by intro h; rw [h] at ho; cases ho
    have hLne : L ≠ [] := by intro h; rw [h] at hne; exact hne rfl
    obtain ⟨N', tl⟩ := stable_loop L hfit hrow hlen ho marker hPl (foldL L []) [] (tabB (foldL L []) .own :: M) rfl hx1.1
    rw [ho, if_pos rfl] at hst
    rw [hst] at t4
    simp only [ho] at t3'
    simp only [List.length_nil, Int.natCast_zero] at tl
    have hfo : foldF L [] .full = .own := by
      rcases hfl with h | ⟨_, h⟩
      · exact h
      · exact absurd h hne
    rw [hfo] at t2 t3'
    generalize (openM (foldL L [])).1 = o1 at *
    generalize endE 0 L = E at *
    generalize foldL L [] = PL at *
    unfold tabB at t2 t3' tl
    generalize (foldD L []).map laV = DD at *
    generalize dFl (foldD L []) = df at *
    refine W_fn rfl rfl ?_
    rcases hf with rfl | ⟨rfl, hnil⟩
    · simp only [go_sem, c_law14_FoldStable, t1, t2, t3', t4, t5, List.length_map, tl, reduceCtorEq, ↓reduceIte, Nat.reduceAdd, Nat.reduceEqDiff, Nat.reduceLT, Int.reduceLE, Nat.reduceSub, Nat.reduceLeDiff, Nat.reduceMul, Int.reduceToNat, Int.reduceLT, Int.reduceEq, Int.reduceNeg, Nat.reduceBEq, Nat.reduceBNe]
      done
    · exact absurd hnil hLne
end Go.Abs
