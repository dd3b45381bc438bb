import Derived.Test.YtheaccppdikjgaaGreatDoorBS2
set_option linter.unusedVariables false
set_option linter.unusedSimpArgs false
namespace Go.Abs
open Go Go.RowKit
def topE (start : Int) (L : List Ba) (only : Bool) : Int := if only = true then stableE start L else endE start L
def fRecs (lo top n : Int) (L : List Ba) : List Gt := (recordsL lo top L).take n.toNat
def fNext (lo top n : Int) (R : List Gt) : Int := if (R.length : Int) = n then (match R.getLast? with | some g => g.1 + 1 | none => 0) else mx lo top
theorem recordsL_len (lo hi : Int) : ∀ (L : List Ba), (∀ b ∈ L, Fit b) → (recordsL lo hi L).length ≤ 16 * L.length
 | [], _ => by simp [recordsL]
 | b :: L, h => by
  have h1 := recordsL_len lo hi L (fun x hx => h x (List.mem_cons_of_mem _ hx))
  have h2 := recB_len b (h b List.mem_cons_self) lo hi
  unfold recordsL
  rw [List.length_append, List.length_cons]; omega
theorem recsF_off (b : Ba) (lo hi : Int) : ∀ (rs : List Rc) (i : Int), ∀ g ∈ recsF b lo hi i rs, lo ≤ g.1 ∧ g.1 < hi ∧ b.base + i ≤ g.1 ∧ g.1 < b.base + i + rs.length
 | [], _, g, h => by cases h
 | r :: rs, i, g, h => by
  unfold recsF at h
  have ih := recsF_off b lo hi rs (i + 1) g
  have hl : ((r :: rs).length : Int) = rs.length + 1 := by simp
  rw [hl]
  split at h
  ·rename_i c
   rcases List.mem_cons.1 h with rfl | h
   ·simp only; omega
   ·have := ih h; omega
  ·have := ih h; omega
theorem records_off (lo hi : Int) : ∀ (L : List Ba), (∀ b ∈ L, Fit b) → ∀ g ∈ recordsL lo hi L, lo ≤ g.1 ∧ g.1 < hi ∧ I64 (g.1 + 1)
 | [], _, g, h => by cases h
 | b :: L, hL, g, h => by
  unfold recordsL at h
  rcases List.mem_append.1 h with h | h
  ·unfold recB at h
   split at h
   ·have h1 := recsF_off b lo hi b.recs 0 g h
    have h2 := (hL b List.mem_cons_self).base
    have h3 := (rightE_small (hL b List.mem_cons_self).right).1
    refine ⟨h1.1, h1.2.1, ?_⟩
    unfold I64; omega
   ·cases h
  ·exact records_off lo hi L (fun x hx => hL x (List.mem_cons_of_mem _ hx)) g h
set_option maxHeartbeats 2000000 in
theorem fetch_spec (L : List Ba) (hL : ∀ b ∈ L, Fit b) (hn : L.length ≤ 1000) (start lo n : Int) (only : Bool) (h1 : 1 ≤ n) (h2 : n ≤ 64) (h3 : start ≤ lo) (h4 : lo ≤ endE start L) (H : Heap) :
  ∃ D : List La, W n_fold_Fetch [.int .i64 start, .list 7 (L.map Ba.V) .ro, .int .i64 lo, .int .i64 n, .bool only] H =
   some (.tuple [.agg [.list 4 ((fRecs lo (topE start L only) n L).map gV) .ro, .list 3 (D.map laV) .ro, .int .i64 (fNext lo (topE start L only) n (fRecs lo (topE start L only) n L)), .int .i64 (stableE start L)], .int .i64 0], H) ∧
   D = if only = true then (abOf L [] []).filter (inR lo (fNext lo (topE start L only) n (fRecs lo (topE start L only) n L))) else [] := by
 have te := fun H => fend_spec L hL (by omega) start H
 have ts := fun H => stable_spec L hL hn start H
 have tr := fun H => records_spec L hL hn start lo (topE start L only) H
 have ho := records_off lo (topE start L only) L hL
 have hln := recordsL_len lo (topE start L only) L hL
 have c1 : ¬ n < 1 := by omega
 have c2 : ¬ n > 64 := by omega
 have c3 : ¬ lo < start := by omega
 have c4 : ¬ lo > endE start L := by omega
 have hR : ∃ R, fRecs lo (topE start L only) n L = R := ⟨_, rfl⟩
 obtain ⟨R, hR⟩ := hR
 rw [hR]
 unfold fRecs at hR
 have m1 : mn ((recordsL lo (topE start L only) L).length : Int) n = (R.length : Nat) := by
  rw [← hR, List.length_take]; unfold mn; split <;> omega
 have g0 : (0 : Int) ≤ (R.length : Nat) := by omega
 have g1 : ((R.length : Nat) : Int) ≤ ((recordsL lo (topE start L only) L).length : Nat) := by rw [← hR, List.length_take]; omega
 have g2 : ((R.length : Nat) : Int).toNat = R.length := by omega
 have g3 : ((recordsL lo (topE start L only) L).map gV).take R.length = R.map gV := by
  rw [← List.map_take]
  congr 1
  rw [← hR, List.length_take]
  by_cases hc : n.toNat ≤ (recordsL lo (topE start L only) L).length
  ·rw [Nat.min_eq_left hc]
  ·rw [Nat.min_eq_right (by omega), List.take_of_length_le (by omega), List.take_of_length_le (by omega)]
 have ho' : ∀ g ∈ R, I64 (g.1 + 1) := fun g hg => (ho g (by rw [← hR] at hg; exact List.mem_of_mem_take hg)).2.2
 have tc := fun H => clip_got (R.map gV) .ro (.inl rfl) H
 generalize recordsL lo (topE start L only) L = R0 at *
 have hRl : R.length ≤ 64 := by rw [← hR, List.length_take]; omega
 clear hR
 cases only with
 | false =>
  simp only [topE, Bool.false_eq_true, if_false] at *
  generalize endE start L = top at *
  generalize stableE start L = st at *
  unfold fNext
  by_cases c5 : (R.length : Int) = n
  ·rcases List.eq_nil_or_concat R with rfl | ⟨R', g, hg⟩
   ·simp at c5; omega
   ·rw [List.concat_eq_append] at hg
    have hgo := ho' g (by rw [hg]; simp)
    have hl : R.length = R'.length + 1 := by rw [hg]; simp
    have w1 : IntKind.i64.wrap ((R.length : Int) - 1) = ((R'.length : Nat) : Int) := by rw [wrap_id (by unfold I64; omega)]; omega
    have e0 : (0 : Int) ≤ ((R'.length : Nat) : Int) := by omega
    have e7 : ((R'.length : Nat) : Int).toNat = R'.length := by omega
    have e1 : (R.map gV)[R'.length]? = some (.agg [.int .i64 g.1, .int .i64 g.2.1, .str g.2.2.1, .str g.2.2.2]) := by rw [hg]; simp [gV]
    have w2 : IntKind.i64.wrap (g.1 + 1) = g.1 + 1 := wrap_id hgo
    have e9 : R.getLast? = some g := by rw [hg]; simp
    rw [if_pos c5, e9]
    refine ⟨[], ?_, rfl⟩
    ·refine W_fn rfl rfl ?_
     simp only [go_sem, c_fold_Fetch, te, ts, tr, tc, c1, c2, c3, c4, m1, slH, g0, g1, g2, g3, List.length_map, mm_mn, eq_true c5, w1, e0, e7, e1, w2, under_g, simprocAttr]
     first | done | rfl
  ·rw [if_neg c5]
   refine ⟨[], ?_, rfl⟩
   ·refine W_fn rfl rfl ?_
    simp only [go_sem, c_fold_Fetch, te, ts, tr, tc, c1, c2, c3, c4, m1, slH, g0, g1, g2, g3, List.length_map, mm_mn, c5, under_g, simprocAttr]
    first | done | rfl
 | true =>
  simp only [topE, if_true] at *
  generalize endE start L = top at *
  generalize stableE start L = st at *
  unfold fNext
  by_cases c5 : (R.length : Int) = n
  ·rcases List.eq_nil_or_concat R with rfl | ⟨R', g, hg⟩
   ·simp at c5; omega
   ·rw [List.concat_eq_append] at hg
    have hgo := ho' g (by rw [hg]; simp)
    have hl : R.length = R'.length + 1 := by rw [hg]; simp
    have w1 : IntKind.i64.wrap ((R.length : Int) - 1) = ((R'.length : Nat) : Int) := by rw [wrap_id (by unfold I64; omega)]; omega
    have e0 : (0 : Int) ≤ ((R'.length : Nat) : Int) := by omega
    have e7 : ((R'.length : Nat) : Int).toNat = R'.length := by omega
    have e1 : (R.map gV)[R'.length]? = some (.agg [.int .i64 g.1, .int .i64 g.2.1, .str g.2.2.1, .str g.2.2.2]) := by rw [hg]; simp [gV]
    have w2 : IntKind.i64.wrap (g.1 + 1) = g.1 + 1 := wrap_id hgo
    have e9 : R.getLast? = some g := by rw [hg]; simp
    rw [if_pos c5, e9]
    obtain ⟨N, fl, ta, hfl, hal⟩ := abof_spec L (fun b hb => (hL b hb).ok) (fun b hb => by have := (rightE_small (hL b hb).right).1; omega) hn (hx H [.cells [.list 4 [] .full, .list 3 [] .full, .int .i64 0, .int .i64 0], .cells [.list 4 (R.map gV) .full, .list 3 [] .full, .int .i64 (g.1 + 1), .int .i64 st]])
    obtain ⟨f, tw, hf⟩ := abwithin_spec (abOf L [] []) (by omega) fl hfl lo (g.1 + 1) (pt H 2) (hx H (.cells [.list 4 [] .full, .list 3 [] .full, .int .i64 0, .int .i64 0] :: .cells [.list 4 (R.map gV) .full, .list 3 [] .full, .int .i64 (g.1 + 1), .int .i64 st] :: rwB (abOf L [] []) fl :: N)) ⟨by rw [hx_get]; rfl⟩
    simp only [hx_set, List.set_cons_succ, List.set_cons_zero] at tw
    refine ⟨(abOf L [] []).filter (inR lo (g.1 + 1)), ?_, rfl⟩
    have hlen2 : ((abOf L [] []).filter (inR lo (g.1 + 1))).length ≤ 1000 := Nat.le_trans (List.length_filter_le _ _) (by omega)
    generalize (abOf L [] []).filter (inR lo (g.1 + 1)) = D at *
    generalize rwB (abOf L [] []) fl = B at *
    generalize rwB (abOf L [] []) .uniq = B' at *
    ·refine W_fn rfl rfl ?_
     rcases hf with rfl | ⟨rfl, rfl⟩
     ·simp only [go_sem, c_fold_Fetch, te, ts, tr, tc, c1, c2, c3, c4, m1, slH, g0, g1, g2, g3, List.length_map, mm_mn, eq_true c5, w1, e0, e7, e1, w2, ta, tw, under_g, under_la, simprocAttr]
      first | done | rfl
     ·simp only [List.map_nil] at tw
      simp only [go_sem, c_fold_Fetch, te, ts, tr, tc, c1, c2, c3, c4, m1, slH, g0, g1, g2, g3, List.length_map, mm_mn, eq_true c5, w1, e0, e7, e1, w2, ta, tw, under_g, simprocAttr]
  ·rw [if_neg c5]
   obtain ⟨N, fl, ta, hfl, hal⟩ := abof_spec L (fun b hb => (hL b hb).ok) (fun b hb => by have := (rightE_small (hL b hb).right).1; omega) hn (hx H [.cells [.list 4 [] .full, .list 3 [] .full, .int .i64 0, .int .i64 0], .cells [.list 4 (R.map gV) .full, .list 3 [] .full, .int .i64 (mx lo st), .int .i64 st]])
   obtain ⟨f, tw, hf⟩ := abwithin_spec (abOf L [] []) (by omega) fl hfl lo (mx lo st) (pt H 2) (hx H (.cells [.list 4 [] .full, .list 3 [] .full, .int .i64 0, .int .i64 0] :: .cells [.list 4 (R.map gV) .full, .list 3 [] .full, .int .i64 (mx lo st), .int .i64 st] :: rwB (abOf L [] []) fl :: N)) ⟨by rw [hx_get]; rfl⟩
   simp only [hx_set, List.set_cons_succ, List.set_cons_zero] at tw
   refine ⟨(abOf L [] []).filter (inR lo (mx lo st)), ?_, rfl⟩
   have hlen2 : ((abOf L [] []).filter (inR lo (mx lo st))).length ≤ 1000 := Nat.le_trans (List.length_filter_le _ _) (by omega)
   generalize (abOf L [] []).filter (inR lo (mx lo st)) = D at *
   generalize rwB (abOf L [] []) fl = B at *
   generalize rwB (abOf L [] []) .uniq = B' at *
   ·refine W_fn rfl rfl ?_
    rcases hf with rfl | ⟨rfl, rfl⟩
    ·simp only [go_sem, c_fold_Fetch, te, ts, tr, tc, c1, c2, c3, c4, m1, slH, g0, g1, g2, g3, List.length_map, mm_mn, c5, ta, tw, under_g, under_la, simprocAttr]
     first | done | rfl
    ·simp only [List.map_nil] at tw
     simp only [go_sem, c_fold_Fetch, te, ts, tr, tc, c1, c2, c3, c4, m1, slH, g0, g1, g2, g3, List.length_map, mm_mn, c5, ta, tw, under_g, simprocAttr]
end Go.Abs
namespace Go.Abs.Pq
open Go Go.RowKit
theorem follows_spec (l f : Int) (H : Heap) : W n_seq_Follows [.int .i64 l, .int .i64 f] H = some (.bool (followsQ l f), H) := by
 have hs := right_spec l
 have ha := fun H => add_spec l 1 H (by decide) (by decide)
 refine W_fn rfl rfl ?_
 by_cases h1 : l = -1
 ·simp only [go_sem, c_seq_Follows, h1, followsQ, simprocAttr]
 ·cases h : rightQ l with
  | false => rw [h] at hs; simp only [go_sem, c_seq_Follows, h1, hs, followsQ, h, simprocAttr]
  | true => rw [h] at hs; simp only [go_sem, c_seq_Follows, h1, hs, ha, followsQ, h, simprocAttr]
theorem marker_spec (p : Pr) (k : Bool) (b : Ba) (H : Heap) : W n_producer_marker [p.v, .bool k, b.v] H = some (.int .i64 (if k = false then 16 else if b.ep < p.ep then 14 else if p.op < 0 then 16 else 0), H) := by
 refine W_fn rfl rfl ?_
 cases k
 ·simp only [go_sem, c_producer_marker, simprocAttr]
 ·by_cases h1 : b.ep < p.ep
  ·simp only [go_sem, c_producer_marker, h1, simprocAttr]
  ·by_cases h2 : p.op < 0
   ·simp only [go_sem, c_producer_marker, h1, h2, simprocAttr]
   ·simp only [go_sem, c_producer_marker, h1, h2, simprocAttr]
theorem later_spec (p : Pr) (b : Ba) (H : Heap) : W n_producer_later [p.v, b.v] H = some (.int .i64 (if p.op ≥ 0 then 16 else if b.seq ≠ 0 then 15 else 0), H) := by
 refine W_fn rfl rfl ?_
 by_cases h1 : p.op ≥ 0
 ·simp only [go_sem, c_producer_later, h1, simprocAttr]
 ·by_cases h2 : b.seq = 0
  ·simp only [go_sem, c_producer_later, h1, h2, simprocAttr]
  ·simp only [go_sem, c_producer_later, h1, h2, simprocAttr]
theorem dup_loop (p : Pr) (b : Ba) (q : List (Int × Int × Int)) (i j : Nat) (hl : p.last.length < 1000000000) : ∀ (r s : List (Int × Int × Int)) (H : Heap), p.last = s ++ r → H[i]? = some (.cells [.int .i64 p.id, .int .i64 p.ep, lastV p.last .ro, .int .i64 p.op]) →
  H[j]? = some (.cells [.int .i64 b.base, .int .i64 b.prod, .int .i64 b.ep, .int .i64 b.seq, .bool b.txn, .int .i64 b.mark, .list 2 b.recs .ro]) → 
  ∃ N, loopA W loopW (.ghost (.kill k_producer_Dup_0) l_producer_Dup_0) [(2, .ptr i 0), (3, .ptr j 0), (6, .int .i64 (lastQ b.seq b.recs.length)), (16, lastV p.last .ro), (17, .int .i64 p.last.length), (18, .int .i64 (s.length : Int))] H =
   if (dupQ p b r).2 = true then some (.ret, [(4, .int .i64 (dupQ p b r).1), (5, .bool true)], hx H N) else some (.exit 0, [], hx H N) := by
 intro r
 induction r with
 | nil =>
  intro s H hp hi hj
  refine ⟨[], ?_⟩
  rw [List.append_nil] at hp
  have h1 : ¬ ((s.length : Int) < (p.last.length : Int)) := by rw [hp]; omega
  have e0 : (dupQ p b []).2 = false := rfl
  rw [e0, if_neg (by decide), hx_nil]
  refine loop_step l_producer_Dup_0.eq_1 k_producer_Dup_0.eq_1 (by kernel_rfl) ?_
  simp only [go_sem, h1, simprocAttr]
 | cons l r ih =>
  intro s H hp hi hj
  have hlen : p.last.length = s.length + (r.length + 1) := by rw [hp, List.length_append, List.length_cons]
  have h1 : (s.length : Int) < (p.last.length : Int) := by omega
  have h2 : (0 : Int) ≤ (s.length : Int) := by omega
  have h3 : (p.last.map t3)[((s.length : Nat) : Int).toNat]? = some (t3 l) := by rw [hp]; simp
  have e1 : IntKind.i64.wrap ((s.length : Int) + 1) = ((s ++ [l]).length : Int) := by rw [wrap_id (by unfold I64; omega)]; simp
  have gi := hx_old hi
  have gj := hx_old hj
  by_cases hc : b.mark = 0 ∧ b.ep = p.ep ∧ l.1 = b.seq ∧ l.2.1 = lastQ b.seq b.recs.length
  ·have e : dupQ p b (l :: r) = (l.2.2, true) := by rw [dupQ, if_pos hc]
   refine ⟨[.cells [.int .i64 l.1, .int .i64 l.2.1, .int .i64 l.2.2]], ?_⟩
   rw [e, if_pos rfl]
   refine loop_step l_producer_Dup_0.eq_1 k_producer_Dup_0.eq_1 (by kernel_rfl) ?_
   rw [← hx_nil H]
   obtain ⟨c1, c2, c3, c4⟩ := hc
   simp only [go_sem, h1, h2, h3, e1, gi, gj, c1, c2, c3, c4, simprocAttr]
  ·have e : dupQ p b (l :: r) = dupQ p b r := by rw [dupQ, if_neg hc]
   obtain ⟨N, hN⟩ := ih (s ++ [l]) (hx H [.cells [.int .i64 l.1, .int .i64 l.2.1, .int .i64 l.2.2]]) (by rw [hp]; simp) (gi _) (gj _)
   refine ⟨.cells [.int .i64 l.1, .int .i64 l.2.1, .int .i64 l.2.2] :: N, ?_⟩
   rw [e]
   rw [hx_hx, List.cons_append, List.nil_append] at hN
   have step : ∀ R, loopA W loopW (.ghost (.kill k_producer_Dup_0) l_producer_Dup_0) [(2, .ptr i 0), (3, .ptr j 0), (6, .int .i64 (lastQ b.seq b.recs.length)), (16, lastV p.last .ro), (17, .int .i64 p.last.length), (18, .int .i64 ((s ++ [l]).length : Int))] (hx H [.cells [.int .i64 l.1, .int .i64 l.2.1, .int .i64 l.2.2]]) = some R →
     loopA W loopW (.ghost (.kill k_producer_Dup_0) l_producer_Dup_0) [(2, .ptr i 0), (3, .ptr j 0), (6, .int .i64 (lastQ b.seq b.recs.length)), (16, lastV p.last .ro), (17, .int .i64 p.last.length), (18, .int .i64 (s.length : Int))] H = some R := by
    intro R hR
    refine loop_step l_producer_Dup_0.eq_1 k_producer_Dup_0.eq_1 (by kernel_rfl) ?_
    rw [← hx_nil H]
    by_cases c1 : b.mark = 0
    ·by_cases c2 : b.ep = p.ep
     ·by_cases c3 : l.1 = b.seq
      ·have c4 : ¬ l.2.1 = lastQ b.seq b.recs.length := fun h => hc ⟨c1, c2, c3, h⟩
       simp only [go_sem, h1, h2, h3, e1, gi, gj, c1, c2, c3, c4, simprocAttr]; rw [c3] at hR; exact hR
      ·simp only [go_sem, h1, h2, h3, e1, gi, gj, c1, c2, c3, simprocAttr]; exact hR
     ·simp only [go_sem, h1, h2, h3, e1, gi, gj, c1, c2, simprocAttr]; exact hR
    ·simp only [go_sem, h1, h2, h3, e1, gi, gj, c1, simprocAttr]; exact hR
   split <;> rename_i h
   ·rw [if_pos h] at hN; exact step _ hN
   ·rw [if_neg h] at hN; exact step _ hN
theorem dupQ_false (p : Pr) (b : Ba) : ∀ r, (dupQ p b r).2 = false → dupQ p b r = (-1, false)
 | [], _ => rfl
 | l :: r, h => by
  rw [dupQ] at h ⊢
  split at h
  ·cases h
  ·rename_i hc; rw [if_neg hc]; exact dupQ_false p b r h
theorem dup_spec (p : Pr) (b : Ba) (H : Heap) (hl : p.last.length < 1000000000) (hr : b.recs.length < 1000000000) :
  W n_producer_Dup [p.v, b.v] H = some (.tuple [.int .i64 (dupQ p b p.last).1, .bool (dupQ p b p.last).2], H) := by
 obtain ⟨N, hN⟩ := dup_loop p b p.last (pt H 0) (pt H 1) hl p.last [] (hx H [.cells [.int .i64 p.id, .int .i64 p.ep, lastV p.last .ro, .int .i64 p.op], .cells [.int .i64 b.base, .int .i64 b.prod, .int .i64 b.ep, .int .i64 b.seq, .bool b.txn, .int .i64 b.mark, .list 2 b.recs .ro]])
  rfl (by rw [hx_get]; rfl) (by rw [hx_get]; rfl)
 have hlast := fun H => last_spec b.seq (b.recs.length : Int) H (by unfold I64; omega)
 refine W_fn rfl rfl ?_
 have e0 : ((([] : List (Int × Int × Int)).length : Nat) : Int) = 0 := rfl
 have e1 : (p.last.map t3).length = p.last.length := by simp
 rw [e0] at hN
 cases h : (dupQ p b p.last).2 with
 | true =>
  rw [h, if_pos rfl] at hN
  simp only [go_sem, c_producer_Dup, hlast, hN, e1, simprocAttr]
 | false =>
  rw [h, if_neg (by decide)] at hN
  have := dupQ_false p b p.last h
  simp only [go_sem, c_producer_Dup, hlast, hN, e1, this, simprocAttr]
theorem check_spec (p : Pr) (k : Bool) (b : Ba) (H : Heap) (hl : p.last.length < 1000000000) (hr : b.recs.length < 1000000000) :
  W n_producer_Check [p.v, .bool k, b.v] H = some (.tuple [.int .i64 (checkQ p k b).1, .int .i64 (checkQ p k b).2], H) := by
 have hm := marker_spec p k b
 have hla := later_spec p b
 have hd := fun H => dup_spec p b H hl hr
 have e2 : (p.last.map t3).length = p.last.length := by simp
 refine W_fn rfl rfl ?_
 by_cases c1 : b.mark = 0
 ·cases k with
  | false => simp only [go_sem, c_producer_Check, eq_true c1, checkQ, simprocAttr]
  | true =>
   by_cases c2 : b.ep < p.ep
   ·simp only [go_sem, c_producer_Check, eq_true c1, c2, checkQ, simprocAttr]
   ·by_cases c3 : b.ep > p.ep
    ·simp only [go_sem, c_producer_Check, eq_true c1, c2, c3, checkQ, hla, simprocAttr]
    ·cases hq : (dupQ p b p.last).2 with
     | true => simp only [go_sem, c_producer_Check, eq_true c1, c2, c3, checkQ, hd, hq, simprocAttr]
     | false =>
      rcases List.eq_nil_or_concat p.last with h0 | ⟨s, l, h0⟩
      ·have e1 : ¬ ((p.last.length : Int) > 0) := by rw [h0]; simp
       by_cases c4 : p.op ≥ 0
       ·cases ht : b.txn <;> simp only [Ba.v, ht] at hd
        ·simp only [go_sem, c_producer_Check, eq_true c1, c2, c3, c4, checkQ, hd, hq, eq_true h0, e1, e2, ht, simprocAttr]
        ·simp only [go_sem, c_producer_Check, eq_true c1, c2, c3, c4, checkQ, hd, hq, eq_true h0, e1, e2, ht, simprocAttr]
       ·simp only [go_sem, c_producer_Check, eq_true c1, c2, c3, c4, checkQ, hd, hq, eq_true h0, e1, e2, simprocAttr]
      ·have hn : p.last ≠ [] := by rw [h0]; simp
       have e1 : (p.last.length : Int) > 0 := by rw [h0]; simp
       have e3 : IntKind.i64.wrap ((p.last.length : Int) - 1) = ((p.last.length - 1 : Nat) : Int) := by rw [wrap_id (by unfold I64; omega)]; omega
       have e4 : (p.last.map t3)[((p.last.length - 1 : Nat) : Int).toNat]? = some (t3 l) := by rw [h0]; simp
       have e5 : p.last.getLastD (0, 0, 0) = l := by rw [h0]; simp
       have e6 : (0 : Int) ≤ ((p.last.length - 1 : Nat) : Int) := by omega
       have hf := follows_spec l.2.1 b.seq
       cases hfq : followsQ l.2.1 b.seq with
       | false =>
        rw [hfq] at hf
        simp only [go_sem, c_producer_Check, eq_true c1, c2, c3, checkQ, hd, hq, hn, e1, e2, e3, e4, e5, e6, hf, hfq, simprocAttr]
       | true =>
        rw [hfq] at hf
        by_cases c4 : p.op ≥ 0
        ·cases ht : b.txn <;> simp only [Ba.v, ht] at hd
         ·simp only [go_sem, c_producer_Check, eq_true c1, c2, c3, checkQ, hd, hq, hn, e1, e2, e3, e4, e5, e6, hf, hfq, c4, ht, simprocAttr]
         ·simp only [go_sem, c_producer_Check, eq_true c1, c2, c3, checkQ, hd, hq, hn, e1, e2, e3, e4, e5, e6, hf, hfq, c4, ht, simprocAttr]
        ·simp only [go_sem, c_producer_Check, eq_true c1, c2, c3, checkQ, hd, hq, hn, e1, e2, e3, e4, e5, e6, hf, hfq, c4, simprocAttr]
 ·simp only [go_sem, c_producer_Check, c1, checkQ, hm, simprocAttr]
end Go.Abs.Pq
namespace Go.Abs
open Go Go.RowKit
theorem followsQ_eq (l f : Int) : Pq.followsQ l f = followsS l f := by
 unfold Pq.followsQ followsS
 rw [rightQ_eq, addQ_eq]
 congr 1
 by_cases h : f = addS l 1
 ·rw [decide_eq_true h, decide_eq_true h.symm]
 ·rw [decide_eq_false h, decide_eq_false (fun k => h k.symm)]
theorem dupQ_eq (p : Pr) (b : Ba) : ∀ l, Pq.dupQ (toP p) (toB b) l = if b.epoch = p.epoch ∧ b.mark = 0 then ((dupIn b.seq b.recs.length l).getD (-1), (dupIn b.seq b.recs.length l).isSome) else (-1, false)
 | [] => by unfold Pq.dupQ dupIn; split <;> rfl
 | x :: l => by
  unfold Pq.dupQ dupIn
  rw [dupQ_eq p b l]
  simp only [toP, toB, List.length_map, lastQ_eq]
  by_cases c : b.epoch = p.epoch ∧ b.mark = 0
  ·rw [if_pos c, if_pos c]
   by_cases h : x.1 = b.seq ∧ x.2.1 = lastS b.seq b.recs.length
   ·rw [if_pos ⟨c.2, c.1, h.1, h.2⟩, if_pos h]; rfl
   ·rw [if_neg (fun k => h ⟨k.2.2.1, k.2.2.2⟩), if_neg h]
  ·rw [if_neg c, if_neg c, if_neg (fun k => c ⟨k.2.1, k.1⟩)]
theorem dupQ_P (p : Pr) (b : Ba) : Pq.dupQ (toP p) (toB b) p.last = ((dupP p b).getD (-1), (dupP p b).isSome) := by
 rw [dupQ_eq]
 unfold dupP
 split <;> rfl
theorem checkQ_eq (p : Pr) (k : Bool) (b : Ba) : Pq.checkQ (toP p) k (toB b) = checkP p k b := by
 have hd := dupQ_P p b
 have h : Pq.checkQ (toP p) k (toB b) = (if b.mark ≠ 0 then ((-1 : Int), if k = false then (16 : Int) else if b.epoch < p.epoch then 14 else if p.open_ < 0 then 16 else 0)
  else if k = false then (-1, 0)
  else if b.epoch < p.epoch then (-1, 14)
  else if b.epoch > p.epoch then (-1, if p.open_ ≥ 0 then 16 else if b.seq ≠ 0 then 15 else 0)
  else if (Pq.dupQ (toP p) (toB b) p.last).2 = true then ((Pq.dupQ (toP p) (toB b) p.last).1, 0)
  else if p.last ≠ [] ∧ Pq.followsQ (p.last.getLastD (0, 0, 0)).2.1 b.seq = false then (-1, 15)
  else if p.open_ ≥ 0 ∧ b.txn = false then (-1, 16)
  else (-1, 0)) := rfl
 rw [h, hd, followsQ_eq]
 unfold checkP
 by_cases c1 : b.mark ≠ 0
 ·rw [if_pos c1, if_pos c1]
  by_cases x1 : k = false
  ·rw [if_pos x1, if_pos x1]
  ·rw [if_neg x1, if_neg x1]
   by_cases x2 : b.epoch < p.epoch
   ·rw [if_pos x2, if_pos x2]
   ·rw [if_neg x2, if_neg x2]
    by_cases x3 : p.open_ < 0
    ·rw [if_pos x3, if_pos x3]
    ·rw [if_neg x3, if_neg x3]
 rw [if_neg c1, if_neg c1]
 by_cases c2 : k = false
 ·rw [if_pos c2, if_pos c2]
 rw [if_neg c2, if_neg c2]
 by_cases c3 : b.epoch < p.epoch
 ·rw [if_pos c3, if_pos c3]
 rw [if_neg c3, if_neg c3]
 by_cases c4 : b.epoch > p.epoch
 ·rw [if_pos c4, if_pos c4]
  by_cases x1 : p.open_ ≥ 0
  ·rw [if_pos x1, if_pos x1]
  ·rw [if_neg x1, if_neg x1]
   by_cases x2 : b.seq ≠ 0
   ·rw [if_pos x2, if_pos x2]
   ·rw [if_neg x2, if_neg x2]
 rw [if_neg c4, if_neg c4]
 cases hdp : dupP p b with
 | some v => rfl
 | none =>
  simp only [Option.isSome_none, Bool.false_eq_true, if_false]
  rcases List.eq_nil_or_concat p.last with hl | ⟨l', x, hl⟩
  ·rw [hl]
   simp only [List.getLast?_nil, ne_eq, not_true, false_and, if_false]
  ·have h1 : p.last ≠ [] := by rw [hl]; simp
   have h2 : p.last.getLast? = some x := by rw [hl]; simp
   have h3 : p.last.getLastD (0, 0, 0) = x := by rw [hl]; simp
   rw [h2, h3]
   simp only [h1, ne_eq, not_false_eq_true, true_and]
theorem pcheck_spec (p : Pr) (k : Bool) (b : Ba) (hl : p.last.length ≤ 1000) (hr : b.recs.length ≤ 1000) (H : Heap) :
  W n_producer_Check [p.V, .bool k, b.V] H = some (.tuple [.int .i64 (checkP p k b).1, .int .i64 (checkP p k b).2], H) := by
 have := Pq.check_spec (toP p) k (toB b) H (by show p.last.length < _; omega) (by simp only [toB, List.length_map]; omega)
 rw [toP_v, toB_v, checkQ_eq] at this
 exact this
theorem clip_rec (xs : List AVal) (H : Heap) : W n_slices_Clip_api_Rec_api_Rec_ [.list 2 xs .ro] H = some (.list 2 xs .full, H) := by
 refine W_fn0 rfl rfl ?_
 simp only [go_sem, trim_same, c_slices_Clip_api_Rec_api_Rec_, sl_clip, simprocAttr]
theorem clip_bat (xs : List AVal) (H : Heap) : W n_slices_Clip_api_Batch_api_Batch_ [.list 7 xs .ro] H = some (.list 7 xs .full, H) := by
 refine W_fn0 rfl rfl ?_
 simp only [go_sem, trim_same, c_slices_Clip_api_Batch_api_Batch_, sl_clip, simprocAttr]
theorem copy_spec (b : Ba) (hr : b.recs.length ≤ 1000) (H : Heap) : W n_batch_Copy [b.V] H = some (b.V, H) := by
 have t1 := fun H => W_slices_Clone_api_Rec_api_Rec_ (b.recs.map rcV) H (by simp only [List.length_map, maxBytes]; omega)
 have t2 := fun H => clip_rec (b.recs.map rcV) H
 unfold Ba.V Ba.cs
 refine W_fn rfl rfl ?_
 simp only [go_sem, c_batch_Copy, t1, t2, under_rc, simprocAttr]
theorem copies_loop (L : List Ba) (hL : ∀ b ∈ L, b.recs.length ≤ 1000) (hn : L.length ≤ 1000000) (f : Fl) (hf : f = .ro ∨ (f = .full ∧ L = [])) (H : Heap) (r : List Ba) : ∀ (p : List Ba) (fl : Fl) (N : Heap), L = p ++ r → (fl = .own ∨ (fl = .full ∧ p = [])) →
  ∃ M fl', loopA W loopW (.ghost (.kill k_batch_Copies_0) l_batch_Copies_0) [(3, .list 7 (p.map Ba.V) fl), (6, .list 7 (L.map Ba.V) f), (7, .int .i64 (L.length : Nat)), (8, .int .i64 (p.length : Nat))] (hx H N) =
   some (.exit 0, [(3, .list 7 (L.map Ba.V) fl')], hx H M) ∧ (fl' = .own ∨ (fl' = .full ∧ L = [])) := by
 induction r with
 | nil =>
  intro p fl N hp hfl
  rw [List.append_nil] at hp
  subst hp
  refine ⟨N, fl, ?_, hfl⟩
  have h1 : ¬ ((L.length : Int) < (L.length : Int)) := by omega
  refine loop_step l_batch_Copies_0.eq_1 k_batch_Copies_0.eq_1 (by kernel_rfl) ?_
  simp only [go_sem, h1, simprocAttr]
 | cons b r ih =>
  intro p fl N hp hfl
  have hf0 : f = .ro := by
   rcases hf with h | ⟨_, h⟩
   ·exact h
   ·rw [hp] at h; simp at h
  subst hf0
  have hlen : L.length = p.length + (r.length + 1) := by rw [hp]; simp
  have h1 : ((p.length : Int) < (L.length : Int)) := by omega
  have e0 : (0 : Int) ≤ (p.length : Int) := by omega
  have e7 : ((p.length : Nat) : Int).toNat = p.length := by omega
  have e1 : (L.map Ba.V)[p.length]? = some (.agg [.int .i64 b.base, .int .i64 b.prod, .int .i64 b.epoch, .int .i64 b.seq, .bool b.txn, .int .i64 b.mark, .list 2 (b.recs.map rcV) .ro]) := by rw [hp]; simp [Ba.V, Ba.cs]
  have e6 : IntKind.i64.wrap ((p.length : Int) + 1) = ((p.length + 1 : Nat) : Int) := by rw [wrap_id (by unfold I64; omega)]; omega
  have t := fun H => copy_spec b (hL b (by rw [hp]; simp)) H
  have tv : ∀ H, W n_batch_Copy [.agg [.int .i64 b.base, .int .i64 b.prod, .int .i64 b.epoch, .int .i64 b.seq, .bool b.txn, .int .i64 b.mark, .list 2 (b.recs.map rcV) .ro]] H = some (.agg [.int .i64 b.base, .int .i64 b.prod, .int .i64 b.epoch, .int .i64 b.seq, .bool b.txn, .int .i64 b.mark, .list 2 (b.recs.map rcV) .ro], H) := t
  obtain ⟨M, fl', h2, hf'⟩ := ih (p ++ [b]) .own (N ++ [.cells b.cs]) (by rw [hp]; simp) (.inl rfl)
  refine ⟨M, fl', ?_, hf'⟩
  simp only [List.length_append, List.length_cons, List.length_nil, Nat.zero_add] at h2
  have bb : (p.length + 1) * 72 ≤ maxBytes := by simp only [maxBytes]; omega
  have b0 : (0 + 1) * 72 ≤ maxBytes := by decide
  have e8 : p.map Ba.V ++ [.agg [.int .i64 b.base, .int .i64 b.prod, .int .i64 b.epoch, .int .i64 b.seq, .bool b.txn, .int .i64 b.mark, .list 2 (b.recs.map rcV) .ro]] = (p ++ [b]).map Ba.V := by simp [Ba.V, Ba.cs]
  unfold Ba.cs at h2
  refine loop_step l_batch_Copies_0.eq_1 k_batch_Copies_0.eq_1 (by kernel_rfl) ?_
  rcases hfl with rfl | ⟨rfl, rfl⟩
  ·simp only [go_sem, h1, e0, e7, e1, tv, List.length_map, apO, bb, e8, e6, simprocAttr]
   exact h2
  ·simp only [List.map_nil, List.nil_append, List.length_nil, Int.natCast_zero] at *
   simp only [go_sem, h1, e0, e7, e1, tv, List.length_map, apF, List.length_nil, b0, List.nil_append, e6, simprocAttr]
   rw [e8]
   exact h2
theorem copies_spec (L : List Ba) (hL : ∀ b ∈ L, b.recs.length ≤ 1000) (hn : L.length ≤ 1000000) (H : Heap) : W n_batch_Copies [.list 7 (L.map Ba.V) .ro] H = some (.list 7 (L.map Ba.V) .full, H) := by
 obtain ⟨M, f, h, hf⟩ := copies_loop L hL hn .ro (.inl rfl) H L [] .full [] rfl (.inr ⟨rfl, rfl⟩)
 simp only [List.length_nil, Int.natCast_zero, List.map_nil] at h
 have t := fun H => clip_bat (L.map Ba.V) H
 refine W_fn rfl rfl ?_
 rcases hf with rfl | ⟨rfl, rfl⟩
 ·simp only [go_sem, c_batch_Copies, List.length_map, h, t, under_bas, simprocAttr]
 ·simp only [List.map_nil, List.length_nil, Int.natCast_zero] at h t ⊢
  simp only [go_sem, c_batch_Copies, List.length_nil, Int.natCast_zero, h, t, simprocAttr]
  first | done | rfl
theorem segs0_spec (d : Int) (i j : Nat) (H : Heap) (h : HasFs H i j ⟨[], d⟩) : W n_place_Segments [.ptr i 0] H = some (.list 1 [] .full, H) := by
 have t : ∀ N, W n_files_FS_List [.ptr i 0] (hx H N) = some (.list 1 [] .full, hx H N) := fun N => list0_spec d i j (hx H N) ⟨(Old.mk h.gi).get N, (Old.mk h.gj).get N, h.ne⟩
 have t2 := isort0_spec
 have l1 : ∀ H, loopA W loopW (.ghost (.kill k_place_Segments_0) l_place_Segments_0) [(3, .list 1 [] .full), (12, .list 1 [] .full), (13, .int .i64 0), (14, .int .i64 0)] H = some (.exit 0, [(3, .list 1 [] .full)], H) := fun H => by
  refine loop_step l_place_Segments_0.eq_1 k_place_Segments_0.eq_1 (by kernel_rfl) ?_
  simp only [go_sem, Int.reduceLT, simprocAttr]
 have t3 : ∀ H, W n_slices_Clip_int64_int64_ [.list 1 [] .ro] H = some (.list 1 [] .full, H) := fun H => by
  refine W_fn rfl rfl ?_
  have s0 : evSlice 1 false true true (.list 1 [] .ro) [.int .i64 0, .int .i64 0] = some (.list 1 [] .full) := rfl
  simp only [go_sem, c_slices_Clip_int64_int64_, List.length_nil, Int.natCast_zero, s0, simprocAttr]
 refine W_fn rfl rfl ?_
 simp only [go_sem, c_place_Segments, t, List.length_nil, Int.natCast_zero, l1, t2, t3, simprocAttr]
 first | done | rfl
theorem chains0_spec (d : Int) (i j : Nat) (s : Int) (H : Heap) (h : HasFs H i j ⟨[], d⟩) : W n_place_Chains [.ptr i 0, .int .i64 s] H = some (.list 4 [] .full, H) := by
 have t : ∀ N, W n_place_Segments [.ptr i 0] (hx H N) = some (.list 1 [] .full, hx H N) := fun N => segs0_spec d i j (hx H N) ⟨(Old.mk h.gi).get N, (Old.mk h.gj).get N, h.ne⟩
 have l1 : ∀ H, loopA W loopW (.ghost (.kill k_place_Chains_0) l_place_Chains_0) [(0, .ptr i 0), (1, .int .i64 s), (5, .list 4 [] .full), (6, .list 1 [] .full), (7, .int .i64 (-1)), (19, .list 1 [] .full), (20, .int .i64 0), (21, .int .i64 0)] H = some (.exit 0, [(0, .ptr i 0), (5, .list 4 [] .full), (6, .list 1 [] .full), (7, .int .i64 (-1))], H) := fun H => by
  refine loop_step l_place_Chains_0.eq_1 k_place_Chains_0.eq_1 (by kernel_rfl) ?_
  simp only [go_sem, Int.reduceLT, simprocAttr]
 refine W_fn rfl rfl ?_
 simp only [go_sem, c_place_Chains, t, List.length_nil, Int.natCast_zero, l1, Int.reduceLT, simprocAttr]
 first | done | rfl
theorem load0_spec (d : Int) (h0 : 0 ≤ d) (h1 : d ≤ 100000) (i j : Nat) (H : Heap) (h : HasFs H i j ⟨[], d⟩) : W n_place_Load [.ptr i 0] H = some (.tuple [.int .i64 0, .list 7 [] .full], H) := by
 have hh : ∀ N, HasFs (hx H N) i j ⟨[], d⟩ := fun N => ⟨(Old.mk h.gi).get N, (Old.mk h.gj).get N, h.ne⟩
 have t : ∀ N, W n_place_Start [.ptr i 0] (hx H N) = some (.tuple [.int .i64 0, .bool false], hx H N) := fun N => start0_spec ⟨[], d⟩ ⟨h0, h1, by simp, by simp⟩ rfl i j _ (hh N)
 have t2 : ∀ N, W n_place_Chains [.ptr i 0, .int .i64 0] (hx H N) = some (.list 4 [] .full, hx H N) := fun N => chains0_spec d i j 0 _ (hh N)
 have l1 : ∀ H, loopA W loopW (.ghost (.kill k_place_Load_1) l_place_Load_1) [(4, .int .i64 0), (6, .list 7 [] .full), (18, .list 4 [] .full), (19, .int .i64 0), (20, .int .i64 0)] H = some (.exit 0, [(4, .int .i64 0), (6, .list 7 [] .full)], H) := fun H => by
  refine loop_step l_place_Load_1.eq_1 k_place_Load_1.eq_1 (by kernel_rfl) ?_
  simp only [go_sem, Int.reduceLT, simprocAttr]
 have t3 := clip_bat []
 refine W_fn rfl rfl ?_
 simp only [go_sem, c_place_Load, t, t2, List.length_nil, Int.natCast_zero, l1, t3, simprocAttr]
 first | done | rfl
structure Cf where
 seg : Int
 idx : Int
 snap : Int
 cap : Int
abbrev Cf.cs (c : Cf) : List AVal := [.int .i64 c.seg, .int .i64 c.idx, .int .i64 c.snap, .int .i64 c.cap]
structure CfOK (c : Cf) : Prop where
 seg : 1 ≤ c.seg ∧ c.seg ≤ 1073741824
 idx : 1 ≤ c.idx ∧ c.idx ≤ 1073741824
 snap : 1 ≤ c.snap ∧ c.snap ≤ 1073741824
 cap : 1 ≤ c.cap ∧ c.cap ≤ 1073741824
theorem opt_loop (V : List Int) (hV : ∀ n ∈ V, 1 ≤ n ∧ n ≤ 1073741824) (hl : V.length = 4) : ∀ (r q : List Int) (N : Heap), V = q ++ r → ∀ H, loopA W loopW (.ghost (.kill k_option_Right_0) l_option_Right_0) [(13, .list 1 (ints .i64 V) .full), (14, .int .i64 4), (15, .int .i64 (q.length : Nat))] (hx H N) = some (.exit 0, [], hx H N) := by
  have key : ∀ (n : Int), 1 ≤ n ∧ n ≤ 1073741824 → ¬ (n < 1) ∧ ¬ (n > 1073741824) := fun n hn => ⟨by omega, by omega⟩
  intro r
  induction r with
  | nil =>
   intro q N hq H
   rw [List.append_nil] at hq
   subst hq
   have c1 : ¬ ((V.length : Int) < 4) := by omega
   refine loop_step l_option_Right_0.eq_1 k_option_Right_0.eq_1 (by kernel_rfl) ?_
   simp only [go_sem, c1, simprocAttr]
  | cons x r ih =>
   intro q N hq H
   have hlen : V.length = q.length + (r.length + 1) := by rw [hq]; simp
   have c1 : ((q.length : Int) < 4) := by omega
   have e0 : (0 : Int) ≤ (q.length : Int) := by omega
   have e7 : ((q.length : Nat) : Int).toNat = q.length := by omega
   have e1 : (ints .i64 V)[q.length]? = some (.int .i64 x) := by rw [hq]; simp
   have e6 : IntKind.i64.wrap ((q.length : Int) + 1) = ((q.length + 1 : Nat) : Int) := by rw [wrap_id (by unfold I64; omega)]; omega
   obtain ⟨k1, k2⟩ := key x (hV x (by rw [hq]; simp))
   have h2 := ih (q ++ [x]) N (by rw [hq]; simp) H
   simp only [List.length_append, List.length_cons, List.length_nil, Nat.zero_add] at h2
   refine loop_step l_option_Right_0.eq_1 k_option_Right_0.eq_1 (by kernel_rfl) ?_
   simp only [go_sem, c1, e0, e7, e1, k1, k2, e6, simprocAttr]
   exact h2
theorem opt_spec (c : Cf) (h : CfOK c) (H : Heap) : W n_option_Right [.agg c.cs] H = some (.bool true, H) := by
 have l1 : ∀ H N, loopA W loopW (.ghost (.kill k_option_Right_0) l_option_Right_0) [(13, .list 1 [.int .i64 c.seg, .int .i64 c.idx, .int .i64 c.snap, .int .i64 c.cap] .full), (14, .int .i64 4), (15, .int .i64 0)] (hx H N) = some (.exit 0, [], hx H N) := fun H N =>
  opt_loop [c.seg, c.idx, c.snap, c.cap] (by
   intro n hn
   simp only [List.mem_cons, List.not_mem_nil, or_false] at hn
   rcases hn with rfl | rfl | rfl | rfl
   ·exact h.seg
   ·exact h.idx
   ·exact h.snap
   ·exact h.cap) rfl _ [] N rfl H
 have fs : fillS 1 (List.replicate 4 (.int .i64 0)) [0, 1, 2, 3] [.int .i64 c.seg, .int .i64 c.idx, .int .i64 c.snap, .int .i64 c.cap] = some [.int .i64 c.seg, .int .i64 c.idx, .int .i64 c.snap, .int .i64 c.cap] := rfl
 refine W_fn rfl rfl ?_
 simp only [go_sem, c_option_Right, fs, List.length_cons, List.length_nil, l1, simprocAttr]
 first | done | rfl
structure Lg where
 start : Int
 L : List Ba
 fl : Fl
 M : List Pr
 size : Int
structure PS where
 c : Cf
 x : Fs
 y : Lg
 logs : List Int
 lf : Fl
 size : Int
 en : Int
 fd : Int
 cl : Bool
structure PA where
 fm : Nat
 f : Nat
 tm : Nat
 t : Nat
 m : Nat
 p : Nat
structure Ad (H : Heap) (a : PA) : Prop where
 o : a.fm < a.f ∧ a.f < a.tm ∧ a.tm < a.t ∧ a.t < a.m ∧ a.m < a.p ∧ a.p < H.length
 t : H[a.t]? = some (tblB a.tm)
abbrev lgB (c : Cf) (t : Nat) (y : Lg) : Box := .cells [.int .i64 c.seg, .int .i64 c.idx, .int .i64 c.snap, .int .i64 c.cap, .int .i64 y.start, .list 7 (y.L.map Ba.V) y.fl, .ptr t 0, .int .i64 y.size]
abbrev ptB (c : Cf) (f m : Nat) (logs : List Int) (lf : Fl) (size en fd : Int) (cl : Bool) : Box :=
 .cells [.ptr f 0, .int .i64 c.seg, .int .i64 c.idx, .int .i64 c.snap, .int .i64 c.cap, .ptr m 0, .list 1 (ints .i64 logs) lf, .int .i64 size, .int .i64 en, .int .i64 fd, .bool cl]
def putAt (H : Heap) (a : PA) (s : PS) : Heap :=
 ((((H.set a.fm (fmB s.x.E)).set a.f (fsB a.fm s.x.d)).set a.tm (mapB s.y.M)).set a.m (lgB s.c a.t s.y)).set a.p (ptB s.c a.f a.m s.logs s.lf s.size s.en s.fd s.cl)
section
variable {H : Heap} {a : PA}
theorem putAt_len (s) : (putAt H a s).length = H.length := by simp [putAt]
theorem Ad.put (A : Ad H a) (s) : Ad (putAt H a s) a := by
 obtain ⟨h1, h2, h3, h4, h5, h6⟩ := A.o
 refine ⟨by rw [putAt_len]; exact A.o, ?_⟩
 unfold putAt
 rw [List.getElem?_set_ne (by omega), List.getElem?_set_ne (by omega), List.getElem?_set_ne (by omega), List.getElem?_set_ne (by omega), List.getElem?_set_ne (by omega)]
 exact A.t
theorem Ad.hx (A : Ad H a) (N) : Ad (hx H N) a := by
 obtain ⟨h1, h2, h3, h4, h5, h6⟩ := A.o
 exact ⟨⟨h1, h2, h3, h4, h5, by rw [hx_len']; omega⟩, hx_old A.t N⟩
theorem Ad.gp (A : Ad H a) (s) : Old (putAt H a s) a.p (ptB s.c a.f a.m s.logs s.lf s.size s.en s.fd s.cl) := by
 obtain ⟨h1, h2, h3, h4, h5, h6⟩ := A.o
 refine ⟨?_⟩
 unfold putAt
 rw [List.getElem?_set_self (by simp; omega)]
theorem Ad.gm (A : Ad H a) (s) : Old (putAt H a s) a.m (lgB s.c a.t s.y) := by
 obtain ⟨h1, h2, h3, h4, h5, h6⟩ := A.o
 refine ⟨?_⟩
 unfold putAt
 rw [List.getElem?_set_ne (by omega), List.getElem?_set_self (by simp; omega)]
theorem Ad.gtm (A : Ad H a) (s) : Old (putAt H a s) a.tm (mapB s.y.M) := by
 obtain ⟨h1, h2, h3, h4, h5, h6⟩ := A.o
 refine ⟨?_⟩
 unfold putAt
 rw [List.getElem?_set_ne (by omega), List.getElem?_set_ne (by omega), List.getElem?_set_self (by simp; omega)]
theorem Ad.gt (A : Ad H a) (s) : Old (putAt H a s) a.t (tblB a.tm) := ⟨(A.put s).t⟩
theorem Ad.fs (A : Ad H a) (s) (N) : HasFs (Go.Abs.hx (putAt H a s) N) a.f a.fm s.x := by
 obtain ⟨h1, h2, h3, h4, h5, h6⟩ := A.o
 refine ⟨hx_old ?_ N, hx_old ?_ N, by omega⟩
 ·unfold putAt
  rw [List.getElem?_set_ne (by omega), List.getElem?_set_ne (by omega), List.getElem?_set_ne (by omega), List.getElem?_set_self (by simp; omega)]
 ·unfold putAt
  rw [List.getElem?_set_ne (by omega), List.getElem?_set_ne (by omega), List.getElem?_set_ne (by omega), List.getElem?_set_ne (by omega), List.getElem?_set_self (by omega)]
theorem Ad.sp (A : Ad H a) (s) (N logs lf size en fd cl) : (Go.Abs.hx (putAt H a s) N).set a.p (ptB s.c a.f a.m logs lf size en fd cl) = Go.Abs.hx (putAt H a { s with logs := logs, lf := lf, size := size, en := en, fd := fd, cl := cl }) N := by
 rw [(A.gp s).set]
 unfold putAt
 rw [List.set_set]
theorem Ad.sm (A : Ad H a) (s : PS) (N start L fl size) : (Go.Abs.hx (putAt H a s) N).set a.m (lgB s.c a.t ⟨start, L, fl, s.y.M, size⟩) = Go.Abs.hx (putAt H a { s with y := ⟨start, L, fl, s.y.M, size⟩ }) N := by
 obtain ⟨h1, h2, h3, h4, h5, h6⟩ := A.o
 rw [(A.gm s).set]
 unfold putAt
 rw [List.set_comm _ _ (by omega : a.p ≠ a.m), List.set_set]
theorem Ad.stm (A : Ad H a) (s : PS) (N M) : (Go.Abs.hx (putAt H a s) N).set a.tm (mapB M) = Go.Abs.hx (putAt H a { s with y := { s.y with M := M } }) N := by
 obtain ⟨h1, h2, h3, h4, h5, h6⟩ := A.o
 rw [(A.gtm s).set]
 unfold putAt
 rw [List.set_comm _ _ (by omega : a.p ≠ a.tm), List.set_comm _ _ (by omega : a.m ≠ a.tm), List.set_set]
theorem Ad.sfs (A : Ad H a) (s : PS) (N x) : fsH (Go.Abs.hx (putAt H a s) N) a.f a.fm x = Go.Abs.hx (putAt H a { s with x := x }) N := by
 obtain ⟨h1, h2, h3, h4, h5, h6⟩ := A.o
 have g1 : (putAt H a s)[a.fm]? = some (fmB s.x.E) := by have := (A.fs s []).gj; rwa [hx_nil] at this
 have g2 : ((putAt H a s).set a.fm (fmB x.E))[a.f]? = some (fsB a.fm s.x.d) := by
  rw [List.getElem?_set_ne (by omega)]
  have := (A.fs s []).gi; rwa [hx_nil] at this
 unfold fsH
 rw [(Old.mk g1).set, (Old.mk g2).set]
 congr 1
 unfold putAt
 rw [List.set_comm _ _ (by omega : a.p ≠ a.fm), List.set_comm _ _ (by omega : a.m ≠ a.fm), List.set_comm _ _ (by omega : a.tm ≠ a.fm), List.set_comm _ _ (by omega : a.f ≠ a.fm), List.set_set,
  List.set_comm _ _ (by omega : a.p ≠ a.f), List.set_comm _ _ (by omega : a.m ≠ a.f), List.set_comm _ _ (by omega : a.tm ≠ a.f), List.set_set]
theorem Ad.trim (A : Ad H a) (s s' : PS) (v : AVal) (hv : v.under 0 = true) (N : Heap) : Go.Abs.trim false (Go.Abs.hx (putAt H a s) []) v (Go.Abs.hx (putAt H a s') N) = some (v, putAt H a s') := by
 obtain ⟨h1, h2, h3, h4, h5, h6⟩ := A.o
 have ub : ∀ L : List Ba, ∀ n, AVal.underL n (L.map Ba.V) = true := fun L n => under_bas n L
 refine trim_to _ _ N v (by simp [putAt_len]) hv (fun k B hB => ?_)
 rw [putAt_len]
 by_cases k1 : k = a.p
 ·subst k1; rw [(A.gp s').g] at hB; cases hB
  exact .inr (by simp [Box.under, AVal.underL, AVal.under, under_ints]; omega)
 by_cases k2 : k = a.m
 ·subst k2; rw [(A.gm s').g] at hB; cases hB
  exact .inr (by simp [Box.under, AVal.underL, AVal.under, ub]; omega)
 by_cases k3 : k = a.tm
 ·subst k3; rw [(A.gtm s').g] at hB; cases hB
  exact .inr (Box.flatB_under (flatB_m _) _)
 by_cases k4 : k = a.f
 ·subst k4
  have := (A.fs s' []).gi; rw [hx_nil] at this
  rw [this] at hB; cases hB
  exact .inr (fsB_under (by omega))
 by_cases k5 : k = a.fm
 ·subst k5
  have := (A.fs s' []).gj; rw [hx_nil] at this
  rw [this] at hB; cases hB
  exact .inr (fmB_under _ _)
 ·refine .inl ?_
  rw [← hB]
  unfold putAt
  rw [List.getElem?_set_ne (by omega), List.getElem?_set_ne (by omega), List.getElem?_set_ne (by omega), List.getElem?_set_ne (by omega), List.getElem?_set_ne (by omega),
   List.getElem?_set_ne (by omega), List.getElem?_set_ne (by omega), List.getElem?_set_ne (by omega), List.getElem?_set_ne (by omega), List.getElem?_set_ne (by omega)]
theorem putAt_hx (A : Ad H a) (s N) : Go.Abs.hx (putAt H a s) N = putAt (Go.Abs.hx H N) a s := by
 obtain ⟨h1, h2, h3, h4, h5, h6⟩ := A.o
 unfold putAt Go.Abs.hx
 rw [List.set_append_left _ _ (by omega), List.set_append_left _ _ (by simp; omega), List.set_append_left _ _ (by simp; omega), List.set_append_left _ _ (by simp; omega), List.set_append_left _ _ (by simp; omega)]
theorem Ad.gm' (A : Ad H a) (c x st L fl M sz logs lf size en fd cl N) : (Go.Abs.hx (putAt H a ⟨c, x, ⟨st, L, fl, M, sz⟩, logs, lf, size, en, fd, cl⟩) N)[a.m]? =
  some (.cells [.int .i64 c.seg, .int .i64 c.idx, .int .i64 c.snap, .int .i64 c.cap, .int .i64 st, .list 7 (L.map Ba.V) fl, .ptr a.t 0, .int .i64 sz]) := (A.gm _).get N
theorem Ad.gp' (A : Ad H a) (c x y logs lf size en fd cl N) : (Go.Abs.hx (putAt H a ⟨c, x, y, logs, lf, size, en, fd, cl⟩) N)[a.p]? =
  some (.cells [.ptr a.f 0, .int .i64 c.seg, .int .i64 c.idx, .int .i64 c.snap, .int .i64 c.cap, .ptr a.m 0, .list 1 (ints .i64 logs) lf, .int .i64 size, .int .i64 en, .int .i64 fd, .bool cl]) := (A.gp _).get N
theorem Ad.sm' (A : Ad H a) (c x st L fl M sz logs lf size en fd cl N st' L' fl' sz') : (Go.Abs.hx (putAt H a ⟨c, x, ⟨st, L, fl, M, sz⟩, logs, lf, size, en, fd, cl⟩) N).set a.m (.cells [.int .i64 c.seg, .int .i64 c.idx, .int .i64 c.snap, .int .i64 c.cap, .int .i64 st', .list 7 (L'.map Ba.V) fl', .ptr a.t 0, .int .i64 sz']) =
  Go.Abs.hx (putAt H a ⟨c, x, ⟨st', L', fl', M, sz'⟩, logs, lf, size, en, fd, cl⟩) N := A.sm ⟨c, x, ⟨st, L, fl, M, sz⟩, logs, lf, size, en, fd, cl⟩ N st' L' fl' sz'
theorem Ad.sp' (A : Ad H a) (c x y logs lf size en fd cl N logs' lf' size' en' fd' cl') : (Go.Abs.hx (putAt H a ⟨c, x, y, logs, lf, size, en, fd, cl⟩) N).set a.p (.cells [.ptr a.f 0, .int .i64 c.seg, .int .i64 c.idx, .int .i64 c.snap, .int .i64 c.cap, .ptr a.m 0, .list 1 (ints .i64 logs') lf', .int .i64 size', .int .i64 en', .int .i64 fd', .bool cl']) =
  Go.Abs.hx (putAt H a ⟨c, x, y, logs', lf', size', en', fd', cl'⟩) N := A.sp ⟨c, x, y, logs, lf, size, en, fd, cl⟩ N logs' lf' size' en' fd' cl'
theorem Ad.sfs' (A : Ad H a) (c x y logs lf size en fd cl N x') : fsH (Go.Abs.hx (putAt H a ⟨c, x, y, logs, lf, size, en, fd, cl⟩) N) a.f a.fm x' = Go.Abs.hx (putAt H a ⟨c, x', y, logs, lf, size, en, fd, cl⟩) N := A.sfs ⟨c, x, y, logs, lf, size, en, fd, cl⟩ N x'
theorem pt_putAt (s k) : pt (putAt H a s) k = pt H k := by unfold pt; rw [putAt_len]
theorem hx_getP (s) (L : Heap) (k) : (Go.Abs.hx (putAt H a s) L)[pt H k]? = L[k]? := by rw [← pt_putAt (a := a) s k, hx_get]
theorem hx_setP (s) (L : Heap) (k B) : (Go.Abs.hx (putAt H a s) L).set (pt H k) B = Go.Abs.hx (putAt H a s) (L.set k B) := by rw [← pt_putAt (a := a) s k, hx_set]
end
attribute [go_sem] pt_putAt hx_getP hx_setP
theorem at_lift {f : Nat} {args : List AVal} {v : AVal} {a : PA} {s s' : PS} (h : ∀ H, Ad H a → W f args (putAt H a s) = some (v, putAt H a s')) {H : Heap} (A : Ad H a) (N : Heap) :
  W f args (hx (putAt H a s) N) = some (v, hx (putAt H a s') N) := by
 rw [putAt_hx A, putAt_hx A]
 exact h _ (A.hx N)
def RowC : Int → List Ba → Prop
 | _, [] => True
 | s, b :: l => b.base = s ∧ RowC (s + countE b) l
theorem endE_cons (s : Int) (b : Ba) (l : List Ba) (h : b.base = s) : endE s (b :: l) = endE (s + countE b) l := by
 unfold endE
 cases l with
 | nil => simp [h]
 | cons c l =>
  obtain ⟨x, hx⟩ : ∃ x, (c :: l).getLast? = some x := ⟨_, List.getLast?_eq_some_getLast (by simp)⟩
  rw [List.getLast?_cons_cons, hx]
theorem RowC.snoc : ∀ {s : Int} {l : List Ba} {b : Ba}, RowC s l → b.base = endE s l → RowC s (l ++ [b])
 | s, [], b, _, h => ⟨h, trivial⟩
 | s, c :: l, b, h, k => ⟨h.1, RowC.snoc h.2 (by rw [k, endE_cons s c l h.1])⟩
theorem countE_pos {b : Ba} (h : Fit b) : 1 ≤ countE b := by
 have hr := h.right
 unfold countE
 split
 ·rename_i hm
  unfold rightE at hr
  split at hr
  ·cases hr
  ·first | rw [if_pos hm] at hr | skip
   unfold dataE at hr
   split at hr
   ·cases hr
   ·split at hr
    ·cases hr
    ·omega
 ·exact Int.le_refl _
structure OIs (s : Int) (O : Opn) : Prop where
 pos : 0 ≤ s
 lo : ∀ id, -1 ≤ O id
 hi : ∀ id, O id < s
 inj : ∀ id id', O id = O id' → 0 ≤ O id → id = id'
theorem OIs.nil {s : Int} (h : 0 ≤ s) : OIs s (fun _ => -1) := ⟨h, fun _ => Int.le_refl _, fun _ => by show (-1 : Int) < s; omega, fun _ _ _ h => by have : (0 : Int) ≤ -1 := h; omega⟩
theorem stepO_cases (O : Opn) (b : Ba) (id : Int) : stepO O b id = O id ∨ (id = b.prod ∧ b.mark ≠ 0 ∧ stepO O b id = -1) ∨ (id = b.prod ∧ 0 ≤ b.prod ∧ O id < 0 ∧ b.txn = true ∧ b.mark = 0 ∧ stepO O b id = b.base) := by
 unfold stepO
 by_cases c : id = b.prod ∧ 0 ≤ b.prod
 ·rw [if_pos c]
  by_cases c2 : b.mark ≠ 0
  ·rw [if_pos c2]; exact .inr (.inl ⟨c.1, c2, rfl⟩)
  ·rw [if_neg c2]
   by_cases c3 : b.txn = true ∧ O id < 0
   ·rw [if_pos c3]; exact .inr (.inr ⟨c.1, c.2, c3.2, c3.1, by omega, rfl⟩)
   ·rw [if_neg c3]; exact .inl rfl
 ·rw [if_neg c]; exact .inl rfl
theorem OIs.step {s O b} (h : OIs s O) (hb : Fit b) (hs : b.base = s) : OIs (s + countE b) (stepO O b) where
 pos := by have := h.pos; have := countE_pos hb; omega
 lo := fun id => by
  have := h.lo id
  have := h.pos
  rcases stepO_cases O b id with e | ⟨_, _, e⟩ | ⟨_, _, _, _, _, e⟩ <;> omega
 hi := fun id => by
  have := h.hi id
  have := h.pos
  have := countE_pos hb
  rcases stepO_cases O b id with e | ⟨_, _, e⟩ | ⟨_, _, _, _, _, e⟩ <;> omega
 inj := fun id id' he h0 => by
  have h1 := h.hi id
  have h2 := h.hi id'
  rcases stepO_cases O b id with e | ⟨_, _, e⟩ | ⟨i1, _, _, _, _, e⟩ <;> rcases stepO_cases O b id' with e' | ⟨_, _, e'⟩ | ⟨i2, _, _, _, _, e'⟩
  ·exact h.inj id id' (by omega) (by omega)
  ·omega
  ·omega
  ·omega
  ·omega
  ·omega
  ·omega
  ·omega
  ·omega
theorem later : ∀ {L : List Ba} {s : Int} {O : Opn}, (∀ b ∈ L, Fit b) → RowC s L → ∀ id, 0 ≤ foldO L O id → foldO L O id = O id ∨ s ≤ foldO L O id
 | [], s, O, _, _, id, _ => .inl rfl
 | b :: L, s, O, hL, hr, id, h => by
  have hc := countE_pos (hL b List.mem_cons_self)
  have hb := hr.1
  rcases later (O := stepO O b) (fun x hx => hL x (List.mem_cons_of_mem _ hx)) hr.2 id h with e | e
  ·have h' : 0 ≤ foldO L (stepO O b) id := h
   rw [e] at h'
   show foldO L (stepO O b) id = O id ∨ s ≤ foldO L (stepO O b) id
   rw [e]
   rcases stepO_cases O b id with e' | ⟨_, _, e'⟩ | ⟨_, _, _, _, _, e'⟩
   ·exact .inl e'
   ·omega
   ·exact .inr (by omega)
  ·have e : s + countE b ≤ foldO L (stepO O b) id := e
   show foldO L (stepO O b) id = O id ∨ s ≤ foldO L (stepO O b) id
   exact .inr (by omega)
def idxI (o : Option Nat) : Int := match o with | some i => (i : Int) | none => -1
theorem gthv0 (Xs : List AVal) (e : Env) (H : Heap) (h1 : Env.get e 0 = .list 4 Xs .uniq) :
  agh (.thaw 0) e (hx H []) = some (e.put 0 (.lbox (pt H 0)), hx H [.arr 4 Xs]) := by
 have hl : (hx H []).length = pt H 0 := hx_len H []
 simp only [agh, h1, hl, hx_app, List.nil_append]
theorem gbkv0 (Xs : List AVal) (e : Env) (H N : Heap) (h1 : Env.get e 0 = .lbox (pt H 0)) :
  agh (.back 0) e (hx H (.arr 4 Xs :: N)) = some (e.put 0 (.list 4 Xs .uniq), hx H (.dead :: N)) := by
 have g : (hx H (.arr 4 Xs :: N))[pt H 0]? = some (.arr 4 Xs) := by rw [hx_get]; rfl
 simp only [agh, h1, g, hx_set, List.set_cons_zero]
theorem gindexfunc_loop (p : Gt → Bool) (g : FuncId) (kc k : Nat) (H : Heap) (l : List Gt) (hn : l.length ≤ 1000000) (hk : H[k]? = some (.arr 4 (l.map gV)))
  (hp : ∀ (N : Heap) (x : Gt), W g [.agg [.int .i64 x.1, .int .i64 x.2.1, .str x.2.2.1, .str x.2.2.2], .ptr kc 0] (hx H N) = some (.bool (p x), hx H N)) (r : List Gt) : ∀ (q : List Gt), l = q ++ r →
  loopA W loopW (.ghost (.kill k_slices_IndexFunc_api_Got_api_Got__0) l_slices_IndexFunc_api_Got_api_Got__0) [(0, .lbox k), (1, .fn g [] [.ptr kc 0]), (7, .int .i64 (l.length : Nat)), (8, .int .i64 (q.length : Nat))] (hx H []) =
   match r.findIdx? p with
   | some i => some (.ret, [(4, .int .i64 ((q.length + i : Nat) : Int))], hx H [])
   | none => some (.exit 0, [], hx H []) := by
 have gk := hx_old hk []
 induction r with
 | nil =>
  intro q hq
  rw [List.append_nil] at hq
  subst hq
  have h1 : ¬ ((l.length : Int) < (l.length : Int)) := by omega
  rw [List.findIdx?_nil]
  simp only
  refine loop_step l_slices_IndexFunc_api_Got_api_Got__0.eq_1 k_slices_IndexFunc_api_Got_api_Got__0.eq_1 (by kernel_rfl) ?_
  simp only [go_sem, h1, simprocAttr]
 | cons x r ih =>
  intro q hq
  have hlen : l.length = q.length + (r.length + 1) := by rw [hq]; simp
  have h1 : ((q.length : Int) < (l.length : Int)) := by omega
  have e0 : (0 : Int) ≤ (q.length : Int) := by omega
  have e7 : ((q.length : Nat) : Int).toNat = q.length := by omega
  have e1 : (l.map gV)[q.length]? = some (.agg [.int .i64 x.1, .int .i64 x.2.1, .str x.2.2.1, .str x.2.2.2]) := by rw [hq]; simp [gV]
  have e6 : IntKind.i64.wrap ((q.length : Int) + 1) = ((q.length + 1 : Nat) : Int) := by rw [wrap_id (by unfold I64; omega)]; omega
  have hpx := hp [] x
  rw [List.findIdx?_cons]
  cases hc : p x with
  | true =>
   rw [hc] at hpx
   simp only [if_true, Nat.add_zero]
   refine loop_step l_slices_IndexFunc_api_Got_api_Got__0.eq_1 k_slices_IndexFunc_api_Got_api_Got__0.eq_1 (by kernel_rfl) ?_
   simp only [go_sem, h1, e0, e7, gk, List.length_map, e1, hpx, simprocAttr]
  | false =>
   rw [hc] at hpx
   have h2 := ih (q ++ [x]) (by rw [hq]; simp)
   simp only [List.length_append, List.length_cons, List.length_nil, Nat.zero_add] at h2
   simp only [Bool.false_eq_true, if_false]
   cases hf : r.findIdx? p with
   | none =>
    rw [hf] at h2
    simp only [Option.map_none] at h2 ⊢
    refine loop_step l_slices_IndexFunc_api_Got_api_Got__0.eq_1 k_slices_IndexFunc_api_Got_api_Got__0.eq_1 (by kernel_rfl) ?_
    simp only [go_sem, h1, e0, e7, gk, List.length_map, e1, hpx, e6, simprocAttr]
    exact h2
   | some i =>
    rw [hf] at h2
    simp only [Option.map_some] at h2 ⊢
    rw [show q.length + (i + 1) = q.length + 1 + i by omega]
    refine loop_step l_slices_IndexFunc_api_Got_api_Got__0.eq_1 k_slices_IndexFunc_api_Got_api_Got__0.eq_1 (by kernel_rfl) ?_
    simp only [go_sem, h1, e0, e7, gk, List.length_map, e1, hpx, e6, simprocAttr]
    exact h2
theorem gindexfunc_spec (p : Gt → Bool) (g : FuncId) (kc k : Nat) (H : Heap) (l : List Gt) (hn : l.length ≤ 1000000) (hk : H[k]? = some (.arr 4 (l.map gV)))
  (hp : ∀ (N : Heap) (x : Gt), W g [.agg [.int .i64 x.1, .int .i64 x.2.1, .str x.2.2.1, .str x.2.2.2], .ptr kc 0] (hx H N) = some (.bool (p x), hx H N)) :
  W n_slices_IndexFunc_api_Got_api_Got_ [.lbox k, .fn g [] [.ptr kc 0]] H = some (.int .i64 (idxI (l.findIdx? p)), H) := by
 have h := gindexfunc_loop p g kc k H l hn hk hp l [] rfl
 have gk := hx_old hk []
 simp only [List.length_nil, Int.natCast_zero, Nat.zero_add] at h
 refine W_fn rfl rfl ?_
 unfold idxI
 cases hf : l.findIdx? p with
 | none =>
  rw [hf] at h
  simp only at h ⊢
  simp only [go_sem, c_slices_IndexFunc_api_Got_api_Got_, gk, List.length_map, h, simprocAttr]
 | some i =>
  rw [hf] at h
  simp only at h ⊢
  simp only [go_sem, c_slices_IndexFunc_api_Got_api_Got_, gk, List.length_map, h, simprocAttr]
theorem gdelete_loop (p : Gt → Bool) (g : FuncId) (kc : Nat) (H : Heap) (n : Nat) (hn : n ≤ 1000000)
  (hp : ∀ (N : Heap) (x : Gt), W g [.agg [.int .i64 x.1, .int .i64 x.2.1, .str x.2.2.1, .str x.2.2.2], .ptr kc 0] (hx H N) = some (.bool (p x), hx H N)) (r : List Gt) : ∀ (A kept : List Gt) (j : Nat) (N : Heap),
  A.length = n → A.take kept.length = kept → A.drop j = r → j + r.length = n → kept.length < j →
  ∃ (A' : List Gt) (N' : Heap), loopA W loopW (.ghost (.kill k_slices_DeleteFunc_api_Got_api_Got__0) l_slices_DeleteFunc_api_Got_api_Got__0) [(0, .lbox (pt H 0)), (1, .fn g [] [.ptr kc 0]), (5, .int .i64 (kept.length : Nat)), (6, .int .i64 (j : Nat))] (hx H (.arr 4 (A.map gV) :: N)) =
   some (.exit 0, [(0, .lbox (pt H 0)), (5, .int .i64 ((kept ++ r.filter fun x => !p x).length : Nat))], hx H (.arr 4 (A'.map gV) :: N')) ∧ A'.length = n ∧ A'.take (kept ++ r.filter fun x => !p x).length = kept ++ r.filter (fun x => !p x) ∧ (kept ++ r.filter fun x => !p x).length < n := by
 induction r with
 | nil =>
  intro A kept j N hA ht hd hj hk
  simp only [List.length_nil, Nat.add_zero] at hj
  subst hj
  refine ⟨A, N, ?_, hA, ?_, ?_⟩
  ·have h1 : ¬ ((j : Int) < (A.length : Int)) := by omega
   rw [List.filter_nil, List.append_nil]
   refine loop_step l_slices_DeleteFunc_api_Got_api_Got__0.eq_1 k_slices_DeleteFunc_api_Got_api_Got__0.eq_1 (by kernel_rfl) ?_
   simp only [go_sem, List.length_map, h1, simprocAttr]
  ·rw [List.filter_nil, List.append_nil]; exact ht
  ·rw [List.filter_nil, List.append_nil]; exact hk
 | cons x r ih =>
  intro A kept j N hA ht hd hj hk
  simp only [List.length_cons] at hj
  have h1 : ((j : Int) < (A.length : Int)) := by omega
  have e0 : (0 : Int) ≤ (j : Int) := by omega
  have e7 : ((j : Nat) : Int).toNat = j := by omega
  have hAj : A[j]? = some x := by
   have : (A.drop j)[0]? = some x := by rw [hd]; rfl
   rwa [List.getElem?_drop, Nat.add_zero] at this
  have e1 : (A.map gV)[j]? = some (.agg [.int .i64 x.1, .int .i64 x.2.1, .str x.2.2.1, .str x.2.2.2]) := by rw [List.getElem?_map, hAj]; rfl
  have e6 : IntKind.i64.wrap ((j : Int) + 1) = ((j + 1 : Nat) : Int) := by rw [wrap_id (by unfold I64; omega)]; omega
  have n1 : ∀ y : Box, (N ++ [y])[N.length]? = some y := fun y => by simp
  have n2 : ∀ y z : Box, (N ++ [y]).set N.length z = N ++ [z] := fun y z => by simp
  have hpx := fun N => hp N x
  have hd' : A.drop (j + 1) = r := by
   have : (A.drop j).drop 1 = r := by rw [hd]; rfl
   rwa [List.drop_drop] at this
  rw [List.filter_cons]
  cases hc : p x with
  | true =>
   rw [hc] at hpx
   simp only [Bool.not_true, Bool.false_eq_true, if_false]
   obtain ⟨A', N', h2, h3, h4, h5⟩ := ih A kept (j + 1) (N ++ [.cells [.int .i64 x.1, .int .i64 x.2.1, .str x.2.2.1, .str x.2.2.2]]) hA ht hd' (by omega) (by omega)
   refine ⟨A', N', ?_, h3, h4, h5⟩
   generalize (kept ++ r.filter fun x => !p x).length = K at *
   refine loop_step l_slices_DeleteFunc_api_Got_api_Got__0.eq_1 k_slices_DeleteFunc_api_Got_api_Got__0.eq_1 (by kernel_rfl) ?_
   simp only [go_sem, List.length_map, h1, e0, e7, e1, n1, n2, hpx, e6, simprocAttr]
   exact h2
  | false =>
   rw [hc] at hpx
   simp only [Bool.not_false, if_true]
   have hki : kept.length < A.length := by omega
   obtain ⟨y, hy⟩ : ∃ y, A[kept.length]? = some y := ⟨_, List.getElem?_eq_getElem hki⟩
   have k0 : (0 : Int) ≤ (kept.length : Int) := by omega
   have k1 : (kept.length : Int) < (A.length : Int) := by omega
   have k7 : ((kept.length : Nat) : Int).toNat = kept.length := by omega
   have k2 : (A.map gV)[kept.length]? = some (.agg [.int .i64 y.1, .int .i64 y.2.1, .str y.2.2.1, .str y.2.2.2]) := by rw [List.getElem?_map, hy]; rfl
   have k6 : IntKind.i64.wrap ((kept.length : Int) + 1) = ((kept.length + 1 : Nat) : Int) := by rw [wrap_id (by unfold I64; omega)]; omega
   have ks : (A.map gV).set kept.length (.agg [.int .i64 x.1, .int .i64 x.2.1, .str x.2.2.1, .str x.2.2.2]) = (A.set kept.length x).map gV := by rw [List.map_set]; rfl
   have ht' : (A.set kept.length x).take (kept ++ [x]).length = kept ++ [x] := by
    rw [List.length_append, List.length_singleton]
    refine List.ext_getElem? fun q => ?_
    rw [List.getElem?_take]
    by_cases hq : q < kept.length + 1
    ·rw [if_pos hq, List.getElem?_set]
     by_cases hq2 : kept.length = q
     ·subst hq2
      rw [if_pos rfl, if_pos hki, List.getElem?_append_right (Nat.le_refl _), Nat.sub_self]; rfl
     ·rw [if_neg hq2, List.getElem?_append_left (by omega)]
      have : (A.take kept.length)[q]? = kept[q]? := by rw [ht]
      rwa [List.getElem?_take, if_pos (by omega)] at this
    ·rw [if_neg hq, List.getElem?_eq_none (by simp; omega)]
   have hd2 : (A.set kept.length x).drop (j + 1) = r := by
    rw [List.drop_set_of_lt (by omega), hd']
   obtain ⟨A', N', h2, h3, h4, h5⟩ := ih (A.set kept.length x) (kept ++ [x]) (j + 1) (N ++ [.cells [.int .i64 x.1, .int .i64 x.2.1, .str x.2.2.1, .str x.2.2.2]]) (by simp [hA]) ht' hd2 (by omega) (by simp; omega)
   rw [List.append_assoc, List.cons_append, List.nil_append] at h2 h4 h5
   refine ⟨A', N', ?_, h3, h4, h5⟩
   simp only [List.length_append, List.length_cons, List.length_nil, Nat.zero_add] at h2
   rw [show ((kept ++ x :: r.filter fun x => !p x).length : Nat) = kept.length + (r.filter fun x => !p x).length + 1 by simp; omega]
   rw [show kept.length + ((r.filter fun x => !p x).length + 1) = kept.length + (r.filter fun x => !p x).length + 1 by omega] at h2
   generalize kept.length + (r.filter fun x => !p x).length + 1 = K at *
   refine loop_step l_slices_DeleteFunc_api_Got_api_Got__0.eq_1 k_slices_DeleteFunc_api_Got_api_Got__0.eq_1 (by kernel_rfl) ?_
   simp only [go_sem, List.length_map, h1, e0, e7, e1, n1, n2, hpx, e6, k0, k1, k7, k2, k6, ks, simprocAttr]
   exact h2
theorem gfind_none {p : Gt → Bool} : ∀ {l : List Gt}, l.findIdx? p = none → l.filter (fun x => !p x) = l := by
 intro l h
 rw [List.findIdx?_eq_none_iff] at h
 rw [List.filter_eq_self]
 intro x hx
 rw [h x hx]; rfl
theorem gfind_some {p : Gt → Bool} {l : List Gt} {i : Nat} (h : l.findIdx? p = some i) : i < l.length ∧ l.filter (fun x => !p x) = l.take i ++ (l.drop (i + 1)).filter (fun x => !p x) := by
 rw [List.findIdx?_eq_some_iff_getElem] at h
 obtain ⟨hi, h1, h2⟩ := h
 refine ⟨hi, ?_⟩
 conv => lhs; rw [← List.take_append_drop i l, List.drop_eq_getElem_cons hi]
 rw [List.filter_append, List.filter_cons, h1]
 simp only [Bool.not_true, Bool.false_eq_true, if_false]
 congr 1
 rw [List.filter_eq_self]
 intro x hx
 obtain ⟨j, hj, rfl⟩ := List.mem_iff_getElem.1 hx
 rw [List.getElem_take]
 have := h2 j (by simp at hj; omega)
 simpa using this
set_option maxHeartbeats 1000000 in
theorem gdelete_spec (p : Gt → Bool) (g : FuncId) (kc : Nat) (H : Heap) (l : List Gt) (hn : l.length ≤ 1000000)
  (hp : ∀ (N : Heap) (x : Gt), W g [.agg [.int .i64 x.1, .int .i64 x.2.1, .str x.2.2.1, .str x.2.2.2], .ptr kc 0] (hx H N) = some (.bool (p x), hx H N)) :
  W n_slices_DeleteFunc_api_Got_api_Got_ [.list 4 (l.map gV) .uniq, .fn g [] [.ptr kc 0]] H = some (.list 4 ((l.filter fun x => !p x).map gV) .uniq, H) := by
 have hth := fun e => gthv0 (l.map gV) e H
 have hbk := fun Xs e N => gbkv0 Xs e H N
 have ti := gindexfunc_spec p g kc (pt H 0) (hx H [.arr 4 (l.map gV)]) l hn (by rw [hx_get]; rfl) (fun N x => by rw [hx_hx]; exact hp _ x)
 have u := fun m => under_g m (l.filter fun x => !p x)
 cases hf : l.findIdx? p with
 | none =>
  rw [hf] at ti
  simp only [idxI] at ti
  rw [gfind_none hf] at u ⊢
  refine W_fn rfl rfl ?_
  simp only [go_sem, c_slices_DeleteFunc_api_Got_api_Got_, hth, ti, hbk, u, simprocAttr]
  first | done | rfl
 | some i =>
  rw [hf] at ti
  simp only [idxI] at ti
  obtain ⟨hi, hfl⟩ := gfind_some hf
  have hkl : (l.take i).length = i := by rw [List.length_take]; omega
  obtain ⟨A', N', h2, h3, h4, h5⟩ := gdelete_loop p g kc H l.length hn hp (l.drop (i + 1)) l (l.take i) (i + 1) [] rfl (by rw [hkl]) rfl (by rw [List.length_drop]; omega) (by rw [hkl]; omega)
  rw [← hfl] at h2 h4 h5
  rw [hkl] at h2
  have c1 : ¬ ((i : Int) = -1) := by omega
  have w1 : IntKind.i64.wrap ((i : Int) + 1) = ((i + 1 : Nat) : Int) := by rw [wrap_id (by unfold I64; omega)]; omega
  have hA : (A'.map gV).take (l.filter fun x => !p x).length = (l.filter fun x => !p x).map gV := by rw [← List.map_take, h4]
  generalize l.filter (fun x => !p x) = F at *
  have k0 : (0 : Int) ≤ (F.length : Int) := by omega
  have k1 : (F.length : Int) < (A'.length : Int) := by omega
  have k2 : F.length ≤ A'.length := by omega
  have k7 : ((F.length : Nat) : Int).toNat = F.length := by omega
  have k8 : ∀ z : AVal, (F.map gV ++ List.replicate (A'.length - F.length) z).length = A'.length := fun z => by simp; omega
  have k9 : ∀ z : AVal, (F.map gV ++ List.replicate (A'.length - F.length) z).take F.length = F.map gV := fun z => by rw [List.take_append_of_le_length (by simp)]; rw [List.take_of_length_le (by simp)]
  have k3 : (F.length : Int) ≤ (A'.length : Int) := by omega
  have ct : ∀ z : AVal, ev W (.cut 4) [.list 4 (F.map gV ++ List.replicate (A'.length - F.length) z) .uniq, .int .i64 (F.length : Nat)] = fun H => some (.list 4 (F.map gV) .uniq, H) := by
   intro z
   funext H
   rw [e_cutU, k8, if_pos ⟨k0, k3⟩, k7, k9]
  refine W_fn rfl rfl ?_
  simp only [go_sem, c_slices_DeleteFunc_api_Got_api_Got_, hth, ti, c1, w1, h2, List.length_map, k0, k1, k7, k2, hA, hbk, ct, u, simprocAttr]
  first | done | rfl
def hitD (g : Gt) (d : La) : Bool := decide (g.2.1 ≠ -1) && (decide (d.1 = g.2.1) && (decide (d.2.1 ≤ g.1) && decide (g.1 ≤ d.2.2)))
def hitG (D : List La) (g : Gt) : Bool := D.any (hitD g)
theorem rindex_loop (p : La → Bool) (g : FuncId) (kc : Nat) (H : Heap) (l : List La) (hn : l.length ≤ 9223372036854775807)
  (hp : ∀ (x : La), W g [.agg [.int .i64 x.1, .int .i64 x.2.1, .int .i64 x.2.2], .ptr kc 0] (hx H []) = some (.bool (p x), hx H [])) (f : Fl) (hf : f = .ro ∨ (f = .full ∧ l = [])) (r : List La) : ∀ (q : List La), l = q ++ r →
  loopA W loopW (.ghost (.kill k_slices_IndexFunc_api_Dropped_api_Dropped__0) l_slices_IndexFunc_api_Dropped_api_Dropped__0) [(0, .list 3 (l.map laV) f), (1, .fn g [] [.ptr kc 0]), (7, .int .i64 (l.length : Nat)), (8, .int .i64 (q.length : Nat))] (hx H []) =
   match r.findIdx? p with
   | some i => some (.ret, [(4, .int .i64 ((q.length + i : Nat) : Int))], hx H [])
   | none => some (.exit 0, [], hx H []) := by
 induction r with
 | nil =>
  intro q hq
  rw [List.append_nil] at hq
  subst hq
  have h1 : ¬ ((l.length : Int) < (l.length : Int)) := by omega
  rw [List.findIdx?_nil]
  simp only
  refine loop_step l_slices_IndexFunc_api_Dropped_api_Dropped__0.eq_1 k_slices_IndexFunc_api_Dropped_api_Dropped__0.eq_1 (by kernel_rfl) ?_
  simp only [go_sem, h1, simprocAttr]
 | cons x r ih =>
  intro q hq
  have hf0 : f = .ro := by
   rcases hf with h | ⟨_, h⟩
   ·exact h
   ·rw [hq] at h; simp at h
  subst hf0
  have hlen : l.length = q.length + (r.length + 1) := by rw [hq]; simp
  have h1 : ((q.length : Int) < (l.length : Int)) := by omega
  have e0 : (0 : Int) ≤ (q.length : Int) := by omega
  have e7 : ((q.length : Nat) : Int).toNat = q.length := by omega
  have e1 : (l.map laV)[q.length]? = some (.agg [.int .i64 x.1, .int .i64 x.2.1, .int .i64 x.2.2]) := by rw [hq]; simp [laV]
  have e6 : IntKind.i64.wrap ((q.length : Int) + 1) = ((q.length + 1 : Nat) : Int) := by rw [wrap_id (by unfold I64; omega)]; omega
  have hpx := hp x
  rw [List.findIdx?_cons]
  cases hc : p x with
  | true =>
   rw [hc] at hpx
   simp only [if_true, Nat.add_zero]
   refine loop_step l_slices_IndexFunc_api_Dropped_api_Dropped__0.eq_1 k_slices_IndexFunc_api_Dropped_api_Dropped__0.eq_1 (by kernel_rfl) ?_
   simp only [go_sem, h1, e0, e7, List.length_map, e1, hpx, simprocAttr]
  | false =>
   rw [hc] at hpx
   have h2 := ih (q ++ [x]) (by rw [hq]; simp)
   simp only [List.length_append, List.length_cons, List.length_nil, Nat.zero_add] at h2
   simp only [Bool.false_eq_true, if_false]
   cases hf : r.findIdx? p with
   | none =>
    rw [hf] at h2
    simp only [Option.map_none] at h2 ⊢
    refine loop_step l_slices_IndexFunc_api_Dropped_api_Dropped__0.eq_1 k_slices_IndexFunc_api_Dropped_api_Dropped__0.eq_1 (by kernel_rfl) ?_
    simp only [go_sem, h1, e0, e7, List.length_map, e1, hpx, e6, simprocAttr]
    exact h2
   | some i =>
    rw [hf] at h2
    simp only [Option.map_some] at h2 ⊢
    rw [show q.length + (i + 1) = q.length + 1 + i by omega]
    refine loop_step l_slices_IndexFunc_api_Dropped_api_Dropped__0.eq_1 k_slices_IndexFunc_api_Dropped_api_Dropped__0.eq_1 (by kernel_rfl) ?_
    simp only [go_sem, h1, e0, e7, List.length_map, e1, hpx, e6, simprocAttr]
    exact h2
theorem contains_spec (p : La → Bool) (g : FuncId) (kc : Nat) (H : Heap) (l : List La) (hn : l.length ≤ 9223372036854775807)
  (hp : ∀ (x : La), W g [.agg [.int .i64 x.1, .int .i64 x.2.1, .int .i64 x.2.2], .ptr kc 0] (hx H []) = some (.bool (p x), hx H [])) :
  W n_slices_ContainsFunc_api_Dropped_api_Dropped_ [.list 3 (l.map laV) .ro, .fn g [] [.ptr kc 0]] H = some (.bool (l.any p), H) := by
 have h := rindex_loop p g kc H l hn hp .ro (.inl rfl) l [] rfl
 simp only [List.length_nil, Int.natCast_zero, Nat.zero_add] at h
 have ti : W n_slices_IndexFunc_api_Dropped_api_Dropped_ [.list 3 (l.map laV) .ro, .fn g [] [.ptr kc 0]] (hx H []) = some (.int .i64 (idxI (l.findIdx? p)), hx H []) := by
  have : W n_slices_IndexFunc_api_Dropped_api_Dropped_ [.list 3 (l.map laV) .ro, .fn g [] [.ptr kc 0]] H = some (.int .i64 (idxI (l.findIdx? p)), H) := by
   refine W_fn rfl rfl ?_
   unfold idxI
   cases hf : l.findIdx? p with
   | none =>
    rw [hf] at h
    simp only at h ⊢
    simp only [go_sem, c_slices_IndexFunc_api_Dropped_api_Dropped_, List.length_map, h, simprocAttr]
   | some i =>
    rw [hf] at h
    simp only at h ⊢
    simp only [go_sem, c_slices_IndexFunc_api_Dropped_api_Dropped_, List.length_map, h, simprocAttr]
  rwa [hx_nil]
 refine W_fn rfl rfl ?_
 unfold idxI at ti
 cases hf : l.findIdx? p with
 | none =>
  rw [hf] at ti
  have ha : l.any p = false := by
   rw [List.findIdx?_eq_none_iff] at hf
   rw [List.any_eq_false]
   intro x hx; rw [hf x hx]; decide
  rw [ha]
  have c : ¬ ((-1 : Int) ≥ 0) := by decide
  simp only at ti
  simp only [go_sem, c_slices_ContainsFunc_api_Dropped_api_Dropped_, ti, c, simprocAttr]
 | some i =>
  rw [hf] at ti
  have ha : l.any p = true := by
   rw [List.findIdx?_eq_some_iff_getElem] at hf
   obtain ⟨hi, h1, _⟩ := hf
   rw [List.any_eq_true]
   exact ⟨_, List.getElem_mem hi, h1⟩
  rw [ha]
  have c : ((i : Nat) : Int) ≥ 0 := by omega
  simp only at ti
  simp only [go_sem, c_slices_ContainsFunc_api_Dropped_api_Dropped_, ti, c, simprocAttr]
theorem deliver11_spec (g : Gt) (kc : Nat) (H : Heap) (hk : H[kc]? = some (.cells [.int .i64 g.1, .int .i64 g.2.1, .str g.2.2.1, .str g.2.2.2])) (x : La) :
  W n_fold_Deliver_1_1 [.agg [.int .i64 x.1, .int .i64 x.2.1, .int .i64 x.2.2], .ptr kc 0] H = some (.bool (hitD g x), H) := by
 have gk := fun M => hx_old hk M
 unfold hitD
 refine W_fn rfl rfl ?_
 by_cases c1 : g.2.1 = -1
 ·rw [decide_eq_false (by simpa using c1)]
  simp only [go_sem, c_fold_Deliver_1_1, gk, eq_true c1, simprocAttr]
 ·rw [decide_eq_true (by simpa using c1)]
  by_cases c2 : x.1 = g.2.1
  ·rw [decide_eq_true c2]
   by_cases c3 : x.2.1 ≤ g.1
   ·rw [decide_eq_true c3]
    by_cases c4 : g.1 ≤ x.2.2
    ·rw [decide_eq_true c4]
     simp only [go_sem, c_fold_Deliver_1_1, gk, c1, eq_true c2, c3, c4, simprocAttr]
    ·rw [decide_eq_false c4]
     simp only [go_sem, c_fold_Deliver_1_1, gk, c1, eq_true c2, c3, c4, simprocAttr]
   ·rw [decide_eq_false c3]
    simp only [go_sem, c_fold_Deliver_1_1, gk, c1, eq_true c2, c3, simprocAttr]
  ·rw [decide_eq_false c2]
   simp only [go_sem, c_fold_Deliver_1_1, gk, c1, c2, simprocAttr]
theorem deliver1_spec (D : List La) (hD : D.length ≤ 9223372036854775807) (R N S : AVal) (kf : Nat) (f : Fl) (hf : f = .ro ∨ f = .own ∨ f = .full) (H : Heap) (hk : H[kf]? = some (.cells [R, .list 3 (D.map laV) f, N, S])) (g : Gt) :
  W n_fold_Deliver_1 [.agg [.int .i64 g.1, .int .i64 g.2.1, .str g.2.2.1, .str g.2.2.2], .ptr kf 0] H = some (.bool (hitG D g), H) := by
 have gk := fun M => hx_old hk M
 have tc := contains_spec (hitD g) n_fold_Deliver_1_1 (pt H 0) (hx H [.cells [.int .i64 g.1, .int .i64 g.2.1, .str g.2.2.1, .str g.2.2.2]]) D hD (fun x => by rw [hx_nil]; exact deliver11_spec g (pt H 0) _ (by rw [hx_get]; rfl) x)
 unfold hitG
 generalize D.any (hitD g) = b at *
 refine W_fn rfl rfl ?_
 rcases hf with rfl | rfl | rfl <;> simp only [go_sem, c_fold_Deliver_1, gk, tc, simprocAttr]
theorem deliver_spec (R : List Gt) (hR : R.length ≤ 1000000) (D : List La) (hD : D.length ≤ 9223372036854775807) (N S : Int) (H : Heap) :
  W n_fold_Deliver [.agg [.list 4 (R.map gV) .ro, .list 3 (D.map laV) .ro, .int .i64 N, .int .i64 S]] H = some (.list 4 ((R.filter fun g => !hitG D g).map gV) .full, H) := by
 have t1 := fun H => W_slices_Clone_api_Got_api_Got_ (R.map gV) H (by simp only [List.length_map, maxBytes]; omega)
 have t2 := gdelete_spec (hitG D) n_fold_Deliver_1 (pt H 0) (hx H [.cells [.list 4 (R.map gV) .ro, .list 3 (D.map laV) .ro, .int .i64 N, .int .i64 S]]) R hR (fun M x => deliver1_spec D hD _ _ _ (pt H 0) .ro (.inl rfl) _ (hx_old (by rw [hx_get]; rfl) M) x)
 have t3 := fun H => clip_got ((R.filter fun g => !hitG D g).map gV) .uniq (by simp) H
 have u := fun n => under_g n (R.filter fun g => !hitG D g)
 generalize R.filter (fun g => !hitG D g) = F at *
 refine W_fn rfl rfl ?_
 simp only [go_sem, c_fold_Deliver, t1, t2, t3, u, simprocAttr]
def mapCheck (M : List Pr) (b : Ba) : Int × Int :=
 if rightE b ≠ 0 then (-1, rightE b) else if b.prod < 0 then (-1, 0) else checkP ((getM b.prod M).getD zeroPr) (getM b.prod M).isSome b
set_option maxHeartbeats 1000000 in
theorem tcheck_spec (M : List Pr) (hM : ∀ p ∈ M, p.last.length ≤ 5) (b : Ba) (hb : BOK b) (hr : b.recs.length ≤ 1000) (i j : Nat) (H : Heap) (hi : Old H i (tblB j)) (hj : Old H j (mapB M)) :
  W n_table_Table_Check [.ptr i 0, b.V] H = some (.tuple [.int .i64 (mapCheck M b).1, .int .i64 (mapCheck M b).2], H) := by
 have tr := fun H => right_spec b hb H
 unfold mapCheck
 by_cases c1 : rightE b = 0
 ·rw [if_neg (by omega)]
  rw [c1] at tr
  by_cases c2 : b.prod = -1
  ·rw [if_pos (by omega)]
   unfold Ba.V Ba.cs at *
   refine W_fn rfl rfl ?_
   simp only [go_sem, c_table_Table_Check, tr, eq_true c2, simprocAttr]
   first | done | rfl
  ·have h3 := right_prod c1
   rw [if_neg (by omega)]
   have hq : ((getM b.prod M).getD zeroPr).last.length ≤ 1000 := by
    cases h : getM b.prod M with
    | none => simp [zeroPr]
    | some p => have := hM p (getM_mem h); simp only [Option.getD_some]; omega
   have lk := fun N => look_m b.prod M j (hx H N) (hj.get N)
   generalize (getM b.prod M).getD zeroPr = q at *
   generalize (getM b.prod M).isSome = known at *
   have tp := fun H => pcheck_spec q known b hq hr H
   have gi := hi.get
   generalize checkP q known b = R at *
   unfold Pr.V Pr.cs at *
   unfold Ba.V Ba.cs at *
   refine W_fn rfl rfl ?_
   simp only [go_sem, c_table_Table_Check, tr, c2, gi, lk, tp, simprocAttr]
   first | done | rfl
 ·rw [if_pos c1]
  unfold Ba.V Ba.cs at *
  refine W_fn rfl rfl ?_
  simp only [go_sem, c_table_Table_Check, tr, c1, simprocAttr]
  first | done | rfl
theorem bsize_spec (b : Ba) (h : BOK b) (H : Heap) : W n_batch_Size [b.V] H = some (.int .i64 (sizeE b), H) := by
 have tb := fun H => Bytes_spec b h H
 unfold sizeE
 unfold Ba.V Ba.cs at tb ⊢
 by_cases c : rightE b = 0
 ·rw [if_pos c]
  rw [c, if_pos rfl] at tb
  refine W_fn rfl rfl ?_
  simp only [go_sem, c_batch_Size, tb, List.length_map, simprocAttr]
 ·rw [if_neg c]
  rw [if_neg c] at tb
  refine W_fn rfl rfl ?_
  simp only [go_sem, c_batch_Size, tb, List.length_nil, simprocAttr]
  first | done | rfl
structure LI (y : Lg) : Prop where
 s0 : 0 ≤ y.start
 s1 : y.start ≤ 1099511627776
 fit : ∀ b ∈ y.L, Fit b
 n : y.L.length ≤ 900
 fl : y.fl = .own ∨ (y.fl = .full ∧ y.L = [])
 M : y.M = foldM y.L []
 size : y.size = sizeL y.L
 row : RowC y.start y.L
theorem LI.mk5 {y : Lg} (h : LI y) : ∀ p ∈ y.M, p.last.length ≤ 5 := by
 rw [h.M]; exact (foldM_ok y.L [] ⟨by simp⟩).last
theorem LI.en {y : Lg} (h : LI y) : 0 ≤ endE y.start y.L ∧ endE y.start y.L ≤ 1099511627776 + 16 * 900 := by
 have := endE_range y.start y.L h.fit h.s0 h.s1
 omega
theorem LI.sz {y : Lg} (h : LI y) : 0 ≤ y.size ∧ y.size ≤ 2404 * 900 := by
 rw [h.size]
 have := sizeL_range y.L
 have := h.n
 omega
section
variable {a : PA} {s : PS}
theorem lend_spec (h : LI s.y) : ∀ H, Ad H a → W n_model_Log_End [.ptr a.m 0] (putAt H a s) = some (.int .i64 (endE s.y.start s.y.L), putAt H a s) := by
 intro H A
 have gm := (A.gm s).get
 unfold lgB at gm
 have t := fun H => fend_spec s.y.L h.fit (by have := h.n; omega) s.y.start H
 generalize s.y.L.map Ba.V = Q at *
 rcases h.fl with hf | ⟨hf, _⟩ <;> rw [hf] at gm
 ·refine W_fn rfl rfl ?_
  simp only [go_sem, c_model_Log_End, gm, t, simprocAttr]
 ·refine W_fn rfl rfl ?_
  simp only [go_sem, c_model_Log_End, gm, t, simprocAttr]
theorem lstable_spec (h : LI s.y) : ∀ H, Ad H a → W n_model_Log_Stable [.ptr a.m 0] (putAt H a s) = some (.int .i64 (stableE s.y.start s.y.L), putAt H a s) := by
 intro H A
 have gm := (A.gm s).get
 unfold lgB at gm
 have t := fun H => stable_spec s.y.L h.fit (by have := h.n; omega) s.y.start H
 generalize s.y.L.map Ba.V = Q at *
 rcases h.fl with hf | ⟨hf, _⟩ <;> rw [hf] at gm
 ·refine W_fn rfl rfl ?_
  simp only [go_sem, c_model_Log_Stable, gm, t, simprocAttr]
 ·refine W_fn rfl rfl ?_
  simp only [go_sem, c_model_Log_Stable, gm, t, simprocAttr]
def atE (y : Lg) (b : Ba) : Ba := { b with base := endE y.start y.L }
theorem atE_ok {y : Lg} (h : LI y) {b : Ba} (hb : BOK b) : BOK (atE y b) := ⟨by have := h.en; unfold atE I64; simp only; omega, hb.prod, hb.epoch, hb.seq, hb.mark⟩
def dataF (y : Lg) (b : Ba) : Int := if rightE (atE y b) ≠ 0 then rightE (atE y b) else if b.mark ≠ 0 then 16 else 0
theorem ldata_spec (h : LI s.y) (b : Ba) (hb : BOK b) : ∀ H, Ad H a → W n_model_Log_Data [.ptr a.m 0, b.V] (putAt H a s) = some (.int .i64 (dataF s.y b), putAt H a s) := by
 intro H A
 have t1 := fun N => at_lift (lend_spec h) A N
 have t2 := fun H => right_spec (atE s.y b) (atE_ok h hb) H
 unfold dataF
 unfold atE at *
 generalize endE s.y.start s.y.L = e at *
 unfold Ba.V Ba.cs at *
 simp only at *
 by_cases c1 : rightE { b with base := e } = 0
 ·rw [if_neg (by omega)]
  rw [c1] at t2
  by_cases c2 : b.mark = 0
  ·rw [if_neg (by omega)]
   refine W_fn rfl rfl ?_
   simp only [go_sem, c_model_Log_Data, t1, t2, eq_true c2, simprocAttr]
  ·rw [if_pos c2]
   refine W_fn rfl rfl ?_
   simp only [go_sem, c_model_Log_Data, t1, t2, c2, simprocAttr]
 ·rw [if_pos c1]
  refine W_fn rfl rfl ?_
  simp only [go_sem, c_model_Log_Data, t1, t2, c1, simprocAttr]
def markB' (y : Lg) (prod epoch mark : Int) : Ba := ⟨endE y.start y.L, prod, epoch, -1, true, mark, []⟩
def markF' (y : Lg) (prod epoch mark : Int) : Int := if mark = 0 ∨ rightE (markB' y prod epoch mark) ≠ 0 then 12 else 0
theorem lmarker_spec (h : LI s.y) (prod epoch mark : Int) (hp : I64 prod) (he : I64 epoch) (hm : I64 mark) :
  ∀ H, Ad H a → W n_model_Log_Marker [.ptr a.m 0, .int .i64 prod, .int .i64 epoch, .int .i64 mark] (putAt H a s) = some (.tuple [(markB' s.y prod epoch mark).V, .int .i64 (markF' s.y prod epoch mark)], putAt H a s) := by
 intro H A
 have t1 := fun N => at_lift (lend_spec h) A N
 have t2 := fun H => right_spec (markB' s.y prod epoch mark) ⟨by have := h.en; unfold markB' I64; simp only; omega, hp, he, by unfold markB' I64; simp only; omega, hm⟩ H
 unfold markF'
 unfold markB' at *
 generalize endE s.y.start s.y.L = e at *
 unfold Ba.V Ba.cs at *
 simp only [List.map_nil] at *
 by_cases c1 : mark = 0
 ·rw [if_pos (.inl c1)]
  refine W_fn rfl rfl ?_
  simp only [go_sem, c_model_Log_Marker, t1, t2, eq_true c1, simprocAttr]
  first | done | rfl
 ·by_cases c2 : rightE ⟨e, prod, epoch, -1, true, mark, []⟩ = 0
  ·rw [if_neg (by simp [c1, c2])]
   rw [c2] at t2
   refine W_fn rfl rfl ?_
   simp only [go_sem, c_model_Log_Marker, t1, t2, c1, simprocAttr]
   first | done | rfl
  ·rw [if_pos (.inr c2)]
   refine W_fn rfl rfl ?_
   simp only [go_sem, c_model_Log_Marker, t1, t2, c1, c2, simprocAttr]
   first | done | rfl
end
def mayF (cap : Int) (y : Lg) (b : Ba) : Int × Bool × Int :=
 if (mapCheck y.M b).2 ≠ 0 then (-1, false, (mapCheck y.M b).2) else if (mapCheck y.M b).1 ≠ -1 then ((mapCheck y.M b).1, true, 0)
 else if y.size + sizeE b > cap then (-1, false, 17) else if b.base + countE b > 1099511627776 then (-1, false, 18) else (b.base, false, 0)
section
variable {a : PA} {s : PS}
set_option maxHeartbeats 1000000 in
theorem lmay_spec (h : LI s.y) (hc : CfOK s.c) (b : Ba) (hb : BOK b) (hr : b.recs.length ≤ 1000) :
  ∀ H, Ad H a → W n_model_Log_May [.ptr a.m 0, b.V] (putAt H a s) = some (.tuple [.int .i64 (mayF s.c.cap s.y (atE s.y b)).1, .bool (mayF s.c.cap s.y (atE s.y b)).2.1, (atE s.y b).V, .int .i64 (mayF s.c.cap s.y (atE s.y b)).2.2], putAt H a s) := by
 intro H A
 have hb' := atE_ok h hb
 have gm := (A.gm s).get
 unfold lgB at gm
 have t1 := fun N => at_lift (lend_spec h) A N
 have t2 := fun N => tcheck_spec s.y.M h.mk5 (atE s.y b) hb' hr a.t a.tm (hx (putAt H a s) N) ⟨(A.gt s).get N⟩ ⟨(A.gtm s).get N⟩
 have t3 := fun H => bsize_spec (atE s.y b) hb' H
 have t4 := fun H => count_spec (atE s.y b) H
 have hsz := h.sz
 have hen := h.en
 have hse := @sizeE_range (atE s.y b)
 have w1 : IntKind.i64.wrap (s.y.size + sizeE (atE s.y b)) = s.y.size + sizeE (atE s.y b) := wrap_id (by unfold I64; omega)
 have hce : 0 ≤ countE (atE s.y b) ∧ countE (atE s.y b) ≤ 1000 := by
  have : (atE s.y b).recs = b.recs := rfl
  unfold countE; rw [this]; split <;> omega
 have w2 : IntKind.i64.wrap (endE s.y.start s.y.L + countE (atE s.y b)) = endE s.y.start s.y.L + countE (atE s.y b) := wrap_id (by unfold I64; omega)
 have eb : (atE s.y b).base = endE s.y.start s.y.L := rfl
 have t4' : ∀ H, W n_batch_Count [(atE s.y b).V] H = some (.int .i64 (countE (atE s.y b)), H) := t4
 unfold mayF
 rw [eb]
 generalize sizeE (atE s.y b) = S at *
 generalize countE (atE s.y b) = C at *
 generalize mapCheck s.y.M (atE s.y b) = m at *
 obtain ⟨m1, m2⟩ := m
 clear t4 hce hse hb' eb
 unfold atE at *
 generalize endE s.y.start s.y.L = e at *
 unfold Ba.V Ba.cs at *
 simp only at *
 by_cases c1 : m2 = 0
 ·subst c1
  rw [if_neg (by simp)]
  by_cases c2 : m1 = -1
  ·subst c2
   rw [if_neg (by simp)]
   by_cases c3 : s.y.size + S > s.c.cap
   ·rw [if_pos c3]
    refine W_fn rfl rfl ?_
    simp only [go_sem, c_model_Log_May, gm, t1, t2, t3, w1, c3, under_rc, simprocAttr]
    first | done | rfl
   ·rw [if_neg c3]
    by_cases c4 : e + C > 1099511627776
    ·rw [if_pos c4]
     refine W_fn rfl rfl ?_
     simp only [go_sem, c_model_Log_May, gm, t1, t2, t3, t4', w1, w2, c3, c4, under_rc, simprocAttr]
     first | done | rfl
    ·rw [if_neg c4]
     refine W_fn rfl rfl ?_
     simp only [go_sem, c_model_Log_May, gm, t1, t2, t3, t4', w1, w2, c3, c4, under_rc, simprocAttr]
     first | done | rfl
  ·rw [if_pos c2]
   refine W_fn rfl rfl ?_
   simp only [go_sem, c_model_Log_May, gm, t1, t2, c2, under_rc, simprocAttr]
   first | done | rfl
 ·rw [if_pos c1]
  refine W_fn rfl rfl ?_
  simp only [go_sem, c_model_Log_May, gm, t1, t2, c1, under_rc, simprocAttr]
  first | done | rfl
def takeY (y : Lg) (b : Ba) : Lg := ⟨y.start, y.L ++ [b], .own, stepM y.M b, y.size + sizeE b⟩
set_option maxHeartbeats 1000000 in
theorem lappend_spec (h : LI s.y) (b : Ba) (hb : BOK b) (hr : b.recs.length ≤ 1000) :
  ∀ H, Ad H a → W n_model_Log_Append [.ptr a.m 0, b.V] (putAt H a s) = some (.tuple [], putAt H a ⟨s.c, s.x, takeY s.y b, s.logs, s.lf, s.size, s.en, s.fd, s.cl⟩) := by
 intro H A
 have gm := A.gm'
 have sm := A.sm'
 have t1 := fun H => copy_spec b hr H
 have t2 : ∀ c x st L fl M sz logs lf size en fd cl N, (∀ p ∈ M, p.last.length ≤ 5) → W n_table_Table_Apply [.ptr a.t 0, b.V] (hx (putAt H a ⟨c, x, ⟨st, L, fl, M, sz⟩, logs, lf, size, en, fd, cl⟩) N) = some (.tuple [laV (optLa (stepD M b)), .bool (stepD M b).isSome], hx (putAt H a ⟨c, x, ⟨st, L, fl, stepM M b, sz⟩, logs, lf, size, en, fd, cl⟩) N) := fun c x st L fl M sz logs lf size en fd cl N hM => by
  have := tbl_apply_spec M (fun p hp => by have := hM p hp; omega) b hb hr a.t a.tm _ ⟨(A.gt ⟨c, x, ⟨st, L, fl, M, sz⟩, logs, lf, size, en, fd, cl⟩).get N⟩ ⟨(A.gtm _).get N⟩
  rw [A.stm] at this
  exact this
 have t3 := fun H => bsize_spec b hb H
 have hsz := h.sz
 have hse := @sizeE_range b
 have w1 : IntKind.i64.wrap (s.y.size + sizeE b) = s.y.size + sizeE b := wrap_id (by unfold I64; omega)
 have e8 : s.y.L.map Ba.V ++ [b.V] = (s.y.L ++ [b]).map Ba.V := by simp
 have e9 : [b.V] = [b].map Ba.V := rfl
 have b1 : (s.y.L.length + 1) * 72 ≤ maxBytes := by have := h.n; simp only [maxBytes]; omega
 have b2 : (0 + 1) * 72 ≤ maxBytes := by decide
 have tr := fun s' N => A.trim s s' (.tuple []) rfl N
 have h5 := h.mk5
 have hfl := h.fl
 obtain ⟨c, x, ⟨st, L, fl, M, sz⟩, logs, lf, size, en, fd, cl⟩ := s
 simp only at *
 have t2' := fun c x st L fl sz logs lf size en fd cl N => t2 c x st L fl M sz logs lf size en fd cl N h5
 unfold takeY at *
 simp only at *
 generalize stepM M b = M2 at *
 generalize sizeE b = S at *
 generalize laV (optLa (stepD M b)) = Z at *
 generalize (stepD M b).isSome = Z2 at *
 generalize L ++ [b] = L2 at *
 unfold Ba.V Ba.cs at *
 rcases hfl with rfl | ⟨rfl, _⟩
 ·refine W_fnS rfl rfl ?_
  simp only [go_sem, c_model_Log_Append, gm, sm, t1, apO, List.length_map, List.length_cons, List.length_nil, Nat.zero_add, b1, e8, t2', t3, w1, tr, simprocAttr]
  first | done | rfl
 ·refine W_fnS rfl rfl ?_
  simp only [go_sem, c_model_Log_Append, gm, sm, t1, apF, List.length_map, List.length_cons, List.length_nil, Nat.zero_add, b1, e8, t2', t3, w1, tr, simprocAttr]
  first | done | rfl
end
def fAb (lo next : Int) (L : List Ba) (only : Bool) : List La := if only = true then (abOf L [] []).filter (inR lo next) else []
structure Fe where (R : List Gt) (D : List La) (n s e : Int)
def fetE (start lo n : Int) (L : List Ba) (only : Bool) : Fe :=
 if n < 1 ∨ n > 64 then ⟨[], [], 0, 0, 1⟩
 else if lo < start ∨ lo > endE start L then ⟨[], [], 0, 0, 20⟩
 else ⟨fRecs lo (topE start L only) n L, fAb lo (fNext lo (topE start L only) n (fRecs lo (topE start L only) n L)) L only, fNext lo (topE start L only) n (fRecs lo (topE start L only) n L), stableE start L, 0⟩
theorem fetchE_spec (L : List Ba) (hL : ∀ b ∈ L, Fit b) (hn : L.length ≤ 1000) (start lo n : Int) (only : Bool) (H : Heap) :
  W n_fold_Fetch [.int .i64 start, .list 7 (L.map Ba.V) .ro, .int .i64 lo, .int .i64 n, .bool only] H =
   some (.tuple [.agg [.list 4 ((fetE start lo n L only).R.map gV) .ro, .list 3 ((fetE start lo n L only).D.map laV) .ro, .int .i64 (fetE start lo n L only).n, .int .i64 (fetE start lo n L only).s], .int .i64 (fetE start lo n L only).e], H) := by
 unfold fetE
 have te := fun H => fend_spec L hL (by omega) start H
 by_cases h1 : n < 1
 ·rw [if_pos (.inl h1)]
  refine W_fn rfl rfl ?_
  simp only [go_sem, c_fold_Fetch, te, h1, simprocAttr]
  first | done | rfl
 by_cases h2 : n > 64
 ·rw [if_pos (.inr h2)]
  refine W_fn rfl rfl ?_
  simp only [go_sem, c_fold_Fetch, te, h1, h2, simprocAttr]
  first | done | rfl
 rw [if_neg (by omega)]
 by_cases h3 : lo < start
 ·rw [if_pos (.inl h3)]
  refine W_fn rfl rfl ?_
  simp only [go_sem, c_fold_Fetch, te, h1, h2, h3, simprocAttr]
  first | done | rfl
 by_cases h4 : lo > endE start L
 ·rw [if_pos (.inr h4)]
  refine W_fn rfl rfl ?_
  simp only [go_sem, c_fold_Fetch, te, h1, h2, h3, h4, simprocAttr]
  first | done | rfl
 rw [if_neg (by omega)]
 obtain ⟨D, h, hD⟩ := fetch_spec L hL hn start lo n only (by omega) (by omega) (by omega) (by omega) H
 subst hD
 exact h
theorem abOf_len (L : List Ba) (hL : ∀ b ∈ L, Fit b) (hn : L.length ≤ 1000) : (abOf L [] []).length ≤ L.length := by
 obtain ⟨_, _, _, _, h⟩ := abof_spec L (fun b hb => (hL b hb).ok) (fun b hb => by have := (rightE_small (hL b hb).right).1; omega) hn []
 exact h
theorem fetE_len (L : List Ba) (hL : ∀ b ∈ L, Fit b) (hn : L.length ≤ 1000) (start lo n : Int) (only : Bool) : (fetE start lo n L only).R.length ≤ 64 ∧ (fetE start lo n L only).D.length ≤ 1000 := by
 unfold fetE
 split
 ·simp
 ·rename_i h
  split
  ·simp
  ·refine ⟨?_, ?_⟩
   ·simp only [fRecs, List.length_take]; omega
   ·simp only [fAb]
    split
    ·exact Nat.le_trans (List.length_filter_le _ _) (Nat.le_trans (abOf_len L hL hn) hn)
    ·simp
abbrev rdrB (at' n : Int) (only : Bool) : Box := .cells [.int .i64 at', .int .i64 n, .bool only]
abbrev feV (fe : Fe) : AVal := .agg [.list 4 (fe.R.map gV) .ro, .list 3 (fe.D.map laV) .ro, .int .i64 fe.n, .int .i64 fe.s]
theorem under_la0 (n : Nat) (L : List La) : AVal.underL n (L.map laV) = true := under_la n L
theorem rnew_spec (at' n : Int) (only : Bool) (H : Heap) :
  W n_reader_New [.int .i64 at', .int .i64 n, .bool only] H = some (if n < 1 ∨ n > 64 then (.nilp, H) else (.ptr (pt H 0) 0, hx H [rdrB at' n only])) := by
 by_cases h1 : n < 1
 ·rw [if_pos (.inl h1)]
  refine W_fn rfl rfl ?_
  simp only [go_sem, c_reader_New, h1, simprocAttr]
  first | done | rfl
 by_cases h2 : n > 64
 ·rw [if_pos (.inr h2)]
  refine W_fn rfl rfl ?_
  simp only [go_sem, c_reader_New, h1, h2, simprocAttr]
  first | done | rfl
 rw [if_neg (by omega)]
 refine W_fnS rfl rfl ?_
 simp only [go_sem, c_reader_New, h1, h2, simprocAttr]
 first | done | rfl
theorem fz4 (sz : Nat) (Xs : List AVal) (e : Env) (H : Heap) : agh (.freeze 4) ((4, .list sz Xs .uniq) :: e) H = some (Env.put ((4, .list sz Xs .uniq) :: e) 4 (.list sz Xs .own), H) := rfl
def pG (fe : Fe) (only : Bool) : List Gt := if only = true then fe.R.filter (fun g => !hitG fe.D g) else fe.R
theorem pG_len {fe only} (h : fe.R.length ≤ 64) : (pG fe only).length ≤ 64 := by
 unfold pG
 split
 ·exact Nat.le_trans (List.length_filter_le _ _) h
 ·exact h
def pF (only : Bool) : Fl := if only = true then .full else .own
section
variable {a : PA} {s : PS}
theorem lfetch_spec (h : LI s.y) (lo n : Int) (only : Bool) : ∀ H, Ad H a → W n_model_Log_Fetch [.ptr a.m 0, .int .i64 lo, .int .i64 n, .bool only] (putAt H a s) =
  some (.tuple [feV (fetE s.y.start lo n s.y.L only), .int .i64 (fetE s.y.start lo n s.y.L only).e], putAt H a s) := by
 intro H A
 have gm := (A.gm s).get
 unfold lgB at gm
 have t := fun H => fetchE_spec s.y.L h.fit (by have := h.n; omega) s.y.start lo n only H
 generalize s.y.L.map Ba.V = Q at *
 generalize fetE s.y.start lo n s.y.L only = fe at *
 obtain ⟨R, D, m, st, e⟩ := fe
 have u1 := fun k => under_g k R
 have u2 := fun k => under_la0 k D
 simp only [feV] at t ⊢
 generalize R.map gV = R' at *
 generalize D.map laV = D' at *
 rcases h.fl with hf | ⟨hf, _⟩ <;> rw [hf] at gm
 ·refine W_fn rfl rfl ?_
  simp only [go_sem, c_model_Log_Fetch, gm, t, u1, u2, simprocAttr]
  first | done | rfl
 ·refine W_fn rfl rfl ?_
  simp only [go_sem, c_model_Log_Fetch, gm, t, u1, u2, simprocAttr]
  first | done | rfl
theorem pfetch_spec (h : LI s.y) (hc : s.cl = false) (lo n : Int) (only : Bool) : ∀ H, Ad H a → W n_part_Part_Fetch [.ptr a.p 0, .int .i64 lo, .int .i64 n, .bool only] (putAt H a s) =
  some (.tuple [feV (fetE s.y.start lo n s.y.L only), .int .i64 (fetE s.y.start lo n s.y.L only).e], putAt H a s) := by
 intro H A
 have gp := (A.gp s).get
 unfold ptB at gp
 rw [hc] at gp
 have t := fun N => at_lift (lfetch_spec h lo n only) A N
 generalize fetE s.y.start lo n s.y.L only = fe at *
 obtain ⟨R, D, m, st, e⟩ := fe
 have u1 := fun k => under_g k R
 have u2 := fun k => under_la0 k D
 simp only [feV] at t ⊢
 generalize R.map gV = R' at *
 generalize D.map laV = D' at *
 refine W_fn rfl rfl ?_
 simp only [go_sem, c_part_Part_Fetch, gp, t, u1, u2, simprocAttr]
 first | done | rfl
theorem pend_spec (h : LI s.y) : ∀ H, Ad H a → W n_part_Part_End [.ptr a.p 0] (putAt H a s) = some (.int .i64 (endE s.y.start s.y.L), putAt H a s) := by
 intro H A
 have gp := (A.gp s).get
 unfold ptB at gp
 have t := fun N => at_lift (lend_spec h) A N
 refine W_fn rfl rfl ?_
 simp only [go_sem, c_part_Part_End, gp, t, simprocAttr]
theorem pstable_spec (h : LI s.y) : ∀ H, Ad H a → W n_part_Part_Stable [.ptr a.p 0] (putAt H a s) = some (.int .i64 (stableE s.y.start s.y.L), putAt H a s) := by
 intro H A
 have gp := (A.gp s).get
 unfold ptB at gp
 have t := fun N => at_lift (lstable_spec h) A N
 refine W_fn rfl rfl ?_
 simp only [go_sem, c_part_Part_Stable, gp, t, simprocAttr]
end
def rollF (size more most : Int) : Bool := decide (size > 0) && decide (size + more > most)
theorem roll_spec (size more most : Int) (h0 : 0 ≤ size) (h1 : size ≤ 1000000000) (h2 : 0 ≤ more) (h3 : more ≤ 1000000000) (H : Heap) : W n_place_Roll [.int .i64 size, .int .i64 more, .int .i64 most] H = some (.bool (rollF size more most), H) := by
 have w1 : IntKind.i64.wrap (size + more) = size + more := wrap_id (by unfold I64; omega)
 unfold rollF
 by_cases c1 : size > 0
 ·by_cases c2 : size + more > most
  ·refine W_fn rfl rfl ?_
   simp only [go_sem, c_place_Roll, w1, c1, c2, simprocAttr]
   first | done | rfl
  ·by_cases c3 : more > 0
   ·have c4 : ¬ (size + more < size) := by omega
    refine W_fn rfl rfl ?_
    simp only [go_sem, c_place_Roll, w1, c1, c2, c3, c4, simprocAttr]
    first | done | rfl
   ·refine W_fn rfl rfl ?_
    simp only [go_sem, c_place_Roll, w1, c1, c2, c3, simprocAttr]
    first | done | rfl
 ·refine W_fn rfl rfl ?_
  simp only [go_sem, c_place_Roll, w1, c1, simprocAttr]
  first | done | rfl
def syncF (x : Fs) (n : List UInt8) : Fs := match getF n x.E with | some f => ⟨setF x.E ⟨n, f.b, f.b.length⟩, x.d + 1⟩ | none => x
theorem fsync_spec (x : Fs) (hx' : FsOK x) (n : List UInt8) (i j : Nat) (H : Heap) (h : HasFs H i j x) :
  W n_files_FS_Sync [.ptr i 0, .str n] H = some (.int .i64 (if (getF n x.E).isSome then 0 else 22), fsH H i j (syncF x n)) := by
 have hi : Old H i (fsB j x.d) := ⟨h.gi⟩
 have gi := hi.get
 have gj := (Old.mk h.gj).get
 have lk : ∀ N, evLookupG .str (.agg [.list 1 [] .full, .int .i64 0]) true (.map (some j)) (.str n) (hx H N) = some (.tuple [.agg [.list 1 (ints .u8 (zOld n x.E).b) .ro, .int .i64 (zOld n x.E).z], .bool (getF n x.E).isSome]) := fun N => look_f n x.E j (hx H N) (gj N)
 have td : ∀ N, W n_files_FS_does [.ptr i 0] (hx H N) = some (.bool true, hx (H.set i (fsB j (x.d + 1))) N) := fun N => by
  rw [← hi.set]
  exact does_spec i j x.d hx'.d0 (by have := hx'.d1; omega) (hx H N) ⟨gi N⟩ (by rw [hx_len']; have := h.lt.2; omega)
 have gi1 := hi.get'
 have gj1 : ∀ N, (hx (H.set i (fsB j (x.d + 1))) N)[j]? = some (fmB x.E) := (Old.mk (i := j) (by rw [List.getElem?_set_ne h.ne]; exact h.gj)).get
 have sj1 : ∀ N B, (hx (H.set i (fsB j (x.d + 1))) N).set j B = hx ((H.set i (fsB j (x.d + 1))).set j B) N := (Old.mk (i := j) (B := fmB x.E) (by rw [List.getElem?_set_ne h.ne]; exact h.gj)).set
 cases hg : getF n x.E with
 | none =>
  have e1 : syncF x n = x := by unfold syncF; rw [hg]
  rw [e1, h.self]
  rw [hg] at lk
  simp only [Option.isSome_none] at lk
  unfold fsB at *
  refine W_fn rfl rfl ?_
  simp only [go_sem, c_files_FS_Sync, gi, lk, simprocAttr]
  first | done | rfl
 | some f =>
  have e1 : syncF x n = ⟨setF x.E ⟨n, f.b, f.b.length⟩, x.d + 1⟩ := by unfold syncF; rw [hg]
  have e2 : zOld n x.E = f := by unfold zOld; rw [hg]; rfl
  rw [e1, ← fsH_comm h.ne]
  rw [hg, e2] at lk
  simp only [Option.isSome_some] at lk
  have sj := fun N => set_f ⟨n, f.b, f.b.length⟩ .ro (.inr (.inl rfl)) x.E j _ (gj1 N)
  simp only [sj1] at sj
  have tr := fun L => h.trim ⟨setF x.E ⟨n, f.b, f.b.length⟩, x.d + 1⟩ (.int .i64 0) rfl L
  simp only at tr
  obtain ⟨fn, fb, fz⟩ := f
  simp only at *
  generalize setF x.E ⟨n, fb, fb.length⟩ = E2 at *
  unfold fsB fmB at *
  refine W_fnS rfl rfl ?_
  simp only [go_sem, c_files_FS_Sync, gi, gi1, lk, td, List.length_map, sj, tr, simprocAttr]
  first | done | rfl
structure FsK (k : Nat) (x : Fs) : Prop where
 d0 : 0 ≤ x.d
 d1 : x.d ≤ 2 * k
 b : ∀ f ∈ x.E, f.b.length ≤ 3000 * k ∧ (∀ c ∈ f.b, 0 ≤ c ∧ c < 256) ∧ I64 f.z
theorem FsK.ok {k x} (h : FsK k x) (hk : k ≤ 1000) (hn : x.E.length ≤ 64) : FsOK x :=
 ⟨h.d0, by have := h.d1; omega, hn, fun f hf => ⟨by have := (h.b f hf).1; omega, (h.b f hf).2.1, (h.b f hf).2.2⟩⟩
theorem syncF_ok {k x} (h : FsK k x) (n : List UInt8) (hk : k ≤ 1000) : 0 ≤ (syncF x n).d ∧ (syncF x n).d ≤ 2 * k + 1 ∧ (∀ f ∈ (syncF x n).E, f.b.length ≤ 3000 * k ∧ (∀ c ∈ f.b, 0 ≤ c ∧ c < 256) ∧ I64 f.z) ∧ (syncF x n).E.length = x.E.length := by
 have h0 := h.d0
 have h1 := h.d1
 unfold syncF
 cases hg : getF n x.E with
 | none => exact ⟨by simp only; omega, by simp only; omega, h.b, rfl⟩
 | some f =>
  have hf := h.b f (getF_mem hg).1
  refine ⟨by simp only; omega, by simp only; omega, ?_, ?_⟩
  ·intro g hg'
   rcases setF_mem hg' with h' | rfl
   ·exact h.b g h'
   ·exact ⟨hf.1, hf.2.1, by unfold I64; simp only; omega⟩
  ·simp only [setF_len, hg, Option.isSome_some, if_true]
theorem appF_ok {k : Nat} {x : Fs} (h0 : 0 ≤ x.d) (h1 : x.d ≤ 2 * k + 1) (h : ∀ f ∈ x.E, f.b.length ≤ 3000 * k ∧ (∀ c ∈ f.b, 0 ≤ c ∧ c < 256) ∧ I64 f.z) (n : List UInt8) (b : List Int) (hb : b.length ≤ 2404) (hbb : ∀ c ∈ b, 0 ≤ c ∧ c < 256) : FsK (k + 1) (appF x n b) := by
 have hz : (zOld n x.E).b.length ≤ 3000 * k ∧ (∀ c ∈ (zOld n x.E).b, 0 ≤ c ∧ c < 256) ∧ I64 (zOld n x.E).z := by
  unfold zOld
  cases hg : getF n x.E with
  | none => exact ⟨by simp [zFi], by simp [zFi], by simp [zFi, I64]⟩
  | some f => exact h f (getF_mem hg).1
 refine ⟨by unfold appF; simp only; omega, by unfold appF; simp only; omega, ?_⟩
 intro f hf
 unfold appF at hf
 rcases setF_mem hf with h' | rfl
 ·have := h f h'; exact ⟨by omega, this.2⟩
 ·refine ⟨by simp only [List.length_append]; omega, ?_, hz.2.2⟩
  intro c hc
  rcases List.mem_append.1 hc with hc | hc
  ·exact hz.2.1 c hc
  ·exact hbb c hc
theorem appF_len {x : Fs} (n : List UInt8) (b : List Int) : (appF x n b).E.length ≤ x.E.length + 1 := by
 unfold appF
 simp only [setF_len]
 split <;> omega
theorem sealed_bytes {b : Ba} (h : SmallR b.recs) : ∀ x ∈ sealedI b, 0 ≤ x ∧ x < 256 := by
 intro x hx
 unfold sealedI at hx
 rcases List.mem_append.1 hx with hx | hx
 ·simp only [le4, List.mem_cons, List.not_mem_nil, or_false] at hx
  rcases hx with rfl | rfl | rfl | rfl <;> omega
 ·exact inner_bytes h x hx
theorem baBytes_bytes {b : Ba} (h : SmallR b.recs) : ∀ x ∈ baBytes b, 0 ≤ x ∧ x < 256 := by
 intro x hx
 unfold baBytes at hx
 rcases List.mem_append.1 hx with hx | hx
 ·rcases List.mem_append.1 hx with hx | hx
  ·exact bes_bytes _ x hx
  ·simp only [be4, List.mem_cons, List.not_mem_nil, or_false] at hx
   rcases hx with rfl | rfl | rfl | rfl <;> omega
 ·exact sealed_bytes h x hx
structure PI (s : PS) : Prop where
 c : CfOK s.c
 y : LI s.y
 fs : FsK s.y.L.length s.x
 e : s.x.E.length ≤ s.logs.length
 lg : s.logs.length ≤ 32 ∧ ∀ l ∈ s.logs, 0 ≤ l ∧ l < 100
 lf : s.lf = .own ∨ (s.lf = .full ∧ s.logs = [])
 sz : 0 ≤ s.size ∧ s.size ≤ 2404 * s.y.L.length
 cl : s.cl = false
 en : s.logs ≠ [] → s.en = endE s.y.start s.y.L
 ex : ∀ l, s.logs.getLast? = some l → (getF (logN l.toNat) s.x.E).isSome = true
def rolls (s : PS) (b : Ba) : Bool := decide (s.logs.length < 32) && rollF s.size (baBytes b).length s.c.seg
def putS (s : PS) (b : Ba) : PS :=
 match s.logs.getLast? with
 | some l => if rolls s b = true then
   ⟨s.c, appF (syncF s.x (logN l.toNat)) (logN b.base.toNat) (baBytes b), s.y, s.logs ++ [b.base], .own, (baBytes b).length, b.base + countE b, s.fd, s.cl⟩
  else ⟨s.c, appF s.x (logN l.toNat) (baBytes b), s.y, s.logs, s.lf, s.size + (baBytes b).length, b.base + countE b, s.fd, s.cl⟩
 | none => ⟨s.c, appF s.x (logN b.base.toNat) (baBytes b), s.y, s.logs ++ [b.base], .own, (baBytes b).length, b.base + countE b, s.fd, s.cl⟩
section
variable {a : PA}
theorem at_app {H : Heap} (A : Ad H a) (c x y logs lf size en fd cl) (hx' : FsOK x) (n : Nat) (hn : n < 100) (b : List Int) (hb0 : 0 < b.length) (hb : b.length ≤ 100000) (hbb : ∀ c ∈ b, 0 ≤ c ∧ c < 256) (hroom : x.E.length < 64) (N : Heap) :
  W n_files_FS_Append [.ptr a.f 0, .str (logN n), .list 1 (ints .u8 b) .ro] (hx (putAt H a ⟨c, x, y, logs, lf, size, en, fd, cl⟩) N) = some (.int .i64 0, hx (putAt H a ⟨c, appF x (logN n) b, y, logs, lf, size, en, fd, cl⟩) N) := by
 have := fapp_spec x hx' (logN n) (lright_spec n hn) b hb0 hb hbb (.inr hroom) a.f a.fm _ (A.fs ⟨c, x, y, logs, lf, size, en, fd, cl⟩ N)
 rw [A.sfs'] at this
 exact this
theorem at_sync {H : Heap} (A : Ad H a) (c x y logs lf size en fd cl) (hx' : FsOK x) (n : Nat) (N : Heap) :
  W n_files_FS_Sync [.ptr a.f 0, .str (logN n)] (hx (putAt H a ⟨c, x, y, logs, lf, size, en, fd, cl⟩) N) = some (.int .i64 (if (getF (logN n) x.E).isSome then 0 else 22), hx (putAt H a ⟨c, syncF x (logN n), y, logs, lf, size, en, fd, cl⟩) N) := by
 have := fsync_spec x hx' (logN n) a.f a.fm _ (A.fs ⟨c, x, y, logs, lf, size, en, fd, cl⟩ N)
 rw [A.sfs'] at this
 exact this
set_option maxHeartbeats 4000000 in
theorem ptput_spec (s : PS) (h : PI s) (b : Ba) (hb : Fit b) (he : b.base = endE s.y.start s.y.L) (h100 : b.base < 100) :
  ∀ H, Ad H a → W n_part_Part_put [.ptr a.p 0, b.V] (putAt H a s) = some (.int .i64 0, putAt H a (putS s b)) := by
 intro H A
 have gp := A.gp'
 have sp := A.sp'
 have hsm := rightE_small hb.right
 have hbl := baBytes_len hsm
 have hbb := baBytes_bytes hsm
 have hb0 : 0 < (baBytes b).length := by unfold baBytes; rw [List.length_append, List.length_append, bes_len]; omega
 have tB := fun H => Bytes_spec b hb.ok H
 rw [hb.right, if_pos rfl] at tB
 have tC : ∀ H, W n_batch_Count [b.V] H = some (.int .i64 (countE b), H) := fun H => count_spec b H
 have hcnt := hb.count
 have hbase := hb.base
 obtain ⟨nb, hnb⟩ : ∃ nb : Nat, b.base = nb := ⟨b.base.toNat, by omega⟩
 have hnb1 : nb < 100 := by omega
 have tL := fun H => log_spec nb hnb1 H
 rw [← hnb] at tL
 have w2 : IntKind.i64.wrap (b.base + countE b) = b.base + countE b := wrap_id (by unfold I64; omega)
 have tr := fun s' N => A.trim s s' (.int .i64 0) rfl N
 have hnb2 : b.base.toNat = nb := by omega
 have hk : s.y.L.length ≤ 900 := h.y.n
 have hE : s.x.E.length ≤ 32 := by have := h.e; have := h.lg.1; omega
 have hfs := h.fs.ok (by omega) (by omega)
 have hsz := h.sz
 have hlg := h.lg
 have hen := h.en
 have hlf := h.lf
 have hcl := h.cl
 have hsync := fun n => syncF_ok h.fs n (by omega)
 have hcf := h.c
 unfold putS rolls
 rw [hnb2]
 have hcap := A
 obtain ⟨c, x, y, logs, lf, size, en, fd, cl⟩ := s
 simp only at *
 subst hcl
 have happ := fun (x0 : Fs) (hx0 : FsOK x0) (h64 : x0.E.length < 64) n hn y logs lf size en fd N => at_app A c x0 y logs lf size en fd false hx0 n hn (baBytes b) hb0 (by omega) hbb h64 N
 have hsy := fun n y logs lf size en fd N => at_sync A c x y logs lf size en fd false hfs n N
 generalize baBytes b = X at *
 have e9 : ints .i64 logs ++ [AVal.int .i64 b.base] = ints .i64 (logs ++ [b.base]) := by simp
 have b2 : (logs.length + 1) * 8 ≤ maxBytes := by simp only [maxBytes]; omega
 have hlf' : lf = .own ∨ lf = .full := by rcases hlf with h | ⟨h, _⟩ <;> simp [h]
 cases hg : logs.getLast? with
 | none =>
  -- the first log
  have c0 : ¬ ((logs.length : Int) > 0) := by
   have : logs = [] := List.getLast?_eq_none_iff.1 hg
   rw [this]; simp
  simp only
  have t1 := happ x hfs (by omega) nb hnb1
  clear happ hsy hsync
  generalize appF x (logN nb) X = x2 at *
  generalize logN nb = nm at *
  generalize logs ++ [b.base] = logs2 at *
  unfold Ba.V Ba.cs at *
  rcases hlf' with rfl | rfl
  ·refine W_fnS rfl rfl ?_
   simp only [go_sem, c_part_Part_put, gp, sp, tB, tC, tL, t1, List.length_map, c0, apO, List.length_cons, List.length_nil, Nat.zero_add, b2, e9, w2, tr, simprocAttr]
   first | done | rfl
  ·refine W_fnS rfl rfl ?_
   simp only [go_sem, c_part_Part_put, gp, sp, tB, tC, tL, t1, List.length_map, c0, apF, List.length_cons, List.length_nil, Nat.zero_add, b2, e9, w2, tr, simprocAttr]
   first | done | rfl
 | some l =>
  obtain ⟨l', rfl⟩ : ∃ l', logs = l' ++ [l] := by
   obtain ⟨ys, h⟩ := List.getLast?_eq_some_iff.1 hg
   exact ⟨ys, h⟩
  have hll : (l' ++ [l]).length = l'.length + 1 := by simp
  have hl := hlg.2 l (by simp)
  have hn32 := hlg.1
  rw [hll] at hn32 b2
  obtain ⟨nl, hnl⟩ : ∃ nl : Nat, l = nl := ⟨l.toNat, by omega⟩
  have hnl1 : nl < 100 := by omega
  have hnl2 : l.toNat = nl := by omega
  have tL2 := fun H => log_spec nl hnl1 H
  rw [← hnl] at tL2
  have hen' := hen (by simp)
  have c1 : ((l'.length + 1 : Nat) : Int) > 0 := by omega
  have c2 : en = b.base := by rw [hen', he]
  have w3 : IntKind.i64.wrap (((l'.length + 1 : Nat) : Int) - 1) = ((l'.length : Nat) : Int) := by rw [wrap_id (by unfold I64; omega)]; omega
  have e0 : (0 : Int) ≤ (l'.length : Int) := by omega
  have e7 : ((l'.length : Nat) : Int).toNat = l'.length := by omega
  have e1 : (ints .i64 (l' ++ [l]))[l'.length]? = some (.int .i64 l) := by simp
  have tR := fun H => roll_spec size X.length c.seg hsz.1 (by omega) (by omega) (by omega) H
  have w4 : IntKind.i64.wrap (size + X.length) = size + X.length := wrap_id (by unfold I64; omega)
  simp only [hll, hnl2]
  have hlm : (ints .i64 (l' ++ [l])).length = l'.length + 1 := by rw [List.length_map, hll]
  subst c2
  by_cases c3 : ((l'.length + 1 : Nat) : Int) < 32
  ·have c3' : decide (l'.length + 1 < 32) = true := by simp; omega
   cases hro : rollF size X.length c.seg with
   | true =>
    rw [c3', Bool.true_and, if_pos rfl]
    rw [hro] at tR
    have hs := hsync (logN nl)
    have t1 := hsy nl
    have t2 := happ (syncF x (logN nl)) ⟨hs.1, by omega, by omega, fun f hf => ⟨by have := (hs.2.2.1 f hf).1; omega, (hs.2.2.1 f hf).2.1, (hs.2.2.1 f hf).2.2⟩⟩ (by omega) nb hnb1
    clear happ hsy hsync hs
    generalize appF (syncF x (logN nl)) (logN nb) X = x2 at *
    generalize syncF x (logN nl) = x1 at *
    generalize (if (getF (logN nl) x.E).isSome = true then (0 : Int) else 22) = rc at *
    generalize logN nb = nm at *
    generalize logN nl = nm2 at *
    generalize l' ++ [l] = logs at *
    generalize logs ++ [b.base] = logs2 at *
    unfold Ba.V Ba.cs at *
    rcases hlf' with rfl | rfl
    ·refine W_fnS rfl rfl ?_
     simp only [go_sem, c_part_Part_put, gp, sp, tB, tC, tL, tL2, tR, t1, t2, List.length_map, hll, c1, c3, w3, e0, e7, e1, apO, List.length_cons, List.length_nil, Nat.zero_add, b2, e9, w2, tr, simprocAttr]
     first | done | rfl
    ·refine W_fnS rfl rfl ?_
     simp only [go_sem, c_part_Part_put, gp, sp, tB, tC, tL, tL2, tR, t1, t2, List.length_map, hll, c1, c3, w3, e0, e7, e1, apF, List.length_cons, List.length_nil, Nat.zero_add, b2, e9, w2, tr, simprocAttr]
     first | done | rfl
   | false =>
    rw [c3', Bool.true_and, if_neg (by decide)]
    rw [hro] at tR
    have t2 := happ x hfs (by omega) nl hnl1
    clear happ hsy hsync
    generalize appF x (logN nl) X = x2 at *
    generalize logN nl = nm2 at *
    generalize l' ++ [l] = logs at *
    unfold Ba.V Ba.cs at *
    rcases hlf' with rfl | rfl
    ·refine W_fnS rfl rfl ?_
     simp only [go_sem, c_part_Part_put, gp, sp, tB, tC, tL2, tR, t2, List.length_map, hll, c1, c3, w3, e0, e7, e1, w4, w2, tr, simprocAttr]
     first | done | rfl
    ·refine W_fnS rfl rfl ?_
     simp only [go_sem, c_part_Part_put, gp, sp, tB, tC, tL2, tR, t2, List.length_map, hll, c1, c3, w3, e0, e7, e1, w4, w2, tr, simprocAttr]
     first | done | rfl
  ·have c3' : decide (l'.length + 1 < 32) = false := by simp; omega
   rw [c3', Bool.false_and, if_neg (by decide)]
   have t2 := happ x hfs (by omega) nl hnl1
   clear happ hsy hsync
   generalize appF x (logN nl) X = x2 at *
   generalize logN nl = nm2 at *
   generalize l' ++ [l] = logs at *
   unfold Ba.V Ba.cs at *
   rcases hlf' with rfl | rfl
   ·refine W_fnS rfl rfl ?_
    simp only [go_sem, c_part_Part_put, gp, sp, tB, tC, tL2, t2, List.length_map, hll, c1, c3, w3, e0, e7, e1, w4, w2, tr, simprocAttr]
    first | done | rfl
   ·refine W_fnS rfl rfl ?_
    simp only [go_sem, c_part_Part_put, gp, sp, tB, tC, tL2, t2, List.length_map, hll, c1, c3, w3, e0, e7, e1, w4, w2, tr, simprocAttr]
    first | done | rfl
end
end Go.Abs
