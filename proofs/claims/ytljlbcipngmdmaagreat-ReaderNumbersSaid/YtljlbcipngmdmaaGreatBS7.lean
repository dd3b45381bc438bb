import Derived.Test.YtljlbcipngmdmaaGreatBS6
import Derived.Test.YtljlbcipngmdmaaGreatB0
set_option linter.unusedVariables false
set_option linter.unusedSimpArgs false
namespace Go.Abs
open Go Go.RowKit
def fAb (lo next : Int) (L : List Ba) (only : Bool) : List La := if only = true then (abOf L [] []).filter (inR lo next) else []
def fV (R : List Gt) (D : List La) (n s : Int) : AVal := .agg [.list 4 (R.map gV) .ro, .list 3 (D.map laV) .ro, .int .i64 n, .int .i64 s]
structure Fe where (R : List Gt) (D : List La) (n s e : Int)
def fetE (start lo n : Int) (L : List Ba) (only : Bool) : Fe :=
 if n < 1 ∨ n > 64 then ⟨[], [], 0, 0, 1⟩
 else if lo < start ∨ lo > endE start L then ⟨[], [], 0, 0, 20⟩
 else ⟨fRecs lo (topE start L only) n L, fAb lo (fNext lo (topE start L only) n (fRecs lo (topE start L only) n L)) L only, fNext lo (topE start L only) n (fRecs lo (topE start L only) n L), stableE start L, 0⟩
theorem fetchE_spec (L : List Ba) (hL : ∀ b ∈ L, Fit b) (hn : L.length ≤ 1000) (start lo n : Int) (only : Bool) (H : Heap) :
  W n_fold_Fetch [.int .i64 start, .list 7 (L.map Ba.V) .ro, .int .i64 lo, .int .i64 n, .bool only] H =
   some (.tuple [.agg [.list 4 ((fetE start lo n L only).R.map gV) .ro, .list 3 ((fetE start lo n L only).D.map laV) .ro, .int .i64 (fetE start lo n L only).n, .int .i64 (fetE start lo n L only).s], .int .i64 (fetE start lo n L only).e], H) := by
 unfold fetE
 have te := fun H => fend_spec L hL (by omega) start H
 by_cases h1 : n < 1
 ·rw [if_pos (.inl h1)]
  refine W_fn rfl rfl ?_
  simp only [go_sem, c_fold_Fetch, te, h1, simprocAttr]
  first | done | rfl
 by_cases h2 : n > 64
 ·rw [if_pos (.inr h2)]
  refine W_fn rfl rfl ?_
  simp only [go_sem, c_fold_Fetch, te, h1, h2, simprocAttr]
  first | done | rfl
 rw [if_neg (by omega)]
 by_cases h3 : lo < start
 ·rw [if_pos (.inl h3)]
  refine W_fn rfl rfl ?_
  simp only [go_sem, c_fold_Fetch, te, h1, h2, h3, simprocAttr]
  first | done | rfl
 by_cases h4 : lo > endE start L
 ·rw [if_pos (.inr h4)]
  refine W_fn rfl rfl ?_
  simp only [go_sem, c_fold_Fetch, te, h1, h2, h3, h4, simprocAttr]
  first | done | rfl
 rw [if_neg (by omega)]
 obtain ⟨D, h, hD⟩ := fetch_spec L hL hn start lo n only (by omega) (by omega) (by omega) (by omega) H
 subst hD
 exact h
theorem abOf_eqW (lo next start : Int) (L : List Ba) (h0 : 0 ≤ start) (hf : ∀ b ∈ L, Fit b) (hr : RowC start L) : (foldD L []).filter (inR2 lo next) = (abOf L [] []).filter (inR lo next) := by
 rw [← ab_eq start L h0 hf hr]
 refine List.filter_congr fun d hd => ?_
 exact (inR_eq (abOf_ok L [] [] (by simp) d hd)).symm
theorem abOf_len (L : List Ba) (hL : ∀ b ∈ L, Fit b) (hn : L.length ≤ 1000) : (abOf L [] []).length ≤ L.length := by
 obtain ⟨_, _, _, _, h⟩ := abof_spec L (fun b hb => (hL b hb).ok) (fun b hb => by have := (rightE_small (hL b hb).right).1; omega) hn []
 exact h
theorem mx_comm (a b : Int) : mx a b = mx b a := by unfold mx; split <;> split <;> omega
set_option maxHeartbeats 2000000 in
theorem rfetch_ok (L : List Ba) (hL : ∀ b ∈ L, Fit b) (hn : L.length ≤ 1000) (start lo n : Int) (h0 : 0 ≤ start) (hr : RowC start L) (only : Bool) (h1 : 1 ≤ n) (h2 : n ≤ 64) (h3 : start ≤ lo) (h4 : lo ≤ endE start L) (H : Heap) :
  W n_ref14_Fetch [.int .i64 start, .list 7 (L.map Ba.V) .ro, .int .i64 lo, .int .i64 n, .bool only] H =
   some (.tuple [.agg [.list 4 ((fRecs lo (topE start L only) n L).map gV) .ro, .list 3 ((fAb lo (fNext lo (topE start L only) n (fRecs lo (topE start L only) n L)) L only).map laV) .ro, .int .i64 (fNext lo (topE start L only) n (fRecs lo (topE start L only) n L)), .int .i64 (stableE start L)], .int .i64 0], H) := by
 have te := fun H => end_spec start L hL hn .ro (.inl rfl) H
 have ts := fun H => rstable_spec L hL hn start H
 obtain ⟨fr, tr, hfr⟩ := rrecords_spec L hL hn lo (topE start L only) (hx H [.cells [.list 4 [] .full, .list 3 [] .full, .int .i64 0, .int .i64 0], .cells [.list 4 [] .full, .list 3 [] .full, .int .i64 0, .int .i64 (stableE start L)]])
 have ho := records_off lo (topE start L only) L hL
 have hln := recordsL_len lo (topE start L only) L hL
 have c1 : ¬ n < 1 := by omega
 have c2 : ¬ n > 64 := by omega
 have c3 : ¬ lo < start := by omega
 have c4 : ¬ lo > endE start L := by omega
 have g0 : (0 : Int) ≤ n := by omega
 have hfn : fr ≠ .uniq := by rcases hfr with rfl | ⟨rfl, _⟩ <;> simp
 have hR0 : ∃ R0, recordsL lo (topE start L only) L = R0 := ⟨_, rfl⟩
 obtain ⟨R0, hR0⟩ := hR0
 unfold fRecs
 rw [hR0] at tr ho hln hfr ⊢
 have fin : ∀ (R : List Gt) (nx : Int), fNext lo (topE start L only) n (R0.take n.toNat) = nx → R0.take n.toNat = R →
   (∀ only', only' = only → W n_ref14_Fetch [.int .i64 start, .list 7 (L.map Ba.V) .ro, .int .i64 lo, .int .i64 n, .bool only'] H =
   some (.tuple [.agg [.list 4 (R.map gV) .ro, .list 3 ((fAb lo nx L only').map laV) .ro, .int .i64 nx, .int .i64 (stableE start L)], .int .i64 0], H)) →
   W n_ref14_Fetch [.int .i64 start, .list 7 (L.map Ba.V) .ro, .int .i64 lo, .int .i64 n, .bool only] H =
   some (.tuple [.agg [.list 4 ((R0.take n.toNat).map gV) .ro, .list 3 ((fAb lo (fNext lo (topE start L only) n (R0.take n.toNat)) L only).map laV) .ro, .int .i64 (fNext lo (topE start L only) n (R0.take n.toNat)), .int .i64 (stableE start L)], .int .i64 0], H) := by
  intro R nx e1 e2 h
  rw [e1, e2]
  exact h only rfl
 have tf := fold_spec L (fun b hb => (hL b hb).ok) hn
 have hfd : ∀ nx, (foldD L []).filter (inR2 lo nx) = (abOf L [] []).filter (inR lo nx) := fun nx => abOf_eqW lo nx start L h0 hL hr
 have hal := abOf_len L hL hn
 have hfe : foldD L [] = abOf L [] [] := (ab_eq start L h0 hL hr).symm
 by_cases c5 : (R0.length : Int) ≥ n
 ·rcases List.eq_nil_or_concat (R0.take n.toNat) with hz | ⟨R', g, hg⟩
  ·have : (R0.take n.toNat).length = n.toNat := by rw [List.length_take]; omega
   rw [hz] at this; simp at this; omega
  rw [List.concat_eq_append] at hg
  have hl : R'.length + 1 = n.toNat := by
   have : (R0.take n.toNat).length = n.toNat := by rw [List.length_take]; omega
   rw [hg] at this; simpa using this
  have hgm : g ∈ R0 := List.mem_of_mem_take (by rw [hg]; simp)
  have hgo := (ho g hgm).2.2
  have w1 : IntKind.i64.wrap (n - 1) = ((R'.length : Nat) : Int) := by rw [wrap_id (by unfold I64; omega)]; omega
  have e0 : (0 : Int) ≤ ((R'.length : Nat) : Int) := by omega
  have e7 : ((R'.length : Nat) : Int).toNat = R'.length := by omega
  have e1 : ((R' ++ [g]).map gV)[R'.length]? = some (.agg [.int .i64 g.1, .int .i64 g.2.1, .str g.2.2.1, .str g.2.2.2]) := by simp [gV]
  have w2 : IntKind.i64.wrap (g.1 + 1) = g.1 + 1 := wrap_id hgo
  have g2 : (R0.map gV).take n.toNat = (R' ++ [g]).map gV := by rw [← List.map_take, hg]
  have g3 : n ≤ (R0.length : Nat) := c5
  have g4 : ((R' ++ [g]).map gV).length = R'.length + 1 := by simp
  have g5 : (((R'.length + 1 : Nat)) : Int) > ((R'.length : Nat) : Int) := by omega
  refine fin (R' ++ [g]) (g.1 + 1) ?_ hg ?_
  ·unfold fNext
   rw [hg, if_pos (by simp; omega)]; simp
  ·intro only' ho'
   subst ho'
   cases only' with
   | false =>
    have c6 : ¬ (0 : Int) ≥ n := by omega
    simp only [topE, Bool.false_eq_true, if_false, fAb] at *
    generalize endE start L = top at *
    generalize stableE start L = st at *
    refine W_fn rfl rfl ?_
    have u := fun n => under_g n (R' ++ [g])
    generalize (R' ++ [g]).map gV = RV at *
    rcases hfr with rfl | ⟨rfl, rfl⟩
    ·simp only [go_sem, c_ref14_Fetch, te, ts, tr, c1, c2, c3, c4, slH, g0, g2, g3, List.length_map, c5, w1, e0, e7, e1, w2, u, simprocAttr]
     first | done | rfl
    ·simp at c5; omega
   | true =>
    have c6 : ¬ (0 : Int) ≥ n := by omega
    simp only [topE, if_true, fAb] at *
    generalize endE start L = top at *
    generalize stableE start L = st at *
    have u := fun n => under_g n (R' ++ [g])
    generalize (R' ++ [g]).map gV = RV at *
    rcases hfr with rfl | ⟨rfl, rfl⟩
    case inr => simp at c5; omega
    refine W_fn rfl rfl ?_
    obtain ⟨M, ta⟩ := tf (hx H [.cells [.list 4 [] .full, .list 3 [] .full, .int .i64 0, .int .i64 0], .cells [.list 4 RV .ro, .list 3 [] .full, .int .i64 (g.1 + 1), .int .i64 st]])
    simp only [hx_hx, pt_hx, List.length_cons, List.length_nil, List.cons_append, List.nil_append, Nat.zero_add, Nat.add_zero] at ta
    generalize tabB (foldL L []) (foldF L [] .full) = B at *
    rw [hfe] at ta
    obtain ⟨f, tw, hf⟩ := rwithin_spec (abOf L [] []) (by omega) lo (g.1 + 1) (hx H (.cells [.list 4 [] .full, .list 3 [] .full, .int .i64 0, .int .i64 0] :: .cells [.list 4 RV .ro, .list 3 [] .full, .int .i64 (g.1 + 1), .int .i64 st] :: B :: M))
    rw [← hfe, hfd] at tw hf
    rw [hfe] at tw
    generalize (abOf L [] []).filter (inR lo (g.1 + 1)) = D at *
    generalize (abOf L [] []).map laV = DD at *
    have hdf : dFl (abOf L [] []) = .own ∨ dFl (abOf L [] []) = .full := by unfold dFl; split <;> simp
    generalize dFl (abOf L [] []) = df at *
    rcases hf with rfl | ⟨rfl, rfl⟩ <;> rcases hdf with rfl | rfl
    ·simp only [go_sem, c_ref14_Fetch, te, ts, tr, c1, c2, c3, c4, slH, g0, g2, g3, List.length_map, c5, w1, e0, e7, e1, w2, u, ta, tw, under_la, simprocAttr]
     first | done | rfl
    ·simp only [go_sem, c_ref14_Fetch, te, ts, tr, c1, c2, c3, c4, slH, g0, g2, g3, List.length_map, c5, w1, e0, e7, e1, w2, u, ta, tw, under_la, simprocAttr]
     first | done | rfl
    ·simp only [List.map_nil] at tw
     simp only [go_sem, c_ref14_Fetch, te, ts, tr, c1, c2, c3, c4, slH, g0, g2, g3, List.length_map, c5, w1, e0, e7, e1, w2, u, ta, tw, simprocAttr]
     first | done | rfl
    ·simp only [List.map_nil] at tw
     simp only [go_sem, c_ref14_Fetch, te, ts, tr, c1, c2, c3, c4, slH, g0, g2, g3, List.length_map, c5, w1, e0, e7, e1, w2, u, ta, tw, simprocAttr]
     first | done | rfl
 ·have hle : R0.take n.toNat = R0 := List.take_of_length_le (by omega)
  refine fin R0 (mx lo (topE start L only)) ?_ hle ?_
  ·unfold fNext
   rw [hle, if_neg (by omega)]
  ·intro only' ho'
   subst ho'
   have u := fun n => under_g n R0
   cases only' with
   | false =>
    have c6 : ¬ (0 : Int) ≥ n := by omega
    simp only [topE, Bool.false_eq_true, if_false, fAb] at *
    generalize endE start L = top at *
    generalize stableE start L = st at *
    refine W_fn rfl rfl ?_
    have mc := mx_comm top lo
    rcases hfr with rfl | ⟨rfl, rfl⟩
    ·simp only [go_sem, c_ref14_Fetch, te, ts, tr, c1, c2, c3, c4, List.length_map, c5, u, mc, simprocAttr]
     first | done | rfl
    ·simp only [List.map_nil] at *
     simp only [go_sem, c_ref14_Fetch, te, ts, tr, c1, c2, c3, c4, List.length_nil, Int.natCast_zero, c6, mc, simprocAttr]
     first | done | rfl
   | true =>
    have c6 : ¬ (0 : Int) ≥ n := by omega
    simp only [topE, if_true, fAb] at *
    generalize endE start L = top at *
    generalize stableE start L = st at *
    have mc := mx_comm st lo
    refine W_fn rfl rfl ?_
    rcases hfr with rfl | ⟨rfl, rfl⟩
    ·obtain ⟨M, ta⟩ := tf (hx H [.cells [.list 4 [] .full, .list 3 [] .full, .int .i64 0, .int .i64 0], .cells [.list 4 (R0.map gV) .own, .list 3 [] .full, .int .i64 (mx lo st), .int .i64 st]])
     simp only [hx_hx, pt_hx, List.length_cons, List.length_nil, List.cons_append, List.nil_append, Nat.zero_add, Nat.add_zero] at ta
     generalize tabB (foldL L []) (foldF L [] .full) = B at *
     rw [hfe] at ta
     obtain ⟨f, tw, hf⟩ := rwithin_spec (abOf L [] []) (by omega) lo (mx lo st) (hx H (.cells [.list 4 [] .full, .list 3 [] .full, .int .i64 0, .int .i64 0] :: .cells [.list 4 (R0.map gV) .own, .list 3 [] .full, .int .i64 (mx lo st), .int .i64 st] :: B :: M))
     rw [← hfe, hfd] at tw hf
     rw [hfe] at tw
     generalize (abOf L [] []).filter (inR lo (mx lo st)) = D at *
     generalize (abOf L [] []).map laV = DD at *
     have hdf : dFl (abOf L [] []) = .own ∨ dFl (abOf L [] []) = .full := by unfold dFl; split <;> simp
     generalize dFl (abOf L [] []) = df at *
     rcases hf with rfl | ⟨rfl, rfl⟩ <;> rcases hdf with rfl | rfl
     ·simp only [go_sem, c_ref14_Fetch, te, ts, tr, c1, c2, c3, c4, List.length_map, c5, u, mc, ta, tw, under_la, simprocAttr]
      first | done | rfl
     ·simp only [go_sem, c_ref14_Fetch, te, ts, tr, c1, c2, c3, c4, List.length_map, c5, u, mc, ta, tw, under_la, simprocAttr]
      first | done | rfl
     ·simp only [List.map_nil] at tw
      simp only [go_sem, c_ref14_Fetch, te, ts, tr, c1, c2, c3, c4, List.length_map, c5, u, mc, ta, tw, simprocAttr]
      first | done | rfl
     ·simp only [List.map_nil] at tw
      simp only [go_sem, c_ref14_Fetch, te, ts, tr, c1, c2, c3, c4, List.length_map, c5, u, mc, ta, tw, simprocAttr]
      first | done | rfl
    ·simp only [List.map_nil] at *
     obtain ⟨M, ta⟩ := tf (hx H [.cells [.list 4 [] .full, .list 3 [] .full, .int .i64 0, .int .i64 0], .cells [.list 4 [] .full, .list 3 [] .full, .int .i64 (mx lo st), .int .i64 st]])
     simp only [hx_hx, pt_hx, List.length_cons, List.length_nil, List.cons_append, List.nil_append, Nat.zero_add, Nat.add_zero] at ta
     generalize tabB (foldL L []) (foldF L [] .full) = B at *
     rw [hfe] at ta
     obtain ⟨f, tw, hf⟩ := rwithin_spec (abOf L [] []) (by omega) lo (mx lo st) (hx H (.cells [.list 4 [] .full, .list 3 [] .full, .int .i64 0, .int .i64 0] :: .cells [.list 4 [] .full, .list 3 [] .full, .int .i64 (mx lo st), .int .i64 st] :: B :: M))
     rw [← hfe, hfd] at tw hf
     rw [hfe] at tw
     generalize (abOf L [] []).filter (inR lo (mx lo st)) = D at *
     generalize (abOf L [] []).map laV = DD at *
     have hdf : dFl (abOf L [] []) = .own ∨ dFl (abOf L [] []) = .full := by unfold dFl; split <;> simp
     generalize dFl (abOf L [] []) = df at *
     rcases hf with rfl | ⟨rfl, rfl⟩ <;> rcases hdf with rfl | rfl
     ·simp only [go_sem, c_ref14_Fetch, te, ts, tr, c1, c2, c3, c4, List.length_nil, Int.natCast_zero, c6, mc, ta, tw, under_la, simprocAttr]
      first | done | rfl
     ·simp only [go_sem, c_ref14_Fetch, te, ts, tr, c1, c2, c3, c4, List.length_nil, Int.natCast_zero, c6, mc, ta, tw, under_la, simprocAttr]
      first | done | rfl
     ·simp only [List.map_nil] at tw
      simp only [go_sem, c_ref14_Fetch, te, ts, tr, c1, c2, c3, c4, List.length_nil, Int.natCast_zero, c6, mc, ta, tw, simprocAttr]
      first | done | rfl
     ·simp only [List.map_nil] at tw
      simp only [go_sem, c_ref14_Fetch, te, ts, tr, c1, c2, c3, c4, List.length_nil, Int.natCast_zero, c6, mc, ta, tw, simprocAttr]
      first | done | rfl
theorem rfetchE_spec (L : List Ba) (hL : ∀ b ∈ L, Fit b) (hn : L.length ≤ 1000) (start lo n : Int) (h0 : 0 ≤ start) (hr : RowC start L) (only : Bool) (H : Heap) :
  W n_ref14_Fetch [.int .i64 start, .list 7 (L.map Ba.V) .ro, .int .i64 lo, .int .i64 n, .bool only] H =
   some (.tuple [.agg [.list 4 ((fetE start lo n L only).R.map gV) .ro, .list 3 ((fetE start lo n L only).D.map laV) .ro, .int .i64 (fetE start lo n L only).n, .int .i64 (fetE start lo n L only).s], .int .i64 (fetE start lo n L only).e], H) := by
 unfold fetE
 have te := fun H => end_spec start L hL hn .ro (.inl rfl) H
 by_cases h1 : n < 1
 ·rw [if_pos (.inl h1)]
  refine W_fn rfl rfl ?_
  simp only [go_sem, c_ref14_Fetch, te, h1, simprocAttr]
  first | done | rfl
 by_cases h2 : n > 64
 ·rw [if_pos (.inr h2)]
  refine W_fn rfl rfl ?_
  simp only [go_sem, c_ref14_Fetch, te, h1, h2, simprocAttr]
  first | done | rfl
 rw [if_neg (by omega)]
 by_cases h3 : lo < start
 ·rw [if_pos (.inl h3)]
  refine W_fn rfl rfl ?_
  simp only [go_sem, c_ref14_Fetch, te, h1, h2, h3, simprocAttr]
  first | done | rfl
 by_cases h4 : lo > endE start L
 ·rw [if_pos (.inr h4)]
  refine W_fn rfl rfl ?_
  simp only [go_sem, c_ref14_Fetch, te, h1, h2, h3, h4, simprocAttr]
  first | done | rfl
 rw [if_neg (by omega)]
 exact rfetch_ok L hL hn start lo n h0 hr only (by omega) (by omega) (by omega) (by omega) H
theorem fetE_len (L : List Ba) (hL : ∀ b ∈ L, Fit b) (hn : L.length ≤ 1000) (start lo n : Int) (only : Bool) : (fetE start lo n L only).R.length ≤ 64 ∧ (fetE start lo n L only).D.length ≤ 1000 := by
 unfold fetE
 split
 ·simp
 ·rename_i h
  split
  ·simp
  ·refine ⟨?_, ?_⟩
   ·simp only [fRecs, List.length_take]; omega
   ·simp only [fAb]
    split
    ·exact Nat.le_trans (List.length_filter_le _ _) (Nat.le_trans (abOf_len L hL hn) hn)
    ·simp
abbrev srcV (start : Int) (L : List Ba) : AVal := .agg [.int .i64 start, .list 7 (L.map Ba.V) .ro]
abbrev rdrB (at' n : Int) (only : Bool) : Box := .cells [.int .i64 at', .int .i64 n, .bool only]
abbrev feV (fe : Fe) : AVal := .agg [.list 4 (fe.R.map gV) .ro, .list 3 (fe.D.map laV) .ro, .int .i64 fe.n, .int .i64 fe.s]
theorem under_bas0 (n : Nat) (L : List Ba) : AVal.underL n (L.map Ba.V) = true := under_bas n L
theorem under_la0 (n : Nat) (L : List La) : AVal.underL n (L.map laV) = true := under_la n L
theorem rowf_spec (L : List Ba) (hL : ∀ b ∈ L, Fit b) (hn : L.length ≤ 1000) (start lo n : Int) (h0 : 0 ≤ start) (hr : RowC start L) (only : Bool) (H : Heap) :
  W n_law20_row_Fetch [srcV start L, .int .i64 lo, .int .i64 n, .bool only] H = some (.tuple [feV (fetE start lo n L only), .int .i64 (fetE start lo n L only).e], H) := by
 have t1 := fun H => rfetchE_spec L hL hn start lo n h0 hr only H
 generalize fetE start lo n L only = fe at *
 obtain ⟨R, D, m, s, e⟩ := fe
 have u1 := fun k => under_g k R
 have u2 := fun k => under_la0 k D
 simp only [feV] at t1 ⊢
 generalize R.map gV = R' at *
 generalize D.map laV = D' at *
 refine W_fn rfl rfl ?_
 simp only [go_sem, c_law20_row_Fetch, t1, u1, u2, simprocAttr]
 first | done | rfl
theorem rnew_spec (at' n : Int) (only : Bool) (H : Heap) :
  W n_reader_New [.int .i64 at', .int .i64 n, .bool only] H = some (if n < 1 ∨ n > 64 then (.nilp, H) else (.ptr (pt H 0) 0, hx H [rdrB at' n only])) := by
 by_cases h1 : n < 1
 ·rw [if_pos (.inl h1)]
  refine W_fn rfl rfl ?_
  simp only [go_sem, c_reader_New, h1, simprocAttr]
  first | done | rfl
 by_cases h2 : n > 64
 ·rw [if_pos (.inr h2)]
  refine W_fn rfl rfl ?_
  simp only [go_sem, c_reader_New, h1, h2, simprocAttr]
  first | done | rfl
 rw [if_neg (by omega)]
 refine W_fnS rfl rfl ?_
 simp only [go_sem, c_reader_New, h1, h2, simprocAttr]
 first | done | rfl
theorem rat_spec (at' n : Int) (only : Bool) (i : Nat) (H : Heap) (hi : Old H i (rdrB at' n only)) : W n_reader_Reader_At [.ptr i 0] H = some (.int .i64 at', H) := by
 have gi := hi.get
 have gi' := hi.get'
 unfold rdrB at *
 refine W_fn rfl rfl ?_
 simp only [go_sem, c_reader_Reader_At, gi, gi', simprocAttr]
 first | done | rfl
theorem fz4 (sz : Nat) (Xs : List AVal) (e : Env) (H : Heap) : agh (.freeze 4) ((4, .list sz Xs .uniq) :: e) H = some (Env.put ((4, .list sz Xs .uniq) :: e) 4 (.list sz Xs .own), H) := rfl
def pG (fe : Fe) (only : Bool) : List Gt := if only = true then fe.R.filter (fun g => !hitG fe.D g) else fe.R
theorem pG_len {fe only} (h : fe.R.length ≤ 64) : (pG fe only).length ≤ 64 := by
 unfold pG
 split
 ·exact Nat.le_trans (List.length_filter_le _ _) h
 ·exact h
def pF (only : Bool) : Fl := if only = true then .full else .own
theorem poll_spec (L : List Ba) (hL : ∀ b ∈ L, Fit b) (hn : L.length ≤ 1000) (start lo n : Int) (h0 : 0 ≤ start) (hr : RowC start L) (only : Bool) (i : Nat) (H : Heap) (hi : Old H i (rdrB lo n only)) :
  W n_reader_Reader_Poll [.ptr i 0, .iface 27 (srcV start L)] H =
   some (if (fetE start lo n L only).e = 0 then (.tuple [.list 4 ((pG (fetE start lo n L only) only).map gV) (pF only), .int .i64 0], H.set i (rdrB (fetE start lo n L only).n n only)) else (.tuple [.list 4 [] .full, .int .i64 (fetE start lo n L only).e], H)) := by
 have gi := hi.get
 have gi' := hi.get'
 have gs := hi.set
 have gs' := hi.set'
 have t1 := fun H => rowf_spec L hL hn start lo n h0 hr only H
 have hlen := fetE_len L hL hn start lo n only
 generalize fetE start lo n L only = fe at *
 obtain ⟨R, D, m, s, e⟩ := fe
 simp only [feV] at *
 have t2 := fun H => deliver_spec R (by omega) D (by omega) m s H
 have t3 := fun H => W_slices_Clone_api_Got_api_Got_ (R.map gV) H (by simp only [List.length_map, maxBytes]; omega)
 have u1 := fun k => under_g k R
 have u2 := fun k => under_la0 k D
 have u3 := fun k => under_g k (R.filter fun g => !hitG D g)
 have u4 := fun k => under_bas0 k L
 unfold rdrB at *
 simp only [pG]
 generalize hG : R.filter (fun g => !hitG D g) = G at *
 by_cases he : e = 0
 ·subst he
  rw [if_pos rfl]
  cases only with
  | true =>
   rw [if_pos rfl, show pF true = .full from rfl]
   refine W_fnS rfl rfl ?_
   simp only [go_sem, c_reader_Reader_Poll, gi, gi', gs, gs', t1, t2, u1, u2, u3, u4, simprocAttr]
   first | done | rfl
  | false =>
   rw [if_neg (by decide), show pF false = .own from rfl]
   refine W_fnS rfl rfl ?_
   simp only [go_sem, c_reader_Reader_Poll, gi, gi', gs, gs', t1, t3, fz4, u1, u2, u3, u4, simprocAttr]
   first | done | rfl
 ·rw [if_neg he]
  refine W_fn rfl rfl ?_
  simp only [go_sem, c_reader_Reader_Poll, gi, gi', gs, gs', t1, he, u1, u2, u3, u4, simprocAttr]
  first | done | rfl
def drL (start n : Int) (L : List Ba) (only : Bool) : Nat → Int → List Gt → List Gt × Int
 | 0, a, o => (o, a)
 | d + 1, a, o => if (fetE start a n L only).e = 0 then (if (fetE start a n L only).n = a then (o ++ pG (fetE start a n L only) only, a) else drL start n L only d (fetE start a n L only).n (o ++ pG (fetE start a n L only) only)) else (o, a)
theorem drL_len (start n : Int) (L : List Ba) (hL : ∀ b ∈ L, Fit b) (hn : L.length ≤ 1000) (only : Bool) : ∀ (d : Nat) (a : Int) (o : List Gt), (drL start n L only d a o).1.length ≤ o.length + 64 * d
 | 0, a, o => by simp [drL]
 | d + 1, a, o => by
  have h1 := @pG_len (fetE start a n L only) only (fetE_len L hL hn start a n only).1
  unfold drL
  split
  ·split
   ·simp only [List.length_append]; omega
   ·have := drL_len start n L hL hn only d (fetE start a n L only).n (o ++ pG (fetE start a n L only) only)
    simp only [List.length_append] at this
    omega
  ·simp only; omega
set_option maxHeartbeats 1000000 in
theorem rdr_loop (L : List Ba) (hL : ∀ b ∈ L, Fit b) (hn : L.length ≤ 1000) (start n : Int) (h0 : 0 ≤ start) (hr : RowC start L) (only : Bool) (m : Int) (hm : m ≤ 300) (H : Heap) (d : Nat) : ∀ (i : Nat) (a : Int) (o : List Gt) (fl : Fl), (i : Int) + d = mx 0 m → o.length ≤ 64 * i → (fl = .own ∨ (fl = .full ∧ o = [])) →
  ∃ fl', loopA W loopW (.ghost (.kill k_reader_Drain_0) l_reader_Drain_0) [(0, .iface 27 (srcV start L)), (12, .ptr (pt H 0) 0), (13, .list 4 (o.map gV) fl), (25, .int .i64 (mx 0 m)), (26, .int .i64 (i : Nat))] (hx H [rdrB a n only]) =
   some (.exit 0, [(12, .ptr (pt H 0) 0), (13, .list 4 ((drL start n L only d a o).1.map gV) fl')], hx H [rdrB (drL start n L only d a o).2 n only]) ∧ (fl' = .own ∨ (fl' = .full ∧ (drL start n L only d a o).1 = [])) := by
 have hmm : mx 0 m ≤ 300 := by unfold mx; split <;> omega
 generalize mx 0 m = M at *
 induction d with
 | zero =>
  intro i a o fl hi ho hfl
  refine ⟨fl, ?_, hfl⟩
  have c : ¬ ((i : Int) < M) := by omega
  simp only [drL]
  generalize srcV start L = S at *
  refine loop_step l_reader_Drain_0.eq_1 k_reader_Drain_0.eq_1 (by kernel_rfl) ?_
  simp only [go_sem, c, simprocAttr]
 | succ d ih =>
  intro i a o fl hi ho hfl
  have c : ((i : Int) < M) := by omega
  have e6 : IntKind.i64.wrap ((i : Int) + 1) = ((i + 1 : Nat) : Int) := by rw [wrap_id (by unfold I64; omega)]; omega
  have t1 := poll_spec L hL hn start a n h0 hr only (pt H 0) (hx H [rdrB a n only]) ⟨by rw [hx_get]; rfl⟩
  rw [hx_set, List.set_cons_zero] at t1
  have hg := @pG_len (fetE start a n L only) only (fetE_len L hL hn start a n only).1
  have gg : ∀ (H : Heap) (x : Int), (hx H [rdrB x n only])[pt H 0]? = some (rdrB x n only) := fun H x => by rw [hx_get]; rfl
  have ap : ∀ X : List Gt, o.map gV ++ X.map gV = (o ++ X).map gV := fun X => by rw [List.map_append]
  unfold drL
  by_cases he : (fetE start a n L only).e = 0
  ·rw [if_pos he] at t1 ⊢
   have key := ih (i + 1) (fetE start a n L only).n (o ++ pG (fetE start a n L only) only) .own (by omega) (by simp only [List.length_append]; omega) (.inl rfl)
   by_cases hq : (fetE start a n L only).n = a
   ·rw [if_pos hq]
    refine ⟨.own, ?_, .inl rfl⟩
    rw [hq] at t1
    clear key ih
    have bb : ((o.map gV).length + ((pG (fetE start a n L only) only).map gV).length) * 48 ≤ maxBytes := by simp only [List.length_map, maxBytes]; omega
    have b0 : (0 + ((pG (fetE start a n L only) only).map gV).length) * 48 ≤ maxBytes := by simp only [List.length_map, maxBytes]; omega
    generalize pG (fetE start a n L only) only = G at *
    generalize srcV start L = S at *
    have pf : pF only = .full ∨ pF only = .own := by unfold pF; split <;> simp
    generalize pF only = pf0 at *
    refine loop_step l_reader_Drain_0.eq_1 k_reader_Drain_0.eq_1 (by kernel_rfl) ?_
    rcases pf with rfl | rfl <;> rcases hfl with rfl | ⟨rfl, rfl⟩
    all_goals
     try simp only [List.map_nil, List.nil_append] at *
     first
      | (simp only [go_sem, c, gg, t1, apO, bb, ap, simprocAttr]; done)
      | (simp only [go_sem, c, gg, t1, apF, List.length_nil, b0, List.nil_append, simprocAttr]; done)
   ·rw [if_neg hq]
    obtain ⟨fl', k1, k2⟩ := key
    refine ⟨fl', ?_, k2⟩
    clear ih k2
    have bb : ((o.map gV).length + ((pG (fetE start a n L only) only).map gV).length) * 48 ≤ maxBytes := by simp only [List.length_map, maxBytes]; omega
    have b0 : (0 + ((pG (fetE start a n L only) only).map gV).length) * 48 ≤ maxBytes := by simp only [List.length_map, maxBytes]; omega
    have hq' : ¬ ((fetE start a n L only).n = a) := hq
    generalize drL start n L only d (fetE start a n L only).n (o ++ pG (fetE start a n L only) only) = Q at *
    generalize pG (fetE start a n L only) only = G at *
    generalize (fetE start a n L only).n = a' at *
    generalize srcV start L = S at *
    have pf : pF only = .full ∨ pF only = .own := by unfold pF; split <;> simp
    generalize pF only = pf0 at *
    refine loop_step l_reader_Drain_0.eq_1 k_reader_Drain_0.eq_1 (by kernel_rfl) ?_
    rcases pf with rfl | rfl <;> rcases hfl with rfl | ⟨rfl, rfl⟩
    all_goals
     try simp only [List.map_nil, List.nil_append] at *
     first
      | (simp only [go_sem, c, gg, t1, apO, bb, ap, hq, e6, simprocAttr]; exact k1)
      | (simp only [go_sem, c, gg, t1, apF, List.length_nil, b0, List.nil_append, hq, e6, simprocAttr]; exact k1)
  ·rw [if_neg he] at t1 ⊢
   refine ⟨fl, ?_, hfl⟩
   clear ih
   generalize srcV start L = S at *
   generalize (fetE start a n L only).e = e at *
   refine loop_step l_reader_Drain_0.eq_1 k_reader_Drain_0.eq_1 (by kernel_rfl) ?_
   simp only [go_sem, c, gg, t1, he, simprocAttr]
set_option maxHeartbeats 1000000 in
theorem ldr_loop (L : List Ba) (hL : ∀ b ∈ L, Fit b) (hn : L.length ≤ 1000) (start n : Int) (h0 : 0 ≤ start) (hr : RowC start L) (only : Bool) (m : Int) (hm : m ≤ 300) (H : Heap) (d : Nat) : ∀ (i : Nat) (a : Int) (o : List Gt) (fl : Fl) (N : Heap), (i : Int) + d = mx 0 m → o.length ≤ 64 * i → (fl = .own ∨ (fl = .full ∧ o = [])) →
  ∃ fl' M, loopA W loopW (.ghost (.kill k_law20_drain_0) l_law20_drain_0) [(1, .int .i64 a), (2, .int .i64 n), (3, .bool only), (4, .int .i64 m), (5, .ptr (pt H 0) 0), (12, .list 4 (o.map gV) fl), (13, .int .i64 (i : Nat))] (hx H (.cells [.int .i64 start, .list 7 (L.map Ba.V) .ro] :: N)) =
   some (.exit 0, [(1, .int .i64 (drL start n L only d a o).2), (12, .list 4 ((drL start n L only d a o).1.map gV) fl')], hx H M) ∧ (fl' = .own ∨ (fl' = .full ∧ (drL start n L only d a o).1 = [])) := by
 have hmm : mx 0 m ≤ 300 := by unfold mx; split <;> omega
 have hm1 : ∀ i : Nat, (i : Int) < mx 0 m ↔ (i : Int) < m := fun i => by unfold mx; split <;> omega
 generalize mx 0 m = M at *
 induction d with
 | zero =>
  intro i a o fl N hi ho hfl
  have c : ¬ ((i : Int) < m) := by rw [← hm1]; omega
  refine ⟨fl, .cells [.int .i64 start, .list 7 (L.map Ba.V) .ro] :: N, ?_, hfl⟩
  simp only [drL]
  generalize L.map Ba.V = S at *
  refine loop_step l_law20_drain_0.eq_1 k_law20_drain_0.eq_1 (by kernel_rfl) ?_
  simp only [go_sem, c, simprocAttr]
 | succ d ih =>
  intro i a o fl N hi ho hfl
  have c : ((i : Int) < m) := by rw [← hm1]; omega
  have e6 : IntKind.i64.wrap ((i : Int) + 1) = ((i + 1 : Nat) : Int) := by rw [wrap_id (by unfold I64; omega)]; omega
  have t1 := fun H => rowf_spec L hL hn start a n h0 hr only H
  have hlen := fetE_len L hL hn start a n only
  have hg := @pG_len (fetE start a n L only) only hlen.1
  have n1 : ∀ x : Box, (N ++ [x])[N.length]? = some x := fun x => by simp
  have n2 : ∀ x z : Box, (N ++ [x]).set N.length z = N ++ [z] := fun x z => by simp
  have ap : ∀ X : List Gt, o.map gV ++ X.map gV = (o ++ X).map gV := fun X => by rw [List.map_append]
  unfold drL
  have key : ∀ fe : Fe, fe = fetE start a n L only → fe.e = 0 → fe.n ≠ a → ∃ fl' M, loopA W loopW (.ghost (.kill k_law20_drain_0) l_law20_drain_0) [(1, .int .i64 fe.n), (2, .int .i64 n), (3, .bool only), (4, .int .i64 m), (5, .ptr (pt H 0) 0), (12, .list 4 ((o ++ pG fe only).map gV) .own), (13, .int .i64 ((i + 1 : Nat) : Int))] (hx H (.cells [.int .i64 start, .list 7 (L.map Ba.V) .ro] :: (N ++ [.cells [.list 4 (fe.R.map gV) .ro, .list 3 (fe.D.map laV) .ro, .int .i64 fe.n, .int .i64 fe.s]]))) =
   some (.exit 0, [(1, .int .i64 (drL start n L only d fe.n (o ++ pG fe only)).2), (12, .list 4 ((drL start n L only d fe.n (o ++ pG fe only)).1.map gV) fl')], hx H M) ∧ (fl' = .own ∨ (fl' = .full ∧ (drL start n L only d fe.n (o ++ pG fe only)).1 = [])) := by
   intro fe hfe _ _
   subst hfe
   exact ih (i + 1) _ _ .own _ (by omega) (by simp only [List.length_append]; omega) (.inl rfl)
  obtain ⟨fe, hfe⟩ : ∃ fe, fe = fetE start a n L only := ⟨_, rfl⟩
  rw [← hfe] at t1 hlen hg ⊢
  have key := key fe hfe
  clear ih hfe
  obtain ⟨R, D, x, s, e⟩ := fe
  simp only [feV] at *
  have t2 := fun H => rdeliver_spec R (by omega) D (by omega) x s H
  by_cases he : e = 0
  ·subst he
   rw [if_pos rfl]
   have bb : ((o.map gV).length + ((pG ⟨R, D, x, s, 0⟩ only).map gV).length) * 48 ≤ maxBytes := by simp only [List.length_map, maxBytes]; omega
   have b0 : (0 + ((pG ⟨R, D, x, s, 0⟩ only).map gV).length) * 48 ≤ maxBytes := by simp only [List.length_map, maxBytes]; omega
   by_cases hq : x = a
   ·rw [if_pos hq]
    subst hq
    refine ⟨.own, .cells [.int .i64 start, .list 7 (L.map Ba.V) .ro] :: (N ++ [.cells [.list 4 (R.map gV) .ro, .list 3 (D.map laV) .ro, .int .i64 x, .int .i64 s]]), ?_, .inl rfl⟩
    clear key
    cases only with
    | true =>
     simp only [pG, if_true] at *
     generalize hG : R.filter (fun g => !hitG D g) = G at *
     obtain ⟨f2, t2, hf2⟩ := t2 (hx H (.cells [.int .i64 start, .list 7 (L.map Ba.V) .ro] :: (N ++ [.cells [.list 4 (R.map gV) .ro, .list 3 (D.map laV) .ro, .int .i64 x, .int .i64 s]])))
     have hf2' : f2 = .own ∨ f2 = .full := by rcases hf2 with h | ⟨h, _⟩ <;> simp [h]
     refine loop_step l_law20_drain_0.eq_1 k_law20_drain_0.eq_1 (by kernel_rfl) ?_
     rcases hf2' with rfl | rfl <;> rcases hfl with rfl | ⟨rfl, rfl⟩
     all_goals
      try simp only [List.map_nil, List.nil_append] at *
      first
       | (simp only [go_sem, c, n1, n2, t1, t2, apO, bb, ap, simprocAttr]; done)
       | (simp only [go_sem, c, n1, n2, t1, t2, apF, List.length_nil, b0, List.nil_append, simprocAttr]; done)
    | false =>
     simp only [pG, Bool.false_eq_true, if_false] at *
     refine loop_step l_law20_drain_0.eq_1 k_law20_drain_0.eq_1 (by kernel_rfl) ?_
     rcases hfl with rfl | ⟨rfl, rfl⟩
     all_goals
      try simp only [List.map_nil, List.nil_append] at *
      first
       | (simp only [go_sem, c, n1, n2, t1, apO, bb, ap, simprocAttr]; done)
       | (simp only [go_sem, c, n1, n2, t1, apF, List.length_nil, b0, List.nil_append, simprocAttr]; done)
   ·rw [if_neg hq]
    obtain ⟨fl', M', k1, k2⟩ := key rfl hq
    refine ⟨fl', M', ?_, k2⟩
    clear key k2
    generalize drL start n L only d x (o ++ pG ⟨R, D, x, s, 0⟩ only) = Q at *
    cases only with
    | true =>
     simp only [pG, if_true] at *
     generalize hG : R.filter (fun g => !hitG D g) = G at *
     obtain ⟨f2, t2, hf2⟩ := t2 (hx H (.cells [.int .i64 start, .list 7 (L.map Ba.V) .ro] :: (N ++ [.cells [.list 4 (R.map gV) .ro, .list 3 (D.map laV) .ro, .int .i64 x, .int .i64 s]])))
     have hf2' : f2 = .own ∨ f2 = .full := by rcases hf2 with h | ⟨h, _⟩ <;> simp [h]
     refine loop_step l_law20_drain_0.eq_1 k_law20_drain_0.eq_1 (by kernel_rfl) ?_
     rcases hf2' with rfl | rfl <;> rcases hfl with rfl | ⟨rfl, rfl⟩
     all_goals
      try simp only [List.map_nil, List.nil_append] at *
      first
       | (simp only [go_sem, c, n1, n2, t1, t2, apO, bb, ap, hq, e6, simprocAttr]; exact k1)
       | (simp only [go_sem, c, n1, n2, t1, t2, apF, List.length_nil, b0, List.nil_append, hq, e6, simprocAttr]; exact k1)
    | false =>
     simp only [pG, Bool.false_eq_true, if_false] at *
     refine loop_step l_law20_drain_0.eq_1 k_law20_drain_0.eq_1 (by kernel_rfl) ?_
     rcases hfl with rfl | ⟨rfl, rfl⟩
     all_goals
      try simp only [List.map_nil, List.nil_append] at *
      first
       | (simp only [go_sem, c, n1, n2, t1, apO, bb, ap, hq, e6, simprocAttr]; exact k1)
       | (simp only [go_sem, c, n1, n2, t1, apF, List.length_nil, b0, List.nil_append, hq, e6, simprocAttr]; exact k1)
  ·rw [if_neg he]
   refine ⟨fl, .cells [.int .i64 start, .list 7 (L.map Ba.V) .ro] :: (N ++ [.cells [.list 4 (R.map gV) .ro, .list 3 (D.map laV) .ro, .int .i64 x, .int .i64 s]]), ?_, hfl⟩
   clear key
   refine loop_step l_law20_drain_0.eq_1 k_law20_drain_0.eq_1 (by kernel_rfl) ?_
   simp only [go_sem, c, n1, n2, t1, he, simprocAttr]
def drN (start a n : Int) (L : List Ba) (only : Bool) (m : Int) : List Gt × Int := if n < 1 ∨ n > 64 then ([], a) else drL start n L only (mx 0 m).toNat a []
theorem drN_len (start a n : Int) (L : List Ba) (hL : ∀ b ∈ L, Fit b) (hn : L.length ≤ 1000) (only : Bool) (m : Int) (hm : m ≤ 300) : (drN start a n L only m).1.length ≤ 19200 := by
 unfold drN
 split
 ·simp
 ·have := drL_len start n L hL hn only (mx 0 m).toNat a []
  have hmm : mx 0 m ≤ 300 := by unfold mx; split <;> omega
  simp only [List.length_nil] at this
  omega
theorem mx0 (m : Int) : 0 ≤ mx 0 m := by unfold mx; split <;> omega
theorem drain_spec (L : List Ba) (hL : ∀ b ∈ L, Fit b) (hn : L.length ≤ 1000) (start a n : Int) (h0 : 0 ≤ start) (hr : RowC start L) (only : Bool) (m : Int) (hm : m ≤ 300) (H : Heap) :
  W n_reader_Drain [.iface 27 (srcV start L), .int .i64 a, .int .i64 n, .bool only, .int .i64 m] H = some (.tuple [.list 4 ((drN start a n L only m).1.map gV) .full, .int .i64 (drN start a n L only m).2], H) := by
 have t1 := rnew_spec a n only (hx H [])
 unfold drN
 by_cases h1 : n < 1 ∨ n > 64
 ·rw [if_pos h1] at t1 ⊢
  generalize srcV start L = S at *
  refine W_fn rfl rfl ?_
  simp only [go_sem, c_reader_Drain, t1, simprocAttr]
  first | done | rfl
 ·rw [if_neg h1] at t1 ⊢
  rw [hx_hx, List.nil_append, pt_hx, List.length_nil, Nat.zero_add] at t1
  have h0m := mx0 m
  obtain ⟨fl', t2, hf⟩ := rdr_loop L hL hn start n h0 hr only m hm H (mx 0 m).toNat 0 a [] .full (by omega) (by simp) (.inr ⟨rfl, rfl⟩)
  simp only [List.map_nil, Int.natCast_zero] at t2
  have gg : ∀ (x : Int), (hx H [rdrB x n only])[pt H 0]? = some (rdrB x n only) := fun x => by rw [hx_get]; rfl
  generalize drL start n L only (mx 0 m).toNat a [] = Q at *
  have t3 := fun H => clip_got (Q.1.map gV) fl' (by rcases hf with h | ⟨h, _⟩ <;> simp [h]) H
  have u1 := fun k => under_g k Q.1
  have u4 := fun k => under_bas0 k L
  have hf' : fl' = .own ∨ fl' = .full := by rcases hf with h | ⟨h, _⟩ <;> simp [h]
  generalize Q.1.map gV = Q1 at *
  refine W_fn rfl rfl ?_
  rcases hf' with rfl | rfl
  all_goals
   simp only [go_sem, c_reader_Drain, t1, t2, t3, gg, u1, u4, simprocAttr]
   first | done | rfl
theorem ldrain_spec (L : List Ba) (hL : ∀ b ∈ L, Fit b) (hn : L.length ≤ 1000) (start a n : Int) (h0 : 0 ≤ start) (hr : RowC start L) (only : Bool) (m : Int) (hm : m ≤ 300) (H : Heap) :
  ∃ fl, W n_law20_drain [srcV start L, .int .i64 a, .int .i64 n, .bool only, .int .i64 m] H = some (.tuple [.list 4 ((drN start a n L only m).1.map gV) fl, .int .i64 (drN start a n L only m).2], H) ∧ (fl = .own ∨ fl = .full) := by
 unfold drN
 have u4 := fun k => under_bas0 k L
 by_cases h1 : n < 1
 ·rw [if_pos (.inl h1)]
  refine ⟨.full, ?_, .inr rfl⟩
  refine W_fn rfl rfl ?_
  simp only [go_sem, c_law20_drain, h1, simprocAttr]
  first | done | rfl
 by_cases h2 : n > 64
 ·rw [if_pos (.inr h2)]
  refine ⟨.full, ?_, .inr rfl⟩
  refine W_fn rfl rfl ?_
  simp only [go_sem, c_law20_drain, h1, h2, simprocAttr]
  first | done | rfl
 rw [if_neg (by omega)]
 have h0m := mx0 m
 obtain ⟨fl', M, t2, hf⟩ := ldr_loop L hL hn start n h0 hr only m hm H (mx 0 m).toNat 0 a [] .full [] (by omega) (by simp) (.inr ⟨rfl, rfl⟩)
 simp only [List.map_nil, Int.natCast_zero] at t2
 generalize drL start n L only (mx 0 m).toNat a [] = Q at *
 have u1 := fun k => under_g k Q.1
 have hf' : fl' = .own ∨ fl' = .full := by rcases hf with h | ⟨h, _⟩ <;> simp [h]
 refine ⟨fl', ?_, hf'⟩
 generalize Q.1.map gV = Q1 at *
 refine W_fn rfl rfl ?_
 rcases hf' with rfl | rfl
 all_goals
  simp only [go_sem, c_law20_drain, h1, h2, t2, u1, u4, simprocAttr]
  first | done | rfl
theorem lsame20_spec (L : List Ba) (hL : ∀ b ∈ L, Fit b) (hn : L.length ≤ 1000) (start a n : Int) (h0 : 0 ≤ start) (hr : RowC start L) (only : Bool) (m : Int) (H : Heap) :
  W n_law20_same [srcV start L, .int .i64 a, .int .i64 n, .bool only, .int .i64 m] H = some (.bool true, H) := by
 have key : ∀ (k : Int), k ≤ 300 → (∀ H, W n_reader_Drain [.iface 27 (srcV start L), .int .i64 a, .int .i64 n, .bool only, .int .i64 k] H = some (.tuple [.list 4 ((drN start a n L only k).1.map gV) .full, .int .i64 (drN start a n L only k).2], H)) ∧
   (∀ H, ∃ fl, W n_law20_drain [srcV start L, .int .i64 a, .int .i64 n, .bool only, .int .i64 k] H = some (.tuple [.list 4 ((drN start a n L only k).1.map gV) fl, .int .i64 (drN start a n L only k).2], H) ∧ (fl = .own ∨ fl = .full)) ∧
   (∀ H, W n_ref14_Gots [.list 4 ((drN start a n L only k).1.map gV) .ro, .list 4 ((drN start a n L only k).1.map gV) .ro] H = some (.bool true, H)) := fun k hk =>
  ⟨fun H => drain_spec L hL hn start a n h0 hr only k hk H, fun H => ldrain_spec L hL hn start a n h0 hr only k hk H, fun H => gots_self _ (by have := drN_len start a n L hL hn only k hk; omega) H⟩
 have u4 := fun k => under_bas0 k L
 by_cases c : m > 300
 ·have n3 : ¬ ((300 : Int) = 0) := by decide
  have hk : m.tmod 300 ≤ 300 := by have := Int.tmod_lt_of_pos m (show (0 : Int) < 300 by decide); omega
  obtain ⟨t1, t2, t3⟩ := key (m.tmod 300) hk
  generalize hkk : m.tmod 300 = k at *
  generalize drN start a n L only k = Q at *
  obtain ⟨fl, t2, hf⟩ := t2 (hx H [.cells [.int .i64 start, .list 7 (L.map Ba.V) .ro]])
  generalize Q.1.map gV = Q1 at *
  refine W_fn rfl rfl ?_
  rcases hf with rfl | rfl
  all_goals simp only [go_sem, c_law20_same, c, n3, hkk, t1, t2, t3, u4, simprocAttr]
 ·obtain ⟨t1, t2, t3⟩ := key m (by omega)
  generalize drN start a n L only m = Q at *
  obtain ⟨fl, t2, hf⟩ := t2 (hx H [.cells [.int .i64 start, .list 7 (L.map Ba.V) .ro]])
  generalize Q.1.map gV = Q1 at *
  refine W_fn rfl rfl ?_
  rcases hf with rfl | rfl
  all_goals simp only [go_sem, c_law20_same, c, t1, t2, t3, u4, simprocAttr]
set_option maxHeartbeats 1000000 in
theorem rtells_spec (t : List Int) (start a n : Int) (only : Bool) (m : Int) (ht : ∀ x ∈ t, I64 x) (hl : t.length * 8 ≤ 140737488351232) (hs : I64 start) (ha : I64 a) (hn : I64 n) (hm : I64 m) :
  W n_law20_ReaderTells [.list 1 (ints .i64 t) .ro, .int .i64 start, .int .i64 a, .int .i64 n, .bool only, .int .i64 m] [] = some (.bool true, []) := by
 have e8 : bits .and .i64 start 255 = start % 256 := and_low start 8 (by decide)
 have e5 : bits .and .i64 a 31 = a % 32 := and_low a 5 (by decide)
 have e4 : bits .and .i64 n 15 = n % 16 := and_low n 4 (by decide)
 have e6 : bits .and .i64 n 63 = n % 64 := and_low n 6 (by decide)
 obtain ⟨s0, hs0⟩ : ∃ x, start % 256 = x := ⟨_, rfl⟩
 have hs1 : 0 ≤ s0 ∧ s0 < 256 := by omega
 obtain ⟨f, t1, hf⟩ := row_spec t (by omega) s0 (by omega) (by omega) 18 (by decide) (hx [] [])
 simp only [Int.cast_ofNat_Int] at t1
 have hri := row_ri t (by omega) s0 (by omega) (by omega) 18
 have hfit : ∀ b ∈ rowOf t s0 18, Fit b := hri.fit
 have hlen : (rowOf t s0 18).length ≤ 18 := hri.len
 have hrow := row_rowC t s0 18
 clear hri
 generalize rowOf t s0 18 = L at *
 have w1 : IntKind.i64.wrap (s0 + a % 32) = s0 + a % 32 := wrap_id (by unfold I64; omega)
 have w2 : IntKind.i64.wrap (1 + n % 16) = 1 + n % 16 := wrap_id (by unfold I64; omega)
 have w3 : IntKind.i64.wrap (1 + n % 64) = 1 + n % 64 := wrap_id (by unfold I64; omega)
 have tw := fun H => within_spec m 0 80 H (by decide) (by decide) (by decide)
 have ts := fun (a n : Int) (only : Bool) (m : Int) (H : Heap) => lsame20_spec L hfit (by omega) s0 a n hs1.1 hrow only m H
 have kn := known_spec
 have u4 := fun k => under_bas0 k L
 generalize withinQ m 0 80 = q at *
 have hf' : f = .ro ∨ f = .full := by rcases hf with h | ⟨h, _⟩ <;> simp [h]
 clear hf
 refine W_fn rfl rfl ?_
 rcases hf' with rfl | rfl
 all_goals
  simp only [go_sem, c_law20_ReaderTells, e8, e5, e4, e6, hs0, t1, w1, w2, w3, tw, ts, kn, u4, simprocAttr]
  first | done | rfl
abbrev Ris (l : List Gt) : Prop := l.Pairwise (fun a b => a.1 < b.1)
theorem recsF_ris (b : Ba) (lo hi : Int) : ∀ (rs : List Rc) (i : Int), Ris (recsF b lo hi i rs)
 | [], _ => .nil
 | r :: rs, i => by
  unfold recsF
  have ih := recsF_ris b lo hi rs (i + 1)
  split
  ·refine .cons (fun g hg => ?_) ih
   have := recsF_off b lo hi rs (i + 1) g hg
   simp only; omega
  ·exact ih
theorem recB_off (b : Ba) (hb : Fit b) (lo hi : Int) : ∀ g ∈ recB b lo hi, b.base ≤ g.1 ∧ g.1 < b.base + countE b := by
 intro g hg
 unfold recB at hg
 unfold countE
 split at hg
 ·rename_i hm
  have := recsF_off b lo hi b.recs 0 g hg
  rw [if_pos hm]; omega
 ·cases hg
theorem records_lo (lo hi : Int) : ∀ {L : List Ba} {s : Int}, (∀ b ∈ L, Fit b) → RowC s L → ∀ g ∈ recordsL lo hi L, s ≤ g.1
 | [], _, _, _, g, h => by cases h
 | b :: L, s, hL, hr, g, h => by
  unfold recordsL at h
  have hc := countE_pos (hL b List.mem_cons_self)
  have hb := hr.1
  rcases List.mem_append.1 h with h | h
  ·have := recB_off b (hL b List.mem_cons_self) lo hi g h; omega
  ·have := records_lo lo hi (fun x hx => hL x (List.mem_cons_of_mem _ hx)) hr.2 g h; omega
theorem records_ris (lo hi : Int) : ∀ {L : List Ba} {s : Int}, (∀ b ∈ L, Fit b) → RowC s L → Ris (recordsL lo hi L)
 | [], _, _, _ => .nil
 | b :: L, s, hL, hr => by
  unfold recordsL
  refine List.pairwise_append.2 ⟨?_, records_ris lo hi (fun x hx => hL x (List.mem_cons_of_mem _ hx)) hr.2, fun g hg k hk => ?_⟩
  ·unfold recB
   split
   ·exact recsF_ris b lo hi b.recs 0
   ·exact .nil
  ·have h1 := recB_off b (hL b List.mem_cons_self) lo hi g hg
   have h2 := records_lo lo hi (fun x hx => hL x (List.mem_cons_of_mem _ hx)) hr.2 k hk
   have hb := hr.1
   omega
theorem stable_end (start : Int) (L : List Ba) (h0 : 0 ≤ start) (hL : ∀ b ∈ L, Fit b) (hr : RowC start L) : stableE start L ≤ endE start L :=
 (stable_stab start L hL).le_end (OIs.fold (OIs.nil h0) hL hr)
structure Goes (lo n e : Int) (fe : Fe) : Prop where
 e0 : fe.e = 0
 lob : lo ≤ fe.n
 hib : fe.n ≤ e
 off : ∀ g ∈ fe.R, lo ≤ g.1 ∧ g.1 < fe.n
 ris : Ris fe.R
 len : (fe.R.length : Int) ≤ n
theorem fet_goes (L : List Ba) (hL : ∀ b ∈ L, Fit b) (hr : RowC 0 L) (lo n : Int) (only : Bool) (h1 : 1 ≤ n) (h2 : n ≤ 64) (h3 : 0 ≤ lo) (h4 : lo ≤ endE 0 L) : Goes lo n (endE 0 L) (fetE 0 lo n L only) := by
 have hse := stable_end 0 L (by decide) hL hr
 unfold fetE
 rw [if_neg (by omega), if_neg (by omega)]
 have htop : topE 0 L only ≤ endE 0 L := by unfold topE; split <;> omega
 generalize topE 0 L only = top at *
 have hoff := records_off lo top L hL
 have hris := records_ris lo top hL hr
 have hR : fRecs lo top n L = (recordsL lo top L).take n.toNat := rfl
 have hsub : ∀ g ∈ fRecs lo top n L, g ∈ recordsL lo top L := fun g hg => List.mem_of_mem_take (by rw [← hR]; exact hg)
 have hrisR : Ris (fRecs lo top n L) := by rw [hR]; exact hris.sublist (List.take_sublist _ _)
 have hlen : ((fRecs lo top n L).length : Int) ≤ n := by rw [hR, List.length_take]; omega
 have hx : mx lo top ≤ endE 0 L ∧ lo ≤ mx lo top ∧ top ≤ mx lo top := by unfold mx; split <;> omega
 refine ⟨rfl, ?_, ?_, ?_, hrisR, hlen⟩
 all_goals
  simp only [fNext]
  generalize fRecs lo top n L = R at *
 ·split
  ·rename_i hn
   cases hg : R.getLast? with
   | none => rw [List.getLast?_eq_none_iff] at hg; subst hg; simp at hn; omega
   | some g => have := hoff g (hsub g (List.mem_of_getLast? hg)); simp only; omega
  ·omega
 ·split
  ·rename_i hn
   cases hg : R.getLast? with
   | none => rw [List.getLast?_eq_none_iff] at hg; subst hg; simp at hn; omega
   | some g => have := hoff g (hsub g (List.mem_of_getLast? hg)); simp only; omega
  ·omega
 ·intro g hg
  have h5 := hoff g (hsub g hg)
  refine ⟨h5.1, ?_⟩
  split
  ·rename_i hn
   cases hk : R.getLast? with
   | none => rw [List.getLast?_eq_none_iff] at hk; subst hk; cases hg
   | some k =>
    simp only
    obtain ⟨ys, rfl⟩ := List.getLast?_eq_some_iff.1 hk
    rcases List.mem_append.1 hg with hg | hg
    ·have := (List.pairwise_append.1 hrisR).2.2 g hg k (by simp); omega
    ·simp at hg; subst hg; omega
  ·omega
theorem Goes.told {lo n e fe} (h : Goes lo n e fe) (only : Bool) : (∀ g ∈ pG fe only, lo ≤ g.1 ∧ g.1 < fe.n) ∧ Ris (pG fe only) ∧ ((pG fe only).length : Int) ≤ n := by
 unfold pG
 split
 ·refine ⟨fun g hg => h.off g (List.mem_filter.1 hg).1, h.ris.filter _, ?_⟩
  have := h.len
  have := List.length_filter_le (fun g => !hitG fe.D g) fe.R
  omega
 ·exact ⟨h.off, h.ris, h.len⟩
set_option maxHeartbeats 1000000 in
theorem goes0_loop (G : List Gt) (hG : G.length ≤ 64) (was a n : Int) (only : Bool) (N0 : AVal) (k : Nat) (B : Box) (fl : Fl) (hfl : fl = .own ∨ fl = .full) (H : Heap) (ho : ∀ g ∈ G, was ≤ g.1 ∧ g.1 < a) (hris : Ris G) (r : List Gt) : ∀ (p : List Gt) (last : Int) (N : Heap), G = p ++ r → (∀ g ∈ r, last < g.1) → last < a →
  ∃ last' M, loopA W loopW (.ghost (.kill k_law20_ReaderGoes_0) l_law20_ReaderGoes_0) [(1, N0), (7, .ptr (pt H 0) 0), (8, .ptr (pt H 1) 0), (9, .int .i64 last), (10, .int .i64 (k : Nat)), (11, .int .i64 was), (55, .list 4 (G.map gV) fl), (56, .int .i64 (G.length : Nat)), (57, .int .i64 (p.length : Nat))] (hx H (B :: rdrB a n only :: N)) =
   some (.exit 2, [(1, N0), (7, .ptr (pt H 0) 0), (8, .ptr (pt H 1) 0), (9, .int .i64 last'), (10, .int .i64 (k : Nat))], hx H (B :: rdrB a n only :: M)) ∧ last' < a := by
 induction r with
 | nil =>
  intro p last N hp hl hla
  rw [List.append_nil] at hp
  subst hp
  refine ⟨last, N, ?_, hla⟩
  have h1 : ¬ ((G.length : Int) < (G.length : Int)) := by omega
  refine loop_step l_law20_ReaderGoes_0.eq_1 k_law20_ReaderGoes_0.eq_1 (by kernel_rfl) ?_
  simp only [go_sem, h1, simprocAttr]
 | cons g r ih =>
  intro p last N hp hl hla
  have hlen : G.length = p.length + (r.length + 1) := by rw [hp]; simp
  have h1 : ((p.length : Int) < (G.length : Int)) := by omega
  have e0 : (0 : Int) ≤ (p.length : Int) := by omega
  have e7 : ((p.length : Nat) : Int).toNat = p.length := by omega
  have e1 : (G.map gV)[p.length]? = some (.agg [.int .i64 g.1, .int .i64 g.2.1, .str g.2.2.1, .str g.2.2.2]) := by rw [hp]; simp [gV]
  have e6 : IntKind.i64.wrap ((p.length : Int) + 1) = ((p.length + 1 : Nat) : Int) := by rw [wrap_id (by unfold I64; omega)]; omega
  have hg := ho g (by rw [hp]; simp)
  have hlg := hl g List.mem_cons_self
  have hrr : ∀ x ∈ r, g.1 < x.1 := by
   rw [hp] at hris
   have := (List.pairwise_append.1 hris).2.1
   exact (List.pairwise_cons.1 this).1
  have c1 : ¬ (g.1 ≤ last) := by omega
  have c2 : ¬ (g.1 < was) := by omega
  have c3 : ¬ (g.1 ≥ a) := by omega
  have n1 : ∀ x : Box, (N ++ [x])[N.length]? = some x := fun x => by simp
  have n2 : ∀ x z : Box, (N ++ [x]).set N.length z = N ++ [z] := fun x z => by simp
  have t1 := fun N => rat_spec a n only (pt H 1) (hx H (B :: rdrB a n only :: N)) ⟨by rw [hx_get]; rfl⟩
  obtain ⟨last', M, h2, h3⟩ := ih (p ++ [g]) g.1 (N ++ [.cells [.int .i64 g.1, .int .i64 g.2.1, .str g.2.2.1, .str g.2.2.2]]) (by rw [hp]; simp) hrr hg.2
  refine ⟨last', M, ?_, h3⟩
  simp only [List.length_append, List.length_cons, List.length_nil, Nat.zero_add] at h2
  generalize rdrB a n only = B1 at *
  refine loop_step l_law20_ReaderGoes_0.eq_1 k_law20_ReaderGoes_0.eq_1 (by kernel_rfl) ?_
  rcases hfl with rfl | rfl
  all_goals
   simp only [go_sem, h1, e0, e7, e1, n1, n2, c1, c2, c3, t1, e6, simprocAttr]
   exact h2
set_option maxHeartbeats 1000000 in
theorem goes1_loop (L : List Ba) (hL : ∀ b ∈ L, Fit b) (hn : L.length ≤ 1000) (f0 : Fl) (hf0 : f0 = .ro ∨ f0 = .full) (hr : RowC 0 L) (n : Int) (only : Bool) (H : Heap) (d : Nat) : ∀ (i : Nat) (a last : Int) (N : Heap), i + d = 120 → 0 ≤ a → a ≤ endE 0 L → last < a →
  ∃ X M, loopA W loopW (.ghost (.kill k_law20_ReaderGoes_1) l_law20_ReaderGoes_1) [(1, .int .i64 n), (7, .ptr (pt H 0) 0), (8, .ptr (pt H 1) 0), (9, .int .i64 last), (10, .int .i64 (i : Nat))] (hx H (.cells [.int .i64 0, .list 7 (L.map Ba.V) f0] :: rdrB a (1 + n % 32) only :: N)) = some (.exit 0, X, hx H M) ∧ X = [] := by
 induction d with
 | zero =>
  intro i a last N hi h0 h1 h2
  have : i = 120 := by omega
  subst this
  refine ⟨[], .cells [.int .i64 0, .list 7 (L.map Ba.V) f0] :: rdrB a (1 + n % 32) only :: N, ?_, rfl⟩
  generalize rdrB a (1 + n % 32) only = B1 at *
  have c : ¬ (((120 : Nat) : Int) < 120) := by omega
  refine loop_step l_law20_ReaderGoes_1.eq_1 k_law20_ReaderGoes_1.eq_1 (by kernel_rfl) ?_
  simp only [go_sem, c, simprocAttr]
 | succ d ih =>
  intro i a last N hi h0 h1 h2
  have c : ((i : Int) < 120) := by omega
  have e6 : IntKind.i64.wrap ((i : Int) + 1) = ((i + 1 : Nat) : Int) := by rw [wrap_id (by unfold I64; omega)]; omega
  have w1 : IntKind.i64.wrap (1 + n % 32) = 1 + n % 32 := wrap_id (by unfold I64; omega)
  have hgo := fet_goes L hL hr a (1 + n % 32) only (by omega) (by omega) h0 h1
  have htold := hgo.told only
  have t1 := poll_spec L hL hn 0 a (1 + n % 32) (by decide) hr only (pt H 1) (hx H (.cells [.int .i64 0, .list 7 (L.map Ba.V) f0] :: rdrB a (1 + n % 32) only :: N)) ⟨by rw [hx_get]; rfl⟩
  rw [if_pos hgo.e0, hx_set, List.set_cons_succ, List.set_cons_zero] at t1
  have t0 := rat_spec a (1 + n % 32) only (pt H 1) (hx H (.cells [.int .i64 0, .list 7 (L.map Ba.V) f0] :: rdrB a (1 + n % 32) only :: N)) ⟨by rw [hx_get]; rfl⟩
  have t2 := rat_spec (fetE 0 a (1 + n % 32) L only).n (1 + n % 32) only (pt H 1) (hx H (.cells [.int .i64 0, .list 7 (L.map Ba.V) f0] :: rdrB (fetE 0 a (1 + n % 32) L only).n (1 + n % 32) only :: N)) ⟨by rw [hx_get]; rfl⟩
  have hglen := @pG_len (fetE 0 a (1 + n % 32) L only) only (fetE_len L hL hn 0 a (1 + n % 32) only).1
  have hlo := hgo.lob
  have hhi := hgo.hib
  have pf : pF only = .own ∨ pF only = .full := by unfold pF; split <;> simp
  have key := ih (i + 1) (fetE 0 a (1 + n % 32) L only).n
  clear ih hgo
  generalize hGG : pG (fetE 0 a (1 + n % 32) L only) only = G at *
  generalize (fetE 0 a (1 + n % 32) L only).n = a' at *
  generalize pF only = pf0 at *
  have hlast : ∀ g ∈ G, last < g.1 := fun g hg => by have := htold.1 g hg; omega
  have c1 : ¬ (a' < a) := by omega
  have c2 : ¬ ((G.length : Int) > 1 + n % 32) := by have := htold.2.2; omega
  have hla : last < a' := by omega
  obtain ⟨last', M, k1, k2⟩ := goes0_loop G hglen a a' (1 + n % 32) only (.int .i64 n) i (.cells [.int .i64 0, .list 7 (L.map Ba.V) f0]) pf0 pf H htold.1 htold.2.1 G [] last N rfl hlast hla
  simp only [List.length_nil, Int.natCast_zero] at k1
  obtain ⟨X, M', k3, k4⟩ := key last' M (by omega) (by omega) hhi k2
  refine ⟨X, M', ?_, k4⟩
  clear key
  generalize rdrB a (1 + n % 32) only = B1 at *
  generalize rdrB a' (1 + n % 32) only = B2 at *
  refine loop_step l_law20_ReaderGoes_1.eq_1 k_law20_ReaderGoes_1.eq_1 (by kernel_rfl) ?_
  rcases pf with rfl | rfl <;> rcases hf0 with rfl | rfl
  all_goals
   simp only [go_sem, and_5, c, t0, t1, t2, c1, w1, List.length_map, c2, k1, e6, simprocAttr]
   exact k3
set_option maxHeartbeats 1000000 in
theorem rgoes_spec (t : List Int) (n : Int) (only : Bool) (ht : ∀ x ∈ t, I64 x) (hl : t.length * 8 ≤ 140737488351232) (hn : I64 n) :
  W n_law20_ReaderGoes [.list 1 (ints .i64 t) .ro, .int .i64 n, .bool only] [] = some (.bool true, []) := by
 have e5 : bits .and .i64 n 31 = n % 32 := and_low n 5 (by decide)
 obtain ⟨f, t1, hf⟩ := row_spec t (by omega) 0 (by omega) (by omega) 18 (by decide) (hx [] [])
 simp only [Int.cast_ofNat_Int] at t1
 have hri := row_ri t (by omega) 0 (by omega) (by omega) 18
 have hfit : ∀ b ∈ rowOf t 0 18, Fit b := hri.fit
 have hlen : (rowOf t 0 18).length ≤ 18 := hri.len
 have hrow := row_rowC t 0 18
 clear hri
 generalize rowOf t 0 18 = L at *
 have w2 : IntKind.i64.wrap (1 + n % 32) = 1 + n % 32 := wrap_id (by unfold I64; omega)
 have hf' : f = .ro ∨ f = .full := by rcases hf with h | ⟨h, _⟩ <;> simp [h]
 clear hf
 have he : 0 ≤ endE 0 L := endE_le hfit hrow
 have t2 := rnew_spec 0 (1 + n % 32) only (hx [] [.cells [.int .i64 0, .list 7 (L.map Ba.V) .ro]])
 rw [if_neg (by omega), hx_hx, pt_hx, List.length_singleton, List.singleton_append, Nat.add_zero] at t2
 obtain ⟨X, M, t3, hX⟩ := goes1_loop L hfit (by omega) .ro (.inl rfl) hrow n only [] 120 0 0 (-1) [] (by omega) (by omega) he (by omega)
 subst hX
 simp only [Int.natCast_zero] at t3
 have kn := known_spec
 have u4 := fun k => under_bas0 k L
 refine W_fn rfl rfl ?_
 rcases hf' with rfl | rfl
 all_goals
  simp only [go_sem, c_law20_ReaderGoes, e5, t1, t2, w2, t3, kn, u4, simprocAttr]
  first | done | rfl
def tapeL20 (k : Int) (n : Nat) : List Int := (List.range n).map fun (i : Nat) => ((i : Int) * (i : Int) * 7 + k * 73 + (i : Int) * k).tmod 211
theorem tape_loop20 (k : Int) (h0 : 0 ≤ k) (h1 : k ≤ 100) (H : Heap) (d : Nat) : ∀ (i : Nat) (fl : Fl), i + d = 400 → (fl = .own ∨ (fl = .full ∧ i = 0)) →
  loopA W loopW (.ghost (.kill k_law20_tape_0) l_law20_tape_0) [(0, .int .i64 k), (3, .list 1 (ints .i64 (tapeL20 k i)) fl), (4, .int .i64 (i : Nat))] H = some (.exit 0, [(3, .list 1 (ints .i64 (tapeL20 k 400)) (if d = 0 then fl else .own))], H) := by
 induction d with
 | zero =>
  intro i fl hi hfl
  have : i = 400 := by omega
  subst this
  have c : ¬ (((400 : Nat) : Int) < 400) := by omega
  rw [if_pos rfl]
  refine loop_step l_law20_tape_0.eq_1 k_law20_tape_0.eq_1 (by kernel_rfl) ?_
  simp only [go_sem, c, simprocAttr]
 | succ d ih =>
  intro i fl hi hfl
  have c : ((i : Int) < 400) := by omega
  have hii0 : (0 : Int) ≤ (i : Int) * i := Int.mul_nonneg (by omega) (by omega)
  have hii : (i : Int) * i ≤ 400 * 400 := Int.mul_le_mul (by omega) (by omega) (by omega) (by omega)
  have hik0 : (0 : Int) ≤ (i : Int) * k := Int.mul_nonneg (by omega) h0
  have hik : (i : Int) * k ≤ 400 * 100 := Int.mul_le_mul (by omega) h1 h0 (by omega)
  have w1 : IntKind.i64.wrap ((i : Int) * i) = (i : Int) * i := wrap_id (by unfold I64; omega)
  have w2 : IntKind.i64.wrap ((i : Int) * i * 7) = (i : Int) * i * 7 := wrap_id (by unfold I64; omega)
  have w3 : IntKind.i64.wrap (k * 73) = k * 73 := wrap_id (by unfold I64; omega)
  have w4 : IntKind.i64.wrap ((i : Int) * i * 7 + k * 73) = (i : Int) * i * 7 + k * 73 := wrap_id (by unfold I64; omega)
  have w5 : IntKind.i64.wrap ((i : Int) * k) = (i : Int) * k := wrap_id (by unfold I64; omega)
  have w6 : IntKind.i64.wrap ((i : Int) * i * 7 + k * 73 + (i : Int) * k) = (i : Int) * i * 7 + k * 73 + (i : Int) * k := wrap_id (by unfold I64; omega)
  have n0 : ¬ ((211 : Int) = 0) := by decide
  have e6 : IntKind.i64.wrap ((i : Int) + 1) = ((i + 1 : Nat) : Int) := by rw [wrap_id (by unfold I64; omega)]; omega
  have e8 : ints .i64 (tapeL20 k i) ++ [.int .i64 (((i : Int) * i * 7 + k * 73 + (i : Int) * k).tmod 211)] = ints .i64 (tapeL20 k (i + 1)) := by
   unfold tapeL20; rw [List.range_succ]; simp
  have l6 : (tapeL20 k i).length = i := by simp [tapeL20]
  have b1 : (i + 1) * 8 ≤ maxBytes := by simp only [maxBytes]; omega
  have h2 := ih (i + 1) .own (by omega) (.inl rfl)
  have hz : (if d = 0 then Fl.own else Fl.own) = Fl.own := by split <;> rfl
  rw [hz] at h2
  rw [if_neg (by omega)]
  generalize tapeL20 k 400 = T at *
  generalize tapeL20 k (i + 1) = T2 at *
  refine loop_step l_law20_tape_0.eq_1 k_law20_tape_0.eq_1 (by kernel_rfl) ?_
  rcases hfl with rfl | ⟨rfl, rfl⟩
  ·simp only [go_sem, c, w1, w2, w3, w4, w5, w6, n0, apO, List.length_map, l6, b1, e8, e6, simprocAttr]
   exact h2
  ·have t0 : tapeL20 k 0 = [] := rfl
   rw [t0] at e8 ⊢
   have b2 : (0 + 1) * 8 ≤ maxBytes := by decide
   simp only [List.map_nil, List.nil_append, Int.natCast_zero, Int.zero_mul, Int.zero_add, Int.add_zero] at *
   simp only [go_sem, c, w1, w2, w3, w4, w5, w6, n0, apF, List.length_nil, List.nil_append, b2, e6, Int.zero_mul, Int.zero_add, Int.add_zero, simprocAttr]
   rw [e8]
   exact h2
theorem tape20_spec (k : Int) (h0 : 0 ≤ k) (h1 : k ≤ 100) (H : Heap) : W n_law20_tape [.int .i64 k] H = some (.list 1 (ints .i64 (tapeL20 k 400)) .own, H) := by
 have h := tape_loop20 k h0 h1 H 400 0 .full (by omega) (.inr ⟨rfl, rfl⟩)
 have t0 : tapeL20 k 0 = [] := rfl
 rw [t0, if_neg (by decide)] at h
 simp only [List.map_nil, Int.natCast_zero] at h
 generalize tapeL20 k 400 = T at *
 refine W_fn0 rfl rfl ?_
 simp only [go_sem, trim_same, c_law20_tape, h, simprocAttr]
 first | done | rfl
theorem rn0_loop (L : List Ba) (hL : ∀ b ∈ L, Fit b) (hn : L.length ≤ 1000) (fl : Fl) (hfl : fl = .ro ∨ fl = .full) (start : Int) (h0 : 0 ≤ start) (hr : RowC start L) (k n : Int) (H N : Heap) (kb : Nat) (hk : N[kb]? = some (.cells [.int .i64 start, .list 7 (L.map Ba.V) fl])) (d : Nat) : ∀ (o : Int), 0 ≤ o → o + 3 * d = 21 →
  loopA W loopW (.ghost (.kill k_law20_ReaderNumbers_0) l_law20_ReaderNumbers_0) [(1, .int .i64 k), (2, .ptr (pt H kb) 0), (3, .int .i64 n), (4, .int .i64 o)] (hx H N) =
   some (.exit 4, [(1, .int .i64 k), (2, .ptr (pt H kb) 0), (3, .int .i64 n)], hx H N) := by
 have ts := fun (a n : Int) (only : Bool) (m : Int) (H : Heap) => lsame20_spec L hL hn start a n h0 hr only m H
 have u4 := fun k => under_bas0 k L
 have n0 : ¬ ((2 : Int) = 0) := by decide
 induction d with
 | zero =>
  intro o ho0 ho
  have c : ¬ (o < 20) := by omega
  refine loop_step l_law20_ReaderNumbers_0.eq_1 k_law20_ReaderNumbers_0.eq_1 (by kernel_rfl) ?_
  simp only [go_sem, c, simprocAttr]
 | succ d ih =>
  intro o ho0 ho
  have c : o < 20 := by omega
  have e6 : IntKind.i64.wrap (o + 3) = o + 3 := wrap_id (by unfold I64; omega)
  have h3 := ih (o + 3) (by omega) (by omega)
  clear ih
  refine loop_step l_law20_ReaderNumbers_0.eq_1 k_law20_ReaderNumbers_0.eq_1 (by kernel_rfl) ?_
  rcases hfl with rfl | rfl
  all_goals
   simp only [go_sem, c, hk, n0, ts, u4, e6, simprocAttr]
   exact h3
theorem rn1_loop (L : List Ba) (hL : ∀ b ∈ L, Fit b) (hn : L.length ≤ 1000) (fl : Fl) (hfl : fl = .ro ∨ fl = .full) (start : Int) (h0 : 0 ≤ start) (hr : RowC start L) (k : Int) (H N : Heap) (kb : Nat) (hk : N[kb]? = some (.cells [.int .i64 start, .list 7 (L.map Ba.V) fl])) (d : Nat) : ∀ (n : Int), -1 ≤ n → n + d = 7 →
  loopA W loopW (.ghost (.kill k_law20_ReaderNumbers_1) l_law20_ReaderNumbers_1) [(1, .int .i64 k), (2, .ptr (pt H kb) 0), (3, .int .i64 n)] (hx H N) =
   some (.exit 2, [(1, .int .i64 k)], hx H N) := by
 induction d with
 | zero =>
  intro n hm0 hm
  have c : ¬ (n < 7) := by omega
  refine loop_step l_law20_ReaderNumbers_1.eq_1 k_law20_ReaderNumbers_1.eq_1 (by kernel_rfl) ?_
  simp only [go_sem, c, simprocAttr]
 | succ d ih =>
  intro n hm0 hm
  have c : n < 7 := by omega
  have e6 : IntKind.i64.wrap (n + 1) = n + 1 := wrap_id (by unfold I64; omega)
  have h3 := ih (n + 1) (by omega) (by omega)
  have h2 := rn0_loop L hL hn fl hfl start h0 hr k n H N kb hk 7 0 (by omega) (by omega)
  clear ih
  refine loop_step l_law20_ReaderNumbers_1.eq_1 k_law20_ReaderNumbers_1.eq_1 (by kernel_rfl) ?_
  simp only [go_sem, c, h2, e6, simprocAttr]
  exact h3
theorem rn2_loop (H : Heap) (d : Nat) : ∀ (k : Nat) (N : Heap), k + d = 30 →
  ∃ M, loopA W loopW (.ghost (.kill k_law20_ReaderNumbers_2) l_law20_ReaderNumbers_2) [(1, .int .i64 (k : Nat))] (hx H N) = some (.exit 0, [], hx H M) := by
 induction d with
 | zero =>
  intro k N hk
  have : k = 30 := by omega
  subst this
  have c : ¬ (((30 : Nat) : Int) < 30) := by omega
  refine ⟨N, ?_⟩
  refine loop_step l_law20_ReaderNumbers_2.eq_1 k_law20_ReaderNumbers_2.eq_1 (by kernel_rfl) ?_
  simp only [go_sem, c, simprocAttr]
 | succ d ih =>
  intro k N hk
  have c : ((k : Int) < 30) := by omega
  have e6 : IntKind.i64.wrap ((k : Int) + 1) = ((k + 1 : Nat) : Int) := by rw [wrap_id (by unfold I64; omega)]; omega
  have n0 : ¬ ((5 : Int) = 0) := by decide
  have t0 := fun H => tape20_spec k (by omega) (by omega) H
  have hTl : (tapeL20 k 400).length = 400 := by simp [tapeL20]
  generalize tapeL20 k 400 = T at *
  have hm7 := Int.tmod_eq_emod_of_nonneg (b := 5) (show (0 : Int) ≤ (k : Int) by omega)
  have hs0 : 0 ≤ (k : Int).tmod 5 ∧ (k : Int).tmod 5 ≤ 4 := by omega
  obtain ⟨s, hs⟩ : ∃ s, (k : Int).tmod 5 = s := ⟨_, rfl⟩
  rw [hs] at hs0
  obtain ⟨f, t1, hf⟩ : ∃ f, W n_keep_Row [.list 1 (ints .i64 T) .ro, .int .i64 s, .int .i64 16] (hx H N) = some (.list 7 ((rowOf T s 16).map Ba.V) f, hx H N) ∧ (f = .ro ∨ (f = .full ∧ rowOf T s 16 = [])) := row_spec T (by omega) s (by omega) (by omega) 16 (by omega) (hx H N)
  have hri := row_ri T (by omega) s (by omega) (by omega) 16
  have hfit : ∀ b' ∈ rowOf T s 16, Fit b' := hri.fit
  have hlen : (rowOf T s 16).length ≤ 16 := hri.len
  have hrow := row_rowC T s 16
  generalize rowOf T s 16 = L at *
  have hf' : f = .ro ∨ f = .full := by rcases hf with h | ⟨h, _⟩ <;> simp [h]
  clear hf
  have n1 : ∀ x : Box, (N ++ [x])[N.length]? = some x := fun x => by simp
  have n2 : ∀ x z : Box, (N ++ [x]).set N.length z = N ++ [z] := fun x z => by simp
  have h1 := rn1_loop L hfit (by omega) .ro (.inl rfl) s hs0.1 hrow k H (N ++ [.cells [.int .i64 s, .list 7 (L.map Ba.V) .ro]]) N.length (n1 _) 8 (-1) (by omega) (by omega)
  obtain ⟨M, h3⟩ := ih (k + 1) (N ++ [.cells [.int .i64 s, .list 7 (L.map Ba.V) .ro]]) (by omega)
  refine ⟨M, ?_⟩
  clear ih
  have u4 := fun k => under_bas0 k L
  refine loop_step l_law20_ReaderNumbers_2.eq_1 k_law20_ReaderNumbers_2.eq_1 (by kernel_rfl) ?_
  rcases hf' with rfl | rfl
  all_goals
   simp only [go_sem, c, n0, n1, n2, hs, t0, t1, u4, h1, e6, simprocAttr]
   exact h3
theorem rnumbers_spec : W n_law20_ReaderNumbers [] [] = some (.bool true, []) := by
 obtain ⟨M, h3⟩ := rn2_loop [] 30 0 [] (by omega)
 have t1 : ∀ H, W n_law20_same [.agg [.int .i64 0, .list 7 [] .ro], .int .i64 0, .int .i64 1, .bool true, .int .i64 (-1)] H = some (.bool true, H) := fun H => lsame20_spec [] (by simp) (by simp) 0 0 1 (by decide) trivial true (-1) H
 have kn := known_spec
 simp only [Int.natCast_zero] at h3
 refine W_fn rfl rfl ?_
 simp only [go_sem, c_law20_ReaderNumbers, h3, t1, kn, simprocAttr]
 first | done | rfl
end Go.Abs
