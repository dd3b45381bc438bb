import Derived.Test.YtljlbcipngmdmaaBS1
set_option linter.unusedVariables false
set_option linter.unusedSimpArgs false
namespace Go.Abs
open Go Go.RowKit
def namedB (b : Ba) : Bool := decide (b.prod ≥ 0) && (decide (b.epoch ≥ 0) && decide (b.epoch ≤ 32767))
def seqR (n : Int) : Bool := decide (n ≥ 0) && decide (n ≤ 2147483647)
theorem named_spec (b : Ba) (H : Heap) : W n_batch_named [b.V] H = some (.bool (namedB b), H) := by
 refine W_fn rfl rfl ?_
 unfold Ba.V Ba.cs namedB
 by_cases c1 : b.prod ≥ 0
 ·by_cases c2 : b.epoch ≥ 0
  ·by_cases c3 : b.epoch ≤ 32767 <;> simp only [go_sem, c_batch_named, c1, c2, c3, simprocAttr]
  ·simp only [go_sem, c_batch_named, c1, c2, simprocAttr]
 ·simp only [go_sem, c_batch_named, c1, simprocAttr]
theorem seq_right_spec (n : Int) (H : Heap) : W n_seq_Right [.int .i64 n] H = some (.bool (seqR n), H) := by
 refine W_fn rfl rfl ?_
 unfold seqR
 by_cases c1 : n ≥ 0
 ·by_cases c2 : n ≤ 2147483647 <;> simp only [go_sem, c_seq_Right, c1, c2, simprocAttr]
 ·simp only [go_sem, c_seq_Right, c1, simprocAttr]
def bigR (r : Rc) : Bool := decide (r.1.length > 64) || decide (r.2.length > 64)
theorem data_loop (L : List Rc) (hn : L.length ≤ 16) (B : Heap) (H : Heap) (r : List Rc) : ∀ (p : List Rc) (N : Heap), L = p ++ r →
  ∃ M, loopA W loopW (.ghost (.kill k_batch_data_0) l_batch_data_0) [(48, .list 2 (L.map rcV) .ro), (49, .int .i64 (L.length : Nat)), (50, .int .i64 (p.length : Nat))] (hx H N) =
   if r.any bigR then some (.ret, [(2, .int .i64 13)], hx H M) else some (.exit 1, [], hx H M) := by
 induction r with
 | nil =>
  intro p N hp
  rw [List.append_nil] at hp
  subst hp
  refine ⟨N, ?_⟩
  have h1 : ¬ ((L.length : Int) < (L.length : Int)) := by omega
  rw [if_neg (by simp)]
  refine loop_step l_batch_data_0.eq_1 k_batch_data_0.eq_1 (by kernel_rfl) ?_
  simp only [go_sem, h1, simprocAttr]
 | cons x r ih =>
  intro p N hp
  have hlen : p.length < L.length := by rw [hp]; simp
  have h1 : ((p.length : Int) < (L.length : Int)) := by omega
  have e0 : (0 : Int) ≤ (p.length : Int) := by omega
  have e7 : ((p.length : Nat) : Int).toNat = p.length := by omega
  have e1 : (L.map rcV)[p.length]? = some (.agg [.str x.1, .str x.2]) := by rw [hp]; simp [rcV]
  have e6 : IntKind.i64.wrap ((p.length : Int) + 1) = ((p.length + 1 : Nat) : Int) := by rw [wrap_id (by unfold I64; omega)]; omega
  obtain ⟨M, h2⟩ := ih (p ++ [x]) (N ++ [.cells [.str x.1, .str x.2]]) (by rw [hp]; simp)
  simp only [List.length_append, List.length_cons, List.length_nil, Nat.zero_add] at h2
  by_cases c1 : (x.1.length : Int) > 64
  ·refine ⟨N ++ [.cells [.str x.1, .str x.2]], ?_⟩
   rw [if_pos (by simp [bigR]; omega)]
   refine loop_step l_batch_data_0.eq_1 k_batch_data_0.eq_1 (by kernel_rfl) ?_
   simp only [go_sem, h1, e0, e7, e1, c1, simprocAttr]
  ·by_cases c2 : (x.2.length : Int) > 64
   ·refine ⟨N ++ [.cells [.str x.1, .str x.2]], ?_⟩
    rw [if_pos (by simp [bigR]; omega)]
    refine loop_step l_batch_data_0.eq_1 k_batch_data_0.eq_1 (by kernel_rfl) ?_
    simp only [go_sem, h1, e0, e7, e1, c1, c2, simprocAttr]
   ·refine ⟨M, ?_⟩
    have hb : bigR x = false := by simp [bigR]; omega
    rw [List.any_cons, hb, Bool.false_or]
    obtain ⟨R, hR⟩ : ∃ R, (if r.any bigR = true then some (Out.ret, ([(2, .int .i64 13)] : Env), hx H M) else some (.exit 1, [], hx H M)) = some R := by split <;> exact ⟨_, rfl⟩
    rw [hR] at h2 ⊢
    refine loop_step l_batch_data_0.eq_1 k_batch_data_0.eq_1 (by kernel_rfl) ?_
    simp only [go_sem, h1, e0, e7, e1, c1, c2, e6, simprocAttr]
    exact h2
def noneB (b : Ba) : Bool := decide (b.prod = -1) && (decide (b.epoch = -1) && (decide (b.seq = -1) && !b.txn))
def dataE (b : Ba) : Int :=
 if (!noneB b && !(namedB b && seqR b.seq)) = true then 12
 else if b.recs.length = 0 then 12
 else if 16 < b.recs.length then 13
 else if b.recs.any bigR = true then 13 else 0
set_option maxHeartbeats 3200000 in
theorem data_spec (b : Ba) (H : Heap) : W n_batch_data [b.V] H = some (.int .i64 (dataE b), H) := by
 have t1 := fun H => named_spec b H
 have t2 := fun H => seq_right_spec b.seq H
 unfold Ba.V Ba.cs at t1 ⊢
 have tail : (!noneB b && !(namedB b && seqR b.seq)) = false → dataE b = if b.recs.length = 0 then 12 else if 16 < b.recs.length then 13 else if b.recs.any bigR = true then 13 else 0 := by
  intro h; unfold dataE; rw [if_neg (by rw [h]; decide)]
 have head : (!noneB b && !(namedB b && seqR b.seq)) = true → dataE b = 12 := by
  intro h; unfold dataE; rw [if_pos h]
 have g0 : ((([] : List Rc).length : Nat) : Int) = 0 := rfl
 by_cases c1 : b.prod = -1
 ·by_cases c2 : b.epoch = -1
  ·by_cases c3 : b.seq = -1
   ·cases ht : b.txn
    ·have hz : (!noneB b && !(namedB b && seqR b.seq)) = false := by unfold noneB; rw [ht]; simp [c1, c2, c3]
     rw [ht] at t1
     by_cases d1 : (b.recs.length : Int) = 0
     ·rw [tail hz, if_pos (by omega)]
      refine W_fn rfl rfl ?_
      simp only [go_sem, c_batch_data, List.length_map, eq_true c1, eq_true c2, eq_true c3, ht, d1, simprocAttr]
     ·by_cases d2 : (b.recs.length : Int) > 16
      ·rw [tail hz, if_neg (by omega), if_pos (by omega)]
       refine W_fn rfl rfl ?_
       simp only [go_sem, c_batch_data, List.length_map, eq_true c1, eq_true c2, eq_true c3, ht, d1, d2, simprocAttr]
      ·rw [tail hz, if_neg (by omega), if_neg (by omega)]
       obtain ⟨M, t3⟩ := data_loop b.recs (by omega) [] H b.recs [] [.cells b.cs] rfl
       rw [g0] at t3
       unfold Ba.cs at t3
       rw [ht] at t3
       cases ha : b.recs.any bigR
       ·rw [ha] at t3
        refine W_fn rfl rfl ?_
        simp only [go_sem, c_batch_data, List.length_map, eq_true c1, eq_true c2, eq_true c3, ht, d1, d2, t3, simprocAttr]
       ·rw [ha] at t3
        refine W_fn rfl rfl ?_
        simp only [go_sem, c_batch_data, List.length_map, eq_true c1, eq_true c2, eq_true c3, ht, d1, d2, t3, simprocAttr]
    ·have hno : noneB b = false := by unfold noneB; rw [ht]; simp
     rw [ht] at t1
     cases hna : namedB b
     ·have hz : (!noneB b && !(namedB b && seqR b.seq)) = true := by rw [hno, hna]; rfl
      rw [hna] at t1
      rw [head hz]
      refine W_fn rfl rfl ?_
      simp only [go_sem, c_batch_data, eq_true c1, eq_true c2, eq_true c3, ht, t1, simprocAttr]
     ·rw [hna] at t1
      cases hsq : seqR b.seq
      ·have hz : (!noneB b && !(namedB b && seqR b.seq)) = true := by rw [hno, hna, hsq]; rfl
       rw [hsq] at t2
       rw [head hz]
       refine W_fn rfl rfl ?_
       simp only [go_sem, c_batch_data, eq_true c1, eq_true c2, eq_true c3, ht, t1, t2, simprocAttr]
      ·have hz : (!noneB b && !(namedB b && seqR b.seq)) = false := by rw [hno, hna, hsq]; rfl
       rw [hsq] at t2
       by_cases d1 : (b.recs.length : Int) = 0
       ·rw [tail hz, if_pos (by omega)]
        refine W_fn rfl rfl ?_
        simp only [go_sem, c_batch_data, List.length_map, eq_true c1, eq_true c2, eq_true c3, ht, t1, t2, d1, simprocAttr]
       ·by_cases d2 : (b.recs.length : Int) > 16
        ·rw [tail hz, if_neg (by omega), if_pos (by omega)]
         refine W_fn rfl rfl ?_
         simp only [go_sem, c_batch_data, List.length_map, eq_true c1, eq_true c2, eq_true c3, ht, t1, t2, d1, d2, simprocAttr]
        ·rw [tail hz, if_neg (by omega), if_neg (by omega)]
         obtain ⟨M, t3⟩ := data_loop b.recs (by omega) [] H b.recs [] [.cells b.cs] rfl
         rw [g0] at t3
         unfold Ba.cs at t3
         rw [ht] at t3
         cases ha : b.recs.any bigR
         ·rw [ha] at t3
          refine W_fn rfl rfl ?_
          simp only [go_sem, c_batch_data, List.length_map, eq_true c1, eq_true c2, eq_true c3, ht, t1, t2, d1, d2, t3, simprocAttr]
         ·rw [ha] at t3
          refine W_fn rfl rfl ?_
          simp only [go_sem, c_batch_data, List.length_map, eq_true c1, eq_true c2, eq_true c3, ht, t1, t2, d1, d2, t3, simprocAttr]
   ·have hno : noneB b = false := by unfold noneB; simp [c3]
    cases hna : namedB b
    ·have hz : (!noneB b && !(namedB b && seqR b.seq)) = true := by rw [hno, hna]; rfl
     rw [hna] at t1
     rw [head hz]
     refine W_fn rfl rfl ?_
     simp only [go_sem, c_batch_data, eq_true c1, eq_true c2, c3, t1, simprocAttr]
    ·rw [hna] at t1
     cases hsq : seqR b.seq
     ·have hz : (!noneB b && !(namedB b && seqR b.seq)) = true := by rw [hno, hna, hsq]; rfl
      rw [hsq] at t2
      rw [head hz]
      refine W_fn rfl rfl ?_
      simp only [go_sem, c_batch_data, eq_true c1, eq_true c2, c3, t1, t2, simprocAttr]
     ·have hz : (!noneB b && !(namedB b && seqR b.seq)) = false := by rw [hno, hna, hsq]; rfl
      rw [hsq] at t2
      by_cases d1 : (b.recs.length : Int) = 0
      ·rw [tail hz, if_pos (by omega)]
       refine W_fn rfl rfl ?_
       simp only [go_sem, c_batch_data, List.length_map, eq_true c1, eq_true c2, c3, t1, t2, d1, simprocAttr]
      ·by_cases d2 : (b.recs.length : Int) > 16
       ·rw [tail hz, if_neg (by omega), if_pos (by omega)]
        refine W_fn rfl rfl ?_
        simp only [go_sem, c_batch_data, List.length_map, eq_true c1, eq_true c2, c3, t1, t2, d1, d2, simprocAttr]
       ·rw [tail hz, if_neg (by omega), if_neg (by omega)]
        obtain ⟨M, t3⟩ := data_loop b.recs (by omega) [] H b.recs [] [.cells b.cs] rfl
        rw [g0] at t3
        unfold Ba.cs at t3
        cases ha : b.recs.any bigR
        ·rw [ha] at t3
         refine W_fn rfl rfl ?_
         simp only [go_sem, c_batch_data, List.length_map, eq_true c1, eq_true c2, c3, t1, t2, d1, d2, t3, simprocAttr]
        ·rw [ha] at t3
         refine W_fn rfl rfl ?_
         simp only [go_sem, c_batch_data, List.length_map, eq_true c1, eq_true c2, c3, t1, t2, d1, d2, t3, simprocAttr]
  ·have hno : noneB b = false := by unfold noneB; simp [c2]
   cases hna : namedB b
   ·have hz : (!noneB b && !(namedB b && seqR b.seq)) = true := by rw [hno, hna]; rfl
    rw [hna] at t1
    rw [head hz]
    refine W_fn rfl rfl ?_
    simp only [go_sem, c_batch_data, eq_true c1, c2, t1, simprocAttr]
   ·rw [hna] at t1
    cases hsq : seqR b.seq
    ·have hz : (!noneB b && !(namedB b && seqR b.seq)) = true := by rw [hno, hna, hsq]; rfl
     rw [hsq] at t2
     rw [head hz]
     refine W_fn rfl rfl ?_
     simp only [go_sem, c_batch_data, eq_true c1, c2, t1, t2, simprocAttr]
    ·have hz : (!noneB b && !(namedB b && seqR b.seq)) = false := by rw [hno, hna, hsq]; rfl
     rw [hsq] at t2
     by_cases d1 : (b.recs.length : Int) = 0
     ·rw [tail hz, if_pos (by omega)]
      refine W_fn rfl rfl ?_
      simp only [go_sem, c_batch_data, List.length_map, eq_true c1, c2, t1, t2, d1, simprocAttr]
     ·by_cases d2 : (b.recs.length : Int) > 16
      ·rw [tail hz, if_neg (by omega), if_pos (by omega)]
       refine W_fn rfl rfl ?_
       simp only [go_sem, c_batch_data, List.length_map, eq_true c1, c2, t1, t2, d1, d2, simprocAttr]
      ·rw [tail hz, if_neg (by omega), if_neg (by omega)]
       obtain ⟨M, t3⟩ := data_loop b.recs (by omega) [] H b.recs [] [.cells b.cs] rfl
       rw [g0] at t3
       unfold Ba.cs at t3
       cases ha : b.recs.any bigR
       ·rw [ha] at t3
        refine W_fn rfl rfl ?_
        simp only [go_sem, c_batch_data, List.length_map, eq_true c1, c2, t1, t2, d1, d2, t3, simprocAttr]
       ·rw [ha] at t3
        refine W_fn rfl rfl ?_
        simp only [go_sem, c_batch_data, List.length_map, eq_true c1, c2, t1, t2, d1, d2, t3, simprocAttr]
 ·have hno : noneB b = false := by unfold noneB; simp [c1]
  cases hna : namedB b
  ·have hz : (!noneB b && !(namedB b && seqR b.seq)) = true := by rw [hno, hna]; rfl
   rw [hna] at t1
   rw [head hz]
   refine W_fn rfl rfl ?_
   simp only [go_sem, c_batch_data, c1, t1, simprocAttr]
  ·rw [hna] at t1
   cases hsq : seqR b.seq
   ·have hz : (!noneB b && !(namedB b && seqR b.seq)) = true := by rw [hno, hna, hsq]; rfl
    rw [hsq] at t2
    rw [head hz]
    refine W_fn rfl rfl ?_
    simp only [go_sem, c_batch_data, c1, t1, t2, simprocAttr]
   ·have hz : (!noneB b && !(namedB b && seqR b.seq)) = false := by rw [hno, hna, hsq]; rfl
    rw [hsq] at t2
    by_cases d1 : (b.recs.length : Int) = 0
    ·rw [tail hz, if_pos (by omega)]
     refine W_fn rfl rfl ?_
     simp only [go_sem, c_batch_data, List.length_map, c1, t1, t2, d1, simprocAttr]
    ·by_cases d2 : (b.recs.length : Int) > 16
     ·rw [tail hz, if_neg (by omega), if_pos (by omega)]
      refine W_fn rfl rfl ?_
      simp only [go_sem, c_batch_data, List.length_map, c1, t1, t2, d1, d2, simprocAttr]
     ·rw [tail hz, if_neg (by omega), if_neg (by omega)]
      obtain ⟨M, t3⟩ := data_loop b.recs (by omega) [] H b.recs [] [.cells b.cs] rfl
      rw [g0] at t3
      unfold Ba.cs at t3
      cases ha : b.recs.any bigR
      ·rw [ha] at t3
       refine W_fn rfl rfl ?_
       simp only [go_sem, c_batch_data, List.length_map, c1, t1, t2, d1, d2, t3, simprocAttr]
      ·rw [ha] at t3
       refine W_fn rfl rfl ?_
       simp only [go_sem, c_batch_data, List.length_map, c1, t1, t2, d1, d2, t3, simprocAttr]
theorem slO (sz xs k) (l : Int) : evSlice sz true false false (.list sz xs .own) [.int k l] = gd (decide (0 ≤ l)) (gd (decide (l ≤ (xs.length : Int))) (some (.list sz (xs.drop l.toNat) .own))) := by
 unfold gd
 by_cases h0 : 0 ≤ l
 ·by_cases h1 : l ≤ (xs.length : Int)
  ·simp [evSlice, bounds, natOf, h0, h1]
  ·simp [evSlice, bounds, natOf, h0, h1]
 ·simp [evSlice, bounds, natOf, h0]
theorem dataE_small {b : Ba} (h : dataE b = 0) : SmallR b.recs := by
 unfold dataE at h
 split at h
 ·cases h
 split at h
 ·cases h
 split at h
 ·cases h
 split at h
 ·cases h
 ·rename_i h1 h2 h3 h4
  refine ⟨by omega, fun x hx => ?_⟩
  have h5 : b.recs.any bigR = false := by cases hb : b.recs.any bigR; rfl; exact absurd hb h4
  rw [List.any_eq_false] at h5
  have := h5 x hx
  simp [bigR] at this
  omega
theorem baBytes_len {b : Ba} (h : SmallR b.recs) : (baBytes b).length ≤ 2404 := by
 have := inner_len h
 simp only [baBytes, sealedI, be4, le4, List.length_append, bes_len, List.length_cons, List.length_nil]
 omega
def markE (b : Ba) : Bool :=
 (decide (b.mark ≠ 1) && decide (b.mark ≠ 2)) || (!namedB b || (decide (b.seq ≠ -1) || (!b.txn || decide (0 < b.recs.length))))
def rightE (b : Ba) : Int :=
 if b.base < 0 ∨ b.base > 1099511627776 then 18
 else if b.mark = 0 then dataE b
 else if markE b = true then 12 else 0
theorem rightE_small {b : Ba} (h : rightE b = 0) : SmallR b.recs := by
 unfold rightE at h
 split at h
 ·cases h
 split at h
 ·exact dataE_small h
 split at h
 ·cases h
 ·rename_i h3
  have : b.recs.length = 0 := by
   simp [markE] at h3
   exact List.length_eq_zero_iff.2 h3.2.2.2.2
  have : b.recs = [] := List.length_eq_zero_iff.1 this
  rw [this]
  exact ⟨by simp, by simp⟩
theorem right_spec (b : Ba) (h : BOK b) (H : Heap) : W n_batch_Right [b.V] H = some (.int .i64 (rightE b), H) := by
 have td := fun H => data_spec b H
 have tn := fun H => named_spec b H
 have tb := fun hs H => bytes_spec b h hs H
 have tl := fun hs => baBytes_len (b := b) hs
 unfold Ba.V Ba.cs at td tn tb ⊢
 by_cases c1 : b.base < 0
 ·have hr : rightE b = 18 := by unfold rightE; rw [if_pos (.inl c1)]
  rw [hr]
  refine W_fn rfl rfl ?_
  simp only [go_sem, c_batch_Right, c1, simprocAttr]
 by_cases c2 : b.base > 1099511627776
 ·have hr : rightE b = 18 := by unfold rightE; rw [if_pos (.inr c2)]
  rw [hr]
  refine W_fn rfl rfl ?_
  simp only [go_sem, c_batch_Right, c1, c2, simprocAttr]
 by_cases c3 : b.mark = 0
 ·have hr : rightE b = dataE b := by unfold rightE; rw [if_neg (by omega), if_pos c3]
  rw [hr]
  by_cases c4 : dataE b = 0
  ·have hs := dataE_small c4
   have hl := tl hs
   have tb' := tb hs
   have c5 : ¬ ((baBytes b).length : Int) > 4096 := by omega
   rw [c4] at td ⊢
   refine W_fn rfl rfl ?_
   simp only [go_sem, c_batch_Right, c1, c2, eq_true c3, td, tb', c5, List.length_map, simprocAttr]
  ·refine W_fn rfl rfl ?_
   simp only [go_sem, c_batch_Right, c1, c2, eq_true c3, td, c4, simprocAttr]
 ·have hr : rightE b = if markE b = true then 12 else 0 := by unfold rightE; rw [if_neg (by omega), if_neg c3]
  rw [hr]
  have bad : markE b = true → (W n_batch_Right [b.V] H = some (.int .i64 12, H)) → W n_batch_Right [b.V] H = some (.int .i64 (if markE b = true then 12 else 0), H) := fun h1 h2 => by rw [if_pos h1]; exact h2
  have good : markE b = false → (W n_batch_Right [b.V] H = some (.int .i64 0, H)) → W n_batch_Right [b.V] H = some (.int .i64 (if markE b = true then 12 else 0), H) := fun h1 h2 => by rw [if_neg (by rw [h1]; decide)]; exact h2
  have rest : (b.mark = 1 ∨ b.mark = 2) → W n_batch_Right [b.V] H = some (.int .i64 (if markE b = true then 12 else 0), H) := by
   intro hm
   have m12 : (decide (b.mark ≠ 1) && decide (b.mark ≠ 2)) = false := by rcases hm with hm | hm <;> rw [hm] <;> rfl
   have em : markE b = (!namedB b || (decide (b.seq ≠ -1) || (!b.txn || decide (0 < b.recs.length)))) := by unfold markE; rw [m12, Bool.false_or]
   cases hn : namedB b with
   | false =>
    rw [hn] at tn
    refine bad (by rw [em, hn]; rfl) (W_fn rfl rfl ?_)
    unfold Ba.V Ba.cs
    rcases hm with hm | hm
    ·simp only [go_sem, c_batch_Right, c1, c2, c3, eq_true hm, tn, simprocAttr]
    ·have hm1 : ¬ b.mark = 1 := by omega
     simp only [go_sem, c_batch_Right, c1, c2, c3, hm1, eq_true hm, tn, simprocAttr]
   | true =>
    rw [hn] at tn
    by_cases c6 : b.seq = -1
    ·cases ht : b.txn with
     | false =>
      rw [ht] at tn
      refine bad (by rw [em, hn, ht]; simp) (W_fn rfl rfl ?_)
      unfold Ba.V Ba.cs
      rcases hm with hm | hm
      ·simp only [go_sem, c_batch_Right, c1, c2, c3, eq_true hm, tn, eq_true c6, ht, simprocAttr]
      ·have hm1 : ¬ b.mark = 1 := by omega
       simp only [go_sem, c_batch_Right, c1, c2, c3, hm1, eq_true hm, tn, eq_true c6, ht, simprocAttr]
     | true =>
      rw [ht] at tn tb
      by_cases c7 : (b.recs.length : Int) > 0
      ·refine bad (by rw [em, hn, ht]; simp; right; omega) (W_fn rfl rfl ?_)
       unfold Ba.V Ba.cs
       rcases hm with hm | hm
       ·simp only [go_sem, c_batch_Right, c1, c2, c3, eq_true hm, tn, eq_true c6, ht, c7, List.length_map, simprocAttr]
       ·have hm1 : ¬ b.mark = 1 := by omega
        simp only [go_sem, c_batch_Right, c1, c2, c3, hm1, eq_true hm, tn, eq_true c6, ht, c7, List.length_map, simprocAttr]
      ·have h0 : b.recs = [] := List.length_eq_zero_iff.1 (by omega)
       have hs : SmallR b.recs := by
        rw [h0]; exact ⟨by simp, by simp⟩
       have tb' := tb hs
       have hl := tl hs
       have c5 : ¬ ((baBytes b).length : Int) > 4096 := by omega
       refine good (by rw [em, hn, ht]; simp [c6, h0]) (W_fn rfl rfl ?_)
       unfold Ba.V Ba.cs
       rcases hm with hm | hm
       ·simp only [go_sem, c_batch_Right, c1, c2, c3, eq_true hm, tn, eq_true c6, ht, c7, tb', c5, List.length_map, simprocAttr]
       ·have hm1 : ¬ b.mark = 1 := by omega
        simp only [go_sem, c_batch_Right, c1, c2, c3, hm1, eq_true hm, tn, eq_true c6, ht, c7, tb', c5, List.length_map, simprocAttr]
    ·refine bad (by rw [em, hn]; simp [c6]) (W_fn rfl rfl ?_)
     unfold Ba.V Ba.cs
     rcases hm with hm | hm
     ·simp only [go_sem, c_batch_Right, c1, c2, c3, eq_true hm, tn, c6, simprocAttr]
     ·have hm1 : ¬ b.mark = 1 := by omega
      simp only [go_sem, c_batch_Right, c1, c2, c3, hm1, eq_true hm, tn, c6, simprocAttr]
  by_cases m1 : b.mark = 1
  ·exact rest (.inl m1)
  by_cases m2 : b.mark = 2
  ·exact rest (.inr m2)
  refine bad (by unfold markE; simp [m1, m2]) (W_fn rfl rfl ?_)
  unfold Ba.V Ba.cs
  simp only [go_sem, c_batch_Right, c1, c2, c3, m1, m2, simprocAttr]
theorem ref_seq_spec (n : Int) (H : Heap) : W n_ref3_Seq [.int .i64 n] H = some (.bool (seqR n), H) := by
 refine W_fn rfl rfl ?_
 unfold seqR
 by_cases c1 : n ≥ 0
 ·by_cases c2 : n ≤ 2147483647 <;> simp only [go_sem, c_ref3_Seq, c1, c2, simprocAttr]
 ·simp only [go_sem, c_ref3_Seq, c1, simprocAttr]
theorem ref_long_loop (l0 : List Int) (n : Int) (hn : I64 n) (hl : l0.length + 8 ≤ 140737488355328) (d : Nat) : ∀ (i : Nat) (l : List Int) (H : Heap), i + d = 8 → l.length = l0.length + i →
  loopA W loopW (.ghost (.kill k_ref1_Long_0) l_ref1_Long_0) [(1, .int .i64 n), (5, bytes l .own), (6, .int .i64 (56 - 8 * (i : Int)))] H = some (.exit 0, [(5, bytes (l ++ bes n i) .own)], H) := by
 induction d with
 | zero =>
  intro i l H hi hl'
  have : i = 8 := by omega
  subst this
  refine loop_step l_ref1_Long_0.eq_1 k_ref1_Long_0.eq_1 (by kernel_rfl) ?_
  have h1 : ¬ ((56 : Int) - 8 * 8 ≥ 0) := by omega
  simp only [go_sem, trim_same, trim_same, h1, simprocAttr]
  simp [bes]
 | succ d ih =>
  intro i l H hi hl'
  have h1 : (56 - 8 * (i : Int) ≥ 0) := by omega
  have e1 : IntKind.u64.wrap (56 - 8 * (i : Int)) = ((8 * (7 - i) : Nat) : Int) := by rw [Num.wu64]; omega
  have e4 := (toB8 n hn (8 * (7 - i)) (by omega)).1
  have e5 : (0 : Int) ≤ ((8 * (7 - i) : Nat) : Int) := by omega
  have e6 : IntKind.i64.wrap (56 - 8 * (i : Int) - 8) = 56 - 8 * ((i + 1 : Nat) : Int) := by rw [wrap_id (by unfold I64; omega)]; omega
  have e7 : ints .u8 l ++ [.int .u8 (n / 2 ^ (8 * (7 - i)) % 256)] = ints .u8 (l ++ [be n i]) := by simp [be]
  have hb : ((ints .u8 l).length + 1) * 1 ≤ maxBytes := by simp [maxBytes]; omega
  have h2 := ih (i + 1) (l ++ [be n i]) H (by omega) (by simp; omega)
  refine loop_step l_ref1_Long_0.eq_1 k_ref1_Long_0.eq_1 (by kernel_rfl) ?_
  simp only [go_sem, trim_same, trim_same, h1, e1, e4, e5, e6, apO, hb, e7, simprocAttr]
  refine h2.trans ?_
  have : bes n i = be n i :: bes n (i + 1) := by
   unfold bes
   rw [List.drop_eq_getElem_cons (by simp; omega)]
   simp
  rw [this]; simp
theorem ref_long_spec (l : List Int) (n : Int) (H : Heap) (hn : I64 n) (hl : l.length + 8 ≤ 140737488355328) : W n_ref1_Long [bytes l .ro, .int .i64 n] H = some (bytes (l ++ bes n 0) .own, H) := by
 have h := ref_long_loop l n hn hl 8 0 l H rfl (by simp)
 have hb0 : (0 + (ints .u8 l).length) * 1 ≤ maxBytes := by simp [maxBytes]; omega
 simp only [Int.natCast_zero, Int.mul_zero, Int.sub_zero] at h
 refine W_fn0 rfl rfl ?_
 simp only [go_sem, trim_same, trim_same, c_ref1_Long, fs_nil, apF, hb0, List.nil_append, h, simprocAttr]
theorem w64eq (n : Int) : IntKind.i64.wrap n = wrap64 n := by rw [IntKind.wrap_i64]; unfold wrap64; rfl
theorem ref_put_loop (f : Nat) : ∀ (l : List Int) (u : Int) (H : Heap), 0 ≤ u → u < 128 ^ (f + 1) → l.length + f + 1 ≤ 140737488355328 → ∃ p q, p ++ [q] = Vt.enc f u ∧ 0 ≤ q ∧ q < 128 ∧
  loopA W loopW (.ghost (.kill k_ref1_Put_0) l_ref1_Put_0) [(5, bytes l .own), (6, .int .u64 u)] H = some (.exit 0, [(5, bytes (l ++ p) .own), (6, .int .u64 q)], H) := by
 induction f with
 | zero =>
  intro l u H h0 h1 hl
  rw [Vt.pow128] at h1
  have : (128 : Int) ^ 0 = 1 := rfl
  refine ⟨[], u, rfl, h0, by omega, loop_step l_ref1_Put_0.eq_1 k_ref1_Put_0.eq_1 (by kernel_rfl) ?_⟩
  have hu : ¬ (u ≥ 128) := by omega
  simp only [go_sem, trim_same, hu, List.append_nil, simprocAttr]
 | succ f ih =>
  intro l u H h0 h1 hl
  rw [Vt.pow128] at h1
  by_cases h : u ≥ 128
  ·obtain ⟨p, q, g1, g2, g3, g4⟩ := ih (l ++ [u % 128 + 128]) (u / 128) H (by omega) (by omega) (by simp; omega)
   refine ⟨(u % 128 + 128) :: p, q, by rw [Vt.enc, if_pos h, ← g1]; rfl, g2, g3, loop_step l_ref1_Put_0.eq_1 k_ref1_Put_0.eq_1 (by kernel_rfl) ?_⟩
   have e1 : bits .or .u8 (IntKind.u8.wrap u) 128 = u % 128 + 128 := by
    rw [Num.wu8, Num.or128_u8 _ (by omega) (by omega)]; omega
   have e2 : shr .u64 u 7 = u / 128 := rfl
   have e4 : ints .u8 l ++ [.int .u8 (u % 128 + 128)] = ints .u8 (l ++ [u % 128 + 128]) := by simp
   have hb : ((ints .u8 l).length + 1) * 1 ≤ maxBytes := by simp [maxBytes]; omega
   simp only [go_sem, trim_same, h, e1, e2, apO, hb, e4, simprocAttr]
   exact g4.trans (by simp)
  ·refine ⟨[], u, by rw [Vt.enc, if_neg h]; rfl, h0, by omega, loop_step l_ref1_Put_0.eq_1 k_ref1_Put_0.eq_1 (by kernel_rfl) ?_⟩
   simp only [go_sem, trim_same, h, List.append_nil, simprocAttr]
theorem zig_ref' (n : Int) (h : I64 n) : bits .xor .u64 (IntKind.u64.wrap (shl .i64 n 1)) (IntKind.u64.wrap (shr .i64 n 63)) = Num.zig n := by
 rw [← Num.zig_ref n h, ← w64eq]; rfl
theorem ref_put_spec (l : List Int) (n : Int) (H : Heap) (fl : Fl) (hfl : fl = .ro ∨ fl = .full) (hn : I64 n) (hl : l.length + 10 ≤ 140737488355328) : W n_ref1_Put [bytes l .ro, .int .i64 n] H = some (bytes (l ++ Vt.enc 9 (Num.zig n)) .own, H) := by
 have hz := Num.zig_range n hn
 obtain ⟨p, q, g1, g2, g3, g4⟩ := ref_put_loop 9 l (Num.zig n) H hz.1 (Int.lt_trans hz.2 (by decide)) (by omega)
 have hp : p.length < 10 := by
  have := Vt.enc_len' 9 (Num.zig n); rw [← g1] at this; simp at this; omega
 have hb : ((ints .u8 (l ++ p)).length + 1) * 1 ≤ maxBytes := by simp [maxBytes]; omega
 have hb0 : (0 + (ints .u8 l).length) * 1 ≤ maxBytes := by simp [maxBytes]; omega
 have e1 : IntKind.u8.wrap q = q := by rw [Num.wu8]; omega
 refine W_fn0 rfl rfl ?_
 simp only [go_sem, trim_same, c_ref1_Put, zig_ref' n hn, g4, e1, fs_nil, apO, apF, hb, hb0, List.nil_append, simprocAttr]
 rw [← g1]; simp
theorem ref_text_spec (l : List Int) (s : List UInt8) (H : Heap) (hl : l.length + s.length + 10 ≤ 140737488355328) : W n_ref1_Text [bytes l .ro, .str s] H = some (bytes (l ++ Vt.enc 9 (Num.zig s.length) ++ s.map fun b => (b.toNat : Int)) .own, H) := by
 have h1 := ref_put_spec l s.length H .ro (.inl rfl) (by unfold I64; omega) (by omega)
 have h2 := Vt.enc_len' 9 (Num.zig s.length)
 have hb : ((ints .u8 (l ++ Vt.enc 9 (Num.zig s.length))).length + (encBytes s).length) * 1 ≤ maxBytes := by simp [maxBytes, encBytes]; omega
 refine W_fn0 rfl rfl ?_
 simp only [go_sem, trim_same, c_ref1_Text, h1, apO, hb, simprocAttr]
 simp [encBytes]
theorem ref_next_loop (d : Nat) : ∀ (i c : Nat) (H : Heap), i + d = 8 → c < 4294967296 →
  loopA W0 loopW (.ghost (.kill k_ref1_Next_0) l_ref1_Next_0) [(0, .int .u32 (c : Nat)), (5, .int .i64 (i : Nat))] H = some (.exit 0, [(0, .int .u32 (stepN d c : Nat))], H) := by
 induction d with
 | zero =>
  intro i c H hi hc
  have : i = 8 := by omega
  subst this
  refine loop_step l_ref1_Next_0.eq_1 k_ref1_Next_0.eq_1 (by kernel_rfl) ?_
  have h1 : ¬ (((8 : Nat) : Int) < 8) := by omega
  simp only [go_sem, h1, simprocAttr]
  rfl
 | succ d ih =>
  intro i c H hi hc
  have h1 : ((i : Int) < 8) := by omega
  have e1 := and32 c hc
  have e2 := shr32 c
  have hle : c &&& 1 ≤ 1 := Nat.and_le_right
  have hs : c >>> 1 < 4294967296 := by rw [Nat.shiftRight_eq_div_pow]; omega
  have e4 := xor32 (c >>> 1) 2197175160 hs (by decide)
  have e6 : IntKind.i64.wrap ((i : Int) + 1) = ((i + 1 : Nat) : Int) := by rw [wrap_id (by unfold I64; omega)]; omega
  have h2 := ih (i + 1) (crcStep c) H (by omega) (crcStep_lt hc)
  by_cases hb : c &&& 1 = 1
  ·have c1 : ((c &&& 1 : Nat) : Int) = 1 := by omega
   have e5 : crcStep c = c >>> 1 ^^^ 2197175160 := by unfold crcStep; rw [hb, Nat.mul_one]
   rw [e5] at h2
   refine loop_step l_ref1_Next_0.eq_1 k_ref1_Next_0.eq_1 (by kernel_rfl) ?_
   rw [show ((2197175160 : Nat) : Int) = 2197175160 from rfl] at e4
   simp only [go_sem, h1, e1, e2, c1, e4, e6, simprocAttr]
   show _ = some (Out.exit 0, [(0, AVal.int .u32 ((stepN d (crcStep c) : Nat) : Int))], H)
   rw [e5]
   exact h2
  ·have c1 : ¬ ((c &&& 1 : Nat) : Int) = 1 := by omega
   have e5 : crcStep c = c >>> 1 := by unfold crcStep; rw [show c &&& 1 = 0 by omega, Nat.mul_zero, Nat.xor_zero]
   rw [e5] at h2
   refine loop_step l_ref1_Next_0.eq_1 k_ref1_Next_0.eq_1 (by kernel_rfl) ?_
   simp only [go_sem, h1, e1, e2, c1, e6, simprocAttr]
   show _ = some (Out.exit 0, [(0, AVal.int .u32 ((stepN d (crcStep c) : Nat) : Int))], H)
   rw [e5]
   exact h2
theorem ref_next_spec0 (c b : Nat) (H : Heap) (hc : c < 4294967296) (hb : b < 256) : W0 n_ref1_Next [.int .u32 (c : Nat), .int .u8 (b : Nat)] H = some (.int .u32 (crcNext c b : Nat), H) := by
 have h := ref_next_loop 8 0 (c ^^^ b) H rfl (xor_lt32 hc (by omega))
 have e1 := wrap32 b (by omega)
 have e2 := xor32 c b hc (by omega)
 simp only [Int.natCast_zero] at h
 refine W0_fn rfl rfl ?_
 simp only [go_sem, trim_same, c_ref1_Next, e1, e2, h, simprocAttr]
 rfl
theorem ref_of_loop (l : List Int) (hb : ∀ x ∈ l, 0 ≤ x ∧ x < 256) (hl : l.length ≤ 140737488355328) (H : Heap) (r : List Int) : ∀ (p : List Int) (c : Nat), l = p ++ r → c < 4294967296 →
  loopA W0 loopW (.ghost (.kill k_ref1_Crc_0) l_ref1_Crc_0) [(0, bytes l .ro), (3, .int .u32 (c : Nat)), (4, .int .i64 (p.length : Nat))] H =
   some (.exit 0, [(3, .int .u32 (((toN r).foldl crcNext c : Nat) : Int))], H) := by
 induction r with
 | nil =>
  intro p c hp hc
  have h1 : ¬ ((p.length : Int) < (l.length : Int)) := by rw [hp]; simp
  refine loop_step l_ref1_Crc_0.eq_1 k_ref1_Crc_0.eq_1 (by kernel_rfl) ?_
  simp only [go_sem, h1, List.length_map, simprocAttr]
  rfl
 | cons x r ih =>
  intro p c hp hc
  have hx := hb x (by rw [hp]; simp)
  have h1 : ((p.length : Int) < (l.length : Int)) := by rw [hp]; simp; omega
  have hlen : p.length < l.length := by omega
  obtain ⟨n, rfl⟩ : ∃ n : Nat, x = n := ⟨x.toNat, by omega⟩
  have e1 : (ints .u8 l)[p.length]? = some (.int .u8 (n : Int)) := by rw [hp]; simp
  have e6 : IntKind.i64.wrap ((p.length : Int) + 1) = ((p.length + 1 : Nat) : Int) := by rw [wrap_id (by unfold I64; omega)]; omega
  have h2 := ih (p ++ [(n : Int)]) (crcNext c n) (by rw [hp]; simp) (crcNext_lt hc (by omega))
  have e2 := ref_next_spec0 c n H hc (by omega)
  have e0 : (0 : Int) ≤ (p.length : Int) := by omega
  have e7 : ((p.length : Nat) : Int).toNat = p.length := by omega
  simp only [List.length_append, List.length_cons, List.length_nil, Nat.zero_add] at h2
  refine loop_step l_ref1_Crc_0.eq_1 k_ref1_Crc_0.eq_1 (by kernel_rfl) ?_
  simp only [go_sem, h1, List.length_map, e0, e7, e1, e2, e6, simprocAttr]
  exact h2
theorem ref_crc_spec0 (l : List Int) (H : Heap) (hb : ∀ x ∈ l, 0 ≤ x ∧ x < 256) (hl : l.length ≤ 140737488355328) : W0 n_ref1_Crc [bytes l .ro] H = some (.int .u32 (crcN (toN l) : Nat), H) := by
 have h := ref_of_loop l hb hl H l [] 4294967295 rfl (by decide)
 have hlt : (toN l).foldl crcNext 4294967295 < 4294967296 := crcFold_lt _ _ (by decide) (fun x hx => by
  obtain ⟨y, hy, rfl⟩ := List.mem_map.1 hx
  have := hb y hy
  omega)
 have e1 : bits .xor .u32 (if IntKind.u32.signed = true then -1 else IntKind.u32.max) (((toN l).foldl crcNext 4294967295 : Nat) : Int) = (crcN (toN l) : Nat) := by
  have := xor32 4294967295 ((toN l).foldl crcNext 4294967295) (by decide) hlt
  rw [Nat.xor_comm] at this
  exact this
 simp only [List.length_nil, Int.natCast_zero, Int.cast_ofNat_Int] at h
 refine W0_fn rfl rfl ?_
 simp only [go_sem, trim_same, c_ref1_Crc, h, e1, simprocAttr]
theorem refCrc_le {args H r} (h : crcSem args H = some r) : W0 n_ref1_Crc args H = some r := by
 unfold crcSem at h
 split at h
 ·rename_i xs
  obtain ⟨h1, h2⟩ := ite_some h
  obtain ⟨l, h3, rfl⟩ := Option.map_eq_some_iff.1 h2
  obtain ⟨zs, rfl, h4, rfl⟩ := nats8_inv h3
  exact ref_crc_spec0 zs _ h4 (by simpa [maxBytes] using h1)
 ·cases h
theorem ref_crc_spec (l : List Int) (H : Heap) (hb : ∀ x ∈ l, 0 ≤ x ∧ x < 256) (hl : l.length ≤ 140737488355328) : W n_ref1_Crc [bytes l .ro] H = some (.int .u32 (crcN (toN l) : Nat), H) := by
 refine W_ref1_Crc ?_
 show (if (ints .u8 l).length ≤ maxBytes then _ else none) = _
 rw [if_pos (by simpa [maxBytes] using hl), nats8_ints l hb]; rfl
theorem ref_sealed_spec (l : List Int) (H : Heap) (hb : ∀ x ∈ l, 0 ≤ x ∧ x < 256) (hl : l.length + 4 ≤ 140737488355328) :
  W n_ref1_Sealed [bytes l .ro] H = some (bytes (le4 (crcN (toN l) : Nat) ++ l) .own, H) := by
 have h1 := ref_crc_spec l H hb (by omega)
 obtain ⟨c, hc⟩ : ∃ c : Int, (crcN (toN l) : Int) = c := ⟨_, rfl⟩
 rw [hc] at h1 ⊢
 have e1 : IntKind.u8.wrap c = c % 256 := Num.wu8 _
 have e2 : IntKind.u8.wrap (shr .u32 c 8) = c / 256 % 256 := Num.wu8 _
 have e3 : IntKind.u8.wrap (shr .u32 c 16) = c / 65536 % 256 := Num.wu8 _
 have e4 : IntKind.u8.wrap (shr .u32 c 24) = c / 16777216 % 256 := Num.wu8 _
 have b1 : (4 + l.length) * 1 ≤ maxBytes := by simp only [maxBytes]; omega
 refine W_fn0 rfl rfl ?_
 simp only [go_sem, trim_same, c_ref1_Sealed, h1, e1, e2, e3, e4, fs_int, apF, List.length_map, List.length_cons, List.length_nil, Nat.zero_add, b1, simprocAttr]
 simp [le4]
theorem ref_head_spec (b : Ba) (H : Heap) : W n_ref6_head [b.V] H = some (.bool (namedB b), H) := by
 refine W_fn rfl rfl ?_
 unfold Ba.V Ba.cs namedB
 by_cases c1 : b.prod ≥ 0
 ·by_cases c2 : b.epoch ≥ 0
  ·by_cases c3 : b.epoch ≤ 32767 <;> simp only [go_sem, c_ref6_head, c1, c2, c3, simprocAttr]
  ·simp only [go_sem, c_ref6_head, c1, c2, simprocAttr]
 ·simp only [go_sem, c_ref6_head, c1, simprocAttr]
theorem ref_count_spec (b : Ba) (H : Heap) : W n_ref6_Count [b.V] H = some (.int .i64 (if b.mark = 0 then (b.recs.length : Int) else 1), H) := by
 refine W_fn rfl rfl ?_
 unfold Ba.V Ba.cs
 by_cases c : b.mark = 0
 ·rw [if_pos c]; simp only [go_sem, c_ref6_Count, c, List.length_map, simprocAttr]
 ·rw [if_neg c]; simp only [go_sem, c_ref6_Count, c, simprocAttr]
theorem plain_loop (L : List Rc) (hn : L.length ≤ 16) (H : Heap) (r : List Rc) : ∀ (p : List Rc) (N : Heap), L = p ++ r →
  ∃ M, loopA W loopW (.ghost (.kill k_ref6_plain_0) l_ref6_plain_0) [(88, .list 2 (L.map rcV) .ro), (89, .int .i64 (L.length : Nat)), (90, .int .i64 (p.length : Nat))] (hx H N) =
   if r.any bigR then some (.ret, [(2, .int .i64 13)], hx H M) else some (.exit 0, [], hx H M) := by
 induction r with
 | nil =>
  intro p N hp
  rw [List.append_nil] at hp
  subst hp
  refine ⟨N, ?_⟩
  have h1 : ¬ ((L.length : Int) < (L.length : Int)) := by omega
  rw [if_neg (by simp)]
  refine loop_step l_ref6_plain_0.eq_1 k_ref6_plain_0.eq_1 (by kernel_rfl) ?_
  simp only [go_sem, h1, simprocAttr]
 | cons x r ih =>
  intro p N hp
  have hlen : p.length < L.length := by rw [hp]; simp
  have h1 : ((p.length : Int) < (L.length : Int)) := by omega
  have e0 : (0 : Int) ≤ (p.length : Int) := by omega
  have e7 : ((p.length : Nat) : Int).toNat = p.length := by omega
  have e1 : (L.map rcV)[p.length]? = some (.agg [.str x.1, .str x.2]) := by rw [hp]; simp [rcV]
  have e6 : IntKind.i64.wrap ((p.length : Int) + 1) = ((p.length + 1 : Nat) : Int) := by rw [wrap_id (by unfold I64; omega)]; omega
  obtain ⟨M, h2⟩ := ih (p ++ [x]) (N ++ [.cells [.str x.1, .str x.2]]) (by rw [hp]; simp)
  simp only [List.length_append, List.length_cons, List.length_nil, Nat.zero_add] at h2
  by_cases c1 : (x.1.length : Int) > 64
  ·refine ⟨N ++ [.cells [.str x.1, .str x.2]], ?_⟩
   rw [if_pos (by simp [bigR]; omega)]
   refine loop_step l_ref6_plain_0.eq_1 k_ref6_plain_0.eq_1 (by kernel_rfl) ?_
   simp only [go_sem, h1, e0, e7, e1, c1, simprocAttr]
  ·by_cases c2 : (x.2.length : Int) > 64
   ·refine ⟨N ++ [.cells [.str x.1, .str x.2]], ?_⟩
    rw [if_pos (by simp [bigR]; omega)]
    refine loop_step l_ref6_plain_0.eq_1 k_ref6_plain_0.eq_1 (by kernel_rfl) ?_
    simp only [go_sem, h1, e0, e7, e1, c1, c2, simprocAttr]
   ·refine ⟨M, ?_⟩
    have hb : bigR x = false := by simp [bigR]; omega
    rw [List.any_cons, hb, Bool.false_or]
    obtain ⟨R, hR⟩ : ∃ R, (if r.any bigR = true then some (Out.ret, ([(2, .int .i64 13)] : Env), hx H M) else some (.exit 0, [], hx H M)) = some R := by split <;> exact ⟨_, rfl⟩
    rw [hR] at h2 ⊢
    refine loop_step l_ref6_plain_0.eq_1 k_ref6_plain_0.eq_1 (by kernel_rfl) ?_
    simp only [go_sem, h1, e0, e7, e1, c1, c2, e6, simprocAttr]
    exact h2
set_option maxHeartbeats 3200000 in
theorem plain_data (b : Ba) (H : Heap) (c1 : ¬ b.base < 0) (c2 : ¬ b.base > 1099511627776) (c3 : b.mark = 0) : W n_ref6_plain [b.V] H = some (.int .i64 (dataE b), H) := by
 have t1 := fun H => ref_head_spec b H
 have t2 := fun H => ref_seq_spec b.seq H
 unfold Ba.V Ba.cs at t1 ⊢
 have tail : (!noneB b && !(namedB b && seqR b.seq)) = false → dataE b = if b.recs.length = 0 then 12 else if 16 < b.recs.length then 13 else if b.recs.any bigR = true then 13 else 0 := by
  intro h; unfold dataE; rw [if_neg (by rw [h]; decide)]
 have head : (!noneB b && !(namedB b && seqR b.seq)) = true → dataE b = 12 := by
  intro h; unfold dataE; rw [if_pos h]
 have g0 : ((([] : List Rc).length : Nat) : Int) = 0 := rfl
 by_cases n1 : b.prod = -1
 ·by_cases n2 : b.epoch = -1
  ·by_cases n3 : b.seq = -1
   ·cases ht : b.txn
    ·have hz : (!noneB b && !(namedB b && seqR b.seq)) = false := by unfold noneB; rw [ht]; simp [n1, n2, n3]
     rw [ht] at t1
     by_cases d1 : (b.recs.length : Int) = 0
     ·rw [tail hz, if_pos (by omega)]
      refine W_fn rfl rfl ?_
      simp only [go_sem, c_ref6_plain, List.length_map, c1, c2, eq_true c3, eq_true n1, eq_true n2, eq_true n3, ht, d1, simprocAttr]
     ·by_cases d2 : (b.recs.length : Int) > 16
      ·rw [tail hz, if_neg (by omega), if_pos (by omega)]
       refine W_fn rfl rfl ?_
       simp only [go_sem, c_ref6_plain, List.length_map, c1, c2, eq_true c3, eq_true n1, eq_true n2, eq_true n3, ht, d1, d2, simprocAttr]
      ·rw [tail hz, if_neg (by omega), if_neg (by omega)]
       obtain ⟨M, t3⟩ := plain_loop b.recs (by omega) H b.recs [] [.cells b.cs] rfl
       rw [g0] at t3
       unfold Ba.cs at t3
       rw [ht] at t3
       cases ha : b.recs.any bigR
       ·rw [ha] at t3
        refine W_fn rfl rfl ?_
        simp only [go_sem, c_ref6_plain, List.length_map, c1, c2, eq_true c3, eq_true n1, eq_true n2, eq_true n3, ht, d1, d2, t3, simprocAttr]
       ·rw [ha] at t3
        refine W_fn rfl rfl ?_
        simp only [go_sem, c_ref6_plain, List.length_map, c1, c2, eq_true c3, eq_true n1, eq_true n2, eq_true n3, ht, d1, d2, t3, simprocAttr]
    ·have hno : noneB b = false := by unfold noneB; rw [ht]; simp
     rw [ht] at t1
     cases hna : namedB b
     ·have hz : (!noneB b && !(namedB b && seqR b.seq)) = true := by rw [hno, hna]; rfl
      rw [hna] at t1
      rw [head hz]
      refine W_fn rfl rfl ?_
      simp only [go_sem, c_ref6_plain, c1, c2, eq_true c3, eq_true n1, eq_true n2, eq_true n3, ht, t1, simprocAttr]
     ·rw [hna] at t1
      cases hsq : seqR b.seq
      ·have hz : (!noneB b && !(namedB b && seqR b.seq)) = true := by rw [hno, hna, hsq]; rfl
       rw [hsq] at t2
       rw [head hz]
       refine W_fn rfl rfl ?_
       simp only [go_sem, c_ref6_plain, c1, c2, eq_true c3, eq_true n1, eq_true n2, eq_true n3, ht, t1, t2, simprocAttr]
      ·have hz : (!noneB b && !(namedB b && seqR b.seq)) = false := by rw [hno, hna, hsq]; rfl
       rw [hsq] at t2
       by_cases d1 : (b.recs.length : Int) = 0
       ·rw [tail hz, if_pos (by omega)]
        refine W_fn rfl rfl ?_
        simp only [go_sem, c_ref6_plain, List.length_map, c1, c2, eq_true c3, eq_true n1, eq_true n2, eq_true n3, ht, t1, t2, d1, simprocAttr]
       ·by_cases d2 : (b.recs.length : Int) > 16
        ·rw [tail hz, if_neg (by omega), if_pos (by omega)]
         refine W_fn rfl rfl ?_
         simp only [go_sem, c_ref6_plain, List.length_map, c1, c2, eq_true c3, eq_true n1, eq_true n2, eq_true n3, ht, t1, t2, d1, d2, simprocAttr]
        ·rw [tail hz, if_neg (by omega), if_neg (by omega)]
         obtain ⟨M, t3⟩ := plain_loop b.recs (by omega) H b.recs [] [.cells b.cs] rfl
         rw [g0] at t3
         unfold Ba.cs at t3
         rw [ht] at t3
         cases ha : b.recs.any bigR
         ·rw [ha] at t3
          refine W_fn rfl rfl ?_
          simp only [go_sem, c_ref6_plain, List.length_map, c1, c2, eq_true c3, eq_true n1, eq_true n2, eq_true n3, ht, t1, t2, d1, d2, t3, simprocAttr]
         ·rw [ha] at t3
          refine W_fn rfl rfl ?_
          simp only [go_sem, c_ref6_plain, List.length_map, c1, c2, eq_true c3, eq_true n1, eq_true n2, eq_true n3, ht, t1, t2, d1, d2, t3, simprocAttr]
   ·have hno : noneB b = false := by unfold noneB; simp [n3]
    cases hna : namedB b
    ·have hz : (!noneB b && !(namedB b && seqR b.seq)) = true := by rw [hno, hna]; rfl
     rw [hna] at t1
     rw [head hz]
     refine W_fn rfl rfl ?_
     simp only [go_sem, c_ref6_plain, c1, c2, eq_true c3, eq_true n1, eq_true n2, n3, t1, simprocAttr]
    ·rw [hna] at t1
     cases hsq : seqR b.seq
     ·have hz : (!noneB b && !(namedB b && seqR b.seq)) = true := by rw [hno, hna, hsq]; rfl
      rw [hsq] at t2
      rw [head hz]
      refine W_fn rfl rfl ?_
      simp only [go_sem, c_ref6_plain, c1, c2, eq_true c3, eq_true n1, eq_true n2, n3, t1, t2, simprocAttr]
     ·have hz : (!noneB b && !(namedB b && seqR b.seq)) = false := by rw [hno, hna, hsq]; rfl
      rw [hsq] at t2
      by_cases d1 : (b.recs.length : Int) = 0
      ·rw [tail hz, if_pos (by omega)]
       refine W_fn rfl rfl ?_
       simp only [go_sem, c_ref6_plain, List.length_map, c1, c2, eq_true c3, eq_true n1, eq_true n2, n3, t1, t2, d1, simprocAttr]
      ·by_cases d2 : (b.recs.length : Int) > 16
       ·rw [tail hz, if_neg (by omega), if_pos (by omega)]
        refine W_fn rfl rfl ?_
        simp only [go_sem, c_ref6_plain, List.length_map, c1, c2, eq_true c3, eq_true n1, eq_true n2, n3, t1, t2, d1, d2, simprocAttr]
       ·rw [tail hz, if_neg (by omega), if_neg (by omega)]
        obtain ⟨M, t3⟩ := plain_loop b.recs (by omega) H b.recs [] [.cells b.cs] rfl
        rw [g0] at t3
        unfold Ba.cs at t3
        cases ha : b.recs.any bigR
        ·rw [ha] at t3
         refine W_fn rfl rfl ?_
         simp only [go_sem, c_ref6_plain, List.length_map, c1, c2, eq_true c3, eq_true n1, eq_true n2, n3, t1, t2, d1, d2, t3, simprocAttr]
        ·rw [ha] at t3
         refine W_fn rfl rfl ?_
         simp only [go_sem, c_ref6_plain, List.length_map, c1, c2, eq_true c3, eq_true n1, eq_true n2, n3, t1, t2, d1, d2, t3, simprocAttr]
  ·have hno : noneB b = false := by unfold noneB; simp [n2]
   cases hna : namedB b
   ·have hz : (!noneB b && !(namedB b && seqR b.seq)) = true := by rw [hno, hna]; rfl
    rw [hna] at t1
    rw [head hz]
    refine W_fn rfl rfl ?_
    simp only [go_sem, c_ref6_plain, c1, c2, eq_true c3, eq_true n1, n2, t1, simprocAttr]
   ·rw [hna] at t1
    cases hsq : seqR b.seq
    ·have hz : (!noneB b && !(namedB b && seqR b.seq)) = true := by rw [hno, hna, hsq]; rfl
     rw [hsq] at t2
     rw [head hz]
     refine W_fn rfl rfl ?_
     simp only [go_sem, c_ref6_plain, c1, c2, eq_true c3, eq_true n1, n2, t1, t2, simprocAttr]
    ·have hz : (!noneB b && !(namedB b && seqR b.seq)) = false := by rw [hno, hna, hsq]; rfl
     rw [hsq] at t2
     by_cases d1 : (b.recs.length : Int) = 0
     ·rw [tail hz, if_pos (by omega)]
      refine W_fn rfl rfl ?_
      simp only [go_sem, c_ref6_plain, List.length_map, c1, c2, eq_true c3, eq_true n1, n2, t1, t2, d1, simprocAttr]
     ·by_cases d2 : (b.recs.length : Int) > 16
      ·rw [tail hz, if_neg (by omega), if_pos (by omega)]
       refine W_fn rfl rfl ?_
       simp only [go_sem, c_ref6_plain, List.length_map, c1, c2, eq_true c3, eq_true n1, n2, t1, t2, d1, d2, simprocAttr]
      ·rw [tail hz, if_neg (by omega), if_neg (by omega)]
       obtain ⟨M, t3⟩ := plain_loop b.recs (by omega) H b.recs [] [.cells b.cs] rfl
       rw [g0] at t3
       unfold Ba.cs at t3
       cases ha : b.recs.any bigR
       ·rw [ha] at t3
        refine W_fn rfl rfl ?_
        simp only [go_sem, c_ref6_plain, List.length_map, c1, c2, eq_true c3, eq_true n1, n2, t1, t2, d1, d2, t3, simprocAttr]
       ·rw [ha] at t3
        refine W_fn rfl rfl ?_
        simp only [go_sem, c_ref6_plain, List.length_map, c1, c2, eq_true c3, eq_true n1, n2, t1, t2, d1, d2, t3, simprocAttr]
 ·have hno : noneB b = false := by unfold noneB; simp [n1]
  cases hna : namedB b
  ·have hz : (!noneB b && !(namedB b && seqR b.seq)) = true := by rw [hno, hna]; rfl
   rw [hna] at t1
   rw [head hz]
   refine W_fn rfl rfl ?_
   simp only [go_sem, c_ref6_plain, c1, c2, eq_true c3, n1, t1, simprocAttr]
  ·rw [hna] at t1
   cases hsq : seqR b.seq
   ·have hz : (!noneB b && !(namedB b && seqR b.seq)) = true := by rw [hno, hna, hsq]; rfl
    rw [hsq] at t2
    rw [head hz]
    refine W_fn rfl rfl ?_
    simp only [go_sem, c_ref6_plain, c1, c2, eq_true c3, n1, t1, t2, simprocAttr]
   ·have hz : (!noneB b && !(namedB b && seqR b.seq)) = false := by rw [hno, hna, hsq]; rfl
    rw [hsq] at t2
    by_cases d1 : (b.recs.length : Int) = 0
    ·rw [tail hz, if_pos (by omega)]
     refine W_fn rfl rfl ?_
     simp only [go_sem, c_ref6_plain, List.length_map, c1, c2, eq_true c3, n1, t1, t2, d1, simprocAttr]
    ·by_cases d2 : (b.recs.length : Int) > 16
     ·rw [tail hz, if_neg (by omega), if_pos (by omega)]
      refine W_fn rfl rfl ?_
      simp only [go_sem, c_ref6_plain, List.length_map, c1, c2, eq_true c3, n1, t1, t2, d1, d2, simprocAttr]
     ·rw [tail hz, if_neg (by omega), if_neg (by omega)]
      obtain ⟨M, t3⟩ := plain_loop b.recs (by omega) H b.recs [] [.cells b.cs] rfl
      rw [g0] at t3
      unfold Ba.cs at t3
      cases ha : b.recs.any bigR
      ·rw [ha] at t3
       refine W_fn rfl rfl ?_
       simp only [go_sem, c_ref6_plain, List.length_map, c1, c2, eq_true c3, n1, t1, t2, d1, d2, t3, simprocAttr]
      ·rw [ha] at t3
       refine W_fn rfl rfl ?_
       simp only [go_sem, c_ref6_plain, List.length_map, c1, c2, eq_true c3, n1, t1, t2, d1, d2, t3, simprocAttr]
end Go.Abs
