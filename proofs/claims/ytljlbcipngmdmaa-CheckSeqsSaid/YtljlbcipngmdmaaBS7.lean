import Derived.Test.YtljlbcipngmdmaaBS6
import Derived.Test.YtljlbcipngmdmaaB0
set_option linter.unusedVariables false
set_option linter.unusedSimpArgs false
namespace Go.Abs
open Go Go.RowKit
theorem count_spec (b : Ba) (H : Heap) : W n_batch_Count [b.V] H = some (.int .i64 (countE b), H) := by
 unfold countE
 refine W_fn rfl rfl ?_
 unfold Ba.V Ba.cs
 by_cases c : b.mark = 0
 ·rw [if_pos c]; simp only [go_sem, c_batch_Count, c, List.length_map, simprocAttr]
 ·rw [if_neg c]; simp only [go_sem, c_batch_Count, c, simprocAttr]
theorem send_spec (b : Ba) (hb : Fit b) (H : Heap) : W n_segment_End [b.V] H = some (.int .i64 (b.base + countE b), H) := by
 have t : ∀ H, W n_batch_Count [b.V] H = some (.int .i64 (countE b), H) := fun H => count_spec b H
 have h1 := hb.base
 have h2 := hb.count
 have w : IntKind.i64.wrap (b.base + countE b) = b.base + countE b := wrap_id (by unfold I64; omega)
 unfold Ba.V Ba.cs at *
 refine W_fn rfl rfl ?_
 simp only [go_sem, c_segment_End, t, w, simprocAttr]
 first | done | rfl
theorem tbl_new_spec (H : Heap) : W n_table_New [] H = some (.ptr (pt H 1) 0, hx H [.map [], .cells [.map (some (pt H 0))]]) := by
 refine W_fnS rfl rfl ?_
 have f1 : ∀ k, fillN [AVal.map none] [(0, 1)] [AVal.map (some k)] = some [AVal.map (some k)] := fun k => rfl
 simp only [go_sem, c_table_New, f1, hx_len, hx_app, simprocAttr]
 first | done | rfl
set_option maxHeartbeats 1000000 in
theorem tcheck_spec (M : List Pr) (hM : ∀ p ∈ M, p.last.length ≤ 5) (b : Ba) (hb : BOK b) (hr : b.recs.length ≤ 1000) (i j : Nat) (H : Heap) (hi : Old H i (tblB j)) (hj : Old H j (mapB M)) :
  W n_table_Table_Check [.ptr i 0, b.V] H = some (.tuple [.int .i64 (mapCheck M b).1, .int .i64 (mapCheck M b).2], H) := by
 have tr := fun H => right_spec b hb H
 unfold mapCheck
 by_cases c1 : rightE b = 0
 ·rw [if_neg (by omega)]
  rw [c1] at tr
  by_cases c2 : b.prod = -1
  ·rw [if_pos (by omega)]
   unfold Ba.V Ba.cs at *
   refine W_fn rfl rfl ?_
   simp only [go_sem, c_table_Table_Check, tr, eq_true c2, simprocAttr]
   first | done | rfl
  ·have h3 := right_prod c1
   rw [if_neg (by omega)]
   have hq : ((getM b.prod M).getD zeroPr).last.length ≤ 1000 := by
    cases h : getM b.prod M with
    | none => simp [zeroPr]
    | some p => have := hM p (getM_mem h); simp only [Option.getD_some]; omega
   have lk := fun N => look_m b.prod M j (hx H N) (hj.get N)
   generalize (getM b.prod M).getD zeroPr = q at *
   generalize (getM b.prod M).isSome = known at *
   have tp := fun H => pcheck_spec q known b hq hr H
   have gi := hi.get
   generalize checkP q known b = R at *
   unfold Pr.V Pr.cs at *
   unfold Ba.V Ba.cs at *
   refine W_fn rfl rfl ?_
   simp only [go_sem, c_table_Table_Check, tr, c2, gi, lk, tp, simprocAttr]
   first | done | rfl
 ·rw [if_pos c1]
  unfold Ba.V Ba.cs at *
  refine W_fn rfl rfl ?_
  simp only [go_sem, c_table_Table_Check, tr, c1, simprocAttr]
  first | done | rfl
theorem may_spec (M : List Pr) (hM : ∀ p ∈ M, p.last.length ≤ 5) (b : Ba) (hb : BOK b) (hr : b.recs.length ≤ 1000) (i j : Nat) (H : Heap) (hi : Old H i (tblB j)) (hj : Old H j (mapB M)) (hc : mapCheck M b = (-1, 0)) :
  W n_check_may [.ptr i 0, b.V] H = some (.bool true, H) := by
 have t := fun N => tcheck_spec M hM b hb hr i j (hx H N) ⟨hi.get N⟩ ⟨hj.get N⟩
 rw [hc] at t
 unfold Ba.V Ba.cs at *
 refine W_fn rfl rfl ?_
 simp only [go_sem, c_check_may, t, simprocAttr]
 first | done | rfl
set_option maxHeartbeats 1000000 in
theorem crow_loop (L : List Ba) (hL : ∀ b ∈ L, Fit b) (hn : L.length ≤ 1000) (H : Heap) (r : List Ba) : ∀ (p : List Ba) (M : List Pr) (s : Int) (N : Heap), L = p ++ r → Ta p M → (∀ q ∈ M, q.last.length ≤ 5) → RowC s r → ChkC p r →
  ∃ N', loopA W loopW (.ghost (.kill k_check_Row_0) l_check_Row_0) [(0, .int .i64 s), (5, .ptr (pt H 1) 0), (9, .list 7 (L.map Ba.V) .ro), (10, .int .i64 (L.length : Nat)), (11, .int .i64 (p.length : Nat))] (hx H (mapB M :: tblB (pt H 0) :: N)) =
   some (.exit 0, [], hx H N') := by
 induction r with
 | nil =>
  intro p M s N hp ht hM hr hc
  rw [List.append_nil] at hp
  subst hp
  refine ⟨mapB M :: tblB (pt H 0) :: N, ?_⟩
  have h1 : ¬ ((L.length : Int) < (L.length : Int)) := by omega
  refine loop_step l_check_Row_0.eq_1 k_check_Row_0.eq_1 (by kernel_rfl) ?_
  simp only [go_sem, h1, simprocAttr]
 | cons b r ih =>
  intro p M s N hp ht hM hr hc
  have hb := hL b (by rw [hp]; simp)
  have hlen : L.length = p.length + (r.length + 1) := by rw [hp]; simp
  have h1 : ((p.length : Int) < (L.length : Int)) := by omega
  have e0 : (0 : Int) ≤ (p.length : Int) := by omega
  have e7 : ((p.length : Nat) : Int).toNat = p.length := by omega
  have e1 : (L.map Ba.V)[p.length]? = some (.agg [.int .i64 b.base, .int .i64 b.prod, .int .i64 b.epoch, .int .i64 b.seq, .bool b.txn, .int .i64 b.mark, .list 2 (b.recs.map rcV) .ro]) := by rw [hp]; simp [Ba.V, Ba.cs]
  have e6 : IntKind.i64.wrap ((p.length : Int) + 1) = ((p.length + 1 : Nat) : Int) := by rw [wrap_id (by unfold I64; omega)]; omega
  have n1 : ∀ x : Box, (N ++ [x])[N.length]? = some x := fun x => by simp
  have n2 : ∀ x z : Box, (N ++ [x]).set N.length z = N ++ [z] := fun x z => by simp
  have hbase := hr.1
  subst hbase
  have hpos : ∀ x ∈ p, 0 ≤ x.base := fun x hx => (hL x (by rw [hp]; exact List.mem_append_left _ hx)).base.1
  have hchk : mapCheck M b = (-1, 0) := by rw [ht.check b]; exact tabCheck_one hpos hc.1.1 hc.1.2
  have hrl : b.recs.length ≤ 1000 := by have := (rightE_small hb.right).1; omega
  have tm := fun N => may_spec M hM b hb.ok hrl (pt H 1) (pt H 0) (hx H (mapB M :: tblB (pt H 0) :: N)) ⟨by rw [hx_get]; rfl⟩ ⟨by rw [hx_get]; rfl⟩ hchk
  have ta := fun N => tbl_apply_spec M (fun q hq => by have := hM q hq; omega) b hb.ok hrl (pt H 1) (pt H 0) (hx H (mapB M :: tblB (pt H 0) :: N)) ⟨by rw [hx_get]; rfl⟩ ⟨by rw [hx_get]; rfl⟩
  simp only [hx_set, List.set_cons_zero] at ta
  have te := fun H => send_spec b hb H
  obtain ⟨N', h2⟩ := ih (p ++ [b]) (stepM M b) (b.base + countE b) (N ++ [.cells b.cs]) (by rw [hp]; simp) (ht.snoc b hb.right) (stepM_len hM b) hr.2 hc.2
  refine ⟨N', ?_⟩
  rw [List.length_append, List.length_singleton] at h2
  generalize stepM M b = M2 at *
  generalize laV (optLa (stepD M b)) = D at *
  generalize (stepD M b).isSome = D2 at *
  clear ih
  generalize L.map Ba.V = X at *
  unfold mapB tblB at *
  generalize M.map prE = M1 at *
  generalize M2.map prE = M3 at *
  unfold Ba.V Ba.cs at *
  refine loop_step l_check_Row_0.eq_1 k_check_Row_0.eq_1 (by kernel_rfl) ?_
  simp only [go_sem, h1, e0, e7, e1, n1, n2, tm, ta, te, e6, simprocAttr]
  exact h2
theorem crow_spec (L : List Ba) (hL : ∀ b ∈ L, Fit b) (hn : L.length ≤ 1000) (s : Int) (hr : RowC s L) (hc : ChkC [] L) (H : Heap) :
  W n_check_Row [.int .i64 s, .list 7 (L.map Ba.V) .ro] H = some (.bool true, H) := by
 obtain ⟨N', h2⟩ := crow_loop L hL hn H L [] [] s [] rfl Ta.nil (by simp) hr hc
 have tn := tbl_new_spec (hx H [])
 rw [hx_hx, pt_hx, pt_hx, List.nil_append, List.length_nil, Nat.zero_add, Nat.zero_add] at tn
 simp only [List.length_nil, Int.natCast_zero, mapB, tblB, List.map_nil] at h2
 refine W_fn rfl rfl ?_
 simp only [go_sem, c_check_Row, tn, List.length_map, h2, simprocAttr]
 first | done | rfl
theorem crow_no (b : Ba) (R : List AVal) (s : Int) (hs : b.base ≠ s) (H : Heap) :
  W n_check_Row [.int .i64 s, .list 7 (b.V :: R) .ro] H = some (.bool false, H) := by
 have tn := tbl_new_spec (hx H [])
 rw [hx_hx, pt_hx, pt_hx, List.nil_append, List.length_nil, Nat.zero_add, Nat.zero_add] at tn
 have h1 : ((0 : Int) < ((R.length + 1 : Nat) : Int)) := by omega
 unfold Ba.V Ba.cs at *
 have t : loopA W loopW (.ghost (.kill k_check_Row_0) l_check_Row_0) [(0, .int .i64 s), (5, .ptr (pt H 1) 0), (9, .list 7 (.agg [.int .i64 b.base, .int .i64 b.prod, .int .i64 b.epoch, .int .i64 b.seq, .bool b.txn, .int .i64 b.mark, .list 2 (b.recs.map rcV) .ro] :: R) .ro), (10, .int .i64 ((R.length + 1 : Nat) : Int)), (11, .int .i64 0)] (hx H [.map [], .cells [.map (some (pt H 0))]]) =
   some (.ret, [(4, .bool false)], hx H [.map [], .cells [.map (some (pt H 0))], .cells [.int .i64 b.base, .int .i64 b.prod, .int .i64 b.epoch, .int .i64 b.seq, .bool b.txn, .int .i64 b.mark, .list 2 (b.recs.map rcV) .ro]]) := by
  refine loop_step l_check_Row_0.eq_1 k_check_Row_0.eq_1 (by kernel_rfl) ?_
  simp only [go_sem, h1, hs, simprocAttr]
  first | done | rfl
 refine W_fn rfl rfl ?_
 simp only [go_sem, c_check_Row, tn, List.length_cons, t, simprocAttr]
 first | done | rfl
theorem bsame_no (b c : Ba) (h : b.base ≠ c.base) (H : Heap) : W n_batch_Same [b.V, c.V] H = some (.bool false, H) := by
 unfold Ba.V Ba.cs
 refine W_fn rfl rfl ?_
 simp only [go_sem, c_batch_Same, h, simprocAttr]
 first | done | rfl
theorem begins_no (b c : Ba) (R Q : List AVal) (hl : R.length = Q.length) (h : b.base ≠ c.base) (H : Heap) : W n_check_Begins [.list 7 (b.V :: R) .ro, .list 7 (c.V :: Q) .ro] H = some (.bool false, H) := by
 have ts := fun H => bsame_no b c h H
 have h1 : ((0 : Int) < ((R.length + 1 : Nat) : Int)) := by omega
 have h2 : ¬ (((R.length + 1 : Nat) : Int) > ((Q.length + 1 : Nat) : Int)) := by omega
 have t : ∀ H, loopA W loopW (.ghost (.kill k_check_Begins_0) l_check_Begins_0) [(0, .list 7 (b.V :: R) .ro), (1, .list 7 (c.V :: Q) .ro), (12, .int .i64 ((R.length + 1 : Nat) : Int)), (13, .int .i64 0)] H = some (.ret, [(4, .bool false)], H) := fun H => by
  unfold Ba.V Ba.cs at *
  refine loop_step l_check_Begins_0.eq_1 k_check_Begins_0.eq_1 (by kernel_rfl) ?_
  simp only [go_sem, h1, ts, simprocAttr]
  first | done | rfl
 unfold Ba.V Ba.cs at *
 refine W_fn rfl rfl ?_
 simp only [go_sem, c_check_Begins, List.length_cons, h2, t, simprocAttr]
 first | done | rfl
def mineB (id ep : Int) (b : Ba) : Bool := decide (b.mark = 0) && (decide (b.prod = id) && decide (b.epoch = ep))
def seqsL (id ep : Int) (L : List Ba) : List Int := (L.filter (mineB id ep)).map Ba.seq
theorem seqsL_app (id ep : Int) (A B : List Ba) : seqsL id ep (A ++ B) = seqsL id ep A ++ seqsL id ep B := by
 unfold seqsL; rw [List.filter_append, List.map_append]
theorem seqsL_len (id ep : Int) (A : List Ba) : (seqsL id ep A).length ≤ A.length := by
 unfold seqsL; rw [List.length_map]; exact List.length_filter_le _ _
theorem seqsL_yes {id ep : Int} {b : Ba} (h : mineB id ep b = true) (r : List Ba) : seqsL id ep (b :: r) = b.seq :: seqsL id ep r := by
 unfold seqsL; rw [List.filter_cons, if_pos h]; rfl
theorem seqsL_no {id ep : Int} {b : Ba} (h : ¬ mineB id ep b = true) (r : List Ba) : seqsL id ep (b :: r) = seqsL id ep r := by
 unfold seqsL; rw [List.filter_cons, if_neg h]
theorem mineB_iff {id ep : Int} {b : Ba} : mineB id ep b = true ↔ b.mark = 0 ∧ b.prod = id ∧ b.epoch = ep := by
 unfold mineB; simp
set_option maxHeartbeats 1000000 in
theorem seqs_loop (L : List Ba) (hn : L.length ≤ 1000) (id ep : Int) (H : Heap) (r : List Ba) : ∀ (p : List Ba) (out : List Int) (fl : Fl) (N : Heap), L = p ++ r → out.length ≤ p.length → (fl = .own ∨ (fl = .full ∧ out = [])) →
  ∃ N' fl', loopA W loopW (.ghost (.kill k_check_Seqs_0) l_check_Seqs_0) [(1, .int .i64 id), (2, .int .i64 ep), (7, .list 1 (ints .i64 out) fl), (10, .list 7 (L.map Ba.V) .ro), (11, .int .i64 (L.length : Nat)), (12, .int .i64 (p.length : Nat))] (hx H N) =
   some (.exit 0, [(7, .list 1 (ints .i64 (out ++ seqsL id ep r)) fl')], hx H N') ∧ (fl' = .own ∨ (fl' = .full ∧ out ++ seqsL id ep r = [])) := by
 induction r with
 | nil =>
  intro p out fl N hp ho hfl
  rw [List.append_nil] at hp
  subst hp
  rw [show seqsL id ep [] = [] from rfl, List.append_nil]
  refine ⟨N, fl, ?_, hfl⟩
  have h1 : ¬ ((L.length : Int) < (L.length : Int)) := by omega
  refine loop_step l_check_Seqs_0.eq_1 k_check_Seqs_0.eq_1 (by kernel_rfl) ?_
  simp only [go_sem, h1, simprocAttr]
 | cons b r ih =>
  intro p out fl N hp ho hfl
  have hlen : L.length = p.length + (r.length + 1) := by rw [hp]; simp
  have h1 : ((p.length : Int) < (L.length : Int)) := by omega
  have e0 : (0 : Int) ≤ (p.length : Int) := by omega
  have e7 : ((p.length : Nat) : Int).toNat = p.length := by omega
  have e1 : (L.map Ba.V)[p.length]? = some (.agg [.int .i64 b.base, .int .i64 b.prod, .int .i64 b.epoch, .int .i64 b.seq, .bool b.txn, .int .i64 b.mark, .list 2 (b.recs.map rcV) .ro]) := by rw [hp]; simp [Ba.V, Ba.cs]
  have e6 : IntKind.i64.wrap ((p.length : Int) + 1) = ((p.length + 1 : Nat) : Int) := by rw [wrap_id (by unfold I64; omega)]; omega
  have n1 : ∀ x : Box, (N ++ [x])[N.length]? = some x := fun x => by simp
  have n2 : ∀ x z : Box, (N ++ [x]).set N.length z = N ++ [z] := fun x z => by simp
  have key := ih (p ++ [b])
  simp only [List.length_append, List.length_cons, List.length_nil, Nat.zero_add] at key
  clear ih
  by_cases c : mineB id ep b = true
  ·have c' := mineB_iff.1 c
   obtain ⟨N', fl', k1, k2⟩ := key (out ++ [b.seq]) .own (N ++ [.cells b.cs]) (by rw [hp]; simp) (by simp; omega) (.inl rfl)
   rw [seqsL_yes c, show out ++ b.seq :: seqsL id ep r = (out ++ [b.seq]) ++ seqsL id ep r by simp]
   refine ⟨N', fl', ?_, k2⟩
   generalize (out ++ [b.seq]) ++ seqsL id ep r = Q at *
   have e8 : ints .i64 out ++ [.int .i64 b.seq] = ints .i64 (out ++ [b.seq]) := by simp
   have b1 : (out.length + 1) * 8 ≤ maxBytes := by simp only [maxBytes]; omega
   have b2 : (0 + 1) * 8 ≤ maxBytes := by decide
   unfold Ba.cs at *
   have c1 := c'.1
   have c2 := c'.2.1
   have c3 := c'.2.2
   refine loop_step l_check_Seqs_0.eq_1 k_check_Seqs_0.eq_1 (by kernel_rfl) ?_
   rcases hfl with rfl | ⟨rfl, rfl⟩
   ·generalize out ++ [b.seq] = out2 at *
    simp only [go_sem, h1, e0, e7, e1, n1, n2, eq_true c1, eq_true c2, eq_true c3, apO, List.length_map, b1, e8, e6, simprocAttr]
    exact k1
   ·simp only [List.nil_append] at *
    simp only [go_sem, h1, e0, e7, e1, n1, n2, eq_true c1, eq_true c2, eq_true c3, apF, List.length_nil, List.nil_append, List.map_nil, b2, e6, simprocAttr]
    exact k1
  ·obtain ⟨N', fl', k1, k2⟩ := key out fl (N ++ [.cells b.cs]) (by rw [hp]; simp) (by omega) hfl
   rw [seqsL_no c]
   refine ⟨N', fl', ?_, k2⟩
   generalize out ++ seqsL id ep r = Q at *
   have c' : ¬ (b.mark = 0 ∧ b.prod = id ∧ b.epoch = ep) := fun h => c (mineB_iff.2 h)
   unfold Ba.cs at *
   refine loop_step l_check_Seqs_0.eq_1 k_check_Seqs_0.eq_1 (by kernel_rfl) ?_
   by_cases c1 : b.mark = 0
   ·by_cases c2 : b.prod = id
    ·have c3 : ¬ b.epoch = ep := fun h => c' ⟨c1, c2, h⟩
     simp only [go_sem, h1, e0, e7, e1, n1, n2, eq_true c1, eq_true c2, c3, e6, simprocAttr]
     exact k1
    ·simp only [go_sem, h1, e0, e7, e1, n1, n2, eq_true c1, c2, e6, simprocAttr]
     exact k1
   ·simp only [go_sem, h1, e0, e7, e1, n1, n2, c1, e6, simprocAttr]
    exact k1
theorem seqs_spec (L : List Ba) (hn : L.length ≤ 1000) (id ep : Int) (H : Heap) :
  ∃ fl, W n_check_Seqs [.list 7 (L.map Ba.V) .ro, .int .i64 id, .int .i64 ep] H = some (.list 1 (ints .i64 (seqsL id ep L)) fl, H) ∧ (fl = .own ∨ fl = .full) := by
 obtain ⟨N', fl', h2, hf⟩ := seqs_loop L hn id ep H L [] [] .full [] rfl (by simp) (.inr ⟨rfl, rfl⟩)
 simp only [List.length_nil, Int.natCast_zero, List.map_nil, List.nil_append] at h2 hf
 have hf' : fl' = .own ∨ fl' = .full := by rcases hf with h | ⟨h, _⟩ <;> simp [h]
 refine ⟨fl', ?_, hf'⟩
 clear hf
 have u1 : ∀ (n : Nat) (m : List Int), AVal.underL n (ints .i64 m) = true := fun n m => uL_map n (AVal.int .i64) (fun _ => rfl) m
 generalize seqsL id ep L = Q at *
 refine W_fn rfl rfl ?_
 rcases hf' with rfl | rfl
 all_goals
  simp only [go_sem, c_check_Seqs, List.length_map, h2, u1, simprocAttr]
  first | done | rfl
set_option maxHeartbeats 1000000 in
theorem cs0_loop (L : List Ba) (hn : L.length ≤ 1000) (f3 : Fl) (hf3 : f3 = .ro ∨ f3 = .full) (id ep : Int) (fl : Fl) (hfl : fl = .own ∨ fl = .full) (H : Heap) (r : List Ba) : ∀ (p : List Ba) (N : Heap), L = p ++ r →
  ∃ N', loopA W loopW (.ghost (.kill k_law23_CheckSeqs_0) l_law23_CheckSeqs_0) [(3, .list 7 (L.map Ba.V) f3), (4, .int .i64 id), (5, .int .i64 ep), (6, .list 1 (ints .i64 (seqsL id ep L)) fl), (7, .int .i64 ((seqsL id ep p).length : Nat)), (25, .list 7 (L.map Ba.V) f3), (26, .int .i64 (L.length : Nat)), (27, .int .i64 (p.length : Nat))] (hx H N) =
   some (.exit 4, [(3, .list 7 (L.map Ba.V) f3), (4, .int .i64 id), (5, .int .i64 ep), (6, .list 1 (ints .i64 (seqsL id ep L)) fl), (7, .int .i64 ((seqsL id ep L).length : Nat))], hx H N') := by
 induction r with
 | nil =>
  intro p N hp
  rw [List.append_nil] at hp
  subst hp
  refine ⟨N, ?_⟩
  have h1 : ¬ ((L.length : Int) < (L.length : Int)) := by omega
  refine loop_step l_law23_CheckSeqs_0.eq_1 k_law23_CheckSeqs_0.eq_1 (by kernel_rfl) ?_
  simp only [go_sem, h1, simprocAttr]
 | cons b r ih =>
  intro p N hp
  have hlen : L.length = p.length + (r.length + 1) := by rw [hp]; simp
  have h1 : ((p.length : Int) < (L.length : Int)) := by omega
  have e0 : (0 : Int) ≤ (p.length : Int) := by omega
  have e7 : ((p.length : Nat) : Int).toNat = p.length := by omega
  have e1 : (L.map Ba.V)[p.length]? = some (.agg [.int .i64 b.base, .int .i64 b.prod, .int .i64 b.epoch, .int .i64 b.seq, .bool b.txn, .int .i64 b.mark, .list 2 (b.recs.map rcV) .ro]) := by rw [hp]; simp [Ba.V, Ba.cs]
  have e6 : IntKind.i64.wrap ((p.length : Int) + 1) = ((p.length + 1 : Nat) : Int) := by rw [wrap_id (by unfold I64; omega)]; omega
  have n1 : ∀ x : Box, (N ++ [x])[N.length]? = some x := fun x => by simp
  have n2 : ∀ x z : Box, (N ++ [x]).set N.length z = N ++ [z] := fun x z => by simp
  obtain ⟨N', k1⟩ := ih (p ++ [b]) (N ++ [.cells b.cs]) (by rw [hp]; simp)
  refine ⟨N', ?_⟩
  clear ih
  have hsl := seqsL_len id ep p
  have hs : seqsL id ep L = seqsL id ep p ++ seqsL id ep (b :: r) := by rw [hp, seqsL_app]
  have hs2 : seqsL id ep (p ++ [b]) = seqsL id ep p ++ seqsL id ep [b] := seqsL_app _ _ _ _
  rw [List.length_append, List.length_singleton, hs2] at k1
  by_cases c : mineB id ep b = true
  ·have c' := mineB_iff.1 c
   rw [seqsL_yes c] at hs
   rw [seqsL_yes c, show seqsL id ep [] = [] from rfl, List.length_append, List.length_singleton] at k1
   have s1 : (ints .i64 (seqsL id ep L))[(seqsL id ep p).length]? = some (.int .i64 b.seq) := by rw [hs]; simp
   have s2 : ((seqsL id ep p).length : Int) < ((seqsL id ep L).length : Int) := by rw [hs]; simp; omega
   have s3 : ¬ (((seqsL id ep p).length : Int) ≥ ((seqsL id ep L).length : Int)) := by omega
   have s4 : (0 : Int) ≤ ((seqsL id ep p).length : Int) := by omega
   have s5 : (((seqsL id ep p).length : Nat) : Int).toNat = (seqsL id ep p).length := by omega
   have s6 : IntKind.i64.wrap (((seqsL id ep p).length : Int) + 1) = (((seqsL id ep p).length + 1 : Nat) : Int) := by rw [wrap_id (by unfold I64; omega)]; omega
   clear hs hs2
   generalize seqsL id ep L = S at *
   generalize (seqsL id ep p).length = q at *
   unfold Ba.cs at *
   have c1 := c'.1
   have c2 := c'.2.1
   have c3 := c'.2.2
   refine loop_step l_law23_CheckSeqs_0.eq_1 k_law23_CheckSeqs_0.eq_1 (by kernel_rfl) ?_
   rcases hfl with rfl | rfl <;> rcases hf3 with rfl | rfl
   all_goals
    simp only [go_sem, h1, e0, e7, e1, n1, n2, eq_true c1, eq_true c2, eq_true c3, List.length_map, s1, s2, s3, s4, s5, s6, e6, simprocAttr]
    exact k1
  ·rw [seqsL_no c, show seqsL id ep [] = [] from rfl, List.append_nil] at k1
   clear hs hs2
   generalize seqsL id ep L = S at *
   generalize (seqsL id ep p).length = q at *
   have c' : ¬ (b.mark = 0 ∧ b.prod = id ∧ b.epoch = ep) := fun h => c (mineB_iff.2 h)
   unfold Ba.cs at *
   refine loop_step l_law23_CheckSeqs_0.eq_1 k_law23_CheckSeqs_0.eq_1 (by kernel_rfl) ?_
   by_cases c1 : b.mark = 0
   ·by_cases c2 : b.prod = id
    ·have c3 : ¬ b.epoch = ep := fun h => c' ⟨c1, c2, h⟩
     rcases hf3 with rfl | rfl
     all_goals
      simp only [go_sem, h1, e0, e7, e1, n1, n2, eq_true c1, eq_true c2, c3, List.length_map, e6, simprocAttr]
      exact k1
    ·rcases hf3 with rfl | rfl
     all_goals
      simp only [go_sem, h1, e0, e7, e1, n1, n2, eq_true c1, c2, List.length_map, e6, simprocAttr]
      exact k1
   ·rcases hf3 with rfl | rfl
    all_goals
     simp only [go_sem, h1, e0, e7, e1, n1, n2, c1, List.length_map, e6, simprocAttr]
     exact k1
theorem cs1_loop (L : List Ba) (hn : L.length ≤ 1000) (f3 : Fl) (hf3 : f3 = .ro ∨ f3 = .full) (id : Int) (H : Heap) (d : Nat) : ∀ (ep : Int) (N : Heap), 0 ≤ ep → ep + d = 3 →
  ∃ N', loopA W loopW (.ghost (.kill k_law23_CheckSeqs_1) l_law23_CheckSeqs_1) [(3, .list 7 (L.map Ba.V) f3), (4, .int .i64 id), (5, .int .i64 ep)] (hx H N) = some (.exit 2, [(3, .list 7 (L.map Ba.V) f3), (4, .int .i64 id)], hx H N') := by
 induction d with
 | zero =>
  intro ep N h0 hd
  refine ⟨N, ?_⟩
  have c : ¬ (ep < 3) := by omega
  refine loop_step l_law23_CheckSeqs_1.eq_1 k_law23_CheckSeqs_1.eq_1 (by kernel_rfl) ?_
  simp only [go_sem, c, simprocAttr]
 | succ d ih =>
  intro ep N h0 hd
  have c : ep < 3 := by omega
  have e6 : IntKind.i64.wrap (ep + 1) = ep + 1 := wrap_id (by unfold I64; omega)
  obtain ⟨fl, ts, hf⟩ := seqs_spec L hn id ep (hx H N)
  obtain ⟨N1, h1⟩ := cs0_loop L hn f3 hf3 id ep fl hf H L [] N rfl
  simp only [show seqsL id ep [] = [] from rfl, List.length_nil, Int.natCast_zero] at h1
  obtain ⟨N2, h2⟩ := ih (ep + 1) N1 (by omega) (by omega)
  refine ⟨N2, ?_⟩
  clear ih
  generalize seqsL id ep L = S at *
  refine loop_step l_law23_CheckSeqs_1.eq_1 k_law23_CheckSeqs_1.eq_1 (by kernel_rfl) ?_
  rcases hf3 with rfl | rfl <;> rcases hf with rfl | rfl
  all_goals
   simp only [go_sem, c, ts, List.length_map, h1, e6, simprocAttr]
   exact h2
theorem cs2_loop (L : List Ba) (hn : L.length ≤ 1000) (f3 : Fl) (hf3 : f3 = .ro ∨ f3 = .full) (H : Heap) (d : Nat) : ∀ (id : Int) (N : Heap), 0 ≤ id → id + d = 3 →
  ∃ N', loopA W loopW (.ghost (.kill k_law23_CheckSeqs_2) l_law23_CheckSeqs_2) [(3, .list 7 (L.map Ba.V) f3), (4, .int .i64 id)] (hx H N) = some (.exit 0, [(3, .list 7 (L.map Ba.V) f3)], hx H N') := by
 induction d with
 | zero =>
  intro id N h0 hd
  refine ⟨N, ?_⟩
  have c : ¬ (id < 3) := by omega
  refine loop_step l_law23_CheckSeqs_2.eq_1 k_law23_CheckSeqs_2.eq_1 (by kernel_rfl) ?_
  simp only [go_sem, c, simprocAttr]
 | succ d ih =>
  intro id N h0 hd
  have c : id < 3 := by omega
  have e6 : IntKind.i64.wrap (id + 1) = id + 1 := wrap_id (by unfold I64; omega)
  obtain ⟨N1, h1⟩ := cs1_loop L hn f3 hf3 id H 3 0 N (by omega) (by omega)
  obtain ⟨N2, h2⟩ := ih (id + 1) N1 (by omega) (by omega)
  refine ⟨N2, ?_⟩
  clear ih
  refine loop_step l_law23_CheckSeqs_2.eq_1 k_law23_CheckSeqs_2.eq_1 (by kernel_rfl) ?_
  simp only [go_sem, c, h1, e6, simprocAttr]
  exact h2
theorem cs_ap (ys : List AVal) : evAppend 7 72 true (.list 7 [] .full) ys = gd (decide (ys.length * 72 ≤ maxBytes)) (some (.list 7 ys .uniq)) := by
 unfold evAppend gd
 by_cases h : ys.length * 72 ≤ maxBytes <;> simp [h]
theorem cs_thaw (Xs : List AVal) (e : Env) (H N : Heap) (h1 : Env.get e 10 = .list 7 Xs .uniq) :
  agh (.thaw 10) e (hx H N) = some (e.put 10 (.lbox (pt H N.length)), hx H (N ++ [.arr 7 Xs])) := by
 have hl : (hx H N).length = pt H N.length := hx_len H N
 simp only [agh, h1, hl, hx_app]
theorem cs_back (Xs : List AVal) (e : Env) (H N : Heap) (h1 : Env.get e 10 = .lbox (pt H N.length)) :
  agh (.back 10) e (hx H (N ++ [.arr 7 Xs])) = some (e.put 10 (.list 7 Xs .uniq), hx H (N ++ [.dead])) := by
 have g : (hx H (N ++ [.arr 7 Xs]))[pt H N.length]? = some (.arr 7 Xs) := by rw [hx_get]; simp
 have g2 : (N ++ [Box.arr 7 Xs]).set N.length .dead = N ++ [.dead] := by simp
 simp only [agh, h1, g, hx_set, g2]
theorem cs_fz (Xs : List AVal) (e : Env) (H : Heap) (h1 : Env.get e 10 = .list 7 Xs .uniq) : agh (.freeze 10) e H = some (e.put 10 (.list 7 Xs .own), H) := by
 simp only [agh, h1]
set_option maxHeartbeats 2000000 in
theorem cs_spec (t : List Int) (ht : ∀ x ∈ t, I64 x) (hl : t.length * 8 ≤ 140737488351232) :
  W n_law23_CheckSeqs [.list 1 (ints .i64 t) .ro] [] = some (.bool true, []) := by
 obtain ⟨f, t1, hf⟩ := row_spec t (by omega) 0 (by omega) (by omega) 20 (by decide) (hx [] [])
 simp only [Int.cast_ofNat_Int] at t1
 have hri := row_ri t (by omega) 0 (by omega) (by omega) 20
 have hfit : ∀ b ∈ rowOf t 0 20, Fit b := hri.fit
 have hlen : (rowOf t 0 20).length ≤ 20 := hri.len
 have hrow := row_rowC t 0 20
 have hchk := row_chk t 0 20
 clear hri
 generalize rowOf t 0 20 = L at *
 have hf' : f = .ro ∨ f = .full := by rcases hf with h | ⟨h, _⟩ <;> simp [h]
 clear hf
 obtain ⟨N, t2⟩ := cs2_loop L (by omega) f hf' [] 3 0 [] (by omega) (by omega)
 have tr := fun H => crow_spec L hfit (by omega) 0 hrow hchk H
 have kn := known_spec
 have u4 := fun k => under_bas k L
 by_cases c : (L.length : Int) > 1
 ·rcases L with _ | ⟨x, _ | ⟨y, R⟩⟩
  ·simp at c
  ·simp at c
  ·have hxy : y.base ≠ x.base ∧ y.base ≠ 0 := by
    have h1 := hrow.1
    have h2 := hrow.2.1
    have h3 := countE_pos (hfit x (by simp))
    omega
   have tn := fun H => crow_no y (x.V :: R.map Ba.V) 0 hxy.2 H
   have tb := fun H => begins_no y x (x.V :: R.map Ba.V) (y.V :: R.map Ba.V) (by simp) hxy.1 H
   have n1 : ∀ z : Box, (N ++ [z])[N.length]? = some z := fun z => by simp
   have n2 : ∀ z w : Box, (N ++ [z]).set N.length w = N ++ [w] := fun z w => by simp
   have th := fun A X => cs_thaw X [(3, A), (10, .list 7 X .uniq)] [] N rfl
   have bk := fun A X => cs_back X [(3, A), (10, .lbox (pt [] N.length))] [] N rfl
   have fz := fun A X => cs_fz X [(3, A), (10, .list 7 X .uniq)] (hx [] (N ++ [.dead])) rfl
   simp only [List.map_cons] at *
   have hRl : (R.map Ba.V).length ≤ 20 := by simp only [List.length_cons] at hlen; rw [List.length_map]; omega
   generalize R.map Ba.V = R' at *
   have b1 : (R'.length + 1 + 1) * 72 ≤ maxBytes := by simp only [maxBytes]; omega
   have i0 : (0 : Int) < ((R'.length + 1 + 1 : Nat) : Int) := by omega
   have i1 : (1 : Int) < ((R'.length + 1 + 1 : Nat) : Int) := by omega
   have c' : ((R'.length + 1 + 1 : Nat) : Int) > 1 := by omega
   unfold Ba.V Ba.cs at *
   refine W_fn rfl rfl ?_
   rcases hf' with rfl | rfl
   all_goals
    simp only [go_sem, c_law23_CheckSeqs, t1, t2, c', i0, i1, th, bk, fz, cs_ap, b1, n1, n2, List.length_cons, List.length_map, tn, tb, tr, kn, simprocAttr]
    first | done | rfl
 ·refine W_fn rfl rfl ?_
  rcases hf' with rfl | rfl
  all_goals
   simp only [go_sem, c_law23_CheckSeqs, t1, t2, c, List.length_map, tr, kn, u4, simprocAttr]
   first | done | rfl
end Go.Abs
