import Derived.Test.YtljlbcipngmdmaaGreatBS4
set_option linter.unusedVariables false
set_option linter.unusedSimpArgs false
namespace Go.Abs
open Go Go.RowKit
theorem count_spec (b : Ba) (H : Heap) : W n_batch_Count [b.V] H = some (.int .i64 (if b.mark = 0 then (b.recs.length : Int) else 1), H) := by
 refine W_fn rfl rfl ?_
 unfold Ba.V Ba.cs
 by_cases c : b.mark = 0
 ·rw [if_pos c]; simp only [go_sem, c_batch_Count, c, List.length_map, simprocAttr]
 ·rw [if_neg c]; simp only [go_sem, c_batch_Count, c, simprocAttr]
def endB (b : Ba) : Int := b.base + countE b
theorem send_spec (b : Ba) (hb : Fit b) (H : Heap) : W n_segment_End [b.V] H = some (.int .i64 (endB b), H) := by
 have t : ∀ H, W n_batch_Count [b.V] H = some (.int .i64 (countE b), H) := fun H => count_spec b H
 have h1 := hb.base
 have h2 := hb.count
 have w : IntKind.i64.wrap (b.base + countE b) = endB b := wrap_id (by unfold I64; omega)
 unfold Ba.V Ba.cs at *
 refine W_fn rfl rfl ?_
 simp only [go_sem, c_segment_End, t, w, simprocAttr]
theorem next_spec9 (l : List Ba) (hl : ∀ b ∈ l, Fit b) (hn : l.length ≤ 1000000) (base : Int) (H : Heap) : W n_segment_Next [.list 7 (l.map Ba.V) .ro, .int .i64 base] H = some (.int .i64 (endE base l), H) := by
 rcases List.eq_nil_or_concat l with rfl | ⟨l', x, h⟩
 ·rw [show endE base [] = base from rfl]
  refine W_fn0 rfl rfl ?_
  simp only [go_sem, trim_same, c_segment_Next, List.map_nil, List.length_nil, Int.natCast_zero, simprocAttr]
 ·rw [List.concat_eq_append] at h
  have hx := hl x (by rw [h]; simp)
  have t := fun H => send_spec x hx H
  have e : endE base l = endB x := by unfold endE endB; rw [h]; simp
  have hln : l.length = l'.length + 1 := by rw [h]; simp
  have h1 : ¬ ((l.length : Int) = 0) := by omega
  have w1 : IntKind.i64.wrap ((l.length : Int) - 1) = ((l'.length : Nat) : Int) := by rw [wrap_id (by unfold I64; omega)]; omega
  have e0 : (0 : Int) ≤ ((l'.length : Nat) : Int) := by omega
  have e7 : ((l'.length : Nat) : Int).toNat = l'.length := by omega
  have e1 : (l.map Ba.V)[l'.length]? = some (.agg [.int .i64 x.base, .int .i64 x.prod, .int .i64 x.epoch, .int .i64 x.seq, .bool x.txn, .int .i64 x.mark, .list 2 (x.recs.map rcV) .ro]) := by rw [h]; simp [Ba.V, Ba.cs]
  rw [e]
  unfold Ba.V Ba.cs at t
  refine W_fn0 rfl rfl ?_
  simp only [go_sem, trim_same, c_segment_Next, List.length_map, h1, w1, e0, e7, e1, t, simprocAttr]
theorem fend_spec (l : List Ba) (hl : ∀ b ∈ l, Fit b) (hn : l.length ≤ 1000000) (base : Int) (H : Heap) : W n_fold_End [.int .i64 base, .list 7 (l.map Ba.V) .ro] H = some (.int .i64 (endE base l), H) := by
 have t := fun H => next_spec9 l hl hn base H
 refine W_fn0 rfl rfl ?_
 simp only [go_sem, trim_same, c_fold_End, t, simprocAttr]
abbrev Gt := Int × Int × Rc
def gV (g : Gt) : AVal := .agg [.int .i64 g.1, .int .i64 g.2.1, .str g.2.2.1, .str g.2.2.2]
theorem under_g (n : Nat) (l : List Gt) : AVal.underL n (l.map gV) = true := uL_map n gV (fun _ => rfl) l
theorem clip_got (xs : List AVal) (fl : Fl) (hf : fl = .ro ∨ fl = .own ∨ fl = .full ∨ fl = .uniq) (H : Heap) : W n_slices_Clip_api_Got_api_Got_ [.list 4 xs fl] H = some (.list 4 xs .full, H) := by
 have f1 : ∀ (e : Env) (H : Heap) (fl : Fl), Env.get e 0 = .list 4 xs fl → fl ≠ .uniq → agh (.freeze 0) e H = some (e, H) := fun e H fl h hn => by
  cases fl <;> first | exact absurd rfl hn | simp only [agh, h]
 have f2 : ∀ (e : Env) (H : Heap), Env.get e 0 = .list 4 xs .uniq → agh (.freeze 0) e H = some (e.put 0 (.list 4 xs .own), H) := fun e H h => by simp only [agh, h]
 have f3 : ∀ H, agh (.freeze 0) [(0, .list 4 xs .ro)] H = some ([(0, .list 4 xs .ro)], H) := fun H => f1 _ H .ro rfl (by simp)
 have f4 : ∀ H, agh (.freeze 0) [(0, .list 4 xs .own)] H = some ([(0, .list 4 xs .own)], H) := fun H => f1 _ H .own rfl (by simp)
 have f5 : ∀ H, agh (.freeze 0) [(0, .list 4 xs .full)] H = some ([(0, .list 4 xs .full)], H) := fun H => f1 _ H .full rfl (by simp)
 have f6 : ∀ H, agh (.freeze 0) [(0, .list 4 xs .uniq)] H = some ([(0, .list 4 xs .own)], H) := fun H => f2 _ H rfl
 refine W_fn0 rfl rfl ?_
 rcases hf with rfl | rfl | rfl | rfl <;> simp only [go_sem, trim_same, c_slices_Clip_api_Got_api_Got_, f3, f4, f5, f6, sl_clip, simprocAttr]
def recsF (b : Ba) (lo hi : Int) : Int → List Rc → List Gt
 | _, [] => []
 | i, r :: rs => if b.base + i ≥ lo ∧ b.base + i < hi then (b.base + i, b.prod, r) :: recsF b lo hi (i + 1) rs else recsF b lo hi (i + 1) rs
def recB (b : Ba) (lo hi : Int) : List Gt := if b.mark = 0 then recsF b lo hi 0 b.recs else []
def recordsL (lo hi : Int) : List Ba → List Gt
 | [] => []
 | b :: L => recB b lo hi ++ recordsL lo hi L
theorem recsF_len (b lo hi) : ∀ (rs : List Rc) (i : Int), (recsF b lo hi i rs).length ≤ rs.length
 | [], _ => by simp [recsF]
 | r :: rs, i => by
  unfold recsF
  have := recsF_len b lo hi rs (i + 1)
  split <;> simp <;> omega
theorem frecs_loop (b : Ba) (hb : Fit b) (lo hi : Int) (X : AVal) (n m : Int) (k : Nat) (H : Heap) (r : List Rc) : ∀ (p : List Rc) (out : List Gt) (fl : Fl) (N : Heap), b.recs = p ++ r → out.length ≤ 100000 + p.length →
  N[k]? = some (.cells b.cs) → (fl = .own ∨ (fl = .full ∧ out = [])) →
  ∃ N' fl', loopA W loopW (.ghost (.kill k_fold_Records_0) l_fold_Records_0) [(2, .int .i64 lo), (3, .int .i64 hi), (9, .list 4 (out.map gV) fl), (11, .ptr (pt H k) 0), (15, X), (16, .int .i64 n), (17, .int .i64 m), (25, .list 2 (b.recs.map rcV) .ro), (26, .int .i64 (b.recs.length : Nat)), (27, .int .i64 (p.length : Nat))] (hx H N) =
   some (.exit 2, [(2, .int .i64 lo), (3, .int .i64 hi), (9, .list 4 ((out ++ recsF b lo hi (p.length : Nat) r).map gV) fl'), (15, X), (16, .int .i64 n), (17, .int .i64 m)], hx H N') ∧ (fl' = .own ∨ (fl' = .full ∧ out ++ recsF b lo hi (p.length : Nat) r = [])) := by
 induction r with
 | nil =>
  intro p out fl N hp ho hk hfl
  rw [List.append_nil] at hp
  refine ⟨N, fl, ?_, ?_⟩
  ·have h1 : ¬ ((p.length : Int) < (p.length : Int)) := by omega
   rw [hp]
   rw [show recsF b lo hi (p.length : Nat) [] = [] from rfl, List.append_nil]
   refine loop_step l_fold_Records_0.eq_1 k_fold_Records_0.eq_1 (by kernel_rfl) ?_
   simp only [go_sem, h1, simprocAttr]
  ·rw [show recsF b lo hi (p.length : Nat) [] = [] from rfl, List.append_nil]; exact hfl
 | cons a r ih =>
  intro p out fl N hp ho hk hfl
  have hsm := (rightE_small hb.right).1
  have hbase := hb.base
  have hlen : b.recs.length = p.length + (r.length + 1) := by rw [hp]; simp
  have h1 : ((p.length : Int) < (b.recs.length : Int)) := by omega
  have e0 : (0 : Int) ≤ (p.length : Int) := by omega
  have e7 : ((p.length : Nat) : Int).toNat = p.length := by omega
  have e1 : (b.recs.map rcV)[p.length]? = some (.agg [.str a.1, .str a.2]) := by rw [hp]; simp [rcV]
  have e6 : IntKind.i64.wrap ((p.length : Int) + 1) = ((p.length + 1 : Nat) : Int) := by rw [wrap_id (by unfold I64; omega)]; omega
  have w1 : IntKind.i64.wrap (b.base + (p.length : Int)) = b.base + (p.length : Int) := wrap_id (by unfold I64; omega)
  have n0 : k < N.length := (List.getElem?_eq_some_iff.1 hk).1
  have n3 : (N ++ [.cells [.str a.1, .str a.2]])[k]? = some (.cells [.int .i64 b.base, .int .i64 b.prod, .int .i64 b.epoch, .int .i64 b.seq, .bool b.txn, .int .i64 b.mark, .list 2 (b.recs.map rcV) .ro]) := by rw [List.getElem?_append_left n0, hk]; rfl
  have n1 : ∀ x : Box, (N ++ [x])[N.length]? = some x := fun x => by simp
  have n2 : ∀ x z : Box, (N ++ [x]).set N.length z = N ++ [z] := fun x z => by simp
  have key : ∀ out' fl', (out' = if b.base + (p.length : Int) ≥ lo ∧ b.base + (p.length : Int) < hi then out ++ [(b.base + (p.length : Int), b.prod, a)] else out) → (fl' = .own ∨ (fl' = .full ∧ out' = [])) →
    ∃ N' fl'', loopA W loopW (.ghost (.kill k_fold_Records_0) l_fold_Records_0) [(2, .int .i64 lo), (3, .int .i64 hi), (9, .list 4 (out'.map gV) fl'), (11, .ptr (pt H k) 0), (15, X), (16, .int .i64 n), (17, .int .i64 m), (25, .list 2 (b.recs.map rcV) .ro), (26, .int .i64 (b.recs.length : Nat)), (27, .int .i64 (p.length + 1 : Nat))] (hx H (N ++ [.cells [.str a.1, .str a.2]])) =
   some (.exit 2, [(2, .int .i64 lo), (3, .int .i64 hi), (9, .list 4 ((out ++ recsF b lo hi (p.length : Nat) (a :: r)).map gV) fl''), (15, X), (16, .int .i64 n), (17, .int .i64 m)], hx H N') ∧ (fl'' = .own ∨ (fl'' = .full ∧ out ++ recsF b lo hi (p.length : Nat) (a :: r) = [])) := by
   intro out' fl' ho' hfl'
   have hl' : out'.length ≤ 100000 + (p ++ [a]).length := by
    rw [ho']; split <;> simp <;> omega
   have h3 : (N ++ [Box.cells [.str a.1, .str a.2]])[k]? = some (.cells b.cs) := by rw [List.getElem?_append_left n0, hk]
   obtain ⟨N', fl'', h, hh⟩ := ih (p ++ [a]) out' fl' (N ++ [.cells [.str a.1, .str a.2]]) (by rw [hp]; simp) hl' h3 hfl'
   have e : out' ++ recsF b lo hi ((p ++ [a]).length : Nat) r = out ++ recsF b lo hi (p.length : Nat) (a :: r) := by
    rw [ho']
    simp only [List.length_append, List.length_cons, List.length_nil, Nat.zero_add, Int.natCast_add, Int.cast_ofNat_Int]
    rw [show recsF b lo hi (p.length : Nat) (a :: r) = if b.base + (p.length : Int) ≥ lo ∧ b.base + (p.length : Int) < hi then (b.base + (p.length : Int), b.prod, a) :: recsF b lo hi ((p.length : Int) + 1) r else recsF b lo hi ((p.length : Int) + 1) r from rfl]
    split <;> simp
   rw [e] at h hh
   simp only [List.length_append, List.length_cons, List.length_nil, Nat.zero_add] at h
   exact ⟨N', fl'', h, hh⟩
  by_cases c1 : b.base + (p.length : Int) ≥ lo
  ·by_cases c2 : b.base + (p.length : Int) < hi
   ·obtain ⟨N', fl'', h, hh⟩ := key (out ++ [(b.base + (p.length : Int), b.prod, a)]) .own (by rw [if_pos ⟨c1, c2⟩]) (.inl rfl)
    refine ⟨N', fl'', ?_, hh⟩
    have bb : (out.length + 1) * 48 ≤ maxBytes := by simp only [maxBytes]; omega
    have b0 : (0 + 1) * 48 ≤ maxBytes := by decide
    have e8 : out.map gV ++ [.agg [.int .i64 (b.base + (p.length : Int)), .int .i64 b.prod, .str a.1, .str a.2]] = (out ++ [(b.base + (p.length : Int), b.prod, a)]).map gV := by simp [gV]
    generalize recsF b lo hi (p.length : Nat) (a :: r) = R at *
    refine loop_step l_fold_Records_0.eq_1 k_fold_Records_0.eq_1 (by kernel_rfl) ?_
    rcases hfl with rfl | ⟨rfl, rfl⟩
    ·simp only [go_sem, h1, e0, e7, e1, n1, n2, n3, w1, c1, c2, List.length_map, apO, bb, e8, e6, simprocAttr]
     exact h
    ·simp only [List.map_nil, List.nil_append] at *
     simp only [go_sem, h1, e0, e7, e1, n1, n2, n3, w1, c1, c2, List.length_map, apF, List.length_nil, b0, List.nil_append, e6, simprocAttr]
     rw [e8]
     exact h
   ·obtain ⟨N', fl'', h, hh⟩ := key out fl (by rw [if_neg (fun h => c2 h.2)]) hfl
    refine ⟨N', fl'', ?_, hh⟩
    generalize recsF b lo hi (p.length : Nat) (a :: r) = R at *
    refine loop_step l_fold_Records_0.eq_1 k_fold_Records_0.eq_1 (by kernel_rfl) ?_
    simp only [go_sem, h1, e0, e7, e1, n1, n2, n3, w1, c1, c2, e6, simprocAttr]
    exact h
  ·obtain ⟨N', fl'', h, hh⟩ := key out fl (by rw [if_neg (fun h => c1 h.1)]) hfl
   refine ⟨N', fl'', ?_, hh⟩
   generalize recsF b lo hi (p.length : Nat) (a :: r) = R at *
   refine loop_step l_fold_Records_0.eq_1 k_fold_Records_0.eq_1 (by kernel_rfl) ?_
   simp only [go_sem, h1, e0, e7, e1, n1, n2, n3, w1, c1, e6, simprocAttr]
   exact h
theorem recB_len (b : Ba) (hb : Fit b) (lo hi : Int) : (recB b lo hi).length ≤ 16 := by
 have := (rightE_small hb.right).1
 have := recsF_len b lo hi b.recs 0
 unfold recB
 split
 ·omega
 ·simp
set_option maxHeartbeats 1000000 in
theorem records_loop (L : List Ba) (hL : ∀ b ∈ L, Fit b) (hn : L.length ≤ 1000) (lo hi : Int) (H : Heap) (r : List Ba) : ∀ (p : List Ba) (out : List Gt) (fl : Fl) (N : Heap), L = p ++ r → out.length ≤ 16 * p.length → (fl = .own ∨ (fl = .full ∧ out = [])) →
  ∃ N' fl', loopA W loopW (.ghost (.kill k_fold_Records_1) l_fold_Records_1) [(2, .int .i64 lo), (3, .int .i64 hi), (9, .list 4 (out.map gV) fl), (15, .list 7 (L.map Ba.V) .ro), (16, .int .i64 (L.length : Nat)), (17, .int .i64 (p.length : Nat))] (hx H N) =
   some (.exit 0, [(9, .list 4 ((out ++ recordsL lo hi r).map gV) fl')], hx H N') ∧ (fl' = .own ∨ (fl' = .full ∧ out ++ recordsL lo hi r = [])) := by
 induction r with
 | nil =>
  intro p out fl N hp ho hfl
  rw [List.append_nil] at hp
  subst hp
  rw [show recordsL lo hi [] = [] from rfl, List.append_nil]
  refine ⟨N, fl, ?_, hfl⟩
  have h1 : ¬ ((L.length : Int) < (L.length : Int)) := by omega
  refine loop_step l_fold_Records_1.eq_1 k_fold_Records_1.eq_1 (by kernel_rfl) ?_
  simp only [go_sem, h1, simprocAttr]
 | cons b r ih =>
  intro p out fl N hp ho hfl
  have hb := hL b (by rw [hp]; simp)
  have hlen : L.length = p.length + (r.length + 1) := by rw [hp]; simp
  have h1 : ((p.length : Int) < (L.length : Int)) := by omega
  have e0 : (0 : Int) ≤ (p.length : Int) := by omega
  have e7 : ((p.length : Nat) : Int).toNat = p.length := by omega
  have e1 : (L.map Ba.V)[p.length]? = some (.agg [.int .i64 b.base, .int .i64 b.prod, .int .i64 b.epoch, .int .i64 b.seq, .bool b.txn, .int .i64 b.mark, .list 2 (b.recs.map rcV) .ro]) := by rw [hp]; simp [Ba.V, Ba.cs]
  have e6 : IntKind.i64.wrap ((p.length : Int) + 1) = ((p.length + 1 : Nat) : Int) := by rw [wrap_id (by unfold I64; omega)]; omega
  have n1 : ∀ x : Box, (N ++ [x])[N.length]? = some x := fun x => by simp
  have n2 : ∀ x z : Box, (N ++ [x]).set N.length z = N ++ [z] := fun x z => by simp
  by_cases c : b.mark = 0
  ·obtain ⟨N1, fl1, h2, hf1⟩ := frecs_loop b hb lo hi (.list 7 (L.map Ba.V) .ro) (L.length : Nat) (p.length : Nat) N.length H b.recs [] out fl (N ++ [.cells b.cs]) rfl (by omega) (by simp) hfl
   have er : recsF b lo hi (([] : List Rc).length : Nat) b.recs = recB b lo hi := by unfold recB; rw [if_pos c]; rfl
   rw [er] at h2 hf1
   have hrl := recB_len b hb lo hi
   obtain ⟨N', fl', h3, hf'⟩ := ih (p ++ [b]) (out ++ recB b lo hi) fl1 N1 (by rw [hp]; simp) (by simp; omega) hf1
   rw [List.append_assoc, show recB b lo hi ++ recordsL lo hi r = recordsL lo hi (b :: r) from rfl] at h3 hf'
   simp only [List.length_append, List.length_cons, List.length_nil, Nat.zero_add] at h3
   refine ⟨N', fl', ?_, hf'⟩
   generalize recordsL lo hi (b :: r) = R at *
   generalize recB b lo hi = R1 at *
   have c' : ¬ b.mark ≠ 0 := by omega
   simp only [List.length_nil, Int.natCast_zero] at h2
   unfold Ba.cs at *
   refine loop_step l_fold_Records_1.eq_1 k_fold_Records_1.eq_1 (by kernel_rfl) ?_
   simp only [go_sem, h1, e0, e7, e1, n1, n2, eq_true c, List.length_map, h2, e6, simprocAttr]
   exact h3
  ·have er : recB b lo hi = [] := by unfold recB; rw [if_neg c]
   obtain ⟨N', fl', h3, hf'⟩ := ih (p ++ [b]) out fl (N ++ [.cells b.cs]) (by rw [hp]; simp) (by simp; omega) hfl
   rw [show recordsL lo hi r = recordsL lo hi (b :: r) by rw [show recordsL lo hi (b :: r) = recB b lo hi ++ recordsL lo hi r from rfl, er]; rfl] at h3 hf'
   simp only [List.length_append, List.length_cons, List.length_nil, Nat.zero_add] at h3
   refine ⟨N', fl', ?_, hf'⟩
   generalize recordsL lo hi (b :: r) = R at *
   unfold Ba.cs at *
   refine loop_step l_fold_Records_1.eq_1 k_fold_Records_1.eq_1 (by kernel_rfl) ?_
   simp only [go_sem, h1, e0, e7, e1, n1, n2, c, e6, simprocAttr]
   exact h3
theorem records_spec (L : List Ba) (hL : ∀ b ∈ L, Fit b) (hn : L.length ≤ 1000) (st lo hi : Int) (H : Heap) :
  W n_fold_Records [.int .i64 st, .list 7 (L.map Ba.V) .ro, .int .i64 lo, .int .i64 hi] H = some (.list 4 ((recordsL lo hi L).map gV) .full, H) := by
 obtain ⟨N, fl, h, hf⟩ := records_loop L hL hn lo hi H L [] [] .full [] rfl (by simp) (.inr ⟨rfl, rfl⟩)
 simp only [List.length_nil, Int.natCast_zero, List.map_nil, List.nil_append] at h hf
 have tc := fun H => clip_got ((recordsL lo hi L).map gV) fl (by rcases hf with rfl | ⟨rfl, _⟩ <;> simp) H
 generalize recordsL lo hi L = R at *
 refine W_fn rfl rfl ?_
 rcases hf with rfl | ⟨rfl, rfl⟩
 ·simp only [go_sem, c_fold_Records, List.length_map, h, tc, under_g, simprocAttr]
 ·simp only [List.map_nil] at h tc ⊢
  simp only [go_sem, c_fold_Records, List.length_map, h, tc, simprocAttr]
  first | done | rfl
def keptQ (p : Int) : List Ba → Bool
 | [] => false
 | x :: l => if x.mark ≠ 0 ∧ x.prod = p then decide (x.mark = 1) else keptQ p l
def openI : MInfo := ⟨11, 12, 13, 15, 14, [0, 7, 8, 9, 10, 11, 13, 14, 15, 16, 17, 18, 19, 20, 21, 22, 23, 24, 25, 26, 27, 28, 29, 30, 31], [12, 14], [⟨(some 8), none, .move, [.tmp 0 false]⟩,
  ⟨(some 9), none, .nilCheck, [.tmp 8 false]⟩,
  ⟨(some 10), none, .addOff 0, [.tmp 9 false]⟩,
  ⟨(some 11), none, .load false 1 false, [.tmp 10 false]⟩], [⟨(some 14), none, .move, [.proj 13 0 false]⟩], [⟨(some 16), none, .move, [.proj 15 1 false]⟩,
  ⟨(some 7), none, .alloc [.int .i64 0, .int .i64 0, .list 3 [] .full, .int .i64 0], []⟩,
  ⟨none, none, .store 4, [.tmp 7 false, .tmp 16 false]⟩]⟩
def openS (s : Int × Bool) (p : Pr) : Int × Bool := if p.open_ ≥ 0 ∧ (s.2 = false ∨ p.open_ < s.1) then (p.open_, true) else s
theorem openS_comm (s : Int × Bool) (x y : Pr) : openS (openS s x) y = openS (openS s y) x := by
 obtain ⟨l, b⟩ := s
 unfold openS
 cases b <;> by_cases h1 : x.open_ ≥ 0 <;> by_cases h2 : y.open_ ≥ 0 <;> simp [h1, h2]
 ·by_cases h3 : y.open_ < x.open_ <;> by_cases h4 : x.open_ < y.open_ <;> simp [h3, h4] <;> omega
 ·by_cases h3 : x.open_ < l <;> by_cases h4 : y.open_ < l <;> simp [h3, h4] <;> (try split) <;> (try split) <;> (try simp) <;> omega
def openM (M : List Pr) : Int × Bool := M.foldl openS (-1, false)
abbrev openE (H : Heap) (s : Int × Bool) : Env := [(4, .int .i64 s.1), (5, .bool s.2), (12, .ptr (pt H 0) 0)]
set_option maxHeartbeats 2000000 in
theorem open_mstep (M : List Pr) (j : Nat) (H : Heap) (hj : Old H j (mapB M)) (q : Pr) (s : Int × Bool) (e : Env) (he : e.dels openI.kA = openE H s) :
  mstep W (fun e H => aexec W loopW l_table_Table_Open_0 e H) openI (pt H 0) j (M.map prE) (prE q) e (hx H [.dead]) = some (openE H (openS s q), hx H [.dead]) := by
 obtain ⟨l, b⟩ := s
 have hs := hj.set [.dead] .dead
 unfold mstep
 rw [he, hs]
 have c1 : (isIter (openE H (l, b)) openI.it (pt H 0) && (prE q).1.argOK && (prE q).2.argOK) = true := by
  simp [isIter, openE, openI, Env.get, AVal.argOK, AVal.isU, Pr.V]
 rw [if_pos c1]
 have hst : (prE q).1.strip = .int .i64 q.id := rfl
 have hst1 : (prE q).2.strip = q.V := rfl
 rw [hst, hst1]
 have a1 : aops W openI.r2 ((openE H (l, b)).put openI.nx (.tuple [.bool true, .int .i64 q.id, q.V])) (hx (H.set j .dead) [.dead]) =
   some ([(4, .int .i64 l), (5, .bool b), (12, .ptr (pt H 0) 0), (13, .tuple [.bool true, .int .i64 q.id, q.V]), (14, .bool true)], hx (H.set j .dead) [.dead]) := rfl
 rw [a1, Option.bind_some]
 have c2 : (isB [(4, .int .i64 l), (5, .bool b), (12, .ptr (pt H 0) 0), (13, .tuple [.bool true, .int .i64 q.id, q.V]), (14, .bool true)] openI.ok true && isIter [(4, .int .i64 l), (5, .bool b), (12, .ptr (pt H 0) 0), (13, .tuple [.bool true, .int .i64 q.id, q.V]), (14, .bool true)] openI.it (pt H 0)) = true := by
  simp [isB, isIter, openI, Env.get]
 simp only
 rw [if_pos c2]
 have hp0 : pt H 1 = pt (H.set j .dead) 1 := (pt_set _ _ _ _).symm
 have a2 : aops W openI.r3 (Env.put [(4, .int .i64 l), (5, .bool b), (12, .ptr (pt H 0) 0), (13, .tuple [.bool true, .int .i64 q.id, q.V]), (14, .bool true)] openI.en (.tuple [.int .i64 q.id, q.V])) (hx (H.set j .dead) [.dead]) =
   some ([(4, .int .i64 l), (5, .bool b), (7, .ptr (pt H 1) 0), (12, .ptr (pt H 0) 0), (13, .tuple [.bool true, .int .i64 q.id, q.V]), (14, .bool true), (15, .tuple [.int .i64 q.id, q.V]), (16, q.V)], hx (H.set j .dead) [.dead, .cells q.cs]) := by
  rw [hp0]
  unfold Pr.V Pr.cs openI
  simp only [go_sem, simprocAttr]
  done
 rw [a2, Option.bind_some]
 have a3 : ∃ e3, aexec W loopW l_table_Table_Open_0 [(4, .int .i64 l), (5, .bool b), (7, .ptr (pt H 1) 0), (12, .ptr (pt H 0) 0), (13, .tuple [.bool true, .int .i64 q.id, q.V]), (14, .bool true), (15, .tuple [.int .i64 q.id, q.V]), (16, q.V)] (hx (H.set j .dead) [.dead, .cells q.cs]) =
   some (.normal, e3, hx (H.set j .dead) [.dead, .cells q.cs]) ∧ e3.dels openI.kA = openE H (openS (l, b) q) := by
  rw [hp0]
  unfold Pr.V Pr.cs openS
  by_cases d1 : q.open_ ≥ 0
  ·cases b with
   | false =>
    rw [if_pos ⟨d1, .inl rfl⟩]
    refine ⟨?_, ?_, ?_⟩
    rotate_left
    ·simp only [go_sem, l_table_Table_Open_0.eq_1, d1, simprocAttr]
     rfl
    ·simp only [go_sem, openI, simprocAttr]
   | true =>
    by_cases d2 : q.open_ < l
    ·rw [if_pos ⟨d1, .inr d2⟩]
     refine ⟨?_, ?_, ?_⟩
     rotate_left
     ·simp only [go_sem, l_table_Table_Open_0.eq_1, d1, d2, simprocAttr]
      rfl
     ·simp only [go_sem, openI, simprocAttr]
    ·rw [if_neg (fun h => by rcases h.2 with h | h; cases h; exact d2 h)]
     refine ⟨?_, ?_, ?_⟩
     rotate_left
     ·simp only [go_sem, l_table_Table_Open_0.eq_1, d1, d2, simprocAttr]
      rfl
     ·simp only [go_sem, openI, simprocAttr]
  ·rw [if_neg (fun h => d1 h.1)]
   refine ⟨?_, ?_, ?_⟩
   rotate_left
   ·simp only [go_sem, l_table_Table_Open_0.eq_1, d1, simprocAttr]
    rfl
   ·simp only [go_sem, openI, simprocAttr]
 obtain ⟨e3, a3, a4⟩ := a3
 simp only
 rw [a3, Option.bind_some]
 unfold mback
 simp only
 have c3 : (decide ((hx H [.dead]).length ≤ (hx (H.set j .dead) [.dead, .cells q.cs]).length) && ((e3.dels openI.kA).all fun p => p.2.under (hx H [.dead]).length) && trimOK (hx H [.dead]).length ((hx H [.dead]).set j .dead) (hx (H.set j .dead) [.dead, .cells q.cs]) && isDead (hx (H.set j .dead) [.dead, .cells q.cs]) j) = true := by
  have l1 : (hx H [.dead]).length = pt H 1 := hx_len H _
  have l2 : (hx (H.set j .dead) [.dead, .cells q.cs]).length = pt H 2 := by rw [hx_len]; exact pt_set _ _ _ _
  have l3 : decide (pt H 1 ≤ pt H 2) = true := by unfold pt; simp
  have l4 : ((openE H (openS (l, b) q)).all fun p => p.2.under (pt H 1)) = true := by
   have : pt H 0 < pt H 1 := by unfold pt; omega
   simp [openE, AVal.under, this]
  have l5 : trimOK (pt H 1) (hx (H.set j .dead) [.dead]) (hx (H.set j .dead) [.dead, .cells q.cs]) = true := by
   have := trimOK_app (pt H 1) (hx (H.set j .dead) [.dead]) [.cells q.cs]
   rwa [hx_app] at this
  have l6 : isDead (hx (H.set j .dead) [.dead, .cells q.cs]) j = true := by unfold isDead; rw [hj.get']
  rw [a4, hs, l1, l2, l3, l4, l5, l6]
  rfl
 rw [if_pos c3, a4]
 have l7 : ((hx (H.set j .dead) [.dead, .cells q.cs]).take (hx H [.dead]).length).set j (.map (M.map prE)) = hx H [.dead] := by
  have : (hx (H.set j .dead) [.dead, .cells q.cs]).take (hx H [.dead]).length = hx (H.set j .dead) [.dead] := by
   rw [show (hx H [.dead]).length = (hx (H.set j .dead) [.dead]).length by rw [hx_len, hx_len, pt_set]]
   rw [show hx (H.set j .dead) [.dead, .cells q.cs] = hx (H.set j .dead) [.dead] ++ [.cells q.cs] by rw [hx_app]; rfl]
   exact List.take_left
  rw [this, hj.set', hj.same]
 rw [l7]
theorem perm_foldl {f : Int × Bool → Pr → Int × Bool} (hc : ∀ s x y, f (f s x) y = f (f s y) x) {l l' : List Pr} (h : l.Perm l') : ∀ s, l.foldl f s = l'.foldl f s := by
 induction h with
 | nil => intro s; rfl
 | cons x _ ih => intro s; exact ih _
 | swap x y l => intro s; simp only [List.foldl_cons]; rw [hc]
 | trans _ _ h1 h2 => intro s; rw [h1, h2]
theorem range_fm (M : List Pr) : (List.range M.length).filterMap (fun i => M[i]?) = M := by
 induction M with
 | nil => rfl
 | cons a M ih =>
  rw [List.length_cons, List.range_succ_eq_map, List.filterMap_cons]
  simp only [List.getElem?_cons_zero, List.filterMap_map]
  congr 1
theorem open_mfold (M : List Pr) (j : Nat) (H : Heap) (hj : Old H j (mapB M)) (path : List Nat) : ∀ (s : Int × Bool) (e : Env), (∀ i ∈ path, i < M.length) → e.dels openI.kA = openE H s →
  path ≠ [] → mfold (mstep W (fun e H => aexec W loopW l_table_Table_Open_0 e H) openI (pt H 0) j (M.map prE)) (M.map prE) path e (hx H [.dead]) =
   some (openE H ((path.filterMap fun i => M[i]?).foldl openS s), hx H [.dead]) := by
 have hd : ∀ s, (openE H s).dels openI.kA = openE H s := fun s => by simp only [go_sem, openI, simprocAttr]
 have hm := open_mstep M j H hj
 generalize mstep W (fun e H => aexec W loopW l_table_Table_Open_0 e H) openI (pt H 0) j (M.map prE) = st at *
 induction path with
 | nil => intro s e _ _ h; exact absurd rfl h
 | cons i path ih =>
  intro s e hb he _
  have hi := hb i List.mem_cons_self
  have h1 : (M.map prE)[i]? = some (prE M[i]) := by rw [List.getElem?_map, List.getElem?_eq_getElem hi]; rfl
  have h2 : M[i]? = some M[i] := List.getElem?_eq_getElem hi
  unfold mfold
  rw [h1, Option.bind_some, hm M[i] s e he, Option.bind_some]
  simp only [List.filterMap_cons, h2, List.foldl_cons]
  by_cases hp : path = []
  ·subst hp
   simp only [mfold, List.filterMap_nil, List.foldl_nil]
  ·exact ih (openS s M[i]) _ (fun x hx => hb x (List.mem_cons_of_mem _ hx)) (hd _) hp
theorem open_mrun (M : List Pr) (hM : M ≠ []) (j : Nat) (H : Heap) (hj : Old H j (mapB M)) (e : Env) (he : e.dels openI.kA = openE H (-1, false)) :
  mrun (mstep W (fun e H => aexec W loopW l_table_Table_Open_0 e H) openI (pt H 0) j (M.map prE)) (M.map prE) e (hx H [.dead]) = some (openE H (openM M), hx H [.dead]) := by
 refine mrun_of (fun p hp => ?_) (fun p hp => perms_perm _ _ hp)
 rw [List.length_map] at hp
 have hb : ∀ i ∈ p, i < M.length := fun i hi => List.mem_range.1 (hp.mem_iff.1 hi)
 have hne : p ≠ [] := by
  intro h; subst h
  have := hp.length_eq
  simp at this
  exact hM (List.eq_nil_of_length_eq_zero this.symm)
 rw [open_mfold M j H hj p (-1, false) e hb he hne]
 have hpm : (p.filterMap fun i => M[i]?).Perm M := by
  have := hp.filterMap (fun i => M[i]?)
  rwa [range_fm] at this
 rw [perm_foldl openS_comm hpm]
 rfl
theorem open_mloop (M : List Pr) (i j : Nat) (H : Heap) (hi : Old H i (tblB j)) (hj : Old H j (mapB M)) :
  mloopA W (fun e H => aexec W loopW l_table_Table_Open_0 e H) openI [(0, .ptr i 0), (4, .int .i64 (-1)), (5, .bool false)] (hx H []) =
   some ([(4, .int .i64 (openM M).1), (5, .bool (openM M).2), (13, .tuple [.bool false])], hx H [.dead]) := by
 have gi := hi.get
 unfold mloopA
 have a1 : aops W openI.pre [(0, .ptr i 0), (4, .int .i64 (-1)), (5, .bool false)] (hx H []) =
   some ([(0, .ptr i 0), (4, .int .i64 (-1)), (5, .bool false), (8, .ptr i 0), (9, .ptr i 0), (10, .ptr i 0), (11, .map (some j))], hx H []) := by
  unfold openI
  simp only [go_sem, gi, simprocAttr]
 rw [a1, Option.bind_some]
 have a2 : Env.get [(0, .ptr i 0), (4, .int .i64 (-1)), (5, .bool false), (8, .ptr i 0), (9, .ptr i 0), (10, .ptr i 0), (11, .map (some j))] openI.mt = .map (some j) := rfl
 simp only [a2, hj.get []]
 have l1 : (hx H []).length = pt H 0 := hx_len H _
 have l2 : hx H [] ++ [Box.dead] = hx H [.dead] := hx_app H [] [.dead]
 rw [l1, l2]
 have hd : (Env.put [(0, .ptr i 0), (4, .int .i64 (-1)), (5, .bool false), (8, .ptr i 0), (9, .ptr i 0), (10, .ptr i 0), (11, .map (some j))] openI.it (.ptr (pt H 0) 0)).dels openI.kA = openE H (-1, false) := by
  unfold openI
  simp only [go_sem, simprocAttr]
 generalize Env.put [(0, .ptr i 0), (4, .int .i64 (-1)), (5, .bool false), (8, .ptr i 0), (9, .ptr i 0), (10, .ptr i 0), (11, .map (some j))] openI.it (.ptr (pt H 0) 0) = e at *
 have hl : ∀ e' : Env, ∀ s, e'.dels openI.kA = openE H s → mlast W openI (pt H 0) e' (hx H [.dead]) = some ([(4, .int .i64 s.1), (5, .bool s.2), (13, .tuple [.bool false])], hx H [.dead]) := by
  intro e' s he'
  unfold mlast
  rw [he']
  have c1 : isIter (openE H s) openI.it (pt H 0) = true := by simp [isIter, openE, openI, Env.get]
  rw [if_pos c1]
  have a3 : aops W openI.r2 ((openE H s).put openI.nx (.tuple [.bool false])) (hx H [.dead]) = some ([(4, .int .i64 s.1), (5, .bool s.2), (12, .ptr (pt H 0) 0), (13, .tuple [.bool false]), (14, .bool false)], hx H [.dead]) := by
   unfold openI openE
   simp only [go_sem, simprocAttr]
  rw [a3, Option.bind_some]
  have c2 : isB [(4, .int .i64 s.1), (5, .bool s.2), (12, .ptr (pt H 0) 0), (13, .tuple [.bool false]), (14, .bool false)] openI.ok false = true := by simp [isB, openI, Env.get]
  simp only
  rw [if_pos c2]
  unfold openI
  simp only [go_sem, simprocAttr]
 by_cases hM : M = []
 ·subst hM
  have : mrun (mstep W (fun e H => aexec W loopW l_table_Table_Open_0 e H) openI (pt H 0) j (([] : List Pr).map prE)) (([] : List Pr).map prE) e (hx H [.dead]) = some (e, hx H [.dead]) := by
   refine mrun_of (fun p hp => ?_) (fun p hp => perms_perm _ _ hp)
   have : p = [] := List.eq_nil_of_length_eq_zero (by rw [hp.length_eq]; rfl)
   subst this
   rfl
  rw [this, Option.bind_some]
  exact hl e (-1, false) hd
 ·rw [open_mrun M hM j H hj e hd, Option.bind_some]
  exact hl _ _ (by simp only [go_sem, openI, simprocAttr])
theorem x_mloop (c : CallF) (l) (I x e H) : aexec c l (.mloop I x) e H = (mloopA c (fun e H => aexec c l x e H) I e H).map fun q => (.normal, q.1, q.2) := rfl
theorem topen_spec (M : List Pr) (i j : Nat) (H : Heap) (hi : Old H i (tblB j)) (hj : Old H j (mapB M)) :
  W n_table_Table_Open [.ptr i 0] H = some (.tuple [.int .i64 (openM M).1, .bool (openM M).2], H) := by
 have h := open_mloop M i j H hi hj
 generalize openM M = s at *
 unfold openI at h
 refine W_fn rfl rfl ?_
 simp only [go_sem, c_table_Table_Open, x_mloop, h, Option.map_some, simprocAttr]
abbrev Opn := Int → Int
def stepO (O : Opn) (b : Ba) : Opn := fun id => if id = b.prod ∧ 0 ≤ b.prod then (if b.mark ≠ 0 then -1 else if b.txn = true ∧ O id < 0 then b.base else O id) else O id
def foldO (L : List Ba) (O : Opn) : Opn := L.foldl stepO O
abbrev opens (L : List Ba) : Opn := foldO L (fun _ => -1)
theorem opens_snoc (L : List Ba) (b : Ba) : opens (L ++ [b]) = stepO (opens L) b := by unfold opens foldO; rw [List.foldl_append]; rfl
structure Rep (M : List Pr) (O : Opn) : Prop where
 nd : (M.map Pr.id).Nodup
 val : ∀ p ∈ M, p.open_ = O p.id
 neg : ∀ id, (∀ p ∈ M, p.id ≠ id) → O id = -1
theorem applyP_open (p : Pr) (k : Bool) (b : Ba) : (applyP p k b).open_ = if b.mark ≠ 0 then -1 else if b.txn = true ∧ openP p k < 0 then b.base else openP p k := by
 unfold applyP; split <;> rfl
theorem Rep.open {M O} (h : Rep M O) (b : Ba) : openP ((M.find? fun p => p.id == b.prod).getD zeroPr) (M.find? fun p => p.id == b.prod).isSome = O b.prod := by
 cases hf : M.find? fun p => p.id == b.prod with
 | none =>
  have : O b.prod = -1 := h.neg _ (fun p hp e => by
   have := List.find?_eq_none.1 hf p hp
   simp [e] at this)
  rw [this]; rfl
 | some p =>
  have h1 := List.mem_of_find?_eq_some hf
  have h2 := List.find?_some hf
  have h3 : p.id = b.prod := by simpa using h2
  show p.open_ = _
  rw [h.val p h1, h3]
theorem Rep.put {M M' O} (h : Rep M O) (b : Ba) (hp : 0 ≤ b.prod) (x : Pr) (hx : x.id = b.prod) (ho : x.open_ = stepO O b b.prod) (hnd : (M'.map Pr.id).Nodup)
  (h1 : ∀ p ∈ M', p = x ∨ (p ∈ M ∧ p.id ≠ b.prod)) (h2 : x ∈ M') (h3 : ∀ p ∈ M, p.id ≠ b.prod → p ∈ M') : Rep M' (stepO O b) where
 nd := hnd
 val := fun p hp' => by
  rcases h1 p hp' with rfl | ⟨h4, h5⟩
  ·rw [hx, ho]
  ·rw [h.val p h4]; unfold stepO; rw [if_neg (fun h => h5 h.1)]
 neg := fun id hid => by
  have hne : id ≠ b.prod := fun e => hid x h2 (by rw [hx, e])
  unfold stepO
  rw [if_neg (fun h => hne h.1)]
  refine h.neg id (fun p hp' e => ?_)
  exact hid p (h3 p hp' (by rw [e]; exact hne)) e
theorem stepO_neg (O : Opn) (b : Ba) (h : b.prod < 0) : stepO O b = O := by
 funext id; unfold stepO; rw [if_neg (by omega)]
theorem nodup_find : ∀ {M : List Pr} {q : Pr}, (M.map Pr.id).Nodup → q ∈ M → M.find? (fun p => p.id == q.id) = some q
 | [], _, _, h => by cases h
 | a :: X, q, hnd, hq => by
  rw [List.find?_cons]
  rw [List.map_cons, List.nodup_cons] at hnd
  rcases List.mem_cons.1 hq with rfl | hq'
  ·simp
  ·have : (a.id == q.id) = false := by
    simp only [beq_eq_false_iff_ne]
    intro e
    exact hnd.1 (e ▸ List.mem_map_of_mem (f := Pr.id) hq')
   rw [this]; exact nodup_find hnd.2 hq'
theorem setM_ids (M : List Pr) (x : Pr) : (setM M x).map Pr.id = if (M.find? fun p => p.id == x.id).isSome then M.map Pr.id else M.map Pr.id ++ [x.id] := by
 rw [← getM_find]
 unfold setM getM
 cases h : idxM x.id M with
 | none => simp
 | some i =>
  obtain ⟨p, h1, h2⟩ := idxM_mem h
  simp only [Option.bind_some, h1, Option.isSome_some, if_true]
  rw [List.map_set]
  refine List.ext_getElem? fun k => ?_
  rw [List.getElem?_set]
  split
  ·rename_i e
   subst e
   split
   ·rw [List.getElem?_map, h1, Option.map_some, h2]
   ·rename_i h3
    rw [List.length_map] at h3
    exact absurd (List.getElem?_eq_some_iff.1 h1).1 h3
  ·rfl
theorem Rep.stepM {M O} (h : Rep M O) (b : Ba) (hr : rightE b = 0) : Rep (stepM M b) (stepO O b) := by
 unfold Go.Abs.stepM
 by_cases hp : b.prod < 0
 ·rw [if_pos (.inr hp), stepO_neg O b hp]; exact h
 ·rw [if_neg (by omega)]
  rw [getM_find]
  have ho := h.open b
  have hx := applyP_id ((M.find? fun p => p.id == b.prod).getD zeroPr) (M.find? fun p => p.id == b.prod).isSome b
  have hxo := applyP_open ((M.find? fun p => p.id == b.prod).getD zeroPr) (M.find? fun p => p.id == b.prod).isSome b
  rw [ho] at hxo
  generalize applyP ((M.find? fun p => p.id == b.prod).getD zeroPr) (M.find? fun p => p.id == b.prod).isSome b = x at *
  have hids := setM_ids M x
  rw [hx] at hids
  have hnd : ((setM M x).map Pr.id).Nodup := by
   rw [hids]
   split
   ·exact h.nd
   ·rename_i hn
    rw [List.nodup_append]
    refine ⟨h.nd, by simp, fun a ha c hc e => ?_⟩
    simp only [List.mem_singleton] at hc
    subst hc; subst e
    obtain ⟨p, hp1, hp2⟩ := List.mem_map.1 ha
    apply hn
    rw [List.find?_isSome]
    exact ⟨p, hp1, by simp [hp2]⟩
  have hmem : ∀ q, q ∈ setM M x ↔ getM q.id (setM M x) = some q := fun q => ⟨fun hq => by rw [getM_find]; exact nodup_find hnd hq, fun hq => getM_mem hq⟩
  have hmemM : ∀ q, q ∈ M → getM q.id M = some q := fun q hq => by rw [getM_find]; exact nodup_find h.nd hq
  refine h.put b (by omega) x hx ?_ hnd ?_ ?_ ?_
  ·rw [hxo]; exact (if_pos (⟨rfl, by omega⟩ : b.prod = b.prod ∧ 0 ≤ b.prod)).symm
  ·intro p hp'
   rw [hmem, getM_set] at hp'
   split at hp'
   ·simp only [Option.some.injEq] at hp'; exact .inl hp'.symm
   ·rename_i e
    exact .inr ⟨getM_mem hp', by rw [← hx]; exact e⟩
  ·rw [hmem, getM_set, if_pos rfl]
  ·intro p hp' hne
   rw [hmem, getM_set, if_neg (by rw [hx]; exact hne)]
   exact hmemM p hp'
abbrev Srt (L : List Pr) : Prop := L.Pairwise (fun p q => p.id < q.id)
theorem Srt.nd {L : List Pr} (h : Srt L) : (L.map Pr.id).Nodup := by
 rw [List.Nodup, List.pairwise_map]
 exact h.imp (fun h => by omega)
theorem below_take (id : Int) : ∀ (L : List Pr), ∀ p ∈ L.take (belowN id L), p.id < id
 | [], p, h => by simp [belowN] at h
 | a :: L, p, h => by
  unfold belowN at h
  split at h
  ·rename_i c
   rw [List.take_succ_cons, List.mem_cons] at h
   rcases h with rfl | h
   ·exact c
   ·exact below_take id L p h
  ·simp at h
theorem below_drop (id : Int) : ∀ (L : List Pr), Srt L → ∀ p ∈ L.drop (belowN id L), id ≤ p.id
 | [], _, p, h => by simp at h
 | a :: L, hs, p, h => by
  unfold belowN at h
  have hs' := List.pairwise_cons.1 hs
  split at h
  ·rw [List.drop_succ_cons] at h
   exact below_drop id L hs'.2 p h
  ·rename_i c
   rw [List.drop_zero, List.mem_cons] at h
   rcases h with rfl | h
   ·omega
   ·have := hs'.1 p h; omega
theorem atP_find (id : Int) (L : List Pr) (hs : Srt L) : atP id L = L.find? (fun p => p.id == id) := by
 have h1 := below_take id L
 have h2 := below_drop id L hs
 have h3 : L.find? (fun p => p.id == id) = (L.drop (belowN id L)).find? (fun p => p.id == id) := by
  conv => lhs; rw [← List.take_append_drop (belowN id L) L]
  rw [List.find?_append]
  have : (L.take (belowN id L)).find? (fun p => p.id == id) = none := by
   rw [List.find?_eq_none]
   intro p hp; have := h1 p hp; simp; omega
  rw [this]; rfl
 rw [h3]
 unfold atP
 have hs2 : Srt (L.drop (belowN id L)) := hs.sublist (List.drop_sublist _ _)
 have h4 : L[belowN id L]? = (L.drop (belowN id L))[0]? := by rw [List.getElem?_drop]; rfl
 rw [h4]
 generalize L.drop (belowN id L) = D at *
 cases D with
 | nil => rfl
 | cons a D =>
  simp only [List.getElem?_cons_zero, List.find?_cons]
  by_cases e : a.id = id
  ·simp [e]
  ·have e' : (a.id == id) = false := by simpa using e
   rw [if_neg e, e']
   have ha := h2 a List.mem_cons_self
   have : D.find? (fun p => p.id == id) = none := by
    rw [List.find?_eq_none]
    intro p hp
    have := (List.pairwise_cons.1 hs2).1 p hp
    simp; omega
   rw [this]
theorem Srt.tabL {L : List Pr} (hs : Srt L) (b : Ba) (hr : rightE b = 0) {O : Opn} (h : Rep L O) : Srt (tabL L b) ∧ Rep (tabL L b) (stepO O b) := by
 unfold Go.Abs.tabL
 by_cases hp : b.prod < 0
 ·rw [if_pos (.inr hp), stepO_neg O b hp]; exact ⟨hs, h⟩
 ·rw [if_neg (by omega)]
  have ho := h.open b
  have hx := applyP_id ((L.find? fun p => p.id == b.prod).getD zeroPr) (L.find? fun p => p.id == b.prod).isSome b
  have hxo := applyP_open ((L.find? fun p => p.id == b.prod).getD zeroPr) (L.find? fun p => p.id == b.prod).isSome b
  rw [ho] at hxo
  have hxo' : (applyP ((L.find? fun p => p.id == b.prod).getD zeroPr) (L.find? fun p => p.id == b.prod).isSome b).open_ = stepO O b b.prod := by
   rw [hxo]; exact (if_pos (⟨rfl, by omega⟩ : b.prod = b.prod ∧ 0 ≤ b.prod)).symm
  have hat := atP_find b.prod L hs
  rw [← hat] at hx hxo'
  cases hf : atP b.prod L with
  | some p =>
   rw [hf] at hx hxo'
   simp only
   have hx : (applyP p true b).id = b.prod := hx
   have hxo' : (applyP p true b).open_ = stepO O b b.prod := hxo'
   generalize applyP p true b = x at *
   obtain ⟨hp1, hp2⟩ := atP_mem hf
   have hp3 : p.id = b.prod := by
    rw [hat] at hf
    simpa using List.find?_some hf
   have hi : belowN b.prod L < L.length := (List.getElem?_eq_some_iff.1 hp2).1
   have hids : (L.set (belowN b.prod L) x).map Pr.id = L.map Pr.id := by
    rw [List.map_set]
    refine List.ext_getElem? fun k => ?_
    rw [List.getElem?_set]
    split
    ·rename_i e
     subst e
     rw [if_pos (by rw [List.length_map]; exact hi), List.getElem?_map, hp2, Option.map_some, hp3, hx]
    ·rfl
   have hsx : Srt (L.set (belowN b.prod L) x) := by
    have h1 : (L.map Pr.id).Pairwise (· < ·) := List.pairwise_map.2 hs
    rw [← hids] at h1
    exact List.pairwise_map.1 h1
   refine ⟨hsx, h.put b (by omega) x hx hxo' hsx.nd ?_ (List.mem_iff_getElem?.2 ⟨_, by rw [List.getElem?_set, if_pos rfl, if_pos hi]⟩) ?_⟩
   ·intro q hq
    rcases List.mem_or_eq_of_mem_set hq with h1 | rfl
    ·by_cases e : q.id = b.prod
     ·have := nodup_find hsx.nd hq
      have h2 := nodup_find hsx.nd (List.mem_iff_getElem?.2 ⟨_, by rw [List.getElem?_set, if_pos rfl, if_pos hi]⟩ : x ∈ L.set (belowN b.prod L) x)
      rw [show x.id = q.id by rw [hx, e], this] at h2
      simp only [Option.some.injEq] at h2
      exact .inl h2
     ·exact .inr ⟨h1, e⟩
    ·exact .inl rfl
   ·intro q hq hne
    obtain ⟨k, hk⟩ := List.mem_iff_getElem?.1 hq
    refine List.mem_iff_getElem?.2 ⟨k, ?_⟩
    rw [List.getElem?_set]
    by_cases e : belowN b.prod L = k
    ·subst e
     rw [hp2] at hk
     simp only [Option.some.injEq] at hk
     exact absurd (hk ▸ hp3) hne
    ·rw [if_neg e]; exact hk
  | none =>
   rw [hf] at hx hxo'
   simp only
   have hx : (applyP zeroPr false b).id = b.prod := hx
   have hxo' : (applyP zeroPr false b).open_ = stepO O b b.prod := hxo'
   generalize applyP zeroPr false b = x at *
   have hno : ∀ p ∈ L, p.id ≠ b.prod := by
    rw [hat, List.find?_eq_none] at hf
    intro p hp e
    exact hf p hp (by simp [e])
   have h1 := below_take b.prod L
   have h2 := below_drop b.prod L hs
   have hL := List.take_append_drop (belowN b.prod L) L
   have hs1 : Srt (L.take (belowN b.prod L)) := hs.sublist (List.take_sublist _ _)
   have hs2 : Srt (L.drop (belowN b.prod L)) := hs.sublist (List.drop_sublist _ _)
   have hm : ∀ q, q ∈ L ↔ q ∈ L.take (belowN b.prod L) ∨ q ∈ L.drop (belowN b.prod L) := fun q => by
    conv => lhs; rw [← hL]
    exact List.mem_append
   have hm1 : ∀ q ∈ L.drop (belowN b.prod L), b.prod < q.id := fun q hq => by
    have a1 := h2 q hq
    have a2 := hno q ((hm q).2 (.inr hq))
    omega
   generalize L.take (belowN b.prod L) = A at *
   generalize L.drop (belowN b.prod L) = B at *
   have hsx : Srt (A ++ [x] ++ B) := by
    rw [List.append_assoc]
    refine List.pairwise_append.2 ⟨hs1, List.pairwise_append.2 ⟨by simp, hs2, ?_⟩, ?_⟩
    ·intro p hp q hq
     simp only [List.mem_singleton] at hp
     rw [hp, hx]; exact hm1 q hq
    ·intro p hp q hq
     rw [List.mem_append, List.mem_singleton] at hq
     have := h1 p hp
     rcases hq with rfl | hq
     ·rw [hx]; exact this
     ·have := hm1 q hq; omega
   refine ⟨hsx, h.put b (by omega) x hx hxo' hsx.nd ?_ (by simp) ?_⟩
   ·intro q hq
    simp only [List.mem_append, List.mem_singleton] at hq
    rcases hq with (hq | rfl) | hq
    ·exact .inr ⟨(hm q).2 (.inl hq), hno q ((hm q).2 (.inl hq))⟩
    ·exact .inl rfl
    ·exact .inr ⟨(hm q).2 (.inr hq), hno q ((hm q).2 (.inr hq))⟩
   ·intro q hq _
    simp only [List.mem_append, List.mem_singleton]
    rcases (hm q).1 hq with h | h
    ·exact .inl (.inl h)
    ·exact .inr h
theorem rep_nil : Rep [] (fun _ => -1) := ⟨by simp, by simp, fun _ _ => rfl⟩
theorem foldM_rep : ∀ (A : List Ba) (M : List Pr) (O : Opn), (∀ b ∈ A, Fit b) → Rep M O → Rep (foldM A M) (foldO A O)
 | [], _, _, _, h => h
 | b :: A, M, O, hA, h => foldM_rep A _ _ (fun x hx => hA x (List.mem_cons_of_mem _ hx)) (h.stepM b (hA b List.mem_cons_self).right)
theorem foldL_rep : ∀ (A : List Ba) (L : List Pr) (O : Opn), (∀ b ∈ A, Fit b) → Srt L → Rep L O → Srt (foldL A L) ∧ Rep (foldL A L) (foldO A O)
 | [], _, _, _, hs, h => ⟨hs, h⟩
 | b :: A, L, O, hA, hs, h =>
  have h1 := hs.tabL b (hA b List.mem_cons_self).right h
  foldL_rep A _ _ (fun x hx => hA x (List.mem_cons_of_mem _ hx)) h1.1 h1.2
def Least (s : Int × Bool) (O : Opn) : Prop := (s.2 = true ∧ 0 ≤ s.1 ∧ (∃ id, O id = s.1) ∧ ∀ id, 0 ≤ O id → s.1 ≤ O id) ∨ (s = (-1, false) ∧ ∀ id, O id < 0)
theorem Least.eq {s t O} (h : Least s O) (h' : Least t O) : s = t := by
 obtain ⟨a, b⟩ := s
 obtain ⟨c, d⟩ := t
 rcases h with ⟨h1, h2, ⟨i, h3⟩, h4⟩ | ⟨h1, h2⟩ <;> rcases h' with ⟨g1, g2, ⟨j, g3⟩, g4⟩ | ⟨g1, g2⟩
 ·simp only at *
  have e1 := h4 j (by omega)
  have e2 := g4 i (by omega)
  subst h1; subst g1
  congr 1; omega
 ·have := g2 i; simp only at *; omega
 ·have := h2 j; simp only at *; omega
 ·rw [h1, g1]
theorem openS_fold : ∀ (l : List Pr) (s : Int × Bool), (s.2 = true → 0 ≤ s.1) → (s.2 = false → s.1 = -1) →
  ((l.foldl openS s).2 = true ∧ 0 ≤ (l.foldl openS s).1 ∧ ((s.2 = true ∧ (l.foldl openS s).1 = s.1) ∨ ∃ p ∈ l, p.open_ = (l.foldl openS s).1) ∧ (s.2 = true → (l.foldl openS s).1 ≤ s.1) ∧ ∀ p ∈ l, 0 ≤ p.open_ → (l.foldl openS s).1 ≤ p.open_) ∨
  (l.foldl openS s = (-1, false) ∧ s.2 = false ∧ ∀ p ∈ l, p.open_ < 0)
 | [], (a, b), h1, h2 => by
  cases b with
  | true => exact .inl ⟨rfl, h1 rfl, .inl ⟨rfl, rfl⟩, fun _ => Int.le_refl _, by simp⟩
  | false => refine .inr ⟨?_, rfl, by simp⟩; have := h2 rfl; simp only at this; rw [this]; rfl
 | p :: l, (a, b), h1, h2 => by
  simp only [List.foldl_cons]
  by_cases c : p.open_ ≥ 0 ∧ (b = false ∨ p.open_ < a)
  ·have e : openS (a, b) p = (p.open_, true) := by unfold openS; rw [if_pos c]
   rw [e]
   rcases openS_fold l (p.open_, true) (fun _ => c.1) (fun h => by cases h) with ⟨g1, g2, g3, g4, g5⟩ | ⟨g1, g2, g3⟩
   ·refine .inl ⟨g1, g2, .inr ?_, ?_, ?_⟩
    ·rcases g3 with ⟨_, g⟩ | ⟨q, hq, g⟩
     ·exact ⟨p, List.mem_cons_self, g.symm⟩
     ·exact ⟨q, List.mem_cons_of_mem _ hq, g⟩
    ·intro hb
     have := g4 rfl
     rcases c.2 with c2 | c2
     ·rw [hb] at c2; cases c2
     ·simp only at this ⊢; omega
    ·intro q hq h0
     rcases List.mem_cons.1 hq with rfl | hq
     ·exact g4 rfl
     ·exact g5 q hq h0
   ·cases g2
  ·have e : openS (a, b) p = (a, b) := by unfold openS; rw [if_neg c]
   rw [e]
   rcases openS_fold l (a, b) h1 h2 with ⟨g1, g2, g3, g4, g5⟩ | ⟨g1, g2, g3⟩
   ·refine .inl ⟨g1, g2, ?_, g4, ?_⟩
    ·rcases g3 with g | ⟨q, hq, g⟩
     ·exact .inl g
     ·exact .inr ⟨q, List.mem_cons_of_mem _ hq, g⟩
    ·intro q hq h0
     rcases List.mem_cons.1 hq with rfl | hq
     ·cases b with
      | false => exact absurd ⟨h0, .inl rfl⟩ c
      | true =>
       have := g4 rfl
       have : ¬ q.open_ < a := fun h => c ⟨h0, .inr h⟩
       simp only at *; omega
     ·exact g5 q hq h0
   ·refine .inr ⟨g1, g2, ?_⟩
    intro q hq
    rcases List.mem_cons.1 hq with rfl | hq
    ·simp only at g2
     subst g2
     have : ¬ q.open_ ≥ 0 := fun h => c ⟨h, .inl rfl⟩
     omega
    ·exact g3 q hq
theorem Rep.least {M O} (h : Rep M O) : Least (openM M) O := by
 have hin : ∀ id, 0 ≤ O id → ∃ p ∈ M, p.id = id ∧ p.open_ = O id := by
  intro id h0
  by_cases hex : ∃ p ∈ M, p.id = id
  ·obtain ⟨p, hp, e⟩ := hex
   exact ⟨p, hp, e, by rw [h.val p hp, e]⟩
  ·have := h.neg id (fun p hp e => hex ⟨p, hp, e⟩)
   omega
 unfold openM
 rcases openS_fold M (-1, false) (fun h => by cases h) (fun _ => rfl) with ⟨g1, g2, g3, g4, g5⟩ | ⟨g1, g2, g3⟩
 ·refine .inl ⟨g1, g2, ?_, ?_⟩
  ·rcases g3 with ⟨g, _⟩ | ⟨q, hq, g⟩
   ·cases g
   ·exact ⟨q.id, by rw [← h.val q hq, g]⟩
  ·intro id h0
   obtain ⟨p, hp, _, e⟩ := hin id h0
   rw [← e] at h0 ⊢
   exact g5 p hp h0
 ·refine .inr ⟨g1, fun id => ?_⟩
  by_cases h0 : 0 ≤ O id
  ·obtain ⟨p, hp, _, e⟩ := hin id h0
   have := g3 p hp; omega
  ·omega
theorem open_same (A : List Ba) (hA : ∀ b ∈ A, Fit b) : openM (foldM A []) = openM (foldL A []) :=
 (foldM_rep A _ _ hA rep_nil).least.eq (foldL_rep A _ _ hA List.Pairwise.nil rep_nil).2.least
theorem open_least (A : List Ba) (hA : ∀ b ∈ A, Fit b) : Least (openM (foldM A [])) (opens A) := (foldM_rep A _ _ hA rep_nil).least
def stepR (l : Int) (p : Pr) : Int := if p.open_ ≥ 0 ∧ (l < 0 ∨ p.open_ < l) then p.open_ else l
theorem stepR_S : ∀ (L : List Pr) (s : Int × Bool), s.2 = decide (s.1 ≥ 0) → (L.foldl openS s).1 = L.foldl stepR s.1 ∧ (L.foldl openS s).2 = decide ((L.foldl openS s).1 ≥ 0)
 | [], s, h => ⟨rfl, h⟩
 | p :: L, (a, b), h => by
  simp only at h
  have e : (openS (a, b) p).1 = stepR a p ∧ (openS (a, b) p).2 = decide ((openS (a, b) p).1 ≥ 0) := by
   unfold openS stepR
   by_cases c : p.open_ ≥ 0 ∧ (a < 0 ∨ p.open_ < a)
   ·have : p.open_ ≥ 0 ∧ (b = false ∨ p.open_ < a) := ⟨c.1, by rcases c.2 with c2 | c2; exact .inl (by rw [h]; simp; omega); exact .inr c2⟩
    rw [if_pos c, if_pos this]
    exact ⟨rfl, by simp [c.1]⟩
   ·have : ¬ (p.open_ ≥ 0 ∧ (b = false ∨ p.open_ < a)) := fun g => c ⟨g.1, by rcases g.2 with c2 | c2; exact .inl (by rw [h] at c2; simp at c2; omega); exact .inr c2⟩
    rw [if_neg c, if_neg this]
    exact ⟨rfl, h⟩
  have ih := stepR_S L (openS (a, b) p) e.2
  rw [e.1] at ih
  exact ih
theorem openM_R (L : List Pr) : L.foldl stepR (-1) = (openM L).1 ∧ (openM L).2 = decide ((openM L).1 ≥ 0) := by
 have := stepR_S L (-1, false) rfl
 exact ⟨this.1.symm, this.2⟩
theorem ropen_loop (L : List Pr) (hn : L.length ≤ 100000) (f : Fl) (hf : f = .ro ∨ (f = .full ∧ L = [])) (H : Heap) (r : List Pr) : ∀ (p : List Pr) (l : Int) (N : Heap), L = p ++ r →
  ∃ N', loopA W loopW (.ghost (.kill k_ref10_Table_Open_0) l_ref10_Table_Open_0) [(4, .int .i64 l), (10, .list 4 (L.map Pr.V) f), (11, .int .i64 (L.length : Nat)), (12, .int .i64 (p.length : Nat))] (hx H N) = some (.exit 0, [(4, .int .i64 (r.foldl stepR l))], hx H N') := by
 induction r with
 | nil =>
  intro p l N hp
  rw [List.append_nil] at hp
  subst hp
  refine ⟨N, ?_⟩
  have h1 : ¬ ((L.length : Int) < (L.length : Int)) := by omega
  rw [List.foldl_nil]
  refine loop_step l_ref10_Table_Open_0.eq_1 k_ref10_Table_Open_0.eq_1 (by kernel_rfl) ?_
  simp only [go_sem, h1, simprocAttr]
 | cons x r ih =>
  intro p l N hp
  have hf0 : f = .ro := by
   rcases hf with h | ⟨_, h⟩
   ·exact h
   ·rw [hp] at h; simp at h
  subst hf0
  have hlen : L.length = p.length + (r.length + 1) := by rw [hp]; simp
  have h1 : ((p.length : Int) < (L.length : Int)) := by omega
  have e0 : (0 : Int) ≤ (p.length : Int) := by omega
  have e7 : ((p.length : Nat) : Int).toNat = p.length := by omega
  have e1 : (L.map Pr.V)[p.length]? = some (.agg [.int .i64 x.id, .int .i64 x.epoch, .list 3 (x.last.map laV) .ro, .int .i64 x.open_]) := by rw [hp]; simp [Pr.V, Pr.cs]
  have e6 : IntKind.i64.wrap ((p.length : Int) + 1) = ((p.length + 1 : Nat) : Int) := by rw [wrap_id (by unfold I64; omega)]; omega
  have n1 : ∀ y : Box, (N ++ [y])[N.length]? = some y := fun y => by simp
  have n2 : ∀ y z : Box, (N ++ [y]).set N.length z = N ++ [z] := fun y z => by simp
  obtain ⟨N', h2⟩ := ih (p ++ [x]) (stepR l x) (N ++ [.cells x.cs]) (by rw [hp]; simp)
  simp only [List.length_append, List.length_cons, List.length_nil, Nat.zero_add] at h2
  refine ⟨N', ?_⟩
  rw [List.foldl_cons]
  unfold stepR at h2 ⊢
  unfold Pr.cs at *
  by_cases c1 : x.open_ ≥ 0
  ·by_cases c2 : l < 0
   ·rw [if_pos ⟨c1, .inl c2⟩] at h2 ⊢
    refine loop_step l_ref10_Table_Open_0.eq_1 k_ref10_Table_Open_0.eq_1 (by kernel_rfl) ?_
    simp only [go_sem, h1, e0, e7, e1, n1, n2, c1, c2, e6, simprocAttr]
    exact h2
   ·by_cases c3 : x.open_ < l
    ·rw [if_pos ⟨c1, .inr c3⟩] at h2 ⊢
     refine loop_step l_ref10_Table_Open_0.eq_1 k_ref10_Table_Open_0.eq_1 (by kernel_rfl) ?_
     simp only [go_sem, h1, e0, e7, e1, n1, n2, c1, c2, c3, e6, simprocAttr]
     exact h2
    ·rw [if_neg (fun h => by rcases h.2 with h | h; exact c2 h; exact c3 h)] at h2 ⊢
     refine loop_step l_ref10_Table_Open_0.eq_1 k_ref10_Table_Open_0.eq_1 (by kernel_rfl) ?_
     simp only [go_sem, h1, e0, e7, e1, n1, n2, c1, c2, c3, e6, simprocAttr]
     exact h2
  ·rw [if_neg (fun h => c1 h.1)] at h2 ⊢
   refine loop_step l_ref10_Table_Open_0.eq_1 k_ref10_Table_Open_0.eq_1 (by kernel_rfl) ?_
   simp only [go_sem, h1, e0, e7, e1, n1, n2, c1, e6, simprocAttr]
   exact h2
theorem ropen_spec (L : List Pr) (hn : L.length ≤ 100000) (fl : Fl) (hfl : fl = .own ∨ (fl = .full ∧ L = [])) (i : Nat) (H : Heap) (hi : Old H i (tabB L fl)) :
  W n_ref10_Table_Open [.ptr i 0] H = some (.tuple [.int .i64 (openM L).1, .bool (openM L).2], H) := by
 have h0 := fun f hf => ropen_loop L hn f hf H L [] (-1) [] rfl
 have hr := openM_R L
 rw [hr.1] at h0
 rw [hr.2]
 generalize (openM L).1 = m at *
 have gi := hi.get
 unfold tabB at gi
 simp only [List.length_nil, Int.natCast_zero] at h0
 refine W_fn rfl rfl ?_
 rcases hfl with rfl | ⟨rfl, rfl⟩
 ·obtain ⟨N, h⟩ := h0 .ro (.inl rfl)
  simp only [go_sem, c_ref10_Table_Open, gi, List.length_map, h, simprocAttr]
 ·obtain ⟨N, h⟩ := h0 .full (.inr ⟨rfl, rfl⟩)
  simp only [List.map_nil, List.length_nil, Int.natCast_zero] at h gi
  simp only [go_sem, c_ref10_Table_Open, gi, List.length_nil, Int.natCast_zero, h, simprocAttr]
def stableE (start : Int) (L : List Ba) : Int := if (openM (foldM L [])).2 = true then (openM (foldM L [])).1 else endE start L
theorem stable_spec (L : List Ba) (hL : ∀ b ∈ L, Fit b) (hn : L.length ≤ 1000) (start : Int) (H : Heap) :
  W n_fold_Stable [.int .i64 start, .list 7 (L.map Ba.V) .ro] H = some (.int .i64 (stableE start L), H) := by
 obtain ⟨N, t1⟩ := tfold_spec L (fun b hb => (hL b hb).ok) (fun b hb => by have := (rightE_small (hL b hb).right).1; omega) hn (hx H [])
 have t2 := fun N' => topen_spec (foldM L []) (pt H 1) (pt H 0) (hx H (mapB (foldM L []) :: tblB (pt H 0) :: N')) ⟨by rw [hx_get]; rfl⟩ ⟨by rw [hx_get]; rfl⟩
 have t3 := fun H => fend_spec L hL (by omega) start H
 unfold stableE
 have p1 : pt (hx H []) 1 = pt H 1 := by rw [pt_hx]; rfl
 have p0 : pt (hx H []) 0 = pt H 0 := by rw [pt_hx]; rfl
 rw [p1, p0, hx_hx, List.nil_append] at t1
 generalize openM (foldM L []) = s at *
 generalize mapB (foldM L []) = B at *
 obtain ⟨a, b⟩ := s
 refine W_fn rfl rfl ?_
 cases b with
 | true =>
  simp only [go_sem, c_fold_Stable, t1, t2, simprocAttr]
 | false =>
  simp only [go_sem, c_fold_Stable, t1, t2, t3, simprocAttr]
theorem eq_gt (x : Gt) : eqCells [.int .i64, .int .i64, .str, .str] [.int .i64 x.1, .int .i64 x.2.1, .str x.2.2.1, .str x.2.2.2] [.int .i64 x.1, .int .i64 x.2.1, .str x.2.2.1, .str x.2.2.2] = some true := by
 simp [eqCells]
theorem gots_loop (l : List Gt) (hn : l.length ≤ 1000000) (H : Heap) (r : List Gt) : ∀ (p : List Gt), l = p ++ r →
  loopA W loopW (.ghost (.kill k_ref14_Gots_0) l_ref14_Gots_0) [(0, .list 4 (l.map gV) .ro), (1, .list 4 (l.map gV) .ro), (12, .int .i64 (l.length : Nat)), (13, .int .i64 (p.length : Nat))] H = some (.exit 0, [], H) := by
 induction r with
 | nil =>
  intro p hp
  have h1 : ¬ ((p.length : Int) < (l.length : Int)) := by rw [hp]; simp
  refine loop_step l_ref14_Gots_0.eq_1 k_ref14_Gots_0.eq_1 (by kernel_rfl) ?_
  simp only [go_sem, h1, simprocAttr]
 | cons x r ih =>
  intro p hp
  have h1 : ((p.length : Int) < (l.length : Int)) := by rw [hp]; simp; omega
  have e0 : (0 : Int) ≤ (p.length : Int) := by omega
  have e7 : ((p.length : Nat) : Int).toNat = p.length := by omega
  have e1 : (l.map gV)[p.length]? = some (.agg [.int .i64 x.1, .int .i64 x.2.1, .str x.2.2.1, .str x.2.2.2]) := by rw [hp]; simp [gV]
  have hlen : l.length = p.length + (r.length + 1) := by rw [hp]; simp
  have e6 : IntKind.i64.wrap ((p.length : Int) + 1) = ((p.length + 1 : Nat) : Int) := by rw [wrap_id (by unfold I64; omega)]; omega
  have hq := eq_gt x
  have h2 := ih (p ++ [x]) (by rw [hp]; simp)
  simp only [List.length_append, List.length_cons, List.length_nil, Nat.zero_add] at h2
  refine loop_step l_ref14_Gots_0.eq_1 k_ref14_Gots_0.eq_1 (by kernel_rfl) ?_
  simp only [go_sem, h1, e0, e7, e1, hq, e6, simprocAttr]
  exact h2
theorem gots_self (l : List Gt) (hn : l.length ≤ 1000000) (H : Heap) : W n_ref14_Gots [.list 4 (l.map gV) .ro, .list 4 (l.map gV) .ro] H = some (.bool true, H) := by
 have h := gots_loop l hn H l [] rfl
 simp only [List.length_nil, Int.natCast_zero] at h
 refine W_fn0 rfl rfl ?_
 simp only [go_sem, trim_same, c_ref14_Gots, List.length_map, h, simprocAttr]
 first | done | rfl
def commL (top : Int) : List Ba → List Gt
 | [] => []
 | b :: l => (if b.txn = false ∨ keptQ b.prod l = true then recB b b.base top else []) ++ commL top l
theorem commL_len (top : Int) : ∀ (l : List Ba), (∀ b ∈ l, Fit b) → (commL top l).length ≤ 16 * l.length
 | [], _ => by simp [commL]
 | b :: l, h => by
  have h1 := commL_len top l (fun x hx => h x (List.mem_cons_of_mem _ hx))
  have h2 := recB_len b (h b List.mem_cons_self) b.base top
  unfold commL
  rw [List.length_append, List.length_cons]
  split
  ·omega
  ·simp only [List.length_nil]; omega
def topE (start : Int) (L : List Ba) (only : Bool) : Int := if only = true then stableE start L else endE start L
def fRecs (lo top n : Int) (L : List Ba) : List Gt := (recordsL lo top L).take n.toNat
def fNext (lo top n : Int) (R : List Gt) : Int := if (R.length : Int) = n then (match R.getLast? with | some g => g.1 + 1 | none => 0) else mx lo top
theorem recordsL_len (lo hi : Int) : ∀ (L : List Ba), (∀ b ∈ L, Fit b) → (recordsL lo hi L).length ≤ 16 * L.length
 | [], _ => by simp [recordsL]
 | b :: L, h => by
  have h1 := recordsL_len lo hi L (fun x hx => h x (List.mem_cons_of_mem _ hx))
  have h2 := recB_len b (h b List.mem_cons_self) lo hi
  unfold recordsL
  rw [List.length_append, List.length_cons]; omega
theorem recsF_off (b : Ba) (lo hi : Int) : ∀ (rs : List Rc) (i : Int), ∀ g ∈ recsF b lo hi i rs, lo ≤ g.1 ∧ g.1 < hi ∧ b.base + i ≤ g.1 ∧ g.1 < b.base + i + rs.length
 | [], _, g, h => by cases h
 | r :: rs, i, g, h => by
  unfold recsF at h
  have ih := recsF_off b lo hi rs (i + 1) g
  have hl : ((r :: rs).length : Int) = rs.length + 1 := by simp
  rw [hl]
  split at h
  ·rename_i c
   rcases List.mem_cons.1 h with rfl | h
   ·simp only; omega
   ·have := ih h; omega
  ·have := ih h; omega
theorem records_off (lo hi : Int) : ∀ (L : List Ba), (∀ b ∈ L, Fit b) → ∀ g ∈ recordsL lo hi L, lo ≤ g.1 ∧ g.1 < hi ∧ I64 (g.1 + 1)
 | [], _, g, h => by cases h
 | b :: L, hL, g, h => by
  unfold recordsL at h
  rcases List.mem_append.1 h with h | h
  ·unfold recB at h
   split at h
   ·have h1 := recsF_off b lo hi b.recs 0 g h
    have h2 := (hL b List.mem_cons_self).base
    have h3 := (rightE_small (hL b List.mem_cons_self).right).1
    refine ⟨h1.1, h1.2.1, ?_⟩
    unfold I64; omega
   ·cases h
  ·exact records_off lo hi L (fun x hx => hL x (List.mem_cons_of_mem _ hx)) g h
set_option maxHeartbeats 2000000 in
theorem fetch_spec (L : List Ba) (hL : ∀ b ∈ L, Fit b) (hn : L.length ≤ 1000) (start lo n : Int) (only : Bool) (h1 : 1 ≤ n) (h2 : n ≤ 64) (h3 : start ≤ lo) (h4 : lo ≤ endE start L) (H : Heap) :
  ∃ D : List La, W n_fold_Fetch [.int .i64 start, .list 7 (L.map Ba.V) .ro, .int .i64 lo, .int .i64 n, .bool only] H =
   some (.tuple [.agg [.list 4 ((fRecs lo (topE start L only) n L).map gV) .ro, .list 3 (D.map laV) .ro, .int .i64 (fNext lo (topE start L only) n (fRecs lo (topE start L only) n L)), .int .i64 (stableE start L)], .int .i64 0], H) ∧
   D = if only = true then (abOf L [] []).filter (inR lo (fNext lo (topE start L only) n (fRecs lo (topE start L only) n L))) else [] := by
 have te := fun H => fend_spec L hL (by omega) start H
 have ts := fun H => stable_spec L hL hn start H
 have tr := fun H => records_spec L hL hn start lo (topE start L only) H
 have ho := records_off lo (topE start L only) L hL
 have hln := recordsL_len lo (topE start L only) L hL
 have c1 : ¬ n < 1 := by omega
 have c2 : ¬ n > 64 := by omega
 have c3 : ¬ lo < start := by omega
 have c4 : ¬ lo > endE start L := by omega
 have hR : ∃ R, fRecs lo (topE start L only) n L = R := ⟨_, rfl⟩
 obtain ⟨R, hR⟩ := hR
 rw [hR]
 unfold fRecs at hR
 have m1 : mn ((recordsL lo (topE start L only) L).length : Int) n = (R.length : Nat) := by
  rw [← hR, List.length_take]; unfold mn; split <;> omega
 have g0 : (0 : Int) ≤ (R.length : Nat) := by omega
 have g1 : ((R.length : Nat) : Int) ≤ ((recordsL lo (topE start L only) L).length : Nat) := by rw [← hR, List.length_take]; omega
 have g2 : ((R.length : Nat) : Int).toNat = R.length := by omega
 have g3 : ((recordsL lo (topE start L only) L).map gV).take R.length = R.map gV := by
  rw [← List.map_take]
  congr 1
  rw [← hR, List.length_take]
  by_cases hc : n.toNat ≤ (recordsL lo (topE start L only) L).length
  ·rw [Nat.min_eq_left hc]
  ·rw [Nat.min_eq_right (by omega), List.take_of_length_le (by omega), List.take_of_length_le (by omega)]
 have ho' : ∀ g ∈ R, I64 (g.1 + 1) := fun g hg => (ho g (by rw [← hR] at hg; exact List.mem_of_mem_take hg)).2.2
 have tc := fun H => clip_got (R.map gV) .ro (.inl rfl) H
 generalize recordsL lo (topE start L only) L = R0 at *
 have hRl : R.length ≤ 64 := by rw [← hR, List.length_take]; omega
 clear hR
 cases only with
 | false =>
  simp only [topE, Bool.false_eq_true, if_false] at *
  generalize endE start L = top at *
  generalize stableE start L = st at *
  unfold fNext
  by_cases c5 : (R.length : Int) = n
  ·rcases List.eq_nil_or_concat R with rfl | ⟨R', g, hg⟩
   ·simp at c5; omega
   ·rw [List.concat_eq_append] at hg
    have hgo := ho' g (by rw [hg]; simp)
    have hl : R.length = R'.length + 1 := by rw [hg]; simp
    have w1 : IntKind.i64.wrap ((R.length : Int) - 1) = ((R'.length : Nat) : Int) := by rw [wrap_id (by unfold I64; omega)]; omega
    have e0 : (0 : Int) ≤ ((R'.length : Nat) : Int) := by omega
    have e7 : ((R'.length : Nat) : Int).toNat = R'.length := by omega
    have e1 : (R.map gV)[R'.length]? = some (.agg [.int .i64 g.1, .int .i64 g.2.1, .str g.2.2.1, .str g.2.2.2]) := by rw [hg]; simp [gV]
    have w2 : IntKind.i64.wrap (g.1 + 1) = g.1 + 1 := wrap_id hgo
    have e9 : R.getLast? = some g := by rw [hg]; simp
    rw [if_pos c5, e9]
    refine ⟨[], ?_, rfl⟩
    ·refine W_fn rfl rfl ?_
     simp only [go_sem, c_fold_Fetch, te, ts, tr, tc, c1, c2, c3, c4, m1, slH, g0, g1, g2, g3, List.length_map, mm_mn, eq_true c5, w1, e0, e7, e1, w2, under_g, simprocAttr]
     first | done | rfl
  ·rw [if_neg c5]
   refine ⟨[], ?_, rfl⟩
   ·refine W_fn rfl rfl ?_
    simp only [go_sem, c_fold_Fetch, te, ts, tr, tc, c1, c2, c3, c4, m1, slH, g0, g1, g2, g3, List.length_map, mm_mn, c5, under_g, simprocAttr]
    first | done | rfl
 | true =>
  simp only [topE, if_true] at *
  generalize endE start L = top at *
  generalize stableE start L = st at *
  unfold fNext
  by_cases c5 : (R.length : Int) = n
  ·rcases List.eq_nil_or_concat R with rfl | ⟨R', g, hg⟩
   ·simp at c5; omega
   ·rw [List.concat_eq_append] at hg
    have hgo := ho' g (by rw [hg]; simp)
    have hl : R.length = R'.length + 1 := by rw [hg]; simp
    have w1 : IntKind.i64.wrap ((R.length : Int) - 1) = ((R'.length : Nat) : Int) := by rw [wrap_id (by unfold I64; omega)]; omega
    have e0 : (0 : Int) ≤ ((R'.length : Nat) : Int) := by omega
    have e7 : ((R'.length : Nat) : Int).toNat = R'.length := by omega
    have e1 : (R.map gV)[R'.length]? = some (.agg [.int .i64 g.1, .int .i64 g.2.1, .str g.2.2.1, .str g.2.2.2]) := by rw [hg]; simp [gV]
    have w2 : IntKind.i64.wrap (g.1 + 1) = g.1 + 1 := wrap_id hgo
    have e9 : R.getLast? = some g := by rw [hg]; simp
    rw [if_pos c5, e9]
    obtain ⟨N, fl, ta, hfl, hal⟩ := abof_spec L (fun b hb => (hL b hb).ok) (fun b hb => by have := (rightE_small (hL b hb).right).1; omega) hn (hx H [.cells [.list 4 [] .full, .list 3 [] .full, .int .i64 0, .int .i64 0], .cells [.list 4 (R.map gV) .full, .list 3 [] .full, .int .i64 (g.1 + 1), .int .i64 st]])
    obtain ⟨f, tw, hf⟩ := abwithin_spec (abOf L [] []) (by omega) fl hfl lo (g.1 + 1) (pt H 2) (hx H (.cells [.list 4 [] .full, .list 3 [] .full, .int .i64 0, .int .i64 0] :: .cells [.list 4 (R.map gV) .full, .list 3 [] .full, .int .i64 (g.1 + 1), .int .i64 st] :: rwB (abOf L [] []) fl :: N)) ⟨by rw [hx_get]; rfl⟩
    simp only [hx_set, List.set_cons_succ, List.set_cons_zero] at tw
    refine ⟨(abOf L [] []).filter (inR lo (g.1 + 1)), ?_, rfl⟩
    have hlen2 : ((abOf L [] []).filter (inR lo (g.1 + 1))).length ≤ 1000 := Nat.le_trans (List.length_filter_le _ _) (by omega)
    generalize (abOf L [] []).filter (inR lo (g.1 + 1)) = D at *
    generalize rwB (abOf L [] []) fl = B at *
    generalize rwB (abOf L [] []) .uniq = B' at *
    ·refine W_fn rfl rfl ?_
     rcases hf with rfl | ⟨rfl, rfl⟩
     ·simp only [go_sem, c_fold_Fetch, te, ts, tr, tc, c1, c2, c3, c4, m1, slH, g0, g1, g2, g3, List.length_map, mm_mn, eq_true c5, w1, e0, e7, e1, w2, ta, tw, under_g, under_la, simprocAttr]
      first | done | rfl
     ·simp only [List.map_nil] at tw
      simp only [go_sem, c_fold_Fetch, te, ts, tr, tc, c1, c2, c3, c4, m1, slH, g0, g1, g2, g3, List.length_map, mm_mn, eq_true c5, w1, e0, e7, e1, w2, ta, tw, under_g, simprocAttr]
  ·rw [if_neg c5]
   obtain ⟨N, fl, ta, hfl, hal⟩ := abof_spec L (fun b hb => (hL b hb).ok) (fun b hb => by have := (rightE_small (hL b hb).right).1; omega) hn (hx H [.cells [.list 4 [] .full, .list 3 [] .full, .int .i64 0, .int .i64 0], .cells [.list 4 (R.map gV) .full, .list 3 [] .full, .int .i64 (mx lo st), .int .i64 st]])
   obtain ⟨f, tw, hf⟩ := abwithin_spec (abOf L [] []) (by omega) fl hfl lo (mx lo st) (pt H 2) (hx H (.cells [.list 4 [] .full, .list 3 [] .full, .int .i64 0, .int .i64 0] :: .cells [.list 4 (R.map gV) .full, .list 3 [] .full, .int .i64 (mx lo st), .int .i64 st] :: rwB (abOf L [] []) fl :: N)) ⟨by rw [hx_get]; rfl⟩
   simp only [hx_set, List.set_cons_succ, List.set_cons_zero] at tw
   refine ⟨(abOf L [] []).filter (inR lo (mx lo st)), ?_, rfl⟩
   have hlen2 : ((abOf L [] []).filter (inR lo (mx lo st))).length ≤ 1000 := Nat.le_trans (List.length_filter_le _ _) (by omega)
   generalize (abOf L [] []).filter (inR lo (mx lo st)) = D at *
   generalize rwB (abOf L [] []) fl = B at *
   generalize rwB (abOf L [] []) .uniq = B' at *
   ·refine W_fn rfl rfl ?_
    rcases hf with rfl | ⟨rfl, rfl⟩
    ·simp only [go_sem, c_fold_Fetch, te, ts, tr, tc, c1, c2, c3, c4, m1, slH, g0, g1, g2, g3, List.length_map, mm_mn, c5, ta, tw, under_g, under_la, simprocAttr]
     first | done | rfl
    ·simp only [List.map_nil] at tw
     simp only [go_sem, c_fold_Fetch, te, ts, tr, tc, c1, c2, c3, c4, m1, slH, g0, g1, g2, g3, List.length_map, mm_mn, c5, ta, tw, under_g, simprocAttr]
def RowC : Int → List Ba → Prop
 | _, [] => True
 | s, b :: l => b.base = s ∧ RowC (s + countE b) l
theorem endE_nil (s : Int) : endE s [] = s := rfl
theorem endE_cons (s : Int) (b : Ba) (l : List Ba) (h : b.base = s) : endE s (b :: l) = endE (s + countE b) l := by
 unfold endE
 cases l with
 | nil => simp [h]
 | cons c l =>
  obtain ⟨x, hx⟩ : ∃ x, (c :: l).getLast? = some x := ⟨_, List.getLast?_eq_some_getLast (by simp)⟩
  rw [List.getLast?_cons_cons, hx]
theorem RowC.snoc : ∀ {s : Int} {l : List Ba} {b : Ba}, RowC s l → b.base = endE s l → RowC s (l ++ [b])
 | s, [], b, _, h => ⟨h, trivial⟩
 | s, c :: l, b, h, k => ⟨h.1, RowC.snoc h.2 (by rw [k, endE_cons s c l h.1])⟩
theorem prodL_row {cap start L b} (h : RowC start L) : RowC start (prodL cap start L b) := by
 unfold prodL
 split
 ·exact h.snoc rfl
 ·exact h
theorem markL_row {cap start L p e m} (h : RowC start L) : RowC start (markL cap start L p e m) := by
 unfold markL
 split
 ·exact h.snoc rfl
 ·exact h
theorem rowStep_row {l cap start s} (h : RowC start s.L) : RowC start (rowStep l cap start s).L := by
 unfold rowStep
 simp only
 split
 ·exact prodL_row h
 ·exact markL_row h
theorem rowGo_row {l : List Int} {cap start : Int} {most : Nat} : ∀ (k : Nat) (s : RS), RowC start s.L → RowC start (rowGo l cap start most k s).L
 | 0, _, h => h
 | k + 1, s, h => by
  unfold rowGo
  split
  ·exact rowGo_row k _ (rowStep_row h)
  ·exact h
theorem row_rowC (l : List Int) (start : Int) (most : Nat) : RowC start (rowOf l start most) := rowGo_row _ _ trivial
theorem countE_pos {b : Ba} (h : Fit b) : 1 ≤ countE b := by
 have hr := h.right
 unfold countE
 split
 ·rename_i hm
  unfold rightE at hr
  split at hr
  ·cases hr
  ·first | rw [if_pos hm] at hr | skip
   unfold dataE at hr
   split at hr
   ·cases hr
   ·split at hr
    ·cases hr
    ·omega
 ·exact Int.le_refl _
theorem RowC.left : ∀ {s : Int} {A B : List Ba}, RowC s (A ++ B) → RowC s A
 | _, [], _, _ => trivial
 | _, b :: A, B, h => ⟨h.1, RowC.left h.2⟩
structure OIs (s : Int) (O : Opn) : Prop where
 pos : 0 ≤ s
 lo : ∀ id, -1 ≤ O id
 hi : ∀ id, O id < s
 inj : ∀ id id', O id = O id' → 0 ≤ O id → id = id'
theorem OIs.nil {s : Int} (h : 0 ≤ s) : OIs s (fun _ => -1) := ⟨h, fun _ => Int.le_refl _, fun _ => by show (-1 : Int) < s; omega, fun _ _ _ h => by have : (0 : Int) ≤ -1 := h; omega⟩
theorem stepO_cases (O : Opn) (b : Ba) (id : Int) : stepO O b id = O id ∨ (id = b.prod ∧ b.mark ≠ 0 ∧ stepO O b id = -1) ∨ (id = b.prod ∧ 0 ≤ b.prod ∧ O id < 0 ∧ b.txn = true ∧ b.mark = 0 ∧ stepO O b id = b.base) := by
 unfold stepO
 by_cases c : id = b.prod ∧ 0 ≤ b.prod
 ·rw [if_pos c]
  by_cases c2 : b.mark ≠ 0
  ·rw [if_pos c2]; exact .inr (.inl ⟨c.1, c2, rfl⟩)
  ·rw [if_neg c2]
   by_cases c3 : b.txn = true ∧ O id < 0
   ·rw [if_pos c3]; exact .inr (.inr ⟨c.1, c.2, c3.2, c3.1, by omega, rfl⟩)
   ·rw [if_neg c3]; exact .inl rfl
 ·rw [if_neg c]; exact .inl rfl
theorem OIs.step {s O b} (h : OIs s O) (hb : Fit b) (hs : b.base = s) : OIs (s + countE b) (stepO O b) where
 pos := by have := h.pos; have := countE_pos hb; omega
 lo := fun id => by
  have := h.lo id
  have := h.pos
  rcases stepO_cases O b id with e | ⟨_, _, e⟩ | ⟨_, _, _, _, _, e⟩ <;> omega
 hi := fun id => by
  have := h.hi id
  have := h.pos
  have := countE_pos hb
  rcases stepO_cases O b id with e | ⟨_, _, e⟩ | ⟨_, _, _, _, _, e⟩ <;> omega
 inj := fun id id' he h0 => by
  have h1 := h.hi id
  have h2 := h.hi id'
  rcases stepO_cases O b id with e | ⟨_, _, e⟩ | ⟨i1, _, _, _, _, e⟩ <;> rcases stepO_cases O b id' with e' | ⟨_, _, e'⟩ | ⟨i2, _, _, _, _, e'⟩
  ·exact h.inj id id' (by omega) (by omega)
  ·omega
  ·omega
  ·omega
  ·omega
  ·omega
  ·omega
  ·omega
  ·omega
theorem OIs.fold : ∀ {L : List Ba} {s : Int} {O : Opn}, OIs s O → (∀ b ∈ L, Fit b) → RowC s L → OIs (endE s L) (foldO L O)
 | [], s, O, h, _, _ => h
 | b :: L, s, O, h, hL, hr => by
  rw [endE_cons s b L hr.1]
  exact OIs.fold (h.step (hL b List.mem_cons_self) hr.1) (fun x hx => hL x (List.mem_cons_of_mem _ hx)) hr.2
theorem endE_le : ∀ {L : List Ba} {s : Int}, (∀ b ∈ L, Fit b) → RowC s L → s ≤ endE s L
 | [], s, _, _ => Int.le_refl _
 | b :: L, s, hL, hr => by
  rw [endE_cons s b L hr.1]
  have := endE_le (fun x hx => hL x (List.mem_cons_of_mem _ hx)) hr.2
  have := countE_pos (hL b List.mem_cons_self)
  omega
theorem endE_bound : ∀ {L : List Ba} {s : Int}, (∀ b ∈ L, Fit b) → RowC s L → endE s L ≤ s + 16 * L.length
 | [], s, _, _ => by simp [endE_nil]
 | b :: L, s, hL, hr => by
  rw [endE_cons s b L hr.1]
  have := endE_bound (fun x hx => hL x (List.mem_cons_of_mem _ hx)) hr.2
  have := (hL b List.mem_cons_self).count
  simp only [List.length_cons]; omega
theorem RowC.app : ∀ {A B : List Ba} {s : Int}, RowC s (A ++ B) → RowC (endE s A) B ∧ endE s (A ++ B) = endE (endE s A) B
 | [], B, s, h => ⟨h, rfl⟩
 | b :: A, B, s, h => by
  have ih := RowC.app (A := A) h.2
  rw [List.cons_append, endE_cons s b A h.1, endE_cons s b (A ++ B) h.1]
  exact ih
theorem later : ∀ {L : List Ba} {s : Int} {O : Opn}, (∀ b ∈ L, Fit b) → RowC s L → ∀ id, 0 ≤ foldO L O id → foldO L O id = O id ∨ s ≤ foldO L O id
 | [], s, O, _, _, id, _ => .inl rfl
 | b :: L, s, O, hL, hr, id, h => by
  have hc := countE_pos (hL b List.mem_cons_self)
  have hb := hr.1
  rcases later (O := stepO O b) (fun x hx => hL x (List.mem_cons_of_mem _ hx)) hr.2 id h with e | e
  ·have h' : 0 ≤ foldO L (stepO O b) id := h
   rw [e] at h'
   show foldO L (stepO O b) id = O id ∨ s ≤ foldO L (stepO O b) id
   rw [e]
   rcases stepO_cases O b id with e' | ⟨_, _, e'⟩ | ⟨_, _, _, _, _, e'⟩
   ·exact .inl e'
   ·omega
   ·exact .inr (by omega)
  ·have e : s + countE b ≤ foldO L (stepO O b) id := e
   show foldO L (stepO O b) id = O id ∨ s ≤ foldO L (stepO O b) id
   exact .inr (by omega)
def Stab (s : Int) (O : Opn) (v : Int) : Prop := (v = s ∧ ∀ id, O id < 0) ∨ (0 ≤ v ∧ (∃ id, O id = v) ∧ ∀ id, 0 ≤ O id → v ≤ O id)
theorem stable_stab (start : Int) (L : List Ba) (hL : ∀ b ∈ L, Fit b) : Stab (endE start L) (opens L) (stableE start L) := by
 have h := open_least L hL
 unfold stableE
 rcases h with ⟨h1, h2, h3, h4⟩ | ⟨h1, h2⟩
 ·rw [if_pos h1]; exact .inr ⟨h2, h3, h4⟩
 ·rw [h1, if_neg (by decide)]; exact .inl ⟨rfl, h2⟩
theorem Stab.le_end {s O v} (h : Stab s O v) (hO : OIs s O) : v ≤ s := by
 rcases h with ⟨h, _⟩ | ⟨_, ⟨id, h⟩, _⟩
 ·omega
 ·have := hO.hi id; omega
theorem Stab.mono {s O v s' O' v'} (h : Stab s O v) (hO : OIs s O) (h' : Stab s' O' v') (hs : s ≤ s') (hl : ∀ id, 0 ≤ O' id → O' id = O id ∨ s ≤ O' id) : v ≤ v' := by
 have hv := h.le_end hO
 rcases h' with ⟨h1, _⟩ | ⟨h1, ⟨id, h2⟩, _⟩
 ·omega
 ·rcases hl id (by omega) with e | e
  ·rcases h with ⟨g1, g2⟩ | ⟨_, _, g3⟩
   ·have := g2 id; omega
   ·have := g3 id (by omega); omega
  ·omega
theorem foldO_app (A B : List Ba) (O : Opn) : foldO (A ++ B) O = foldO B (foldO A O) := by unfold foldO; rw [List.foldl_append]
theorem stable_mono (A B : List Ba) (start : Int) (h0 : 0 ≤ start) (hf : ∀ b ∈ A ++ B, Fit b) (hr : RowC start (A ++ B)) : stableE start A ≤ stableE start (A ++ B) := by
 have hA : ∀ b ∈ A, Fit b := fun b hb => hf b (List.mem_append.2 (.inl hb))
 have hB : ∀ b ∈ B, Fit b := fun b hb => hf b (List.mem_append.2 (.inr hb))
 have h1 := stable_stab start A hA
 have h2 := stable_stab start (A ++ B) hf
 have hO : OIs (endE start A) (opens A) := (OIs.nil h0).fold hA hr.left
 have ha := RowC.app hr
 refine h1.mono hO h2 (by rw [ha.2]; exact endE_le hB ha.1) ?_
 intro id h
 rw [show opens (A ++ B) = foldO B (opens A) from foldO_app A B _] at h ⊢
 exact later hB ha.1 id h
theorem keptQ_app (p : Int) : ∀ (A B : List Ba), (∃ x ∈ A, x.mark ≠ 0 ∧ x.prod = p) → keptQ p (A ++ B) = keptQ p A
 | [], B, h => by obtain ⟨x, hx, _⟩ := h; cases hx
 | a :: A, B, h => by
  rw [List.cons_append]
  unfold keptQ
  by_cases c : a.mark ≠ 0 ∧ a.prod = p
  ·rw [if_pos c, if_pos c]
  ·rw [if_neg c, if_neg c]
   refine keptQ_app p A B ?_
   obtain ⟨x, hx, h1⟩ := h
   rcases List.mem_cons.1 hx with rfl | hx
   ·exact absurd h1 c
   ·exact ⟨x, hx, h1⟩
theorem open_stays (p : Int) : ∀ (A : List Ba) (O : Opn), (¬ ∃ x ∈ A, x.mark ≠ 0 ∧ x.prod = p) → 0 ≤ O p → foldO A O p = O p
 | [], O, _, _ => rfl
 | a :: A, O, h, h0 => by
  have e : stepO O a p = O p := by
   rcases stepO_cases O a p with e | ⟨e1, e2, _⟩ | ⟨_, _, e3, _, _, _⟩
   ·exact e
   ·exact absurd ⟨a, List.mem_cons_self, e2, e1.symm⟩ h
   ·omega
  have := open_stays p A (stepO O a) (fun ⟨x, hx, hh⟩ => h ⟨x, List.mem_cons_of_mem _ hx, hh⟩) (by rw [e]; exact h0)
  rw [e] at this
  exact this
theorem recsF_all (b : Ba) (lo hi hi' : Int) : ∀ (rs : List Rc) (i : Int), b.base + i + rs.length ≤ hi → b.base + i + rs.length ≤ hi' → recsF b lo hi i rs = recsF b lo hi' i rs
 | [], _, _, _ => rfl
 | r :: rs, i, h, h' => by
  have hl : ((r :: rs).length : Int) = rs.length + 1 := by simp
  rw [hl] at h h'
  have ih := recsF_all b lo hi hi' rs (i + 1) (by omega) (by omega)
  unfold recsF
  rw [ih]
  have e1 : b.base + i < hi := by omega
  have e2 : b.base + i < hi' := by omega
  simp only [e1, e2, and_true]
theorem recsF_none (b : Ba) (lo hi : Int) : ∀ (rs : List Rc) (i : Int), hi ≤ b.base + i → recsF b lo hi i rs = []
 | [], _, _ => rfl
 | r :: rs, i, h => by
  unfold recsF
  rw [if_neg (by omega)]
  exact recsF_none b lo hi rs (i + 1) (by omega)
theorem recB_none (b : Ba) (lo hi : Int) (h : hi ≤ b.base) : recB b lo hi = [] := by
 unfold recB
 split
 ·exact recsF_none b lo hi _ 0 (by omega)
 ·rfl
theorem commL_none (v : Int) : ∀ (A : List Ba) (s : Int), (∀ b ∈ A, Fit b) → RowC s A → v ≤ s → commL v A = []
 | [], _, _, _, _ => rfl
 | b :: A, s, hA, hr, h => by
  have hc := countE_pos (hA b List.mem_cons_self)
  have hb := hr.1
  unfold commL
  rw [recB_none b b.base v (by omega), commL_none v A _ (fun x hx => hA x (List.mem_cons_of_mem _ hx)) hr.2 (by omega)]
  simp
theorem noneB_txn {b : Ba} (hb : Fit b) (h : b.prod < 0) : b.txn = false := by
 have hr := hb.right
 unfold rightE at hr
 split at hr
 ·cases hr
 have hnm : namedB b = false := by unfold namedB; simp; intro h'; omega
 split at hr
 ·unfold dataE at hr
  cases hn : noneB b with
  | true => unfold noneB at hn; simp at hn; exact hn.2.2.2
  | false => simp [hn, hnm] at hr
 ·unfold markE at hr
  simp [hnm] at hr
theorem comm_prefix (B : List Ba) : ∀ (A : List Ba) (s : Int) (O : Opn) (v v' : Int), (∀ b ∈ A, Fit b) → RowC s A → OIs s O → Stab (endE s A) (foldO A O) v → v ≤ v' → commL v A <+: commL v' (A ++ B)
 | [], s, O, v, v', _, _, _, _, _ => List.nil_prefix
 | b :: A, s, O, v, v', hA, hr, hO, hst, hv => by
  have hb := hA b List.mem_cons_self
  have hA' : ∀ x ∈ A, Fit x := fun x hx => hA x (List.mem_cons_of_mem _ hx)
  have hc := countE_pos hb
  have hbs := hr.1
  have hO1 := hO.step hb hbs
  have hst' : Stab (endE (s + countE b) A) (foldO A (stepO O b)) v := by
   rw [← endE_cons s b A hbs]; exact hst
  have ih := comm_prefix B A (s + countE b) (stepO O b) v v' hA' hr.2 hO1 hst' hv
  have hend := endE_le hA' hr.2
  rw [List.cons_append]
  by_cases hm : b.mark = 0
  ·have hcn : countE b = (b.recs.length : Int) := by unfold countE; rw [if_pos hm]
   by_cases hlt : v < s + countE b
   ·-- not whole below: nothing of it, nothing behind it
    have hvs : v ≤ s := by
     rcases hst' with ⟨h1, _⟩ | ⟨h0, ⟨id, h1⟩, _⟩
     ·omega
     ·rcases later (O := stepO O b) hA' hr.2 id (by omega) with e | e
      ·rcases stepO_cases O b id with e' | ⟨_, _, e'⟩ | ⟨_, _, _, _, _, e'⟩
       ·have := hO.hi id; omega
       ·omega
       ·omega
      ·omega
    rw [commL_none v (b :: A) s hA hr hvs]
    exact List.nil_prefix
   ·have hre : recB b b.base v' = recB b b.base v := by
     unfold recB
     rw [if_pos hm, if_pos hm]
     exact recsF_all b b.base v' v b.recs 0 (by omega) (by omega)
    have hk : (b.txn = false ∨ keptQ b.prod (A ++ B) = true) ↔ (b.txn = false ∨ keptQ b.prod A = true) := by
     by_cases ht : b.txn = false
     ·simp [ht]
     ·by_cases hex : ∃ x ∈ A, x.mark ≠ 0 ∧ x.prod = b.prod
      ·rw [keptQ_app b.prod A B hex]
      ·exfalso
       have htx : b.txn = true := by simpa using ht
       have hp : 0 ≤ b.prod := by
        by_cases hp : b.prod < 0
        ·rw [noneB_txn hb hp] at htx; cases htx
        ·omega
       have ho : 0 ≤ stepO O b b.prod ∧ stepO O b b.prod ≤ s := by
        unfold stepO
        rw [if_pos ⟨rfl, hp⟩, if_neg (by omega)]
        by_cases h0 : O b.prod < 0
        ·rw [if_pos ⟨htx, h0⟩]; have := hO.pos; omega
        ·rw [if_neg (by omega)]; have := hO.hi b.prod; omega
       have hst2 := open_stays b.prod A (stepO O b) hex ho.1
       rcases hst' with ⟨_, h1⟩ | ⟨_, _, h1⟩
       ·have := h1 b.prod; omega
       ·have := h1 b.prod (by omega); omega
    unfold commL
    rw [hre]
    by_cases hcc : b.txn = false ∨ keptQ b.prod A = true
    ·rw [if_pos hcc, if_pos (hk.2 hcc)]
     exact (List.prefix_append_right_inj _).2 ih
    ·rw [if_neg hcc, if_neg (fun h => hcc (hk.1 h))]
     exact ih
  ·have e : ∀ w, recB b b.base w = [] := fun w => by unfold recB; rw [if_neg hm]
   unfold commL
   rw [e, e]
   simpa using ih
theorem comm_take (L : List Ba) (k : Nat) (hf : ∀ b ∈ L, Fit b) (hr : RowC 0 L) : commL (stableE 0 (L.take k)) (L.take k) <+: commL (stableE 0 L) L := by
 have hL := List.take_append_drop k L
 have hA : ∀ b ∈ L.take k, Fit b := fun b hb => hf b (List.mem_of_mem_take hb)
 have hrA : RowC 0 (L.take k) := by rw [← hL] at hr; exact hr.left
 have hm := stable_mono (L.take k) (L.drop k) 0 (by decide) (by rw [hL]; exact hf) (by rw [hL]; exact hr)
 rw [hL] at hm
 have := comm_prefix (L.drop k) (L.take k) 0 (fun _ => -1) _ _ hA hrA (OIs.nil (by decide)) (stable_stab 0 _ hA) hm
 rw [hL] at this
 exact this
abbrev Rise (l : List Gt) : Prop := l.Pairwise (fun x y => x.1 < y.1)
theorem recsF_rise (b : Ba) (lo hi : Int) : ∀ (rs : List Rc) (i : Int), Rise (recsF b lo hi i rs)
 | [], _ => List.Pairwise.nil
 | r :: rs, i => by
  have ih := recsF_rise b lo hi rs (i + 1)
  have ho := recsF_off b lo hi rs (i + 1)
  unfold recsF
  split
  ·refine List.pairwise_cons.2 ⟨fun g hg => ?_, ih⟩
   have := ho g hg
   simp only; omega
  ·exact ih
theorem records_rise (lo hi : Int) : ∀ (L : List Ba) (s : Int), (∀ b ∈ L, Fit b) → RowC s L → Rise (recordsL lo hi L) ∧ ∀ g ∈ recordsL lo hi L, s ≤ g.1
 | [], _, _, _ => ⟨List.Pairwise.nil, by simp [recordsL]⟩
 | b :: L, s, hL, hr => by
  have ih := records_rise lo hi L (s + countE b) (fun x hx => hL x (List.mem_cons_of_mem _ hx)) hr.2
  have hc := countE_pos (hL b List.mem_cons_self)
  have hb := hr.1
  unfold recordsL recB
  by_cases hm : b.mark = 0
  ·have hcn : countE b = (b.recs.length : Int) := by unfold countE; rw [if_pos hm]
   rw [if_pos hm]
   have ho := recsF_off b lo hi b.recs 0
   refine ⟨List.pairwise_append.2 ⟨recsF_rise b lo hi _ 0, ih.1, fun x hx y hy => ?_⟩, fun g hg => ?_⟩
   ·have h1 := ho x hx; have h2 := ih.2 y hy; omega
   ·rcases List.mem_append.1 hg with h | h
    ·have h1 := ho g h; omega
    ·have h2 := ih.2 g h; omega
  ·rw [if_neg hm, List.nil_append]
   exact ⟨ih.1, fun g hg => by have := ih.2 g hg; omega⟩
end Go.Abs
