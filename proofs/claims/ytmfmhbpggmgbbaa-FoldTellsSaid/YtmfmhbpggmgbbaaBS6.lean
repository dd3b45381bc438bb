import Derived.Test.YtmfmhbpggmgbbaaBS5
set_option linter.unusedVariables false
set_option linter.unusedSimpArgs false
namespace Go.Abs
open Go Go.RowKit
def recI (b : Ba) (lo hi i : Int) (rs : List Rc) : List Gt := if b.mark = 0 then recsF b lo hi i rs else []
theorem recI_nil (b lo hi i) : recI b lo hi i [] = [] := by unfold recI; split <;> rfl
theorem recI_cons (b : Ba) (lo hi i : Int) (a : Rc) (r : List Rc) : recI b lo hi i (a :: r) = (if b.mark = 0 ∧ b.base + i ≥ lo ∧ b.base + i < hi then [(b.base + i, b.prod, a)] else []) ++ recI b lo hi (i + 1) r := by
 unfold recI
 by_cases c : b.mark = 0
 ·simp only [c, if_true, true_and]
  rw [show recsF b lo hi i (a :: r) = if b.base + i ≥ lo ∧ b.base + i < hi then (b.base + i, b.prod, a) :: recsF b lo hi (i + 1) r else recsF b lo hi (i + 1) r from rfl]
  split <;> rfl
 ·simp [c]
theorem rrecs_loop (b : Ba) (hb : Fit b) (lo hi : Int) (X : AVal) (n m : Int) (k : Nat) (H : Heap) (r : List Rc) : ∀ (p : List Rc) (out : List Gt) (fl : Fl) (N : Heap), b.recs = p ++ r → out.length ≤ 100000 + p.length →
  N[k]? = some (.cells b.cs) → (fl = .own ∨ (fl = .full ∧ out = [])) →
  ∃ N' fl', loopA W loopW (.ghost (.kill k_ref14_Records_0) l_ref14_Records_0) [(1, .int .i64 lo), (2, .int .i64 hi), (7, .list 4 (out.map gV) fl), (9, .ptr (pt H k) 0), (13, X), (14, .int .i64 n), (15, .int .i64 m), (20, .list 2 (b.recs.map rcV) .ro), (21, .int .i64 (b.recs.length : Nat)), (22, .int .i64 (p.length : Nat))] (hx H N) =
   some (.exit 2, [(1, .int .i64 lo), (2, .int .i64 hi), (7, .list 4 ((out ++ recI b lo hi (p.length : Nat) r).map gV) fl'), (13, X), (14, .int .i64 n), (15, .int .i64 m)], hx H N') ∧ (fl' = .own ∨ (fl' = .full ∧ out ++ recI b lo hi (p.length : Nat) r = [])) := by
 induction r with
 | nil =>
  intro p out fl N hp ho hk hfl
  rw [List.append_nil] at hp
  rw [recI_nil, List.append_nil]
  refine ⟨N, fl, ?_, hfl⟩
  have h1 : ¬ ((p.length : Int) < (p.length : Int)) := by omega
  rw [hp]
  refine loop_step l_ref14_Records_0.eq_1 k_ref14_Records_0.eq_1 (by kernel_rfl) ?_
  simp only [go_sem, h1, simprocAttr]
 | cons a r ih =>
  intro p out fl N hp ho hk hfl
  have hsm := (rightE_small hb.right).1
  have hbase := hb.base
  have hlen : b.recs.length = p.length + (r.length + 1) := by rw [hp]; simp
  have h1 : ((p.length : Int) < (b.recs.length : Int)) := by omega
  have e0 : (0 : Int) ≤ (p.length : Int) := by omega
  have e7 : ((p.length : Nat) : Int).toNat = p.length := by omega
  have e1 : (b.recs.map rcV)[p.length]? = some (.agg [.str a.1, .str a.2]) := by rw [hp]; simp [rcV]
  have e6 : IntKind.i64.wrap ((p.length : Int) + 1) = ((p.length + 1 : Nat) : Int) := by rw [wrap_id (by unfold I64; omega)]; omega
  have w1 : IntKind.i64.wrap (b.base + (p.length : Int)) = b.base + (p.length : Int) := wrap_id (by unfold I64; omega)
  have n0 : k < N.length := (List.getElem?_eq_some_iff.1 hk).1
  have n3 : (N ++ [.cells [.str a.1, .str a.2]])[k]? = some (.cells [.int .i64 b.base, .int .i64 b.prod, .int .i64 b.epoch, .int .i64 b.seq, .bool b.txn, .int .i64 b.mark, .list 2 (b.recs.map rcV) .ro]) := by rw [List.getElem?_append_left n0, hk]; rfl
  have n1 : ∀ x : Box, (N ++ [x])[N.length]? = some x := fun x => by simp
  have n2 : ∀ x z : Box, (N ++ [x]).set N.length z = N ++ [z] := fun x z => by simp
  rw [recI_cons]
  have key : ∀ out' fl', (out' = out ++ (if b.mark = 0 ∧ b.base + (p.length : Int) ≥ lo ∧ b.base + (p.length : Int) < hi then [(b.base + (p.length : Int), b.prod, a)] else [])) → (fl' = .own ∨ (fl' = .full ∧ out' = [])) →
    ∃ N' fl'', loopA W loopW (.ghost (.kill k_ref14_Records_0) l_ref14_Records_0) [(1, .int .i64 lo), (2, .int .i64 hi), (7, .list 4 (out'.map gV) fl'), (9, .ptr (pt H k) 0), (13, X), (14, .int .i64 n), (15, .int .i64 m), (20, .list 2 (b.recs.map rcV) .ro), (21, .int .i64 (b.recs.length : Nat)), (22, .int .i64 (p.length + 1 : Nat))] (hx H (N ++ [.cells [.str a.1, .str a.2]])) =
   some (.exit 2, [(1, .int .i64 lo), (2, .int .i64 hi), (7, .list 4 ((out' ++ recI b lo hi ((p.length : Nat) + 1) r).map gV) fl''), (13, X), (14, .int .i64 n), (15, .int .i64 m)], hx H N') ∧ (fl'' = .own ∨ (fl'' = .full ∧ out' ++ recI b lo hi ((p.length : Nat) + 1) r = [])) := by
   intro out' fl' ho' hfl'
   have hl' : out'.length ≤ 100000 + (p ++ [a]).length := by
    rw [ho']; split <;> simp <;> omega
   have h3 : (N ++ [Box.cells [.str a.1, .str a.2]])[k]? = some (.cells b.cs) := by rw [List.getElem?_append_left n0, hk]
   obtain ⟨N', fl'', h, hh⟩ := ih (p ++ [a]) out' fl' (N ++ [.cells [.str a.1, .str a.2]]) (by rw [hp]; simp) hl' h3 hfl'
   simp only [List.length_append, List.length_cons, List.length_nil, Nat.zero_add, Int.natCast_add, Int.cast_ofNat_Int] at h hh
   exact ⟨N', fl'', by simpa using h, hh⟩
  by_cases c0 : b.mark = 0
  ·by_cases c1 : b.base + (p.length : Int) ≥ lo
   ·by_cases c2 : b.base + (p.length : Int) < hi
    ·rw [if_pos ⟨c0, c1, c2⟩] at key ⊢
     obtain ⟨N', fl'', h, hh⟩ := key _ .own rfl (.inl rfl)
     rw [List.append_assoc] at h hh
     refine ⟨N', fl'', ?_, hh⟩
     have bb : (out.length + 1) * 48 ≤ maxBytes := by simp only [maxBytes]; omega
     have b0 : (0 + 1) * 48 ≤ maxBytes := by decide
     have e8 : out.map gV ++ [.agg [.int .i64 (b.base + (p.length : Int)), .int .i64 b.prod, .str a.1, .str a.2]] = (out ++ [(b.base + (p.length : Int), b.prod, a)]).map gV := by simp [gV]
     generalize recI b lo hi ((p.length : Nat) + 1) r = R at *
     refine loop_step l_ref14_Records_0.eq_1 k_ref14_Records_0.eq_1 (by kernel_rfl) ?_
     rcases hfl with rfl | ⟨rfl, rfl⟩
     ·simp only [go_sem, h1, e0, e7, e1, n1, n2, n3, w1, eq_true c0, c1, c2, List.length_map, apO, bb, e8, e6, simprocAttr]
      exact h
     ·simp only [List.map_nil, List.nil_append] at *
      simp only [go_sem, h1, e0, e7, e1, n1, n2, n3, w1, eq_true c0, c1, c2, List.length_map, apF, List.length_nil, b0, List.nil_append, e6, simprocAttr]
      rw [e8]
      exact h
    ·rw [if_neg (fun h => c2 h.2.2)] at key ⊢
     obtain ⟨N', fl'', h, hh⟩ := key out fl (by rw [List.append_nil]) hfl
     rw [List.nil_append]
     refine ⟨N', fl'', ?_, hh⟩
     generalize recI b lo hi ((p.length : Nat) + 1) r = R at *
     refine loop_step l_ref14_Records_0.eq_1 k_ref14_Records_0.eq_1 (by kernel_rfl) ?_
     simp only [go_sem, h1, e0, e7, e1, n1, n2, n3, w1, eq_true c0, c1, c2, e6, simprocAttr]
     exact h
   ·rw [if_neg (fun h => c1 h.2.1)] at key ⊢
    obtain ⟨N', fl'', h, hh⟩ := key out fl (by rw [List.append_nil]) hfl
    rw [List.nil_append]
    refine ⟨N', fl'', ?_, hh⟩
    generalize recI b lo hi ((p.length : Nat) + 1) r = R at *
    refine loop_step l_ref14_Records_0.eq_1 k_ref14_Records_0.eq_1 (by kernel_rfl) ?_
    simp only [go_sem, h1, e0, e7, e1, n1, n2, n3, w1, eq_true c0, c1, e6, simprocAttr]
    exact h
  ·rw [if_neg (fun h => c0 h.1)] at key ⊢
   obtain ⟨N', fl'', h, hh⟩ := key out fl (by rw [List.append_nil]) hfl
   rw [List.nil_append]
   refine ⟨N', fl'', ?_, hh⟩
   generalize recI b lo hi ((p.length : Nat) + 1) r = R at *
   refine loop_step l_ref14_Records_0.eq_1 k_ref14_Records_0.eq_1 (by kernel_rfl) ?_
   simp only [go_sem, h1, e0, e7, e1, n1, n2, n3, w1, c0, e6, simprocAttr]
   exact h
set_option maxHeartbeats 1000000 in
theorem rrecords_loop (L : List Ba) (hL : ∀ b ∈ L, Fit b) (hn : L.length ≤ 1000) (lo hi : Int) (f : Fl) (hf : f = .ro ∨ (f = .full ∧ L = [])) (H : Heap) (r : List Ba) : ∀ (p : List Ba) (out : List Gt) (fl : Fl) (N : Heap), L = p ++ r → out.length ≤ 16 * p.length → (fl = .own ∨ (fl = .full ∧ out = [])) →
  ∃ N' fl', loopA W loopW (.ghost (.kill k_ref14_Records_1) l_ref14_Records_1) [(1, .int .i64 lo), (2, .int .i64 hi), (7, .list 4 (out.map gV) fl), (13, .list 7 (L.map Ba.V) f), (14, .int .i64 (L.length : Nat)), (15, .int .i64 (p.length : Nat))] (hx H N) =
   some (.exit 0, [(7, .list 4 ((out ++ recordsL lo hi r).map gV) fl')], hx H N') ∧ (fl' = .own ∨ (fl' = .full ∧ out ++ recordsL lo hi r = [])) := by
 induction r with
 | nil =>
  intro p out fl N hp ho hfl
  rw [List.append_nil] at hp
  subst hp
  rw [show recordsL lo hi [] = [] from rfl, List.append_nil]
  refine ⟨N, fl, ?_, hfl⟩
  have h1 : ¬ ((L.length : Int) < (L.length : Int)) := by omega
  refine loop_step l_ref14_Records_1.eq_1 k_ref14_Records_1.eq_1 (by kernel_rfl) ?_
  simp only [go_sem, h1, simprocAttr]
 | cons b r ih =>
  intro p out fl N hp ho hfl
  have hf0 : f = .ro := by
   rcases hf with h | ⟨_, h⟩
   ·exact h
   ·rw [hp] at h; simp at h
  subst hf0
  have hb := hL b (by rw [hp]; simp)
  have hlen : L.length = p.length + (r.length + 1) := by rw [hp]; simp
  have h1 : ((p.length : Int) < (L.length : Int)) := by omega
  have e0 : (0 : Int) ≤ (p.length : Int) := by omega
  have e7 : ((p.length : Nat) : Int).toNat = p.length := by omega
  have e1 : (L.map Ba.V)[p.length]? = some (.agg [.int .i64 b.base, .int .i64 b.prod, .int .i64 b.epoch, .int .i64 b.seq, .bool b.txn, .int .i64 b.mark, .list 2 (b.recs.map rcV) .ro]) := by rw [hp]; simp [Ba.V, Ba.cs]
  have e6 : IntKind.i64.wrap ((p.length : Int) + 1) = ((p.length + 1 : Nat) : Int) := by rw [wrap_id (by unfold I64; omega)]; omega
  have n1 : ∀ x : Box, (N ++ [x])[N.length]? = some x := fun x => by simp
  have n2 : ∀ x z : Box, (N ++ [x]).set N.length z = N ++ [z] := fun x z => by simp
  obtain ⟨N1, fl1, h2, hf1⟩ := rrecs_loop b hb lo hi (.list 7 (L.map Ba.V) .ro) (L.length : Nat) (p.length : Nat) N.length H b.recs [] out fl (N ++ [.cells b.cs]) rfl (by omega) (by simp) hfl
  have er : recI b lo hi (([] : List Rc).length : Nat) b.recs = recB b lo hi := rfl
  rw [er] at h2 hf1
  have hrl := recB_len b hb lo hi
  obtain ⟨N', fl', h3, hf'⟩ := ih (p ++ [b]) (out ++ recB b lo hi) fl1 N1 (by rw [hp]; simp) (by simp; omega) hf1
  rw [List.append_assoc, show recB b lo hi ++ recordsL lo hi r = recordsL lo hi (b :: r) from rfl] at h3 hf'
  simp only [List.length_append, List.length_cons, List.length_nil, Nat.zero_add] at h3
  refine ⟨N', fl', ?_, hf'⟩
  generalize recordsL lo hi (b :: r) = R at *
  generalize recB b lo hi = R1 at *
  simp only [List.length_nil, Int.natCast_zero] at h2
  unfold Ba.cs at *
  refine loop_step l_ref14_Records_1.eq_1 k_ref14_Records_1.eq_1 (by kernel_rfl) ?_
  simp only [go_sem, h1, e0, e7, e1, n1, n2, List.length_map, h2, e6, simprocAttr]
  exact h3
theorem rrecords_spec (L : List Ba) (hL : ∀ b ∈ L, Fit b) (hn : L.length ≤ 1000) (lo hi : Int) (H : Heap) :
  ∃ f, W n_ref14_Records [.list 7 (L.map Ba.V) .ro, .int .i64 lo, .int .i64 hi] H = some (.list 4 ((recordsL lo hi L).map gV) f, H) ∧ (f = .own ∨ (f = .full ∧ recordsL lo hi L = [])) := by
 obtain ⟨N, fl, h, hf⟩ := rrecords_loop L hL hn lo hi .ro (.inl rfl) H L [] [] .full [] rfl (by simp) (.inr ⟨rfl, rfl⟩)
 simp only [List.length_nil, Int.natCast_zero, List.map_nil, List.nil_append] at h hf
 refine ⟨fl, ?_, hf⟩
 generalize recordsL lo hi L = R at *
 refine W_fn rfl rfl ?_
 rcases hf with rfl | ⟨rfl, rfl⟩
 ·simp only [go_sem, c_ref14_Records, List.length_map, h, under_g, simprocAttr]
 ·simp only [List.map_nil] at h ⊢
  simp only [go_sem, c_ref14_Records, List.length_map, h, simprocAttr]
  first | done | rfl
theorem foldF_ok14 : ∀ (A : List Ba) (L : List Pr) (fl : Fl), (fl = .own ∨ (fl = .full ∧ L = [])) → foldF A L fl = .own ∨ (foldF A L fl = .full ∧ foldL A L = [])
 | [], _, _, h => h
 | b :: A, L, fl, h => foldF_ok14 A (tabL L b) (newFl L b fl) (newFl_ok h)
theorem rstable_spec (L : List Ba) (hL : ∀ b ∈ L, Fit b) (hn : L.length ≤ 1000) (start : Int) (H : Heap) :
  W n_ref14_Stable [.int .i64 start, .list 7 (L.map Ba.V) .ro] H = some (.int .i64 (stableE start L), H) := by
 obtain ⟨M, t2⟩ := fold_spec L (fun b hb => (hL b hb).ok) hn (hx H [])
 have p0 : pt (hx H []) 0 = pt H 0 := by rw [hx_nil]
 rw [p0, hx_hx, List.nil_append] at t2
 have hTK := foldL_TK L [] 0 ⟨by simp, by simp⟩
 have hPl : (foldL L []).length ≤ 100000 := by have := hTK.len; omega
 have hfl : foldF L [] .full = .own ∨ (foldF L [] .full = .full ∧ foldL L [] = []) := foldF_ok14 L [] .full (.inr ⟨rfl, rfl⟩)
 have t3 := fun M => ropen_spec (foldL L []) hPl (foldF L [] .full) hfl (pt H 0) (hx H (tabB (foldL L []) (foldF L [] .full) :: M)) ⟨by rw [hx_get]; rfl⟩
 have t5 := fun H => end_spec start L hL hn .ro (.inl rfl) H
 have hst : stableE start L = if (openM (foldL L [])).2 = true then (openM (foldL L [])).1 else endE start L := by unfold stableE; rw [open_same L hL]
 rw [hst]
 generalize tabB (foldL L []) (foldF L [] .full) = B at *
 generalize openM (foldL L []) = s at *
 obtain ⟨a, b⟩ := s
 generalize (foldD L []).map laV = DD at *
 generalize dFl (foldD L []) = df at *
 refine W_fn rfl rfl ?_
 cases b with
 | true => simp only [go_sem, c_ref14_Stable, t2, t3, simprocAttr]
 | false => simp only [go_sem, c_ref14_Stable, t2, t3, t5, simprocAttr]
def markQ (p : Int) : List Ba → Int
 | [] => 1
 | x :: l => if x.mark ≠ 0 ∧ x.prod = p then x.mark else markQ p l
def nextM (b : Ba) (l : List Ba) : Int := if b.txn = true then markQ b.prod l else 1
theorem markQ_i64 (p : Int) : ∀ l : List Ba, (∀ b ∈ l, Fit b) → I64 (markQ p l)
 | [], _ => by show I64 1; exact i64_c (by decide) (by decide)
 | x :: l, h => by
  unfold markQ
  split
  ·exact (h x List.mem_cons_self).ok.mark
  ·exact markQ_i64 p l (fun y hy => h y (List.mem_cons_of_mem _ hy))
theorem rcomm_inner (b : Ba) (L : List Ba) (hn : L.length ≤ 1000) (X0 X1 X5 X6 X14 X15 X16 : AVal) (start top : Int) (i kb : Nat) (hi : i < L.length) (H : Heap) (N : Heap) (hk : N[kb]? = some (.cells b.cs))
  (E : List (Nat × AVal)) (out : AVal) (n m : Int) : ∀ (d : Nat) (mk : Int), i + d < L.length → mk = markQ b.prod (L.drop (i + d + 1)) → b.txn = true →
  loopA W loopW (.ghost (.kill k_ref14_Committed_0) l_ref14_Committed_0) [(0, .int .i64 start), (1, .list 7 (L.map Ba.V) .ro), (5, out), (6, .int .i64 top), (7, .int .i64 (i : Nat)), (8, .ptr (pt H kb) 0), (9, .int .i64 mk), (10, .int .i64 ((i + d : Nat) : Int)), (14, .list 7 (L.map Ba.V) .ro), (15, .int .i64 n), (16, .int .i64 m)] (hx H N) =
   some (.exit 2, [(0, .int .i64 start), (1, .list 7 (L.map Ba.V) .ro), (5, out), (6, .int .i64 top), (7, .int .i64 (i : Nat)), (9, .int .i64 (markQ b.prod (L.drop (i + 1)))), (14, .list 7 (L.map Ba.V) .ro), (15, .int .i64 n), (16, .int .i64 m)], hx H N) := by
 unfold Ba.cs at hk
 intro d
 induction d with
 | zero =>
  intro mk hd hmk ht
  rw [hmk]
  simp only [Nat.add_zero]
  have h1 : ¬ ((i : Int) > (i : Int)) := by omega
  refine loop_step l_ref14_Committed_0.eq_1 k_ref14_Committed_0.eq_1 (by kernel_rfl) ?_
  simp only [go_sem, h1, simprocAttr]
 | succ d ih =>
  intro mk hd hmk ht
  have h1 : (((i + (d + 1) : Nat) : Int) > (i : Int)) := by omega
  obtain ⟨x, hx'⟩ : ∃ x, L[i + (d + 1)]? = some x := ⟨_, List.getElem?_eq_getElem hd⟩
  have e0 : (0 : Int) ≤ ((i + (d + 1) : Nat) : Int) := by omega
  have e7 : (((i + (d + 1) : Nat)) : Int).toNat = i + (d + 1) := by omega
  have e1 : (L.map Ba.V)[i + (d + 1)]? = some (.agg [.int .i64 x.base, .int .i64 x.prod, .int .i64 x.epoch, .int .i64 x.seq, .bool x.txn, .int .i64 x.mark, .list 2 (x.recs.map rcV) .ro]) := by rw [List.getElem?_map, hx']; rfl
  have e6 : IntKind.i64.wrap (((i + (d + 1) : Nat) : Int) - 1) = ((i + d : Nat) : Int) := by rw [wrap_id (by unfold I64; omega)]; omega
  have hdr : L.drop (i + d + 1) = x :: L.drop (i + (d + 1) + 1) := by
   obtain ⟨hl, hx2⟩ := List.getElem?_eq_some_iff.1 hx'
   rw [← hx2]
   exact List.drop_eq_getElem_cons hl
  have hq : markQ b.prod (L.drop (i + d + 1)) = if x.mark ≠ 0 ∧ x.prod = b.prod then x.mark else mk := by
   rw [hdr, hmk]; rfl
  rw [ht] at hk
  by_cases c1 : x.mark = 0
  ·rw [if_neg (fun h => h.1 c1)] at hq
   have h2 := ih mk (by omega) hq.symm ht
   refine loop_step l_ref14_Committed_0.eq_1 k_ref14_Committed_0.eq_1 (by kernel_rfl) ?_
   simp only [go_sem, h1, hk, e0, e7, e1, eq_true c1, e6, simprocAttr]
   exact h2
  ·by_cases c2 : x.prod = b.prod
   ·rw [if_pos ⟨c1, c2⟩] at hq
    have h2 := ih x.mark (by omega) hq.symm ht
    refine loop_step l_ref14_Committed_0.eq_1 k_ref14_Committed_0.eq_1 (by kernel_rfl) ?_
    simp only [go_sem, h1, hk, e0, e7, e1, c1, eq_true c2, e6, simprocAttr]
    exact h2
   ·rw [if_neg (fun h => c2 h.2)] at hq
    have h2 := ih mk (by omega) hq.symm ht
    refine loop_step l_ref14_Committed_0.eq_1 k_ref14_Committed_0.eq_1 (by kernel_rfl) ?_
    simp only [go_sem, h1, hk, e0, e7, e1, c1, c2, e6, simprocAttr]
    exact h2
theorem rcomm_inner0 (b : Ba) (L : List Ba) (hn : L.length ≤ 1000) (start top : Int) (i kb : Nat) (hi : i < L.length) (H : Heap) (N : Heap) (hk : N[kb]? = some (.cells b.cs)) (out : AVal) (n m : Int) :
  loopA W loopW (.ghost (.kill k_ref14_Committed_0) l_ref14_Committed_0) [(0, .int .i64 start), (1, .list 7 (L.map Ba.V) .ro), (5, out), (6, .int .i64 top), (7, .int .i64 (i : Nat)), (8, .ptr (pt H kb) 0), (9, .int .i64 1), (10, .int .i64 (((L.length - 1 : Nat)) : Int)), (14, .list 7 (L.map Ba.V) .ro), (15, .int .i64 n), (16, .int .i64 m)] (hx H N) =
   some (.exit 2, [(0, .int .i64 start), (1, .list 7 (L.map Ba.V) .ro), (5, out), (6, .int .i64 top), (7, .int .i64 (i : Nat)), (9, .int .i64 (nextM b (L.drop (i + 1)))), (14, .list 7 (L.map Ba.V) .ro), (15, .int .i64 n), (16, .int .i64 m)], hx H N) := by
 unfold nextM
 cases ht : b.txn with
 | true =>
  rw [if_pos rfl]
  have := rcomm_inner b L hn .any .any .any .any .any .any .any start top i kb hi H N hk [] out n m (L.length - 1 - i) 1 (by omega) (by rw [List.drop_eq_nil_of_le (by omega)]; rfl) ht
  rw [show i + (L.length - 1 - i) = L.length - 1 by omega] at this
  exact this
 | false =>
  rw [if_neg (by decide)]
  unfold Ba.cs at hk
  rw [ht] at hk
  refine loop_step l_ref14_Committed_0.eq_1 k_ref14_Committed_0.eq_1 (by kernel_rfl) ?_
  by_cases c : (((L.length - 1 : Nat)) : Int) > (i : Int)
  ·simp only [go_sem, c, hk, simprocAttr]
  ·simp only [go_sem, c, simprocAttr]
def commR (start top : Int) : List Ba → List Gt
 | [] => []
 | b :: l => (if nextM b l = 1 then recB b start top else []) ++ commR start top l
set_option maxHeartbeats 1000000 in
theorem rcomm_loop (L : List Ba) (hL : ∀ b ∈ L, Fit b) (hn : L.length ≤ 1000) (start top : Int) (H : Heap) (r : List Ba) : ∀ (p : List Ba) (out : List Gt) (fl : Fl) (N : Heap), L = p ++ r → out.length ≤ 16 * p.length → (fl = .own ∨ (fl = .full ∧ out = [])) →
  ∃ N' fl', loopA W loopW (.ghost (.kill k_ref14_Committed_1) l_ref14_Committed_1) [(0, .int .i64 start), (1, .list 7 (L.map Ba.V) .ro), (5, .list 4 (out.map gV) fl), (6, .int .i64 top), (14, .list 7 (L.map Ba.V) .ro), (15, .int .i64 (L.length : Nat)), (16, .int .i64 (p.length : Nat))] (hx H N) =
   some (.exit 0, [(5, .list 4 ((out ++ commR start top r).map gV) fl')], hx H N') ∧ (fl' = .own ∨ (fl' = .full ∧ out ++ commR start top r = [])) := by
 induction r with
 | nil =>
  intro p out fl N hp ho hfl
  rw [List.append_nil] at hp
  subst hp
  rw [show commR start top [] = [] from rfl, List.append_nil]
  refine ⟨N, fl, ?_, hfl⟩
  have h1 : ¬ ((L.length : Int) < (L.length : Int)) := by omega
  refine loop_step l_ref14_Committed_1.eq_1 k_ref14_Committed_1.eq_1 (by kernel_rfl) ?_
  simp only [go_sem, h1, simprocAttr]
 | cons b r ih =>
  intro p out fl N hp ho hfl
  have hb := hL b (by rw [hp]; simp)
  have hlen : L.length = p.length + (r.length + 1) := by rw [hp]; simp
  have h1 : ((p.length : Int) < (L.length : Int)) := by omega
  have e0 : (0 : Int) ≤ (p.length : Int) := by omega
  have e7 : ((p.length : Nat) : Int).toNat = p.length := by omega
  have e1 : (L.map Ba.V)[p.length]? = some (.agg [.int .i64 b.base, .int .i64 b.prod, .int .i64 b.epoch, .int .i64 b.seq, .bool b.txn, .int .i64 b.mark, .list 2 (b.recs.map rcV) .ro]) := by rw [hp]; simp [Ba.V, Ba.cs]
  have e6 : IntKind.i64.wrap ((p.length : Int) + 1) = ((p.length + 1 : Nat) : Int) := by rw [wrap_id (by unfold I64; omega)]; omega
  have e5 : IntKind.i64.wrap ((L.length : Int) - 1) = (((L.length - 1 : Nat)) : Int) := by rw [wrap_id (by unfold I64; omega)]; omega
  have n1 : ∀ x : Box, (N ++ [x])[N.length]? = some x := fun x => by simp
  have n2 : ∀ x z : Box, (N ++ [x]).set N.length z = N ++ [z] := fun x z => by simp
  have g0 : (0 : Int) ≤ ((p.length + 1 : Nat) : Int) := by omega
  have g1 : ((p.length + 1 : Nat) : Int) ≤ (L.length : Int) := by omega
  have g2 : (p.length : Int) ≤ ((p.length + 1 : Nat) : Int) := by omega
  have g3 : ((p.length + 1 : Nat) : Int).toNat = p.length + 1 := by omega
  have d2 : ((L.map Ba.V).take (p.length + 1)).drop p.length = [b.V] := by rw [hp, ← List.map_take, ← List.map_drop]; show _ = [b].map Ba.V; congr 1; simp [List.take_append]
  have sm := slM 7 (L.map Ba.V) .ro .i64 .i64 (p.length : Int) ((p.length + 1 : Nat) : Int) (by simp)
  have ti := fun out => rcomm_inner0 b L hn start top p.length N.length (by omega) H (N ++ [.cells b.cs]) (by simp) out (L.length : Nat) (p.length : Nat)
  have hdr : L.drop (p.length + 1) = r := by rw [hp]; simp [List.drop_append]
  rw [hdr] at ti
  obtain ⟨fr, tr, hfr⟩ : ∃ fr, W n_ref14_Records [.list 7 [b.V] .ro, .int .i64 start, .int .i64 top] (hx H (N ++ [.cells b.cs])) = some (.list 4 ((recB b start top).map gV) fr, hx H (N ++ [.cells b.cs])) ∧ (fr = .own ∨ (fr = .full ∧ recB b start top = [])) := by
   have := rrecords_spec [b] (fun x hx => by rw [List.mem_singleton] at hx; rw [hx]; exact hb) (by simp) start top (hx H (N ++ [.cells b.cs]))
   rw [show recordsL start top [b] = recB b start top by show recB b start top ++ [] = _; rw [List.append_nil]] at this
   exact this
  have hrl := recB_len b hb start top
  have hcm : commR start top (b :: r) = (if nextM b r = 1 then recB b start top else []) ++ commR start top r := rfl
  rw [hcm]
  generalize nextM b r = nm at *
  generalize hRB : recB b start top = RB at *
  have bb : (out.length + RB.length) * 48 ≤ maxBytes := by simp only [maxBytes]; omega
  have b0 : (0 + RB.length) * 48 ≤ maxBytes := by simp only [maxBytes]; omega
  have e8 : out.map gV ++ RB.map gV = (out ++ RB).map gV := by simp
  by_cases c : nm = 1
  ·rw [if_pos c]
   subst c
   obtain ⟨N', fl', h, hh⟩ := ih (p ++ [b]) (out ++ RB) .own (N ++ [.cells b.cs]) (by rw [hp]; simp) (by simp; omega) (.inl rfl)
   rw [List.append_assoc] at h hh
   simp only [List.length_append, List.length_cons, List.length_nil, Nat.zero_add] at h
   refine ⟨N', fl', ?_, hh⟩
   generalize RB ++ commR start top r = R at *
   unfold Ba.cs at *
   refine loop_step l_ref14_Committed_1.eq_1 k_ref14_Committed_1.eq_1 (by kernel_rfl) ?_
   rcases hfl with rfl | ⟨rfl, rfl⟩
   ·rcases hfr with rfl | ⟨rfl, _⟩
    ·simp only [go_sem, h1, e0, e7, e1, n1, n2, List.length_map, e5, ti, e6, sm, g0, g1, g2, g3, d2, tr, apO, bb, e8, simprocAttr]
     exact h
    ·simp only [go_sem, h1, e0, e7, e1, n1, n2, List.length_map, e5, ti, e6, sm, g0, g1, g2, g3, d2, tr, apO, bb, e8, simprocAttr]
     exact h
   ·simp only [List.map_nil, List.nil_append] at *
    rcases hfr with rfl | ⟨rfl, _⟩
    ·simp only [go_sem, h1, e0, e7, e1, n1, n2, List.length_map, e5, ti, e6, sm, g0, g1, g2, g3, d2, tr, List.length_nil, apF, b0, List.nil_append, simprocAttr]
     exact h
    ·simp only [go_sem, h1, e0, e7, e1, n1, n2, List.length_map, e5, ti, e6, sm, g0, g1, g2, g3, d2, tr, List.length_nil, apF, b0, List.nil_append, simprocAttr]
     exact h
  ·rw [if_neg c, List.nil_append]
   obtain ⟨N', fl', h, hh⟩ := ih (p ++ [b]) out fl (N ++ [.cells b.cs]) (by rw [hp]; simp) (by simp; omega) hfl
   simp only [List.length_append, List.length_cons, List.length_nil, Nat.zero_add] at h
   refine ⟨N', fl', ?_, hh⟩
   unfold Ba.cs at *
   refine loop_step l_ref14_Committed_1.eq_1 k_ref14_Committed_1.eq_1 (by kernel_rfl) ?_
   simp only [go_sem, h1, e0, e7, e1, n1, n2, List.length_map, e5, ti, c, e6, simprocAttr]
   exact h
theorem rcommitted_spec (L : List Ba) (hL : ∀ b ∈ L, Fit b) (hn : L.length ≤ 1000) (start : Int) (H : Heap) :
  ∃ f, W n_ref14_Committed [.int .i64 start, .list 7 (L.map Ba.V) .ro] H = some (.list 4 ((commR start (stableE start L) L).map gV) f, H) ∧ (f = .own ∨ (f = .full ∧ commR start (stableE start L) L = [])) := by
 have ts := fun H => rstable_spec L hL hn start H
 obtain ⟨N, fl, h, hf⟩ := rcomm_loop L hL hn start (stableE start L) H L [] [] .full [] rfl (by simp) (.inr ⟨rfl, rfl⟩)
 simp only [List.length_nil, Int.natCast_zero, List.map_nil, List.nil_append] at h hf
 refine ⟨fl, ?_, hf⟩
 generalize stableE start L = top at *
 generalize commR start top L = R at *
 refine W_fn rfl rfl ?_
 rcases hf with rfl | ⟨rfl, rfl⟩
 ·simp only [go_sem, c_ref14_Committed, ts, List.length_map, h, under_g, simprocAttr]
 ·simp only [List.map_nil] at h ⊢
  simp only [go_sem, c_ref14_Committed, ts, List.length_map, h, simprocAttr]
  first | done | rfl
theorem recsF_lo (b : Ba) (lo lo' hi : Int) : ∀ (rs : List Rc) (i : Int), lo ≤ b.base + i → lo' ≤ b.base + i → recsF b lo hi i rs = recsF b lo' hi i rs
 | [], _, _, _ => rfl
 | r :: rs, i, h, h' => by
  have ih := recsF_lo b lo lo' hi rs (i + 1) (by omega) (by omega)
  unfold recsF
  rw [ih]
  have e1 : b.base + i ≥ lo := by omega
  have e2 : b.base + i ≥ lo' := by omega
  simp only [e1, e2, true_and]
theorem kept_mark (p : Int) : ∀ (A : List Ba), (∃ x ∈ A, x.mark ≠ 0 ∧ x.prod = p) → (keptQ p A = true ↔ markQ p A = 1)
 | [], h => by obtain ⟨x, hx, _⟩ := h; cases hx
 | a :: A, h => by
  unfold keptQ markQ
  by_cases c : a.mark ≠ 0 ∧ a.prod = p
  ·rw [if_pos c, if_pos c]; simp
  ·rw [if_neg c, if_neg c]
   refine kept_mark p A ?_
   obtain ⟨x, hx, h1⟩ := h
   rcases List.mem_cons.1 hx with rfl | hx
   ·exact absurd h1 c
   ·exact ⟨x, hx, h1⟩
theorem kept_none (p : Int) : ∀ (A : List Ba), (¬ ∃ x ∈ A, x.mark ≠ 0 ∧ x.prod = p) → keptQ p A = false
 | [], _ => rfl
 | a :: A, h => by
  unfold keptQ
  rw [if_neg (fun c => h ⟨a, List.mem_cons_self, c⟩)]
  exact kept_none p A (fun ⟨x, hx, h1⟩ => h ⟨x, List.mem_cons_of_mem _ hx, h1⟩)
theorem comm_same (start : Int) : ∀ (A : List Ba) (s : Int) (O : Opn) (v : Int), (∀ b ∈ A, Fit b) → RowC s A → OIs s O → Stab (endE s A) (foldO A O) v → start ≤ s → commL v A = commR start v A
 | [], _, _, _, _, _, _, _, _ => rfl
 | b :: A, s, O, v, hA, hr, hO, hst, hs => by
  have hb := hA b List.mem_cons_self
  have hA' : ∀ x ∈ A, Fit x := fun x hx => hA x (List.mem_cons_of_mem _ hx)
  have hc := countE_pos hb
  have hbs := hr.1
  have hst' : Stab (endE (s + countE b) A) (foldO A (stepO O b)) v := by
   rw [← endE_cons s b A hbs]; exact hst
  have ih := comm_same start A (s + countE b) (stepO O b) v hA' hr.2 (hO.step hb hbs) hst' (by omega)
  unfold commL commR
  rw [ih]
  congr 1
  have hlo : recB b start v = recB b b.base v := by
   unfold recB
   split
   ·exact recsF_lo b start b.base v _ 0 (by omega) (by omega)
   ·rfl
  rw [hlo]
  by_cases ht : b.txn = false
  ·rw [if_pos (.inl ht), if_pos (by unfold nextM; rw [ht]; rfl)]
  ·have htx : b.txn = true := by simpa using ht
   have hn : nextM b A = markQ b.prod A := by unfold nextM; rw [if_pos htx]
   rw [hn]
   by_cases hex : ∃ x ∈ A, x.mark ≠ 0 ∧ x.prod = b.prod
   ·by_cases hk : keptQ b.prod A = true
    ·rw [if_pos (.inr hk), if_pos ((kept_mark _ _ hex).1 hk)]
    ·rw [if_neg (by rintro (h | h); exact ht h; exact hk h), if_neg (fun h => hk ((kept_mark _ _ hex).2 h))]
   ·rw [if_neg (by rintro (h | h); exact ht h; rw [kept_none _ _ hex] at h; cases h)]
    by_cases hm : b.mark = 0
    ·have hp : 0 ≤ b.prod := by
      by_cases hp : b.prod < 0
      ·rw [noneB_txn hb hp] at htx; cases htx
      ·omega
     have ho : 0 ≤ stepO O b b.prod ∧ stepO O b b.prod ≤ s := by
      unfold stepO
      rw [if_pos ⟨rfl, hp⟩, if_neg (by omega)]
      by_cases h0 : O b.prod < 0
      ·rw [if_pos ⟨htx, h0⟩]; have := hO.pos; omega
      ·rw [if_neg (by omega)]; have := hO.hi b.prod; omega
     have hst2 := open_stays b.prod A (stepO O b) hex ho.1
     have hv : v ≤ b.base := by
      rcases hst' with ⟨_, h1⟩ | ⟨_, _, h1⟩
      ·have := h1 b.prod; omega
      ·have := h1 b.prod (by omega); omega
     rw [recB_none b b.base v hv]
     split <;> rfl
    ·have e : recB b b.base v = [] := by unfold recB; rw [if_neg hm]
     rw [e]
     split <;> rfl
theorem comm_eq (start : Int) (L : List Ba) (h0 : 0 ≤ start) (hf : ∀ b ∈ L, Fit b) (hr : RowC start L) : commL (stableE start L) L = commR start (stableE start L) L :=
 comm_same start L start (fun _ => -1) _ hf hr (OIs.nil h0) (stable_stab start L hf) (Int.le_refl _)
def dropO (O : Opn) (b : Ba) : Option La := if ¬ b.prod < 0 ∧ b.mark = 2 ∧ O b.prod ≥ 0 then some (b.prod, O b.prod, b.base) else none
theorem stepD_O {M O b} (h : Rep M O) (hr : rightE b = 0) : stepD M b = dropO O b := by
 unfold stepD dropO
 by_cases hp : b.prod < 0
 ·rw [if_pos (.inr hp), if_neg (by omega)]
 ·rw [if_neg (by omega), getM_find]
  cases hf : M.find? (fun p => p.id == b.prod) with
  | none =>
   have : O b.prod = -1 := h.neg _ (fun p hp e => by
    have := List.find?_eq_none.1 hf p hp
    simp [e] at this)
   rw [if_neg (by omega)]
  | some p =>
   have h1 := h.val p (List.mem_of_find?_eq_some hf)
   have h2 : p.id = b.prod := by simpa using List.find?_some hf
   simp only
   rw [h1, h2]
   by_cases c : b.mark = 2 ∧ O b.prod ≥ 0
   ·rw [if_pos c, if_pos ⟨hp, c⟩]
   ·rw [if_neg c, if_neg (fun h => c h.2)]
theorem tabD_O {L O b} (hs : Srt L) (h : Rep L O) (hr : rightE b = 0) : tabD L b = dropO O b := by
 rw [← stepD_O h hr]
 unfold tabD stepD
 rw [atP_find b.prod L hs, getM_find]
 cases L.find? (fun p => p.id == b.prod) <;> rfl
theorem ab_fold : ∀ (A : List Ba) (s : Int) (O : Opn) (M T : List Pr) (l : List La), (∀ b ∈ A, Fit b) → RowC s A → OIs s O → Rep M O → Srt T → Rep T O → (∀ d ∈ l, d.2.2 < s) → abOf A M l = l ++ foldD A T
 | [], _, _, _, _, l, _, _, _, _, _, _, _ => by rw [show foldD [] _ = [] from rfl, List.append_nil]; rfl
 | b :: A, s, O, M, T, l, hA, hr, hO, hM, hs, hT, hl => by
  have hb := hA b List.mem_cons_self
  have hA' : ∀ x ∈ A, Fit x := fun x hx => hA x (List.mem_cons_of_mem _ hx)
  have hc := countE_pos hb
  have hbs := hr.1
  have hbb := hb.base
  have h1 := hs.tabL b hb.right hT
  have e1 := stepD_O hM hb.right
  have e2 := tabD_O hs hT hb.right
  have hfd : foldD (b :: A) T = (match tabD T b with | some d => [d] | none => []) ++ foldD A (tabL T b) := rfl
  have hab : abOf (b :: A) M l = abOf A (stepM M b) (match stepD M b with | some d => abL l d | none => l) := rfl
  rw [hfd, hab, e1, e2]
  cases hd : dropO O b with
  | none =>
   simp only [List.nil_append]
   exact ab_fold A (s + countE b) (stepO O b) _ _ l hA' hr.2 (hO.step hb hbs) (hM.stepM b hb.right) h1.1 h1.2 (fun d hd => by have := hl d hd; omega)
  | some d =>
   simp only
   unfold dropO at hd
   split at hd
   ·rename_i c
    simp only [Option.some.injEq] at hd
    subst hd
    have ho := hO.hi b.prod
    have hk : abOK l (b.prod, O b.prod, b.base) = true := by
     unfold abOK
     simp only [Bool.and_eq_true, decide_eq_true_eq]
     refine ⟨by omega, by omega, by omega, by omega, ?_⟩
     cases hg : l.getLast? with
     | none => rfl
     | some q =>
      have := hl q (List.mem_of_getLast? hg)
      simp; omega
    have hL : abL l (b.prod, O b.prod, b.base) = l ++ [(b.prod, O b.prod, b.base)] := by unfold abL; rw [if_pos hk]
    rw [hL, ab_fold A (s + countE b) (stepO O b) _ _ _ hA' hr.2 (hO.step hb hbs) (hM.stepM b hb.right) h1.1 h1.2 (fun d hd => by
     rw [List.mem_append, List.mem_singleton] at hd
     rcases hd with hd | rfl
     ·have := hl d hd; omega
     ·simp only; omega), List.append_assoc]
   ·cases hd
theorem ab_eq (start : Int) (L : List Ba) (h0 : 0 ≤ start) (hf : ∀ b ∈ L, Fit b) (hr : RowC start L) : abOf L [] [] = foldD L [] := by
 have := ab_fold L start (fun _ => -1) [] [] [] hf hr (OIs.nil h0) rep_nil List.Pairwise.nil rep_nil (by simp)
 simpa using this
def AOK (d : La) : Prop := 0 ≤ d.1 ∧ 0 ≤ d.2.1 ∧ d.2.1 < d.2.2 ∧ d.2.2 ≤ 1099511627776
theorem abOK_ok {l d} (h : abOK l d = true) : AOK d := by
 unfold abOK at h
 simp only [Bool.and_eq_true, decide_eq_true_eq] at h
 unfold AOK; omega
theorem abOf_ok : ∀ (A : List Ba) (M : List Pr) (l : List La), (∀ d ∈ l, AOK d) → ∀ d ∈ abOf A M l, AOK d
 | [], _, _, h => h
 | b :: A, M, l, h => by
  refine abOf_ok A _ _ ?_
  split
  ·rename_i d0 _
   unfold abL
   split
   ·rename_i hk
    intro d hd
    rw [List.mem_append, List.mem_singleton] at hd
    rcases hd with hd | rfl
    ·exact h d hd
    ·exact abOK_ok hk
   ·exact h
  ·exact h
def inR2 (lo hi : Int) (d : La) : Bool := decide (lo < hi) && (decide (d.2.1 < hi) && decide (d.2.2 ≥ lo))
theorem inR_eq {lo hi : Int} {d : La} (h : AOK d) : inR lo hi d = inR2 lo hi d := by
 unfold AOK at h
 unfold inR inR2 mx
 rw [Bool.eq_iff_iff]
 simp only [Bool.and_eq_true, decide_eq_true_eq]
 split <;> constructor <;> intro g <;> omega
theorem rwithin_loop (l : List La) (hn : l.length ≤ 100000) (lo hi : Int) (f : Fl) (hf : f = .ro ∨ (f = .full ∧ l = [])) (H : Heap) (r : List La) : ∀ (p out : List La) (fl : Fl) (N : Heap), l = p ++ r → out.length ≤ p.length → (fl = .own ∨ (fl = .full ∧ out = [])) →
  ∃ N' fl', loopA W loopW (.ghost (.kill k_ref10_Within_0) l_ref10_Within_0) [(1, .int .i64 lo), (2, .int .i64 hi), (7, .list 3 (out.map laV) fl), (10, .list 3 (l.map laV) f), (11, .int .i64 (l.length : Nat)), (12, .int .i64 (p.length : Nat))] (hx H N) =
   some (.exit 0, [(7, .list 3 ((out ++ r.filter (inR2 lo hi)).map laV) fl')], hx H N') ∧ (fl' = .own ∨ (fl' = .full ∧ out ++ r.filter (inR2 lo hi) = [])) := by
 induction r with
 | nil =>
  intro p out fl N hp ho hfl
  rw [List.append_nil] at hp
  subst hp
  rw [List.filter_nil, List.append_nil]
  refine ⟨N, fl, ?_, hfl⟩
  have h1 : ¬ ((l.length : Int) < (l.length : Int)) := by omega
  refine loop_step l_ref10_Within_0.eq_1 k_ref10_Within_0.eq_1 (by kernel_rfl) ?_
  simp only [go_sem, h1, simprocAttr]
 | cons d r ih =>
  intro p out fl N hp ho hfl
  have hf0 : f = .ro := by
   rcases hf with h | ⟨_, h⟩
   ·exact h
   ·rw [hp] at h; simp at h
  subst hf0
  have hlen : l.length = p.length + (r.length + 1) := by rw [hp]; simp
  have h1 : ((p.length : Int) < (l.length : Int)) := by omega
  have e0 : (0 : Int) ≤ (p.length : Int) := by omega
  have e7 : ((p.length : Nat) : Int).toNat = p.length := by omega
  have e1 : (l.map laV)[p.length]? = some (.agg [.int .i64 d.1, .int .i64 d.2.1, .int .i64 d.2.2]) := by rw [hp]; simp [laV]
  have e6 : IntKind.i64.wrap ((p.length : Int) + 1) = ((p.length + 1 : Nat) : Int) := by rw [wrap_id (by unfold I64; omega)]; omega
  have n1 : ∀ x : Box, (N ++ [x])[N.length]? = some x := fun x => by simp
  have n2 : ∀ x z : Box, (N ++ [x]).set N.length z = N ++ [z] := fun x z => by simp
  have bb : (out.length + 1) * 24 ≤ maxBytes := by simp only [maxBytes]; omega
  have b0 : (0 + 1) * 24 ≤ maxBytes := by decide
  have e8 : out.map laV ++ [.agg [.int .i64 d.1, .int .i64 d.2.1, .int .i64 d.2.2]] = (out ++ [d]).map laV := by simp [laV]
  rw [List.filter_cons]
  have skip : inR2 lo hi d = false → ∃ N' fl', loopA W loopW (.ghost (.kill k_ref10_Within_0) l_ref10_Within_0) [(1, .int .i64 lo), (2, .int .i64 hi), (7, .list 3 (out.map laV) fl), (10, .list 3 (l.map laV) .ro), (11, .int .i64 (l.length : Nat)), (12, .int .i64 ((p.length + 1 : Nat) : Int))] (hx H (N ++ [.cells [.int .i64 d.1, .int .i64 d.2.1, .int .i64 d.2.2]])) =
   some (.exit 0, [(7, .list 3 ((out ++ r.filter (inR2 lo hi)).map laV) fl')], hx H N') ∧ (fl' = .own ∨ (fl' = .full ∧ out ++ r.filter (inR2 lo hi) = [])) := fun _ => by
   obtain ⟨N', fl', h2, h3⟩ := ih (p ++ [d]) out fl (N ++ [.cells [.int .i64 d.1, .int .i64 d.2.1, .int .i64 d.2.2]]) (by rw [hp]; simp) (by simp; omega) hfl
   simp only [List.length_append, List.length_cons, List.length_nil, Nat.zero_add] at h2
   exact ⟨N', fl', h2, h3⟩
  by_cases c1 : lo < hi
  ·by_cases c2 : d.2.1 < hi
   ·by_cases c3 : d.2.2 ≥ lo
    ·have hk : inR2 lo hi d = true := by simp [inR2, c1, c2, c3]
     rw [hk, if_pos rfl]
     obtain ⟨N', fl', h2, h3⟩ := ih (p ++ [d]) (out ++ [d]) .own (N ++ [.cells [.int .i64 d.1, .int .i64 d.2.1, .int .i64 d.2.2]]) (by rw [hp]; simp) (by simp; omega) (.inl rfl)
     rw [List.append_assoc, List.cons_append, List.nil_append] at h2 h3
     simp only [List.length_append, List.length_cons, List.length_nil, Nat.zero_add] at h2
     refine ⟨N', fl', ?_, h3⟩
     refine loop_step l_ref10_Within_0.eq_1 k_ref10_Within_0.eq_1 (by kernel_rfl) ?_
     rcases hfl with rfl | ⟨rfl, rfl⟩
     ·simp only [go_sem, h1, e0, e7, e1, n1, n2, c1, c2, c3, List.length_map, apO, bb, e8, e6, simprocAttr]
      exact h2
     ·simp only [List.map_nil, List.nil_append] at *
      simp only [go_sem, h1, e0, e7, e1, n1, n2, c1, c2, c3, List.length_nil, apF, b0, List.nil_append, e6, simprocAttr]
      rw [e8]
      exact h2
    ·have hk : inR2 lo hi d = false := by simp [inR2, c3]
     rw [hk, if_neg (by decide)]
     obtain ⟨N', fl', h2, h3⟩ := skip hk
     refine ⟨N', fl', ?_, h3⟩
     refine loop_step l_ref10_Within_0.eq_1 k_ref10_Within_0.eq_1 (by kernel_rfl) ?_
     simp only [go_sem, h1, e0, e7, e1, n1, n2, c1, c2, c3, e6, simprocAttr]
     exact h2
   ·have hk : inR2 lo hi d = false := by simp [inR2, c2]
    rw [hk, if_neg (by decide)]
    obtain ⟨N', fl', h2, h3⟩ := skip hk
    refine ⟨N', fl', ?_, h3⟩
    refine loop_step l_ref10_Within_0.eq_1 k_ref10_Within_0.eq_1 (by kernel_rfl) ?_
    simp only [go_sem, h1, e0, e7, e1, n1, n2, c1, c2, e6, simprocAttr]
    exact h2
  ·have hk : inR2 lo hi d = false := by simp [inR2, c1]
   rw [hk, if_neg (by decide)]
   obtain ⟨N', fl', h2, h3⟩ := skip hk
   refine ⟨N', fl', ?_, h3⟩
   refine loop_step l_ref10_Within_0.eq_1 k_ref10_Within_0.eq_1 (by kernel_rfl) ?_
   simp only [go_sem, h1, e0, e7, e1, n1, n2, c1, e6, simprocAttr]
   exact h2
theorem rwithin_spec (l : List La) (hn : l.length ≤ 100000) (lo hi : Int) (H : Heap) :
  ∃ f, W n_ref10_Within [.list 3 (l.map laV) .ro, .int .i64 lo, .int .i64 hi] H = some (.list 3 ((l.filter (inR2 lo hi)).map laV) f, H) ∧ (f = .own ∨ (f = .full ∧ l.filter (inR2 lo hi) = [])) := by
 obtain ⟨N, f, h, hf⟩ := rwithin_loop l hn lo hi .ro (.inl rfl) H l [] [] .full [] rfl (by simp) (.inr ⟨rfl, rfl⟩)
 simp only [List.length_nil, Int.natCast_zero, List.map_nil, List.nil_append] at h hf
 refine ⟨f, ?_, hf⟩
 generalize l.filter (inR2 lo hi) = R at *
 refine W_fn rfl rfl ?_
 rcases hf with rfl | ⟨rfl, rfl⟩
 ·have u := fun n => under_la n R
  simp only [go_sem, c_ref10_Within, List.length_map, h, u, simprocAttr]
 ·simp only [List.map_nil] at h ⊢
  simp only [go_sem, c_ref10_Within, List.length_map, h, simprocAttr]
  first | done | rfl
def gB (g : Gt) : Box := .cells [.int .i64 g.1, .int .i64 g.2.1, .str g.2.2.1, .str g.2.2.2]
theorem rdel_inner (g : Gt) (D : List La) (hD : D.length ≤ 9223372036854775807) (X1 X3 X10 X11 X12 : AVal) (kb : Nat) (H : Heap) (r : List La) : ∀ (p : List La) (c : Bool) (N : Heap), D = p ++ r → N[kb]? = some (.cells [.int .i64 g.1, .int .i64 g.2.1, .str g.2.2.1, .str g.2.2.2]) →
  ∃ M, loopA W loopW (.ghost (.kill k_ref14_Deliver_0) l_ref14_Deliver_0) [(1, X1), (3, X3), (5, .ptr (pt H kb) 0), (6, .bool c), (10, X10), (11, X11), (12, X12), (17, .list 3 (D.map laV) .ro), (18, .int .i64 (D.length : Nat)), (19, .int .i64 (p.length : Nat))] (hx H N) =
   some (.exit 2, [(1, X1), (3, X3), (5, .ptr (pt H kb) 0), (6, .bool (c || r.any (hitD g))), (10, X10), (11, X11), (12, X12)], hx H (N ++ M)) := by
 induction r with
 | nil =>
  intro p c N hp hk
  rw [List.append_nil] at hp
  subst hp
  refine ⟨[], ?_⟩
  have h1 : ¬ ((D.length : Int) < (D.length : Int)) := by omega
  rw [List.any_nil, Bool.or_false, List.append_nil]
  refine loop_step l_ref14_Deliver_0.eq_1 k_ref14_Deliver_0.eq_1 (by kernel_rfl) ?_
  simp only [go_sem, h1, simprocAttr]
 | cons d r ih =>
  intro p c N hp hk
  have hlen : D.length = p.length + (r.length + 1) := by rw [hp]; simp
  have h1 : ((p.length : Int) < (D.length : Int)) := by omega
  have e0 : (0 : Int) ≤ (p.length : Int) := by omega
  have e7 : ((p.length : Nat) : Int).toNat = p.length := by omega
  have e1 : (D.map laV)[p.length]? = some (.agg [.int .i64 d.1, .int .i64 d.2.1, .int .i64 d.2.2]) := by rw [hp]; simp [laV]
  have e6 : IntKind.i64.wrap ((p.length : Int) + 1) = ((p.length + 1 : Nat) : Int) := by rw [wrap_id (by unfold I64; omega)]; omega
  have n0 : kb < N.length := (List.getElem?_eq_some_iff.1 hk).1
  have n3 : (N ++ [.cells [.int .i64 d.1, .int .i64 d.2.1, .int .i64 d.2.2]])[kb]? = some (.cells [.int .i64 g.1, .int .i64 g.2.1, .str g.2.2.1, .str g.2.2.2]) := by rw [List.getElem?_append_left n0, hk]
  have n1 : ∀ x : Box, (N ++ [x])[N.length]? = some x := fun x => by simp
  have n2 : ∀ x z : Box, (N ++ [x]).set N.length z = N ++ [z] := fun x z => by simp
  obtain ⟨M, h⟩ := ih (p ++ [d]) (c || hitD g d) (N ++ [.cells [.int .i64 d.1, .int .i64 d.2.1, .int .i64 d.2.2]]) (by rw [hp]; simp) n3
  rw [List.any_cons, ← Bool.or_assoc]
  rw [List.append_assoc] at h
  simp only [List.length_append, List.length_cons, List.length_nil, Nat.zero_add] at h
  refine ⟨[.cells [.int .i64 d.1, .int .i64 d.2.1, .int .i64 d.2.2]] ++ M, ?_⟩
  refine loop_step l_ref14_Deliver_0.eq_1 k_ref14_Deliver_0.eq_1 (by kernel_rfl) ?_
  generalize ((c || hitD g d) || r.any (hitD g)) = res at *
  cases c with
  | true =>
   rw [Bool.true_or] at h
   simp only [go_sem, h1, e0, e7, e1, n1, n2, n3, e6, simprocAttr]
   exact h
  | false =>
   rw [Bool.false_or] at h
   unfold hitD at h
   by_cases c1 : g.2.1 = -1
   ·rw [decide_eq_false (by simpa using c1), Bool.false_and] at h
    simp only [go_sem, h1, e0, e7, e1, n1, n2, n3, e6, eq_true c1, simprocAttr]
    exact h
   ·rw [decide_eq_true (by simpa using c1)] at h
    by_cases c2 : d.1 = g.2.1
    ·rw [decide_eq_true c2] at h
     by_cases c3 : d.2.1 ≤ g.1
     ·have c3' : g.1 ≥ d.2.1 := c3
      rw [decide_eq_true c3] at h
      by_cases c4 : g.1 ≤ d.2.2
      ·rw [decide_eq_true c4] at h
       simp only [go_sem, h1, e0, e7, e1, n1, n2, n3, e6, c1, eq_true c2, c3', c4, simprocAttr]
       exact h
      ·rw [decide_eq_false c4] at h
       simp only [go_sem, h1, e0, e7, e1, n1, n2, n3, e6, c1, eq_true c2, c3', c4, simprocAttr]
       exact h
     ·have c3' : ¬ g.1 ≥ d.2.1 := c3
      rw [decide_eq_false c3] at h
      simp only [go_sem, h1, e0, e7, e1, n1, n2, n3, e6, c1, eq_true c2, c3', simprocAttr]
      exact h
    ·rw [decide_eq_false c2] at h
     simp only [go_sem, h1, e0, e7, e1, n1, n2, n3, e6, c1, c2, simprocAttr]
     exact h
theorem rdel_loop (R : List Gt) (hR : R.length ≤ 1000000) (D : List La) (hD : D.length ≤ 9223372036854775807) (V2 V3 : AVal) (H : Heap) (r : List Gt) : ∀ (p out : List Gt) (fl : Fl) (N : Heap), R = p ++ r → out.length ≤ p.length → N[0]? = some (.cells [.list 4 (R.map gV) .ro, .list 3 (D.map laV) .ro, V2, V3]) → (fl = .own ∨ (fl = .full ∧ out = [])) →
  ∃ N' fl', loopA W loopW (.ghost (.kill k_ref14_Deliver_1) l_ref14_Deliver_1) [(1, .ptr (pt H 0) 0), (3, .list 4 (out.map gV) fl), (10, .list 4 (R.map gV) .ro), (11, .int .i64 (R.length : Nat)), (12, .int .i64 (p.length : Nat))] (hx H N) =
   some (.exit 0, [(3, .list 4 ((out ++ r.filter fun g => !hitG D g).map gV) fl')], hx H N') ∧ (fl' = .own ∨ (fl' = .full ∧ out ++ r.filter (fun g => !hitG D g) = [])) := by
 induction r with
 | nil =>
  intro p out fl N hp ho hk hfl
  rw [List.append_nil] at hp
  subst hp
  rw [List.filter_nil, List.append_nil]
  refine ⟨N, fl, ?_, hfl⟩
  have h1 : ¬ ((R.length : Int) < (R.length : Int)) := by omega
  refine loop_step l_ref14_Deliver_1.eq_1 k_ref14_Deliver_1.eq_1 (by kernel_rfl) ?_
  simp only [go_sem, h1, simprocAttr]
 | cons g r ih =>
  intro p out fl N hp ho hk hfl
  have hlen : R.length = p.length + (r.length + 1) := by rw [hp]; simp
  have h1 : ((p.length : Int) < (R.length : Int)) := by omega
  have e0 : (0 : Int) ≤ (p.length : Int) := by omega
  have e7 : ((p.length : Nat) : Int).toNat = p.length := by omega
  have e1 : (R.map gV)[p.length]? = some (.agg [.int .i64 g.1, .int .i64 g.2.1, .str g.2.2.1, .str g.2.2.2]) := by rw [hp]; simp [gV]
  have e6 : IntKind.i64.wrap ((p.length : Int) + 1) = ((p.length + 1 : Nat) : Int) := by rw [wrap_id (by unfold I64; omega)]; omega
  have n0 : 0 < N.length := (List.getElem?_eq_some_iff.1 hk).1
  have n3 : ∀ M : Heap, (N ++ M)[0]? = some (.cells [.list 4 (R.map gV) .ro, .list 3 (D.map laV) .ro, V2, V3]) := fun M => by rw [List.getElem?_append_left n0, hk]
  have n1 : ∀ x : Box, (N ++ [x])[N.length]? = some x := fun x => by simp
  have n2 : ∀ x z : Box, (N ++ [x]).set N.length z = N ++ [z] := fun x z => by simp
  obtain ⟨M, hi⟩ := rdel_inner g D hD (.ptr (pt H 0) 0) (.list 4 (out.map gV) fl) (.list 4 (R.map gV) .ro) (.int .i64 (R.length : Nat)) (.int .i64 (p.length : Nat)) N.length H D [] false (N ++ [.cells [.int .i64 g.1, .int .i64 g.2.1, .str g.2.2.1, .str g.2.2.2]]) rfl (by simp)
  rw [Bool.false_or, show D.any (hitD g) = hitG D g from rfl] at hi
  simp only [List.length_nil, Int.natCast_zero, List.append_assoc] at hi
  have n4 : (N ++ ([.cells [.int .i64 g.1, .int .i64 g.2.1, .str g.2.2.1, .str g.2.2.2]] ++ M))[N.length]? = some (.cells [.int .i64 g.1, .int .i64 g.2.1, .str g.2.2.1, .str g.2.2.2]) := by simp
  rw [List.filter_cons]
  cases hc : hitG D g with
  | true =>
   rw [hc] at hi
   simp only [Bool.not_true, Bool.false_eq_true, if_false]
   obtain ⟨N', fl', h, hh⟩ := ih (p ++ [g]) out fl (N ++ ([.cells [.int .i64 g.1, .int .i64 g.2.1, .str g.2.2.1, .str g.2.2.2]] ++ M)) (by rw [hp]; simp) (by simp; omega) (n3 _) hfl
   simp only [List.length_append, List.length_cons, List.length_nil, Nat.zero_add] at h
   refine ⟨N', fl', ?_, hh⟩
   generalize r.filter (fun g => !hitG D g) = F at *
   refine loop_step l_ref14_Deliver_1.eq_1 k_ref14_Deliver_1.eq_1 (by kernel_rfl) ?_
   simp only [go_sem, h1, e0, e7, e1, n1, n2, n3, List.length_map, hi, e6, simprocAttr]
   exact h
  | false =>
   rw [hc] at hi
   simp only [Bool.not_false, if_true]
   obtain ⟨N', fl', h, hh⟩ := ih (p ++ [g]) (out ++ [g]) .own (N ++ ([.cells [.int .i64 g.1, .int .i64 g.2.1, .str g.2.2.1, .str g.2.2.2]] ++ M)) (by rw [hp]; simp) (by simp; omega) (n3 _) (.inl rfl)
   rw [List.append_assoc, List.cons_append, List.nil_append] at h hh
   simp only [List.length_append, List.length_cons, List.length_nil, Nat.zero_add] at h
   refine ⟨N', fl', ?_, hh⟩
   generalize r.filter (fun g => !hitG D g) = F at *
   have bb : (out.length + 1) * 48 ≤ maxBytes := by simp only [maxBytes]; omega
   have b0 : (0 + 1) * 48 ≤ maxBytes := by decide
   have e8 : out.map gV ++ [.agg [.int .i64 g.1, .int .i64 g.2.1, .str g.2.2.1, .str g.2.2.2]] = (out ++ [g]).map gV := by simp [gV]
   refine loop_step l_ref14_Deliver_1.eq_1 k_ref14_Deliver_1.eq_1 (by kernel_rfl) ?_
   rcases hfl with rfl | ⟨rfl, rfl⟩
   ·simp only [go_sem, h1, e0, e7, e1, n1, n2, n3, n4, List.length_map, hi, apO, bb, e8, e6, simprocAttr]
    exact h
   ·simp only [List.map_nil, List.nil_append] at *
    simp only [go_sem, h1, e0, e7, e1, n1, n2, n3, n4, List.length_map, hi, List.length_nil, apF, b0, List.nil_append, e6, simprocAttr]
    rw [e8]
    exact h
theorem rdeliver_spec (R : List Gt) (hR : R.length ≤ 1000000) (D : List La) (hD : D.length ≤ 9223372036854775807) (N S : Int) (H : Heap) :
  ∃ f, W n_ref14_Deliver [.agg [.list 4 (R.map gV) .ro, .list 3 (D.map laV) .ro, .int .i64 N, .int .i64 S]] H = some (.list 4 ((R.filter fun g => !hitG D g).map gV) f, H) ∧ (f = .own ∨ (f = .full ∧ R.filter (fun g => !hitG D g) = [])) := by
 obtain ⟨N', f, h, hf⟩ := rdel_loop R hR D hD (.int .i64 N) (.int .i64 S) H R [] [] .full [.cells [.list 4 (R.map gV) .ro, .list 3 (D.map laV) .ro, .int .i64 N, .int .i64 S]] rfl (by simp) rfl (.inr ⟨rfl, rfl⟩)
 simp only [List.length_nil, Int.natCast_zero, List.map_nil, List.nil_append] at h hf
 refine ⟨f, ?_, hf⟩
 have u := fun n => under_g n (R.filter fun g => !hitG D g)
 generalize R.filter (fun g => !hitG D g) = F at *
 refine W_fn rfl rfl ?_
 rcases hf with rfl | ⟨rfl, rfl⟩
 ·simp only [go_sem, c_ref14_Deliver, List.length_map, h, u, simprocAttr]
 ·simp only [List.map_nil] at h ⊢
  simp only [go_sem, c_ref14_Deliver, List.length_map, h, simprocAttr]
  first | done | rfl
def fAb (lo next : Int) (L : List Ba) (only : Bool) : List La := if only = true then (abOf L [] []).filter (inR lo next) else []
def fV (R : List Gt) (D : List La) (n s : Int) : AVal := .agg [.list 4 (R.map gV) .ro, .list 3 (D.map laV) .ro, .int .i64 n, .int .i64 s]
structure Fe where (R : List Gt) (D : List La) (n s e : Int)
def fetE (start lo n : Int) (L : List Ba) (only : Bool) : Fe :=
 if n < 1 ∨ n > 64 then ⟨[], [], 0, 0, 1⟩
 else if lo < start ∨ lo > endE start L then ⟨[], [], 0, 0, 20⟩
 else ⟨fRecs lo (topE start L only) n L, fAb lo (fNext lo (topE start L only) n (fRecs lo (topE start L only) n L)) L only, fNext lo (topE start L only) n (fRecs lo (topE start L only) n L), stableE start L, 0⟩
theorem fetchE_spec (L : List Ba) (hL : ∀ b ∈ L, Fit b) (hn : L.length ≤ 1000) (start lo n : Int) (only : Bool) (H : Heap) :
  W n_fold_Fetch [.int .i64 start, .list 7 (L.map Ba.V) .ro, .int .i64 lo, .int .i64 n, .bool only] H =
   some (.tuple [.agg [.list 4 ((fetE start lo n L only).R.map gV) .ro, .list 3 ((fetE start lo n L only).D.map laV) .ro, .int .i64 (fetE start lo n L only).n, .int .i64 (fetE start lo n L only).s], .int .i64 (fetE start lo n L only).e], H) := by
 unfold fetE
 have te := fun H => fend_spec L hL (by omega) start H
 by_cases h1 : n < 1
 ·rw [if_pos (.inl h1)]
  refine W_fn rfl rfl ?_
  simp only [go_sem, c_fold_Fetch, te, h1, simprocAttr]
  first | done | rfl
 by_cases h2 : n > 64
 ·rw [if_pos (.inr h2)]
  refine W_fn rfl rfl ?_
  simp only [go_sem, c_fold_Fetch, te, h1, h2, simprocAttr]
  first | done | rfl
 rw [if_neg (by omega)]
 by_cases h3 : lo < start
 ·rw [if_pos (.inl h3)]
  refine W_fn rfl rfl ?_
  simp only [go_sem, c_fold_Fetch, te, h1, h2, h3, simprocAttr]
  first | done | rfl
 by_cases h4 : lo > endE start L
 ·rw [if_pos (.inr h4)]
  refine W_fn rfl rfl ?_
  simp only [go_sem, c_fold_Fetch, te, h1, h2, h3, h4, simprocAttr]
  first | done | rfl
 rw [if_neg (by omega)]
 obtain ⟨D, h, hD⟩ := fetch_spec L hL hn start lo n only (by omega) (by omega) (by omega) (by omega) H
 subst hD
 exact h
theorem abOf_eqW (lo next start : Int) (L : List Ba) (h0 : 0 ≤ start) (hf : ∀ b ∈ L, Fit b) (hr : RowC start L) : (foldD L []).filter (inR2 lo next) = (abOf L [] []).filter (inR lo next) := by
 rw [← ab_eq start L h0 hf hr]
 refine List.filter_congr fun d hd => ?_
 exact (inR_eq (abOf_ok L [] [] (by simp) d hd)).symm
theorem abOf_len (L : List Ba) (hL : ∀ b ∈ L, Fit b) (hn : L.length ≤ 1000) : (abOf L [] []).length ≤ L.length := by
 obtain ⟨_, _, _, _, h⟩ := abof_spec L (fun b hb => (hL b hb).ok) (fun b hb => by have := (rightE_small (hL b hb).right).1; omega) hn []
 exact h
theorem mx_comm (a b : Int) : mx a b = mx b a := by unfold mx; split <;> split <;> omega
set_option maxHeartbeats 2000000 in
theorem rfetch_ok (L : List Ba) (hL : ∀ b ∈ L, Fit b) (hn : L.length ≤ 1000) (start lo n : Int) (h0 : 0 ≤ start) (hr : RowC start L) (only : Bool) (h1 : 1 ≤ n) (h2 : n ≤ 64) (h3 : start ≤ lo) (h4 : lo ≤ endE start L) (H : Heap) :
  W n_ref14_Fetch [.int .i64 start, .list 7 (L.map Ba.V) .ro, .int .i64 lo, .int .i64 n, .bool only] H =
   some (.tuple [.agg [.list 4 ((fRecs lo (topE start L only) n L).map gV) .ro, .list 3 ((fAb lo (fNext lo (topE start L only) n (fRecs lo (topE start L only) n L)) L only).map laV) .ro, .int .i64 (fNext lo (topE start L only) n (fRecs lo (topE start L only) n L)), .int .i64 (stableE start L)], .int .i64 0], H) := by
 have te := fun H => end_spec start L hL hn .ro (.inl rfl) H
 have ts := fun H => rstable_spec L hL hn start H
 obtain ⟨fr, tr, hfr⟩ := rrecords_spec L hL hn lo (topE start L only) (hx H [.cells [.list 4 [] .full, .list 3 [] .full, .int .i64 0, .int .i64 0], .cells [.list 4 [] .full, .list 3 [] .full, .int .i64 0, .int .i64 (stableE start L)]])
 have ho := records_off lo (topE start L only) L hL
 have hln := recordsL_len lo (topE start L only) L hL
 have c1 : ¬ n < 1 := by omega
 have c2 : ¬ n > 64 := by omega
 have c3 : ¬ lo < start := by omega
 have c4 : ¬ lo > endE start L := by omega
 have g0 : (0 : Int) ≤ n := by omega
 have hfn : fr ≠ .uniq := by rcases hfr with rfl | ⟨rfl, _⟩ <;> simp
 have hR0 : ∃ R0, recordsL lo (topE start L only) L = R0 := ⟨_, rfl⟩
 obtain ⟨R0, hR0⟩ := hR0
 unfold fRecs
 rw [hR0] at tr ho hln hfr ⊢
 have fin : ∀ (R : List Gt) (nx : Int), fNext lo (topE start L only) n (R0.take n.toNat) = nx → R0.take n.toNat = R →
   (∀ only', only' = only → W n_ref14_Fetch [.int .i64 start, .list 7 (L.map Ba.V) .ro, .int .i64 lo, .int .i64 n, .bool only'] H =
   some (.tuple [.agg [.list 4 (R.map gV) .ro, .list 3 ((fAb lo nx L only').map laV) .ro, .int .i64 nx, .int .i64 (stableE start L)], .int .i64 0], H)) →
   W n_ref14_Fetch [.int .i64 start, .list 7 (L.map Ba.V) .ro, .int .i64 lo, .int .i64 n, .bool only] H =
   some (.tuple [.agg [.list 4 ((R0.take n.toNat).map gV) .ro, .list 3 ((fAb lo (fNext lo (topE start L only) n (R0.take n.toNat)) L only).map laV) .ro, .int .i64 (fNext lo (topE start L only) n (R0.take n.toNat)), .int .i64 (stableE start L)], .int .i64 0], H) := by
  intro R nx e1 e2 h
  rw [e1, e2]
  exact h only rfl
 have tf := fold_spec L (fun b hb => (hL b hb).ok) hn
 have hfd : ∀ nx, (foldD L []).filter (inR2 lo nx) = (abOf L [] []).filter (inR lo nx) := fun nx => abOf_eqW lo nx start L h0 hL hr
 have hal := abOf_len L hL hn
 have hfe : foldD L [] = abOf L [] [] := (ab_eq start L h0 hL hr).symm
 by_cases c5 : (R0.length : Int) ≥ n
 ·rcases List.eq_nil_or_concat (R0.take n.toNat) with hz | ⟨R', g, hg⟩
  ·have : (R0.take n.toNat).length = n.toNat := by rw [List.length_take]; omega
   rw [hz] at this; simp at this; omega
  rw [List.concat_eq_append] at hg
  have hl : R'.length + 1 = n.toNat := by
   have : (R0.take n.toNat).length = n.toNat := by rw [List.length_take]; omega
   rw [hg] at this; simpa using this
  have hgm : g ∈ R0 := List.mem_of_mem_take (by rw [hg]; simp)
  have hgo := (ho g hgm).2.2
  have w1 : IntKind.i64.wrap (n - 1) = ((R'.length : Nat) : Int) := by rw [wrap_id (by unfold I64; omega)]; omega
  have e0 : (0 : Int) ≤ ((R'.length : Nat) : Int) := by omega
  have e7 : ((R'.length : Nat) : Int).toNat = R'.length := by omega
  have e1 : ((R' ++ [g]).map gV)[R'.length]? = some (.agg [.int .i64 g.1, .int .i64 g.2.1, .str g.2.2.1, .str g.2.2.2]) := by simp [gV]
  have w2 : IntKind.i64.wrap (g.1 + 1) = g.1 + 1 := wrap_id hgo
  have g2 : (R0.map gV).take n.toNat = (R' ++ [g]).map gV := by rw [← List.map_take, hg]
  have g3 : n ≤ (R0.length : Nat) := c5
  have g4 : ((R' ++ [g]).map gV).length = R'.length + 1 := by simp
  have g5 : (((R'.length + 1 : Nat)) : Int) > ((R'.length : Nat) : Int) := by omega
  refine fin (R' ++ [g]) (g.1 + 1) ?_ hg ?_
  ·unfold fNext
   rw [hg, if_pos (by simp; omega)]; simp
  ·intro only' ho'
   subst ho'
   cases only' with
   | false =>
    have c6 : ¬ (0 : Int) ≥ n := by omega
    simp only [topE, Bool.false_eq_true, if_false, fAb] at *
    generalize endE start L = top at *
    generalize stableE start L = st at *
    refine W_fn rfl rfl ?_
    have u := fun n => under_g n (R' ++ [g])
    generalize (R' ++ [g]).map gV = RV at *
    rcases hfr with rfl | ⟨rfl, rfl⟩
    ·simp only [go_sem, c_ref14_Fetch, te, ts, tr, c1, c2, c3, c4, slH, g0, g2, g3, List.length_map, c5, w1, e0, e7, e1, w2, u, simprocAttr]
     first | done | rfl
    ·simp at c5; omega
   | true =>
    have c6 : ¬ (0 : Int) ≥ n := by omega
    simp only [topE, if_true, fAb] at *
    generalize endE start L = top at *
    generalize stableE start L = st at *
    have u := fun n => under_g n (R' ++ [g])
    generalize (R' ++ [g]).map gV = RV at *
    rcases hfr with rfl | ⟨rfl, rfl⟩
    case inr => simp at c5; omega
    refine W_fn rfl rfl ?_
    obtain ⟨M, ta⟩ := tf (hx H [.cells [.list 4 [] .full, .list 3 [] .full, .int .i64 0, .int .i64 0], .cells [.list 4 RV .ro, .list 3 [] .full, .int .i64 (g.1 + 1), .int .i64 st]])
    simp only [hx_hx, pt_hx, List.length_cons, List.length_nil, List.cons_append, List.nil_append, Nat.zero_add, Nat.add_zero] at ta
    generalize tabB (foldL L []) (foldF L [] .full) = B at *
    rw [hfe] at ta
    obtain ⟨f, tw, hf⟩ := rwithin_spec (abOf L [] []) (by omega) lo (g.1 + 1) (hx H (.cells [.list 4 [] .full, .list 3 [] .full, .int .i64 0, .int .i64 0] :: .cells [.list 4 RV .ro, .list 3 [] .full, .int .i64 (g.1 + 1), .int .i64 st] :: B :: M))
    rw [← hfe, hfd] at tw hf
    rw [hfe] at tw
    generalize (abOf L [] []).filter (inR lo (g.1 + 1)) = D at *
    generalize (abOf L [] []).map laV = DD at *
    have hdf : dFl (abOf L [] []) = .own ∨ dFl (abOf L [] []) = .full := by unfold dFl; split <;> simp
    generalize dFl (abOf L [] []) = df at *
    rcases hf with rfl | ⟨rfl, rfl⟩ <;> rcases hdf with rfl | rfl
    ·simp only [go_sem, c_ref14_Fetch, te, ts, tr, c1, c2, c3, c4, slH, g0, g2, g3, List.length_map, c5, w1, e0, e7, e1, w2, u, ta, tw, under_la, simprocAttr]
     first | done | rfl
    ·simp only [go_sem, c_ref14_Fetch, te, ts, tr, c1, c2, c3, c4, slH, g0, g2, g3, List.length_map, c5, w1, e0, e7, e1, w2, u, ta, tw, under_la, simprocAttr]
     first | done | rfl
    ·simp only [List.map_nil] at tw
     simp only [go_sem, c_ref14_Fetch, te, ts, tr, c1, c2, c3, c4, slH, g0, g2, g3, List.length_map, c5, w1, e0, e7, e1, w2, u, ta, tw, simprocAttr]
     first | done | rfl
    ·simp only [List.map_nil] at tw
     simp only [go_sem, c_ref14_Fetch, te, ts, tr, c1, c2, c3, c4, slH, g0, g2, g3, List.length_map, c5, w1, e0, e7, e1, w2, u, ta, tw, simprocAttr]
     first | done | rfl
 ·have hle : R0.take n.toNat = R0 := List.take_of_length_le (by omega)
  refine fin R0 (mx lo (topE start L only)) ?_ hle ?_
  ·unfold fNext
   rw [hle, if_neg (by omega)]
  ·intro only' ho'
   subst ho'
   have u := fun n => under_g n R0
   cases only' with
   | false =>
    have c6 : ¬ (0 : Int) ≥ n := by omega
    simp only [topE, Bool.false_eq_true, if_false, fAb] at *
    generalize endE start L = top at *
    generalize stableE start L = st at *
    refine W_fn rfl rfl ?_
    have mc := mx_comm top lo
    rcases hfr with rfl | ⟨rfl, rfl⟩
    ·simp only [go_sem, c_ref14_Fetch, te, ts, tr, c1, c2, c3, c4, List.length_map, c5, u, mc, simprocAttr]
     first | done | rfl
    ·simp only [List.map_nil] at *
     simp only [go_sem, c_ref14_Fetch, te, ts, tr, c1, c2, c3, c4, List.length_nil, Int.natCast_zero, c6, mc, simprocAttr]
     first | done | rfl
   | true =>
    have c6 : ¬ (0 : Int) ≥ n := by omega
    simp only [topE, if_true, fAb] at *
    generalize endE start L = top at *
    generalize stableE start L = st at *
    have mc := mx_comm st lo
    refine W_fn rfl rfl ?_
    rcases hfr with rfl | ⟨rfl, rfl⟩
    ·obtain ⟨M, ta⟩ := tf (hx H [.cells [.list 4 [] .full, .list 3 [] .full, .int .i64 0, .int .i64 0], .cells [.list 4 (R0.map gV) .own, .list 3 [] .full, .int .i64 (mx lo st), .int .i64 st]])
     simp only [hx_hx, pt_hx, List.length_cons, List.length_nil, List.cons_append, List.nil_append, Nat.zero_add, Nat.add_zero] at ta
     generalize tabB (foldL L []) (foldF L [] .full) = B at *
     rw [hfe] at ta
     obtain ⟨f, tw, hf⟩ := rwithin_spec (abOf L [] []) (by omega) lo (mx lo st) (hx H (.cells [.list 4 [] .full, .list 3 [] .full, .int .i64 0, .int .i64 0] :: .cells [.list 4 (R0.map gV) .own, .list 3 [] .full, .int .i64 (mx lo st), .int .i64 st] :: B :: M))
     rw [← hfe, hfd] at tw hf
     rw [hfe] at tw
     generalize (abOf L [] []).filter (inR lo (mx lo st)) = D at *
     generalize (abOf L [] []).map laV = DD at *
     have hdf : dFl (abOf L [] []) = .own ∨ dFl (abOf L [] []) = .full := by unfold dFl; split <;> simp
     generalize dFl (abOf L [] []) = df at *
     rcases hf with rfl | ⟨rfl, rfl⟩ <;> rcases hdf with rfl | rfl
     ·simp only [go_sem, c_ref14_Fetch, te, ts, tr, c1, c2, c3, c4, List.length_map, c5, u, mc, ta, tw, under_la, simprocAttr]
      first | done | rfl
     ·simp only [go_sem, c_ref14_Fetch, te, ts, tr, c1, c2, c3, c4, List.length_map, c5, u, mc, ta, tw, under_la, simprocAttr]
      first | done | rfl
     ·simp only [List.map_nil] at tw
      simp only [go_sem, c_ref14_Fetch, te, ts, tr, c1, c2, c3, c4, List.length_map, c5, u, mc, ta, tw, simprocAttr]
      first | done | rfl
     ·simp only [List.map_nil] at tw
      simp only [go_sem, c_ref14_Fetch, te, ts, tr, c1, c2, c3, c4, List.length_map, c5, u, mc, ta, tw, simprocAttr]
      first | done | rfl
    ·simp only [List.map_nil] at *
     obtain ⟨M, ta⟩ := tf (hx H [.cells [.list 4 [] .full, .list 3 [] .full, .int .i64 0, .int .i64 0], .cells [.list 4 [] .full, .list 3 [] .full, .int .i64 (mx lo st), .int .i64 st]])
     simp only [hx_hx, pt_hx, List.length_cons, List.length_nil, List.cons_append, List.nil_append, Nat.zero_add, Nat.add_zero] at ta
     generalize tabB (foldL L []) (foldF L [] .full) = B at *
     rw [hfe] at ta
     obtain ⟨f, tw, hf⟩ := rwithin_spec (abOf L [] []) (by omega) lo (mx lo st) (hx H (.cells [.list 4 [] .full, .list 3 [] .full, .int .i64 0, .int .i64 0] :: .cells [.list 4 [] .full, .list 3 [] .full, .int .i64 (mx lo st), .int .i64 st] :: B :: M))
     rw [← hfe, hfd] at tw hf
     rw [hfe] at tw
     generalize (abOf L [] []).filter (inR lo (mx lo st)) = D at *
     generalize (abOf L [] []).map laV = DD at *
     have hdf : dFl (abOf L [] []) = .own ∨ dFl (abOf L [] []) = .full := by unfold dFl; split <;> simp
     generalize dFl (abOf L [] []) = df at *
     rcases hf with rfl | ⟨rfl, rfl⟩ <;> rcases hdf with rfl | rfl
     ·simp only [go_sem, c_ref14_Fetch, te, ts, tr, c1, c2, c3, c4, List.length_nil, Int.natCast_zero, c6, mc, ta, tw, under_la, simprocAttr]
      first | done | rfl
     ·simp only [go_sem, c_ref14_Fetch, te, ts, tr, c1, c2, c3, c4, List.length_nil, Int.natCast_zero, c6, mc, ta, tw, under_la, simprocAttr]
      first | done | rfl
     ·simp only [List.map_nil] at tw
      simp only [go_sem, c_ref14_Fetch, te, ts, tr, c1, c2, c3, c4, List.length_nil, Int.natCast_zero, c6, mc, ta, tw, simprocAttr]
      first | done | rfl
     ·simp only [List.map_nil] at tw
      simp only [go_sem, c_ref14_Fetch, te, ts, tr, c1, c2, c3, c4, List.length_nil, Int.natCast_zero, c6, mc, ta, tw, simprocAttr]
      first | done | rfl
theorem rfetchE_spec (L : List Ba) (hL : ∀ b ∈ L, Fit b) (hn : L.length ≤ 1000) (start lo n : Int) (h0 : 0 ≤ start) (hr : RowC start L) (only : Bool) (H : Heap) :
  W n_ref14_Fetch [.int .i64 start, .list 7 (L.map Ba.V) .ro, .int .i64 lo, .int .i64 n, .bool only] H =
   some (.tuple [.agg [.list 4 ((fetE start lo n L only).R.map gV) .ro, .list 3 ((fetE start lo n L only).D.map laV) .ro, .int .i64 (fetE start lo n L only).n, .int .i64 (fetE start lo n L only).s], .int .i64 (fetE start lo n L only).e], H) := by
 unfold fetE
 have te := fun H => end_spec start L hL hn .ro (.inl rfl) H
 by_cases h1 : n < 1
 ·rw [if_pos (.inl h1)]
  refine W_fn rfl rfl ?_
  simp only [go_sem, c_ref14_Fetch, te, h1, simprocAttr]
  first | done | rfl
 by_cases h2 : n > 64
 ·rw [if_pos (.inr h2)]
  refine W_fn rfl rfl ?_
  simp only [go_sem, c_ref14_Fetch, te, h1, h2, simprocAttr]
  first | done | rfl
 rw [if_neg (by omega)]
 by_cases h3 : lo < start
 ·rw [if_pos (.inl h3)]
  refine W_fn rfl rfl ?_
  simp only [go_sem, c_ref14_Fetch, te, h1, h2, h3, simprocAttr]
  first | done | rfl
 by_cases h4 : lo > endE start L
 ·rw [if_pos (.inr h4)]
  refine W_fn rfl rfl ?_
  simp only [go_sem, c_ref14_Fetch, te, h1, h2, h3, h4, simprocAttr]
  first | done | rfl
 rw [if_neg (by omega)]
 exact rfetch_ok L hL hn start lo n h0 hr only (by omega) (by omega) (by omega) (by omega) H
theorem fetE_len (L : List Ba) (hL : ∀ b ∈ L, Fit b) (hn : L.length ≤ 1000) (start lo n : Int) (only : Bool) : (fetE start lo n L only).R.length ≤ 64 ∧ (fetE start lo n L only).D.length ≤ 1000 := by
 unfold fetE
 split
 ·simp
 ·rename_i h
  split
  ·simp
  ·refine ⟨?_, ?_⟩
   ·simp only [fRecs, List.length_take]; omega
   ·simp only [fAb]
    split
    ·exact Nat.le_trans (List.length_filter_le _ _) (Nat.le_trans (abOf_len L hL hn) hn)
    ·simp
theorem fetches_self (R : List Gt) (hR : R.length ≤ 1000000) (D : List La) (hD : D.length ≤ 1000000) (n s : Int) (H : Heap) :
  W n_ref14_Fetches [.agg [.list 4 (R.map gV) .ro, .list 3 (D.map laV) .ro, .int .i64 n, .int .i64 s], .agg [.list 4 (R.map gV) .ro, .list 3 (D.map laV) .ro, .int .i64 n, .int .i64 s]] H = some (.bool true, H) := by
 have tg := fun H => gots_self R hR H
 have td := fun H => dropped_self D hD H
 refine W_fn rfl rfl ?_
 simp only [go_sem, c_ref14_Fetches, tg, td, simprocAttr]
theorem all_spec (L : List Ba) (hL : ∀ b ∈ L, Fit b) (hn : L.length ≤ 1000) (start : Int) (h0 : 0 ≤ start) (hr : RowC start L) (H : Heap) :
  W n_law14_all [.int .i64 start, .list 7 (L.map Ba.V) .ro] H = some (.bool true, H) := by
 have t1 := fun H => fend_spec L hL (by omega) start H
 have t2 := fun H => end_spec start L hL hn .ro (.inl rfl) H
 have t3 := fun H => stable_spec L hL hn start H
 have t4 := fun H => rstable_spec L hL hn start H
 have t5 := fun H => committed_spec L hL hn start H
 obtain ⟨f, t6, hf⟩ := rcommitted_spec L hL hn start (hx H [])
 rw [← comm_eq start L h0 hL hr] at t6 hf
 have hl := commL_len (stableE start L) L hL
 generalize commL (stableE start L) L = C at *
 have tg := fun H => gots_self C (by omega) H
 generalize stableE start L = st at *
 generalize endE start L = en at *
 refine W_fn rfl rfl ?_
 rcases hf with rfl | ⟨rfl, rfl⟩
 ·simp only [go_sem, c_law14_all, t1, t2, t3, t4, t5, t6, tg, simprocAttr]
 ·simp only [List.map_nil] at *
  simp only [go_sem, c_law14_all, t1, t2, t3, t4, t5, t6, tg, simprocAttr]
set_option maxHeartbeats 2000000 in
theorem same_spec (L : List Ba) (hL : ∀ b ∈ L, Fit b) (hn : L.length ≤ 1000) (start lo n : Int) (h0 : 0 ≤ start) (hr : RowC start L) (h1 : -35184372088832 ≤ lo) (h2 : lo ≤ 35184372088832) (h3 : -1000 ≤ n) (h4 : n ≤ 1000) (only : Bool) (H : Heap) :
  W n_law14_same [.int .i64 start, .list 7 (L.map Ba.V) .ro, .int .i64 lo, .int .i64 n, .bool only] H = some (.bool true, H) := by
 have t1 := fun H => fetchE_spec L hL hn start lo n only H
 have t2 := fun H => rfetchE_spec L hL hn start lo n h0 hr only H
 have hl := fetE_len L hL hn start lo n only
 generalize fetE start lo n L only = F at *
 obtain ⟨R, D, nx, s, e⟩ := F
 simp only at t1 t2 hl
 have t3 := fun H => fetches_self R (by omega) D (by omega) nx s H
 have t4 := fun H => deliver_spec R (by omega) D (by omega) nx s H
 obtain ⟨f5, t5, hf5⟩ := rdeliver_spec R (by omega) D (by omega) nx s (hx H [.cells [.list 4 (R.map gV) .ro, .list 3 (D.map laV) .ro, .int .i64 nx, .int .i64 s], .cells [.list 4 (R.map gV) .ro, .list 3 (D.map laV) .ro, .int .i64 nx, .int .i64 s]])
 have hdl : (R.filter fun g => !hitG D g).length ≤ 64 := Nat.le_trans (List.length_filter_le _ _) hl.1
 have t6 := fun H => gots_self (R.filter fun g => !hitG D g) (by omega) H
 generalize R.filter (fun g => !hitG D g) = Q at *
 have t7 := fun H => records_spec L hL hn start lo (lo + n) H
 obtain ⟨f8, t8, hf8⟩ := rrecords_spec L hL hn lo (lo + n) (hx H [.cells [.list 4 (R.map gV) .ro, .list 3 (D.map laV) .ro, .int .i64 nx, .int .i64 s], .cells [.list 4 (R.map gV) .ro, .list 3 (D.map laV) .ro, .int .i64 nx, .int .i64 s]])
 have hrl := recordsL_len lo (lo + n) L hL
 have t9 := fun H => gots_self (recordsL lo (lo + n) L) (by omega) H
 generalize recordsL lo (lo + n) L = P at *
 have w : IntKind.i64.wrap (lo + n) = lo + n := wrap_id (by unfold I64; omega)
 have uR := fun n => under_g n R
 have uD := fun n => under_la n D
 refine W_fn rfl rfl ?_
 rcases hf5 with rfl | ⟨rfl, rfl⟩ <;> rcases hf8 with rfl | ⟨rfl, rfl⟩ <;> simp only [List.map_nil] at *
 ·simp only [go_sem, c_law14_same, t1, t2, t3, t4, t5, t6, t7, t8, t9, w, uR, uD, simprocAttr]
 ·simp only [go_sem, c_law14_same, t1, t2, t3, t4, t5, t6, t7, t8, t9, w, uR, uD, simprocAttr]
 ·simp only [go_sem, c_law14_same, t1, t2, t3, t4, t5, t6, t7, t8, t9, w, uR, uD, simprocAttr]
 ·simp only [go_sem, c_law14_same, t1, t2, t3, t4, t5, t6, t7, t8, t9, w, uR, uD, simprocAttr]
end Go.Abs
