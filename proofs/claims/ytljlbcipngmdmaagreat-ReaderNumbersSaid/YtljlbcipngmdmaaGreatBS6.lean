import Derived.Test.YtljlbcipngmdmaaGreatBS5
import Derived.Test.YtljlbcipngmdmaaGreatBS4
set_option linter.unusedVariables false
set_option linter.unusedSimpArgs false
namespace Go.Abs
open Go Go.RowKit
def idxI (o : Option Nat) : Int := match o with | some i => (i : Int) | none => -1
theorem gthv0 (Xs : List AVal) (e : Env) (H : Heap) (h1 : Env.get e 0 = .list 4 Xs .uniq) :
  agh (.thaw 0) e (hx H []) = some (e.put 0 (.lbox (pt H 0)), hx H [.arr 4 Xs]) := by
 have hl : (hx H []).length = pt H 0 := hx_len H []
 simp only [agh, h1, hl, hx_app, List.nil_append]
theorem gbkv0 (Xs : List AVal) (e : Env) (H N : Heap) (h1 : Env.get e 0 = .lbox (pt H 0)) :
  agh (.back 0) e (hx H (.arr 4 Xs :: N)) = some (e.put 0 (.list 4 Xs .uniq), hx H (.dead :: N)) := by
 have g : (hx H (.arr 4 Xs :: N))[pt H 0]? = some (.arr 4 Xs) := by rw [hx_get]; rfl
 simp only [agh, h1, g, hx_set, List.set_cons_zero]
theorem gindexfunc_loop (p : Gt → Bool) (g : FuncId) (kc k : Nat) (H : Heap) (l : List Gt) (hn : l.length ≤ 1000000) (hk : H[k]? = some (.arr 4 (l.map gV)))
  (hp : ∀ (N : Heap) (x : Gt), W g [.agg [.int .i64 x.1, .int .i64 x.2.1, .str x.2.2.1, .str x.2.2.2], .ptr kc 0] (hx H N) = some (.bool (p x), hx H N)) (r : List Gt) : ∀ (q : List Gt), l = q ++ r →
  loopA W loopW (.ghost (.kill k_slices_IndexFunc_api_Got_api_Got__0) l_slices_IndexFunc_api_Got_api_Got__0) [(0, .lbox k), (1, .fn g [] [.ptr kc 0]), (7, .int .i64 (l.length : Nat)), (8, .int .i64 (q.length : Nat))] (hx H []) =
   match r.findIdx? p with
   | some i => some (.ret, [(4, .int .i64 ((q.length + i : Nat) : Int))], hx H [])
   | none => some (.exit 0, [], hx H []) := by
 have gk := hx_old hk []
 induction r with
 | nil =>
  intro q hq
  rw [List.append_nil] at hq
  subst hq
  have h1 : ¬ ((l.length : Int) < (l.length : Int)) := by omega
  rw [List.findIdx?_nil]
  simp only
  refine loop_step l_slices_IndexFunc_api_Got_api_Got__0.eq_1 k_slices_IndexFunc_api_Got_api_Got__0.eq_1 (by kernel_rfl) ?_
  simp only [go_sem, h1, simprocAttr]
 | cons x r ih =>
  intro q hq
  have hlen : l.length = q.length + (r.length + 1) := by rw [hq]; simp
  have h1 : ((q.length : Int) < (l.length : Int)) := by omega
  have e0 : (0 : Int) ≤ (q.length : Int) := by omega
  have e7 : ((q.length : Nat) : Int).toNat = q.length := by omega
  have e1 : (l.map gV)[q.length]? = some (.agg [.int .i64 x.1, .int .i64 x.2.1, .str x.2.2.1, .str x.2.2.2]) := by rw [hq]; simp [gV]
  have e6 : IntKind.i64.wrap ((q.length : Int) + 1) = ((q.length + 1 : Nat) : Int) := by rw [wrap_id (by unfold I64; omega)]; omega
  have hpx := hp [] x
  rw [List.findIdx?_cons]
  cases hc : p x with
  | true =>
   rw [hc] at hpx
   simp only [if_true, Nat.add_zero]
   refine loop_step l_slices_IndexFunc_api_Got_api_Got__0.eq_1 k_slices_IndexFunc_api_Got_api_Got__0.eq_1 (by kernel_rfl) ?_
   simp only [go_sem, h1, e0, e7, gk, List.length_map, e1, hpx, simprocAttr]
  | false =>
   rw [hc] at hpx
   have h2 := ih (q ++ [x]) (by rw [hq]; simp)
   simp only [List.length_append, List.length_cons, List.length_nil, Nat.zero_add] at h2
   simp only [Bool.false_eq_true, if_false]
   cases hf : r.findIdx? p with
   | none =>
    rw [hf] at h2
    simp only [Option.map_none] at h2 ⊢
    refine loop_step l_slices_IndexFunc_api_Got_api_Got__0.eq_1 k_slices_IndexFunc_api_Got_api_Got__0.eq_1 (by kernel_rfl) ?_
    simp only [go_sem, h1, e0, e7, gk, List.length_map, e1, hpx, e6, simprocAttr]
    exact h2
   | some i =>
    rw [hf] at h2
    simp only [Option.map_some] at h2 ⊢
    rw [show q.length + (i + 1) = q.length + 1 + i by omega]
    refine loop_step l_slices_IndexFunc_api_Got_api_Got__0.eq_1 k_slices_IndexFunc_api_Got_api_Got__0.eq_1 (by kernel_rfl) ?_
    simp only [go_sem, h1, e0, e7, gk, List.length_map, e1, hpx, e6, simprocAttr]
    exact h2
theorem gindexfunc_spec (p : Gt → Bool) (g : FuncId) (kc k : Nat) (H : Heap) (l : List Gt) (hn : l.length ≤ 1000000) (hk : H[k]? = some (.arr 4 (l.map gV)))
  (hp : ∀ (N : Heap) (x : Gt), W g [.agg [.int .i64 x.1, .int .i64 x.2.1, .str x.2.2.1, .str x.2.2.2], .ptr kc 0] (hx H N) = some (.bool (p x), hx H N)) :
  W n_slices_IndexFunc_api_Got_api_Got_ [.lbox k, .fn g [] [.ptr kc 0]] H = some (.int .i64 (idxI (l.findIdx? p)), H) := by
 have h := gindexfunc_loop p g kc k H l hn hk hp l [] rfl
 have gk := hx_old hk []
 simp only [List.length_nil, Int.natCast_zero, Nat.zero_add] at h
 refine W_fn rfl rfl ?_
 unfold idxI
 cases hf : l.findIdx? p with
 | none =>
  rw [hf] at h
  simp only at h ⊢
  simp only [go_sem, c_slices_IndexFunc_api_Got_api_Got_, gk, List.length_map, h, simprocAttr]
 | some i =>
  rw [hf] at h
  simp only at h ⊢
  simp only [go_sem, c_slices_IndexFunc_api_Got_api_Got_, gk, List.length_map, h, simprocAttr]
theorem gdelete_loop (p : Gt → Bool) (g : FuncId) (kc : Nat) (H : Heap) (n : Nat) (hn : n ≤ 1000000)
  (hp : ∀ (N : Heap) (x : Gt), W g [.agg [.int .i64 x.1, .int .i64 x.2.1, .str x.2.2.1, .str x.2.2.2], .ptr kc 0] (hx H N) = some (.bool (p x), hx H N)) (r : List Gt) : ∀ (A kept : List Gt) (j : Nat) (N : Heap),
  A.length = n → A.take kept.length = kept → A.drop j = r → j + r.length = n → kept.length < j →
  ∃ (A' : List Gt) (N' : Heap), loopA W loopW (.ghost (.kill k_slices_DeleteFunc_api_Got_api_Got__0) l_slices_DeleteFunc_api_Got_api_Got__0) [(0, .lbox (pt H 0)), (1, .fn g [] [.ptr kc 0]), (5, .int .i64 (kept.length : Nat)), (6, .int .i64 (j : Nat))] (hx H (.arr 4 (A.map gV) :: N)) =
   some (.exit 0, [(0, .lbox (pt H 0)), (5, .int .i64 ((kept ++ r.filter fun x => !p x).length : Nat))], hx H (.arr 4 (A'.map gV) :: N')) ∧ A'.length = n ∧ A'.take (kept ++ r.filter fun x => !p x).length = kept ++ r.filter (fun x => !p x) ∧ (kept ++ r.filter fun x => !p x).length < n := by
 induction r with
 | nil =>
  intro A kept j N hA ht hd hj hk
  simp only [List.length_nil, Nat.add_zero] at hj
  subst hj
  refine ⟨A, N, ?_, hA, ?_, ?_⟩
  ·have h1 : ¬ ((j : Int) < (A.length : Int)) := by omega
   rw [List.filter_nil, List.append_nil]
   refine loop_step l_slices_DeleteFunc_api_Got_api_Got__0.eq_1 k_slices_DeleteFunc_api_Got_api_Got__0.eq_1 (by kernel_rfl) ?_
   simp only [go_sem, List.length_map, h1, simprocAttr]
  ·rw [List.filter_nil, List.append_nil]; exact ht
  ·rw [List.filter_nil, List.append_nil]; exact hk
 | cons x r ih =>
  intro A kept j N hA ht hd hj hk
  simp only [List.length_cons] at hj
  have h1 : ((j : Int) < (A.length : Int)) := by omega
  have e0 : (0 : Int) ≤ (j : Int) := by omega
  have e7 : ((j : Nat) : Int).toNat = j := by omega
  have hAj : A[j]? = some x := by
   have : (A.drop j)[0]? = some x := by rw [hd]; rfl
   rwa [List.getElem?_drop, Nat.add_zero] at this
  have e1 : (A.map gV)[j]? = some (.agg [.int .i64 x.1, .int .i64 x.2.1, .str x.2.2.1, .str x.2.2.2]) := by rw [List.getElem?_map, hAj]; rfl
  have e6 : IntKind.i64.wrap ((j : Int) + 1) = ((j + 1 : Nat) : Int) := by rw [wrap_id (by unfold I64; omega)]; omega
  have n1 : ∀ y : Box, (N ++ [y])[N.length]? = some y := fun y => by simp
  have n2 : ∀ y z : Box, (N ++ [y]).set N.length z = N ++ [z] := fun y z => by simp
  have hpx := fun N => hp N x
  have hd' : A.drop (j + 1) = r := by
   have : (A.drop j).drop 1 = r := by rw [hd]; rfl
   rwa [List.drop_drop] at this
  rw [List.filter_cons]
  cases hc : p x with
  | true =>
   rw [hc] at hpx
   simp only [Bool.not_true, Bool.false_eq_true, if_false]
   obtain ⟨A', N', h2, h3, h4, h5⟩ := ih A kept (j + 1) (N ++ [.cells [.int .i64 x.1, .int .i64 x.2.1, .str x.2.2.1, .str x.2.2.2]]) hA ht hd' (by omega) (by omega)
   refine ⟨A', N', ?_, h3, h4, h5⟩
   generalize (kept ++ r.filter fun x => !p x).length = K at *
   refine loop_step l_slices_DeleteFunc_api_Got_api_Got__0.eq_1 k_slices_DeleteFunc_api_Got_api_Got__0.eq_1 (by kernel_rfl) ?_
   simp only [go_sem, List.length_map, h1, e0, e7, e1, n1, n2, hpx, e6, simprocAttr]
   exact h2
  | false =>
   rw [hc] at hpx
   simp only [Bool.not_false, if_true]
   have hki : kept.length < A.length := by omega
   obtain ⟨y, hy⟩ : ∃ y, A[kept.length]? = some y := ⟨_, List.getElem?_eq_getElem hki⟩
   have k0 : (0 : Int) ≤ (kept.length : Int) := by omega
   have k1 : (kept.length : Int) < (A.length : Int) := by omega
   have k7 : ((kept.length : Nat) : Int).toNat = kept.length := by omega
   have k2 : (A.map gV)[kept.length]? = some (.agg [.int .i64 y.1, .int .i64 y.2.1, .str y.2.2.1, .str y.2.2.2]) := by rw [List.getElem?_map, hy]; rfl
   have k6 : IntKind.i64.wrap ((kept.length : Int) + 1) = ((kept.length + 1 : Nat) : Int) := by rw [wrap_id (by unfold I64; omega)]; omega
   have ks : (A.map gV).set kept.length (.agg [.int .i64 x.1, .int .i64 x.2.1, .str x.2.2.1, .str x.2.2.2]) = (A.set kept.length x).map gV := by rw [List.map_set]; rfl
   have ht' : (A.set kept.length x).take (kept ++ [x]).length = kept ++ [x] := by
    rw [List.length_append, List.length_singleton]
    refine List.ext_getElem? fun q => ?_
    rw [List.getElem?_take]
    by_cases hq : q < kept.length + 1
    ·rw [if_pos hq, List.getElem?_set]
     by_cases hq2 : kept.length = q
     ·subst hq2
      rw [if_pos rfl, if_pos hki, List.getElem?_append_right (Nat.le_refl _), Nat.sub_self]; rfl
     ·rw [if_neg hq2, List.getElem?_append_left (by omega)]
      have : (A.take kept.length)[q]? = kept[q]? := by rw [ht]
      rwa [List.getElem?_take, if_pos (by omega)] at this
    ·rw [if_neg hq, List.getElem?_eq_none (by simp; omega)]
   have hd2 : (A.set kept.length x).drop (j + 1) = r := by
    rw [List.drop_set_of_lt (by omega), hd']
   obtain ⟨A', N', h2, h3, h4, h5⟩ := ih (A.set kept.length x) (kept ++ [x]) (j + 1) (N ++ [.cells [.int .i64 x.1, .int .i64 x.2.1, .str x.2.2.1, .str x.2.2.2]]) (by simp [hA]) ht' hd2 (by omega) (by simp; omega)
   rw [List.append_assoc, List.cons_append, List.nil_append] at h2 h4 h5
   refine ⟨A', N', ?_, h3, h4, h5⟩
   simp only [List.length_append, List.length_cons, List.length_nil, Nat.zero_add] at h2
   rw [show ((kept ++ x :: r.filter fun x => !p x).length : Nat) = kept.length + (r.filter fun x => !p x).length + 1 by simp; omega]
   rw [show kept.length + ((r.filter fun x => !p x).length + 1) = kept.length + (r.filter fun x => !p x).length + 1 by omega] at h2
   generalize kept.length + (r.filter fun x => !p x).length + 1 = K at *
   refine loop_step l_slices_DeleteFunc_api_Got_api_Got__0.eq_1 k_slices_DeleteFunc_api_Got_api_Got__0.eq_1 (by kernel_rfl) ?_
   simp only [go_sem, List.length_map, h1, e0, e7, e1, n1, n2, hpx, e6, k0, k1, k7, k2, k6, ks, simprocAttr]
   exact h2
theorem gfind_none {p : Gt → Bool} : ∀ {l : List Gt}, l.findIdx? p = none → l.filter (fun x => !p x) = l := by
 intro l h
 rw [List.findIdx?_eq_none_iff] at h
 rw [List.filter_eq_self]
 intro x hx
 rw [h x hx]; rfl
theorem gfind_some {p : Gt → Bool} {l : List Gt} {i : Nat} (h : l.findIdx? p = some i) : i < l.length ∧ l.filter (fun x => !p x) = l.take i ++ (l.drop (i + 1)).filter (fun x => !p x) := by
 rw [List.findIdx?_eq_some_iff_getElem] at h
 obtain ⟨hi, h1, h2⟩ := h
 refine ⟨hi, ?_⟩
 conv => lhs; rw [← List.take_append_drop i l, List.drop_eq_getElem_cons hi]
 rw [List.filter_append, List.filter_cons, h1]
 simp only [Bool.not_true, Bool.false_eq_true, if_false]
 congr 1
 rw [List.filter_eq_self]
 intro x hx
 obtain ⟨j, hj, rfl⟩ := List.mem_iff_getElem.1 hx
 rw [List.getElem_take]
 have := h2 j (by simp at hj; omega)
 simpa using this
set_option maxHeartbeats 1000000 in
theorem gdelete_spec (p : Gt → Bool) (g : FuncId) (kc : Nat) (H : Heap) (l : List Gt) (hn : l.length ≤ 1000000)
  (hp : ∀ (N : Heap) (x : Gt), W g [.agg [.int .i64 x.1, .int .i64 x.2.1, .str x.2.2.1, .str x.2.2.2], .ptr kc 0] (hx H N) = some (.bool (p x), hx H N)) :
  W n_slices_DeleteFunc_api_Got_api_Got_ [.list 4 (l.map gV) .uniq, .fn g [] [.ptr kc 0]] H = some (.list 4 ((l.filter fun x => !p x).map gV) .uniq, H) := by
 have hth := fun e => gthv0 (l.map gV) e H
 have hbk := fun Xs e N => gbkv0 Xs e H N
 have ti := gindexfunc_spec p g kc (pt H 0) (hx H [.arr 4 (l.map gV)]) l hn (by rw [hx_get]; rfl) (fun N x => by rw [hx_hx]; exact hp _ x)
 have u := fun m => under_g m (l.filter fun x => !p x)
 cases hf : l.findIdx? p with
 | none =>
  rw [hf] at ti
  simp only [idxI] at ti
  rw [gfind_none hf] at u ⊢
  refine W_fn rfl rfl ?_
  simp only [go_sem, c_slices_DeleteFunc_api_Got_api_Got_, hth, ti, hbk, u, simprocAttr]
  first | done | rfl
 | some i =>
  rw [hf] at ti
  simp only [idxI] at ti
  obtain ⟨hi, hfl⟩ := gfind_some hf
  have hkl : (l.take i).length = i := by rw [List.length_take]; omega
  obtain ⟨A', N', h2, h3, h4, h5⟩ := gdelete_loop p g kc H l.length hn hp (l.drop (i + 1)) l (l.take i) (i + 1) [] rfl (by rw [hkl]) rfl (by rw [List.length_drop]; omega) (by rw [hkl]; omega)
  rw [← hfl] at h2 h4 h5
  rw [hkl] at h2
  have c1 : ¬ ((i : Int) = -1) := by omega
  have w1 : IntKind.i64.wrap ((i : Int) + 1) = ((i + 1 : Nat) : Int) := by rw [wrap_id (by unfold I64; omega)]; omega
  have hA : (A'.map gV).take (l.filter fun x => !p x).length = (l.filter fun x => !p x).map gV := by rw [← List.map_take, h4]
  generalize l.filter (fun x => !p x) = F at *
  have k0 : (0 : Int) ≤ (F.length : Int) := by omega
  have k1 : (F.length : Int) < (A'.length : Int) := by omega
  have k2 : F.length ≤ A'.length := by omega
  have k7 : ((F.length : Nat) : Int).toNat = F.length := by omega
  have k8 : ∀ z : AVal, (F.map gV ++ List.replicate (A'.length - F.length) z).length = A'.length := fun z => by simp; omega
  have k9 : ∀ z : AVal, (F.map gV ++ List.replicate (A'.length - F.length) z).take F.length = F.map gV := fun z => by rw [List.take_append_of_le_length (by simp)]; rw [List.take_of_length_le (by simp)]
  have k3 : (F.length : Int) ≤ (A'.length : Int) := by omega
  have ct : ∀ z : AVal, ev W (.cut 4) [.list 4 (F.map gV ++ List.replicate (A'.length - F.length) z) .uniq, .int .i64 (F.length : Nat)] = fun H => some (.list 4 (F.map gV) .uniq, H) := by
   intro z
   funext H
   rw [e_cutU, k8, if_pos ⟨k0, k3⟩, k7, k9]
  refine W_fn rfl rfl ?_
  simp only [go_sem, c_slices_DeleteFunc_api_Got_api_Got_, hth, ti, c1, w1, h2, List.length_map, k0, k1, k7, k2, hA, hbk, ct, u, simprocAttr]
  first | done | rfl
def hitD (g : Gt) (d : La) : Bool := decide (g.2.1 ≠ -1) && (decide (d.1 = g.2.1) && (decide (d.2.1 ≤ g.1) && decide (g.1 ≤ d.2.2)))
def hitG (D : List La) (g : Gt) : Bool := D.any (hitD g)
theorem rindex_loop (p : La → Bool) (g : FuncId) (kc : Nat) (H : Heap) (l : List La) (hn : l.length ≤ 9223372036854775807)
  (hp : ∀ (x : La), W g [.agg [.int .i64 x.1, .int .i64 x.2.1, .int .i64 x.2.2], .ptr kc 0] (hx H []) = some (.bool (p x), hx H [])) (f : Fl) (hf : f = .ro ∨ (f = .full ∧ l = [])) (r : List La) : ∀ (q : List La), l = q ++ r →
  loopA W loopW (.ghost (.kill k_slices_IndexFunc_api_Dropped_api_Dropped__0) l_slices_IndexFunc_api_Dropped_api_Dropped__0) [(0, .list 3 (l.map laV) f), (1, .fn g [] [.ptr kc 0]), (7, .int .i64 (l.length : Nat)), (8, .int .i64 (q.length : Nat))] (hx H []) =
   match r.findIdx? p with
   | some i => some (.ret, [(4, .int .i64 ((q.length + i : Nat) : Int))], hx H [])
   | none => some (.exit 0, [], hx H []) := by
 induction r with
 | nil =>
  intro q hq
  rw [List.append_nil] at hq
  subst hq
  have h1 : ¬ ((l.length : Int) < (l.length : Int)) := by omega
  rw [List.findIdx?_nil]
  simp only
  refine loop_step l_slices_IndexFunc_api_Dropped_api_Dropped__0.eq_1 k_slices_IndexFunc_api_Dropped_api_Dropped__0.eq_1 (by kernel_rfl) ?_
  simp only [go_sem, h1, simprocAttr]
 | cons x r ih =>
  intro q hq
  have hf0 : f = .ro := by
   rcases hf with h | ⟨_, h⟩
   ·exact h
   ·rw [hq] at h; simp at h
  subst hf0
  have hlen : l.length = q.length + (r.length + 1) := by rw [hq]; simp
  have h1 : ((q.length : Int) < (l.length : Int)) := by omega
  have e0 : (0 : Int) ≤ (q.length : Int) := by omega
  have e7 : ((q.length : Nat) : Int).toNat = q.length := by omega
  have e1 : (l.map laV)[q.length]? = some (.agg [.int .i64 x.1, .int .i64 x.2.1, .int .i64 x.2.2]) := by rw [hq]; simp [laV]
  have e6 : IntKind.i64.wrap ((q.length : Int) + 1) = ((q.length + 1 : Nat) : Int) := by rw [wrap_id (by unfold I64; omega)]; omega
  have hpx := hp x
  rw [List.findIdx?_cons]
  cases hc : p x with
  | true =>
   rw [hc] at hpx
   simp only [if_true, Nat.add_zero]
   refine loop_step l_slices_IndexFunc_api_Dropped_api_Dropped__0.eq_1 k_slices_IndexFunc_api_Dropped_api_Dropped__0.eq_1 (by kernel_rfl) ?_
   simp only [go_sem, h1, e0, e7, List.length_map, e1, hpx, simprocAttr]
  | false =>
   rw [hc] at hpx
   have h2 := ih (q ++ [x]) (by rw [hq]; simp)
   simp only [List.length_append, List.length_cons, List.length_nil, Nat.zero_add] at h2
   simp only [Bool.false_eq_true, if_false]
   cases hf : r.findIdx? p with
   | none =>
    rw [hf] at h2
    simp only [Option.map_none] at h2 ⊢
    refine loop_step l_slices_IndexFunc_api_Dropped_api_Dropped__0.eq_1 k_slices_IndexFunc_api_Dropped_api_Dropped__0.eq_1 (by kernel_rfl) ?_
    simp only [go_sem, h1, e0, e7, List.length_map, e1, hpx, e6, simprocAttr]
    exact h2
   | some i =>
    rw [hf] at h2
    simp only [Option.map_some] at h2 ⊢
    rw [show q.length + (i + 1) = q.length + 1 + i by omega]
    refine loop_step l_slices_IndexFunc_api_Dropped_api_Dropped__0.eq_1 k_slices_IndexFunc_api_Dropped_api_Dropped__0.eq_1 (by kernel_rfl) ?_
    simp only [go_sem, h1, e0, e7, List.length_map, e1, hpx, e6, simprocAttr]
    exact h2
theorem contains_spec (p : La → Bool) (g : FuncId) (kc : Nat) (H : Heap) (l : List La) (hn : l.length ≤ 9223372036854775807)
  (hp : ∀ (x : La), W g [.agg [.int .i64 x.1, .int .i64 x.2.1, .int .i64 x.2.2], .ptr kc 0] (hx H []) = some (.bool (p x), hx H [])) :
  W n_slices_ContainsFunc_api_Dropped_api_Dropped_ [.list 3 (l.map laV) .ro, .fn g [] [.ptr kc 0]] H = some (.bool (l.any p), H) := by
 have h := rindex_loop p g kc H l hn hp .ro (.inl rfl) l [] rfl
 simp only [List.length_nil, Int.natCast_zero, Nat.zero_add] at h
 have ti : W n_slices_IndexFunc_api_Dropped_api_Dropped_ [.list 3 (l.map laV) .ro, .fn g [] [.ptr kc 0]] (hx H []) = some (.int .i64 (idxI (l.findIdx? p)), hx H []) := by
  have : W n_slices_IndexFunc_api_Dropped_api_Dropped_ [.list 3 (l.map laV) .ro, .fn g [] [.ptr kc 0]] H = some (.int .i64 (idxI (l.findIdx? p)), H) := by
   refine W_fn rfl rfl ?_
   unfold idxI
   cases hf : l.findIdx? p with
   | none =>
    rw [hf] at h
    simp only at h ⊢
    simp only [go_sem, c_slices_IndexFunc_api_Dropped_api_Dropped_, List.length_map, h, simprocAttr]
   | some i =>
    rw [hf] at h
    simp only at h ⊢
    simp only [go_sem, c_slices_IndexFunc_api_Dropped_api_Dropped_, List.length_map, h, simprocAttr]
  rwa [hx_nil]
 refine W_fn rfl rfl ?_
 unfold idxI at ti
 cases hf : l.findIdx? p with
 | none =>
  rw [hf] at ti
  have ha : l.any p = false := by
   rw [List.findIdx?_eq_none_iff] at hf
   rw [List.any_eq_false]
   intro x hx; rw [hf x hx]; decide
  rw [ha]
  have c : ¬ ((-1 : Int) ≥ 0) := by decide
  simp only at ti
  simp only [go_sem, c_slices_ContainsFunc_api_Dropped_api_Dropped_, ti, c, simprocAttr]
 | some i =>
  rw [hf] at ti
  have ha : l.any p = true := by
   rw [List.findIdx?_eq_some_iff_getElem] at hf
   obtain ⟨hi, h1, _⟩ := hf
   rw [List.any_eq_true]
   exact ⟨_, List.getElem_mem hi, h1⟩
  rw [ha]
  have c : ((i : Nat) : Int) ≥ 0 := by omega
  simp only at ti
  simp only [go_sem, c_slices_ContainsFunc_api_Dropped_api_Dropped_, ti, c, simprocAttr]
theorem deliver11_spec (g : Gt) (kc : Nat) (H : Heap) (hk : H[kc]? = some (.cells [.int .i64 g.1, .int .i64 g.2.1, .str g.2.2.1, .str g.2.2.2])) (x : La) :
  W n_fold_Deliver_1_1 [.agg [.int .i64 x.1, .int .i64 x.2.1, .int .i64 x.2.2], .ptr kc 0] H = some (.bool (hitD g x), H) := by
 have gk := fun M => hx_old hk M
 unfold hitD
 refine W_fn rfl rfl ?_
 by_cases c1 : g.2.1 = -1
 ·rw [decide_eq_false (by simpa using c1)]
  simp only [go_sem, c_fold_Deliver_1_1, gk, eq_true c1, simprocAttr]
 ·rw [decide_eq_true (by simpa using c1)]
  by_cases c2 : x.1 = g.2.1
  ·rw [decide_eq_true c2]
   by_cases c3 : x.2.1 ≤ g.1
   ·rw [decide_eq_true c3]
    by_cases c4 : g.1 ≤ x.2.2
    ·rw [decide_eq_true c4]
     simp only [go_sem, c_fold_Deliver_1_1, gk, c1, eq_true c2, c3, c4, simprocAttr]
    ·rw [decide_eq_false c4]
     simp only [go_sem, c_fold_Deliver_1_1, gk, c1, eq_true c2, c3, c4, simprocAttr]
   ·rw [decide_eq_false c3]
    simp only [go_sem, c_fold_Deliver_1_1, gk, c1, eq_true c2, c3, simprocAttr]
  ·rw [decide_eq_false c2]
   simp only [go_sem, c_fold_Deliver_1_1, gk, c1, c2, simprocAttr]
theorem deliver1_spec (D : List La) (hD : D.length ≤ 9223372036854775807) (R N S : AVal) (kf : Nat) (f : Fl) (hf : f = .ro ∨ f = .own ∨ f = .full) (H : Heap) (hk : H[kf]? = some (.cells [R, .list 3 (D.map laV) f, N, S])) (g : Gt) :
  W n_fold_Deliver_1 [.agg [.int .i64 g.1, .int .i64 g.2.1, .str g.2.2.1, .str g.2.2.2], .ptr kf 0] H = some (.bool (hitG D g), H) := by
 have gk := fun M => hx_old hk M
 have tc := contains_spec (hitD g) n_fold_Deliver_1_1 (pt H 0) (hx H [.cells [.int .i64 g.1, .int .i64 g.2.1, .str g.2.2.1, .str g.2.2.2]]) D hD (fun x => by rw [hx_nil]; exact deliver11_spec g (pt H 0) _ (by rw [hx_get]; rfl) x)
 unfold hitG
 generalize D.any (hitD g) = b at *
 refine W_fn rfl rfl ?_
 rcases hf with rfl | rfl | rfl <;> simp only [go_sem, c_fold_Deliver_1, gk, tc, simprocAttr]
theorem deliver_spec (R : List Gt) (hR : R.length ≤ 1000000) (D : List La) (hD : D.length ≤ 9223372036854775807) (N S : Int) (H : Heap) :
  W n_fold_Deliver [.agg [.list 4 (R.map gV) .ro, .list 3 (D.map laV) .ro, .int .i64 N, .int .i64 S]] H = some (.list 4 ((R.filter fun g => !hitG D g).map gV) .full, H) := by
 have t1 := fun H => W_slices_Clone_api_Got_api_Got_ (R.map gV) H (by simp only [List.length_map, maxBytes]; omega)
 have t2 := gdelete_spec (hitG D) n_fold_Deliver_1 (pt H 0) (hx H [.cells [.list 4 (R.map gV) .ro, .list 3 (D.map laV) .ro, .int .i64 N, .int .i64 S]]) R hR (fun M x => deliver1_spec D hD _ _ _ (pt H 0) .ro (.inl rfl) _ (hx_old (by rw [hx_get]; rfl) M) x)
 have t3 := fun H => clip_got ((R.filter fun g => !hitG D g).map gV) .uniq (by simp) H
 have u := fun n => under_g n (R.filter fun g => !hitG D g)
 generalize R.filter (fun g => !hitG D g) = F at *
 refine W_fn rfl rfl ?_
 simp only [go_sem, c_fold_Deliver, t1, t2, t3, u, simprocAttr]
def recI (b : Ba) (lo hi i : Int) (rs : List Rc) : List Gt := if b.mark = 0 then recsF b lo hi i rs else []
theorem recI_nil (b lo hi i) : recI b lo hi i [] = [] := by unfold recI; split <;> rfl
theorem recI_cons (b : Ba) (lo hi i : Int) (a : Rc) (r : List Rc) : recI b lo hi i (a :: r) = (if b.mark = 0 ∧ b.base + i ≥ lo ∧ b.base + i < hi then [(b.base + i, b.prod, a)] else []) ++ recI b lo hi (i + 1) r := by
 unfold recI
 by_cases c : b.mark = 0
 ·simp only [c, if_true, true_and]
  rw [show recsF b lo hi i (a :: r) = if b.base + i ≥ lo ∧ b.base + i < hi then (b.base + i, b.prod, a) :: recsF b lo hi (i + 1) r else recsF b lo hi (i + 1) r from rfl]
  split <;> rfl
 ·simp [c]
theorem rrecs_loop (b : Ba) (hb : Fit b) (lo hi : Int) (X : AVal) (n m : Int) (k : Nat) (H : Heap) (r : List Rc) : ∀ (p : List Rc) (out : List Gt) (fl : Fl) (N : Heap), b.recs = p ++ r → out.length ≤ 100000 + p.length →
  N[k]? = some (.cells b.cs) → (fl = .own ∨ (fl = .full ∧ out = [])) →
  ∃ N' fl', loopA W loopW (.ghost (.kill k_ref14_Records_0) l_ref14_Records_0) [(1, .int .i64 lo), (2, .int .i64 hi), (7, .list 4 (out.map gV) fl), (9, .ptr (pt H k) 0), (13, X), (14, .int .i64 n), (15, .int .i64 m), (20, .list 2 (b.recs.map rcV) .ro), (21, .int .i64 (b.recs.length : Nat)), (22, .int .i64 (p.length : Nat))] (hx H N) =
   some (.exit 2, [(1, .int .i64 lo), (2, .int .i64 hi), (7, .list 4 ((out ++ recI b lo hi (p.length : Nat) r).map gV) fl'), (13, X), (14, .int .i64 n), (15, .int .i64 m)], hx H N') ∧ (fl' = .own ∨ (fl' = .full ∧ out ++ recI b lo hi (p.length : Nat) r = [])) := by
 induction r with
 | nil =>
  intro p out fl N hp ho hk hfl
  rw [List.append_nil] at hp
  rw [recI_nil, List.append_nil]
  refine ⟨N, fl, ?_, hfl⟩
  have h1 : ¬ ((p.length : Int) < (p.length : Int)) := by omega
  rw [hp]
  refine loop_step l_ref14_Records_0.eq_1 k_ref14_Records_0.eq_1 (by kernel_rfl) ?_
  simp only [go_sem, h1, simprocAttr]
 | cons a r ih =>
  intro p out fl N hp ho hk hfl
  have hsm := (rightE_small hb.right).1
  have hbase := hb.base
  have hlen : b.recs.length = p.length + (r.length + 1) := by rw [hp]; simp
  have h1 : ((p.length : Int) < (b.recs.length : Int)) := by omega
  have e0 : (0 : Int) ≤ (p.length : Int) := by omega
  have e7 : ((p.length : Nat) : Int).toNat = p.length := by omega
  have e1 : (b.recs.map rcV)[p.length]? = some (.agg [.str a.1, .str a.2]) := by rw [hp]; simp [rcV]
  have e6 : IntKind.i64.wrap ((p.length : Int) + 1) = ((p.length + 1 : Nat) : Int) := by rw [wrap_id (by unfold I64; omega)]; omega
  have w1 : IntKind.i64.wrap (b.base + (p.length : Int)) = b.base + (p.length : Int) := wrap_id (by unfold I64; omega)
  have n0 : k < N.length := (List.getElem?_eq_some_iff.1 hk).1
  have n3 : (N ++ [.cells [.str a.1, .str a.2]])[k]? = some (.cells [.int .i64 b.base, .int .i64 b.prod, .int .i64 b.epoch, .int .i64 b.seq, .bool b.txn, .int .i64 b.mark, .list 2 (b.recs.map rcV) .ro]) := by rw [List.getElem?_append_left n0, hk]; rfl
  have n1 : ∀ x : Box, (N ++ [x])[N.length]? = some x := fun x => by simp
  have n2 : ∀ x z : Box, (N ++ [x]).set N.length z = N ++ [z] := fun x z => by simp
  rw [recI_cons]
  have key : ∀ out' fl', (out' = out ++ (if b.mark = 0 ∧ b.base + (p.length : Int) ≥ lo ∧ b.base + (p.length : Int) < hi then [(b.base + (p.length : Int), b.prod, a)] else [])) → (fl' = .own ∨ (fl' = .full ∧ out' = [])) →
    ∃ N' fl'', loopA W loopW (.ghost (.kill k_ref14_Records_0) l_ref14_Records_0) [(1, .int .i64 lo), (2, .int .i64 hi), (7, .list 4 (out'.map gV) fl'), (9, .ptr (pt H k) 0), (13, X), (14, .int .i64 n), (15, .int .i64 m), (20, .list 2 (b.recs.map rcV) .ro), (21, .int .i64 (b.recs.length : Nat)), (22, .int .i64 (p.length + 1 : Nat))] (hx H (N ++ [.cells [.str a.1, .str a.2]])) =
   some (.exit 2, [(1, .int .i64 lo), (2, .int .i64 hi), (7, .list 4 ((out' ++ recI b lo hi ((p.length : Nat) + 1) r).map gV) fl''), (13, X), (14, .int .i64 n), (15, .int .i64 m)], hx H N') ∧ (fl'' = .own ∨ (fl'' = .full ∧ out' ++ recI b lo hi ((p.length : Nat) + 1) r = [])) := by
   intro out' fl' ho' hfl'
   have hl' : out'.length ≤ 100000 + (p ++ [a]).length := by
    rw [ho']; split <;> simp <;> omega
   have h3 : (N ++ [Box.cells [.str a.1, .str a.2]])[k]? = some (.cells b.cs) := by rw [List.getElem?_append_left n0, hk]
   obtain ⟨N', fl'', h, hh⟩ := ih (p ++ [a]) out' fl' (N ++ [.cells [.str a.1, .str a.2]]) (by rw [hp]; simp) hl' h3 hfl'
   simp only [List.length_append, List.length_cons, List.length_nil, Nat.zero_add, Int.natCast_add, Int.cast_ofNat_Int] at h hh
   exact ⟨N', fl'', by simpa using h, hh⟩
  by_cases c0 : b.mark = 0
  ·by_cases c1 : b.base + (p.length : Int) ≥ lo
   ·by_cases c2 : b.base + (p.length : Int) < hi
    ·rw [if_pos ⟨c0, c1, c2⟩] at key ⊢
     obtain ⟨N', fl'', h, hh⟩ := key _ .own rfl (.inl rfl)
     rw [List.append_assoc] at h hh
     refine ⟨N', fl'', ?_, hh⟩
     have bb : (out.length + 1) * 48 ≤ maxBytes := by simp only [maxBytes]; omega
     have b0 : (0 + 1) * 48 ≤ maxBytes := by decide
     have e8 : out.map gV ++ [.agg [.int .i64 (b.base + (p.length : Int)), .int .i64 b.prod, .str a.1, .str a.2]] = (out ++ [(b.base + (p.length : Int), b.prod, a)]).map gV := by simp [gV]
     generalize recI b lo hi ((p.length : Nat) + 1) r = R at *
     refine loop_step l_ref14_Records_0.eq_1 k_ref14_Records_0.eq_1 (by kernel_rfl) ?_
     rcases hfl with rfl | ⟨rfl, rfl⟩
     ·simp only [go_sem, h1, e0, e7, e1, n1, n2, n3, w1, eq_true c0, c1, c2, List.length_map, apO, bb, e8, e6, simprocAttr]
      exact h
     ·simp only [List.map_nil, List.nil_append] at *
      simp only [go_sem, h1, e0, e7, e1, n1, n2, n3, w1, eq_true c0, c1, c2, List.length_map, apF, List.length_nil, b0, List.nil_append, e6, simprocAttr]
      rw [e8]
      exact h
    ·rw [if_neg (fun h => c2 h.2.2)] at key ⊢
     obtain ⟨N', fl'', h, hh⟩ := key out fl (by rw [List.append_nil]) hfl
     rw [List.nil_append]
     refine ⟨N', fl'', ?_, hh⟩
     generalize recI b lo hi ((p.length : Nat) + 1) r = R at *
     refine loop_step l_ref14_Records_0.eq_1 k_ref14_Records_0.eq_1 (by kernel_rfl) ?_
     simp only [go_sem, h1, e0, e7, e1, n1, n2, n3, w1, eq_true c0, c1, c2, e6, simprocAttr]
     exact h
   ·rw [if_neg (fun h => c1 h.2.1)] at key ⊢
    obtain ⟨N', fl'', h, hh⟩ := key out fl (by rw [List.append_nil]) hfl
    rw [List.nil_append]
    refine ⟨N', fl'', ?_, hh⟩
    generalize recI b lo hi ((p.length : Nat) + 1) r = R at *
    refine loop_step l_ref14_Records_0.eq_1 k_ref14_Records_0.eq_1 (by kernel_rfl) ?_
    simp only [go_sem, h1, e0, e7, e1, n1, n2, n3, w1, eq_true c0, c1, e6, simprocAttr]
    exact h
  ·rw [if_neg (fun h => c0 h.1)] at key ⊢
   obtain ⟨N', fl'', h, hh⟩ := key out fl (by rw [List.append_nil]) hfl
   rw [List.nil_append]
   refine ⟨N', fl'', ?_, hh⟩
   generalize recI b lo hi ((p.length : Nat) + 1) r = R at *
   refine loop_step l_ref14_Records_0.eq_1 k_ref14_Records_0.eq_1 (by kernel_rfl) ?_
   simp only [go_sem, h1, e0, e7, e1, n1, n2, n3, w1, c0, e6, simprocAttr]
   exact h
set_option maxHeartbeats 1000000 in
theorem rrecords_loop (L : List Ba) (hL : ∀ b ∈ L, Fit b) (hn : L.length ≤ 1000) (lo hi : Int) (f : Fl) (hf : f = .ro ∨ (f = .full ∧ L = [])) (H : Heap) (r : List Ba) : ∀ (p : List Ba) (out : List Gt) (fl : Fl) (N : Heap), L = p ++ r → out.length ≤ 16 * p.length → (fl = .own ∨ (fl = .full ∧ out = [])) →
  ∃ N' fl', loopA W loopW (.ghost (.kill k_ref14_Records_1) l_ref14_Records_1) [(1, .int .i64 lo), (2, .int .i64 hi), (7, .list 4 (out.map gV) fl), (13, .list 7 (L.map Ba.V) f), (14, .int .i64 (L.length : Nat)), (15, .int .i64 (p.length : Nat))] (hx H N) =
   some (.exit 0, [(7, .list 4 ((out ++ recordsL lo hi r).map gV) fl')], hx H N') ∧ (fl' = .own ∨ (fl' = .full ∧ out ++ recordsL lo hi r = [])) := by
 induction r with
 | nil =>
  intro p out fl N hp ho hfl
  rw [List.append_nil] at hp
  subst hp
  rw [show recordsL lo hi [] = [] from rfl, List.append_nil]
  refine ⟨N, fl, ?_, hfl⟩
  have h1 : ¬ ((L.length : Int) < (L.length : Int)) := by omega
  refine loop_step l_ref14_Records_1.eq_1 k_ref14_Records_1.eq_1 (by kernel_rfl) ?_
  simp only [go_sem, h1, simprocAttr]
 | cons b r ih =>
  intro p out fl N hp ho hfl
  have hf0 : f = .ro := by
   rcases hf with h | ⟨_, h⟩
   ·exact h
   ·rw [hp] at h; simp at h
  subst hf0
  have hb := hL b (by rw [hp]; simp)
  have hlen : L.length = p.length + (r.length + 1) := by rw [hp]; simp
  have h1 : ((p.length : Int) < (L.length : Int)) := by omega
  have e0 : (0 : Int) ≤ (p.length : Int) := by omega
  have e7 : ((p.length : Nat) : Int).toNat = p.length := by omega
  have e1 : (L.map Ba.V)[p.length]? = some (.agg [.int .i64 b.base, .int .i64 b.prod, .int .i64 b.epoch, .int .i64 b.seq, .bool b.txn, .int .i64 b.mark, .list 2 (b.recs.map rcV) .ro]) := by rw [hp]; simp [Ba.V, Ba.cs]
  have e6 : IntKind.i64.wrap ((p.length : Int) + 1) = ((p.length + 1 : Nat) : Int) := by rw [wrap_id (by unfold I64; omega)]; omega
  have n1 : ∀ x : Box, (N ++ [x])[N.length]? = some x := fun x => by simp
  have n2 : ∀ x z : Box, (N ++ [x]).set N.length z = N ++ [z] := fun x z => by simp
  obtain ⟨N1, fl1, h2, hf1⟩ := rrecs_loop b hb lo hi (.list 7 (L.map Ba.V) .ro) (L.length : Nat) (p.length : Nat) N.length H b.recs [] out fl (N ++ [.cells b.cs]) rfl (by omega) (by simp) hfl
  have er : recI b lo hi (([] : List Rc).length : Nat) b.recs = recB b lo hi := rfl
  rw [er] at h2 hf1
  have hrl := recB_len b hb lo hi
  obtain ⟨N', fl', h3, hf'⟩ := ih (p ++ [b]) (out ++ recB b lo hi) fl1 N1 (by rw [hp]; simp) (by simp; omega) hf1
  rw [List.append_assoc, show recB b lo hi ++ recordsL lo hi r = recordsL lo hi (b :: r) from rfl] at h3 hf'
  simp only [List.length_append, List.length_cons, List.length_nil, Nat.zero_add] at h3
  refine ⟨N', fl', ?_, hf'⟩
  generalize recordsL lo hi (b :: r) = R at *
  generalize recB b lo hi = R1 at *
  simp only [List.length_nil, Int.natCast_zero] at h2
  unfold Ba.cs at *
  refine loop_step l_ref14_Records_1.eq_1 k_ref14_Records_1.eq_1 (by kernel_rfl) ?_
  simp only [go_sem, h1, e0, e7, e1, n1, n2, List.length_map, h2, e6, simprocAttr]
  exact h3
theorem rrecords_spec (L : List Ba) (hL : ∀ b ∈ L, Fit b) (hn : L.length ≤ 1000) (lo hi : Int) (H : Heap) :
  ∃ f, W n_ref14_Records [.list 7 (L.map Ba.V) .ro, .int .i64 lo, .int .i64 hi] H = some (.list 4 ((recordsL lo hi L).map gV) f, H) ∧ (f = .own ∨ (f = .full ∧ recordsL lo hi L = [])) := by
 obtain ⟨N, fl, h, hf⟩ := rrecords_loop L hL hn lo hi .ro (.inl rfl) H L [] [] .full [] rfl (by simp) (.inr ⟨rfl, rfl⟩)
 simp only [List.length_nil, Int.natCast_zero, List.map_nil, List.nil_append] at h hf
 refine ⟨fl, ?_, hf⟩
 generalize recordsL lo hi L = R at *
 refine W_fn rfl rfl ?_
 rcases hf with rfl | ⟨rfl, rfl⟩
 ·simp only [go_sem, c_ref14_Records, List.length_map, h, under_g, simprocAttr]
 ·simp only [List.map_nil] at h ⊢
  simp only [go_sem, c_ref14_Records, List.length_map, h, simprocAttr]
  first | done | rfl
theorem foldF_ok14 : ∀ (A : List Ba) (L : List Pr) (fl : Fl), (fl = .own ∨ (fl = .full ∧ L = [])) → foldF A L fl = .own ∨ (foldF A L fl = .full ∧ foldL A L = [])
 | [], _, _, h => h
 | b :: A, L, fl, h => foldF_ok14 A (tabL L b) (newFl L b fl) (newFl_ok h)
theorem rstable_spec (L : List Ba) (hL : ∀ b ∈ L, Fit b) (hn : L.length ≤ 1000) (start : Int) (H : Heap) :
  W n_ref14_Stable [.int .i64 start, .list 7 (L.map Ba.V) .ro] H = some (.int .i64 (stableE start L), H) := by
 obtain ⟨M, t2⟩ := fold_spec L (fun b hb => (hL b hb).ok) hn (hx H [])
 have p0 : pt (hx H []) 0 = pt H 0 := by rw [hx_nil]
 rw [p0, hx_hx, List.nil_append] at t2
 have hTK := foldL_TK L [] 0 ⟨by simp, by simp⟩
 have hPl : (foldL L []).length ≤ 100000 := by have := hTK.len; omega
 have hfl : foldF L [] .full = .own ∨ (foldF L [] .full = .full ∧ foldL L [] = []) := foldF_ok14 L [] .full (.inr ⟨rfl, rfl⟩)
 have t3 := fun M => ropen_spec (foldL L []) hPl (foldF L [] .full) hfl (pt H 0) (hx H (tabB (foldL L []) (foldF L [] .full) :: M)) ⟨by rw [hx_get]; rfl⟩
 have t5 := fun H => end_spec start L hL hn .ro (.inl rfl) H
 have hst : stableE start L = if (openM (foldL L [])).2 = true then (openM (foldL L [])).1 else endE start L := by unfold stableE; rw [open_same L hL]
 rw [hst]
 generalize tabB (foldL L []) (foldF L [] .full) = B at *
 generalize openM (foldL L []) = s at *
 obtain ⟨a, b⟩ := s
 generalize (foldD L []).map laV = DD at *
 generalize dFl (foldD L []) = df at *
 refine W_fn rfl rfl ?_
 cases b with
 | true => simp only [go_sem, c_ref14_Stable, t2, t3, simprocAttr]
 | false => simp only [go_sem, c_ref14_Stable, t2, t3, t5, simprocAttr]
def markQ (p : Int) : List Ba → Int
 | [] => 1
 | x :: l => if x.mark ≠ 0 ∧ x.prod = p then x.mark else markQ p l
def nextM (b : Ba) (l : List Ba) : Int := if b.txn = true then markQ b.prod l else 1
theorem markQ_i64 (p : Int) : ∀ l : List Ba, (∀ b ∈ l, Fit b) → I64 (markQ p l)
 | [], _ => by show I64 1; exact i64_c (by decide) (by decide)
 | x :: l, h => by
  unfold markQ
  split
  ·exact (h x List.mem_cons_self).ok.mark
  ·exact markQ_i64 p l (fun y hy => h y (List.mem_cons_of_mem _ hy))
def commR (start top : Int) : List Ba → List Gt
 | [] => []
 | b :: l => (if nextM b l = 1 then recB b start top else []) ++ commR start top l
theorem recsF_lo (b : Ba) (lo lo' hi : Int) : ∀ (rs : List Rc) (i : Int), lo ≤ b.base + i → lo' ≤ b.base + i → recsF b lo hi i rs = recsF b lo' hi i rs
 | [], _, _, _ => rfl
 | r :: rs, i, h, h' => by
  have ih := recsF_lo b lo lo' hi rs (i + 1) (by omega) (by omega)
  unfold recsF
  rw [ih]
  have e1 : b.base + i ≥ lo := by omega
  have e2 : b.base + i ≥ lo' := by omega
  simp only [e1, e2, true_and]
theorem kept_mark (p : Int) : ∀ (A : List Ba), (∃ x ∈ A, x.mark ≠ 0 ∧ x.prod = p) → (keptQ p A = true ↔ markQ p A = 1)
 | [], h => by obtain ⟨x, hx, _⟩ := h; cases hx
 | a :: A, h => by
  unfold keptQ markQ
  by_cases c : a.mark ≠ 0 ∧ a.prod = p
  ·rw [if_pos c, if_pos c]; simp
  ·rw [if_neg c, if_neg c]
   refine kept_mark p A ?_
   obtain ⟨x, hx, h1⟩ := h
   rcases List.mem_cons.1 hx with rfl | hx
   ·exact absurd h1 c
   ·exact ⟨x, hx, h1⟩
theorem kept_none (p : Int) : ∀ (A : List Ba), (¬ ∃ x ∈ A, x.mark ≠ 0 ∧ x.prod = p) → keptQ p A = false
 | [], _ => rfl
 | a :: A, h => by
  unfold keptQ
  rw [if_neg (fun c => h ⟨a, List.mem_cons_self, c⟩)]
  exact kept_none p A (fun ⟨x, hx, h1⟩ => h ⟨x, List.mem_cons_of_mem _ hx, h1⟩)
theorem comm_same (start : Int) : ∀ (A : List Ba) (s : Int) (O : Opn) (v : Int), (∀ b ∈ A, Fit b) → RowC s A → OIs s O → Stab (endE s A) (foldO A O) v → start ≤ s → commL v A = commR start v A
 | [], _, _, _, _, _, _, _, _ => rfl
 | b :: A, s, O, v, hA, hr, hO, hst, hs => by
  have hb := hA b List.mem_cons_self
  have hA' : ∀ x ∈ A, Fit x := fun x hx => hA x (List.mem_cons_of_mem _ hx)
  have hc := countE_pos hb
  have hbs := hr.1
  have hst' : Stab (endE (s + countE b) A) (foldO A (stepO O b)) v := by
   rw [← endE_cons s b A hbs]; exact hst
  have ih := comm_same start A (s + countE b) (stepO O b) v hA' hr.2 (hO.step hb hbs) hst' (by omega)
  unfold commL commR
  rw [ih]
  congr 1
  have hlo : recB b start v = recB b b.base v := by
   unfold recB
   split
   ·exact recsF_lo b start b.base v _ 0 (by omega) (by omega)
   ·rfl
  rw [hlo]
  by_cases ht : b.txn = false
  ·rw [if_pos (.inl ht), if_pos (by unfold nextM; rw [ht]; rfl)]
  ·have htx : b.txn = true := by simpa using ht
   have hn : nextM b A = markQ b.prod A := by unfold nextM; rw [if_pos htx]
   rw [hn]
   by_cases hex : ∃ x ∈ A, x.mark ≠ 0 ∧ x.prod = b.prod
   ·by_cases hk : keptQ b.prod A = true
    ·rw [if_pos (.inr hk), if_pos ((kept_mark _ _ hex).1 hk)]
    ·rw [if_neg (by rintro (h | h); exact ht h; exact hk h), if_neg (fun h => hk ((kept_mark _ _ hex).2 h))]
   ·rw [if_neg (by rintro (h | h); exact ht h; rw [kept_none _ _ hex] at h; cases h)]
    by_cases hm : b.mark = 0
    ·have hp : 0 ≤ b.prod := by
      by_cases hp : b.prod < 0
      ·rw [noneB_txn hb hp] at htx; cases htx
      ·omega
     have ho : 0 ≤ stepO O b b.prod ∧ stepO O b b.prod ≤ s := by
      unfold stepO
      rw [if_pos ⟨rfl, hp⟩, if_neg (by omega)]
      by_cases h0 : O b.prod < 0
      ·rw [if_pos ⟨htx, h0⟩]; have := hO.pos; omega
      ·rw [if_neg (by omega)]; have := hO.hi b.prod; omega
     have hst2 := open_stays b.prod A (stepO O b) hex ho.1
     have hv : v ≤ b.base := by
      rcases hst' with ⟨_, h1⟩ | ⟨_, _, h1⟩
      ·have := h1 b.prod; omega
      ·have := h1 b.prod (by omega); omega
     rw [recB_none b b.base v hv]
     split <;> rfl
    ·have e : recB b b.base v = [] := by unfold recB; rw [if_neg hm]
     rw [e]
     split <;> rfl
theorem comm_eq (start : Int) (L : List Ba) (h0 : 0 ≤ start) (hf : ∀ b ∈ L, Fit b) (hr : RowC start L) : commL (stableE start L) L = commR start (stableE start L) L :=
 comm_same start L start (fun _ => -1) _ hf hr (OIs.nil h0) (stable_stab start L hf) (Int.le_refl _)
def dropO (O : Opn) (b : Ba) : Option La := if ¬ b.prod < 0 ∧ b.mark = 2 ∧ O b.prod ≥ 0 then some (b.prod, O b.prod, b.base) else none
theorem stepD_O {M O b} (h : Rep M O) (hr : rightE b = 0) : stepD M b = dropO O b := by
 unfold stepD dropO
 by_cases hp : b.prod < 0
 ·rw [if_pos (.inr hp), if_neg (by omega)]
 ·rw [if_neg (by omega), getM_find]
  cases hf : M.find? (fun p => p.id == b.prod) with
  | none =>
   have : O b.prod = -1 := h.neg _ (fun p hp e => by
    have := List.find?_eq_none.1 hf p hp
    simp [e] at this)
   rw [if_neg (by omega)]
  | some p =>
   have h1 := h.val p (List.mem_of_find?_eq_some hf)
   have h2 : p.id = b.prod := by simpa using List.find?_some hf
   simp only
   rw [h1, h2]
   by_cases c : b.mark = 2 ∧ O b.prod ≥ 0
   ·rw [if_pos c, if_pos ⟨hp, c⟩]
   ·rw [if_neg c, if_neg (fun h => c h.2)]
theorem tabD_O {L O b} (hs : Srt L) (h : Rep L O) (hr : rightE b = 0) : tabD L b = dropO O b := by
 rw [← stepD_O h hr]
 unfold tabD stepD
 rw [atP_find b.prod L hs, getM_find]
 cases L.find? (fun p => p.id == b.prod) <;> rfl
theorem ab_fold : ∀ (A : List Ba) (s : Int) (O : Opn) (M T : List Pr) (l : List La), (∀ b ∈ A, Fit b) → RowC s A → OIs s O → Rep M O → Srt T → Rep T O → (∀ d ∈ l, d.2.2 < s) → abOf A M l = l ++ foldD A T
 | [], _, _, _, _, l, _, _, _, _, _, _, _ => by rw [show foldD [] _ = [] from rfl, List.append_nil]; rfl
 | b :: A, s, O, M, T, l, hA, hr, hO, hM, hs, hT, hl => by
  have hb := hA b List.mem_cons_self
  have hA' : ∀ x ∈ A, Fit x := fun x hx => hA x (List.mem_cons_of_mem _ hx)
  have hc := countE_pos hb
  have hbs := hr.1
  have hbb := hb.base
  have h1 := hs.tabL b hb.right hT
  have e1 := stepD_O hM hb.right
  have e2 := tabD_O hs hT hb.right
  have hfd : foldD (b :: A) T = (match tabD T b with | some d => [d] | none => []) ++ foldD A (tabL T b) := rfl
  have hab : abOf (b :: A) M l = abOf A (stepM M b) (match stepD M b with | some d => abL l d | none => l) := rfl
  rw [hfd, hab, e1, e2]
  cases hd : dropO O b with
  | none =>
   simp only [List.nil_append]
   exact ab_fold A (s + countE b) (stepO O b) _ _ l hA' hr.2 (hO.step hb hbs) (hM.stepM b hb.right) h1.1 h1.2 (fun d hd => by have := hl d hd; omega)
  | some d =>
   simp only
   unfold dropO at hd
   split at hd
   ·rename_i c
    simp only [Option.some.injEq] at hd
    subst hd
    have ho := hO.hi b.prod
    have hk : abOK l (b.prod, O b.prod, b.base) = true := by
     unfold abOK
     simp only [Bool.and_eq_true, decide_eq_true_eq]
     refine ⟨by omega, by omega, by omega, by omega, ?_⟩
     cases hg : l.getLast? with
     | none => rfl
     | some q =>
      have := hl q (List.mem_of_getLast? hg)
      simp; omega
    have hL : abL l (b.prod, O b.prod, b.base) = l ++ [(b.prod, O b.prod, b.base)] := by unfold abL; rw [if_pos hk]
    rw [hL, ab_fold A (s + countE b) (stepO O b) _ _ _ hA' hr.2 (hO.step hb hbs) (hM.stepM b hb.right) h1.1 h1.2 (fun d hd => by
     rw [List.mem_append, List.mem_singleton] at hd
     rcases hd with hd | rfl
     ·have := hl d hd; omega
     ·simp only; omega), List.append_assoc]
   ·cases hd
theorem ab_eq (start : Int) (L : List Ba) (h0 : 0 ≤ start) (hf : ∀ b ∈ L, Fit b) (hr : RowC start L) : abOf L [] [] = foldD L [] := by
 have := ab_fold L start (fun _ => -1) [] [] [] hf hr (OIs.nil h0) rep_nil List.Pairwise.nil rep_nil (by simp)
 simpa using this
def AOK (d : La) : Prop := 0 ≤ d.1 ∧ 0 ≤ d.2.1 ∧ d.2.1 < d.2.2 ∧ d.2.2 ≤ 1099511627776
theorem abOK_ok {l d} (h : abOK l d = true) : AOK d := by
 unfold abOK at h
 simp only [Bool.and_eq_true, decide_eq_true_eq] at h
 unfold AOK; omega
theorem abOf_ok : ∀ (A : List Ba) (M : List Pr) (l : List La), (∀ d ∈ l, AOK d) → ∀ d ∈ abOf A M l, AOK d
 | [], _, _, h => h
 | b :: A, M, l, h => by
  refine abOf_ok A _ _ ?_
  split
  ·rename_i d0 _
   unfold abL
   split
   ·rename_i hk
    intro d hd
    rw [List.mem_append, List.mem_singleton] at hd
    rcases hd with hd | rfl
    ·exact h d hd
    ·exact abOK_ok hk
   ·exact h
  ·exact h
def inR2 (lo hi : Int) (d : La) : Bool := decide (lo < hi) && (decide (d.2.1 < hi) && decide (d.2.2 ≥ lo))
theorem inR_eq {lo hi : Int} {d : La} (h : AOK d) : inR lo hi d = inR2 lo hi d := by
 unfold AOK at h
 unfold inR inR2 mx
 rw [Bool.eq_iff_iff]
 simp only [Bool.and_eq_true, decide_eq_true_eq]
 split <;> constructor <;> intro g <;> omega
theorem rwithin_loop (l : List La) (hn : l.length ≤ 100000) (lo hi : Int) (f : Fl) (hf : f = .ro ∨ (f = .full ∧ l = [])) (H : Heap) (r : List La) : ∀ (p out : List La) (fl : Fl) (N : Heap), l = p ++ r → out.length ≤ p.length → (fl = .own ∨ (fl = .full ∧ out = [])) →
  ∃ N' fl', loopA W loopW (.ghost (.kill k_ref10_Within_0) l_ref10_Within_0) [(1, .int .i64 lo), (2, .int .i64 hi), (7, .list 3 (out.map laV) fl), (10, .list 3 (l.map laV) f), (11, .int .i64 (l.length : Nat)), (12, .int .i64 (p.length : Nat))] (hx H N) =
   some (.exit 0, [(7, .list 3 ((out ++ r.filter (inR2 lo hi)).map laV) fl')], hx H N') ∧ (fl' = .own ∨ (fl' = .full ∧ out ++ r.filter (inR2 lo hi) = [])) := by
 induction r with
 | nil =>
  intro p out fl N hp ho hfl
  rw [List.append_nil] at hp
  subst hp
  rw [List.filter_nil, List.append_nil]
  refine ⟨N, fl, ?_, hfl⟩
  have h1 : ¬ ((l.length : Int) < (l.length : Int)) := by omega
  refine loop_step l_ref10_Within_0.eq_1 k_ref10_Within_0.eq_1 (by kernel_rfl) ?_
  simp only [go_sem, h1, simprocAttr]
 | cons d r ih =>
  intro p out fl N hp ho hfl
  have hf0 : f = .ro := by
   rcases hf with h | ⟨_, h⟩
   ·exact h
   ·rw [hp] at h; simp at h
  subst hf0
  have hlen : l.length = p.length + (r.length + 1) := by rw [hp]; simp
  have h1 : ((p.length : Int) < (l.length : Int)) := by omega
  have e0 : (0 : Int) ≤ (p.length : Int) := by omega
  have e7 : ((p.length : Nat) : Int).toNat = p.length := by omega
  have e1 : (l.map laV)[p.length]? = some (.agg [.int .i64 d.1, .int .i64 d.2.1, .int .i64 d.2.2]) := by rw [hp]; simp [laV]
  have e6 : IntKind.i64.wrap ((p.length : Int) + 1) = ((p.length + 1 : Nat) : Int) := by rw [wrap_id (by unfold I64; omega)]; omega
  have n1 : ∀ x : Box, (N ++ [x])[N.length]? = some x := fun x => by simp
  have n2 : ∀ x z : Box, (N ++ [x]).set N.length z = N ++ [z] := fun x z => by simp
  have bb : (out.length + 1) * 24 ≤ maxBytes := by simp only [maxBytes]; omega
  have b0 : (0 + 1) * 24 ≤ maxBytes := by decide
  have e8 : out.map laV ++ [.agg [.int .i64 d.1, .int .i64 d.2.1, .int .i64 d.2.2]] = (out ++ [d]).map laV := by simp [laV]
  rw [List.filter_cons]
  have skip : inR2 lo hi d = false → ∃ N' fl', loopA W loopW (.ghost (.kill k_ref10_Within_0) l_ref10_Within_0) [(1, .int .i64 lo), (2, .int .i64 hi), (7, .list 3 (out.map laV) fl), (10, .list 3 (l.map laV) .ro), (11, .int .i64 (l.length : Nat)), (12, .int .i64 ((p.length + 1 : Nat) : Int))] (hx H (N ++ [.cells [.int .i64 d.1, .int .i64 d.2.1, .int .i64 d.2.2]])) =
   some (.exit 0, [(7, .list 3 ((out ++ r.filter (inR2 lo hi)).map laV) fl')], hx H N') ∧ (fl' = .own ∨ (fl' = .full ∧ out ++ r.filter (inR2 lo hi) = [])) := fun _ => by
   obtain ⟨N', fl', h2, h3⟩ := ih (p ++ [d]) out fl (N ++ [.cells [.int .i64 d.1, .int .i64 d.2.1, .int .i64 d.2.2]]) (by rw [hp]; simp) (by simp; omega) hfl
   simp only [List.length_append, List.length_cons, List.length_nil, Nat.zero_add] at h2
   exact ⟨N', fl', h2, h3⟩
  by_cases c1 : lo < hi
  ·by_cases c2 : d.2.1 < hi
   ·by_cases c3 : d.2.2 ≥ lo
    ·have hk : inR2 lo hi d = true := by simp [inR2, c1, c2, c3]
     rw [hk, if_pos rfl]
     obtain ⟨N', fl', h2, h3⟩ := ih (p ++ [d]) (out ++ [d]) .own (N ++ [.cells [.int .i64 d.1, .int .i64 d.2.1, .int .i64 d.2.2]]) (by rw [hp]; simp) (by simp; omega) (.inl rfl)
     rw [List.append_assoc, List.cons_append, List.nil_append] at h2 h3
     simp only [List.length_append, List.length_cons, List.length_nil, Nat.zero_add] at h2
     refine ⟨N', fl', ?_, h3⟩
     refine loop_step l_ref10_Within_0.eq_1 k_ref10_Within_0.eq_1 (by kernel_rfl) ?_
     rcases hfl with rfl | ⟨rfl, rfl⟩
     ·simp only [go_sem, h1, e0, e7, e1, n1, n2, c1, c2, c3, List.length_map, apO, bb, e8, e6, simprocAttr]
      exact h2
     ·simp only [List.map_nil, List.nil_append] at *
      simp only [go_sem, h1, e0, e7, e1, n1, n2, c1, c2, c3, List.length_nil, apF, b0, List.nil_append, e6, simprocAttr]
      rw [e8]
      exact h2
    ·have hk : inR2 lo hi d = false := by simp [inR2, c3]
     rw [hk, if_neg (by decide)]
     obtain ⟨N', fl', h2, h3⟩ := skip hk
     refine ⟨N', fl', ?_, h3⟩
     refine loop_step l_ref10_Within_0.eq_1 k_ref10_Within_0.eq_1 (by kernel_rfl) ?_
     simp only [go_sem, h1, e0, e7, e1, n1, n2, c1, c2, c3, e6, simprocAttr]
     exact h2
   ·have hk : inR2 lo hi d = false := by simp [inR2, c2]
    rw [hk, if_neg (by decide)]
    obtain ⟨N', fl', h2, h3⟩ := skip hk
    refine ⟨N', fl', ?_, h3⟩
    refine loop_step l_ref10_Within_0.eq_1 k_ref10_Within_0.eq_1 (by kernel_rfl) ?_
    simp only [go_sem, h1, e0, e7, e1, n1, n2, c1, c2, e6, simprocAttr]
    exact h2
  ·have hk : inR2 lo hi d = false := by simp [inR2, c1]
   rw [hk, if_neg (by decide)]
   obtain ⟨N', fl', h2, h3⟩ := skip hk
   refine ⟨N', fl', ?_, h3⟩
   refine loop_step l_ref10_Within_0.eq_1 k_ref10_Within_0.eq_1 (by kernel_rfl) ?_
   simp only [go_sem, h1, e0, e7, e1, n1, n2, c1, e6, simprocAttr]
   exact h2
theorem rwithin_spec (l : List La) (hn : l.length ≤ 100000) (lo hi : Int) (H : Heap) :
  ∃ f, W n_ref10_Within [.list 3 (l.map laV) .ro, .int .i64 lo, .int .i64 hi] H = some (.list 3 ((l.filter (inR2 lo hi)).map laV) f, H) ∧ (f = .own ∨ (f = .full ∧ l.filter (inR2 lo hi) = [])) := by
 obtain ⟨N, f, h, hf⟩ := rwithin_loop l hn lo hi .ro (.inl rfl) H l [] [] .full [] rfl (by simp) (.inr ⟨rfl, rfl⟩)
 simp only [List.length_nil, Int.natCast_zero, List.map_nil, List.nil_append] at h hf
 refine ⟨f, ?_, hf⟩
 generalize l.filter (inR2 lo hi) = R at *
 refine W_fn rfl rfl ?_
 rcases hf with rfl | ⟨rfl, rfl⟩
 ·have u := fun n => under_la n R
  simp only [go_sem, c_ref10_Within, List.length_map, h, u, simprocAttr]
 ·simp only [List.map_nil] at h ⊢
  simp only [go_sem, c_ref10_Within, List.length_map, h, simprocAttr]
  first | done | rfl
def gB (g : Gt) : Box := .cells [.int .i64 g.1, .int .i64 g.2.1, .str g.2.2.1, .str g.2.2.2]
theorem rdel_inner (g : Gt) (D : List La) (hD : D.length ≤ 9223372036854775807) (X1 X3 X10 X11 X12 : AVal) (kb : Nat) (H : Heap) (r : List La) : ∀ (p : List La) (c : Bool) (N : Heap), D = p ++ r → N[kb]? = some (.cells [.int .i64 g.1, .int .i64 g.2.1, .str g.2.2.1, .str g.2.2.2]) →
  ∃ M, loopA W loopW (.ghost (.kill k_ref14_Deliver_0) l_ref14_Deliver_0) [(1, X1), (3, X3), (5, .ptr (pt H kb) 0), (6, .bool c), (10, X10), (11, X11), (12, X12), (17, .list 3 (D.map laV) .ro), (18, .int .i64 (D.length : Nat)), (19, .int .i64 (p.length : Nat))] (hx H N) =
   some (.exit 2, [(1, X1), (3, X3), (5, .ptr (pt H kb) 0), (6, .bool (c || r.any (hitD g))), (10, X10), (11, X11), (12, X12)], hx H (N ++ M)) := by
 induction r with
 | nil =>
  intro p c N hp hk
  rw [List.append_nil] at hp
  subst hp
  refine ⟨[], ?_⟩
  have h1 : ¬ ((D.length : Int) < (D.length : Int)) := by omega
  rw [List.any_nil, Bool.or_false, List.append_nil]
  refine loop_step l_ref14_Deliver_0.eq_1 k_ref14_Deliver_0.eq_1 (by kernel_rfl) ?_
  simp only [go_sem, h1, simprocAttr]
 | cons d r ih =>
  intro p c N hp hk
  have hlen : D.length = p.length + (r.length + 1) := by rw [hp]; simp
  have h1 : ((p.length : Int) < (D.length : Int)) := by omega
  have e0 : (0 : Int) ≤ (p.length : Int) := by omega
  have e7 : ((p.length : Nat) : Int).toNat = p.length := by omega
  have e1 : (D.map laV)[p.length]? = some (.agg [.int .i64 d.1, .int .i64 d.2.1, .int .i64 d.2.2]) := by rw [hp]; simp [laV]
  have e6 : IntKind.i64.wrap ((p.length : Int) + 1) = ((p.length + 1 : Nat) : Int) := by rw [wrap_id (by unfold I64; omega)]; omega
  have n0 : kb < N.length := (List.getElem?_eq_some_iff.1 hk).1
  have n3 : (N ++ [.cells [.int .i64 d.1, .int .i64 d.2.1, .int .i64 d.2.2]])[kb]? = some (.cells [.int .i64 g.1, .int .i64 g.2.1, .str g.2.2.1, .str g.2.2.2]) := by rw [List.getElem?_append_left n0, hk]
  have n1 : ∀ x : Box, (N ++ [x])[N.length]? = some x := fun x => by simp
  have n2 : ∀ x z : Box, (N ++ [x]).set N.length z = N ++ [z] := fun x z => by simp
  obtain ⟨M, h⟩ := ih (p ++ [d]) (c || hitD g d) (N ++ [.cells [.int .i64 d.1, .int .i64 d.2.1, .int .i64 d.2.2]]) (by rw [hp]; simp) n3
  rw [List.any_cons, ← Bool.or_assoc]
  rw [List.append_assoc] at h
  simp only [List.length_append, List.length_cons, List.length_nil, Nat.zero_add] at h
  refine ⟨[.cells [.int .i64 d.1, .int .i64 d.2.1, .int .i64 d.2.2]] ++ M, ?_⟩
  refine loop_step l_ref14_Deliver_0.eq_1 k_ref14_Deliver_0.eq_1 (by kernel_rfl) ?_
  generalize ((c || hitD g d) || r.any (hitD g)) = res at *
  cases c with
  | true =>
   rw [Bool.true_or] at h
   simp only [go_sem, h1, e0, e7, e1, n1, n2, n3, e6, simprocAttr]
   exact h
  | false =>
   rw [Bool.false_or] at h
   unfold hitD at h
   by_cases c1 : g.2.1 = -1
   ·rw [decide_eq_false (by simpa using c1), Bool.false_and] at h
    simp only [go_sem, h1, e0, e7, e1, n1, n2, n3, e6, eq_true c1, simprocAttr]
    exact h
   ·rw [decide_eq_true (by simpa using c1)] at h
    by_cases c2 : d.1 = g.2.1
    ·rw [decide_eq_true c2] at h
     by_cases c3 : d.2.1 ≤ g.1
     ·have c3' : g.1 ≥ d.2.1 := c3
      rw [decide_eq_true c3] at h
      by_cases c4 : g.1 ≤ d.2.2
      ·rw [decide_eq_true c4] at h
       simp only [go_sem, h1, e0, e7, e1, n1, n2, n3, e6, c1, eq_true c2, c3', c4, simprocAttr]
       exact h
      ·rw [decide_eq_false c4] at h
       simp only [go_sem, h1, e0, e7, e1, n1, n2, n3, e6, c1, eq_true c2, c3', c4, simprocAttr]
       exact h
     ·have c3' : ¬ g.1 ≥ d.2.1 := c3
      rw [decide_eq_false c3] at h
      simp only [go_sem, h1, e0, e7, e1, n1, n2, n3, e6, c1, eq_true c2, c3', simprocAttr]
      exact h
    ·rw [decide_eq_false c2] at h
     simp only [go_sem, h1, e0, e7, e1, n1, n2, n3, e6, c1, c2, simprocAttr]
     exact h
theorem rdel_loop (R : List Gt) (hR : R.length ≤ 1000000) (D : List La) (hD : D.length ≤ 9223372036854775807) (V2 V3 : AVal) (H : Heap) (r : List Gt) : ∀ (p out : List Gt) (fl : Fl) (N : Heap), R = p ++ r → out.length ≤ p.length → N[0]? = some (.cells [.list 4 (R.map gV) .ro, .list 3 (D.map laV) .ro, V2, V3]) → (fl = .own ∨ (fl = .full ∧ out = [])) →
  ∃ N' fl', loopA W loopW (.ghost (.kill k_ref14_Deliver_1) l_ref14_Deliver_1) [(1, .ptr (pt H 0) 0), (3, .list 4 (out.map gV) fl), (10, .list 4 (R.map gV) .ro), (11, .int .i64 (R.length : Nat)), (12, .int .i64 (p.length : Nat))] (hx H N) =
   some (.exit 0, [(3, .list 4 ((out ++ r.filter fun g => !hitG D g).map gV) fl')], hx H N') ∧ (fl' = .own ∨ (fl' = .full ∧ out ++ r.filter (fun g => !hitG D g) = [])) := by
 induction r with
 | nil =>
  intro p out fl N hp ho hk hfl
  rw [List.append_nil] at hp
  subst hp
  rw [List.filter_nil, List.append_nil]
  refine ⟨N, fl, ?_, hfl⟩
  have h1 : ¬ ((R.length : Int) < (R.length : Int)) := by omega
  refine loop_step l_ref14_Deliver_1.eq_1 k_ref14_Deliver_1.eq_1 (by kernel_rfl) ?_
  simp only [go_sem, h1, simprocAttr]
 | cons g r ih =>
  intro p out fl N hp ho hk hfl
  have hlen : R.length = p.length + (r.length + 1) := by rw [hp]; simp
  have h1 : ((p.length : Int) < (R.length : Int)) := by omega
  have e0 : (0 : Int) ≤ (p.length : Int) := by omega
  have e7 : ((p.length : Nat) : Int).toNat = p.length := by omega
  have e1 : (R.map gV)[p.length]? = some (.agg [.int .i64 g.1, .int .i64 g.2.1, .str g.2.2.1, .str g.2.2.2]) := by rw [hp]; simp [gV]
  have e6 : IntKind.i64.wrap ((p.length : Int) + 1) = ((p.length + 1 : Nat) : Int) := by rw [wrap_id (by unfold I64; omega)]; omega
  have n0 : 0 < N.length := (List.getElem?_eq_some_iff.1 hk).1
  have n3 : ∀ M : Heap, (N ++ M)[0]? = some (.cells [.list 4 (R.map gV) .ro, .list 3 (D.map laV) .ro, V2, V3]) := fun M => by rw [List.getElem?_append_left n0, hk]
  have n1 : ∀ x : Box, (N ++ [x])[N.length]? = some x := fun x => by simp
  have n2 : ∀ x z : Box, (N ++ [x]).set N.length z = N ++ [z] := fun x z => by simp
  obtain ⟨M, hi⟩ := rdel_inner g D hD (.ptr (pt H 0) 0) (.list 4 (out.map gV) fl) (.list 4 (R.map gV) .ro) (.int .i64 (R.length : Nat)) (.int .i64 (p.length : Nat)) N.length H D [] false (N ++ [.cells [.int .i64 g.1, .int .i64 g.2.1, .str g.2.2.1, .str g.2.2.2]]) rfl (by simp)
  rw [Bool.false_or, show D.any (hitD g) = hitG D g from rfl] at hi
  simp only [List.length_nil, Int.natCast_zero, List.append_assoc] at hi
  have n4 : (N ++ ([.cells [.int .i64 g.1, .int .i64 g.2.1, .str g.2.2.1, .str g.2.2.2]] ++ M))[N.length]? = some (.cells [.int .i64 g.1, .int .i64 g.2.1, .str g.2.2.1, .str g.2.2.2]) := by simp
  rw [List.filter_cons]
  cases hc : hitG D g with
  | true =>
   rw [hc] at hi
   simp only [Bool.not_true, Bool.false_eq_true, if_false]
   obtain ⟨N', fl', h, hh⟩ := ih (p ++ [g]) out fl (N ++ ([.cells [.int .i64 g.1, .int .i64 g.2.1, .str g.2.2.1, .str g.2.2.2]] ++ M)) (by rw [hp]; simp) (by simp; omega) (n3 _) hfl
   simp only [List.length_append, List.length_cons, List.length_nil, Nat.zero_add] at h
   refine ⟨N', fl', ?_, hh⟩
   generalize r.filter (fun g => !hitG D g) = F at *
   refine loop_step l_ref14_Deliver_1.eq_1 k_ref14_Deliver_1.eq_1 (by kernel_rfl) ?_
   simp only [go_sem, h1, e0, e7, e1, n1, n2, n3, List.length_map, hi, e6, simprocAttr]
   exact h
  | false =>
   rw [hc] at hi
   simp only [Bool.not_false, if_true]
   obtain ⟨N', fl', h, hh⟩ := ih (p ++ [g]) (out ++ [g]) .own (N ++ ([.cells [.int .i64 g.1, .int .i64 g.2.1, .str g.2.2.1, .str g.2.2.2]] ++ M)) (by rw [hp]; simp) (by simp; omega) (n3 _) (.inl rfl)
   rw [List.append_assoc, List.cons_append, List.nil_append] at h hh
   simp only [List.length_append, List.length_cons, List.length_nil, Nat.zero_add] at h
   refine ⟨N', fl', ?_, hh⟩
   generalize r.filter (fun g => !hitG D g) = F at *
   have bb : (out.length + 1) * 48 ≤ maxBytes := by simp only [maxBytes]; omega
   have b0 : (0 + 1) * 48 ≤ maxBytes := by decide
   have e8 : out.map gV ++ [.agg [.int .i64 g.1, .int .i64 g.2.1, .str g.2.2.1, .str g.2.2.2]] = (out ++ [g]).map gV := by simp [gV]
   refine loop_step l_ref14_Deliver_1.eq_1 k_ref14_Deliver_1.eq_1 (by kernel_rfl) ?_
   rcases hfl with rfl | ⟨rfl, rfl⟩
   ·simp only [go_sem, h1, e0, e7, e1, n1, n2, n3, n4, List.length_map, hi, apO, bb, e8, e6, simprocAttr]
    exact h
   ·simp only [List.map_nil, List.nil_append] at *
    simp only [go_sem, h1, e0, e7, e1, n1, n2, n3, n4, List.length_map, hi, List.length_nil, apF, b0, List.nil_append, e6, simprocAttr]
    rw [e8]
    exact h
theorem rdeliver_spec (R : List Gt) (hR : R.length ≤ 1000000) (D : List La) (hD : D.length ≤ 9223372036854775807) (N S : Int) (H : Heap) :
  ∃ f, W n_ref14_Deliver [.agg [.list 4 (R.map gV) .ro, .list 3 (D.map laV) .ro, .int .i64 N, .int .i64 S]] H = some (.list 4 ((R.filter fun g => !hitG D g).map gV) f, H) ∧ (f = .own ∨ (f = .full ∧ R.filter (fun g => !hitG D g) = [])) := by
 obtain ⟨N', f, h, hf⟩ := rdel_loop R hR D hD (.int .i64 N) (.int .i64 S) H R [] [] .full [.cells [.list 4 (R.map gV) .ro, .list 3 (D.map laV) .ro, .int .i64 N, .int .i64 S]] rfl (by simp) rfl (.inr ⟨rfl, rfl⟩)
 simp only [List.length_nil, Int.natCast_zero, List.map_nil, List.nil_append] at h hf
 refine ⟨f, ?_, hf⟩
 have u := fun n => under_g n (R.filter fun g => !hitG D g)
 generalize R.filter (fun g => !hitG D g) = F at *
 refine W_fn rfl rfl ?_
 rcases hf with rfl | ⟨rfl, rfl⟩
 ·simp only [go_sem, c_ref14_Deliver, List.length_map, h, u, simprocAttr]
 ·simp only [List.map_nil] at h ⊢
  simp only [go_sem, c_ref14_Deliver, List.length_map, h, simprocAttr]
  first | done | rfl
end Go.Abs
