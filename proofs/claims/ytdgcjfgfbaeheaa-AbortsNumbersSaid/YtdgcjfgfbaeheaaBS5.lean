import Derived.Test.YtdgcjfgfbaeheaaBS4
import Derived.Test.YtdgcjfgfbaeheaaBS3
set_option linter.unusedVariables false
set_option linter.unusedSimpArgs false
namespace Go.Abs
open Go Go.RowKit
theorem thv0 (Xs : List AVal) (e : Env) (H : Heap) (h1 : Env.get e 0 = .list 3 Xs .uniq) :
  agh (.thaw 0) e (hx H []) = some (e.put 0 (.lbox (pt H 0)), hx H [.arr 3 Xs]) := by
 have hl : (hx H []).length = pt H 0 := hx_len H []
 simp only [agh, h1, hl, hx_app, List.nil_append]
theorem bkv0 (Xs : List AVal) (e : Env) (H N : Heap) (h1 : Env.get e 0 = .lbox (pt H 0)) :
  agh (.back 0) e (hx H (.arr 3 Xs :: N)) = some (e.put 0 (.list 3 Xs .uniq), hx H (.dead :: N)) := by
 have g : (hx H (.arr 3 Xs :: N))[pt H 0]? = some (.arr 3 Xs) := by rw [hx_get]; rfl
 simp only [agh, h1, g, hx_set, List.set_cons_zero]
def idxI (o : Option Nat) : Int := match o with | some i => (i : Int) | none => -1
theorem indexfunc_loop (p : La → Bool) (g : FuncId) (kc k : Nat) (H : Heap) (l : List La) (hn : l.length ≤ 1000000) (hk : H[k]? = some (.arr 3 (l.map laV)))
  (hp : ∀ (N : Heap) (x : La), W g [.agg [.int .i64 x.1, .int .i64 x.2.1, .int .i64 x.2.2], .ptr kc 0] (hx H N) = some (.bool (p x), hx H N)) (r : List La) : ∀ (q : List La), l = q ++ r →
  loopA W loopW (.ghost (.kill k_slices_IndexFunc_api_Dropped_api_Dropped__0) l_slices_IndexFunc_api_Dropped_api_Dropped__0) [(0, .lbox k), (1, .fn g [] [.ptr kc 0]), (7, .int .i64 (l.length : Nat)), (8, .int .i64 (q.length : Nat))] (hx H []) =
   match r.findIdx? p with
   | some i => some (.ret, [(4, .int .i64 ((q.length + i : Nat) : Int))], hx H [])
   | none => some (.exit 0, [], hx H []) := by
 have gk := hx_old hk []
 induction r with
 | nil =>
  intro q hq
  rw [List.append_nil] at hq
  subst hq
  have h1 : ¬ ((l.length : Int) < (l.length : Int)) := by omega
  rw [List.findIdx?_nil]
  simp only
  refine loop_step l_slices_IndexFunc_api_Dropped_api_Dropped__0.eq_1 k_slices_IndexFunc_api_Dropped_api_Dropped__0.eq_1 (by kernel_rfl) ?_
  simp only [go_sem, h1, simprocAttr]
 | cons x r ih =>
  intro q hq
  have hlen : l.length = q.length + (r.length + 1) := by rw [hq]; simp
  have h1 : ((q.length : Int) < (l.length : Int)) := by omega
  have e0 : (0 : Int) ≤ (q.length : Int) := by omega
  have e7 : ((q.length : Nat) : Int).toNat = q.length := by omega
  have e1 : (l.map laV)[q.length]? = some (.agg [.int .i64 x.1, .int .i64 x.2.1, .int .i64 x.2.2]) := by rw [hq]; simp [laV]
  have e6 : IntKind.i64.wrap ((q.length : Int) + 1) = ((q.length + 1 : Nat) : Int) := by rw [wrap_id (by unfold I64; omega)]; omega
  have hpx := hp [] x
  rw [List.findIdx?_cons]
  cases hc : p x with
  | true =>
   rw [hc] at hpx
   simp only [if_true, Nat.add_zero]
   refine loop_step l_slices_IndexFunc_api_Dropped_api_Dropped__0.eq_1 k_slices_IndexFunc_api_Dropped_api_Dropped__0.eq_1 (by kernel_rfl) ?_
   simp only [go_sem, h1, e0, e7, gk, List.length_map, e1, hpx, simprocAttr]
  | false =>
   rw [hc] at hpx
   have h2 := ih (q ++ [x]) (by rw [hq]; simp)
   simp only [List.length_append, List.length_cons, List.length_nil, Nat.zero_add] at h2
   simp only [Bool.false_eq_true, if_false]
   cases hf : r.findIdx? p with
   | none =>
    rw [hf] at h2
    simp only [Option.map_none] at h2 ⊢
    refine loop_step l_slices_IndexFunc_api_Dropped_api_Dropped__0.eq_1 k_slices_IndexFunc_api_Dropped_api_Dropped__0.eq_1 (by kernel_rfl) ?_
    simp only [go_sem, h1, e0, e7, gk, List.length_map, e1, hpx, e6, simprocAttr]
    exact h2
   | some i =>
    rw [hf] at h2
    simp only [Option.map_some] at h2 ⊢
    rw [show q.length + (i + 1) = q.length + 1 + i by omega]
    refine loop_step l_slices_IndexFunc_api_Dropped_api_Dropped__0.eq_1 k_slices_IndexFunc_api_Dropped_api_Dropped__0.eq_1 (by kernel_rfl) ?_
    simp only [go_sem, h1, e0, e7, gk, List.length_map, e1, hpx, e6, simprocAttr]
    exact h2
theorem indexfunc_spec (p : La → Bool) (g : FuncId) (kc k : Nat) (H : Heap) (l : List La) (hn : l.length ≤ 1000000) (hk : H[k]? = some (.arr 3 (l.map laV)))
  (hp : ∀ (N : Heap) (x : La), W g [.agg [.int .i64 x.1, .int .i64 x.2.1, .int .i64 x.2.2], .ptr kc 0] (hx H N) = some (.bool (p x), hx H N)) :
  W n_slices_IndexFunc_api_Dropped_api_Dropped_ [.lbox k, .fn g [] [.ptr kc 0]] H = some (.int .i64 (idxI (l.findIdx? p)), H) := by
 have h := indexfunc_loop p g kc k H l hn hk hp l [] rfl
 have gk := hx_old hk []
 simp only [List.length_nil, Int.natCast_zero, Nat.zero_add] at h
 refine W_fn rfl rfl ?_
 unfold idxI
 cases hf : l.findIdx? p with
 | none =>
  rw [hf] at h
  simp only at h ⊢
  simp only [go_sem, c_slices_IndexFunc_api_Dropped_api_Dropped_, gk, List.length_map, h, simprocAttr]
 | some i =>
  rw [hf] at h
  simp only at h ⊢
  simp only [go_sem, c_slices_IndexFunc_api_Dropped_api_Dropped_, gk, List.length_map, h, simprocAttr]
theorem delete_loop (p : La → Bool) (g : FuncId) (kc : Nat) (H : Heap) (n : Nat) (hn : n ≤ 1000000)
  (hp : ∀ (N : Heap) (x : La), W g [.agg [.int .i64 x.1, .int .i64 x.2.1, .int .i64 x.2.2], .ptr kc 0] (hx H N) = some (.bool (p x), hx H N)) (r : List La) : ∀ (A kept : List La) (j : Nat) (N : Heap),
  A.length = n → A.take kept.length = kept → A.drop j = r → j + r.length = n → kept.length < j →
  ∃ (A' : List La) (N' : Heap), loopA W loopW (.ghost (.kill k_slices_DeleteFunc_api_Dropped_api_Dropped__0) l_slices_DeleteFunc_api_Dropped_api_Dropped__0) [(0, .lbox (pt H 0)), (1, .fn g [] [.ptr kc 0]), (5, .int .i64 (kept.length : Nat)), (6, .int .i64 (j : Nat))] (hx H (.arr 3 (A.map laV) :: N)) =
   some (.exit 0, [(0, .lbox (pt H 0)), (5, .int .i64 ((kept ++ r.filter fun x => !p x).length : Nat))], hx H (.arr 3 (A'.map laV) :: N')) ∧ A'.length = n ∧ A'.take (kept ++ r.filter fun x => !p x).length = kept ++ r.filter (fun x => !p x) ∧ (kept ++ r.filter fun x => !p x).length < n := by
 induction r with
 | nil =>
  intro A kept j N hA ht hd hj hk
  simp only [List.length_nil, Nat.add_zero] at hj
  subst hj
  refine ⟨A, N, ?_, hA, ?_, ?_⟩
  ·have h1 : ¬ ((j : Int) < (A.length : Int)) := by omega
   rw [List.filter_nil, List.append_nil]
   refine loop_step l_slices_DeleteFunc_api_Dropped_api_Dropped__0.eq_1 k_slices_DeleteFunc_api_Dropped_api_Dropped__0.eq_1 (by kernel_rfl) ?_
   simp only [go_sem, List.length_map, h1, simprocAttr]
  ·rw [List.filter_nil, List.append_nil]; exact ht
  ·rw [List.filter_nil, List.append_nil]; exact hk
 | cons x r ih =>
  intro A kept j N hA ht hd hj hk
  simp only [List.length_cons] at hj
  have h1 : ((j : Int) < (A.length : Int)) := by omega
  have e0 : (0 : Int) ≤ (j : Int) := by omega
  have e7 : ((j : Nat) : Int).toNat = j := by omega
  have hAj : A[j]? = some x := by
   have : (A.drop j)[0]? = some x := by rw [hd]; rfl
   rwa [List.getElem?_drop, Nat.add_zero] at this
  have e1 : (A.map laV)[j]? = some (.agg [.int .i64 x.1, .int .i64 x.2.1, .int .i64 x.2.2]) := by rw [List.getElem?_map, hAj]; rfl
  have e6 : IntKind.i64.wrap ((j : Int) + 1) = ((j + 1 : Nat) : Int) := by rw [wrap_id (by unfold I64; omega)]; omega
  have n1 : ∀ y : Box, (N ++ [y])[N.length]? = some y := fun y => by simp
  have n2 : ∀ y z : Box, (N ++ [y]).set N.length z = N ++ [z] := fun y z => by simp
  have hpx := fun N => hp N x
  have hd' : A.drop (j + 1) = r := by
   have : (A.drop j).drop 1 = r := by rw [hd]; rfl
   rwa [List.drop_drop] at this
  rw [List.filter_cons]
  cases hc : p x with
  | true =>
   rw [hc] at hpx
   simp only [Bool.not_true, Bool.false_eq_true, if_false]
   obtain ⟨A', N', h2, h3, h4, h5⟩ := ih A kept (j + 1) (N ++ [.cells [.int .i64 x.1, .int .i64 x.2.1, .int .i64 x.2.2]]) hA ht hd' (by omega) (by omega)
   refine ⟨A', N', ?_, h3, h4, h5⟩
   generalize (kept ++ r.filter fun x => !p x).length = K at *
   refine loop_step l_slices_DeleteFunc_api_Dropped_api_Dropped__0.eq_1 k_slices_DeleteFunc_api_Dropped_api_Dropped__0.eq_1 (by kernel_rfl) ?_
   simp only [go_sem, List.length_map, h1, e0, e7, e1, n1, n2, hpx, e6, simprocAttr]
   exact h2
  | false =>
   rw [hc] at hpx
   simp only [Bool.not_false, if_true]
   have hki : kept.length < A.length := by omega
   obtain ⟨y, hy⟩ : ∃ y, A[kept.length]? = some y := ⟨_, List.getElem?_eq_getElem hki⟩
   have k0 : (0 : Int) ≤ (kept.length : Int) := by omega
   have k1 : (kept.length : Int) < (A.length : Int) := by omega
   have k7 : ((kept.length : Nat) : Int).toNat = kept.length := by omega
   have k2 : (A.map laV)[kept.length]? = some (.agg [.int .i64 y.1, .int .i64 y.2.1, .int .i64 y.2.2]) := by rw [List.getElem?_map, hy]; rfl
   have k6 : IntKind.i64.wrap ((kept.length : Int) + 1) = ((kept.length + 1 : Nat) : Int) := by rw [wrap_id (by unfold I64; omega)]; omega
   have ks : (A.map laV).set kept.length (.agg [.int .i64 x.1, .int .i64 x.2.1, .int .i64 x.2.2]) = (A.set kept.length x).map laV := by rw [List.map_set]; rfl
   have ht' : (A.set kept.length x).take (kept ++ [x]).length = kept ++ [x] := by
    rw [List.length_append, List.length_singleton]
    refine List.ext_getElem? fun q => ?_
    rw [List.getElem?_take]
    by_cases hq : q < kept.length + 1
    ·rw [if_pos hq, List.getElem?_set]
     by_cases hq2 : kept.length = q
     ·subst hq2
      rw [if_pos rfl, if_pos hki, List.getElem?_append_right (Nat.le_refl _), Nat.sub_self]; rfl
     ·rw [if_neg hq2, List.getElem?_append_left (by omega)]
      have : (A.take kept.length)[q]? = kept[q]? := by rw [ht]
      rwa [List.getElem?_take, if_pos (by omega)] at this
    ·rw [if_neg hq, List.getElem?_eq_none (by simp; omega)]
   have hd2 : (A.set kept.length x).drop (j + 1) = r := by
    rw [List.drop_set_of_lt (by omega), hd']
   obtain ⟨A', N', h2, h3, h4, h5⟩ := ih (A.set kept.length x) (kept ++ [x]) (j + 1) (N ++ [.cells [.int .i64 x.1, .int .i64 x.2.1, .int .i64 x.2.2]]) (by simp [hA]) ht' hd2 (by omega) (by simp; omega)
   rw [List.append_assoc, List.cons_append, List.nil_append] at h2 h4 h5
   refine ⟨A', N', ?_, h3, h4, h5⟩
   simp only [List.length_append, List.length_cons, List.length_nil, Nat.zero_add] at h2
   rw [show ((kept ++ x :: r.filter fun x => !p x).length : Nat) = kept.length + (r.filter fun x => !p x).length + 1 by simp; omega]
   rw [show kept.length + ((r.filter fun x => !p x).length + 1) = kept.length + (r.filter fun x => !p x).length + 1 by omega] at h2
   generalize kept.length + (r.filter fun x => !p x).length + 1 = K at *
   refine loop_step l_slices_DeleteFunc_api_Dropped_api_Dropped__0.eq_1 k_slices_DeleteFunc_api_Dropped_api_Dropped__0.eq_1 (by kernel_rfl) ?_
   simp only [go_sem, List.length_map, h1, e0, e7, e1, n1, n2, hpx, e6, k0, k1, k7, k2, k6, ks, simprocAttr]
   exact h2
theorem find_none {p : La → Bool} : ∀ {l : List La}, l.findIdx? p = none → l.filter (fun x => !p x) = l := by
 intro l h
 rw [List.findIdx?_eq_none_iff] at h
 rw [List.filter_eq_self]
 intro x hx
 rw [h x hx]; rfl
theorem find_some {p : La → Bool} {l : List La} {i : Nat} (h : l.findIdx? p = some i) : i < l.length ∧ l.filter (fun x => !p x) = l.take i ++ (l.drop (i + 1)).filter (fun x => !p x) := by
 rw [List.findIdx?_eq_some_iff_getElem] at h
 obtain ⟨hi, h1, h2⟩ := h
 refine ⟨hi, ?_⟩
 conv => lhs; rw [← List.take_append_drop i l, List.drop_eq_getElem_cons hi]
 rw [List.filter_append, List.filter_cons, h1]
 simp only [Bool.not_true, Bool.false_eq_true, if_false]
 congr 1
 rw [List.filter_eq_self]
 intro x hx
 obtain ⟨j, hj, rfl⟩ := List.mem_iff_getElem.1 hx
 rw [List.getElem_take]
 have := h2 j (by simp at hj; omega)
 simpa using this
set_option maxHeartbeats 1000000 in
theorem delete_spec (p : La → Bool) (g : FuncId) (kc : Nat) (H : Heap) (l : List La) (hn : l.length ≤ 1000000)
  (hp : ∀ (N : Heap) (x : La), W g [.agg [.int .i64 x.1, .int .i64 x.2.1, .int .i64 x.2.2], .ptr kc 0] (hx H N) = some (.bool (p x), hx H N)) :
  W n_slices_DeleteFunc_api_Dropped_api_Dropped_ [.list 3 (l.map laV) .uniq, .fn g [] [.ptr kc 0]] H = some (.list 3 ((l.filter fun x => !p x).map laV) .uniq, H) := by
 have hth := fun e => thv0 (l.map laV) e H
 have hbk := fun Xs e N => bkv0 Xs e H N
 have ti := indexfunc_spec p g kc (pt H 0) (hx H [.arr 3 (l.map laV)]) l hn (by rw [hx_get]; rfl) (fun N x => by rw [hx_hx]; exact hp _ x)
 have u := fun m => under_la m (l.filter fun x => !p x)
 cases hf : l.findIdx? p with
 | none =>
  rw [hf] at ti
  simp only [idxI] at ti
  rw [find_none hf] at u ⊢
  refine W_fn rfl rfl ?_
  simp only [go_sem, c_slices_DeleteFunc_api_Dropped_api_Dropped_, hth, ti, hbk, u, simprocAttr]
  first | done | rfl
 | some i =>
  rw [hf] at ti
  simp only [idxI] at ti
  obtain ⟨hi, hfl⟩ := find_some hf
  have hkl : (l.take i).length = i := by rw [List.length_take]; omega
  obtain ⟨A', N', h2, h3, h4, h5⟩ := delete_loop p g kc H l.length hn hp (l.drop (i + 1)) l (l.take i) (i + 1) [] rfl (by rw [hkl]) rfl (by rw [List.length_drop]; omega) (by rw [hkl]; omega)
  rw [← hfl] at h2 h4 h5
  rw [hkl] at h2
  have c1 : ¬ ((i : Int) = -1) := by omega
  have w1 : IntKind.i64.wrap ((i : Int) + 1) = ((i + 1 : Nat) : Int) := by rw [wrap_id (by unfold I64; omega)]; omega
  have hA : (A'.map laV).take (l.filter fun x => !p x).length = (l.filter fun x => !p x).map laV := by rw [← List.map_take, h4]
  generalize l.filter (fun x => !p x) = F at *
  have k0 : (0 : Int) ≤ (F.length : Int) := by omega
  have k1 : (F.length : Int) < (A'.length : Int) := by omega
  have k2 : F.length ≤ A'.length := by omega
  have k7 : ((F.length : Nat) : Int).toNat = F.length := by omega
  have k8 : ∀ z : AVal, (F.map laV ++ List.replicate (A'.length - F.length) z).length = A'.length := fun z => by simp; omega
  have k9 : ∀ z : AVal, (F.map laV ++ List.replicate (A'.length - F.length) z).take F.length = F.map laV := fun z => by rw [List.take_append_of_le_length (by simp)]; rw [List.take_of_length_le (by simp)]
  have k3 : (F.length : Int) ≤ (A'.length : Int) := by omega
  have ct : ∀ z : AVal, ev W (.cut 3) [.list 3 (F.map laV ++ List.replicate (A'.length - F.length) z) .uniq, .int .i64 (F.length : Nat)] = fun H => some (.list 3 (F.map laV) .uniq, H) := by
   intro z
   funext H
   rw [e_cutU, k8, if_pos ⟨k0, k3⟩, k7, k9]
  refine W_fn rfl rfl ?_
  simp only [go_sem, c_slices_DeleteFunc_api_Dropped_api_Dropped_, hth, ti, c1, w1, h2, List.length_map, k0, k1, k7, k2, hA, hbk, ct, u, simprocAttr]
  first | done | rfl
theorem indexfunc_nil (g : FuncId) (kc : Nat) (H : Heap) : W n_slices_IndexFunc_api_Dropped_api_Dropped_ [.list 3 [] .ro, .fn g [] [.ptr kc 0]] H = some (.int .i64 (-1), H) := by
 have h : loopA W loopW (.ghost (.kill k_slices_IndexFunc_api_Dropped_api_Dropped__0) l_slices_IndexFunc_api_Dropped_api_Dropped__0) [(0, .list 3 [] .ro), (1, .fn g [] [.ptr kc 0]), (7, .int .i64 0), (8, .int .i64 0)] (hx H []) = some (.exit 0, [], hx H []) := by
  have h1 : ¬ ((0 : Int) < 0) := by decide
  refine loop_step l_slices_IndexFunc_api_Dropped_api_Dropped__0.eq_1 k_slices_IndexFunc_api_Dropped_api_Dropped__0.eq_1 (by kernel_rfl) ?_
  simp only [go_sem, h1, simprocAttr]
 refine W_fn rfl rfl ?_
 simp only [go_sem, c_slices_IndexFunc_api_Dropped_api_Dropped_, List.length_nil, Int.natCast_zero, h, simprocAttr]
theorem delete_nil (g : FuncId) (kc : Nat) (H : Heap) : W n_slices_DeleteFunc_api_Dropped_api_Dropped_ [.list 3 [] .full, .fn g [] [.ptr kc 0]] H = some (.list 3 [] .full, H) := by
 have hth : ∀ (e : Env) (H : Heap), Env.get e 0 = .list 3 [] .full → agh (.thaw 0) e H = some (e, H) := fun e H h => by simp only [agh, h]
 have hbk : ∀ (e : Env) (H : Heap), Env.get e 0 = .list 3 [] .full → agh (.back 0) e H = some (e, H) := fun e H h => by simp only [agh, h]
 have ti := fun H => indexfunc_nil g kc H
 refine W_fn rfl rfl ?_
 simp only [go_sem, c_slices_DeleteFunc_api_Dropped_api_Dropped_, hth, hbk, ti, simprocAttr]
 first | done | rfl
theorem cut1_at (e : Int) (kc : Nat) (H : Heap) (hk : H[kc]? = some (.cells [.int .i64 e])) (x : La) :
  W n_aborts_Row_Cut_1 [.agg [.int .i64 x.1, .int .i64 x.2.1, .int .i64 x.2.2], .ptr kc 0] H = some (.bool (decide (x.2.2 ≥ e)), H) := by
 have gk := fun M => hx_old hk M
 refine W_fn rfl rfl ?_
 by_cases c : x.2.2 ≥ e
 ·rw [decide_eq_true c]
  simp only [go_sem, c_aborts_Row_Cut_1, gk, c, simprocAttr]
 ·rw [decide_eq_false c]
  simp only [go_sem, c_aborts_Row_Cut_1, gk, c, simprocAttr]
theorem cut1_spec (e : Int) (kc : Nat) (H : Heap) (hk : H[kc]? = some (.cells [.int .i64 e])) (N : Heap) (x : La) :
  W n_aborts_Row_Cut_1 [.agg [.int .i64 x.1, .int .i64 x.2.1, .int .i64 x.2.2], .ptr kc 0] (hx H N) = some (.bool (decide (x.2.2 ≥ e)), hx H N) :=
 cut1_at e kc (hx H N) (hx_old hk N) x
theorem abcut_spec (l : List La) (hn : l.length ≤ 1000000) (fl : Fl) (hfl : RF l fl) (e : Int) (i : Nat) (H : Heap) (hi : Old H i (rwB l fl)) :
  W n_aborts_Row_Cut [.ptr i 0, .int .i64 e] H = some (.tuple [], H.set i (rwB (l.filter fun d => !decide (d.2.2 ≥ e)) fl)) := by
 have gi := hi.get
 have gs := hi.set
 have gi' := hi.get'
 have gs' := hi.set'
 unfold rwB at *
 rcases hfl with rfl | ⟨rfl, rfl⟩
 ·have td := delete_spec (fun d => decide (d.2.2 ≥ e)) n_aborts_Row_Cut_1 (pt H 0) (hx (H.set i (.cells [.any])) [.cells [.int .i64 e]]) l hn (fun N x => cut1_spec e (pt H 0) _ (by rw [hx_getS]; rfl) N x)
  have u := fun m => under_la m (l.filter fun d => !decide (d.2.2 ≥ e))
  generalize l.filter (fun d => !decide (d.2.2 ≥ e)) = F at *
  refine W_fnS rfl rfl ?_
  simp only [go_sem, c_aborts_Row_Cut, gi, gs, gi', gs', AVal.demote, td, u, simprocAttr]
  first | done | rfl
 ·have td := fun H => delete_nil n_aborts_Row_Cut_1 (pt H 0) H
  simp only [List.filter_nil, List.map_nil] at *
  refine W_fnS rfl rfl ?_
  simp only [go_sem, c_aborts_Row_Cut, gi, gs, gi', gs', AVal.demote, delete_nil, simprocAttr]
  first | done | rfl
theorem shl7 (i : Nat) (hi : i < 10) (c : Int) : shl .u64 c ((i : Int) * 7) = (c * 128 ^ i) % 18446744073709551616 := by
 unfold shl
 rw [Num.wu64]
 have e : min ((i : Int) * 7).toNat IntKind.u64.bits = 7 * i := by show min _ 64 = _; omega
 rw [e, show (2 : Int) ^ (7 * i) = 128 ^ i by rw [Int.pow_mul]; rfl]
theorem shr7 (i : Nat) (hi : i < 10) (c : Int) : shr .u64 c ((i : Int) * 7) = c / 128 ^ i := by
 unfold shr
 have e : min ((i : Int) * 7).toNat IntKind.u64.bits = 7 * i := by show min _ 64 = _; omega
 rw [e, show (2 : Int) ^ (7 * i) = 128 ^ i by rw [Int.pow_mul]; rfl]
theorem group (i : Nat) (hi : i < 10) (c : Int) (h0 : 0 ≤ c) (h1 : c < 128) : ((c * 128 ^ i) % 18446744073709551616 / 128 ^ i = c) ↔ ¬ (i = 9 ∧ c ≥ 2) := by
 match i, hi with
 | 0, _ => have e : (128 : Int) ^ 0 = 1 := rfl; rw [e]; omega
 | 1, _ => have e : (128 : Int) ^ 1 = 128 := rfl; rw [e]; omega
 | 2, _ => have e : (128 : Int) ^ 2 = 16384 := rfl; rw [e]; omega
 | 3, _ => have e : (128 : Int) ^ 3 = 2097152 := rfl; rw [e]; omega
 | 4, _ => have e : (128 : Int) ^ 4 = 268435456 := rfl; rw [e]; omega
 | 5, _ => have e : (128 : Int) ^ 5 = 34359738368 := rfl; rw [e]; omega
 | 6, _ => have e : (128 : Int) ^ 6 = 4398046511104 := rfl; rw [e]; omega
 | 7, _ => have e : (128 : Int) ^ 7 = 562949953421312 := rfl; rw [e]; omega
 | 8, _ => have e : (128 : Int) ^ 8 = 72057594037927936 := rfl; rw [e]; omega
 | 9, _ => have e : (128 : Int) ^ 9 = 9223372036854775808 := rfl; rw [e]; omega
theorem joins (i : Nat) (hi : i < 10) (u c : Int) (u0 : 0 ≤ u) (u1 : u < 128 ^ i) (h0 : 0 ≤ c) (h1 : c < 128) :
  bits .or .u64 u ((c * 128 ^ i) % 18446744073709551616) = (u + 128 ^ i * c) % 18446744073709551616 ∧ (i < 9 → (u + 128 ^ i * c) < 18446744073709551616) ∧ u < 18446744073709551616 := by
 have hp : (2 : Int) ^ (7 * i) = 128 ^ i := by rw [Int.pow_mul]; rfl
 have key : u < 18446744073709551616 ∧ ((c * 128 ^ i) % 18446744073709551616) % 128 ^ i = 0 ∧ (u + (c * 128 ^ i) % 18446744073709551616) = (u + 128 ^ i * c) % 18446744073709551616 ∧ (i < 9 → (u + 128 ^ i * c) < 18446744073709551616) := by
  clear hp
  match i, hi with
  | 0, _ => have e : (128 : Int) ^ 0 = 1 := rfl; rw [e] at u1 ⊢; omega
  | 1, _ => have e : (128 : Int) ^ 1 = 128 := rfl; rw [e] at u1 ⊢; omega
  | 2, _ => have e : (128 : Int) ^ 2 = 16384 := rfl; rw [e] at u1 ⊢; omega
  | 3, _ => have e : (128 : Int) ^ 3 = 2097152 := rfl; rw [e] at u1 ⊢; omega
  | 4, _ => have e : (128 : Int) ^ 4 = 268435456 := rfl; rw [e] at u1 ⊢; omega
  | 5, _ => have e : (128 : Int) ^ 5 = 34359738368 := rfl; rw [e] at u1 ⊢; omega
  | 6, _ => have e : (128 : Int) ^ 6 = 4398046511104 := rfl; rw [e] at u1 ⊢; omega
  | 7, _ => have e : (128 : Int) ^ 7 = 562949953421312 := rfl; rw [e] at u1 ⊢; omega
  | 8, _ => have e : (128 : Int) ^ 8 = 72057594037927936 := rfl; rw [e] at u1 ⊢; omega
  | 9, _ => have e : (128 : Int) ^ 9 = 9223372036854775808 := rfl; rw [e] at u1 ⊢; omega
 refine ⟨?_, key.2.2.2, key.1⟩
 rw [Num.or_u64 (7 * i) u _ u0 (by rw [hp]; exact u1) (by omega) (by rw [hp]; exact key.2.1) key.1 (by omega)]
 exact key.2.2.1
def told : Option (Int × Nat) → Int × Int
 | none => (0, 0)
 | some (u, n) => (Num.zag u, (n : Int))
theorem zag_own' (u : Int) (h0 : 0 ≤ u) (h1 : u < 18446744073709551616) : bits .xor .i64 (IntKind.i64.wrap (shr .u64 u 1)) (IntKind.i64.wrap (0 - IntKind.i64.wrap (bits .and .u64 u 1))) = Num.zag u := by
 rw [← Num.zag_own u h0 h1, show shr .u64 u 1 = u / 2 from rfl]
 simp only [w64eq, Int.zero_sub]
theorem get_loop (l : List Int) (hb : Bytes l) (hl : l.length < 140737488355328) (H : Heap) (r : List Int) : ∀ (p : List Int) (u : Int), l = p ++ r → p.length ≤ 10 → 0 ≤ u → u < 128 ^ p.length →
  loopA W loopW (.ghost (.kill k_varint_Get_0) l_varint_Get_0) [(0, bytes l .ro), (4, .int .u64 u), (10, .int .i64 (mn (l.length : Int) 10)), (11, .int .i64 (p.length : Int))] H =
   some (.ret, [(2, .int .i64 (told (Vt.dec r p.length u)).1), (3, .int .i64 (told (Vt.dec r p.length u)).2)], H) ∨
  (loopA W loopW (.ghost (.kill k_varint_Get_0) l_varint_Get_0) [(0, bytes l .ro), (4, .int .u64 u), (10, .int .i64 (mn (l.length : Int) 10)), (11, .int .i64 (p.length : Int))] H = some (.exit 0, [], H) ∧
   told (Vt.dec r p.length u) = (0, 0)) := by
 induction r with
 | nil =>
  intro p u hp h10 _ _
  have hlen : l.length = p.length := by rw [hp, List.append_nil]
  right
  refine ⟨loop_step l_varint_Get_0.eq_1 k_varint_Get_0.eq_1 (by kernel_rfl) ?_, rfl⟩
  have h1 : ¬ ((p.length : Int) < mn (l.length : Int) 10) := by unfold mn; split <;> omega
  simp only [go_sem, trim_same, h1, decide_false, reduceCtorEq, ne_eq, not_false_eq_true, Bool.false_eq_true, ↓reduceIte, Nat.reduceAdd, Nat.reduceEqDiff, Nat.reduceLT, simprocAttr]
 | cons c r ih =>
  intro p u hp h10 u0 u1
  have hlen : l.length = p.length + (r.length + 1) := by rw [hp, List.length_append, List.length_cons]
  have hc := hb c (by rw [hp]; simp)
  rw [Vt.dec]
  by_cases hi : p.length ≥ 10
  ·right
   rw [if_pos hi]
   refine ⟨loop_step l_varint_Get_0.eq_1 k_varint_Get_0.eq_1 (by kernel_rfl) ?_, rfl⟩
   have h1 : ¬ ((p.length : Int) < mn (l.length : Int) 10) := by unfold mn; split <;> omega
   simp only [go_sem, trim_same, h1, decide_false, reduceCtorEq, ne_eq, not_false_eq_true, Bool.false_eq_true, ↓reduceIte, Nat.reduceAdd, Nat.reduceEqDiff, Nat.reduceLT, simprocAttr]
  ·rw [if_neg hi]
   have h1 : (p.length : Int) < mn (l.length : Int) 10 := by unfold mn; split <;> omega
   have h2 : (0 : Int) ≤ (p.length : Int) := by omega
   have h3 := ints_at (k := .u8) hp rfl
   have e1 : IntKind.u64.wrap c = c := by rw [Num.wu64]; omega
   have e2 := Num.andNot128 c hc.1 hc.2
   have e3 : IntKind.i64.wrap ((p.length : Int) * 7) = (p.length : Int) * 7 := wrap_id (by unfold I64; omega)
   have e4 : (0 : Int) ≤ (p.length : Int) * 7 := by omega
   have e5 := shl7 p.length (by omega) (c % 128)
   have e6 := shr7 p.length (by omega) ((c % 128 * 128 ^ p.length) % 18446744073709551616)
   have hg := group p.length (by omega) (c % 128) (by omega) (by omega)
   have hj := joins p.length (by omega) u (c % 128) u0 u1 (by omega) (by omega)
   by_cases h9 : p.length = 9 ∧ c % 128 ≥ 2
   ·left
    rw [if_pos h9]
    refine loop_step l_varint_Get_0.eq_1 k_varint_Get_0.eq_1 (by kernel_rfl) ?_
    have h5 : ¬ ((c % 128 * 128 ^ p.length) % 18446744073709551616 / 128 ^ p.length = c % 128) := fun h => hg.1 h h9
    simp only [go_sem, trim_same, h1, h2, h3, e1, e2, e3, e4, e5, e6, h5, s_shl, s_shr, not_false_eq_true, decide_true, decide_false, reduceCtorEq, ne_eq, not_false_eq_true, Bool.false_eq_true, ↓reduceIte, Nat.reduceAdd, Nat.reduceEqDiff, Nat.reduceLT, told, simprocAttr]
   ·rw [if_neg h9]
    have h5 : (c % 128 * 128 ^ p.length) % 18446744073709551616 / 128 ^ p.length = c % 128 := hg.2 h9
    have h7 : 0 ≤ 128 ^ p.length * (c % 128) := Int.mul_nonneg (Int.le_of_lt (Vt.pow_pos _)) (by omega)
    have hu : (u + 128 ^ p.length * (c % 128)) % 18446744073709551616 = u + 128 ^ p.length * (c % 128) := by
     have : u + 128 ^ p.length * (c % 128) < 18446744073709551616 := by
      by_cases h : p.length < 9
      ·exact hj.2.1 h
      ·have h1 : p.length = 9 := by omega
       have e : (128 : Int) ^ p.length = 9223372036854775808 := by rw [h1]; rfl
       rw [e] at u1 ⊢
       omega
     omega
    have e7 : bits .or .u64 u ((c % 128 * 128 ^ p.length) % 18446744073709551616) = u + 128 ^ p.length * (c % 128) := by rw [hj.1, hu]
    by_cases h128 : c ≥ 128
    ·rw [if_pos h128]
     have e8 : IntKind.i64.wrap ((p.length : Int) + 1) = ((p ++ [c]).length : Int) := by
      rw [wrap_id (by unfold I64; omega)]; simp
     have hn := ih (p ++ [c]) (u + 128 ^ p.length * (c % 128)) (by rw [hp, List.append_assoc]; rfl) (by simp; omega) (by omega) (by
      rw [List.length_append, List.length_cons, List.length_nil, Nat.zero_add, Vt.pow128]
      have h4 : 128 ^ p.length * (c % 128) ≤ 128 ^ p.length * 127 := Int.mul_le_mul_of_nonneg_left (by omega) (Int.le_of_lt (Vt.pow_pos _))
      omega)
     have e9 : (p ++ [c]).length = p.length + 1 := by simp
     rw [e9] at hn e8
     have step : ∀ q, loopA W loopW (.ghost (.kill k_varint_Get_0) l_varint_Get_0) [(0, bytes l .ro), (4, .int .u64 (u + 128 ^ p.length * (c % 128))), (10, .int .i64 (mn (l.length : Int) 10)), (11, .int .i64 ((p.length + 1 : Nat) : Int))] H = some q →
       loopA W loopW (.ghost (.kill k_varint_Get_0) l_varint_Get_0) [(0, bytes l .ro), (4, .int .u64 u), (10, .int .i64 (mn (l.length : Int) 10)), (11, .int .i64 (p.length : Int))] H = some q := by
      intro q hq
      refine loop_step l_varint_Get_0.eq_1 k_varint_Get_0.eq_1 (by kernel_rfl) ?_
      simp only [go_sem, trim_same, h1, h2, h3, h5, e1, e2, e3, e4, e5, e6, e7, e8, h128, s_shl, s_shr, not_true_eq_false, not_false_eq_true, decide_true, decide_false, reduceCtorEq, ne_eq, not_false_eq_true, Bool.false_eq_true, ↓reduceIte, Nat.reduceAdd, Nat.reduceEqDiff, Nat.reduceLT, simprocAttr]
      exact hq
     rcases hn with hn | ⟨hn, ht⟩
     ·exact .inl (step _ hn)
     ·exact .inr ⟨step _ hn, ht⟩
    ·rw [if_neg h128]
     have ez := zag_own' (u + 128 ^ p.length * (c % 128)) (by omega) (by omega)
     have e8 : IntKind.i64.wrap ((p.length : Int) + 1) = (p.length : Int) + 1 := wrap_id (by unfold I64; omega)
     left
     refine loop_step l_varint_Get_0.eq_1 k_varint_Get_0.eq_1 (by kernel_rfl) ?_
     have hl1 : ((p.length + 1 : Nat) : Int) = (p.length : Int) + 1 := by omega
     by_cases h0 : c = 0
     ·have hd : decide (c = 0) = true := by simp [h0]
      by_cases hp0 : p.length > 0
      ·have h8 : (p.length : Int) > 0 := by omega
       rw [if_pos ⟨h0, hp0⟩]
       simp only [go_sem, trim_same, h1, h2, h3, h5, e1, e2, e3, e4, e5, e6, e7, e8, ez, h128, h8, hd, Int.reduceLE, s_shl, s_shr, not_true_eq_false, not_false_eq_true, decide_true, decide_false, reduceCtorEq, ne_eq, not_false_eq_true, Bool.false_eq_true, ↓reduceIte, Nat.reduceAdd, Nat.reduceEqDiff, Nat.reduceLT, told, simprocAttr]
      ·have h8 : ¬ ((p.length : Int) > 0) := by omega
       rw [if_neg (fun h => hp0 h.2)]
       simp only [go_sem, trim_same, h1, h2, h3, h5, e1, e2, e3, e4, e5, e6, e7, e8, ez, h128, h8, hd, hl1, Int.reduceLE, s_shl, s_shr, not_true_eq_false, not_false_eq_true, decide_true, decide_false, reduceCtorEq, ne_eq, not_false_eq_true, Bool.false_eq_true, ↓reduceIte, Nat.reduceAdd, Nat.reduceEqDiff, Nat.reduceLT, told, simprocAttr]
     ·rw [if_neg (fun h => h0 h.1)]
      simp only [go_sem, trim_same, h0, h1, h2, h3, h5, e1, e2, e3, e4, e5, e6, e7, e8, ez, h128, hl1, s_shl, s_shr, Int.reduceLE, not_true_eq_false, not_false_eq_true, decide_true, decide_false, reduceCtorEq, ne_eq, not_false_eq_true, Bool.false_eq_true, ↓reduceIte, Nat.reduceAdd, Nat.reduceEqDiff, Nat.reduceLT, told, simprocAttr]
theorem vget_spec (l : List Int) (H : Heap) (hb : Bytes l) (hl : l.length < 140737488355328) : W n_varint_Get [bytes l .ro] H = some (.tuple [.int .i64 (told (Vt.dec l 0 0)).1, .int .i64 (told (Vt.dec l 0 0)).2], H) := by
 refine W_fn0 rfl rfl ?_
 have e3 : (ints .u8 l).length = l.length := by simp
 rcases get_loop l hb hl H l [] 0 rfl (by simp) (by omega) (by decide) with h | ⟨h, ht⟩
 ·simp only [List.length_nil, Int.natCast_zero] at h
  simp only [go_sem, trim_same, c_varint_Get, e3, h, reduceCtorEq, ne_eq, not_false_eq_true, Bool.false_eq_true, ↓reduceIte, Nat.reduceAdd, Nat.reduceEqDiff, Nat.reduceLT, simprocAttr]
 ·simp only [List.length_nil, Int.natCast_zero] at h ht
  rw [ht]
  simp only [go_sem, trim_same, c_varint_Get, e3, h, reduceCtorEq, ne_eq, not_false_eq_true, Bool.false_eq_true, ↓reduceIte, Nat.reduceAdd, Nat.reduceEqDiff, Nat.reduceLT, simprocAttr]
theorem or_at (k : IntKind) (hk : k = .i64 ∨ k = .u64 ∨ k = .u32) (i : Nat) (x y : Int) (hx0 : 0 ≤ x) (hx : x < 2 ^ i) (hy0 : 0 ≤ y) (hy : y % 2 ^ i = 0) (hx1 : x < 4294967296) (hy1 : y < 4294967296) (hs : x + y < 4294967296) :
  bits .or k x y = x + y ∧ bits .or k y x = x + y := by
 obtain ⟨a, rfl⟩ := Int.eq_ofNat_of_zero_le hx0
 obtain ⟨b, rfl⟩ := Int.eq_ofNat_of_zero_le hy0
 have h1 : a < 2 ^ i := by exact_mod_cast hx
 have h2 : b % 2 ^ i = 0 := by exact_mod_cast hy
 have h3 := nat_join i b a h2 h1
 have ha : a < 4294967296 := by omega
 have hb : b < 4294967296 := by omega
 have key : ∀ n : Nat, 32 ≤ n → n ≤ 64 → (BitVec.ofInt n (a : Int) ||| BitVec.ofInt n (b : Int)).toNat = a + b ∧ (BitVec.ofInt n (b : Int) ||| BitVec.ofInt n (a : Int)).toNat = a + b := by
  intro n hn _
  have hp : 4294967296 ≤ 2 ^ n := by
   have := Nat.pow_le_pow_right (n := 2) (by decide) hn
   simpa using this
  have ea : (BitVec.ofInt n (a : Int)).toNat = a := by
   rw [BitVec.ofInt_natCast, BitVec.toNat_ofNat, Nat.mod_eq_of_lt (by omega)]
  have eb : (BitVec.ofInt n (b : Int)).toNat = b := by
   rw [BitVec.ofInt_natCast, BitVec.toNat_ofNat, Nat.mod_eq_of_lt (by omega)]
  rw [BitVec.toNat_or, BitVec.toNat_or, ea, eb, Nat.or_comm a b, h3]
  omega
 rcases hk with rfl | rfl | rfl
 ·obtain ⟨q1, q2⟩ := key 64 (by decide) (by decide)
  refine ⟨?_, ?_⟩
  ·show IntKind.i64.wrap _ = _
   rw [show IntKind.i64.bits = 64 from rfl, q1, wrap_id (by unfold I64; omega)]; omega
  ·show IntKind.i64.wrap _ = _
   rw [show IntKind.i64.bits = 64 from rfl, q2, wrap_id (by unfold I64; omega)]; omega
 ·obtain ⟨q1, q2⟩ := key 64 (by decide) (by decide)
  refine ⟨?_, ?_⟩
  ·show IntKind.u64.wrap _ = _
   rw [show IntKind.u64.bits = 64 from rfl, q1, Num.wu64]; omega
  ·show IntKind.u64.wrap _ = _
   rw [show IntKind.u64.bits = 64 from rfl, q2, Num.wu64]; omega
 ·obtain ⟨q1, q2⟩ := key 32 (by decide) (by decide)
  refine ⟨?_, ?_⟩
  ·show IntKind.u32.wrap _ = _
   rw [show IntKind.u32.bits = 32 from rfl, q1, IntKind.wrap_u32]; omega
  ·show IntKind.u32.wrap _ = _
   rw [show IntKind.u32.bits = 32 from rfl, q2, IntKind.wrap_u32]; omega
theorem shl_u32 (c : Int) (h0 : 0 ≤ c) (h1 : c < 256) : shl .u32 c 8 = c * 256 ∧ shl .u32 c 16 = c * 65536 ∧ shl .u32 c 24 = c * 16777216 := by
 unfold shl
 rw [show (2 : Int) ^ (min (8 : Int).toNat IntKind.u32.bits) = 256 from by decide, show (2 : Int) ^ (min (16 : Int).toNat IntKind.u32.bits) = 65536 from by decide, show (2 : Int) ^ (min (24 : Int).toNat IntKind.u32.bits) = 16777216 from by decide, IntKind.wrap_u32, IntKind.wrap_u32, IntKind.wrap_u32]
 omega
theorem getD_byte {p : List Int} (hp : ∀ x ∈ p, 0 ≤ x ∧ x < 256) (i : Nat) : 0 ≤ p.getD i 0 ∧ p.getD i 0 < 256 := by
 rw [List.getD_eq_getElem?_getD]
 cases h : p[i]? with
 | none => simp
 | some x => exact hp x (List.mem_of_getElem? h)
def sum4 (p : List Int) : Int := p.getD 0 0 + p.getD 1 0 * 256 + p.getD 2 0 * 65536 + p.getD 3 0 * 16777216
theorem sum4_or (a b c d : Int) (ha : 0 ≤ a ∧ a < 256) (hb : 0 ≤ b ∧ b < 256) (hc : 0 ≤ c ∧ c < 256) (hd : 0 ≤ d ∧ d < 256) :
  bits .or .u32 (bits .or .u32 (bits .or .u32 (IntKind.u32.wrap a) (shl .u32 (IntKind.u32.wrap b) 8)) (shl .u32 (IntKind.u32.wrap c) 16)) (shl .u32 (IntKind.u32.wrap d) 24) = a + b * 256 + c * 65536 + d * 16777216 := by
 have wa : ∀ x : Int, 0 ≤ x ∧ x < 256 → IntKind.u32.wrap x = x := fun x h => by rw [IntKind.wrap_u32]; omega
 rw [wa a ha, wa b hb, wa c hc, wa d hd, (shl_u32 b hb.1 hb.2).1, (shl_u32 c hc.1 hc.2).2.1, (shl_u32 d hd.1 hd.2).2.2]
 rw [(or_at .u32 (.inr (.inr rfl)) 8 a (b * 256) ha.1 (by show a < 256; omega) (by omega) (by show b * 256 % 256 = 0; omega) (by omega) (by omega) (by omega)).1]
 rw [(or_at .u32 (.inr (.inr rfl)) 16 (a + b * 256) (c * 65536) (by omega) (by show a + b * 256 < 65536; omega) (by omega) (by show c * 65536 % 65536 = 0; omega) (by omega) (by omega) (by omega)).1]
 rw [(or_at .u32 (.inr (.inr rfl)) 24 (a + b * 256 + c * 65536) (d * 16777216) (by omega) (by show a + b * 256 + c * 65536 < 16777216; omega) (by omega) (by show d * 16777216 % 16777216 = 0; omega) (by omega) (by omega) (by omega)).1]
def chkOK (p : List Int) : Bool := decide (4 ≤ p.length) && decide (((crcN (toN (p.drop 4)) : Nat) : Int) = sum4 p)
theorem getD_at {p : List Int} (i : Nat) (h : i < p.length) : (ints .u8 p)[i]? = some (.int .u8 (p.getD i 0)) := by
 rw [List.getElem?_map, List.getD_eq_getElem?_getD, List.getElem?_eq_getElem h]; rfl
theorem check_spec (p : List Int) (hp : ∀ x ∈ p, 0 ≤ x ∧ x < 256) (hl : p.length ≤ 140737488355328) (H : Heap) :
  W n_crc_Check [bytes p .ro] H = some (.tuple [if chkOK p then bytes (p.drop 4) .own else .list 1 [] .full, .bool (chkOK p)], H) := by
 unfold chkOK
 by_cases c : p.length < 4
 ·have c' : (p.length : Int) < 4 := by omega
  have d : decide (4 ≤ p.length) = false := decide_eq_false (by omega)
  rw [d, Bool.false_and, if_neg (by decide)]
  refine W_fn0 rfl rfl ?_
  simp only [go_sem, trim_same, c_crc_Check, List.length_map, c', simprocAttr]
 ·have c' : ¬ (p.length : Int) < 4 := by omega
  have d : decide (4 ≤ p.length) = true := decide_eq_true (by omega)
  rw [d, Bool.true_and]
  have g0 := getD_at (p := p) 0 (by omega)
  have g1 := getD_at (p := p) 1 (by omega)
  have g2 := getD_at (p := p) 2 (by omega)
  have g3 := getD_at (p := p) 3 (by omega)
  have hs := sum4_or _ _ _ _ (getD_byte hp 0) (getD_byte hp 1) (getD_byte hp 2) (getD_byte hp 3)
  have ho := fun H => of_spec (p.drop 4) H (fun x hx => hp x (List.mem_of_mem_drop hx)) (by simp; omega)
  have e4 : (ints .u8 p).drop 4 = ints .u8 (p.drop 4) := by rw [← List.map_drop]
  have l4 : (4 : Int) ≤ (p.length : Int) := by omega
  have hc := fun H => W_clone (ints .u8 (p.drop 4)) H (by simp [maxBytes]; omega)
  unfold sum4
  generalize p.getD 0 0 = x0 at *
  generalize p.getD 1 0 = x1 at *
  generalize p.getD 2 0 = x2 at *
  generalize p.getD 3 0 = x3 at *
  generalize p.drop 4 = y at *
  generalize ((crcN (toN y) : Nat) : Int) = n at *
  by_cases e : n = x0 + x1 * 256 + x2 * 65536 + x3 * 16777216
  ·rw [decide_eq_true e, if_pos rfl]
   refine W_fn0 rfl rfl ?_
   simp only [go_sem, trim_same, c_crc_Check, List.length_map, c', g0, g1, g2, g3, hs, slL, l4, e4, ho, eq_true e, hc, simprocAttr]
  ·rw [decide_eq_false e, if_neg (by decide)]
   refine W_fn0 rfl rfl ?_
   simp only [go_sem, trim_same, c_crc_Check, List.length_map, c', g0, g1, g2, g3, hs, slL, l4, e4, ho, e, simprocAttr]
abbrev RSt := List Int × Bool
abbrev rdB (s : RSt) : Box := .cells [bytes s.1 .ro, .bool s.2]
abbrev Bts (l : List Int) : Prop := (∀ x ∈ l, 0 ≤ x ∧ x < 256) ∧ l.length < 140737488355328
theorem dec_le7 (r : List Int) : ∀ (i : Nat) (u v : Int) (n : Nat), Vt.dec r i u = some (v, n) → i < n ∧ n ≤ i + r.length := by
 induction r with
 | nil => intro i u v n h; cases h
 | cons c r ih =>
  intro i u v n h
  rw [Vt.dec] at h
  rw [List.length_cons]
  split at h
  ·cases h
  ·split at h
   ·cases h
   ·split at h
    ·have := ih _ _ _ _ h; omega
    ·split at h
     ·cases h
     ·cases h; omega
theorem told_range7 (l : List Int) : 0 ≤ (told (Vt.dec l 0 0)).2 ∧ (told (Vt.dec l 0 0)).2 ≤ (l.length : Int) := by
 cases h : Vt.dec l 0 0 with
 | none => simp only [told]; omega
 | some x => obtain ⟨v, n⟩ := x; have := dec_le7 l 0 0 v n h; simp only [told]; omega
def numQ (s : RSt) : Int × RSt := if s.2 = true ∨ (told (Vt.dec s.1 0 0)).2 = 0 then (0, (s.1, true)) else ((told (Vt.dec s.1 0 0)).1, (s.1.drop (told (Vt.dec s.1 0 0)).2.toNat, false))
theorem numQ_bts {s : RSt} (h : Bts s.1) : Bts (numQ s).2.1 := by
 unfold numQ
 split
 ·exact h
 ·refine ⟨fun x hx => h.1 x (List.mem_of_mem_drop hx), ?_⟩
  have := h.2
  simp only [List.length_drop]; omega
theorem num_spec (s : RSt) (hs : Bts s.1) (i : Nat) (H : Heap) (hi : Old H i (rdB s)) :
  W n_varint_Reader_Num [.ptr i 0] H = some (.int .i64 (numQ s).1, H.set i (rdB (numQ s).2)) := by
 obtain ⟨l, bad⟩ := s
 have gi := hi.get
 have gs := hi.set
 have gi' := hi.get'
 have gs' := hi.set'
 have tg := fun H => vget_spec l H hs.1 hs.2
 have tr := told_range7 l
 have u : ∀ (n : Nat) (m : List Int), AVal.underL n (ints .u8 m) = true := fun n m => uL_map n (AVal.int .u8) (fun _ => rfl) m
 unfold numQ
 simp only
 generalize told (Vt.dec l 0 0) = T at *
 obtain ⟨v, k⟩ := T
 simp only at tg tr ⊢
 have d1 : (ints .u8 l).drop k.toNat = ints .u8 (l.drop k.toNat) := (List.map_drop ..).symm
 unfold rdB at *
 simp only at gi gs gi' gs' ⊢
 cases bad with
 | true =>
  rw [if_pos (.inl rfl)]
  refine W_fnS rfl rfl ?_
  simp only [go_sem, c_varint_Reader_Num, gi, gs, gi', gs', tg, u, simprocAttr]
  first | done | rfl
 | false =>
  by_cases c : k = 0
  ·rw [if_pos (.inr c)]
   refine W_fnS rfl rfl ?_
   simp only [go_sem, c_varint_Reader_Num, gi, gs, gi', gs', tg, eq_true c, u, simprocAttr]
   first | done | rfl
  ·rw [if_neg (by rintro (h | h); cases h; exact c h)]
   refine W_fnS rfl rfl ?_
   simp only [go_sem, c_varint_Reader_Num, gi, gs, gi', gs', tg, c, slL, tr.1, tr.2, List.length_map, d1, u, simprocAttr]
   first | done | rfl
def countQ (most : Int) (s : RSt) : Int × RSt := if (numQ s).1 < 0 ∨ (numQ s).1 > most then (0, ((numQ s).2.1, true)) else numQ s
theorem count_spec7 (most : Int) (s : RSt) (hs : Bts s.1) (i : Nat) (H : Heap) (hi : Old H i (rdB s)) :
  W n_varint_Reader_Count [.ptr i 0, .int .i64 most] H = some (.int .i64 (countQ most s).1, H.set i (rdB (countQ most s).2)) := by
 have tn := num_spec s hs i (hx H []) ⟨hi.get []⟩
 have gi' := hi.get'
 have gs := hi.set
 have gs' := hi.set'
 have u : ∀ (n : Nat) (m : List Int), AVal.underL n (ints .u8 m) = true := fun n m => uL_map n (AVal.int .u8) (fun _ => rfl) m
 rw [hi.set] at tn
 unfold countQ
 generalize numQ s = q at *
 obtain ⟨v, l, bad⟩ := q
 simp only at tn ⊢
 unfold rdB at *
 simp only at tn gi' gs gs' ⊢
 by_cases c1 : v < 0
 ·rw [if_pos (.inl c1)]
  refine W_fnS rfl rfl ?_
  simp only [go_sem, c_varint_Reader_Count, tn, gi', gs', c1, u, simprocAttr]
  first | done | rfl
 ·by_cases c2 : v > most
  ·rw [if_pos (.inr c2)]
   refine W_fnS rfl rfl ?_
   simp only [go_sem, c_varint_Reader_Count, tn, gi', gs', c1, c2, u, simprocAttr]
   first | done | rfl
  ·rw [if_neg (by omega)]
   refine W_fnS rfl rfl ?_
   simp only [go_sem, c_varint_Reader_Count, tn, gi', gs', c1, c2, u, simprocAttr]
   first | done | rfl
theorem bad_spec7 (s : RSt) (i : Nat) (H : Heap) (hi : Old H i (rdB s)) : W n_varint_Reader_Bad [.ptr i 0] H = some (.bool s.2, H) := by
 have gi := hi.get
 unfold rdB at gi
 refine W_fn rfl rfl ?_
 simp only [go_sem, c_varint_Reader_Bad, gi, simprocAttr]
theorem done_spec7 (s : RSt) (i : Nat) (H : Heap) (hi : Old H i (rdB s)) : W n_varint_Reader_Done [.ptr i 0] H = some (.bool (!s.2 && decide (s.1.length = 0)), H) := by
 have gi := hi.get
 obtain ⟨l, bad⟩ := s
 unfold rdB at gi
 simp only at gi ⊢
 refine W_fn rfl rfl ?_
 cases bad with
 | true => simp only [go_sem, c_varint_Reader_Done, gi, simprocAttr]
 | false =>
  by_cases c : l.length = 0
  ·have c' : (l.length : Int) = 0 := by omega
   rw [decide_eq_true c]
   simp only [go_sem, c_varint_Reader_Done, gi, List.length_map, eq_true c', simprocAttr]
  ·have c' : ¬ (l.length : Int) = 0 := by omega
   rw [decide_eq_false c]
   simp only [go_sem, c_varint_Reader_Done, gi, List.length_map, c', simprocAttr]
theorem read_spec7 (l : List Int) (H : Heap) : W n_varint_Read [bytes l .ro] H = some (.ptr (pt H 0) 0, hx H [rdB (l, false)]) := by
 have u : ∀ (n : Nat) (m : List Int), AVal.underL n (ints .u8 m) = true := fun n m => uL_map n (AVal.int .u8) (fun _ => rfl) m
 refine W_fnS rfl rfl ?_
 simp only [go_sem, c_varint_Read, u, simprocAttr]
 first | done | rfl
abbrev pN (n : Int) : List Int := Vt.enc 9 (Num.zig n)
def encR (D : List La) : List Int := D.flatMap fun d => pN d.1 ++ (pN d.2.1 ++ pN d.2.2)
def encD (D : List La) : List Int := pN (D.length : Nat) ++ encR D
def sealE (l : List Int) : List Int := le4 (crcN (toN l) : Nat) ++ l
abbrev DI (D : List La) : Prop := ∀ d ∈ D, I64 d.1 ∧ I64 d.2.1 ∧ I64 d.2.2
theorem pN_len (n : Int) : (pN n).length ≤ 10 := Vt.enc_len' 9 _
theorem pN_bytes {n : Int} (h : I64 n) : ∀ x ∈ pN n, 0 ≤ x ∧ x < 256 := by
 have hz := Num.zig_range n h
 exact Vt.enc_bytes 9 _ hz.1 (Int.lt_trans hz.2 (by decide))
theorem encR_len : ∀ D : List La, (encR D).length ≤ 30 * D.length
 | [] => by simp [encR]
 | d :: D => by
  have h := encR_len D
  have h1 := pN_len d.1
  have h2 := pN_len d.2.1
  have h3 := pN_len d.2.2
  unfold encR at *
  simp only [List.flatMap_cons, List.length_append, List.length_cons]
  omega
theorem encR_bytes : ∀ {D : List La}, DI D → ∀ x ∈ encR D, 0 ≤ x ∧ x < 256
 | [], _, x, hx => by simp [encR] at hx
 | d :: D, h, x, hx => by
  have hd := h d List.mem_cons_self
  unfold encR at hx
  simp only [List.flatMap_cons, List.mem_append] at hx
  rcases hx with (hx | hx | hx) | hx
  ·exact pN_bytes hd.1 x hx
  ·exact pN_bytes hd.2.1 x hx
  ·exact pN_bytes hd.2.2 x hx
  ·exact encR_bytes (fun y hy => h y (List.mem_cons_of_mem _ hy)) x hx
theorem bytes_loop7 (D : List La) (hD : DI D) (hn : D.length ≤ 1000000) (i : Nat) (H : Heap) (r : List La) : ∀ (q : List La) (b : List Int) (N : Heap), D = q ++ r → b.length ≤ 10 + 30 * q.length →
  ∃ N', loopA W loopW (.ghost (.kill k_aborts_Row_Bytes_0) l_aborts_Row_Bytes_0) [(0, .ptr i 0), (3, bytes b .full), (15, .lbox (pt H 0)), (16, .int .i64 (D.length : Nat)), (17, .int .i64 (q.length : Nat))] (hx H (.arr 3 (D.map laV) :: N)) =
   some (.exit 0, [(0, .ptr i 0), (3, bytes (b ++ encR r) .full)], hx H (.arr 3 (D.map laV) :: N')) := by
 induction r with
 | nil =>
  intro q b N hq hb
  rw [List.append_nil] at hq
  subst hq
  refine ⟨N, ?_⟩
  have h1 : ¬ ((D.length : Int) < (D.length : Int)) := by omega
  rw [show encR [] = [] from rfl, List.append_nil]
  refine loop_step l_aborts_Row_Bytes_0.eq_1 k_aborts_Row_Bytes_0.eq_1 (by kernel_rfl) ?_
  simp only [go_sem, h1, simprocAttr]
 | cons d r ih =>
  intro q b N hq hb
  have hlen : D.length = q.length + (r.length + 1) := by rw [hq]; simp
  have h1 : ((q.length : Int) < (D.length : Int)) := by omega
  have e0 : (0 : Int) ≤ (q.length : Int) := by omega
  have e7 : ((q.length : Nat) : Int).toNat = q.length := by omega
  have e1 : (D.map laV)[q.length]? = some (.agg [.int .i64 d.1, .int .i64 d.2.1, .int .i64 d.2.2]) := by rw [hq]; simp [laV]
  have e6 : IntKind.i64.wrap ((q.length : Int) + 1) = ((q.length + 1 : Nat) : Int) := by rw [wrap_id (by unfold I64; omega)]; omega
  have n1 : ∀ x : Box, (N ++ [x])[N.length]? = some x := fun x => by simp
  have n2 : ∀ x z : Box, (N ++ [x]).set N.length z = N ++ [z] := fun x z => by simp
  have hd := hD d (by rw [hq]; simp)
  have l1 := pN_len d.1
  have l2 := pN_len d.2.1
  have l3 := pN_len d.2.2
  have t1 := fun H => put_spec b d.1 H hd.1 (by omega)
  have t2 := fun H => put_spec (b ++ pN d.1) d.2.1 H hd.2.1 (by rw [List.length_append]; omega)
  have t3 := fun H => put_spec (b ++ pN d.1 ++ pN d.2.1) d.2.2 H hd.2.2 (by rw [List.length_append, List.length_append]; omega)
  obtain ⟨N', h2⟩ := ih (q ++ [d]) (b ++ pN d.1 ++ pN d.2.1 ++ pN d.2.2) (N ++ [.cells [.int .i64 d.1, .int .i64 d.2.1, .int .i64 d.2.2]]) (by rw [hq]; simp) (by simp; omega)
  simp only [List.length_append, List.length_cons, List.length_nil, Nat.zero_add] at h2
  refine ⟨N', ?_⟩
  rw [show b ++ encR (d :: r) = b ++ pN d.1 ++ pN d.2.1 ++ pN d.2.2 ++ encR r by simp [encR]]
  generalize b ++ pN d.1 ++ pN d.2.1 ++ pN d.2.2 ++ encR r = R at *
  generalize b ++ pN d.1 ++ pN d.2.1 ++ pN d.2.2 = b3 at *
  generalize b ++ pN d.1 ++ pN d.2.1 = b2 at *
  generalize b ++ pN d.1 = b1 at *
  refine loop_step l_aborts_Row_Bytes_0.eq_1 k_aborts_Row_Bytes_0.eq_1 (by kernel_rfl) ?_
  simp only [go_sem, h1, e0, e7, e1, n1, n2, List.length_map, t1, t2, t3, e6, simprocAttr]
  exact h2
theorem abbytes_spec (D : List La) (hD : DI D) (hn : D.length ≤ 1000000) (fl : Fl) (hfl : RF D fl) (i : Nat) (H : Heap) (hi : Old H i (rwB D fl)) :
  W n_aborts_Row_Bytes [.ptr i 0] H = some (bytes (sealE (encD D)) .own, H.set i (rwB D .uniq)) := by
 have hth := thC hfl hi
 have hbk := bkC0 hi (D.map laV)
 have gi' := hi.get'
 have hI : I64 ((D.length : Nat) : Int) := by unfold I64; omega
 have t1 : ∀ H, W n_varint_Put [.list 1 [] .ro, .int .i64 ((D.length : Nat) : Int)] H = some (bytes (pN ((D.length : Nat) : Int)) .full, H) := fun H => put_spec [] ((D.length : Nat) : Int) H hI (by simp)
 obtain ⟨N, h⟩ := bytes_loop7 D hD hn i (H.set i (.cells [.lbox (pt H 0)])) D [] (pN (D.length : Nat)) [] rfl (by have := pN_len ((D.length : Nat) : Int); simp; omega)
 rw [show pN (D.length : Nat) ++ encR D = encD D from rfl] at h
 simp only [List.length_nil, Int.natCast_zero, pt_set] at h
 have hl : (encD D).length ≤ 10 + 30 * D.length := by
  unfold encD
  have := pN_len ((D.length : Nat) : Int)
  have := encR_len D
  rw [List.length_append]; omega
 have hb : ∀ x ∈ encD D, 0 ≤ x ∧ x < 256 := by
  intro x hx
  unfold encD at hx
  rcases List.mem_append.1 hx with hx | hx
  ·exact pN_bytes hI x hx
  ·exact encR_bytes hD x hx
 have t2 := fun H => crc_put_spec (encD D) H hb (by omega)
 rw [show le4 (crcN (toN (encD D)) : Nat) ++ encD D = sealE (encD D) from rfl] at t2
 have u : ∀ (n : Nat) (m : List Int), AVal.underL n (ints .u8 m) = true := fun n m => uL_map n (AVal.int .u8) (fun _ => rfl) m
 have u2 := fun n => under_la n D
 generalize sealE (encD D) = S at *
 generalize encD D = E at *
 generalize pN ((D.length : Nat) : Int) = P0 at *
 refine W_fnS rfl rfl ?_
 simp only [go_sem, c_aborts_Row_Bytes, hth, hbk, gi', pt_set, hx_getS, hx_setS, List.length_map, t1, h, t2, u, u2, simprocAttr]
 first | done | rfl
def rdGo : Nat → RSt → List La → Option (RSt × List La)
 | 0, s, D => some (s, D)
 | k + 1, s, D =>
  let a := numQ s
  let b := numQ a.2
  let c := numQ b.2
  if c.2.2 = true ∨ abOK D (a.1, b.1, c.1) = false then none else rdGo k c.2 (D ++ [(a.1, b.1, c.1)])
def lastN (D : List La) : Int := match D.getLast? with | some q => q.2.2 | none => 0
def InvD (D : List La) : Prop := (D.length : Int) ≤ lastN D ∧ lastN D ≤ 1099511627776
theorem InvD.nil : InvD [] := ⟨by decide, by decide⟩
theorem InvD.len {D} (h : InvD D) : D.length ≤ 1099511627776 := by have := h.1; have := h.2; omega
theorem InvD.snoc {D : List La} {d : La} (h : InvD D) (hk : abOK D d = true) : InvD (D ++ [d]) := by
 unfold abOK at hk
 simp only [Bool.and_eq_true, decide_eq_true_eq] at hk
 obtain ⟨h1, h2, h3, h4, h5⟩ := hk
 have h6 := h.1
 have e : lastN (D ++ [d]) = d.2.2 := by unfold lastN; simp
 have hl : ((D ++ [d]).length : Int) = D.length + 1 := by simp
 have h7 : lastN D < d.2.2 := by
  unfold lastN
  cases hg : D.getLast? with
  | none => simp only; omega
  | some q => rw [hg] at h5; simp only [decide_eq_true_eq] at h5 ⊢; omega
 exact ⟨by rw [e, hl]; omega, by rw [e]; omega⟩
set_option maxHeartbeats 1000000 in
theorem rd_loop (ok : Bool) (n : Nat) (hn : n ≤ 140737488355328) (H : Heap) (k : Nat) : ∀ (j : Nat) (s : RSt) (D : List La) (fl : Fl) (N : Heap), j + k = n → Bts s.1 → RF D fl → InvD D →
  (rdGo k s D = none ∧ ∃ N', loopA W loopW (.ghost (.kill k_aborts_Read_0) l_aborts_Read_0) [(5, .bool ok), (6, .ptr (pt H 0) 0), (7, .ptr (pt H 1) 0), (20, .int .i64 (n : Nat)), (21, .int .i64 (j : Nat))] (hx H (rdB s :: rwB D fl :: N)) = some (.ret, [(2, .nilp), (3, .int .i64 12)], hx H N')) ∨
  (∃ s' D' fl' N', rdGo k s D = some (s', D') ∧ RF D' fl' ∧ Bts s'.1 ∧ InvD D' ∧ loopA W loopW (.ghost (.kill k_aborts_Read_0) l_aborts_Read_0) [(5, .bool ok), (6, .ptr (pt H 0) 0), (7, .ptr (pt H 1) 0), (20, .int .i64 (n : Nat)), (21, .int .i64 (j : Nat))] (hx H (rdB s :: rwB D fl :: N)) =
   some (.exit 0, [(5, .bool ok), (6, .ptr (pt H 0) 0), (7, .ptr (pt H 1) 0)], hx H (rdB s' :: rwB D' fl' :: N'))) := by
 induction k with
 | zero =>
  intro j s D fl N hj hs hfl hD
  refine .inr ⟨s, D, fl, N, rfl, hfl, hs, hD, ?_⟩
  have h1 : ¬ ((j : Int) < (n : Int)) := by omega
  refine loop_step l_aborts_Read_0.eq_1 k_aborts_Read_0.eq_1 (by kernel_rfl) ?_
  simp only [go_sem, h1, simprocAttr]
 | succ k ih =>
  intro j s D fl N hj hs hfl hD
  have h1 : ((j : Int) < (n : Int)) := by omega
  have e6 : IntKind.i64.wrap ((j : Int) + 1) = ((j + 1 : Nat) : Int) := by rw [wrap_id (by unfold I64; omega)]; omega
  have hs1 := numQ_bts hs
  have hs2 := numQ_bts hs1
  have hs3 := numQ_bts hs2
  have t1 := fun M => num_spec s hs (pt H 0) (hx H (rdB s :: M)) ⟨by rw [hx_get]; rfl⟩
  have t2 := fun M => num_spec (numQ s).2 hs1 (pt H 0) (hx H (rdB (numQ s).2 :: M)) ⟨by rw [hx_get]; rfl⟩
  have t3 := fun M => num_spec (numQ (numQ s).2).2 hs2 (pt H 0) (hx H (rdB (numQ (numQ s).2).2 :: M)) ⟨by rw [hx_get]; rfl⟩
  have t4 := fun M => bad_spec7 (numQ (numQ (numQ s).2).2).2 (pt H 0) (hx H (rdB (numQ (numQ (numQ s).2).2).2 :: M)) ⟨by rw [hx_get]; rfl⟩
  simp only [hx_set, List.set_cons_zero] at t1 t2 t3
  have hgo : rdGo (k + 1) s D = if (numQ (numQ (numQ s).2).2).2.2 = true ∨ abOK D ((numQ s).1, (numQ (numQ s).2).1, (numQ (numQ (numQ s).2).2).1) = false then none else rdGo k (numQ (numQ (numQ s).2).2).2 (D ++ [((numQ s).1, (numQ (numQ s).2).1, (numQ (numQ (numQ s).2).2).1)]) := rfl
  rw [hgo]
  generalize hq1 : numQ s = q1 at *
  obtain ⟨x1, s1⟩ := q1
  simp only at *
  generalize hq2 : numQ s1 = q2 at *
  obtain ⟨x2, s2⟩ := q2
  simp only at *
  generalize hq3 : numQ s2 = q3 at *
  obtain ⟨x3, s3⟩ := q3
  simp only at *
  have n1 : ∀ x : Box, (N ++ [x])[N.length]? = some x := fun x => by simp
  have n2 : ∀ x z : Box, (N ++ [x]).set N.length z = N ++ [z] := fun x z => by simp
  cases hb : s3.2 with
  | true =>
   rw [hb] at t4
   rw [if_pos (.inl rfl)]
   refine .inl ⟨rfl, ?_⟩
   refine ⟨rdB s3 :: rwB D fl :: (N ++ [.cells [.int .i64 x1, .int .i64 x2, .int .i64 x3]]), ?_⟩
   generalize rdB s = B0 at *
   generalize rdB s1 = B1 at *
   generalize rdB s2 = B2 at *
   generalize rdB s3 = B3 at *
   generalize rwB D fl = B4 at *
   refine loop_step l_aborts_Read_0.eq_1 k_aborts_Read_0.eq_1 (by kernel_rfl) ?_
   simp only [go_sem, h1, t1, t2, t3, t4, n1, n2, simprocAttr]
  | false =>
   rw [hb] at t4
   have ta := fun M C => abadd_spec D hD.len fl hfl (x1, x2, x3) (pt H 1) (hx H (C :: rwB D fl :: M)) ⟨by rw [hx_get]; rfl⟩
   simp only [hx_set, List.set_cons_succ, List.set_cons_zero, laV] at ta
   cases hk : abOK D (x1, x2, x3) with
   | false =>
    rw [hk] at ta
    rw [if_pos (.inr rfl)]
    refine .inl ⟨rfl, ?_⟩
    refine ⟨rdB s3 :: rwB (abL D (x1, x2, x3)) (abF (x1, x2, x3) fl) :: (N ++ [.cells [.int .i64 x1, .int .i64 x2, .int .i64 x3]]), ?_⟩
    generalize rdB s = B0 at *
    generalize rdB s1 = B1 at *
    generalize rdB s2 = B2 at *
    generalize rdB s3 = B3 at *
    generalize rwB D fl = B4 at *
    generalize rwB (abL D (x1, x2, x3)) (abF (x1, x2, x3) fl) = B5 at *
    refine loop_step l_aborts_Read_0.eq_1 k_aborts_Read_0.eq_1 (by kernel_rfl) ?_
    simp only [go_sem, h1, t1, t2, t3, t4, ta, n1, n2, simprocAttr]
   | true =>
    rw [hk] at ta
    rw [if_neg (by simp)]
    have hL : abL D (x1, x2, x3) = D ++ [(x1, x2, x3)] := by unfold abL; rw [if_pos hk]
    have hF := @abF_ok D (x1, x2, x3) fl hfl
    rw [hL] at ta hF
    have ih' := ih (j + 1) s3 (D ++ [(x1, x2, x3)]) (abF (x1, x2, x3) fl) (N ++ [.cells [.int .i64 x1, .int .i64 x2, .int .i64 x3]]) (by omega) hs3 hF (hD.snoc hk)
    have run : ∀ R, loopA W loopW (.ghost (.kill k_aborts_Read_0) l_aborts_Read_0) [(5, .bool ok), (6, .ptr (pt H 0) 0), (7, .ptr (pt H 1) 0), (20, .int .i64 (n : Nat)), (21, .int .i64 (j + 1 : Nat))] (hx H (rdB s3 :: rwB (D ++ [(x1, x2, x3)]) (abF (x1, x2, x3) fl) :: (N ++ [.cells [.int .i64 x1, .int .i64 x2, .int .i64 x3]]))) = some R →
      loopA W loopW (.ghost (.kill k_aborts_Read_0) l_aborts_Read_0) [(5, .bool ok), (6, .ptr (pt H 0) 0), (7, .ptr (pt H 1) 0), (20, .int .i64 (n : Nat)), (21, .int .i64 (j : Nat))] (hx H (rdB s :: rwB D fl :: N)) = some R := by
     intro R h2
     generalize rdB s = B0 at *
     generalize rdB s1 = B1 at *
     generalize rdB s2 = B2 at *
     generalize rdB s3 = B3 at *
     generalize rwB D fl = B4 at *
     generalize rwB (D ++ [(x1, x2, x3)]) (abF (x1, x2, x3) fl) = B5 at *
     refine loop_step l_aborts_Read_0.eq_1 k_aborts_Read_0.eq_1 (by kernel_rfl) ?_
     simp only [go_sem, h1, t1, t2, t3, t4, ta, n1, n2, e6, simprocAttr]
     exact h2
    rcases ih' with ⟨g1, N', g2⟩ | ⟨s', D', fl', N', g1, g2, g3, g4, g5⟩
    ·exact .inl ⟨g1, N', run _ g2⟩
    ·exact .inr ⟨s', D', fl', N', g1, g2, g3, g4, run _ g5⟩
def readQ (p : List Int) : Option (List La) :=
 match rdGo (countQ (p.length : Nat) ((if chkOK p then p.drop 4 else []), false)).1.toNat (countQ (p.length : Nat) ((if chkOK p then p.drop 4 else []), false)).2 [] with
 | none => none
 | some (s, D) => if chkOK p = true ∧ s.2 = false ∧ s.1.length = 0 then some D else none
theorem countQ_range (m : Nat) (s : RSt) : 0 ≤ (countQ (m : Nat) s).1 ∧ (countQ (m : Nat) s).1 ≤ m := by
 unfold countQ
 split
 ·simp only; omega
 ·omega
theorem countQ_bts {m : Int} {s : RSt} (h : Bts s.1) : Bts (countQ m s).2.1 := by
 unfold countQ
 split
 ·exact numQ_bts h
 ·exact numQ_bts h
theorem abread_spec (p : List Int) (hp : ∀ x ∈ p, 0 ≤ x ∧ x < 256) (hl : p.length < 140737488355328) (H : Heap) :
  (readQ p = none ∧ ∃ N, W n_aborts_Read [bytes p .ro] H = some (.tuple [.nilp, .int .i64 12], hx H N)) ∨
  (∃ D fl B N, readQ p = some D ∧ RF D fl ∧ InvD D ∧ W n_aborts_Read [bytes p .ro] H = some (.tuple [.ptr (pt H 1) 0, .int .i64 0], hx H (B :: rwB D fl :: N))) := by
 have tc := fun H => check_spec p hp (by omega) H
 have hlp : (List.map (AVal.int IntKind.u8) p).length = p.length := by simp
 obtain ⟨x, hx'⟩ : ∃ x, (if chkOK p then p.drop 4 else []) = x := ⟨_, rfl⟩
 have hxb : Bts x := by
  rw [← hx']
  split
  ·exact ⟨fun c hc => hp c (List.mem_of_mem_drop hc), by simp only [List.length_drop]; omega⟩
  ·exact ⟨by simp, by simp⟩
 have tc' : ∀ H, ∃ f, W n_crc_Check [bytes p .ro] H = some (.tuple [.list 1 (ints .u8 x) f, .bool (chkOK p)], H) ∧ (f = .own ∨ f = .full) := by
  intro H
  rw [tc H, ← hx']
  split
  ·exact ⟨.own, rfl, .inl rfl⟩
  ·exact ⟨.full, rfl, .inr rfl⟩
 obtain ⟨f, t1, hf⟩ := tc' (Go.Abs.hx H [])
 have t2 := fun H => read_spec7 x H
 have t3 := fun H => abnew_spec H
 have t4 := fun M => count_spec7 (p.length : Nat) (x, false) hxb (pt H 0) (Go.Abs.hx H (rdB (x, false) :: M)) ⟨by rw [hx_get]; rfl⟩
 simp only [hx_set, List.set_cons_zero] at t4
 have hr := countQ_range p.length (x, false)
 have hcb := countQ_bts (m := (p.length : Nat)) (s := (x, false)) hxb
 unfold readQ
 rw [hx']
 generalize countQ (p.length : Nat) (x, false) = cq at *
 obtain ⟨cn, s1⟩ := cq
 simp only at *
 obtain ⟨n, rfl⟩ : ∃ n : Nat, cn = (n : Int) := ⟨cn.toNat, by omega⟩
 rw [Int.toNat_natCast]
 have rl := rd_loop (chkOK p) n (by omega) H n 0 s1 [] .full [] (by omega) hcb (.inr ⟨rfl, rfl⟩) InvD.nil
 simp only [Int.natCast_zero] at rl
 generalize chkOK p = ok at *
 rcases rl with ⟨g1, N', g2⟩ | ⟨s', D', fl', N', g1, g2, g3, g4, g5⟩
 ·rw [g1]
  refine .inl ⟨rfl, N', ?_⟩
  simp only [rwB, rdB, List.map_nil] at g2 t2 t4
  refine W_fnS rfl rfl ?_
  rcases hf with rfl | rfl
  ·simp only [go_sem, c_aborts_Read, t1, t2, t3, List.length_map, t4, g2, simprocAttr]
   first | done | rfl
  ·simp only [go_sem, c_aborts_Read, t1, t2, t3, List.length_map, t4, g2, simprocAttr]
   first | done | rfl
 ·rw [g1]
  simp only
  have td := fun M => done_spec7 s' (pt H 0) (Go.Abs.hx H (rdB s' :: M)) ⟨by rw [hx_get]; rfl⟩
  generalize hB : rdB s' = B at *
  simp only [rwB, rdB, List.map_nil] at g5 t2 t4
  by_cases c : ok = true ∧ s'.2 = false ∧ s'.1.length = 0
  ·rw [if_pos c]
   refine .inr ⟨D', fl', B, N', rfl, g2, g4, ?_⟩
   obtain ⟨c1, c2, c3⟩ := c
   subst c1
   rw [c2, decide_eq_true c3] at td
   refine W_fnS rfl rfl ?_
   rcases hf with rfl | rfl
   ·simp only [go_sem, c_aborts_Read, t1, t2, t3, List.length_map, t4, g5, td, simprocAttr]
    first | done | rfl
   ·simp only [go_sem, c_aborts_Read, t1, t2, t3, List.length_map, t4, g5, td, simprocAttr]
    first | done | rfl
  ·rw [if_neg c]
   refine .inl ⟨rfl, B :: rwB D' fl' :: N', ?_⟩
   simp only [rwB]
   have td' : ok = true → (!s'.2 && decide (s'.1.length = 0)) = false := by
    intro h
    cases h1 : s'.2 with
    | true => rfl
    | false => simp; intro h2; exact c ⟨h, h1, by rw [h2]; rfl⟩
   refine W_fnS rfl rfl ?_
   cases ok with
   | false =>
    rcases hf with rfl | rfl
    ·simp only [go_sem, c_aborts_Read, t1, t2, t3, List.length_map, t4, g5, simprocAttr]
     first | done | rfl
    ·simp only [go_sem, c_aborts_Read, t1, t2, t3, List.length_map, t4, g5, simprocAttr]
     first | done | rfl
   | true =>
    rw [td' rfl] at td
    rcases hf with rfl | rfl
    ·simp only [go_sem, c_aborts_Read, t1, t2, t3, List.length_map, t4, g5, td, simprocAttr]
     first | done | rfl
    ·simp only [go_sem, c_aborts_Read, t1, t2, t3, List.length_map, t4, g5, td, simprocAttr]
     first | done | rfl
theorem told_pN {n : Int} (h : I64 n) (r : List Int) : told (Vt.dec (pN n ++ r) 0 0) = (n, ((pN n).length : Int)) := by
 have hz := Num.zig_range n h
 rw [Vt.dec_enc (Num.zig n) hz.1 hz.2 r]
 unfold told
 simp only [Num.zag_zig]
theorem numQ_pN {n : Int} (h : I64 n) (r : List Int) : numQ (pN n ++ r, false) = (n, (r, false)) := by
 have hne : (pN n).length ≠ 0 := by have := Vt.enc_ne 9 (Num.zig n); intro h; exact this (List.eq_nil_of_length_eq_zero h)
 unfold numQ
 rw [told_pN h r]
 simp only
 rw [if_neg (by rintro (h | h); cases h; omega)]
 simp
theorem rdGo_enc : ∀ (D D0 : List La), DI D → (∀ (q : List La) (d : La) (r : List La), D = q ++ d :: r → abOK (D0 ++ q) d = true) → rdGo D.length (encR D, false) D0 = some (([], false), D0 ++ D)
 | [], D0, _, _ => by rw [List.append_nil]; rfl
 | d :: D, D0, hD, h => by
  have hd := hD d List.mem_cons_self
  have h0 := h [] d D rfl
  rw [List.append_nil] at h0
  have e : encR (d :: D) = pN d.1 ++ (pN d.2.1 ++ (pN d.2.2 ++ encR D)) := by simp [encR]
  rw [e, List.length_cons]
  unfold rdGo
  simp only [numQ_pN hd.1, numQ_pN hd.2.1, numQ_pN hd.2.2]
  rw [if_neg (by rintro (h | h); cases h; rw [h0] at h; cases h)]
  rw [rdGo_enc D (D0 ++ [d]) (fun x hx => hD x (List.mem_cons_of_mem _ hx)) (fun q x r hq => by rw [List.append_assoc]; exact h (d :: q) x r (by rw [hq]; rfl))]
  rw [List.append_assoc]; rfl
def AbSeq (D : List La) : Prop := ∀ (q : List La) (d : La) (r : List La), D = q ++ d :: r → abOK q d = true
theorem toN_byte7 {l : List Int} (h : ∀ x ∈ l, 0 ≤ x ∧ x < 256) : ∀ x ∈ toN l, x < 256 := by
 intro x hx
 unfold toN at hx
 rw [List.mem_map] at hx
 obtain ⟨y, hy, rfl⟩ := hx
 have := h y hy
 omega
theorem chk_seal {l : List Int} (h : ∀ x ∈ l, 0 ≤ x ∧ x < 256) : chkOK (sealE l) = true ∧ (sealE l).drop 4 = l := by
 have d : (sealE l).drop 4 = l := rfl
 refine ⟨?_, d⟩
 have hlt := crcN_lt (toN l) (toN_byte7 h)
 unfold chkOK
 rw [d, decide_eq_true (by simp [sealE, le4]), Bool.true_and]
 refine decide_eq_true ?_
 have e0 : (sealE l).getD 0 0 = ((crcN (toN l) : Nat) : Int) % 256 := rfl
 have e1 : (sealE l).getD 1 0 = ((crcN (toN l) : Nat) : Int) / 256 % 256 := rfl
 have e2 : (sealE l).getD 2 0 = ((crcN (toN l) : Nat) : Int) / 65536 % 256 := rfl
 have e3 : (sealE l).getD 3 0 = ((crcN (toN l) : Nat) : Int) / 16777216 % 256 := rfl
 unfold sum4
 rw [e0, e1, e2, e3]
 generalize crcN (toN l) = n at *
 omega
theorem encD_bytes {D : List La} (h : DI D) (hn : D.length ≤ 1000000) : ∀ x ∈ encD D, 0 ≤ x ∧ x < 256 := by
 intro x hx
 unfold encD at hx
 rcases List.mem_append.1 hx with hx | hx
 ·exact pN_bytes (show I64 ((D.length : Nat) : Int) by unfold I64; omega) x hx
 ·exact encR_bytes h x hx
theorem encR_ge : ∀ D : List La, D.length ≤ (encR D).length
 | [] => by simp [encR]
 | d :: D => by
  have h := encR_ge D
  have hne : (pN d.1).length ≠ 0 := by have := Vt.enc_ne 9 (Num.zig d.1); intro h; exact this (List.eq_nil_of_length_eq_zero h)
  unfold encR at *
  simp only [List.flatMap_cons, List.length_append, List.length_cons]
  omega
theorem read_back (D : List La) (hD : DI D) (hs : AbSeq D) (hn : D.length ≤ 1000000) : readQ (sealE (encD D)) = some D := by
 obtain ⟨c1, c2⟩ := chk_seal (encD_bytes hD hn)
 have hI : I64 ((D.length : Nat) : Int) := by unfold I64; omega
 have hge := encR_ge D
 have hlen : D.length ≤ (sealE (encD D)).length := by
  show _ ≤ (le4 _ ++ encD D).length
  unfold encD
  rw [List.length_append, List.length_append]; omega
 have hc : countQ ((sealE (encD D)).length : Nat) (encD D, false) = (((D.length : Nat) : Int), (encR D, false)) := by
  unfold countQ
  have : numQ (encD D, false) = (((D.length : Nat) : Int), (encR D, false)) := numQ_pN hI (encR D)
  rw [this]
  rw [if_neg (by simp only; omega)]
 unfold readQ
 rw [c1, if_pos rfl, c2, hc]
 simp only [Int.toNat_natCast]
 rw [rdGo_enc D [] hD hs]
 simp
end Go.Abs
