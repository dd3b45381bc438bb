import Derived.Test.YtljlbcipngmdmaaBS3
set_option linter.unusedVariables false
set_option linter.unusedSimpArgs false
namespace Go.Abs
open Go Go.RowKit
def tabB (l : List Pr) (fl : Fl) : Box := .cells [.list 4 (l.map Pr.V) fl]
def belowN (id : Int) : List Pr → Nat
 | [] => 0
 | p :: l => if p.id < id then belowN id l + 1 else 0
def atP (id : Int) (l : List Pr) : Option Pr := match l[belowN id l]? with
 | some p => if p.id = id then some p else none
 | none => none
theorem belowN_le (id : Int) : ∀ l, belowN id l ≤ l.length
 | [] => Nat.le_refl _
 | p :: l => by unfold belowN; split; exact Nat.succ_le_succ (belowN_le id l); exact Nat.zero_le _
theorem at_loop (id : Int) (L : List Pr) (hn : L.length ≤ 1000000) (fl : Fl) (hfl : fl = .own ∨ (fl = .full ∧ L = [])) (i : Nat) (H : Heap) (hi : Old H i (tabB L fl)) (r : List Pr) : ∀ (p : List Pr), L = p ++ r →
  loopA W loopW (.ghost (.kill k_ref10_Table_at_0) l_ref10_Table_at_0) [(0, .ptr i 0), (1, .int .i64 id), (6, .int .i64 (p.length : Nat))] H =
   some (.exit 0, [(0, .ptr i 0), (1, .int .i64 id), (6, .int .i64 ((p.length + belowN id r : Nat) : Int))], H) := by
 have gj := hi.g
 unfold tabB at gj
 induction r with
 | nil =>
  intro p hp
  rw [List.append_nil] at hp
  subst hp
  have h1 : ¬ ((L.length : Int) < (L.length : Int)) := by omega
  have e5 : L.length + belowN id [] = L.length := rfl
  rw [e5]
  refine loop_step l_ref10_Table_at_0.eq_1 k_ref10_Table_at_0.eq_1 (by kernel_rfl) ?_
  rcases hfl with rfl | ⟨rfl, rfl⟩
  ·simp only [go_sem, gj, List.length_map, h1, simprocAttr]
  ·simp only [go_sem, gj, List.length_map, List.map_nil, List.length_nil, Int.natCast_zero, Int.lt_irrefl, simprocAttr]
 | cons x r ih =>
  intro p hp
  have hfl' : fl = .own := by
   rcases hfl with h | ⟨_, h⟩
   ·exact h
   ·rw [hp] at h; simp at h
  subst hfl'
  have hlen : p.length < L.length := by rw [hp]; simp
  have h1 : ((p.length : Int) < (L.length : Int)) := by omega
  have e0 : (0 : Int) ≤ (p.length : Int) := by omega
  have e7 : ((p.length : Nat) : Int).toNat = p.length := by omega
  have e1 : (L.map Pr.V)[p.length]? = some (.agg [.int .i64 x.id, .int .i64 x.epoch, .list 3 (x.last.map laV) .ro, .int .i64 x.open_]) := by rw [hp]; simp [Pr.V, Pr.cs]
  have e6 : IntKind.i64.wrap ((p.length : Int) + 1) = ((p.length + 1 : Nat) : Int) := by rw [wrap_id (by unfold I64; omega)]; omega
  have h2 := ih (p ++ [x]) (by rw [hp]; simp)
  simp only [List.length_append, List.length_cons, List.length_nil, Nat.zero_add] at h2
  by_cases c : x.id < id
  ·have e5 : belowN id (x :: r) = belowN id r + 1 := by rw [belowN, if_pos c]
   rw [show p.length + belowN id (x :: r) = p.length + 1 + belowN id r by rw [e5]; omega]
   refine loop_step l_ref10_Table_at_0.eq_1 k_ref10_Table_at_0.eq_1 (by kernel_rfl) ?_
   simp only [go_sem, gj, List.length_map, h1, e0, e7, e1, c, e6, simprocAttr]
   exact h2
  ·have e5 : belowN id (x :: r) = 0 := by rw [belowN, if_neg c]
   rw [e5, Nat.add_zero]
   refine loop_step l_ref10_Table_at_0.eq_1 k_ref10_Table_at_0.eq_1 (by kernel_rfl) ?_
   simp only [go_sem, gj, List.length_map, h1, e0, e7, e1, c, simprocAttr]
theorem at_spec (id : Int) (L : List Pr) (hn : L.length ≤ 1000000) (fl : Fl) (hfl : fl = .own ∨ (fl = .full ∧ L = [])) (i : Nat) (H : Heap) (hi : Old H i (tabB L fl)) :
  W n_ref10_Table_at [.ptr i 0, .int .i64 id] H = some (.tuple [.int .i64 (belowN id L : Nat), .bool (atP id L).isSome], H) := by
 have h := at_loop id L hn fl hfl i H hi L [] rfl
 have gj := hi.g
 unfold tabB at gj
 simp only [List.length_nil, Int.natCast_zero, Nat.zero_add] at h
 have hle := belowN_le id L
 unfold atP
 cases hx : L[belowN id L]? with
 | none =>
  have hge := List.getElem?_eq_none_iff.1 hx
  have h1 : ¬ ((belowN id L : Int) < (L.length : Int)) := by omega
  refine W_fn0 rfl rfl ?_
  rcases hfl with rfl | ⟨rfl, rfl⟩
  ·simp only [go_sem, trim_same, c_ref10_Table_at, h, gj, List.length_map, h1, simprocAttr]
   rfl
  ·have b0 : belowN id [] = 0 := rfl
   rw [b0] at h ⊢
   simp only [Int.natCast_zero, List.map_nil] at h gj ⊢
   simp only [go_sem, trim_same, c_ref10_Table_at, h, gj, List.length_nil, Int.natCast_zero, Int.lt_irrefl, simprocAttr]
   rfl
 | some x =>
  have hlt := (List.getElem?_eq_some_iff.1 hx).1
  have hfl' : fl = .own := by
   rcases hfl with h | ⟨_, h⟩
   ·exact h
   ·rw [h] at hlt; simp at hlt
  subst hfl'
  have h1 : ((belowN id L : Int) < (L.length : Int)) := by omega
  have e0 : (0 : Int) ≤ (belowN id L : Int) := by omega
  have e7 : ((belowN id L : Nat) : Int).toNat = belowN id L := by omega
  have e1 : (L.map Pr.V)[belowN id L]? = some (.agg [.int .i64 x.id, .int .i64 x.epoch, .list 3 (x.last.map laV) .ro, .int .i64 x.open_]) := by simp [hx, Pr.V, Pr.cs]
  by_cases c : x.id = id
  ·simp only [c, if_true]
   refine W_fn0 rfl rfl ?_
   simp only [go_sem, trim_same, c_ref10_Table_at, h, gj, List.length_map, h1, e0, e7, e1, eq_true c, simprocAttr]
   first | done | rfl
  ·simp only [c, if_false]
   refine W_fn0 rfl rfl ?_
   simp only [go_sem, trim_same, c_ref10_Table_at, h, gj, List.length_map, h1, e0, e7, e1, c, simprocAttr]
   first | done | rfl
def zeroPr : Pr := ⟨0, 0, [], 0⟩
theorem under_pr (n : Nat) (p : Pr) : AVal.underL n p.cs = true := by
 simp [Pr.cs, AVal.underL, AVal.under, under_la]
theorem get_spec (id : Int) (L : List Pr) (hn : L.length ≤ 1000000) (fl : Fl) (hfl : fl = .own ∨ (fl = .full ∧ L = [])) (i : Nat) (H : Heap) (hi : Old H i (tabB L fl)) :
  W n_ref10_Table_Get [.ptr i 0, .int .i64 id] H = some (.tuple [((atP id L).getD zeroPr).V, .bool (atP id L).isSome], H) := by
 have t := fun M => at_spec id L hn fl hfl i (hx H M) ⟨hi.get M⟩
 have gj := hi.get
 unfold tabB at gj
 have hle := belowN_le id L
 cases ha : atP id L with
 | none =>
  rw [ha] at t
  simp only [Option.isSome_none] at t
  refine W_fn rfl rfl ?_
  simp only [go_sem, c_ref10_Table_Get, t, simprocAttr]
  first | done | rfl
 | some x =>
  rw [ha] at t
  simp only [Option.isSome_some] at t
  have hx : L[belowN id L]? = some x := by
   unfold atP at ha
   split at ha
   ·rename_i p hp
    split at ha
    ·cases ha; exact hp
    ·cases ha
   ·cases ha
  have hlt := (List.getElem?_eq_some_iff.1 hx).1
  have hfl' : fl = .own := by
   rcases hfl with h | ⟨_, h⟩
   ·exact h
   ·rw [h] at hlt; simp at hlt
  subst hfl'
  have e0 : (0 : Int) ≤ (belowN id L : Int) := by omega
  have e7 : ((belowN id L : Nat) : Int).toNat = belowN id L := by omega
  have e1 : (L.map Pr.V)[belowN id L]? = some (.agg [.int .i64 x.id, .int .i64 x.epoch, .list 3 (x.last.map laV) .ro, .int .i64 x.open_]) := by simp [hx, Pr.V, Pr.cs]
  refine W_fn rfl rfl ?_
  simp only [go_sem, c_ref10_Table_Get, t, gj, e0, e7, e1, under_la, simprocAttr]
  rfl
def tabCheck (L : List Pr) (b : Ba) : Int × Int :=
 if rightE b ≠ 0 then (-1, rightE b) else if b.prod < 0 then (-1, 0) else checkP ((atP b.prod L).getD zeroPr) (atP b.prod L).isSome b
structure TOK (L : List Pr) : Prop where
 len : L.length ≤ 100000
 last : ∀ p ∈ L, p.last.length ≤ 1000000
theorem atP_mem {id : Int} {L : List Pr} {p : Pr} (h : atP id L = some p) : p ∈ L ∧ L[belowN id L]? = some p := by
 unfold atP at h
 split at h
 ·rename_i q hq
  split at h
  ·cases h; exact ⟨List.mem_of_getElem? hq, hq⟩
  ·cases h
 ·cases h
theorem getD_last {L : List Pr} (h : TOK L) (id : Int) : ((atP id L).getD zeroPr).last.length ≤ 1000000 := by
 cases ha : atP id L with
 | none => simp [zeroPr]
 | some p => exact h.last p (atP_mem ha).1
theorem tab_check_spec (L : List Pr) (hL : TOK L) (fl : Fl) (hfl : fl = .own ∨ (fl = .full ∧ L = [])) (i : Nat) (H : Heap) (hi : Old H i (tabB L fl)) (b : Ba) (hb : BOK b) :
  W n_ref10_Table_Check [.ptr i 0, b.V] H = some (.tuple [.int .i64 (tabCheck L b).1, .int .i64 (tabCheck L b).2], H) := by
 have tr := fun H => ref_right_spec b hb H
 have tg := fun M => get_spec b.prod L (by have := hL.len; omega) fl hfl i (hx H M) ⟨hi.get M⟩
 have hq := getD_last hL b.prod
 unfold tabCheck
 generalize (atP b.prod L).isSome = known at *
 have tc := fun H => ref_check_spec ((atP b.prod L).getD zeroPr) known b hq H
 by_cases c1 : rightE b = 0
 ·rw [if_neg (by omega)]
  rw [c1] at tr
  by_cases c2 : b.prod < 0
  ·rw [if_pos c2]
   unfold Ba.V Ba.cs at *
   refine W_fn rfl rfl ?_
   simp only [go_sem, c_ref10_Table_Check, tr, c2, simprocAttr]
  ·rw [if_neg c2]
   generalize (atP b.prod L).getD zeroPr = q at *
   unfold Pr.V Pr.cs at *
   unfold Ba.V Ba.cs at *
   refine W_fn rfl rfl ?_
   simp only [go_sem, c_ref10_Table_Check, tr, c2, tg, tc, simprocAttr]
 ·rw [if_pos c1]
  unfold Ba.V Ba.cs at *
  refine W_fn rfl rfl ?_
  simp only [go_sem, c_ref10_Table_Check, tr, c1, simprocAttr]
def tabL (L : List Pr) (b : Ba) : List Pr :=
 if rightE b ≠ 0 ∨ b.prod < 0 then L
 else match atP b.prod L with
  | some p => L.set (belowN b.prod L) (applyP p true b)
  | none => L.take (belowN b.prod L) ++ [applyP zeroPr false b] ++ L.drop (belowN b.prod L)
def tabD (L : List Pr) (b : Ba) : Option La :=
 if rightE b ≠ 0 ∨ b.prod < 0 then none
 else match atP b.prod L with
  | some p => if b.mark = 2 ∧ p.open_ ≥ 0 then some (b.prod, p.open_, b.base) else none
  | none => none
def optLa : Option La → La
 | some x => x
 | none => (0, 0, 0)
def newFl (L : List Pr) (b : Ba) (fl : Fl) : Fl := if rightE b ≠ 0 ∨ b.prod < 0 then fl else .own
theorem thaw_r (i : Nat) (Xs : List AVal) (e : Env) (H : Heap) (h1 : Env.get e 0 = .ptr i 0) (h2 : H[i]? = some (.cells [.list 4 Xs .uniq])) :
  agh (.thawC 0 0) e H = some (e, H.set i (.cells [.lbox H.length]) ++ [.arr 4 Xs]) := by
 simp only [agh, h1, h2, Nat.add_zero, List.getElem?_cons_zero]; rfl
theorem back_r (i b : Nat) (Xs : List AVal) (e : Env) (H : Heap) (h1 : Env.get e 0 = .ptr i 0) (h2 : H[i]? = some (.cells [.lbox b])) (h3 : H[b]? = some (.arr 4 Xs)) :
  agh (.backC 0 0) e H = some (e, (H.set i (.cells [.list 4 Xs .uniq])).set b .dead) := by
 simp only [agh, h1, h2, h3, Nat.add_zero, List.getElem?_cons_zero]; rfl
theorem freeze_r (i : Nat) (Xs : List AVal) (e : Env) (H : Heap) (h1 : Env.get e 0 = .ptr i 0) (h2 : H[i]? = some (.cells [.list 4 Xs .uniq])) :
  agh (.freezeC 0 0) e H = some (e, H.set i (.cells [.list 4 Xs .own])) := by
 simp only [agh, h1, h2, Nat.add_zero, List.getElem?_cons_zero]; rfl
theorem back_o (i : Nat) (Xs : List AVal) (e : Env) (H : Heap) (h1 : Env.get e 0 = .ptr i 0) (h2 : H[i]? = some (.cells [.list 4 Xs .own])) :
  agh (.backC 0 0) e H = some (e, H) := by
 simp only [agh, h1, h2, Nat.add_zero, List.getElem?_cons_zero]
theorem freeze_o (i : Nat) (Xs : List AVal) (e : Env) (H : Heap) (h1 : Env.get e 0 = .ptr i 0) (h2 : H[i]? = some (.cells [.list 4 Xs .own])) :
  agh (.freezeC 0 0) e H = some (e, H) := by
 simp only [agh, h1, h2, Nat.add_zero, List.getElem?_cons_zero]
theorem ix_r (k b : Nat) (L : List Pr) (hk : k < L.length) (H : Heap) (h : H[b]? = some (.arr 4 (L.map Pr.V))) : ev W (.ixAddr 4) [.lbox b, .int .i64 (k : Nat)] H = some (.eptr b k 0, H) := by
 simp only [ev, h, List.length_map]
 rw [if_pos (by refine ⟨?_, ?_, ?_⟩ <;> first | trivial | omega)]
 simp
theorem st_r (k b : Nat) (L : List Pr) (hk : k < L.length) (x : Pr) (H : Heap) (h : H[b]? = some (.arr 4 (L.map Pr.V))) :
  evStore 4 (.eptr b k 0) (.agg [.int .i64 x.id, .int .i64 x.epoch, .list 3 (x.last.map laV) .ro, .int .i64 x.open_]) H = some (.tuple [], H.set b (.arr 4 ((L.set k x).map Pr.V))) := by
 have hx : (L.map Pr.V)[k]? = some (L[k].V) := by simp [hk]
 unfold evStore
 rw [if_pos (by simp [AVal.flat, AVal.share0, AVal.one])]
 simp only [h, hx]
 rw [if_pos (by simp [Pr.V, Pr.cs, AVal.cells, AVal.flat, AVal.argOK, AVal.isU])]
 have e : (L[k].V).withCells (overwrite (L[k].V).cells 0 ((AVal.agg [.int .i64 x.id, .int .i64 x.epoch, .list 3 (x.last.map laV) .ro, .int .i64 x.open_]).flat.map AVal.strip)) = x.V := by
  simp [Pr.V, Pr.cs, AVal.withCells, AVal.cells, AVal.flat, AVal.share0, AVal.strip, overwrite]
 rw [e, List.map_set]
theorem under_prs (n : Nat) : ∀ (r : List Pr), AVal.underL n (r.map Pr.V) = true
 | [] => rfl
 | x :: r => by simp [Pr.V, AVal.underL, AVal.under, under_pr, under_prs n r]
theorem tabB_flat (L fl) : (tabB L fl).flatB = true := by
 simp only [tabB, Box.flatB, AVal.underL, AVal.under, under_prs, Bool.and_self]
theorem flat_prs (L : List Pr) (fl) : Box.flatB (.cells [.list 4 (L.map Pr.V) fl]) = true := tabB_flat L fl
set_option maxHeartbeats 1000000 in
theorem tab_apply_none (L : List Pr) (fl : Fl) (i : Nat) (H : Heap) (b : Ba) (hb : BOK b) (hc : rightE b ≠ 0 ∨ b.prod < 0) :
  W n_ref10_Table_Apply [.ptr i 0, b.V] H = some (.tuple [laV (0, 0, 0), .bool false], H) := by
 have tr := fun H => ref_right_spec b hb H
 by_cases c1 : rightE b = 0
 ·have c2 : b.prod < 0 := by rcases hc with h | h; exact absurd c1 h; exact h
  rw [c1] at tr
  unfold Ba.V Ba.cs at *
  refine W_fn rfl rfl ?_
  simp only [go_sem, c_ref10_Table_Apply, tr, c2, simprocAttr]
  rfl
 ·unfold Ba.V Ba.cs at *
  refine W_fn rfl rfl ?_
  simp only [go_sem, c_ref10_Table_Apply, tr, c1, simprocAttr]
  rfl
set_option maxHeartbeats 1000000 in
theorem tab_apply_known (L : List Pr) (hL : TOK L) (p : Pr) (b : Ba) (hb : BOK b) (c1 : rightE b = 0) (c2 : ¬ b.prod < 0) (ha : atP b.prod L = some p) (i : Nat) (H : Heap) (hi : Old H i (tabB L .own)) :
  W n_ref10_Table_Apply [.ptr i 0, b.V] H = some (.tuple [laV (optLa (tabD L b)), .bool (tabD L b).isSome], H.set i (tabB (L.set (belowN b.prod L) (applyP p true b)) .own)) := by
 have tr := fun H => ref_right_spec b hb H
 have ta := fun M => at_spec b.prod L (by have := hL.len; omega) .own (.inl rfl) i (hx H M) ⟨hi.get M⟩
 have tg := fun M => get_spec b.prod L (by have := hL.len; omega) .own (.inl rfl) i (hx H M) ⟨hi.get M⟩
 have tp := fun H => ref_apply_spec p true b (hL.last p (atP_mem ha).1) H
 have hk := (List.getElem?_eq_some_iff.1 (atP_mem ha).2).1
 rw [c1] at tr
 rw [ha] at ta tg
 simp only [Option.isSome_some, Option.getD_some] at ta tg
 have hd : tabD L b = if b.mark = 2 ∧ p.open_ ≥ 0 then some (b.prod, p.open_, b.base) else none := by
  unfold tabD; rw [if_neg (by omega), ha]
 rw [hd]
 generalize belowN b.prod L = k at *
 generalize applyP p true b = x at *
 have gj := hi.get
 have gs := hi.set
 have gj' := hi.get'
 have gs' := hi.set'
 have bL : (0 + L.length) * 48 ≤ maxBytes := by have := hL.len; simp only [maxBytes]; omega
 have bL' : L.length * 48 ≤ maxBytes := by have := hL.len; simp only [maxBytes]; omega
 have tw := thaw_r i (L.map Pr.V)
 have ix := ix_r k (pt H 4) L hk
 have st := st_r k (pt H 4) L hk x
 have bk := back_r i (pt H 4) ((L.set k x).map Pr.V)
 have fz := freeze_r i ((L.set k x).map Pr.V)
 unfold tabB at *
 unfold Pr.V Pr.cs at tg tp
 unfold Ba.V Ba.cs at *
 have apU : ∀ (Xs : List AVal), evAppend 4 48 true (.list 4 [] .full) Xs = gd (decide ((0 + Xs.length) * 48 ≤ maxBytes)) (some (.list 4 Xs .uniq)) := fun Xs => by
  unfold gd; by_cases h : (0 + Xs.length) * 48 ≤ maxBytes <;> simp [evAppend] at h ⊢ <;> simp [h]
 refine W_fnS rfl rfl ?_
 by_cases c3 : b.mark = 2
 ·by_cases c4 : p.open_ ≥ 0
  ·rw [if_pos ⟨c3, c4⟩]
   simp only [go_sem, c_ref10_Table_Apply, tr, c2, ta, tg, tp, gj, gs, gj', gs', bL, bL', apU, List.length_map, tw, ix, st, bk, fz, hx_len, hx_app, List.length_cons, List.length_nil, List.cons_append, List.nil_append, List.set_cons_succ, List.set_cons_zero, flat_prs, eq_true c3, c4, simprocAttr]
   rfl
  ·rw [if_neg (fun h => c4 h.2)]
   simp only [go_sem, c_ref10_Table_Apply, tr, c2, ta, tg, tp, gj, gs, gj', gs', bL, bL', apU, List.length_map, tw, ix, st, bk, fz, hx_len, hx_app, List.length_cons, List.length_nil, List.cons_append, List.nil_append, List.set_cons_succ, List.set_cons_zero, flat_prs, eq_true c3, c4, simprocAttr]
   rfl
 ·rw [if_neg (fun h => c3 h.1)]
  simp only [go_sem, c_ref10_Table_Apply, tr, c2, ta, tg, tp, gj, gs, gj', gs', bL, bL', apU, List.length_map, tw, ix, st, bk, fz, hx_len, hx_app, List.length_cons, List.length_nil, List.cons_append, List.nil_append, List.set_cons_succ, List.set_cons_zero, flat_prs, c3, simprocAttr]
  rfl
set_option maxHeartbeats 1000000 in
theorem tab_apply_new (L : List Pr) (hL : TOK L) (fl : Fl) (hfl : fl = .own ∨ (fl = .full ∧ L = [])) (b : Ba) (hb : BOK b) (c1 : rightE b = 0) (c2 : ¬ b.prod < 0) (ha : atP b.prod L = none) (i : Nat) (H : Heap) (hi : Old H i (tabB L fl)) :
  W n_ref10_Table_Apply [.ptr i 0, b.V] H = some (.tuple [laV (0, 0, 0), .bool false], H.set i (tabB (L.take (belowN b.prod L) ++ [applyP zeroPr false b] ++ L.drop (belowN b.prod L)) .own)) := by
 have tr := fun H => ref_right_spec b hb H
 have ta := fun M => at_spec b.prod L (by have := hL.len; omega) fl hfl i (hx H M) ⟨hi.get M⟩
 have tg := fun M => get_spec b.prod L (by have := hL.len; omega) fl hfl i (hx H M) ⟨hi.get M⟩
 have tp := fun H => ref_apply_spec zeroPr false b (by simp [zeroPr]) H
 have hk := belowN_le b.prod L
 have hlen := hL.len
 rw [c1] at tr
 rw [ha] at ta tg
 simp only [Option.isSome_none, Option.getD_none] at ta tg
 generalize hkk : belowN b.prod L = k at *
 generalize applyP zeroPr false b = x at *
 have gj := hi.get
 have gs := hi.set
 have gj' := hi.get'
 have gs' := hi.set'
 have e0 : (0 : Int) ≤ (k : Int) := by omega
 have e1 : (k : Int) ≤ (L.length : Int) := by omega
 have e7 : ((k : Nat) : Int).toNat = k := by omega
 have m1 : (L.map Pr.V).take k = (L.take k).map Pr.V := by simp
 have m2 : (L.map Pr.V).drop k = (L.drop k).map Pr.V := by simp
 have b1 : (0 + (L.take k).length) * 48 ≤ maxBytes := by simp only [maxBytes, List.length_take]; omega
 have b2 : ((L.take k).length + 1) * 48 ≤ maxBytes := by simp only [maxBytes, List.length_take]; omega
 have b3 : ((L.take k ++ [x]).length + (L.drop k).length) * 48 ≤ maxBytes := by simp only [maxBytes, List.length_append, List.length_take, List.length_drop, List.length_cons, List.length_nil]; omega
 rcases hfl with rfl | ⟨rfl, rfl⟩
 ·skip
  have a1 : (L.take k).map Pr.V ++ [.agg [.int .i64 x.id, .int .i64 x.epoch, .list 3 (x.last.map laV) .ro, .int .i64 x.open_]] = (L.take k ++ [x]).map Pr.V := by simp [Pr.V, Pr.cs]
  have a2 : (L.take k ++ [x]).map Pr.V ++ (L.drop k).map Pr.V = (L.take k ++ [x] ++ L.drop k).map Pr.V := by simp
  generalize L.take k ++ [x] = Y at *
  generalize Y ++ L.drop k = Z at *
  have bk := back_o i (Z.map Pr.V)
  have fz := freeze_o i (Z.map Pr.V)
  unfold tabB at *
  unfold Pr.V Pr.cs at tg tp
  unfold Ba.V Ba.cs at *
  refine W_fnS rfl rfl ?_
  simp only [go_sem, c_ref10_Table_Apply, tr, c2, ta, tg, tp, gj, gs, gj', gs', slH, slL, m1, m2, e0, e1, e7, apF, apO, List.length_map, b1, b2, b3, a1, a2, bk, fz, List.length_cons, List.length_nil, List.nil_append, flat_prs, simprocAttr]
  rfl
 ·have hk0 : k = 0 := by simpa using hk
  subst hk0
  have bk := back_o i ([x].map Pr.V)
  have fz := freeze_o i ([x].map Pr.V)
  have s1 : evSlice 4 true false false (.list 4 [] .full) [.int .i64 0] = some (.list 4 [] .full) := rfl
  have s2 : evSlice 4 false true false (.list 4 [] .full) [.int .i64 0] = some (.list 4 [] .ro) := rfl
  have b5 : (0 + 0) * 48 ≤ maxBytes := by decide
  have b6 : (0 + 1) * 48 ≤ maxBytes := by decide
  have b7 : (1 + 0) * 48 ≤ maxBytes := by decide
  unfold tabB at *
  unfold Pr.V Pr.cs at tg tp
  unfold Ba.V Ba.cs at *
  simp only [List.map_nil, List.map_cons, Pr.V, Pr.cs, Int.natCast_zero] at gj gs gj' gs' ta tg bk fz
  refine W_fnS rfl rfl ?_
  simp only [go_sem, c_ref10_Table_Apply, tr, c2, ta, tg, tp, gj, gs, gj', gs', s1, s2, apF, apO, List.length_nil, List.length_cons, b5, b6, b7, bk, fz, List.nil_append, List.append_nil, AVal.underL, AVal.under, under_la, flatB_c, simprocAttr]
  rfl
theorem tab_apply_spec (L : List Pr) (hL : TOK L) (fl : Fl) (hfl : fl = .own ∨ (fl = .full ∧ L = [])) (b : Ba) (hb : BOK b) (i : Nat) (H : Heap) (hi : Old H i (tabB L fl)) :
  W n_ref10_Table_Apply [.ptr i 0, b.V] H = some (.tuple [laV (optLa (tabD L b)), .bool (tabD L b).isSome], H.set i (tabB (tabL L b) (newFl L b fl))) := by
 by_cases hc : rightE b ≠ 0 ∨ b.prod < 0
 ·have h := tab_apply_none L fl i H b hb hc
  rw [show tabD L b = none by unfold tabD; rw [if_pos hc], show tabL L b = L by unfold tabL; rw [if_pos hc], show newFl L b fl = fl by unfold newFl; rw [if_pos hc], hi.same]
  exact h
 ·have c1 : rightE b = 0 := by omega
  have c2 : ¬ b.prod < 0 := fun h => hc (.inr h)
  rw [show newFl L b fl = .own by unfold newFl; rw [if_neg hc]]
  cases ha : atP b.prod L with
  | some p =>
   have hfl' : fl = .own := by
    rcases hfl with h | ⟨_, h⟩
    ·exact h
    ·have := (atP_mem ha).1; rw [h] at this; cases this
   subst hfl'
   have h := tab_apply_known L hL p b hb c1 c2 ha i H hi
   rw [show tabL L b = L.set (belowN b.prod L) (applyP p true b) by unfold tabL; rw [if_neg hc, ha]]
   exact h
  | none =>
   have h := tab_apply_new L hL fl hfl b hb c1 c2 ha i H hi
   rw [show tabL L b = L.take (belowN b.prod L) ++ [applyP zeroPr false b] ++ L.drop (belowN b.prod L) by unfold tabL; rw [if_neg hc, ha], show tabD L b = none by unfold tabD; rw [if_neg hc, ha]]
   exact h
structure TK (L : List Pr) (n : Nat) : Prop where
 len : L.length ≤ n
 last : ∀ p ∈ L, p.last.length ≤ 5
theorem TK.ok {L n} (h : TK L n) (hn : n ≤ 100000) : TOK L := ⟨Nat.le_trans h.len hn, fun p hp => by have := h.last p hp; omega⟩
theorem apply_last (p : Pr) (known : Bool) (b : Ba) (h : p.last.length ≤ 5) : (applyP p known b).last.length ≤ 5 := by
 unfold applyP
 split
 ·simp only [lastsP]; split
  ·exact h
  ·simp
 ·simp only [List.length_drop]; omega
theorem TK.next {L n} (h : TK L n) (b : Ba) : TK (tabL L b) (n + 1) := by
 unfold tabL
 split
 ·exact ⟨Nat.le_trans h.len (Nat.le_succ n), h.last⟩
 ·split
  ·rename_i p hp
   refine ⟨by simpa using Nat.le_trans h.len (Nat.le_succ n), fun q hq => ?_⟩
   rcases List.mem_or_eq_of_mem_set hq with hq | rfl
   ·exact h.last q hq
   ·exact apply_last p true b (h.last p (atP_mem hp).1)
  ·refine ⟨?_, fun q hq => ?_⟩
   ·have h1 := h.len
    have h2 := belowN_le b.prod L
    simp only [List.length_append, List.length_take, List.length_drop, List.length_cons, List.length_nil]
    omega
   ·simp only [List.append_assoc, List.mem_append, List.mem_cons, List.not_mem_nil, or_false] at hq
    rcases hq with hq | rfl | hq
    ·exact h.last q (List.mem_of_mem_take hq)
    ·exact apply_last zeroPr false b (by simp [zeroPr])
    ·exact h.last q (List.mem_of_mem_drop hq)
def foldL : List Ba → List Pr → List Pr
 | [], L => L
 | b :: l, L => foldL l (tabL L b)
def foldD : List Ba → List Pr → List La
 | [], _ => []
 | b :: l, L => (match tabD L b with | some d => [d] | none => []) ++ foldD l (tabL L b)
def foldF : List Ba → List Pr → Fl → Fl
 | [], _, fl => fl
 | b :: l, L, fl => foldF l (tabL L b) (newFl L b fl)
def dFl (d : List La) : Fl := if d = [] then .full else .own
theorem newFl_ok {L b fl} (h : fl = .own ∨ (fl = .full ∧ L = [])) : newFl L b fl = .own ∨ (newFl L b fl = .full ∧ tabL L b = []) := by
 unfold newFl tabL
 split
 ·exact h
 ·exact .inl rfl
theorem fold_loop (A : List Ba) (hA : ∀ b ∈ A, BOK b) (hn : A.length ≤ 1000) (H : Heap) (r : List Ba) : ∀ (q : List Ba) (L : List Pr) (fl : Fl) (D : List La) (N : Heap), A = q ++ r → TK L q.length → (fl = .own ∨ (fl = .full ∧ L = [])) → D.length ≤ q.length →
  ∃ M, loopA W loopW (.ghost (.kill k_ref10_Fold_0) l_ref10_Fold_0) [(4, .ptr (pt H 0) 0), (5, .list 3 (D.map laV) (dFl D)), (12, .list 7 (A.map Ba.V) .ro), (13, .int .i64 (A.length : Nat)), (14, .int .i64 (q.length : Nat))] (hx H (tabB L fl :: N)) =
   some (.exit 0, [(4, .ptr (pt H 0) 0), (5, .list 3 ((D ++ foldD r L).map laV) (dFl (D ++ foldD r L)))], hx H (tabB (foldL r L) (foldF r L fl) :: M)) := by
 induction r with
 | nil =>
  intro q L fl D N hq hT hfl hD
  rw [List.append_nil] at hq
  subst hq
  refine ⟨N, ?_⟩
  have h1 : ¬ ((A.length : Int) < (A.length : Int)) := by omega
  rw [show foldD [] L = [] from rfl, List.append_nil, show foldL [] L = L from rfl, show foldF [] L fl = fl from rfl]
  refine loop_step l_ref10_Fold_0.eq_1 k_ref10_Fold_0.eq_1 (by kernel_rfl) ?_
  simp only [go_sem, h1, simprocAttr]
 | cons b r ih =>
  intro q L fl D N hq hT hfl hD
  have hlen : q.length < A.length := by rw [hq]; simp
  have h1 : ((q.length : Int) < (A.length : Int)) := by omega
  have e0 : (0 : Int) ≤ (q.length : Int) := by omega
  have e7 : ((q.length : Nat) : Int).toNat = q.length := by omega
  have e1 : (A.map Ba.V)[q.length]? = some (.agg [.int .i64 b.base, .int .i64 b.prod, .int .i64 b.epoch, .int .i64 b.seq, .bool b.txn, .int .i64 b.mark, .list 2 (b.recs.map rcV) .ro]) := by rw [hq]; simp [Ba.V, Ba.cs]
  have e6 : IntKind.i64.wrap ((q.length : Int) + 1) = ((q.length + 1 : Nat) : Int) := by rw [wrap_id (by unfold I64; omega)]; omega
  have hbo := hA b (by rw [hq]; simp)
  have ta := fun M => tab_apply_spec L (hT.ok (by omega)) fl hfl b hbo (pt H 0) (hx H (tabB L fl :: M)) ⟨by rw [hx_get]; rfl⟩
  simp only [hx_set, List.set_cons_zero] at ta
  have hb : ((D.map laV).length + 1) * 24 ≤ maxBytes := by simp only [List.length_map, maxBytes]; omega
  have hb' : (D.length + 1) * 24 ≤ maxBytes := by simp only [maxBytes]; omega
  have hb0 : (0 + 1) * 24 ≤ maxBytes := by decide
  have n1 : ∀ x x' y : Box, (N ++ [x, y])[(N ++ [x']).length]? = some y := fun x x' y => by simp
  have n2 : ∀ x x' y z : Box, (N ++ [x, y]).set (N ++ [x']).length z = N ++ [x, z] := fun x x' y z => by simp
  have g1 : foldL (b :: r) L = foldL r (tabL L b) := rfl
  have g2 : foldF (b :: r) L fl = foldF r (tabL L b) (newFl L b fl) := rfl
  rw [g1, g2]
  cases hd : tabD L b with
  | none =>
   rw [hd] at ta
   obtain ⟨M, h2⟩ := ih (q ++ [b]) (tabL L b) (newFl L b fl) D (N ++ [.cells b.cs, .cells [.int .i64 0, .int .i64 0, .int .i64 0]]) (by rw [hq]; simp) (by simpa using hT.next b) (newFl_ok hfl) (by simp; omega)
   refine ⟨M, ?_⟩
   have g3 : D ++ foldD (b :: r) L = D ++ foldD r (tabL L b) := by simp [foldD, hd]
   rw [g3]
   simp only [List.length_append, List.length_cons, List.length_nil, Nat.zero_add] at h2
   simp only [optLa, laV, Option.isSome_none] at ta
   unfold Ba.V Ba.cs at *
   refine loop_step l_ref10_Fold_0.eq_1 k_ref10_Fold_0.eq_1 (by kernel_rfl) ?_
   simp only [go_sem, h1, e0, e7, e1, ta, n1, n2, e6, simprocAttr]
   exact h2
  | some d =>
   rw [hd] at ta
   obtain ⟨M, h2⟩ := ih (q ++ [b]) (tabL L b) (newFl L b fl) (D ++ [d]) (N ++ [.cells b.cs, .cells [.int .i64 d.1, .int .i64 d.2.1, .int .i64 d.2.2]]) (by rw [hq]; simp) (by simpa using hT.next b) (newFl_ok hfl) (by simp; omega)
   refine ⟨M, ?_⟩
   have g3 : D ++ foldD (b :: r) L = D ++ [d] ++ foldD r (tabL L b) := by simp [foldD, hd]
   rw [g3]
   have g4 : dFl (D ++ [d]) = .own := by unfold dFl; rw [if_neg (by simp)]
   have g5 : D.map laV ++ [.agg [.int .i64 d.1, .int .i64 d.2.1, .int .i64 d.2.2]] = (D ++ [d]).map laV := by simp [laV]
   rw [g4] at h2
   simp only [List.length_append, List.length_cons, List.length_nil, Nat.zero_add] at h2
   simp only [optLa, laV, Option.isSome_some] at ta
   unfold Ba.V Ba.cs at *
   refine loop_step l_ref10_Fold_0.eq_1 k_ref10_Fold_0.eq_1 (by kernel_rfl) ?_
   by_cases hD0 : D = []
   ·subst hD0
    have g6 : dFl ([] : List La) = .full := rfl
    rw [g6]
    simp only [List.map_nil, List.nil_append] at g5 h2 ⊢
    simp only [go_sem, h1, e0, e7, e1, ta, n1, n2, apF, List.length_nil, hb0, List.nil_append, e6, simprocAttr]
    rw [g5]
    exact h2
   ·have g6 : dFl D = .own := by unfold dFl; rw [if_neg hD0]
    rw [g6]
    simp only [List.append_assoc, List.cons_append, List.nil_append] at h2 ⊢
    simp only [go_sem, h1, e0, e7, e1, ta, n1, n2, apO, hb, g5, e6, simprocAttr]
    exact h2
theorem fold_spec (A : List Ba) (hA : ∀ b ∈ A, BOK b) (hn : A.length ≤ 1000) (H : Heap) :
  ∃ M, W n_ref10_Fold [.list 7 (A.map Ba.V) .ro] H = some (.tuple [.ptr (pt H 0) 0, .list 3 ((foldD A []).map laV) (dFl (foldD A []))], hx H (tabB (foldL A []) (foldF A [] .full) :: M)) := by
 obtain ⟨M, h⟩ := fold_loop A hA hn H A [] [] .full [] [] rfl ⟨by simp, by simp⟩ (.inr ⟨rfl, rfl⟩) (by simp)
 have g0 : ((([] : List Ba).length : Nat) : Int) = 0 := rfl
 rw [g0, List.nil_append] at h
 refine ⟨M, W_fnS rfl rfl ?_⟩
 simp only [List.map_nil, show dFl ([] : List La) = .full from rfl] at h
 have h' : loopA W loopW (.ghost (.kill k_ref10_Fold_0) l_ref10_Fold_0) [(4, .ptr (pt H 0) 0), (5, .list 3 [] .full), (12, .list 7 (A.map Ba.V) .ro), (13, .int .i64 (A.length : Nat)), (14, .int .i64 0)] (hx H [.cells [.list 4 [] .full]]) = _ := h
 simp only [go_sem, c_ref10_Fold, List.length_map, h', simprocAttr]
def countE (b : Ba) : Int := if b.mark = 0 then (b.recs.length : Int) else 1
def endE (start : Int) (L : List Ba) : Int := match L.getLast? with
 | none => start
 | some b => b.base + countE b
structure Fit (b : Ba) : Prop where
 ok : BOK b
 right : rightE b = 0
theorem Fit.base {b : Ba} (h : Fit b) : 0 ≤ b.base ∧ b.base ≤ 1099511627776 := by
 have := h.right
 unfold rightE at this
 split at this
 ·cases this
 ·omega
theorem Fit.count {b : Ba} (h : Fit b) : 0 ≤ countE b ∧ countE b ≤ 16 := by
 have := (rightE_small h.right).1
 unfold countE
 split <;> omega
theorem end_spec (start : Int) (L : List Ba) (hL : ∀ b ∈ L, Fit b) (hn : L.length ≤ 1000) (fl : Fl) (hfl : fl = .ro ∨ (fl = .full ∧ L = [])) (H : Heap) :
  W n_ref14_End [.int .i64 start, .list 7 (L.map Ba.V) .ro] H = some (.int .i64 (endE start L), H) := by
 unfold endE
 rcases List.eq_nil_or_concat L with rfl | ⟨l, b, hl⟩
 ·refine W_fn rfl rfl ?_
  simp only [go_sem, c_ref14_End, List.map_nil, List.length_nil, Int.natCast_zero, List.getLast?_nil, simprocAttr]
 ·have hx : L.getLast? = some b := by rw [hl]; simp
  have hlen : L.length = l.length + 1 := by rw [hl]; simp
  have hb := hL b (by rw [hl]; simp)
  have b1 := hb.base
  have b2 := hb.count
  have h1 : ¬ (L.length : Int) = 0 := by omega
  have w1 : IntKind.i64.wrap ((L.length : Int) - 1) = (l.length : Int) := by rw [wrap_id (by unfold I64; omega)]; omega
  have e0 : (0 : Int) ≤ (l.length : Int) := by omega
  have e7 : ((l.length : Nat) : Int).toNat = l.length := by omega
  have e1 : (L.map Ba.V)[l.length]? = some (.agg [.int .i64 b.base, .int .i64 b.prod, .int .i64 b.epoch, .int .i64 b.seq, .bool b.txn, .int .i64 b.mark, .list 2 (b.recs.map rcV) .ro]) := by rw [hl]; simp [Ba.V, Ba.cs]
  have tc := fun H => ref_count_spec b H
  rw [show (if b.mark = 0 then (b.recs.length : Int) else 1) = countE b from rfl] at tc
  have w2 : IntKind.i64.wrap (b.base + countE b) = b.base + countE b := wrap_id (by unfold I64; omega)
  rw [hx]
  simp only
  unfold Ba.V Ba.cs at tc
  refine W_fn rfl rfl ?_
  simp only [go_sem, c_ref14_End, List.length_map, h1, w1, e0, e7, e1, tc, w2, simprocAttr]
def mdB (cap start : Int) (L : List Ba) (fl : Fl) : Box := .cells [.int .i64 cap, .int .i64 start, .list 7 (L.map Ba.V) fl]
theorem model_end_spec (cap start : Int) (L : List Ba) (hL : ∀ b ∈ L, Fit b) (hn : L.length ≤ 1000) (fl : Fl) (hfl : fl = .own ∨ (fl = .full ∧ L = [])) (i : Nat) (H : Heap) (hi : Old H i (mdB cap start L fl)) :
  W n_ref14_Model_End [.ptr i 0] H = some (.int .i64 (endE start L), H) := by
 have te := fun H => end_spec start L hL hn .ro (.inl rfl) H
 have gj := hi.g
 unfold mdB at gj
 refine W_fn0 rfl rfl ?_
 rcases hfl with rfl | ⟨rfl, rfl⟩
 ·simp only [go_sem, trim_same, c_ref14_Model_End, gj, te, simprocAttr]
 ·simp only [List.map_nil] at te gj
  simp only [go_sem, trim_same, c_ref14_Model_End, gj, te, simprocAttr]
theorem foldF_ok : ∀ (A : List Ba) (L : List Pr) (fl : Fl), (fl = .own ∨ (fl = .full ∧ L = [])) → foldF A L fl = .own ∨ (foldF A L fl = .full ∧ foldL A L = [])
 | [], _, _, h => h
 | b :: A, L, fl, h => foldF_ok A (tabL L b) (newFl L b fl) (newFl_ok h)
theorem producers_spec (cap start : Int) (L : List Ba) (hL : ∀ b ∈ L, Fit b) (hn : L.length ≤ 1000) (fl : Fl) (hfl : fl = .own ∨ (fl = .full ∧ L = [])) (i : Nat) (H : Heap) (hi : Old H i (mdB cap start L fl)) :
  ∃ fl', W n_ref14_Model_Producers [.ptr i 0] H = some (.list 4 ((foldL L []).map Pr.V) fl', H) ∧ (fl' = .ro ∨ fl' = .full) := by
 obtain ⟨M, tf⟩ := fold_spec L (fun b hb => (hL b hb).ok) hn H
 rw [← hx_nil H] at tf
 simp only [hx_nil (hx H []), show pt (hx H []) 0 = pt H 0 by rw [hx_nil], show ∀ L, hx (hx H []) L = hx H L from fun L => by rw [hx_nil]] at tf
 have gj := hi.get
 unfold mdB at gj
 unfold tabB at tf
 rcases foldF_ok L [] .full (.inr ⟨rfl, rfl⟩) with h | ⟨h, h0⟩
 ·rw [h] at tf
  refine ⟨.ro, ?_, .inl rfl⟩
  refine W_fn rfl rfl ?_
  rcases hfl with rfl | ⟨rfl, rfl⟩
  ·simp only [go_sem, c_ref14_Model_Producers, gj, tf, under_prs, simprocAttr]
  ·simp only [List.map_nil] at tf gj
   simp only [go_sem, c_ref14_Model_Producers, gj, tf, under_prs, simprocAttr]
 ·rw [h] at tf
  refine ⟨.full, ?_, .inr rfl⟩
  refine W_fn rfl rfl ?_
  rcases hfl with rfl | ⟨rfl, rfl⟩
  ·simp only [go_sem, c_ref14_Model_Producers, gj, tf, under_prs, simprocAttr]
  ·simp only [List.map_nil] at tf gj
   simp only [go_sem, c_ref14_Model_Producers, gj, tf, under_prs, simprocAttr]
def sizeL : List Ba → Int
 | [] => 0
 | b :: l => sizeE b + sizeL l
theorem sizeE_range {b : Ba} : 0 ≤ sizeE b ∧ sizeE b ≤ 2404 := by
 unfold sizeE
 split
 ·rename_i h
  have := baBytes_len (rightE_small h)
  omega
 ·omega
theorem sizeL_app : ∀ (p r : List Ba), sizeL (p ++ r) = sizeL p + sizeL r
 | [], r => by simp [sizeL]
 | b :: p, r => by simp only [List.cons_append, sizeL, sizeL_app p r]; omega
theorem sizeL_range : ∀ (l : List Ba), 0 ≤ sizeL l ∧ sizeL l ≤ 2404 * l.length
 | [] => by simp [sizeL]
 | b :: l => by
  have h1 := sizeE_range (b := b)
  have h2 := sizeL_range l
  simp only [sizeL, List.length_cons]
  omega
theorem size_loop (A : List Ba) (hA : ∀ b ∈ A, BOK b) (hn : A.length ≤ 1000) (H : Heap) (r : List Ba) : ∀ (q : List Ba) (N : Heap), A = q ++ r →
  ∃ M, loopA W loopW (.ghost (.kill k_ref14_Model_size_0) l_ref14_Model_size_0) [(3, .int .i64 (sizeL q)), (9, .list 7 (A.map Ba.V) .ro), (10, .int .i64 (A.length : Nat)), (11, .int .i64 (q.length : Nat))] (hx H N) =
   some (.exit 0, [(3, .int .i64 (sizeL A))], hx H M) := by
 induction r with
 | nil =>
  intro q N hq
  rw [List.append_nil] at hq
  subst hq
  refine ⟨N, ?_⟩
  have h1 : ¬ ((A.length : Int) < (A.length : Int)) := by omega
  refine loop_step l_ref14_Model_size_0.eq_1 k_ref14_Model_size_0.eq_1 (by kernel_rfl) ?_
  simp only [go_sem, h1, simprocAttr]
 | cons b r ih =>
  intro q N hq
  have hlen : q.length < A.length := by rw [hq]; simp
  have h1 : ((q.length : Int) < (A.length : Int)) := by omega
  have e0 : (0 : Int) ≤ (q.length : Int) := by omega
  have e7 : ((q.length : Nat) : Int).toNat = q.length := by omega
  have e1 : (A.map Ba.V)[q.length]? = some (.agg [.int .i64 b.base, .int .i64 b.prod, .int .i64 b.epoch, .int .i64 b.seq, .bool b.txn, .int .i64 b.mark, .list 2 (b.recs.map rcV) .ro]) := by rw [hq]; simp [Ba.V, Ba.cs]
  have e6 : IntKind.i64.wrap ((q.length : Int) + 1) = ((q.length + 1 : Nat) : Int) := by rw [wrap_id (by unfold I64; omega)]; omega
  have hbo := hA b (by rw [hq]; simp)
  have ts := fun H => ref_size_spec b hbo H
  have r1 := sizeE_range (b := b)
  have r2 := sizeL_range q
  have w1 : IntKind.i64.wrap (sizeL q + sizeE b) = sizeL (q ++ [b]) := by
   rw [sizeL_app, wrap_id (by unfold I64; omega)]; simp [sizeL]
  obtain ⟨M, h2⟩ := ih (q ++ [b]) (N ++ [.cells b.cs]) (by rw [hq]; simp)
  refine ⟨M, ?_⟩
  simp only [List.length_append, List.length_cons, List.length_nil, Nat.zero_add] at h2
  unfold Ba.V Ba.cs at *
  refine loop_step l_ref14_Model_size_0.eq_1 k_ref14_Model_size_0.eq_1 (by kernel_rfl) ?_
  simp only [go_sem, h1, e0, e7, e1, ts, w1, e6, simprocAttr]
  exact h2
theorem size_spec (cap start : Int) (L : List Ba) (hL : ∀ b ∈ L, Fit b) (hn : L.length ≤ 1000) (fl : Fl) (hfl : fl = .own ∨ (fl = .full ∧ L = [])) (i : Nat) (H : Heap) (hi : Old H i (mdB cap start L fl)) :
  W n_ref14_Model_size [.ptr i 0] H = some (.int .i64 (sizeL L), H) := by
 obtain ⟨M, h⟩ := size_loop L (fun b hb => (hL b hb).ok) hn H L [] [] rfl
 have g0 : ((([] : List Ba).length : Nat) : Int) = 0 := rfl
 have g1 : sizeL [] = 0 := rfl
 rw [g0, g1] at h
 have gj := hi.get
 unfold mdB at gj
 refine W_fn rfl rfl ?_
 rcases hfl with rfl | ⟨rfl, rfl⟩
 ·simp only [go_sem, c_ref14_Model_size, gj, List.length_map, h, simprocAttr]
 ·simp only [List.map_nil] at gj
  have h0 : ¬ ((0 : Int) < 0) := by omega
  have hl : loopA W loopW (.ghost (.kill k_ref14_Model_size_0) l_ref14_Model_size_0) [(3, .int .i64 0), (9, .list 7 [] .full), (10, .int .i64 0), (11, .int .i64 0)] (hx H []) = some (.exit 0, [(3, .int .i64 0)], hx H []) := by
   refine loop_step l_ref14_Model_size_0.eq_1 k_ref14_Model_size_0.eq_1 (by kernel_rfl) ?_
   simp only [go_sem, h0, Int.lt_irrefl, simprocAttr]
  simp only [go_sem, c_ref14_Model_size, gj, List.length_nil, Int.natCast_zero, hl, simprocAttr]
  rfl
def putR (cap start : Int) (L : List Ba) (b : Ba) : Int × Int :=
 if (tabCheck (foldL L []) b).2 ≠ 0 then (-1, (tabCheck (foldL L []) b).2)
 else if (tabCheck (foldL L []) b).1 ≥ 0 then ((tabCheck (foldL L []) b).1, 0)
 else if sizeL L + sizeE b > cap then (-1, 17)
 else if endE start L + countE b > 1099511627776 then (-1, 18)
 else (b.base, 0)
def putOK (cap start : Int) (L : List Ba) (b : Ba) : Bool :=
 decide ((tabCheck (foldL L []) b).2 = 0) && (decide ((tabCheck (foldL L []) b).1 < 0) && (decide (sizeL L + sizeE b ≤ cap) && decide (endE start L + countE b ≤ 1099511627776)))
theorem foldL_tk : ∀ (A : List Ba) (L : List Pr) (n : Nat), TK L n → TK (foldL A L) (n + A.length)
 | [], _, _, h => h
 | b :: A, L, n, h => by
  have := foldL_tk A (tabL L b) (n + 1) (h.next b)
  rw [show n + (b :: A).length = n + 1 + A.length by simp; omega]
  exact this
theorem endE_range (start : Int) (L : List Ba) (hL : ∀ b ∈ L, Fit b) (h0 : 0 ≤ start) (h1 : start ≤ 1099511627776) : 0 ≤ endE start L ∧ endE start L ≤ 1099511627792 := by
 unfold endE
 split
 ·omega
 ·rename_i b hb
  have hm := hL b (List.mem_of_getLast? hb)
  have := hm.base
  have := hm.count
  omega
set_option maxHeartbeats 1000000 in
theorem put_no (cap start : Int) (L : List Ba) (hL : ∀ b ∈ L, Fit b) (hn : L.length ≤ 900) (fl : Fl) (hfl : fl = .own ∨ (fl = .full ∧ L = [])) (h0 : 0 ≤ start) (hs1 : start ≤ 1099511627776) (b : Ba) (hb : BOK b) (hr : b.recs.length ≤ 1000)
  (i : Nat) (H : Heap) (hi : Old H i (mdB cap start L fl)) (hc : putOK cap start L b = false) :
  W n_ref14_Model_put [.ptr i 0, b.V] H = some (.tuple [.int .i64 (putR cap start L b).1, .int .i64 (putR cap start L b).2], H) := by
 obtain ⟨M, tf0⟩ := fold_spec L (fun b hb => (hL b hb).ok) (by omega) (hx H [.cells b.cs])
 obtain ⟨T, hT⟩ : ∃ T, tabB (foldL L []) (foldF L [] .full) = T := ⟨_, rfl⟩
 have tf : W n_ref10_Fold [.list 7 (L.map Ba.V) .ro] (hx H [.cells b.cs]) = some (.tuple [.ptr (pt H 1) 0, .list 3 ((foldD L []).map laV) (dFl (foldD L []))], hx H (.cells b.cs :: T :: M)) := by
  rw [tf0, hT]
  simp [hx, pt]
 have hfo := foldF_ok L [] .full (.inr ⟨rfl, rfl⟩)
 have hTK := foldL_tk L [] 0 ⟨by simp, by simp⟩
 have tc := fun M' => tab_check_spec (foldL L []) (hTK.ok (by omega)) (foldF L [] .full) hfo (pt H 1) (hx H (.cells b.cs :: T :: M')) ⟨by rw [hx_get, hT]; rfl⟩ b hb
 have tz := fun M' => size_spec cap start L hL (by omega) fl hfl i (hx H M') ⟨hi.get M'⟩
 have te := fun M' => model_end_spec cap start L hL (by omega) fl hfl i (hx H M') ⟨hi.get M'⟩
 have ts := fun H => ref_size_spec b hb H
 have tn := fun H => ref_count_spec b H
 rw [show (if b.mark = 0 then (b.recs.length : Int) else 1) = countE b from rfl] at tn
 have r1 := sizeE_range (b := b)
 have r2 := sizeL_range L
 have w1 : IntKind.i64.wrap (sizeL L + sizeE b) = sizeL L + sizeE b := wrap_id (by unfold I64; omega)
 have re := endE_range start L hL h0 hs1
 have rc : 0 ≤ countE b ∧ countE b ≤ 1000 := by unfold countE; split <;> omega
 have w2 : IntKind.i64.wrap (endE start L + countE b) = endE start L + countE b := wrap_id (by unfold I64; omega)
 have gj := hi.get
 unfold mdB at gj
 unfold putOK at hc
 unfold putR
 generalize tabCheck (foldL L []) b = R at *
 obtain ⟨ba, er⟩ := R
 obtain ⟨sz, hsz⟩ : ∃ sz, sizeL L + sizeE b = sz := ⟨_, rfl⟩
 obtain ⟨en, hen⟩ : ∃ en, endE start L + countE b = en := ⟨_, rfl⟩
 replace w1 := w1.trans hsz
 replace w2 := w2.trans hen
 simp only [hsz, hen] at hc tc ⊢
 unfold Ba.V Ba.cs at *
 by_cases c1 : er = 0
 ·subst c1
  rw [if_neg (by simp)]
  by_cases c2 : ba ≥ 0
  ·rw [if_pos c2]
   refine W_fn rfl rfl ?_
   rcases hfl with rfl | ⟨rfl, rfl⟩
   ·simp only [go_sem, c_ref14_Model_put, gj, tf, tc, c2, simprocAttr]
   ·simp only [List.map_nil] at gj tf
    simp only [go_sem, c_ref14_Model_put, gj, tf, tc, c2, simprocAttr]
  ·rw [if_neg c2]
   by_cases c3 : sz > cap
   ·rw [if_pos c3]
    refine W_fn rfl rfl ?_
    rcases hfl with rfl | ⟨rfl, rfl⟩
    ·simp only [go_sem, c_ref14_Model_put, gj, tf, tc, c2, tz, ts, w1, c3, simprocAttr]
    ·simp only [List.map_nil] at gj tf
     simp only [go_sem, c_ref14_Model_put, gj, tf, tc, c2, tz, ts, w1, c3, simprocAttr]
   ·rw [if_neg c3]
    have c4 : en > 1099511627776 := by
     simp at hc
     omega
    rw [if_pos c4]
    refine W_fn rfl rfl ?_
    rcases hfl with rfl | ⟨rfl, rfl⟩
    ·simp only [go_sem, c_ref14_Model_put, gj, tf, tc, c2, tz, ts, w1, c3, te, tn, w2, c4, simprocAttr]
    ·simp only [List.map_nil] at gj tf
     simp only [go_sem, c_ref14_Model_put, gj, tf, tc, c2, tz, ts, w1, c3, te, tn, w2, c4, simprocAttr]
 ·rw [if_pos c1]
  refine W_fn rfl rfl ?_
  rcases hfl with rfl | ⟨rfl, rfl⟩
  ·simp only [go_sem, c_ref14_Model_put, gj, tf, tc, c1, simprocAttr]
  ·simp only [List.map_nil] at gj tf
   simp only [go_sem, c_ref14_Model_put, gj, tf, tc, c1, simprocAttr]
end Go.Abs
