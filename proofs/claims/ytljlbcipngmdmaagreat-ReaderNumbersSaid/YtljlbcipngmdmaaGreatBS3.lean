import Derived.Test.YtljlbcipngmdmaaGreatBS2
import Derived.Test.YtljlbcipngmdmaaGreatBS1
set_option linter.unusedVariables false
set_option linter.unusedSimpArgs false
namespace Go.Abs
open Go Go.RowKit
def tabCheck (L : List Pr) (b : Ba) : Int × Int :=
 if rightE b ≠ 0 then (-1, rightE b) else if b.prod < 0 then (-1, 0) else checkP ((atP b.prod L).getD zeroPr) (atP b.prod L).isSome b
structure TOK (L : List Pr) : Prop where
 len : L.length ≤ 100000
 last : ∀ p ∈ L, p.last.length ≤ 1000000
theorem atP_mem {id : Int} {L : List Pr} {p : Pr} (h : atP id L = some p) : p ∈ L ∧ L[belowN id L]? = some p := by
 unfold atP at h
 split at h
 ·rename_i q hq
  split at h
  ·cases h; exact ⟨List.mem_of_getElem? hq, hq⟩
  ·cases h
 ·cases h
theorem getD_last {L : List Pr} (h : TOK L) (id : Int) : ((atP id L).getD zeroPr).last.length ≤ 1000000 := by
 cases ha : atP id L with
 | none => simp [zeroPr]
 | some p => exact h.last p (atP_mem ha).1
theorem tab_check_spec (L : List Pr) (hL : TOK L) (fl : Fl) (hfl : fl = .own ∨ (fl = .full ∧ L = [])) (i : Nat) (H : Heap) (hi : Old H i (tabB L fl)) (b : Ba) (hb : BOK b) :
  W n_ref10_Table_Check [.ptr i 0, b.V] H = some (.tuple [.int .i64 (tabCheck L b).1, .int .i64 (tabCheck L b).2], H) := by
 have tr := fun H => ref_right_spec b hb H
 have tg := fun M => get_spec b.prod L (by have := hL.len; omega) fl hfl i (hx H M) ⟨hi.get M⟩
 have hq := getD_last hL b.prod
 unfold tabCheck
 generalize (atP b.prod L).isSome = known at *
 have tc := fun H => ref_check_spec ((atP b.prod L).getD zeroPr) known b hq H
 by_cases c1 : rightE b = 0
 ·rw [if_neg (by omega)]
  rw [c1] at tr
  by_cases c2 : b.prod < 0
  ·rw [if_pos c2]
   unfold Ba.V Ba.cs at *
   refine W_fn rfl rfl ?_
   simp only [go_sem, c_ref10_Table_Check, tr, c2, simprocAttr]
  ·rw [if_neg c2]
   generalize (atP b.prod L).getD zeroPr = q at *
   unfold Pr.V Pr.cs at *
   unfold Ba.V Ba.cs at *
   refine W_fn rfl rfl ?_
   simp only [go_sem, c_ref10_Table_Check, tr, c2, tg, tc, simprocAttr]
 ·rw [if_pos c1]
  unfold Ba.V Ba.cs at *
  refine W_fn rfl rfl ?_
  simp only [go_sem, c_ref10_Table_Check, tr, c1, simprocAttr]
def tabL (L : List Pr) (b : Ba) : List Pr :=
 if rightE b ≠ 0 ∨ b.prod < 0 then L
 else match atP b.prod L with
  | some p => L.set (belowN b.prod L) (applyP p true b)
  | none => L.take (belowN b.prod L) ++ [applyP zeroPr false b] ++ L.drop (belowN b.prod L)
def tabD (L : List Pr) (b : Ba) : Option La :=
 if rightE b ≠ 0 ∨ b.prod < 0 then none
 else match atP b.prod L with
  | some p => if b.mark = 2 ∧ p.open_ ≥ 0 then some (b.prod, p.open_, b.base) else none
  | none => none
def optLa : Option La → La
 | some x => x
 | none => (0, 0, 0)
def newFl (L : List Pr) (b : Ba) (fl : Fl) : Fl := if rightE b ≠ 0 ∨ b.prod < 0 then fl else .own
theorem thaw_r (i : Nat) (Xs : List AVal) (e : Env) (H : Heap) (h1 : Env.get e 0 = .ptr i 0) (h2 : H[i]? = some (.cells [.list 4 Xs .uniq])) :
  agh (.thawC 0 0) e H = some (e, H.set i (.cells [.lbox H.length]) ++ [.arr 4 Xs]) := by
 simp only [agh, h1, h2, Nat.add_zero, List.getElem?_cons_zero]; rfl
theorem back_r (i b : Nat) (Xs : List AVal) (e : Env) (H : Heap) (h1 : Env.get e 0 = .ptr i 0) (h2 : H[i]? = some (.cells [.lbox b])) (h3 : H[b]? = some (.arr 4 Xs)) :
  agh (.backC 0 0) e H = some (e, (H.set i (.cells [.list 4 Xs .uniq])).set b .dead) := by
 simp only [agh, h1, h2, h3, Nat.add_zero, List.getElem?_cons_zero]; rfl
theorem freeze_r (i : Nat) (Xs : List AVal) (e : Env) (H : Heap) (h1 : Env.get e 0 = .ptr i 0) (h2 : H[i]? = some (.cells [.list 4 Xs .uniq])) :
  agh (.freezeC 0 0) e H = some (e, H.set i (.cells [.list 4 Xs .own])) := by
 simp only [agh, h1, h2, Nat.add_zero, List.getElem?_cons_zero]; rfl
theorem back_o (i : Nat) (Xs : List AVal) (e : Env) (H : Heap) (h1 : Env.get e 0 = .ptr i 0) (h2 : H[i]? = some (.cells [.list 4 Xs .own])) :
  agh (.backC 0 0) e H = some (e, H) := by
 simp only [agh, h1, h2, Nat.add_zero, List.getElem?_cons_zero]
theorem freeze_o (i : Nat) (Xs : List AVal) (e : Env) (H : Heap) (h1 : Env.get e 0 = .ptr i 0) (h2 : H[i]? = some (.cells [.list 4 Xs .own])) :
  agh (.freezeC 0 0) e H = some (e, H) := by
 simp only [agh, h1, h2, Nat.add_zero, List.getElem?_cons_zero]
theorem ix_r (k b : Nat) (L : List Pr) (hk : k < L.length) (H : Heap) (h : H[b]? = some (.arr 4 (L.map Pr.V))) : ev W (.ixAddr 4) [.lbox b, .int .i64 (k : Nat)] H = some (.eptr b k 0, H) := by
 simp only [ev, h, List.length_map]
 rw [if_pos (by refine ⟨?_, ?_, ?_⟩ <;> first | trivial | omega)]
 simp
theorem st_r (k b : Nat) (L : List Pr) (hk : k < L.length) (x : Pr) (H : Heap) (h : H[b]? = some (.arr 4 (L.map Pr.V))) :
  evStore 4 (.eptr b k 0) (.agg [.int .i64 x.id, .int .i64 x.epoch, .list 3 (x.last.map laV) .ro, .int .i64 x.open_]) H = some (.tuple [], H.set b (.arr 4 ((L.set k x).map Pr.V))) := by
 have hx : (L.map Pr.V)[k]? = some (L[k].V) := by simp [hk]
 unfold evStore
 rw [if_pos (by simp [AVal.flat, AVal.share0, AVal.one])]
 simp only [h, hx]
 rw [if_pos (by simp [Pr.V, Pr.cs, AVal.cells, AVal.flat, AVal.argOK, AVal.isU])]
 have e : (L[k].V).withCells (overwrite (L[k].V).cells 0 ((AVal.agg [.int .i64 x.id, .int .i64 x.epoch, .list 3 (x.last.map laV) .ro, .int .i64 x.open_]).flat.map AVal.strip)) = x.V := by
  simp [Pr.V, Pr.cs, AVal.withCells, AVal.cells, AVal.flat, AVal.share0, AVal.strip, overwrite]
 rw [e, List.map_set]
theorem under_prs (n : Nat) : ∀ (r : List Pr), AVal.underL n (r.map Pr.V) = true
 | [] => rfl
 | x :: r => by simp [Pr.V, AVal.underL, AVal.under, under_pr, under_prs n r]
theorem tabB_flat (L fl) : (tabB L fl).flatB = true := by
 simp only [tabB, Box.flatB, AVal.underL, AVal.under, under_prs, Bool.and_self]
theorem flat_prs (L : List Pr) (fl) : Box.flatB (.cells [.list 4 (L.map Pr.V) fl]) = true := tabB_flat L fl
set_option maxHeartbeats 1000000 in
theorem tab_apply_none (L : List Pr) (fl : Fl) (i : Nat) (H : Heap) (b : Ba) (hb : BOK b) (hc : rightE b ≠ 0 ∨ b.prod < 0) :
  W n_ref10_Table_Apply [.ptr i 0, b.V] H = some (.tuple [laV (0, 0, 0), .bool false], H) := by
 have tr := fun H => ref_right_spec b hb H
 by_cases c1 : rightE b = 0
 ·have c2 : b.prod < 0 := by rcases hc with h | h; exact absurd c1 h; exact h
  rw [c1] at tr
  unfold Ba.V Ba.cs at *
  refine W_fn rfl rfl ?_
  simp only [go_sem, c_ref10_Table_Apply, tr, c2, simprocAttr]
  rfl
 ·unfold Ba.V Ba.cs at *
  refine W_fn rfl rfl ?_
  simp only [go_sem, c_ref10_Table_Apply, tr, c1, simprocAttr]
  rfl
set_option maxHeartbeats 1000000 in
theorem tab_apply_known (L : List Pr) (hL : TOK L) (p : Pr) (b : Ba) (hb : BOK b) (c1 : rightE b = 0) (c2 : ¬ b.prod < 0) (ha : atP b.prod L = some p) (i : Nat) (H : Heap) (hi : Old H i (tabB L .own)) :
  W n_ref10_Table_Apply [.ptr i 0, b.V] H = some (.tuple [laV (optLa (tabD L b)), .bool (tabD L b).isSome], H.set i (tabB (L.set (belowN b.prod L) (applyP p true b)) .own)) := by
 have tr := fun H => ref_right_spec b hb H
 have ta := fun M => at_spec b.prod L (by have := hL.len; omega) .own (.inl rfl) i (hx H M) ⟨hi.get M⟩
 have tg := fun M => get_spec b.prod L (by have := hL.len; omega) .own (.inl rfl) i (hx H M) ⟨hi.get M⟩
 have tp := fun H => ref_apply_spec p true b (hL.last p (atP_mem ha).1) H
 have hk := (List.getElem?_eq_some_iff.1 (atP_mem ha).2).1
 rw [c1] at tr
 rw [ha] at ta tg
 simp only [Option.isSome_some, Option.getD_some] at ta tg
 have hd : tabD L b = if b.mark = 2 ∧ p.open_ ≥ 0 then some (b.prod, p.open_, b.base) else none := by
  unfold tabD; rw [if_neg (by omega), ha]
 rw [hd]
 generalize belowN b.prod L = k at *
 generalize applyP p true b = x at *
 have gj := hi.get
 have gs := hi.set
 have gj' := hi.get'
 have gs' := hi.set'
 have bL : (0 + L.length) * 48 ≤ maxBytes := by have := hL.len; simp only [maxBytes]; omega
 have bL' : L.length * 48 ≤ maxBytes := by have := hL.len; simp only [maxBytes]; omega
 have tw := thaw_r i (L.map Pr.V)
 have ix := ix_r k (pt H 4) L hk
 have st := st_r k (pt H 4) L hk x
 have bk := back_r i (pt H 4) ((L.set k x).map Pr.V)
 have fz := freeze_r i ((L.set k x).map Pr.V)
 unfold tabB at *
 unfold Pr.V Pr.cs at tg tp
 unfold Ba.V Ba.cs at *
 have apU : ∀ (Xs : List AVal), evAppend 4 48 true (.list 4 [] .full) Xs = gd (decide ((0 + Xs.length) * 48 ≤ maxBytes)) (some (.list 4 Xs .uniq)) := fun Xs => by
  unfold gd; by_cases h : (0 + Xs.length) * 48 ≤ maxBytes <;> simp [evAppend] at h ⊢ <;> simp [h]
 refine W_fnS rfl rfl ?_
 by_cases c3 : b.mark = 2
 ·by_cases c4 : p.open_ ≥ 0
  ·rw [if_pos ⟨c3, c4⟩]
   simp only [go_sem, c_ref10_Table_Apply, tr, c2, ta, tg, tp, gj, gs, gj', gs', bL, bL', apU, List.length_map, tw, ix, st, bk, fz, hx_len, hx_app, List.length_cons, List.length_nil, List.cons_append, List.nil_append, List.set_cons_succ, List.set_cons_zero, flat_prs, eq_true c3, c4, simprocAttr]
   rfl
  ·rw [if_neg (fun h => c4 h.2)]
   simp only [go_sem, c_ref10_Table_Apply, tr, c2, ta, tg, tp, gj, gs, gj', gs', bL, bL', apU, List.length_map, tw, ix, st, bk, fz, hx_len, hx_app, List.length_cons, List.length_nil, List.cons_append, List.nil_append, List.set_cons_succ, List.set_cons_zero, flat_prs, eq_true c3, c4, simprocAttr]
   rfl
 ·rw [if_neg (fun h => c3 h.1)]
  simp only [go_sem, c_ref10_Table_Apply, tr, c2, ta, tg, tp, gj, gs, gj', gs', bL, bL', apU, List.length_map, tw, ix, st, bk, fz, hx_len, hx_app, List.length_cons, List.length_nil, List.cons_append, List.nil_append, List.set_cons_succ, List.set_cons_zero, flat_prs, c3, simprocAttr]
  rfl
set_option maxHeartbeats 1000000 in
theorem tab_apply_new (L : List Pr) (hL : TOK L) (fl : Fl) (hfl : fl = .own ∨ (fl = .full ∧ L = [])) (b : Ba) (hb : BOK b) (c1 : rightE b = 0) (c2 : ¬ b.prod < 0) (ha : atP b.prod L = none) (i : Nat) (H : Heap) (hi : Old H i (tabB L fl)) :
  W n_ref10_Table_Apply [.ptr i 0, b.V] H = some (.tuple [laV (0, 0, 0), .bool false], H.set i (tabB (L.take (belowN b.prod L) ++ [applyP zeroPr false b] ++ L.drop (belowN b.prod L)) .own)) := by
 have tr := fun H => ref_right_spec b hb H
 have ta := fun M => at_spec b.prod L (by have := hL.len; omega) fl hfl i (hx H M) ⟨hi.get M⟩
 have tg := fun M => get_spec b.prod L (by have := hL.len; omega) fl hfl i (hx H M) ⟨hi.get M⟩
 have tp := fun H => ref_apply_spec zeroPr false b (by simp [zeroPr]) H
 have hk := belowN_le b.prod L
 have hlen := hL.len
 rw [c1] at tr
 rw [ha] at ta tg
 simp only [Option.isSome_none, Option.getD_none] at ta tg
 generalize hkk : belowN b.prod L = k at *
 generalize applyP zeroPr false b = x at *
 have gj := hi.get
 have gs := hi.set
 have gj' := hi.get'
 have gs' := hi.set'
 have e0 : (0 : Int) ≤ (k : Int) := by omega
 have e1 : (k : Int) ≤ (L.length : Int) := by omega
 have e7 : ((k : Nat) : Int).toNat = k := by omega
 have m1 : (L.map Pr.V).take k = (L.take k).map Pr.V := by simp
 have m2 : (L.map Pr.V).drop k = (L.drop k).map Pr.V := by simp
 have b1 : (0 + (L.take k).length) * 48 ≤ maxBytes := by simp only [maxBytes, List.length_take]; omega
 have b2 : ((L.take k).length + 1) * 48 ≤ maxBytes := by simp only [maxBytes, List.length_take]; omega
 have b3 : ((L.take k ++ [x]).length + (L.drop k).length) * 48 ≤ maxBytes := by simp only [maxBytes, List.length_append, List.length_take, List.length_drop, List.length_cons, List.length_nil]; omega
 rcases hfl with rfl | ⟨rfl, rfl⟩
 ·skip
  have a1 : (L.take k).map Pr.V ++ [.agg [.int .i64 x.id, .int .i64 x.epoch, .list 3 (x.last.map laV) .ro, .int .i64 x.open_]] = (L.take k ++ [x]).map Pr.V := by simp [Pr.V, Pr.cs]
  have a2 : (L.take k ++ [x]).map Pr.V ++ (L.drop k).map Pr.V = (L.take k ++ [x] ++ L.drop k).map Pr.V := by simp
  generalize L.take k ++ [x] = Y at *
  generalize Y ++ L.drop k = Z at *
  have bk := back_o i (Z.map Pr.V)
  have fz := freeze_o i (Z.map Pr.V)
  unfold tabB at *
  unfold Pr.V Pr.cs at tg tp
  unfold Ba.V Ba.cs at *
  refine W_fnS rfl rfl ?_
  simp only [go_sem, c_ref10_Table_Apply, tr, c2, ta, tg, tp, gj, gs, gj', gs', slH, slL, m1, m2, e0, e1, e7, apF, apO, List.length_map, b1, b2, b3, a1, a2, bk, fz, List.length_cons, List.length_nil, List.nil_append, flat_prs, simprocAttr]
  rfl
 ·have hk0 : k = 0 := by simpa using hk
  subst hk0
  have bk := back_o i ([x].map Pr.V)
  have fz := freeze_o i ([x].map Pr.V)
  have s1 : evSlice 4 true false false (.list 4 [] .full) [.int .i64 0] = some (.list 4 [] .full) := rfl
  have s2 : evSlice 4 false true false (.list 4 [] .full) [.int .i64 0] = some (.list 4 [] .ro) := rfl
  have b5 : (0 + 0) * 48 ≤ maxBytes := by decide
  have b6 : (0 + 1) * 48 ≤ maxBytes := by decide
  have b7 : (1 + 0) * 48 ≤ maxBytes := by decide
  unfold tabB at *
  unfold Pr.V Pr.cs at tg tp
  unfold Ba.V Ba.cs at *
  simp only [List.map_nil, List.map_cons, Pr.V, Pr.cs, Int.natCast_zero] at gj gs gj' gs' ta tg bk fz
  refine W_fnS rfl rfl ?_
  simp only [go_sem, c_ref10_Table_Apply, tr, c2, ta, tg, tp, gj, gs, gj', gs', s1, s2, apF, apO, List.length_nil, List.length_cons, b5, b6, b7, bk, fz, List.nil_append, List.append_nil, AVal.underL, AVal.under, under_la, flatB_c, simprocAttr]
  rfl
theorem tab_apply_spec (L : List Pr) (hL : TOK L) (fl : Fl) (hfl : fl = .own ∨ (fl = .full ∧ L = [])) (b : Ba) (hb : BOK b) (i : Nat) (H : Heap) (hi : Old H i (tabB L fl)) :
  W n_ref10_Table_Apply [.ptr i 0, b.V] H = some (.tuple [laV (optLa (tabD L b)), .bool (tabD L b).isSome], H.set i (tabB (tabL L b) (newFl L b fl))) := by
 by_cases hc : rightE b ≠ 0 ∨ b.prod < 0
 ·have h := tab_apply_none L fl i H b hb hc
  rw [show tabD L b = none by unfold tabD; rw [if_pos hc], show tabL L b = L by unfold tabL; rw [if_pos hc], show newFl L b fl = fl by unfold newFl; rw [if_pos hc], hi.same]
  exact h
 ·have c1 : rightE b = 0 := by omega
  have c2 : ¬ b.prod < 0 := fun h => hc (.inr h)
  rw [show newFl L b fl = .own by unfold newFl; rw [if_neg hc]]
  cases ha : atP b.prod L with
  | some p =>
   have hfl' : fl = .own := by
    rcases hfl with h | ⟨_, h⟩
    ·exact h
    ·have := (atP_mem ha).1; rw [h] at this; cases this
   subst hfl'
   have h := tab_apply_known L hL p b hb c1 c2 ha i H hi
   rw [show tabL L b = L.set (belowN b.prod L) (applyP p true b) by unfold tabL; rw [if_neg hc, ha]]
   exact h
  | none =>
   have h := tab_apply_new L hL fl hfl b hb c1 c2 ha i H hi
   rw [show tabL L b = L.take (belowN b.prod L) ++ [applyP zeroPr false b] ++ L.drop (belowN b.prod L) by unfold tabL; rw [if_neg hc, ha], show tabD L b = none by unfold tabD; rw [if_neg hc, ha]]
   exact h
structure TK (L : List Pr) (n : Nat) : Prop where
 len : L.length ≤ n
 last : ∀ p ∈ L, p.last.length ≤ 5
theorem TK.ok {L n} (h : TK L n) (hn : n ≤ 100000) : TOK L := ⟨Nat.le_trans h.len hn, fun p hp => by have := h.last p hp; omega⟩
theorem apply_last (p : Pr) (known : Bool) (b : Ba) (h : p.last.length ≤ 5) : (applyP p known b).last.length ≤ 5 := by
 unfold applyP
 split
 ·simp only [lastsP]; split
  ·exact h
  ·simp
 ·simp only [List.length_drop]; omega
theorem TK.next {L n} (h : TK L n) (b : Ba) : TK (tabL L b) (n + 1) := by
 unfold tabL
 split
 ·exact ⟨Nat.le_trans h.len (Nat.le_succ n), h.last⟩
 ·split
  ·rename_i p hp
   refine ⟨by simpa using Nat.le_trans h.len (Nat.le_succ n), fun q hq => ?_⟩
   rcases List.mem_or_eq_of_mem_set hq with hq | rfl
   ·exact h.last q hq
   ·exact apply_last p true b (h.last p (atP_mem hp).1)
  ·refine ⟨?_, fun q hq => ?_⟩
   ·have h1 := h.len
    have h2 := belowN_le b.prod L
    simp only [List.length_append, List.length_take, List.length_drop, List.length_cons, List.length_nil]
    omega
   ·simp only [List.append_assoc, List.mem_append, List.mem_cons, List.not_mem_nil, or_false] at hq
    rcases hq with hq | rfl | hq
    ·exact h.last q (List.mem_of_mem_take hq)
    ·exact apply_last zeroPr false b (by simp [zeroPr])
    ·exact h.last q (List.mem_of_mem_drop hq)
def foldL : List Ba → List Pr → List Pr
 | [], L => L
 | b :: l, L => foldL l (tabL L b)
def foldD : List Ba → List Pr → List La
 | [], _ => []
 | b :: l, L => (match tabD L b with | some d => [d] | none => []) ++ foldD l (tabL L b)
def foldF : List Ba → List Pr → Fl → Fl
 | [], _, fl => fl
 | b :: l, L, fl => foldF l (tabL L b) (newFl L b fl)
def dFl (d : List La) : Fl := if d = [] then .full else .own
theorem newFl_ok {L b fl} (h : fl = .own ∨ (fl = .full ∧ L = [])) : newFl L b fl = .own ∨ (newFl L b fl = .full ∧ tabL L b = []) := by
 unfold newFl tabL
 split
 ·exact h
 ·exact .inl rfl
theorem fold_loop (A : List Ba) (hA : ∀ b ∈ A, BOK b) (hn : A.length ≤ 1000) (H : Heap) (r : List Ba) : ∀ (q : List Ba) (L : List Pr) (fl : Fl) (D : List La) (N : Heap), A = q ++ r → TK L q.length → (fl = .own ∨ (fl = .full ∧ L = [])) → D.length ≤ q.length →
  ∃ M, loopA W loopW (.ghost (.kill k_ref10_Fold_0) l_ref10_Fold_0) [(4, .ptr (pt H 0) 0), (5, .list 3 (D.map laV) (dFl D)), (12, .list 7 (A.map Ba.V) .ro), (13, .int .i64 (A.length : Nat)), (14, .int .i64 (q.length : Nat))] (hx H (tabB L fl :: N)) =
   some (.exit 0, [(4, .ptr (pt H 0) 0), (5, .list 3 ((D ++ foldD r L).map laV) (dFl (D ++ foldD r L)))], hx H (tabB (foldL r L) (foldF r L fl) :: M)) := by
 induction r with
 | nil =>
  intro q L fl D N hq hT hfl hD
  rw [List.append_nil] at hq
  subst hq
  refine ⟨N, ?_⟩
  have h1 : ¬ ((A.length : Int) < (A.length : Int)) := by omega
  rw [show foldD [] L = [] from rfl, List.append_nil, show foldL [] L = L from rfl, show foldF [] L fl = fl from rfl]
  refine loop_step l_ref10_Fold_0.eq_1 k_ref10_Fold_0.eq_1 (by kernel_rfl) ?_
  simp only [go_sem, h1, simprocAttr]
 | cons b r ih =>
  intro q L fl D N hq hT hfl hD
  have hlen : q.length < A.length := by rw [hq]; simp
  have h1 : ((q.length : Int) < (A.length : Int)) := by omega
  have e0 : (0 : Int) ≤ (q.length : Int) := by omega
  have e7 : ((q.length : Nat) : Int).toNat = q.length := by omega
  have e1 : (A.map Ba.V)[q.length]? = some (.agg [.int .i64 b.base, .int .i64 b.prod, .int .i64 b.epoch, .int .i64 b.seq, .bool b.txn, .int .i64 b.mark, .list 2 (b.recs.map rcV) .ro]) := by rw [hq]; simp [Ba.V, Ba.cs]
  have e6 : IntKind.i64.wrap ((q.length : Int) + 1) = ((q.length + 1 : Nat) : Int) := by rw [wrap_id (by unfold I64; omega)]; omega
  have hbo := hA b (by rw [hq]; simp)
  have ta := fun M => tab_apply_spec L (hT.ok (by omega)) fl hfl b hbo (pt H 0) (hx H (tabB L fl :: M)) ⟨by rw [hx_get]; rfl⟩
  simp only [hx_set, List.set_cons_zero] at ta
  have hb : ((D.map laV).length + 1) * 24 ≤ maxBytes := by simp only [List.length_map, maxBytes]; omega
  have hb' : (D.length + 1) * 24 ≤ maxBytes := by simp only [maxBytes]; omega
  have hb0 : (0 + 1) * 24 ≤ maxBytes := by decide
  have n1 : ∀ x x' y : Box, (N ++ [x, y])[(N ++ [x']).length]? = some y := fun x x' y => by simp
  have n2 : ∀ x x' y z : Box, (N ++ [x, y]).set (N ++ [x']).length z = N ++ [x, z] := fun x x' y z => by simp
  have g1 : foldL (b :: r) L = foldL r (tabL L b) := rfl
  have g2 : foldF (b :: r) L fl = foldF r (tabL L b) (newFl L b fl) := rfl
  rw [g1, g2]
  cases hd : tabD L b with
  | none =>
   rw [hd] at ta
   obtain ⟨M, h2⟩ := ih (q ++ [b]) (tabL L b) (newFl L b fl) D (N ++ [.cells b.cs, .cells [.int .i64 0, .int .i64 0, .int .i64 0]]) (by rw [hq]; simp) (by simpa using hT.next b) (newFl_ok hfl) (by simp; omega)
   refine ⟨M, ?_⟩
   have g3 : D ++ foldD (b :: r) L = D ++ foldD r (tabL L b) := by simp [foldD, hd]
   rw [g3]
   simp only [List.length_append, List.length_cons, List.length_nil, Nat.zero_add] at h2
   simp only [optLa, laV, Option.isSome_none] at ta
   unfold Ba.V Ba.cs at *
   refine loop_step l_ref10_Fold_0.eq_1 k_ref10_Fold_0.eq_1 (by kernel_rfl) ?_
   simp only [go_sem, h1, e0, e7, e1, ta, n1, n2, e6, simprocAttr]
   exact h2
  | some d =>
   rw [hd] at ta
   obtain ⟨M, h2⟩ := ih (q ++ [b]) (tabL L b) (newFl L b fl) (D ++ [d]) (N ++ [.cells b.cs, .cells [.int .i64 d.1, .int .i64 d.2.1, .int .i64 d.2.2]]) (by rw [hq]; simp) (by simpa using hT.next b) (newFl_ok hfl) (by simp; omega)
   refine ⟨M, ?_⟩
   have g3 : D ++ foldD (b :: r) L = D ++ [d] ++ foldD r (tabL L b) := by simp [foldD, hd]
   rw [g3]
   have g4 : dFl (D ++ [d]) = .own := by unfold dFl; rw [if_neg (by simp)]
   have g5 : D.map laV ++ [.agg [.int .i64 d.1, .int .i64 d.2.1, .int .i64 d.2.2]] = (D ++ [d]).map laV := by simp [laV]
   rw [g4] at h2
   simp only [List.length_append, List.length_cons, List.length_nil, Nat.zero_add] at h2
   simp only [optLa, laV, Option.isSome_some] at ta
   unfold Ba.V Ba.cs at *
   refine loop_step l_ref10_Fold_0.eq_1 k_ref10_Fold_0.eq_1 (by kernel_rfl) ?_
   by_cases hD0 : D = []
   ·subst hD0
    have g6 : dFl ([] : List La) = .full := rfl
    rw [g6]
    simp only [List.map_nil, List.nil_append] at g5 h2 ⊢
    simp only [go_sem, h1, e0, e7, e1, ta, n1, n2, apF, List.length_nil, hb0, List.nil_append, e6, simprocAttr]
    rw [g5]
    exact h2
   ·have g6 : dFl D = .own := by unfold dFl; rw [if_neg hD0]
    rw [g6]
    simp only [List.append_assoc, List.cons_append, List.nil_append] at h2 ⊢
    simp only [go_sem, h1, e0, e7, e1, ta, n1, n2, apO, hb, g5, e6, simprocAttr]
    exact h2
theorem fold_spec (A : List Ba) (hA : ∀ b ∈ A, BOK b) (hn : A.length ≤ 1000) (H : Heap) :
  ∃ M, W n_ref10_Fold [.list 7 (A.map Ba.V) .ro] H = some (.tuple [.ptr (pt H 0) 0, .list 3 ((foldD A []).map laV) (dFl (foldD A []))], hx H (tabB (foldL A []) (foldF A [] .full) :: M)) := by
 obtain ⟨M, h⟩ := fold_loop A hA hn H A [] [] .full [] [] rfl ⟨by simp, by simp⟩ (.inr ⟨rfl, rfl⟩) (by simp)
 have g0 : ((([] : List Ba).length : Nat) : Int) = 0 := rfl
 rw [g0, List.nil_append] at h
 refine ⟨M, W_fnS rfl rfl ?_⟩
 simp only [List.map_nil, show dFl ([] : List La) = .full from rfl] at h
 have h' : loopA W loopW (.ghost (.kill k_ref10_Fold_0) l_ref10_Fold_0) [(4, .ptr (pt H 0) 0), (5, .list 3 [] .full), (12, .list 7 (A.map Ba.V) .ro), (13, .int .i64 (A.length : Nat)), (14, .int .i64 0)] (hx H [.cells [.list 4 [] .full]]) = _ := h
 simp only [go_sem, c_ref10_Fold, List.length_map, h', simprocAttr]
def countE (b : Ba) : Int := if b.mark = 0 then (b.recs.length : Int) else 1
def endE (start : Int) (L : List Ba) : Int := match L.getLast? with
 | none => start
 | some b => b.base + countE b
structure Fit (b : Ba) : Prop where
 ok : BOK b
 right : rightE b = 0
theorem Fit.base {b : Ba} (h : Fit b) : 0 ≤ b.base ∧ b.base ≤ 1099511627776 := by
 have := h.right
 unfold rightE at this
 split at this
 ·cases this
 ·omega
theorem Fit.count {b : Ba} (h : Fit b) : 0 ≤ countE b ∧ countE b ≤ 16 := by
 have := (rightE_small h.right).1
 unfold countE
 split <;> omega
theorem end_spec (start : Int) (L : List Ba) (hL : ∀ b ∈ L, Fit b) (hn : L.length ≤ 1000) (fl : Fl) (hfl : fl = .ro ∨ (fl = .full ∧ L = [])) (H : Heap) :
  W n_ref14_End [.int .i64 start, .list 7 (L.map Ba.V) .ro] H = some (.int .i64 (endE start L), H) := by
 unfold endE
 rcases List.eq_nil_or_concat L with rfl | ⟨l, b, hl⟩
 ·refine W_fn rfl rfl ?_
  simp only [go_sem, c_ref14_End, List.map_nil, List.length_nil, Int.natCast_zero, List.getLast?_nil, simprocAttr]
 ·have hx : L.getLast? = some b := by rw [hl]; simp
  have hlen : L.length = l.length + 1 := by rw [hl]; simp
  have hb := hL b (by rw [hl]; simp)
  have b1 := hb.base
  have b2 := hb.count
  have h1 : ¬ (L.length : Int) = 0 := by omega
  have w1 : IntKind.i64.wrap ((L.length : Int) - 1) = (l.length : Int) := by rw [wrap_id (by unfold I64; omega)]; omega
  have e0 : (0 : Int) ≤ (l.length : Int) := by omega
  have e7 : ((l.length : Nat) : Int).toNat = l.length := by omega
  have e1 : (L.map Ba.V)[l.length]? = some (.agg [.int .i64 b.base, .int .i64 b.prod, .int .i64 b.epoch, .int .i64 b.seq, .bool b.txn, .int .i64 b.mark, .list 2 (b.recs.map rcV) .ro]) := by rw [hl]; simp [Ba.V, Ba.cs]
  have tc := fun H => ref_count_spec b H
  rw [show (if b.mark = 0 then (b.recs.length : Int) else 1) = countE b from rfl] at tc
  have w2 : IntKind.i64.wrap (b.base + countE b) = b.base + countE b := wrap_id (by unfold I64; omega)
  rw [hx]
  simp only
  unfold Ba.V Ba.cs at tc
  refine W_fn rfl rfl ?_
  simp only [go_sem, c_ref14_End, List.length_map, h1, w1, e0, e7, e1, tc, w2, simprocAttr]
def mdB (cap start : Int) (L : List Ba) (fl : Fl) : Box := .cells [.int .i64 cap, .int .i64 start, .list 7 (L.map Ba.V) fl]
theorem model_end_spec (cap start : Int) (L : List Ba) (hL : ∀ b ∈ L, Fit b) (hn : L.length ≤ 1000) (fl : Fl) (hfl : fl = .own ∨ (fl = .full ∧ L = [])) (i : Nat) (H : Heap) (hi : Old H i (mdB cap start L fl)) :
  W n_ref14_Model_End [.ptr i 0] H = some (.int .i64 (endE start L), H) := by
 have te := fun H => end_spec start L hL hn .ro (.inl rfl) H
 have gj := hi.g
 unfold mdB at gj
 refine W_fn0 rfl rfl ?_
 rcases hfl with rfl | ⟨rfl, rfl⟩
 ·simp only [go_sem, trim_same, c_ref14_Model_End, gj, te, simprocAttr]
 ·simp only [List.map_nil] at te gj
  simp only [go_sem, trim_same, c_ref14_Model_End, gj, te, simprocAttr]
theorem foldF_ok : ∀ (A : List Ba) (L : List Pr) (fl : Fl), (fl = .own ∨ (fl = .full ∧ L = [])) → foldF A L fl = .own ∨ (foldF A L fl = .full ∧ foldL A L = [])
 | [], _, _, h => h
 | b :: A, L, fl, h => foldF_ok A (tabL L b) (newFl L b fl) (newFl_ok h)
theorem producers_spec (cap start : Int) (L : List Ba) (hL : ∀ b ∈ L, Fit b) (hn : L.length ≤ 1000) (fl : Fl) (hfl : fl = .own ∨ (fl = .full ∧ L = [])) (i : Nat) (H : Heap) (hi : Old H i (mdB cap start L fl)) :
  ∃ fl', W n_ref14_Model_Producers [.ptr i 0] H = some (.list 4 ((foldL L []).map Pr.V) fl', H) ∧ (fl' = .ro ∨ fl' = .full) := by
 obtain ⟨M, tf⟩ := fold_spec L (fun b hb => (hL b hb).ok) hn H
 rw [← hx_nil H] at tf
 simp only [hx_nil (hx H []), show pt (hx H []) 0 = pt H 0 by rw [hx_nil], show ∀ L, hx (hx H []) L = hx H L from fun L => by rw [hx_nil]] at tf
 have gj := hi.get
 unfold mdB at gj
 unfold tabB at tf
 rcases foldF_ok L [] .full (.inr ⟨rfl, rfl⟩) with h | ⟨h, h0⟩
 ·rw [h] at tf
  refine ⟨.ro, ?_, .inl rfl⟩
  refine W_fn rfl rfl ?_
  rcases hfl with rfl | ⟨rfl, rfl⟩
  ·simp only [go_sem, c_ref14_Model_Producers, gj, tf, under_prs, simprocAttr]
  ·simp only [List.map_nil] at tf gj
   simp only [go_sem, c_ref14_Model_Producers, gj, tf, under_prs, simprocAttr]
 ·rw [h] at tf
  refine ⟨.full, ?_, .inr rfl⟩
  refine W_fn rfl rfl ?_
  rcases hfl with rfl | ⟨rfl, rfl⟩
  ·simp only [go_sem, c_ref14_Model_Producers, gj, tf, under_prs, simprocAttr]
  ·simp only [List.map_nil] at tf gj
   simp only [go_sem, c_ref14_Model_Producers, gj, tf, under_prs, simprocAttr]
def sizeL : List Ba → Int
 | [] => 0
 | b :: l => sizeE b + sizeL l
theorem sizeE_range {b : Ba} : 0 ≤ sizeE b ∧ sizeE b ≤ 2404 := by
 unfold sizeE
 split
 ·rename_i h
  have := baBytes_len (rightE_small h)
  omega
 ·omega
theorem sizeL_app : ∀ (p r : List Ba), sizeL (p ++ r) = sizeL p + sizeL r
 | [], r => by simp [sizeL]
 | b :: p, r => by simp only [List.cons_append, sizeL, sizeL_app p r]; omega
theorem sizeL_range : ∀ (l : List Ba), 0 ≤ sizeL l ∧ sizeL l ≤ 2404 * l.length
 | [] => by simp [sizeL]
 | b :: l => by
  have h1 := sizeE_range (b := b)
  have h2 := sizeL_range l
  simp only [sizeL, List.length_cons]
  omega
theorem size_loop (A : List Ba) (hA : ∀ b ∈ A, BOK b) (hn : A.length ≤ 1000) (H : Heap) (r : List Ba) : ∀ (q : List Ba) (N : Heap), A = q ++ r →
  ∃ M, loopA W loopW (.ghost (.kill k_ref14_Model_size_0) l_ref14_Model_size_0) [(3, .int .i64 (sizeL q)), (9, .list 7 (A.map Ba.V) .ro), (10, .int .i64 (A.length : Nat)), (11, .int .i64 (q.length : Nat))] (hx H N) =
   some (.exit 0, [(3, .int .i64 (sizeL A))], hx H M) := by
 induction r with
 | nil =>
  intro q N hq
  rw [List.append_nil] at hq
  subst hq
  refine ⟨N, ?_⟩
  have h1 : ¬ ((A.length : Int) < (A.length : Int)) := by omega
  refine loop_step l_ref14_Model_size_0.eq_1 k_ref14_Model_size_0.eq_1 (by kernel_rfl) ?_
  simp only [go_sem, h1, simprocAttr]
 | cons b r ih =>
  intro q N hq
  have hlen : q.length < A.length := by rw [hq]; simp
  have h1 : ((q.length : Int) < (A.length : Int)) := by omega
  have e0 : (0 : Int) ≤ (q.length : Int) := by omega
  have e7 : ((q.length : Nat) : Int).toNat = q.length := by omega
  have e1 : (A.map Ba.V)[q.length]? = some (.agg [.int .i64 b.base, .int .i64 b.prod, .int .i64 b.epoch, .int .i64 b.seq, .bool b.txn, .int .i64 b.mark, .list 2 (b.recs.map rcV) .ro]) := by rw [hq]; simp [Ba.V, Ba.cs]
  have e6 : IntKind.i64.wrap ((q.length : Int) + 1) = ((q.length + 1 : Nat) : Int) := by rw [wrap_id (by unfold I64; omega)]; omega
  have hbo := hA b (by rw [hq]; simp)
  have ts := fun H => ref_size_spec b hbo H
  have r1 := sizeE_range (b := b)
  have r2 := sizeL_range q
  have w1 : IntKind.i64.wrap (sizeL q + sizeE b) = sizeL (q ++ [b]) := by
   rw [sizeL_app, wrap_id (by unfold I64; omega)]; simp [sizeL]
  obtain ⟨M, h2⟩ := ih (q ++ [b]) (N ++ [.cells b.cs]) (by rw [hq]; simp)
  refine ⟨M, ?_⟩
  simp only [List.length_append, List.length_cons, List.length_nil, Nat.zero_add] at h2
  unfold Ba.V Ba.cs at *
  refine loop_step l_ref14_Model_size_0.eq_1 k_ref14_Model_size_0.eq_1 (by kernel_rfl) ?_
  simp only [go_sem, h1, e0, e7, e1, ts, w1, e6, simprocAttr]
  exact h2
theorem size_spec (cap start : Int) (L : List Ba) (hL : ∀ b ∈ L, Fit b) (hn : L.length ≤ 1000) (fl : Fl) (hfl : fl = .own ∨ (fl = .full ∧ L = [])) (i : Nat) (H : Heap) (hi : Old H i (mdB cap start L fl)) :
  W n_ref14_Model_size [.ptr i 0] H = some (.int .i64 (sizeL L), H) := by
 obtain ⟨M, h⟩ := size_loop L (fun b hb => (hL b hb).ok) hn H L [] [] rfl
 have g0 : ((([] : List Ba).length : Nat) : Int) = 0 := rfl
 have g1 : sizeL [] = 0 := rfl
 rw [g0, g1] at h
 have gj := hi.get
 unfold mdB at gj
 refine W_fn rfl rfl ?_
 rcases hfl with rfl | ⟨rfl, rfl⟩
 ·simp only [go_sem, c_ref14_Model_size, gj, List.length_map, h, simprocAttr]
 ·simp only [List.map_nil] at gj
  have h0 : ¬ ((0 : Int) < 0) := by omega
  have hl : loopA W loopW (.ghost (.kill k_ref14_Model_size_0) l_ref14_Model_size_0) [(3, .int .i64 0), (9, .list 7 [] .full), (10, .int .i64 0), (11, .int .i64 0)] (hx H []) = some (.exit 0, [(3, .int .i64 0)], hx H []) := by
   refine loop_step l_ref14_Model_size_0.eq_1 k_ref14_Model_size_0.eq_1 (by kernel_rfl) ?_
   simp only [go_sem, h0, Int.lt_irrefl, simprocAttr]
  simp only [go_sem, c_ref14_Model_size, gj, List.length_nil, Int.natCast_zero, hl, simprocAttr]
  rfl
def putR (cap start : Int) (L : List Ba) (b : Ba) : Int × Int :=
 if (tabCheck (foldL L []) b).2 ≠ 0 then (-1, (tabCheck (foldL L []) b).2)
 else if (tabCheck (foldL L []) b).1 ≥ 0 then ((tabCheck (foldL L []) b).1, 0)
 else if sizeL L + sizeE b > cap then (-1, 17)
 else if endE start L + countE b > 1099511627776 then (-1, 18)
 else (b.base, 0)
def putOK (cap start : Int) (L : List Ba) (b : Ba) : Bool :=
 decide ((tabCheck (foldL L []) b).2 = 0) && (decide ((tabCheck (foldL L []) b).1 < 0) && (decide (sizeL L + sizeE b ≤ cap) && decide (endE start L + countE b ≤ 1099511627776)))
theorem foldL_tk : ∀ (A : List Ba) (L : List Pr) (n : Nat), TK L n → TK (foldL A L) (n + A.length)
 | [], _, _, h => h
 | b :: A, L, n, h => by
  have := foldL_tk A (tabL L b) (n + 1) (h.next b)
  rw [show n + (b :: A).length = n + 1 + A.length by simp; omega]
  exact this
theorem endE_range (start : Int) (L : List Ba) (hL : ∀ b ∈ L, Fit b) (h0 : 0 ≤ start) (h1 : start ≤ 1099511627776) : 0 ≤ endE start L ∧ endE start L ≤ 1099511627792 := by
 unfold endE
 split
 ·omega
 ·rename_i b hb
  have hm := hL b (List.mem_of_getLast? hb)
  have := hm.base
  have := hm.count
  omega
set_option maxHeartbeats 1000000 in
theorem put_no (cap start : Int) (L : List Ba) (hL : ∀ b ∈ L, Fit b) (hn : L.length ≤ 900) (fl : Fl) (hfl : fl = .own ∨ (fl = .full ∧ L = [])) (h0 : 0 ≤ start) (hs1 : start ≤ 1099511627776) (b : Ba) (hb : BOK b) (hr : b.recs.length ≤ 1000)
  (i : Nat) (H : Heap) (hi : Old H i (mdB cap start L fl)) (hc : putOK cap start L b = false) :
  W n_ref14_Model_put [.ptr i 0, b.V] H = some (.tuple [.int .i64 (putR cap start L b).1, .int .i64 (putR cap start L b).2], H) := by
 obtain ⟨M, tf0⟩ := fold_spec L (fun b hb => (hL b hb).ok) (by omega) (hx H [.cells b.cs])
 obtain ⟨T, hT⟩ : ∃ T, tabB (foldL L []) (foldF L [] .full) = T := ⟨_, rfl⟩
 have tf : W n_ref10_Fold [.list 7 (L.map Ba.V) .ro] (hx H [.cells b.cs]) = some (.tuple [.ptr (pt H 1) 0, .list 3 ((foldD L []).map laV) (dFl (foldD L []))], hx H (.cells b.cs :: T :: M)) := by
  rw [tf0, hT]
  simp [hx, pt]
 have hfo := foldF_ok L [] .full (.inr ⟨rfl, rfl⟩)
 have hTK := foldL_tk L [] 0 ⟨by simp, by simp⟩
 have tc := fun M' => tab_check_spec (foldL L []) (hTK.ok (by omega)) (foldF L [] .full) hfo (pt H 1) (hx H (.cells b.cs :: T :: M')) ⟨by rw [hx_get, hT]; rfl⟩ b hb
 have tz := fun M' => size_spec cap start L hL (by omega) fl hfl i (hx H M') ⟨hi.get M'⟩
 have te := fun M' => model_end_spec cap start L hL (by omega) fl hfl i (hx H M') ⟨hi.get M'⟩
 have ts := fun H => ref_size_spec b hb H
 have tn := fun H => ref_count_spec b H
 rw [show (if b.mark = 0 then (b.recs.length : Int) else 1) = countE b from rfl] at tn
 have r1 := sizeE_range (b := b)
 have r2 := sizeL_range L
 have w1 : IntKind.i64.wrap (sizeL L + sizeE b) = sizeL L + sizeE b := wrap_id (by unfold I64; omega)
 have re := endE_range start L hL h0 hs1
 have rc : 0 ≤ countE b ∧ countE b ≤ 1000 := by unfold countE; split <;> omega
 have w2 : IntKind.i64.wrap (endE start L + countE b) = endE start L + countE b := wrap_id (by unfold I64; omega)
 have gj := hi.get
 unfold mdB at gj
 unfold putOK at hc
 unfold putR
 generalize tabCheck (foldL L []) b = R at *
 obtain ⟨ba, er⟩ := R
 obtain ⟨sz, hsz⟩ : ∃ sz, sizeL L + sizeE b = sz := ⟨_, rfl⟩
 obtain ⟨en, hen⟩ : ∃ en, endE start L + countE b = en := ⟨_, rfl⟩
 replace w1 := w1.trans hsz
 replace w2 := w2.trans hen
 simp only [hsz, hen] at hc tc ⊢
 unfold Ba.V Ba.cs at *
 by_cases c1 : er = 0
 ·subst c1
  rw [if_neg (by simp)]
  by_cases c2 : ba ≥ 0
  ·rw [if_pos c2]
   refine W_fn rfl rfl ?_
   rcases hfl with rfl | ⟨rfl, rfl⟩
   ·simp only [go_sem, c_ref14_Model_put, gj, tf, tc, c2, simprocAttr]
   ·simp only [List.map_nil] at gj tf
    simp only [go_sem, c_ref14_Model_put, gj, tf, tc, c2, simprocAttr]
  ·rw [if_neg c2]
   by_cases c3 : sz > cap
   ·rw [if_pos c3]
    refine W_fn rfl rfl ?_
    rcases hfl with rfl | ⟨rfl, rfl⟩
    ·simp only [go_sem, c_ref14_Model_put, gj, tf, tc, c2, tz, ts, w1, c3, simprocAttr]
    ·simp only [List.map_nil] at gj tf
     simp only [go_sem, c_ref14_Model_put, gj, tf, tc, c2, tz, ts, w1, c3, simprocAttr]
   ·rw [if_neg c3]
    have c4 : en > 1099511627776 := by
     simp at hc
     omega
    rw [if_pos c4]
    refine W_fn rfl rfl ?_
    rcases hfl with rfl | ⟨rfl, rfl⟩
    ·simp only [go_sem, c_ref14_Model_put, gj, tf, tc, c2, tz, ts, w1, c3, te, tn, w2, c4, simprocAttr]
    ·simp only [List.map_nil] at gj tf
     simp only [go_sem, c_ref14_Model_put, gj, tf, tc, c2, tz, ts, w1, c3, te, tn, w2, c4, simprocAttr]
 ·rw [if_pos c1]
  refine W_fn rfl rfl ?_
  rcases hfl with rfl | ⟨rfl, rfl⟩
  ·simp only [go_sem, c_ref14_Model_put, gj, tf, tc, c1, simprocAttr]
  ·simp only [List.map_nil] at gj tf
   simp only [go_sem, c_ref14_Model_put, gj, tf, tc, c1, simprocAttr]
set_option maxHeartbeats 1000000 in
theorem put_yes (cap start : Int) (L : List Ba) (hL : ∀ b ∈ L, Fit b) (hn : L.length ≤ 900) (fl : Fl) (hfl : fl = .own ∨ (fl = .full ∧ L = [])) (h0 : 0 ≤ start) (hs1 : start ≤ 1099511627776) (b : Ba) (hb : BOK b) (hr : b.recs.length ≤ 1000)
  (i : Nat) (H : Heap) (hi : Old H i (mdB cap start L fl)) (hc : putOK cap start L b = true) :
  W n_ref14_Model_put [.ptr i 0, b.V] H = some (.tuple [.int .i64 b.base, .int .i64 0], H.set i (mdB cap start (L ++ [b]) .own)) := by
 obtain ⟨M, tf0⟩ := fold_spec L (fun b hb => (hL b hb).ok) (by omega) (hx H [.cells b.cs])
 obtain ⟨T, hT⟩ : ∃ T, tabB (foldL L []) (foldF L [] .full) = T := ⟨_, rfl⟩
 have tf : W n_ref10_Fold [.list 7 (L.map Ba.V) .ro] (hx H [.cells b.cs]) = some (.tuple [.ptr (pt H 1) 0, .list 3 ((foldD L []).map laV) (dFl (foldD L []))], hx H (.cells b.cs :: T :: M)) := by
  rw [tf0, hT]
  simp [hx, pt]
 have hfo := foldF_ok L [] .full (.inr ⟨rfl, rfl⟩)
 have hTK := foldL_tk L [] 0 ⟨by simp, by simp⟩
 have tc := fun M' => tab_check_spec (foldL L []) (hTK.ok (by omega)) (foldF L [] .full) hfo (pt H 1) (hx H (.cells b.cs :: T :: M')) ⟨by rw [hx_get, hT]; rfl⟩ b hb
 have tz := fun M' => size_spec cap start L hL (by omega) fl hfl i (hx H M') ⟨hi.get M'⟩
 have te := fun M' => model_end_spec cap start L hL (by omega) fl hfl i (hx H M') ⟨hi.get M'⟩
 have ts := fun H => ref_size_spec b hb H
 have tn := fun H => ref_count_spec b H
 rw [show (if b.mark = 0 then (b.recs.length : Int) else 1) = countE b from rfl] at tn
 have r1 := sizeE_range (b := b)
 have r2 := sizeL_range L
 have w1 : IntKind.i64.wrap (sizeL L + sizeE b) = sizeL L + sizeE b := wrap_id (by unfold I64; omega)
 have re := endE_range start L hL h0 hs1
 have rc : 0 ≤ countE b ∧ countE b ≤ 1000 := by unfold countE; split <;> omega
 have w2 : IntKind.i64.wrap (endE start L + countE b) = endE start L + countE b := wrap_id (by unfold I64; omega)
 have gj := hi.get
 have gs := hi.set
 have gj' := hi.get'
 have gs' := hi.set'
 unfold mdB at gj gs gj' gs' ⊢
 unfold putOK at hc
 generalize tabCheck (foldL L []) b = R at *
 obtain ⟨ba, er⟩ := R
 obtain ⟨sz, hsz⟩ : ∃ sz, sizeL L + sizeE b = sz := ⟨_, rfl⟩
 obtain ⟨en, hen⟩ : ∃ en, endE start L + countE b = en := ⟨_, rfl⟩
 replace w1 := w1.trans hsz
 replace w2 := w2.trans hen
 simp only [hsz, hen] at hc tc
 have d : er = 0 ∧ ba < 0 ∧ sz ≤ cap ∧ en ≤ 1099511627776 := by simpa using hc
 obtain ⟨rfl, d2, d3, d4⟩ := d
 have c2 : ¬ ba ≥ 0 := by omega
 have c3 : ¬ sz > cap := by omega
 have c4 : ¬ en > 1099511627776 := by omega
 have b1 : b.recs.length * 32 ≤ maxBytes := by simp only [maxBytes]; omega
 have b1' : (0 + b.recs.length) * 32 ≤ maxBytes := by simp only [maxBytes]; omega
 have b2 : L.length * 72 ≤ maxBytes := by simp only [maxBytes]; omega
 have b2' : (0 + L.length) * 72 ≤ maxBytes := by simp only [maxBytes]; omega
 have b3 : (L.length + 1) * 72 ≤ maxBytes := by simp only [maxBytes]; omega
 have a1 : L.map Ba.V ++ [.agg [.int .i64 b.base, .int .i64 b.prod, .int .i64 b.epoch, .int .i64 b.seq, .bool b.txn, .int .i64 b.mark, .list 2 (b.recs.map rcV) .ro]] = (L ++ [b]).map Ba.V := by simp [Ba.V, Ba.cs]
 have fb : Box.flatB (.cells [.int .i64 cap, .int .i64 start, .list 7 ((L ++ [b]).map Ba.V) .own]) = true := by
  have u : ∀ (l : List Ba), AVal.underL 0 (l.map Ba.V) = true := by
   intro l
   induction l with
   | nil => rfl
   | cons x l ih => simp [Ba.V, Ba.cs, AVal.underL, AVal.under, under_rc, ih]
  simp only [Box.flatB, AVal.underL, AVal.under, u, Bool.and_self]
 unfold Ba.V Ba.cs at *
 refine W_fnS rfl rfl ?_
 rcases hfl with rfl | ⟨rfl, rfl⟩
 ·simp only [go_sem, c_ref14_Model_put, gj, gs, gj', gs', tf, tc, c2, tz, ts, w1, c3, te, tn, w2, c4, apF, apO, List.length_nil, List.length_map, Nat.zero_add, List.nil_append, b1, b2, b3, a1, fb, simprocAttr]
 ·simp only [List.map_nil, List.nil_append, List.map_cons] at gj gs gj' gs' tf fb ⊢
  have b5 : (0 + 0) * 72 ≤ maxBytes := by decide
  have b6 : (0 + 1) * 72 ≤ maxBytes := by decide
  simp only [go_sem, c_ref14_Model_put, gj, gs, gj', gs', tf, tc, c2, tz, ts, w1, c3, te, tn, w2, c4, apF, apO, List.length_nil, List.length_map, Nat.zero_add, List.nil_append, b1, b5, b6, fb, simprocAttr]
theorem under_bas (n : Nat) : ∀ (l : List Ba), AVal.underL n (l.map Ba.V) = true
 | [] => rfl
 | x :: l => by simp [Ba.V, Ba.cs, AVal.underL, AVal.under, under_rc, under_bas n l]
theorem mdB_flat (cap start L fl) : (mdB cap start L fl).flatB = true := by
 simp only [mdB, Box.flatB, AVal.underL, AVal.under, under_bas, Bool.and_self]
def atEnd (start : Int) (L : List Ba) (b : Ba) : Ba := { b with base := endE start L }
def prodOK (cap start : Int) (L : List Ba) (b : Ba) : Bool :=
 decide (rightE (atEnd start L b) = 0) && (decide (b.mark = 0) && putOK cap start L (atEnd start L b))
def prodL (cap start : Int) (L : List Ba) (b : Ba) : List Ba := if prodOK cap start L b = true then L ++ [atEnd start L b] else L
def prodF (cap start : Int) (L : List Ba) (b : Ba) (fl : Fl) : Fl := if prodOK cap start L b = true then .own else fl
theorem produce_spec (cap start : Int) (L : List Ba) (hL : ∀ b ∈ L, Fit b) (hn : L.length ≤ 900) (fl : Fl) (hfl : fl = .own ∨ (fl = .full ∧ L = [])) (h0 : 0 ≤ start) (hs1 : start ≤ 1099511627776) (b : Ba) (hb : BOK b) (hr : b.recs.length ≤ 1000)
  (i : Nat) (H : Heap) (hi : Old H i (mdB cap start L fl)) :
  ∃ x y, W n_ref14_Model_Produce [.ptr i 0, b.V] H = some (.tuple [.int .i64 x, .int .i64 y], H.set i (mdB cap start (prodL cap start L b) (prodF cap start L b fl))) := by
 have re := endE_range start L hL h0 hs1
 obtain ⟨b', hb'⟩ : ∃ b', atEnd start L b = b' := ⟨_, rfl⟩
 have hbo : BOK b' := by
  rw [← hb']
  exact ⟨by unfold I64 atEnd; simp only; omega, hb.prod, hb.epoch, hb.seq, hb.mark⟩
 have hrr : b'.recs.length ≤ 1000 := by rw [← hb']; exact hr
 have f1 : b'.base = endE start L := by rw [← hb']; rfl
 have f2 : b'.prod = b.prod := by rw [← hb']; rfl
 have f3 : b'.epoch = b.epoch := by rw [← hb']; rfl
 have f4 : b'.seq = b.seq := by rw [← hb']; rfl
 have f5 : b'.txn = b.txn := by rw [← hb']; rfl
 have f6 : b'.mark = b.mark := by rw [← hb']; rfl
 have f7 : b'.recs = b.recs := by rw [← hb']; rfl
 have te := fun M' => model_end_spec cap start L hL (by omega) fl hfl i (hx H M') ⟨hi.get M'⟩
 have tr := fun H => ref_right_spec b' hbo H
 have tn := fun M' => put_no cap start L hL hn fl hfl h0 hs1 b' hbo hrr i (hx H M') ⟨hi.get M'⟩
 have ty := fun M' => put_yes cap start L hL hn fl hfl h0 hs1 b' hbo hrr i (hx H M') ⟨hi.get M'⟩
 have gs := hi.set
 have hsame := hi.same
 unfold prodL prodF prodOK
 rw [hb']
 unfold Ba.V Ba.cs at *
 rw [f1, f2, f3, f4, f5, f6, f7] at tr tn ty
 by_cases c1 : rightE b' = 0
 ·rw [c1] at tr
  have d1 : decide (rightE b' = 0) = true := decide_eq_true c1
  by_cases c2 : b.mark = 0
  ·have d2 : decide (b.mark = 0) = true := decide_eq_true c2
   cases c3 : putOK cap start L b' with
   | false =>
    have tn' := fun M' => tn M' c3
    simp only [d1, d2, Bool.and_false, Bool.false_eq_true, if_false, hsame]
    refine ⟨(putR cap start L b').1, (putR cap start L b').2, ?_⟩
    refine W_fn rfl rfl ?_
    simp only [go_sem, c_ref14_Model_Produce, te, tr, tn', eq_true c2, simprocAttr]
   | true =>
    have ty' := fun M' => ty M' c3
    simp only [gs] at ty'
    simp only [d1, d2, Bool.and_true, if_true]
    refine ⟨endE start L, 0, ?_⟩
    refine W_fnS rfl rfl ?_
    simp only [go_sem, c_ref14_Model_Produce, te, tr, ty', eq_true c2, mdB_flat, simprocAttr]
  ·simp only [c1, c2, decide_true, decide_false, Bool.and_false, Bool.false_and, Bool.false_eq_true, if_false, hsame]
   refine ⟨-1, 16, ?_⟩
   refine W_fn rfl rfl ?_
   simp only [go_sem, c_ref14_Model_Produce, te, tr, c2, simprocAttr]
 ·simp only [c1, decide_false, Bool.false_and, Bool.false_eq_true, if_false, hsame]
  refine ⟨-1, rightE b', ?_⟩
  refine W_fn rfl rfl ?_
  simp only [go_sem, c_ref14_Model_Produce, te, tr, c1, simprocAttr]
def markB (start : Int) (L : List Ba) (prod epoch mark : Int) : Ba := ⟨endE start L, prod, epoch, -1, true, mark, []⟩
def markOK (cap start : Int) (L : List Ba) (prod epoch mark : Int) : Bool := !decide (mark = 0) && putOK cap start L (markB start L prod epoch mark)
def markL (cap start : Int) (L : List Ba) (prod epoch mark : Int) : List Ba := if markOK cap start L prod epoch mark = true then L ++ [markB start L prod epoch mark] else L
def markF (cap start : Int) (L : List Ba) (prod epoch mark : Int) (fl : Fl) : Fl := if markOK cap start L prod epoch mark = true then .own else fl
theorem mark_spec (cap start : Int) (L : List Ba) (hL : ∀ b ∈ L, Fit b) (hn : L.length ≤ 900) (fl : Fl) (hfl : fl = .own ∨ (fl = .full ∧ L = [])) (h0 : 0 ≤ start) (hs1 : start ≤ 1099511627776) (prod epoch mark : Int) (hp : I64 prod) (he : I64 epoch) (hm : I64 mark)
  (i : Nat) (H : Heap) (hi : Old H i (mdB cap start L fl)) :
  ∃ x y, W n_ref14_Model_Mark [.ptr i 0, .int .i64 prod, .int .i64 epoch, .int .i64 mark] H = some (.tuple [.int .i64 x, .int .i64 y], H.set i (mdB cap start (markL cap start L prod epoch mark) (markF cap start L prod epoch mark fl))) := by
 have re := endE_range start L hL h0 hs1
 obtain ⟨b', hb'⟩ : ∃ b', markB start L prod epoch mark = b' := ⟨_, rfl⟩
 have hbo : BOK b' := by
  rw [← hb']
  exact ⟨by unfold I64 markB; simp only; omega, hp, he, by unfold I64 markB; simp only; omega, hm⟩
 have te := fun M' => model_end_spec cap start L hL (by omega) fl hfl i (hx H M') ⟨hi.get M'⟩
 have hrr : b'.recs.length ≤ 1000 := by rw [← hb']; simp [markB]
 have tn := fun M' => put_no cap start L hL hn fl hfl h0 hs1 b' hbo hrr i (hx H M') ⟨hi.get M'⟩
 have ty := fun M' => put_yes cap start L hL hn fl hfl h0 hs1 b' hbo hrr i (hx H M') ⟨hi.get M'⟩
 have gs := hi.set
 have hsame := hi.same
 unfold markL markF markOK
 rw [hb']
 have hv : b'.V = .agg [.int .i64 (endE start L), .int .i64 prod, .int .i64 epoch, .int .i64 (-1), .bool true, .int .i64 mark, .list 2 [] .ro] := by rw [← hb']; rfl
 have hba : b'.base = endE start L := by rw [← hb']; rfl
 rw [hv] at tn ty
 rw [hba] at ty
 by_cases c2 : mark = 0
 ·have d2 : decide (mark = 0) = true := decide_eq_true c2
  simp only [d2, Bool.not_true, Bool.false_and, Bool.false_eq_true, if_false, hsame]
  refine ⟨-1, 12, ?_⟩
  refine W_fn rfl rfl ?_
  simp only [go_sem, c_ref14_Model_Mark, eq_true c2, simprocAttr]
 ·have d2 : decide (mark = 0) = false := decide_eq_false c2
  cases c3 : putOK cap start L b' with
  | false =>
   have tn' := fun M' => tn M' c3
   simp only [d2, Bool.not_false, Bool.and_false, Bool.false_eq_true, if_false, hsame]
   refine ⟨(putR cap start L b').1, (putR cap start L b').2, ?_⟩
   refine W_fn rfl rfl ?_
   simp only [go_sem, c_ref14_Model_Mark, te, tn', c2, simprocAttr]
  | true =>
   have ty' := fun M' => ty M' c3
   simp only [gs] at ty'
   simp only [d2, Bool.not_false, Bool.and_self, if_true]
   refine ⟨endE start L, 0, ?_⟩
   refine W_fnS rfl rfl ?_
   simp only [go_sem, c_ref14_Model_Mark, te, ty', c2, mdB_flat, simprocAttr]
theorem recs4_small (l a) : SmallR (recs4 l a).1 ∧ 0 < (recs4 l a).1.length ∧ (recs4 l a).1.any bigR = false := by
 have hr := nextV_range (l := l) (a := a) (n := 4) (by omega) (by omega)
 have hlen : (recs4 l a).1.length = (1 + nextV l a 4).toNat := recsT_len l _ _
 have hs := recsT_small l (1 + nextV l a 4).toNat (nextA l a 4)
 refine ⟨⟨by omega, fun x hx => ?_⟩, by omega, ?_⟩
 ·have := hs x hx; omega
 ·rw [List.any_eq_false]
  intro x hx
  have := hs x hx
  simp [bigR]; omega
structure TB (b : Ba) (base : Int) : Prop where
 ok : BOK b
 right : rightE b = 0
 base : b.base = base
theorem tapeBatch_right (l : List Int) (base : Int) (h0 : 0 ≤ base) (h1 : base ≤ 1099511627776) (a : Nat) : TB (tapeBatch l base a).1 base := by
 have data : ∀ b : Ba, b.base = base → b.mark = 0 → SmallR b.recs → 0 < b.recs.length → b.recs.any bigR = false → (noneB b || (namedB b && seqR b.seq)) = true → rightE b = 0 := by
  intro b e1 e2 e3 e4 e5 e6
  unfold rightE
  rw [if_neg (by omega), if_pos e2]
  unfold dataE
  rw [if_neg (by cases hn : noneB b <;> simp_all), if_neg (by omega), if_neg (by have := e3.1; omega), if_neg (by rw [e5]; decide)]
 have r1 := nextV_range (l := l) (a := a) (n := 4) (by omega) (by omega)
 have rr : ∀ a n, 1 ≤ n → n ≤ 1073741824 → 0 ≤ nextV l a n ∧ nextV l a n < n := fun a n hn hm => nextV_range hn hm
 unfold tapeBatch
 simp only
 split
 ·rename_i hp
  have hp1 : nextV l a 4 - 1 = -1 := by omega
  obtain ⟨s1, s2, s3⟩ := recs4_small l (nextA l a 4)
  refine ⟨⟨?_, ?_, ?_, ?_, ?_⟩, data _ rfl rfl s1 s2 s3 (by simp [noneB, hp1]), rfl⟩ <;> (unfold I64; simp only; omega)
 ·rename_i hp
  have q1 := rr (nextA l a 4) 3 (by omega) (by omega)
  split
  ·have q2 := rr (nextA l (nextA l (nextA l a 4) 3) 4) 2 (by omega) (by omega)
   refine ⟨⟨?_, ?_, ?_, ?_, ?_⟩, ?_, rfl⟩
   ·unfold I64; simp only; omega
   ·unfold I64; simp only; omega
   ·unfold I64; simp only; omega
   ·unfold I64; simp only; omega
   ·unfold I64; simp only; omega
   ·unfold rightE
    rw [if_neg (by simp only; omega), if_neg (by simp only; omega), if_neg]
    simp only [markE, namedB]
    have e1 : (decide (1 + nextV l (nextA l (nextA l (nextA l a 4) 3) 4) 2 ≠ 1) && decide (1 + nextV l (nextA l (nextA l (nextA l a 4) 3) 4) 2 ≠ 2)) = false := by
     by_cases h : 1 + nextV l (nextA l (nextA l (nextA l a 4) 3) 4) 2 = 1
     ·simp [h]
     ·have : 1 + nextV l (nextA l (nextA l (nextA l a 4) 3) 4) 2 = 2 := by omega
      simp [this]
    rw [e1]
    simp; omega
  ·have q3 := rr (nextA l (nextA l (nextA l a 4) 3) 4) 6 (by omega) (by omega)
   obtain ⟨s1, s2, s3⟩ := recs4_small l (nextA l (nextA l (nextA l (nextA l (nextA l a 4) 3) 4) 6) 2)
   split
   ·have q8 := rr (nextA l (recs4 l (nextA l (nextA l (nextA l (nextA l (nextA l a 4) 3) 4) 6) 2)).2 9) 3 (by omega) (by omega)
    refine ⟨⟨?_, ?_, ?_, ?_, ?_⟩, data _ rfl rfl s1 s2 s3 (by simp [namedB, seqR]; omega), rfl⟩ <;> (unfold I64; simp only; omega)
   ·refine ⟨⟨?_, ?_, ?_, ?_, ?_⟩, data _ rfl rfl s1 s2 s3 (by simp [namedB, seqR]; omega), rfl⟩ <;> (unfold I64; simp only; omega)
theorem tapeBatch_at (l : List Int) (base : Int) (a : Nat) (ha : a ≤ l.length) : (tapeBatch l base a).2 ≤ l.length := by
 unfold tapeBatch
 simp only
 split
 ·exact recs4_le (nextA_le ha)
 ·split
  ·exact nextA_le (nextA_le (nextA_le (nextA_le ha)))
  ·split
   ·exact nextA_le (nextA_le (recs4_le (nextA_le (nextA_le (nextA_le (nextA_le (nextA_le ha)))))))
   ·exact nextA_le (recs4_le (nextA_le (nextA_le (nextA_le (nextA_le (nextA_le ha))))))
theorem tapeBatch_recs (l : List Int) (base : Int) (a : Nat) : (tapeBatch l base a).1.recs.length ≤ 16 := by
 unfold tapeBatch
 simp only
 split
 ·exact (recs4_small l _).1.1
 ·split
  ·simp
  ·split
   ·exact (recs4_small l _).1.1
   ·exact (recs4_small l _).1.1
theorem i64_c {n : Int} (h : -9223372036854775808 ≤ n) (k : n ≤ 9223372036854775807) : I64 n := by unfold I64; omega
theorem Old.other {H i j B} (h : Old H j B) (hij : i ≠ j) (B') : Old (H.set i B') j B := ⟨by rw [List.getElem?_set_ne hij]; exact h.g⟩
structure PrOK (p : Pr) : Prop where
 id : I64 p.id
 epoch : I64 p.epoch
 open_ : I64 p.open_
 last : ∀ x ∈ p.last, I64 x.1 ∧ I64 x.2.1 ∧ I64 x.2.2
theorem lastS_i64 (n c : Int) : I64 (lastS n c) := by
 unfold lastS
 split
 ·exact i64_c (by omega) (by omega)
 ·unfold addS
  split
  ·exact i64_c (by omega) (by omega)
  ·exact i64_c (by omega) (by omega)
theorem zeroPr_ok : PrOK zeroPr := ⟨i64_c (by decide) (by decide), i64_c (by decide) (by decide), i64_c (by decide) (by decide), by simp [zeroPr]⟩
theorem applyP_ok {p : Pr} (h : PrOK p) (known : Bool) {b : Ba} (hb : BOK b) : PrOK (applyP p known b) := by
 have hl : ∀ x ∈ lastsP p known b, I64 x.1 ∧ I64 x.2.1 ∧ I64 x.2.2 := by
  unfold lastsP
  split
  ·exact h.last
  ·simp
 have ho : I64 (openP p known) := by
  unfold openP
  split
  ·exact h.open_
  ·exact i64_c (by decide) (by decide)
 unfold applyP
 split
 ·exact ⟨hb.prod, hb.epoch, show I64 (-1) from i64_c (by decide) (by decide), hl⟩
 ·refine ⟨hb.prod, hb.epoch, ?_, ?_⟩
  ·simp only; split
   ·exact hb.base
   ·exact ho
  ·intro x hx
   have hx' := List.mem_of_mem_drop hx
   unfold newL at hx'
   rw [List.mem_append] at hx'
   rcases hx' with hx' | hx'
   ·exact hl x hx'
   ·simp only [List.mem_cons, List.not_mem_nil, or_false] at hx'
    rw [hx']
    exact ⟨hb.seq, lastS_i64 _ _, hb.base⟩
theorem tabL_ok {L : List Pr} (h : ∀ p ∈ L, PrOK p) {b : Ba} (hb : BOK b) : ∀ p ∈ tabL L b, PrOK p := by
 unfold tabL
 split
 ·exact h
 ·split
  ·rename_i p hp
   intro q hq
   rcases List.mem_or_eq_of_mem_set hq with hq | rfl
   ·exact h q hq
   ·exact applyP_ok (h p (atP_mem hp).1) true hb
  ·intro q hq
   simp only [List.append_assoc, List.mem_append, List.mem_cons, List.not_mem_nil, or_false] at hq
   rcases hq with hq | rfl | hq
   ·exact h q (List.mem_of_mem_take hq)
   ·exact applyP_ok zeroPr_ok false hb
   ·exact h q (List.mem_of_mem_drop hq)
theorem foldL_ok : ∀ (A : List Ba) (L : List Pr), (∀ b ∈ A, BOK b) → (∀ p ∈ L, PrOK p) → ∀ p ∈ foldL A L, PrOK p
 | [], _, _, h => h
 | b :: A, L, hA, h => foldL_ok A (tabL L b) (fun x hx => hA x (List.mem_cons_of_mem _ hx)) (tabL_ok h (hA b List.mem_cons_self))
theorem foldL_TK : ∀ (A : List Ba) (L : List Pr) (n : Nat), TK L n → TK (foldL A L) (n + A.length)
 | [], _, _, h => h
 | b :: A, L, n, h => by
  have := foldL_TK A (tabL L b) (n + 1) (h.next b)
  rw [show n + (b :: A).length = n + 1 + A.length by simp only [List.length_cons]; omega]
  exact this
def seqAsk (p : Pr) : Int := match p.last.getLast? with
 | some x => (x.2.1 + 1) % 2147483648
 | none => 0
def askData (l : List Int) (b : Ba) (p : Pr) (a : Nat) : Ba × Nat :=
 let b1 : Ba := { b with epoch := p.epoch, seq := seqAsk p, txn := decide (p.open_ ≥ 0) || b.txn }
 if p.last = [] then (b1, a)
 else if nextV l a 7 = 0 then ({ b1 with seq := (p.last.getD (nextV l (nextA l a 7) p.last.length).toNat (0, 0, 0)).1 }, nextA l (nextA l a 7) p.last.length)
 else (b1, nextA l a 7)
def askStep (l : List Int) (s : Ba × Nat) (p : Pr) : Ba × Nat :=
 if p.id ≠ s.1.prod then s
 else if s.1.mark ≠ 0 then ({ s.1 with epoch := p.epoch }, s.2)
 else askData l s.1 p s.2
def askB (l : List Int) (L : List Ba) (a : Nat) : Ba × Nat :=
 let s := tapeBatch l 0 a
 if s.1.prod < 0 then s
 else if nextV l s.2 8 = 0 then (s.1, nextA l s.2 8)
 else (foldL L []).foldl (askStep l) (s.1, nextA l s.2 8)
structure AskOK (l : List Int) (s : Ba × Nat) : Prop where
 bok : BOK s.1
 at_ : s.2 ≤ l.length
 recs : s.1.recs.length ≤ 16
theorem askData_ok {l b p a} (hl : l.length ≤ 140737488355328) (h : AskOK l (b, a)) (hp : PrOK p) (hn : p.last.length ≤ 5) : AskOK l (askData l b p a) := by
 have hs : I64 (seqAsk p) := by
  unfold seqAsk
  split
  ·exact i64_c (by omega) (by omega)
  ·exact i64_c (by omega) (by omega)
 have h1 := nextA_le (n := 7) h.at_
 unfold askData
 simp only
 split
 ·exact ⟨⟨h.bok.base, h.bok.prod, hp.epoch, hs, h.bok.mark⟩, h.at_, h.recs⟩
 ·rename_i hne
  split
  ·refine ⟨⟨h.bok.base, h.bok.prod, hp.epoch, ?_, h.bok.mark⟩, nextA_le h1, h.recs⟩
   simp only
   have hpos : 0 < p.last.length := List.length_pos_iff.2 hne
   have r := nextV_range (l := l) (a := nextA l a 7) (n := p.last.length) (by omega) (by omega)
   rw [List.getD_eq_getElem?_getD]
   have : (nextV l (nextA l a 7) p.last.length).toNat < p.last.length := by omega
   rw [List.getElem?_eq_getElem this]
   exact (hp.last _ (List.getElem_mem this)).1
  ·exact ⟨⟨h.bok.base, h.bok.prod, hp.epoch, hs, h.bok.mark⟩, h1, h.recs⟩
theorem askStep_ok {l s p} (hl : l.length ≤ 140737488355328) (h : AskOK l s) (hp : PrOK p) (hn : p.last.length ≤ 5) : AskOK l (askStep l s p) := by
 unfold askStep
 split
 ·exact h
 ·split
  ·exact ⟨⟨h.bok.base, h.bok.prod, hp.epoch, h.bok.seq, h.bok.mark⟩, h.at_, h.recs⟩
  ·exact askData_ok hl h hp hn
theorem askFold_ok {l} (hl : l.length ≤ 140737488355328) : ∀ (P : List Pr) (s : Ba × Nat), AskOK l s → (∀ p ∈ P, PrOK p ∧ p.last.length ≤ 5) → AskOK l (P.foldl (askStep l) s)
 | [], _, h, _ => h
 | p :: P, s, h, hP => askFold_ok hl P (askStep l s p) (askStep_ok hl h (hP p List.mem_cons_self).1 (hP p List.mem_cons_self).2) (fun q hq => hP q (List.mem_cons_of_mem _ hq))
set_option maxHeartbeats 2000000 in
theorem ask_loop (l : List Int) (hl : l.length ≤ 140737488355328) (P : List Pr) (hP : ∀ p ∈ P, PrOK p ∧ p.last.length ≤ 5) (hn : P.length ≤ 1000000) (fl : Fl) (hfl : fl = .ro ∨ fl = .full) (i : Nat) (X : Box) (r : List Pr) : ∀ (q : List Pr) (s : Ba × Nat) (G N : Heap), P = q ++ r → AskOK l s → Old G i (tapeB l s.2) →
  ∃ M, loopA W loopW (.ghost (.kill k_keep_Tape_Ask_0) l_keep_Tape_Ask_0) [(0, .ptr i 0), (4, .ptr (pt G 0) 0), (5, .ptr (pt G 1) 0), (22, .list 4 (P.map Pr.V) fl), (23, .int .i64 (P.length : Nat)), (24, .int .i64 (q.length : Nat))] (hx G (X :: .cells s.1.cs :: N)) =
   some (.exit 0, [(4, .ptr (pt G 0) 0), (5, .ptr (pt G 1) 0)], hx (G.set i (tapeB l (r.foldl (askStep l) s).2)) (X :: .cells (r.foldl (askStep l) s).1.cs :: M)) := by
 induction r with
 | nil =>
  intro q s G N hq hs hi
  rw [List.append_nil] at hq
  subst hq
  refine ⟨N, ?_⟩
  have h1 : ¬ ((P.length : Int) < (P.length : Int)) := by omega
  rw [List.foldl_nil, hi.same]
  refine loop_step l_keep_Tape_Ask_0.eq_1 k_keep_Tape_Ask_0.eq_1 (by kernel_rfl) ?_
  simp only [go_sem, h1, simprocAttr]
 | cons p r ih =>
  intro q s G N hq hs hi
  obtain ⟨b, a⟩ := s
  have hlen : q.length < P.length := by rw [hq]; simp
  have h1 : ((q.length : Int) < (P.length : Int)) := by omega
  have e0 : (0 : Int) ≤ (q.length : Int) := by omega
  have e7 : ((q.length : Nat) : Int).toNat = q.length := by omega
  have e1 : (P.map Pr.V)[q.length]? = some (.agg [.int .i64 p.id, .int .i64 p.epoch, .list 3 (p.last.map laV) .ro, .int .i64 p.open_]) := by rw [hq]; simp [Pr.V, Pr.cs]
  have e6 : IntKind.i64.wrap ((q.length : Int) + 1) = ((q.length + 1 : Nat) : Int) := by rw [wrap_id (by unfold I64; omega)]; omega
  obtain ⟨hp, hp5⟩ := hP p (by rw [hq]; simp)
  have hs' := askStep_ok hl hs hp hp5
  rw [List.foldl_cons]
  have step := fun (s' : Ba × Nat) (e : askStep l (b, a) p = s') (N' : Heap) => ih (q ++ [p]) s' (G.set i (tapeB l s'.2)) N' (by rw [hq]; simp) (by rw [← e]; exact hs') (hi.step _)
  simp only [List.length_append, List.length_cons, List.length_nil, Nat.zero_add, pt_set, List.set_set] at step
  have hi' := hi.same
  simp only at hi hi' hs
  by_cases c0 : p.id = b.prod
  ·by_cases c1 : b.mark = 0
   ·have hst : askStep l (b, a) p = askData l b p a := by unfold askStep; rw [if_neg (by simpa using c0), if_neg (by simpa using c1)]
    rw [hst] at step ⊢
    rcases List.eq_nil_or_concat p.last with hl0 | ⟨l', x, hl0⟩
    ·have hq0 : seqAsk p = 0 := by unfold seqAsk; rw [hl0]; rfl
     by_cases c3 : p.open_ ≥ 0
     ·have e : askData l b p a = ({ b with epoch := p.epoch, seq := 0, txn := true }, a) := by
       unfold askData; rw [if_pos hl0, hq0, decide_eq_true c3, Bool.true_or]
      rw [e]
      obtain ⟨M, h2⟩ := step _ e (N ++ [.cells p.cs])
      refine ⟨M, ?_⟩
      simp only [hi'] at h2
      unfold Ba.cs Pr.cs at *
      rw [hl0, List.map_nil] at h2 e1
      refine loop_step l_keep_Tape_Ask_0.eq_1 k_keep_Tape_Ask_0.eq_1 (by kernel_rfl) ?_
      rcases hfl with rfl | rfl
      ·simp only [go_sem, h1, e0, e7, e1, eq_true c0, eq_true c1, e6, List.length_nil, Int.natCast_zero, gt_iff_lt, Int.lt_irrefl, c3, simprocAttr]
       exact h2
      ·simp only [go_sem, h1, e0, e7, e1, eq_true c0, eq_true c1, e6, List.length_nil, Int.natCast_zero, gt_iff_lt, Int.lt_irrefl, c3, simprocAttr]
       exact h2
     ·have e : askData l b p a = ({ b with epoch := p.epoch, seq := 0 }, a) := by
       unfold askData; rw [if_pos hl0, hq0, decide_eq_false c3, Bool.false_or]
      rw [e]
      obtain ⟨M, h2⟩ := step _ e (N ++ [.cells p.cs])
      refine ⟨M, ?_⟩
      simp only [hi'] at h2
      unfold Ba.cs Pr.cs at *
      rw [hl0, List.map_nil] at h2 e1
      refine loop_step l_keep_Tape_Ask_0.eq_1 k_keep_Tape_Ask_0.eq_1 (by kernel_rfl) ?_
      rcases hfl with rfl | rfl
      ·simp only [go_sem, h1, e0, e7, e1, eq_true c0, eq_true c1, e6, List.length_nil, Int.natCast_zero, gt_iff_lt, Int.lt_irrefl, c3, simprocAttr]
       exact h2
      ·simp only [go_sem, h1, e0, e7, e1, eq_true c0, eq_true c1, e6, List.length_nil, Int.natCast_zero, gt_iff_lt, Int.lt_irrefl, c3, simprocAttr]
       exact h2
    ·have hne : p.last ≠ [] := by rw [hl0]; simp
     have hx1 : p.last.getLast? = some x := by rw [hl0]; simp
     have hln : p.last.length = l'.length + 1 := by rw [hl0]; simp
     have hx2 := hp.last x (by rw [hl0]; simp)
     have hq0 : seqAsk p = (x.2.1 + 1) % 2147483648 := by unfold seqAsk; rw [hx1]
     have j1 : (p.last.length : Int) > 0 := by omega
     have w1 : IntKind.i64.wrap ((p.last.length : Int) - 1) = (l'.length : Int) := by rw [wrap_id (by unfold I64; omega)]; omega
     have j0 : (0 : Int) ≤ (l'.length : Int) := by omega
     have j7 : ((l'.length : Nat) : Int).toNat = l'.length := by omega
     have j2 : (p.last.map laV)[l'.length]? = some (.agg [.int .i64 x.1, .int .i64 x.2.1, .int .i64 x.2.2]) := by rw [hl0]; simp [laV]
     have w2 : bits .and .i64 (IntKind.i64.wrap (x.2.1 + 1)) 2147483647 = (x.2.1 + 1) % 2147483648 := by
      rw [and_seq, IntKind.wrap_i64]; omega
     have t1 := next_hx l hl a hs.at_ 7 i G hi
     have ha1 := nextA_le (n := 7) hs.at_
     have hi1 := hi.step (tapeB l (nextA l a 7))
     have t2 := next_hx l hl (nextA l a 7) ha1 (p.last.length : Nat) i _ hi1
     simp only [List.set_set] at t2
     have r2 := nextV_range (l := l) (a := nextA l a 7) (n := p.last.length) (by omega) (by omega)
     have j3 : (p.last.map laV)[(nextV l (nextA l a 7) p.last.length).toNat]? = some ((fun y => AVal.agg [.int .i64 y.1, .int .i64 y.2.1, .int .i64 y.2.2]) (p.last.getD (nextV l (nextA l a 7) p.last.length).toNat (0, 0, 0))) := by
      have : (nextV l (nextA l a 7) p.last.length).toNat < p.last.length := by omega
      rw [List.getElem?_map, List.getD_eq_getElem?_getD, List.getElem?_eq_getElem this]; rfl
     have j4 := r2.1
     by_cases c4 : nextV l a 7 = 0
     ·have e' : askData l b p a = ({ b with epoch := p.epoch, seq := (p.last.getD (nextV l (nextA l a 7) p.last.length).toNat (0, 0, 0)).1, txn := decide (p.open_ ≥ 0) || b.txn }, nextA l (nextA l a 7) p.last.length) := by
       unfold askData; rw [if_neg hne, if_pos c4]
      generalize nextA l (nextA l a 7) p.last.length = a2 at *
      generalize nextV l (nextA l a 7) p.last.length = v at *
      generalize p.last.getD v.toNat (0, 0, 0) = y at *
      generalize nextA l a 7 = a1 at *
      generalize nextV l a 7 = v1 at *
      by_cases c3 : p.open_ ≥ 0
      ·have e : askData l b p a = ({ b with epoch := p.epoch, seq := y.1, txn := true }, a2) := by rw [e', decide_eq_true c3, Bool.true_or]
       rw [e]
       obtain ⟨M, h2⟩ := step _ e (N ++ [.cells p.cs])
       refine ⟨M, ?_⟩
       simp only at j3
       unfold Ba.cs Pr.cs at *
       refine loop_step l_keep_Tape_Ask_0.eq_1 k_keep_Tape_Ask_0.eq_1 (by kernel_rfl) ?_
       rcases hfl with rfl | rfl
       ·simp only [go_sem, h1, e0, e7, e1, eq_true c0, eq_true c1, e6, List.length_map, j1, w1, j0, j7, j2, w2, c3, t1, eq_true c4, t2, j3, j4, simprocAttr]
        exact h2
       ·simp only [go_sem, h1, e0, e7, e1, eq_true c0, eq_true c1, e6, List.length_map, j1, w1, j0, j7, j2, w2, c3, t1, eq_true c4, t2, j3, j4, simprocAttr]
        exact h2
      ·have e : askData l b p a = ({ b with epoch := p.epoch, seq := y.1 }, a2) := by rw [e', decide_eq_false c3, Bool.false_or]
       rw [e]
       obtain ⟨M, h2⟩ := step _ e (N ++ [.cells p.cs])
       refine ⟨M, ?_⟩
       simp only at j3
       unfold Ba.cs Pr.cs at *
       refine loop_step l_keep_Tape_Ask_0.eq_1 k_keep_Tape_Ask_0.eq_1 (by kernel_rfl) ?_
       rcases hfl with rfl | rfl
       ·simp only [go_sem, h1, e0, e7, e1, eq_true c0, eq_true c1, e6, List.length_map, j1, w1, j0, j7, j2, w2, c3, t1, eq_true c4, t2, j3, j4, simprocAttr]
        exact h2
       ·simp only [go_sem, h1, e0, e7, e1, eq_true c0, eq_true c1, e6, List.length_map, j1, w1, j0, j7, j2, w2, c3, t1, eq_true c4, t2, j3, j4, simprocAttr]
        exact h2
     ·have e' : askData l b p a = ({ b with epoch := p.epoch, seq := (x.2.1 + 1) % 2147483648, txn := decide (p.open_ ≥ 0) || b.txn }, nextA l a 7) := by
       unfold askData; rw [if_neg hne, if_neg c4, hq0]
      clear t2 j3
      generalize nextA l a 7 = a1 at *
      generalize nextV l a 7 = v1 at *
      by_cases c3 : p.open_ ≥ 0
      ·have e : askData l b p a = ({ b with epoch := p.epoch, seq := (x.2.1 + 1) % 2147483648, txn := true }, a1) := by rw [e', decide_eq_true c3, Bool.true_or]
       rw [e]
       obtain ⟨M, h2⟩ := step _ e (N ++ [.cells p.cs])
       refine ⟨M, ?_⟩
       unfold Ba.cs Pr.cs at *
       refine loop_step l_keep_Tape_Ask_0.eq_1 k_keep_Tape_Ask_0.eq_1 (by kernel_rfl) ?_
       rcases hfl with rfl | rfl
       ·simp only [go_sem, h1, e0, e7, e1, eq_true c0, eq_true c1, e6, List.length_map, j1, w1, j0, j7, j2, w2, c3, t1, c4, simprocAttr]
        exact h2
       ·simp only [go_sem, h1, e0, e7, e1, eq_true c0, eq_true c1, e6, List.length_map, j1, w1, j0, j7, j2, w2, c3, t1, c4, simprocAttr]
        exact h2
      ·have e : askData l b p a = ({ b with epoch := p.epoch, seq := (x.2.1 + 1) % 2147483648 }, a1) := by rw [e', decide_eq_false c3, Bool.false_or]
       rw [e]
       obtain ⟨M, h2⟩ := step _ e (N ++ [.cells p.cs])
       refine ⟨M, ?_⟩
       unfold Ba.cs Pr.cs at *
       refine loop_step l_keep_Tape_Ask_0.eq_1 k_keep_Tape_Ask_0.eq_1 (by kernel_rfl) ?_
       rcases hfl with rfl | rfl
       ·simp only [go_sem, h1, e0, e7, e1, eq_true c0, eq_true c1, e6, List.length_map, j1, w1, j0, j7, j2, w2, c3, t1, c4, simprocAttr]
        exact h2
       ·simp only [go_sem, h1, e0, e7, e1, eq_true c0, eq_true c1, e6, List.length_map, j1, w1, j0, j7, j2, w2, c3, t1, c4, simprocAttr]
        exact h2
   ·have e : askStep l (b, a) p = ({ b with epoch := p.epoch }, a) := by unfold askStep; rw [if_neg (by simpa using c0), if_pos c1]
    rw [e]
    obtain ⟨M, h2⟩ := step _ e (N ++ [.cells p.cs])
    refine ⟨M, ?_⟩
    simp only [hi'] at h2
    unfold Ba.cs Pr.cs at *
    rcases hfl with rfl | rfl
    ·refine loop_step l_keep_Tape_Ask_0.eq_1 k_keep_Tape_Ask_0.eq_1 (by kernel_rfl) ?_
     simp only [go_sem, h1, e0, e7, e1, eq_true c0, c1, e6, simprocAttr]
     exact h2
    ·refine loop_step l_keep_Tape_Ask_0.eq_1 k_keep_Tape_Ask_0.eq_1 (by kernel_rfl) ?_
     simp only [go_sem, h1, e0, e7, e1, eq_true c0, c1, e6, simprocAttr]
     exact h2
  ·have e : askStep l (b, a) p = (b, a) := by unfold askStep; rw [if_pos (by simpa using c0)]
   rw [e]
   obtain ⟨M, h2⟩ := step _ e (N ++ [.cells p.cs])
   refine ⟨M, ?_⟩
   simp only [hi'] at h2
   unfold Ba.cs Pr.cs at *
   rcases hfl with rfl | rfl
   ·refine loop_step l_keep_Tape_Ask_0.eq_1 k_keep_Tape_Ask_0.eq_1 (by kernel_rfl) ?_
    simp only [go_sem, h1, e0, e7, e1, c0, e6, simprocAttr]
    exact h2
   ·refine loop_step l_keep_Tape_Ask_0.eq_1 k_keep_Tape_Ask_0.eq_1 (by kernel_rfl) ?_
    simp only [go_sem, h1, e0, e7, e1, c0, e6, simprocAttr]
    exact h2
set_option maxHeartbeats 1000000 in
theorem ask_spec (l : List Int) (hl : l.length ≤ 140737488355328) (a : Nat) (ha : a ≤ l.length) (i : Nat) (cap start : Int) (L : List Ba) (hL : ∀ b ∈ L, Fit b) (hn : L.length ≤ 900) (fl : Fl) (hfl : fl = .own ∨ (fl = .full ∧ L = [])) (j : Nat) (hij : i ≠ j) (H : Heap) (hi : Old H i (tapeB l a)) (hj : Old H j (mdB cap start L fl)) :
  W n_keep_Tape_Ask [.ptr i 0, .ptr j 0] H = some ((askB l L a).1.V, H.set i (tapeB l (askB l L a).2)) := by
 have hb := tapeBatch_right l 0 (by omega) (by omega) a
 have ha1 := tapeBatch_at l 0 a ha
 have hr1 := tapeBatch_recs l 0 a
 have t1 := fun M => tape_batch_spec l hl a ha 0 i (hx H M) ⟨hi.get M⟩
 simp only [hi.set] at t1
 have hi1 := hi.step (tapeB l (tapeBatch l 0 a).2)
 have hj1 := hj.other hij (tapeB l (tapeBatch l 0 a).2)
 unfold askB
 simp only
 generalize tapeBatch l 0 a = s at *
 obtain ⟨b, a1⟩ := s
 simp only at *
 by_cases c1 : b.prod < 0
 ·rw [if_pos c1]
  unfold Ba.V Ba.cs at *
  refine W_fnS rfl rfl ?_
  simp only [go_sem, c_keep_Tape_Ask, t1, c1, under_rc, tapeB_flat, simprocAttr]
 ·rw [if_neg c1]
  have t2 := next_hx l hl a1 ha1 8 i _ hi1
  simp only [List.set_set] at t2
  have ha2 := nextA_le (n := 8) ha1
  have hi2 := hi1.step (tapeB l (nextA l a1 8))
  have hj2 := hj1.other hij (tapeB l (nextA l a1 8))
  simp only [List.set_set] at hi2 hj2
  generalize nextA l a1 8 = a2 at *
  by_cases c2 : nextV l a1 8 = 0
  ·rw [if_pos c2]
   unfold Ba.V Ba.cs at *
   refine W_fnS rfl rfl ?_
   simp only [go_sem, c_keep_Tape_Ask, t1, c1, t2, c2, under_rc, tapeB_flat, simprocAttr]
  ·rw [if_neg c2]
   have hPr := foldL_ok L [] (fun b hb => (hL b hb).ok) (by simp)
   have hTK := foldL_TK L [] 0 ⟨by simp, by simp⟩
   obtain ⟨f', tp, hf⟩ := producers_spec cap start L hL (by omega) fl hfl j (hx (H.set i (tapeB l a2)) [.cells [.int .i64 0, .int .i64 0, .int .i64 0, .int .i64 0, .bool false, .int .i64 0, .list 2 [] .full], .cells b.cs]) ⟨hj2.get _⟩
   generalize foldL L [] = P at *
   have hPl : P.length ≤ 1000000 := by have := hTK.len; omega
   obtain ⟨M, h⟩ := ask_loop l hl P (fun p hp => ⟨hPr p hp, hTK.last p hp⟩) hPl f' hf i (.cells [.int .i64 0, .int .i64 0, .int .i64 0, .int .i64 0, .bool false, .int .i64 0, .list 2 [] .full]) P [] (b, a2) (H.set i (tapeB l a2)) [] rfl ⟨hb.ok, ha2, hr1⟩ hi2
   simp only [List.length_nil, Int.natCast_zero, pt_set, List.set_set] at h
   generalize P.foldl (askStep l) (b, a2) = s at *
   obtain ⟨b', a3⟩ := s
   unfold Ba.V Ba.cs at *
   refine W_fnS rfl rfl ?_
   rcases hf with rfl | rfl
   ·simp only [go_sem, c_keep_Tape_Ask, t1, c1, t2, c2, tp, List.length_map, h, under_rc, tapeB_flat, simprocAttr]
   ·simp only [go_sem, c_keep_Tape_Ask, t1, c1, t2, c2, tp, List.length_map, h, under_rc, tapeB_flat, simprocAttr]
end Go.Abs
