import Derived.Test.YtljlbcipngmdmaaBS5
set_option linter.unusedVariables false
set_option linter.unusedSimpArgs false
namespace Go.Abs
open Go Go.RowKit
theorem putOK_right {cap start L b} (h : putOK cap start L b = true) : rightE b = 0 := by
 unfold putOK at h
 rw [Bool.and_eq_true, decide_eq_true_eq] at h
 have h1 := h.1
 unfold tabCheck at h1
 by_cases c : rightE b = 0
 ·exact c
 ·rw [if_pos c] at h1; exact absurd h1 c
theorem putOK_end {cap start L b} (h : putOK cap start L b = true) : endE start L + countE b ≤ 1099511627776 := by
 unfold putOK at h
 simp only [Bool.and_eq_true, decide_eq_true_eq] at h
 exact h.2.2.2
theorem Fit.all {L : List Ba} {b : Ba} (h : ∀ b ∈ L, Fit b) (hb : Fit b) : ∀ x ∈ L ++ [b], Fit x := by
 intro x hx
 rw [List.mem_append, List.mem_singleton] at hx
 rcases hx with hx | rfl
 ·exact h x hx
 ·exact hb
theorem prodL_fit {cap start L b} (hL : ∀ b ∈ L, Fit b) (h0 : 0 ≤ start) (h1 : start ≤ 1099511627776) (hb : BOK b) : ∀ x ∈ prodL cap start L b, Fit x := by
 unfold prodL
 split
 ·rename_i h
  refine Fit.all hL ⟨?_, ?_⟩
  ·have re := endE_range start L hL h0 h1
   exact ⟨by unfold I64 atEnd; simp only; omega, hb.prod, hb.epoch, hb.seq, hb.mark⟩
  ·unfold prodOK at h
   rw [Bool.and_eq_true, decide_eq_true_eq] at h
   exact h.1
 ·exact hL
theorem markL_fit {cap start L p e m} (hL : ∀ b ∈ L, Fit b) (h0 : 0 ≤ start) (h1 : start ≤ 1099511627776) (hp : I64 p) (he : I64 e) (hm : I64 m) : ∀ x ∈ markL cap start L p e m, Fit x := by
 unfold markL
 split
 ·rename_i h
  have re := endE_range start L hL h0 h1
  refine Fit.all hL ⟨⟨by unfold I64 markB; simp only; omega, hp, he, show I64 (-1) from i64_c (by decide) (by decide), hm⟩, ?_⟩
  unfold markOK at h
  rw [Bool.and_eq_true] at h
  exact putOK_right h.2
 ·exact hL
theorem prodF_ok {cap start L b fl} (h : fl = .own ∨ (fl = .full ∧ L = [])) : prodF cap start L b fl = .own ∨ (prodF cap start L b fl = .full ∧ prodL cap start L b = []) := by
 unfold prodF prodL
 split
 ·exact .inl rfl
 ·exact h
theorem markF_ok {cap start L p e m fl} (h : fl = .own ∨ (fl = .full ∧ L = [])) : markF cap start L p e m fl = .own ∨ (markF cap start L p e m fl = .full ∧ markL cap start L p e m = []) := by
 unfold markF markL
 split
 ·exact .inl rfl
 ·exact h
theorem prodL_len {cap start L b} : (prodL cap start L b).length ≤ L.length + 1 := by unfold prodL; split <;> simp
theorem markL_len {cap start L p e m} : (markL cap start L p e m).length ≤ L.length + 1 := by unfold markL; split <;> simp
structure RS where
 L : List Ba
 at_ : Nat
 fl : Fl
def rowStep (l : List Int) (cap start : Int) (s : RS) : RS :=
 let b := (askB l s.L s.at_).1
 if b.mark = 0 then ⟨prodL cap start s.L b, (askB l s.L s.at_).2, prodF cap start s.L b s.fl⟩
 else ⟨markL cap start s.L b.prod b.epoch b.mark, (askB l s.L s.at_).2, markF cap start s.L b.prod b.epoch b.mark s.fl⟩
def rowGo (l : List Int) (cap start : Int) (most : Nat) : Nat → RS → RS
 | 0, s => s
 | k + 1, s => if s.L.length < most ∧ s.at_ < l.length then rowGo l cap start most k (rowStep l cap start s) else s
structure RI (l : List Int) (most : Nat) (s : RS) : Prop where
 fit : ∀ b ∈ s.L, Fit b
 len : s.L.length ≤ most
 at_ : s.at_ ≤ l.length
 fl : s.fl = .own ∨ (s.fl = .full ∧ s.L = [])
theorem askB_ok {l L a} (hl : l.length ≤ 140737488355328) (ha : a ≤ l.length) (hL : ∀ b ∈ L, Fit b) : AskOK l (askB l L a) := by
 have hb := tapeBatch_right l 0 (by omega) (by omega) a
 have ha1 := tapeBatch_at l 0 a ha
 have hr1 := tapeBatch_recs l 0 a
 have hPr := foldL_ok L [] (fun b hb => (hL b hb).ok) (by simp)
 have hTK := foldL_TK L [] 0 ⟨by simp, by simp⟩
 unfold askB
 simp only
 split
 ·exact ⟨hb.ok, ha1, hr1⟩
 ·split
  ·exact ⟨hb.ok, nextA_le ha1, hr1⟩
  ·exact askFold_ok hl _ _ ⟨hb.ok, nextA_le ha1, hr1⟩ (fun p hp => ⟨hPr p hp, hTK.last p hp⟩)
theorem RI.step {l most s cap start} (hl : l.length ≤ 140737488355328) (h0 : 0 ≤ start) (h1 : start ≤ 1099511627776) (h : RI l most s) (hm : s.L.length < most) : RI l most (rowStep l cap start s) := by
 have ha := askB_ok hl h.at_ h.fit
 unfold rowStep
 simp only
 split
 ·exact ⟨prodL_fit h.fit h0 h1 ha.bok, Nat.le_trans prodL_len hm, ha.at_, prodF_ok h.fl⟩
 ·exact ⟨markL_fit h.fit h0 h1 ha.bok.prod ha.bok.epoch ha.bok.mark, Nat.le_trans markL_len hm, ha.at_, markF_ok h.fl⟩
theorem RI.go {l most cap start} (hl : l.length ≤ 140737488355328) (h0 : 0 ≤ start) (h1 : start ≤ 1099511627776) : ∀ (k : Nat) (s : RS), RI l most s → RI l most (rowGo l cap start most k s)
 | 0, _, h => h
 | k + 1, s, h => by
  unfold rowGo
  split
  ·rename_i hc
   exact RI.go hl h0 h1 k _ (h.step hl h0 h1 hc.1)
  ·exact h
theorem hxg0 (H : Heap) (A B : Box) (N : Heap) : Old (hx H (A :: B :: N)) (pt H 0) A := ⟨by rw [hx_get]; rfl⟩
theorem hxg1 (H : Heap) (A B : Box) (N : Heap) : Old (hx H (A :: B :: N)) (pt H 1) B := ⟨by rw [hx_get]; rfl⟩
theorem pt_ne {H : Heap} {i j : Nat} (h : i ≠ j) : pt H i ≠ pt H j := by unfold pt; omega
set_option maxHeartbeats 2000000 in
theorem row_loop (l : List Int) (hl : l.length ≤ 140737488355328) (start : Int) (h0 : 0 ≤ start) (hs1 : start ≤ 1099511627776) (most : Nat) (hm : most ≤ 900) (H : Heap) (k : Nat) : ∀ (i : Nat) (s : RS) (N : Heap), i + k = 4 * most → RI l most s →
  ∃ M, loopA W loopW (.ghost (.kill k_keep_Row_0) l_keep_Row_0) [(0, .list 1 (ints .i64 l) .ro), (2, .int .i64 (most : Nat)), (7, .ptr (pt H 0) 0), (8, .ptr (pt H 1) 0), (9, .int .i64 (i : Nat))] (hx H (tapeB l s.at_ :: mdB 1073741824 start s.L s.fl :: N)) =
   some (.exit 0, [(8, .ptr (pt H 1) 0)], hx H (tapeB l (rowGo l 1073741824 start most k s).at_ :: mdB 1073741824 start (rowGo l 1073741824 start most k s).L (rowGo l 1073741824 start most k s).fl :: M)) := by
 have w4 : IntKind.i64.wrap (4 * (most : Int)) = 4 * (most : Int) := wrap_id (by unfold I64; omega)
 induction k with
 | zero =>
  intro i s N hi hs
  refine ⟨N, ?_⟩
  have h1 : ¬ ((i : Int) < 4 * (most : Int)) := by omega
  unfold rowGo
  refine loop_step l_keep_Row_0.eq_1 k_keep_Row_0.eq_1 (by kernel_rfl) ?_
  simp only [go_sem, w4, h1, simprocAttr]
 | succ k ih =>
  intro i s N hi hs
  have h1 : ((i : Int) < 4 * (most : Int)) := by omega
  unfold rowGo
  obtain ⟨L, a, fl⟩ := s
  have hs' := fun hc => RI.step (cap := 1073741824) (start := start) hl h0 hs1 hs hc
  have ha := askB_ok hl hs.at_ hs.fit
  have hfl := hs.fl
  have hfit := hs.fit
  have hle := hs.len
  have hat := hs.at_
  simp only at ha hfl hfit hle hat hs' ⊢
  by_cases c1 : L.length < most
  ·by_cases c2 : a < l.length
   ·rw [if_pos ⟨c1, c2⟩]
    have c1' : ((L.length : Int) < (most : Int)) := by omega
    have c2' : ((a : Int) < (l.length : Int)) := by omega
    have e6 : IntKind.i64.wrap ((i : Int) + 1) = ((i + 1 : Nat) : Int) := by rw [wrap_id (by unfold I64; omega)]; omega
    have ta := ask_spec l hl a hat (pt H 0) 1073741824 start L hfit (by omega) fl hfl (pt H 1) (pt_ne (by decide)) (hx H (tapeB l a :: mdB 1073741824 start L fl :: N)) (hxg0 _ _ _ _) (hxg1 _ _ _ _)
    simp only [hx_set, List.set_cons_zero] at ta
    have hst : rowStep l 1073741824 start ⟨L, a, fl⟩ = if (askB l L a).1.mark = 0 then ⟨prodL 1073741824 start L (askB l L a).1, (askB l L a).2, prodF 1073741824 start L (askB l L a).1 fl⟩
     else ⟨markL 1073741824 start L (askB l L a).1.prod (askB l L a).1.epoch (askB l L a).1.mark, (askB l L a).2, markF 1073741824 start L (askB l L a).1.prod (askB l L a).1.epoch (askB l L a).1.mark fl⟩ := rfl
    have hsn := hs' c1
    rw [hst] at hsn ⊢
    generalize askB l L a = r at *
    obtain ⟨b, a1⟩ := r
    simp only at ta ha hst hsn ⊢
    have hab := ha.bok
    have har := ha.recs
    simp only at hab har
    by_cases c3 : b.mark = 0
    ·rw [if_pos c3] at hsn ⊢
     obtain ⟨x, y, tp⟩ := produce_spec 1073741824 start L hfit (by omega) fl hfl h0 hs1 b hab (by omega) (pt H 1) (hx H (tapeB l a1 :: mdB 1073741824 start L fl :: (N ++ [.cells b.cs]))) (hxg1 _ _ _ _)
     simp only [hx_set, List.set_cons_succ, List.set_cons_zero] at tp
     obtain ⟨M, h2⟩ := ih (i + 1) _ (N ++ [.cells b.cs]) (by omega) hsn
     refine ⟨M, ?_⟩
     simp only at h2
     generalize prodL 1073741824 start L b = L' at *
     generalize prodF 1073741824 start L b fl = fl' at *
     generalize rowGo l 1073741824 start most k _ = R at *
     unfold Ba.V Ba.cs at *
     unfold tapeB mdB at *
     refine loop_step l_keep_Row_0.eq_1 k_keep_Row_0.eq_1 (by kernel_rfl) ?_
     rcases hfl with rfl | ⟨rfl, rfl⟩
     ·simp only [go_sem, w4, h1, List.length_map, c1', c2', ta, eq_true c3, tp, e6, simprocAttr]
      exact h2
     ·simp only [List.map_nil, List.length_nil, Int.natCast_zero] at ta tp c1' ⊢
      simp only [go_sem, w4, h1, List.length_map, List.length_nil, Int.natCast_zero, c1', c2', ta, eq_true c3, tp, e6, simprocAttr]
      exact h2
    ·rw [if_neg c3] at hsn ⊢
     obtain ⟨x, y, tp⟩ := mark_spec 1073741824 start L hfit (by omega) fl hfl h0 hs1 b.prod b.epoch b.mark hab.prod hab.epoch hab.mark (pt H 1) (hx H (tapeB l a1 :: mdB 1073741824 start L fl :: (N ++ [.cells b.cs]))) (hxg1 _ _ _ _)
     simp only [hx_set, List.set_cons_succ, List.set_cons_zero] at tp
     obtain ⟨M, h2⟩ := ih (i + 1) _ (N ++ [.cells b.cs]) (by omega) hsn
     refine ⟨M, ?_⟩
     simp only at h2
     generalize markL 1073741824 start L b.prod b.epoch b.mark = L' at *
     generalize markF 1073741824 start L b.prod b.epoch b.mark fl = fl' at *
     generalize rowGo l 1073741824 start most k _ = R at *
     unfold Ba.V Ba.cs at *
     unfold tapeB mdB at *
     refine loop_step l_keep_Row_0.eq_1 k_keep_Row_0.eq_1 (by kernel_rfl) ?_
     rcases hfl with rfl | ⟨rfl, rfl⟩
     ·simp only [go_sem, w4, h1, List.length_map, c1', c2', ta, c3, tp, e6, simprocAttr]
      exact h2
     ·simp only [List.map_nil, List.length_nil, Int.natCast_zero] at ta tp c1' ⊢
      simp only [go_sem, w4, h1, List.length_map, List.length_nil, Int.natCast_zero, c1', c2', ta, c3, tp, e6, simprocAttr]
      exact h2
   ·rw [if_neg (by omega)]
    have c1' : ((L.length : Int) < (most : Int)) := by omega
    have c2' : ¬ ((a : Int) < (l.length : Int)) := by omega
    refine ⟨N, ?_⟩
    simp only
    unfold tapeB mdB
    refine loop_step l_keep_Row_0.eq_1 k_keep_Row_0.eq_1 (by kernel_rfl) ?_
    rcases hfl with rfl | ⟨rfl, rfl⟩
    ·simp only [go_sem, w4, h1, List.length_map, c1', c2', simprocAttr]
    ·simp only [List.map_nil, List.length_nil, Int.natCast_zero] at c1' ⊢
     simp only [go_sem, w4, h1, List.length_map, List.length_nil, Int.natCast_zero, c1', c2', simprocAttr]
  ·rw [if_neg (by omega)]
   have c1' : ¬ ((L.length : Int) < (most : Int)) := by omega
   refine ⟨N, ?_⟩
   simp only
   unfold tapeB mdB
   refine loop_step l_keep_Row_0.eq_1 k_keep_Row_0.eq_1 (by kernel_rfl) ?_
   rcases hfl with rfl | ⟨rfl, rfl⟩
   ·simp only [go_sem, w4, h1, List.length_map, c1', simprocAttr]
   ·simp only [List.map_nil, List.length_nil, Int.natCast_zero] at c1' ⊢
    simp only [go_sem, w4, h1, List.length_map, List.length_nil, Int.natCast_zero, c1', simprocAttr]
def rowOf (l : List Int) (start : Int) (most : Nat) : List Ba := (rowGo l 1073741824 start most (4 * most) ⟨[], 0, .full⟩).L
theorem row_ri (l : List Int) (hl : l.length ≤ 140737488355328) (start : Int) (h0 : 0 ≤ start) (hs1 : start ≤ 1099511627776) (most : Nat) : RI l most (rowGo l 1073741824 start most (4 * most) ⟨[], 0, .full⟩) :=
 RI.go hl h0 hs1 _ _ ⟨by simp, by simp, by simp, .inr ⟨rfl, rfl⟩⟩
theorem under_bas' (n : Nat) (L : List Ba) : AVal.underL n (L.map Ba.V) = true := under_bas n L
theorem row_spec (l : List Int) (hl : l.length ≤ 140737488355328) (start : Int) (h0 : 0 ≤ start) (hs1 : start ≤ 1099511627776) (most : Nat) (hm : most ≤ 900) (H : Heap) :
  ∃ f, W n_keep_Row [.list 1 (ints .i64 l) .ro, .int .i64 start, .int .i64 (most : Nat)] H = some (.list 7 ((rowOf l start most).map Ba.V) f, H) ∧ (f = .ro ∨ (f = .full ∧ rowOf l start most = [])) := by
 obtain ⟨M, h⟩ := row_loop l hl start h0 hs1 most hm H (4 * most) 0 ⟨[], 0, .full⟩ [] (by omega) ⟨by simp, by simp, by simp, .inr ⟨rfl, rfl⟩⟩
 have hr := (row_ri l hl start h0 hs1 most).fl
 unfold rowOf
 generalize rowGo l 1073741824 start most (4 * most) ⟨[], 0, .full⟩ = R at *
 obtain ⟨L, a, fl⟩ := R
 simp only [Int.natCast_zero] at h hr ⊢
 unfold tapeB mdB at h
 simp only [List.map_nil, Int.natCast_zero] at h
 rcases hr with rfl | ⟨rfl, rfl⟩
 ·refine ⟨.ro, ?_, .inl rfl⟩
  refine W_fn rfl rfl ?_
  simp only [go_sem, c_keep_Row, h, under_bas, simprocAttr]
 ·refine ⟨.full, ?_, .inr ⟨rfl, rfl⟩⟩
  refine W_fn rfl rfl ?_
  simp only [go_sem, c_keep_Row, h, under_bas, simprocAttr]
abbrev prE (p : Pr) : AVal × AVal := (.int .i64 p.id, p.V)
abbrev mapB (M : List Pr) : Box := .map (M.map prE)
abbrev tblB (j : Nat) : Box := .cells [.map (some j)]
def idxM (id : Int) (M : List Pr) : Option Nat := M.findIdx? fun p => p.id == id
def getM (id : Int) (M : List Pr) : Option Pr := (idxM id M).bind fun i => M[i]?
def setM (M : List Pr) (x : Pr) : List Pr := match idxM x.id M with | some i => M.set i x | none => M ++ [x]
theorem findK_m (id : Int) (M : List Pr) : findK id (M.map prE) = idxM id M := by
 unfold findK idxM
 rw [List.findIdx?_map]
 rfl
theorem all_m (M : List Pr) : ((M.map prE).all fun p => keyOK .i64 p.1) = true := by
 rw [List.all_eq_true]
 intro p hp
 obtain ⟨q, _, rfl⟩ := List.mem_map.1 hp
 simp [keyOK]
abbrev zPr : AVal := .agg [.int .i64 0, .int .i64 0, .list 3 [] .full, .int .i64 0]
theorem getM_some {id : Int} {M : List Pr} {i : Nat} (h : idxM id M = some i) : ∃ p, M[i]? = some p ∧ getM id M = some p := by
 have h' := h
 unfold idxM at h'
 rw [List.findIdx?_eq_some_iff_getElem] at h'
 obtain ⟨hi, _⟩ := h'
 exact ⟨M[i], List.getElem?_eq_getElem hi, by unfold getM; rw [h]; simp [hi]⟩
theorem look_m (id : Int) (M : List Pr) (j : Nat) (H : Heap) (hj : H[j]? = some (mapB M)) :
  evLookup .i64 zPr true (.map (some j)) (.int .i64 id) H = some (.tuple [((getM id M).getD zeroPr).V, .bool (getM id M).isSome]) := by
 simp only [evLookup, hj]
 rw [if_pos ⟨trivial, all_m M⟩, findK_m]
 unfold lookA
 cases h : idxM id M with
 | none =>
  have : getM id M = none := by unfold getM; rw [h]; rfl
  rw [this]
  rfl
 | some i =>
  obtain ⟨p, h1, h2⟩ := getM_some h
  rw [h2]
  have : (M.map prE)[i]? = some (prE p) := by rw [List.getElem?_map, h1]; rfl
  simp only [this]
  rfl
theorem set_m (x : Pr) (M : List Pr) (j : Nat) (H : Heap) (hj : H[j]? = some (mapB M)) :
  evMapSet .i64 (.map (some j)) (.int .i64 x.id) x.V H = some (.tuple [], H.set j (mapB (setM M x))) := by
 simp only [evMapSet, hj]
 rw [if_pos ⟨trivial, all_m M, rfl⟩, findK_m]
 unfold setM
 cases h : idxM x.id M with
 | none =>
  simp only [setA]
  rw [show mapB (M ++ [x]) = .map (M.map prE ++ [prE x]) by simp [mapB]]
  rfl
 | some i =>
  simp only [setA]
  rw [show mapB (M.set i x) = .map ((M.map prE).set i (prE x)) by simp [mapB, List.map_set]]
  rfl
def stepM (M : List Pr) (b : Ba) : List Pr := if rightE b ≠ 0 ∨ b.prod < 0 then M else setM M (applyP ((getM b.prod M).getD zeroPr) (getM b.prod M).isSome b)
def stepD (M : List Pr) (b : Ba) : Option La :=
 if rightE b ≠ 0 ∨ b.prod < 0 then none
 else match getM b.prod M with
  | some p => if b.mark = 2 ∧ p.open_ ≥ 0 then some (b.prod, p.open_, b.base) else none
  | none => none
theorem applyP_id (p : Pr) (k : Bool) (b : Ba) : (applyP p k b).id = b.prod := by
 unfold applyP; split <;> rfl
theorem idxM_mem {id : Int} {M : List Pr} {i : Nat} (h : idxM id M = some i) : ∃ p, M[i]? = some p ∧ p.id = id := by
 unfold idxM at h
 rw [List.findIdx?_eq_some_iff_getElem] at h
 obtain ⟨hi, h1, _⟩ := h
 exact ⟨M[i], List.getElem?_eq_getElem hi, by simpa using h1⟩
theorem getM_find (id : Int) (M : List Pr) : getM id M = M.find? (fun p => p.id == id) := by
 unfold getM idxM
 induction M with
 | nil => rfl
 | cons p M ih =>
  rw [List.findIdx?_cons, List.find?_cons]
  cases h : p.id == id with
  | true => simp
  | false =>
   simp only [Bool.false_eq_true, if_false]
   rw [← ih]
   cases List.findIdx? (fun p => p.id == id) M <;> simp
theorem getM_set (id : Int) (M : List Pr) (x : Pr) : getM id (setM M x) = if id = x.id then some x else getM id M := by
 unfold setM
 cases h : idxM x.id M with
 | none =>
  simp only
  rw [getM_find, getM_find, List.find?_append]
  have hno : M.find? (fun p => p.id == x.id) = none := by rw [← getM_find]; unfold getM; rw [h]; rfl
  by_cases hid : id = x.id
  ·subst hid; rw [if_pos rfl, hno]; simp
  ·rw [if_neg hid]
   have : [x].find? (fun p => p.id == id) = none := by simp; exact fun e => hid e.symm
   rw [this]; cases M.find? (fun p => p.id == id) <;> rfl
 | some i =>
  simp only
  unfold idxM at h
  rw [List.findIdx?_eq_some_iff_getElem] at h
  obtain ⟨hi, h1, h2⟩ := h
  rw [getM_find, getM_find]
  induction M generalizing i with
  | nil => simp at hi
  | cons p M ih =>
   cases i with
   | zero =>
    simp only [List.set_cons_zero, List.find?_cons]
    simp only [List.getElem_cons_zero, beq_iff_eq] at h1
    by_cases hid : id = x.id
    ·subst hid; simp
    ·rw [if_neg hid]
     have e1 : (x.id == id) = false := by simp; exact fun e => hid e.symm
     have e2 : (p.id == id) = false := by simp; rw [h1]; exact fun e => hid e.symm
     rw [e1, e2]
   | succ i =>
    simp only [List.set_cons_succ, List.find?_cons]
    have h0 := h2 0 (by omega)
    simp only [List.getElem_cons_zero, Bool.not_eq_true] at h0
    have ih' := ih i (by simpa using hi) (by simpa using h1) (fun j hj => by simpa using h2 (j + 1) (by omega))
    by_cases hid : id = x.id
    ·subst hid
     rw [h0, if_pos rfl]; rw [if_pos rfl] at ih'; exact ih'
    ·rw [if_neg hid] at ih' ⊢
     rw [ih']
theorem flatB_m (M : List Pr) : Box.flatB (.map (M.map prE)) = true := by
 simp only [Box.flatB, List.all_eq_true, Bool.and_eq_true]
 intro p hp
 obtain ⟨q, _, rfl⟩ := List.mem_map.1 hp
 exact ⟨rfl, by show AVal.under 0 (.agg q.cs) = true; simp only [AVal.under]; exact under_pr 0 q⟩
theorem getM_mem {id : Int} {M : List Pr} {p : Pr} (h : getM id M = some p) : p ∈ M := by
 rw [getM_find] at h; exact List.mem_of_find?_eq_some h
theorem right_prod {b : Ba} (h : rightE b = 0) : -1 ≤ b.prod := by
 have key : noneB b = true ∨ namedB b = true := by
  unfold rightE at h
  split at h
  ·cases h
  split at h
  ·unfold dataE at h
   cases hn : noneB b with
   | true => exact .inl rfl
   | false =>
    cases hm : namedB b with
    | true => exact .inr rfl
    | false => simp [hn, hm] at h
  ·unfold markE at h
   cases hm : namedB b with
   | true => exact .inr rfl
   | false => simp [hm] at h
 rcases key with h1 | h1
 ·unfold noneB at h1
  simp at h1; omega
 ·unfold namedB at h1
  simp at h1; omega
set_option maxHeartbeats 2000000 in
theorem tbl_apply_spec (M : List Pr) (hM : ∀ p ∈ M, p.last.length ≤ 1000) (b : Ba) (hb : BOK b) (hr : b.recs.length ≤ 1000) (i j : Nat) (H : Heap) (hi : Old H i (tblB j)) (hj : Old H j (mapB M)) :
  W n_table_Table_Apply [.ptr i 0, b.V] H = some (.tuple [laV (optLa (stepD M b)), .bool (stepD M b).isSome], H.set j (mapB (stepM M b))) := by
 have tr := fun H => right_spec b hb H
 by_cases hc : rightE b ≠ 0 ∨ b.prod < 0
 ·rw [show stepD M b = none by unfold stepD; rw [if_pos hc], show stepM M b = M by unfold stepM; rw [if_pos hc], hj.same]
  by_cases c1 : rightE b = 0
  ·have c2 : b.prod = -1 := by
    have h2 : b.prod < 0 := by rcases hc with h | h; exact absurd c1 h; exact h
    have h3 := right_prod c1
    omega
   rw [c1] at tr
   unfold Ba.V Ba.cs at *
   refine W_fn rfl rfl ?_
   simp only [go_sem, c_table_Table_Apply, tr, eq_true c2, simprocAttr]
   rfl
  ·unfold Ba.V Ba.cs at *
   refine W_fn rfl rfl ?_
   simp only [go_sem, c_table_Table_Apply, tr, c1, simprocAttr]
   rfl
 ·have c1 : rightE b = 0 := by omega
  have c2 : ¬ b.prod = -1 := by omega
  rw [c1] at tr
  rw [show stepM M b = setM M (applyP ((getM b.prod M).getD zeroPr) (getM b.prod M).isSome b) by unfold stepM; rw [if_neg hc]]
  have hq : ((getM b.prod M).getD zeroPr).last.length ≤ 1000 := by
   cases h : getM b.prod M with
   | none => simp [zeroPr]
   | some p => exact hM p (getM_mem h)
  have hd : stepD M b = if (getM b.prod M).isSome = true ∧ b.mark = 2 ∧ ((getM b.prod M).getD zeroPr).open_ ≥ 0 then some (b.prod, ((getM b.prod M).getD zeroPr).open_, b.base) else none := by
   unfold stepD
   rw [if_neg hc]
   cases h : getM b.prod M with
   | none => simp
   | some p => simp
  rw [hd]
  have lk := fun N => look_m b.prod M j (hx H N) (hj.get N)
  generalize (getM b.prod M).getD zeroPr = q at *
  generalize (getM b.prod M).isSome = known at *
  have hxid := applyP_id q known b
  have tp := fun H => papply_spec q known b hq hr H
  have sm : ∀ N, evMapSet .i64 (.map (some j)) (.int .i64 b.prod) (applyP q known b).V (hx H N) = some (.tuple [], hx (H.set j (mapB (setM M (applyP q known b)))) N) := fun N => by
   have := set_m (applyP q known b) M j (hx H N) (hj.get N)
   rw [hxid, hj.set] at this
   exact this
  generalize applyP q known b = x at *
  have fm := flatB_m (setM M x)
  generalize setM M x = M2 at *
  have gi := hi.get
  unfold Pr.V Pr.cs at *
  unfold Ba.V Ba.cs at *
  refine W_fnS rfl rfl ?_
  cases known with
  | false =>
   rw [if_neg (by simp)]
   by_cases c3 : b.mark = 2
   ·simp only [go_sem, c_table_Table_Apply, tr, c2, gi, lk, tp, sm, eq_true c3, fm, simprocAttr]
    rfl
   ·simp only [go_sem, c_table_Table_Apply, tr, c2, gi, lk, tp, sm, c3, fm, simprocAttr]
    rfl
  | true =>
   by_cases c3 : b.mark = 2
   ·by_cases c4 : q.open_ ≥ 0
    ·rw [if_pos ⟨rfl, c3, c4⟩]
     have c5 : ¬ q.open_ < 0 := by omega
     simp only [go_sem, c_table_Table_Apply, tr, c2, gi, lk, tp, sm, eq_true c3, c5, fm, simprocAttr]
     rfl
    ·rw [if_neg (fun h => c4 h.2.2)]
     have c5 : q.open_ < 0 := by omega
     simp only [go_sem, c_table_Table_Apply, tr, c2, gi, lk, tp, sm, eq_true c3, c5, fm, simprocAttr]
     rfl
   ·rw [if_neg (fun h => c3 h.2.1)]
    simp only [go_sem, c_table_Table_Apply, tr, c2, gi, lk, tp, sm, c3, fm, simprocAttr]
    rfl
end Go.Abs
namespace Go.Abs.Pq
open Go Go.RowKit
theorem follows_spec (l f : Int) (H : Heap) : W n_seq_Follows [.int .i64 l, .int .i64 f] H = some (.bool (followsQ l f), H) := by
 have hs := right_spec l
 have ha := fun H => add_spec l 1 H (by decide) (by decide)
 refine W_fn rfl rfl ?_
 by_cases h1 : l = -1
 ·simp only [go_sem, c_seq_Follows, h1, followsQ, simprocAttr]
 ·cases h : rightQ l with
  | false => rw [h] at hs; simp only [go_sem, c_seq_Follows, h1, hs, followsQ, h, simprocAttr]
  | true => rw [h] at hs; simp only [go_sem, c_seq_Follows, h1, hs, ha, followsQ, h, simprocAttr]
theorem marker_spec (p : Pr) (k : Bool) (b : Ba) (H : Heap) : W n_producer_marker [p.v, .bool k, b.v] H = some (.int .i64 (if k = false then 16 else if b.ep < p.ep then 14 else if p.op < 0 then 16 else 0), H) := by
 refine W_fn rfl rfl ?_
 cases k
 ·simp only [go_sem, c_producer_marker, simprocAttr]
 ·by_cases h1 : b.ep < p.ep
  ·simp only [go_sem, c_producer_marker, h1, simprocAttr]
  ·by_cases h2 : p.op < 0
   ·simp only [go_sem, c_producer_marker, h1, h2, simprocAttr]
   ·simp only [go_sem, c_producer_marker, h1, h2, simprocAttr]
theorem later_spec (p : Pr) (b : Ba) (H : Heap) : W n_producer_later [p.v, b.v] H = some (.int .i64 (if p.op ≥ 0 then 16 else if b.seq ≠ 0 then 15 else 0), H) := by
 refine W_fn rfl rfl ?_
 by_cases h1 : p.op ≥ 0
 ·simp only [go_sem, c_producer_later, h1, simprocAttr]
 ·by_cases h2 : b.seq = 0
  ·simp only [go_sem, c_producer_later, h1, h2, simprocAttr]
  ·simp only [go_sem, c_producer_later, h1, h2, simprocAttr]
theorem dup_loop (p : Pr) (b : Ba) (q : List (Int × Int × Int)) (i j : Nat) (hl : p.last.length < 1000000000) : ∀ (r s : List (Int × Int × Int)) (H : Heap), p.last = s ++ r → H[i]? = some (.cells [.int .i64 p.id, .int .i64 p.ep, lastV p.last .ro, .int .i64 p.op]) →
  H[j]? = some (.cells [.int .i64 b.base, .int .i64 b.prod, .int .i64 b.ep, .int .i64 b.seq, .bool b.txn, .int .i64 b.mark, .list 2 b.recs .ro]) → 
  ∃ N, loopA W loopW (.ghost (.kill k_producer_Dup_0) l_producer_Dup_0) [(2, .ptr i 0), (3, .ptr j 0), (6, .int .i64 (lastQ b.seq b.recs.length)), (16, lastV p.last .ro), (17, .int .i64 p.last.length), (18, .int .i64 (s.length : Int))] H =
   if (dupQ p b r).2 = true then some (.ret, [(4, .int .i64 (dupQ p b r).1), (5, .bool true)], hx H N) else some (.exit 0, [], hx H N) := by
 intro r
 induction r with
 | nil =>
  intro s H hp hi hj
  refine ⟨[], ?_⟩
  rw [List.append_nil] at hp
  have h1 : ¬ ((s.length : Int) < (p.last.length : Int)) := by rw [hp]; omega
  have e0 : (dupQ p b []).2 = false := rfl
  rw [e0, if_neg (by decide), hx_nil]
  refine loop_step l_producer_Dup_0.eq_1 k_producer_Dup_0.eq_1 (by kernel_rfl) ?_
  simp only [go_sem, h1, simprocAttr]
 | cons l r ih =>
  intro s H hp hi hj
  have hlen : p.last.length = s.length + (r.length + 1) := by rw [hp, List.length_append, List.length_cons]
  have h1 : (s.length : Int) < (p.last.length : Int) := by omega
  have h2 : (0 : Int) ≤ (s.length : Int) := by omega
  have h3 : (p.last.map t3)[((s.length : Nat) : Int).toNat]? = some (t3 l) := by rw [hp]; simp
  have e1 : IntKind.i64.wrap ((s.length : Int) + 1) = ((s ++ [l]).length : Int) := by rw [wrap_id (by unfold I64; omega)]; simp
  have gi := hx_old hi
  have gj := hx_old hj
  by_cases hc : b.mark = 0 ∧ b.ep = p.ep ∧ l.1 = b.seq ∧ l.2.1 = lastQ b.seq b.recs.length
  ·have e : dupQ p b (l :: r) = (l.2.2, true) := by rw [dupQ, if_pos hc]
   refine ⟨[.cells [.int .i64 l.1, .int .i64 l.2.1, .int .i64 l.2.2]], ?_⟩
   rw [e, if_pos rfl]
   refine loop_step l_producer_Dup_0.eq_1 k_producer_Dup_0.eq_1 (by kernel_rfl) ?_
   rw [← hx_nil H]
   obtain ⟨c1, c2, c3, c4⟩ := hc
   simp only [go_sem, h1, h2, h3, e1, gi, gj, c1, c2, c3, c4, simprocAttr]
  ·have e : dupQ p b (l :: r) = dupQ p b r := by rw [dupQ, if_neg hc]
   obtain ⟨N, hN⟩ := ih (s ++ [l]) (hx H [.cells [.int .i64 l.1, .int .i64 l.2.1, .int .i64 l.2.2]]) (by rw [hp]; simp) (gi _) (gj _)
   refine ⟨.cells [.int .i64 l.1, .int .i64 l.2.1, .int .i64 l.2.2] :: N, ?_⟩
   rw [e]
   rw [hx_hx, List.cons_append, List.nil_append] at hN
   have step : ∀ R, loopA W loopW (.ghost (.kill k_producer_Dup_0) l_producer_Dup_0) [(2, .ptr i 0), (3, .ptr j 0), (6, .int .i64 (lastQ b.seq b.recs.length)), (16, lastV p.last .ro), (17, .int .i64 p.last.length), (18, .int .i64 ((s ++ [l]).length : Int))] (hx H [.cells [.int .i64 l.1, .int .i64 l.2.1, .int .i64 l.2.2]]) = some R →
     loopA W loopW (.ghost (.kill k_producer_Dup_0) l_producer_Dup_0) [(2, .ptr i 0), (3, .ptr j 0), (6, .int .i64 (lastQ b.seq b.recs.length)), (16, lastV p.last .ro), (17, .int .i64 p.last.length), (18, .int .i64 (s.length : Int))] H = some R := by
    intro R hR
    refine loop_step l_producer_Dup_0.eq_1 k_producer_Dup_0.eq_1 (by kernel_rfl) ?_
    rw [← hx_nil H]
    by_cases c1 : b.mark = 0
    ·by_cases c2 : b.ep = p.ep
     ·by_cases c3 : l.1 = b.seq
      ·have c4 : ¬ l.2.1 = lastQ b.seq b.recs.length := fun h => hc ⟨c1, c2, c3, h⟩
       simp only [go_sem, h1, h2, h3, e1, gi, gj, c1, c2, c3, c4, simprocAttr]; rw [c3] at hR; exact hR
      ·simp only [go_sem, h1, h2, h3, e1, gi, gj, c1, c2, c3, simprocAttr]; exact hR
     ·simp only [go_sem, h1, h2, h3, e1, gi, gj, c1, c2, simprocAttr]; exact hR
    ·simp only [go_sem, h1, h2, h3, e1, gi, gj, c1, simprocAttr]; exact hR
   split <;> rename_i h
   ·rw [if_pos h] at hN; exact step _ hN
   ·rw [if_neg h] at hN; exact step _ hN
theorem dupQ_false (p : Pr) (b : Ba) : ∀ r, (dupQ p b r).2 = false → dupQ p b r = (-1, false)
 | [], _ => rfl
 | l :: r, h => by
  rw [dupQ] at h ⊢
  split at h
  ·cases h
  ·rename_i hc; rw [if_neg hc]; exact dupQ_false p b r h
theorem dup_spec (p : Pr) (b : Ba) (H : Heap) (hl : p.last.length < 1000000000) (hr : b.recs.length < 1000000000) :
  W n_producer_Dup [p.v, b.v] H = some (.tuple [.int .i64 (dupQ p b p.last).1, .bool (dupQ p b p.last).2], H) := by
 obtain ⟨N, hN⟩ := dup_loop p b p.last (pt H 0) (pt H 1) hl p.last [] (hx H [.cells [.int .i64 p.id, .int .i64 p.ep, lastV p.last .ro, .int .i64 p.op], .cells [.int .i64 b.base, .int .i64 b.prod, .int .i64 b.ep, .int .i64 b.seq, .bool b.txn, .int .i64 b.mark, .list 2 b.recs .ro]])
  rfl (by rw [hx_get]; rfl) (by rw [hx_get]; rfl)
 have hlast := fun H => last_spec b.seq (b.recs.length : Int) H (by unfold I64; omega)
 refine W_fn rfl rfl ?_
 have e0 : ((([] : List (Int × Int × Int)).length : Nat) : Int) = 0 := rfl
 have e1 : (p.last.map t3).length = p.last.length := by simp
 rw [e0] at hN
 cases h : (dupQ p b p.last).2 with
 | true =>
  rw [h, if_pos rfl] at hN
  simp only [go_sem, c_producer_Dup, hlast, hN, e1, simprocAttr]
 | false =>
  rw [h, if_neg (by decide)] at hN
  have := dupQ_false p b p.last h
  simp only [go_sem, c_producer_Dup, hlast, hN, e1, this, simprocAttr]
theorem check_spec (p : Pr) (k : Bool) (b : Ba) (H : Heap) (hl : p.last.length < 1000000000) (hr : b.recs.length < 1000000000) :
  W n_producer_Check [p.v, .bool k, b.v] H = some (.tuple [.int .i64 (checkQ p k b).1, .int .i64 (checkQ p k b).2], H) := by
 have hm := marker_spec p k b
 have hla := later_spec p b
 have hd := fun H => dup_spec p b H hl hr
 have e2 : (p.last.map t3).length = p.last.length := by simp
 refine W_fn rfl rfl ?_
 by_cases c1 : b.mark = 0
 ·cases k with
  | false => simp only [go_sem, c_producer_Check, eq_true c1, checkQ, simprocAttr]
  | true =>
   by_cases c2 : b.ep < p.ep
   ·simp only [go_sem, c_producer_Check, eq_true c1, c2, checkQ, simprocAttr]
   ·by_cases c3 : b.ep > p.ep
    ·simp only [go_sem, c_producer_Check, eq_true c1, c2, c3, checkQ, hla, simprocAttr]
    ·cases hq : (dupQ p b p.last).2 with
     | true => simp only [go_sem, c_producer_Check, eq_true c1, c2, c3, checkQ, hd, hq, simprocAttr]
     | false =>
      rcases List.eq_nil_or_concat p.last with h0 | ⟨s, l, h0⟩
      ·have e1 : ¬ ((p.last.length : Int) > 0) := by rw [h0]; simp
       by_cases c4 : p.op ≥ 0
       ·cases ht : b.txn <;> simp only [Ba.v, ht] at hd
        ·simp only [go_sem, c_producer_Check, eq_true c1, c2, c3, c4, checkQ, hd, hq, eq_true h0, e1, e2, ht, simprocAttr]
        ·simp only [go_sem, c_producer_Check, eq_true c1, c2, c3, c4, checkQ, hd, hq, eq_true h0, e1, e2, ht, simprocAttr]
       ·simp only [go_sem, c_producer_Check, eq_true c1, c2, c3, c4, checkQ, hd, hq, eq_true h0, e1, e2, simprocAttr]
      ·have hn : p.last ≠ [] := by rw [h0]; simp
       have e1 : (p.last.length : Int) > 0 := by rw [h0]; simp
       have e3 : IntKind.i64.wrap ((p.last.length : Int) - 1) = ((p.last.length - 1 : Nat) : Int) := by rw [wrap_id (by unfold I64; omega)]; omega
       have e4 : (p.last.map t3)[((p.last.length - 1 : Nat) : Int).toNat]? = some (t3 l) := by rw [h0]; simp
       have e5 : p.last.getLastD (0, 0, 0) = l := by rw [h0]; simp
       have e6 : (0 : Int) ≤ ((p.last.length - 1 : Nat) : Int) := by omega
       have hf := follows_spec l.2.1 b.seq
       cases hfq : followsQ l.2.1 b.seq with
       | false =>
        rw [hfq] at hf
        simp only [go_sem, c_producer_Check, eq_true c1, c2, c3, checkQ, hd, hq, hn, e1, e2, e3, e4, e5, e6, hf, hfq, simprocAttr]
       | true =>
        rw [hfq] at hf
        by_cases c4 : p.op ≥ 0
        ·cases ht : b.txn <;> simp only [Ba.v, ht] at hd
         ·simp only [go_sem, c_producer_Check, eq_true c1, c2, c3, checkQ, hd, hq, hn, e1, e2, e3, e4, e5, e6, hf, hfq, c4, ht, simprocAttr]
         ·simp only [go_sem, c_producer_Check, eq_true c1, c2, c3, checkQ, hd, hq, hn, e1, e2, e3, e4, e5, e6, hf, hfq, c4, ht, simprocAttr]
        ·simp only [go_sem, c_producer_Check, eq_true c1, c2, c3, checkQ, hd, hq, hn, e1, e2, e3, e4, e5, e6, hf, hfq, c4, simprocAttr]
 ·simp only [go_sem, c_producer_Check, c1, checkQ, hm, simprocAttr]
end Go.Abs.Pq
namespace Go.Abs
open Go Go.RowKit
theorem followsQ_eq (l f : Int) : Pq.followsQ l f = followsS l f := by
 unfold Pq.followsQ followsS
 rw [rightQ_eq, addQ_eq]
 congr 1
 by_cases h : f = addS l 1
 ·rw [decide_eq_true h, decide_eq_true h.symm]
 ·rw [decide_eq_false h, decide_eq_false (fun k => h k.symm)]
theorem dupQ_eq (p : Pr) (b : Ba) : ∀ l, Pq.dupQ (toP p) (toB b) l = if b.epoch = p.epoch ∧ b.mark = 0 then ((dupIn b.seq b.recs.length l).getD (-1), (dupIn b.seq b.recs.length l).isSome) else (-1, false)
 | [] => by unfold Pq.dupQ dupIn; split <;> rfl
 | x :: l => by
  unfold Pq.dupQ dupIn
  rw [dupQ_eq p b l]
  simp only [toP, toB, List.length_map, lastQ_eq]
  by_cases c : b.epoch = p.epoch ∧ b.mark = 0
  ·rw [if_pos c, if_pos c]
   by_cases h : x.1 = b.seq ∧ x.2.1 = lastS b.seq b.recs.length
   ·rw [if_pos ⟨c.2, c.1, h.1, h.2⟩, if_pos h]; rfl
   ·rw [if_neg (fun k => h ⟨k.2.2.1, k.2.2.2⟩), if_neg h]
  ·rw [if_neg c, if_neg c, if_neg (fun k => c ⟨k.2.1, k.1⟩)]
theorem dupQ_P (p : Pr) (b : Ba) : Pq.dupQ (toP p) (toB b) p.last = ((dupP p b).getD (-1), (dupP p b).isSome) := by
 rw [dupQ_eq]
 unfold dupP
 split <;> rfl
theorem checkQ_eq (p : Pr) (k : Bool) (b : Ba) : Pq.checkQ (toP p) k (toB b) = checkP p k b := by
 have hd := dupQ_P p b
 have h : Pq.checkQ (toP p) k (toB b) = (if b.mark ≠ 0 then ((-1 : Int), if k = false then (16 : Int) else if b.epoch < p.epoch then 14 else if p.open_ < 0 then 16 else 0)
  else if k = false then (-1, 0)
  else if b.epoch < p.epoch then (-1, 14)
  else if b.epoch > p.epoch then (-1, if p.open_ ≥ 0 then 16 else if b.seq ≠ 0 then 15 else 0)
  else if (Pq.dupQ (toP p) (toB b) p.last).2 = true then ((Pq.dupQ (toP p) (toB b) p.last).1, 0)
  else if p.last ≠ [] ∧ Pq.followsQ (p.last.getLastD (0, 0, 0)).2.1 b.seq = false then (-1, 15)
  else if p.open_ ≥ 0 ∧ b.txn = false then (-1, 16)
  else (-1, 0)) := rfl
 rw [h, hd, followsQ_eq]
 unfold checkP
 by_cases c1 : b.mark ≠ 0
 ·rw [if_pos c1, if_pos c1]
  by_cases x1 : k = false
  ·rw [if_pos x1, if_pos x1]
  ·rw [if_neg x1, if_neg x1]
   by_cases x2 : b.epoch < p.epoch
   ·rw [if_pos x2, if_pos x2]
   ·rw [if_neg x2, if_neg x2]
    by_cases x3 : p.open_ < 0
    ·rw [if_pos x3, if_pos x3]
    ·rw [if_neg x3, if_neg x3]
 rw [if_neg c1, if_neg c1]
 by_cases c2 : k = false
 ·rw [if_pos c2, if_pos c2]
 rw [if_neg c2, if_neg c2]
 by_cases c3 : b.epoch < p.epoch
 ·rw [if_pos c3, if_pos c3]
 rw [if_neg c3, if_neg c3]
 by_cases c4 : b.epoch > p.epoch
 ·rw [if_pos c4, if_pos c4]
  by_cases x1 : p.open_ ≥ 0
  ·rw [if_pos x1, if_pos x1]
  ·rw [if_neg x1, if_neg x1]
   by_cases x2 : b.seq ≠ 0
   ·rw [if_pos x2, if_pos x2]
   ·rw [if_neg x2, if_neg x2]
 rw [if_neg c4, if_neg c4]
 cases hdp : dupP p b with
 | some v => rfl
 | none =>
  simp only [Option.isSome_none, Bool.false_eq_true, if_false]
  rcases List.eq_nil_or_concat p.last with hl | ⟨l', x, hl⟩
  ·rw [hl]
   simp only [List.getLast?_nil, ne_eq, not_true, false_and, if_false]
  ·have h1 : p.last ≠ [] := by rw [hl]; simp
   have h2 : p.last.getLast? = some x := by rw [hl]; simp
   have h3 : p.last.getLastD (0, 0, 0) = x := by rw [hl]; simp
   rw [h2, h3]
   simp only [h1, ne_eq, not_false_eq_true, true_and]
theorem pcheck_spec (p : Pr) (k : Bool) (b : Ba) (hl : p.last.length ≤ 1000) (hr : b.recs.length ≤ 1000) (H : Heap) :
  W n_producer_Check [p.V, .bool k, b.V] H = some (.tuple [.int .i64 (checkP p k b).1, .int .i64 (checkP p k b).2], H) := by
 have := Pq.check_spec (toP p) k (toB b) H (by show p.last.length < _; omega) (by simp only [toB, List.length_map]; omega)
 rw [toP_v, toB_v, checkQ_eq] at this
 exact this
def RowC : Int → List Ba → Prop
 | _, [] => True
 | s, b :: l => b.base = s ∧ RowC (s + countE b) l
theorem endE_nil (s : Int) : endE s [] = s := rfl
theorem endE_cons (s : Int) (b : Ba) (l : List Ba) (h : b.base = s) : endE s (b :: l) = endE (s + countE b) l := by
 unfold endE
 cases l with
 | nil => simp [h]
 | cons c l =>
  obtain ⟨x, hx⟩ : ∃ x, (c :: l).getLast? = some x := ⟨_, List.getLast?_eq_some_getLast (by simp)⟩
  rw [List.getLast?_cons_cons, hx]
theorem RowC.snoc : ∀ {s : Int} {l : List Ba} {b : Ba}, RowC s l → b.base = endE s l → RowC s (l ++ [b])
 | s, [], b, _, h => ⟨h, trivial⟩
 | s, c :: l, b, h, k => ⟨h.1, RowC.snoc h.2 (by rw [k, endE_cons s c l h.1])⟩
theorem prodL_row {cap start L b} (h : RowC start L) : RowC start (prodL cap start L b) := by
 unfold prodL
 split
 ·exact h.snoc rfl
 ·exact h
theorem markL_row {cap start L p e m} (h : RowC start L) : RowC start (markL cap start L p e m) := by
 unfold markL
 split
 ·exact h.snoc rfl
 ·exact h
theorem rowStep_row {l cap start s} (h : RowC start s.L) : RowC start (rowStep l cap start s).L := by
 unfold rowStep
 simp only
 split
 ·exact prodL_row h
 ·exact markL_row h
theorem rowGo_row {l : List Int} {cap start : Int} {most : Nat} : ∀ (k : Nat) (s : RS), RowC start s.L → RowC start (rowGo l cap start most k s).L
 | 0, _, h => h
 | k + 1, s, h => by
  unfold rowGo
  split
  ·exact rowGo_row k _ (rowStep_row h)
  ·exact h
theorem row_rowC (l : List Int) (start : Int) (most : Nat) : RowC start (rowOf l start most) := rowGo_row _ _ trivial
theorem countE_pos {b : Ba} (h : Fit b) : 1 ≤ countE b := by
 have hr := h.right
 unfold countE
 split
 ·rename_i hm
  unfold rightE at hr
  split at hr
  ·cases hr
  ·first | rw [if_pos hm] at hr | skip
   unfold dataE at hr
   split at hr
   ·cases hr
   ·split at hr
    ·cases hr
    ·omega
 ·exact Int.le_refl _
abbrev Kn := Int → Option Pr
structure Rp (M : List Pr) (O : Kn) : Prop where
 nd : (M.map Pr.id).Nodup
 val : ∀ p ∈ M, O p.id = some p
 neg : ∀ id, (∀ p ∈ M, p.id ≠ id) → O id = none
def stepT (O : Kn) (b : Ba) : Kn := if b.prod < 0 then O else fun id => if id = b.prod then some (applyP ((O b.prod).getD zeroPr) (O b.prod).isSome b) else O id
theorem stepT_neg (O : Kn) (b : Ba) (h : b.prod < 0) : stepT O b = O := if_pos h
theorem Rp.find {M O} (h : Rp M O) (id : Int) : M.find? (fun p => p.id == id) = O id := by
 cases hf : M.find? fun p => p.id == id with
 | none =>
  rw [h.neg id (fun p hp e => by
   have := List.find?_eq_none.1 hf p hp
   simp [e] at this)]
 | some p =>
  have h1 := List.mem_of_find?_eq_some hf
  have h3 : p.id = id := by simpa using List.find?_some hf
  rw [← h3, h.val p h1]
theorem Rp.put {M M' O} (h : Rp M O) (b : Ba) (x : Pr) (hx : x.id = b.prod) (hnd : (M'.map Pr.id).Nodup)
  (h1 : ∀ p ∈ M', p = x ∨ (p ∈ M ∧ p.id ≠ b.prod)) (h2 : x ∈ M') (h3 : ∀ p ∈ M, p.id ≠ b.prod → p ∈ M') : Rp M' (fun id => if id = b.prod then some x else O id) where
 nd := hnd
 val := fun p hp' => by
  rcases h1 p hp' with rfl | ⟨h4, h5⟩
  ·rw [if_pos hx]
  ·rw [if_neg h5]; exact h.val p h4
 neg := fun id hid => by
  have hne : id ≠ b.prod := fun e => hid x h2 (by rw [hx, e])
  rw [if_neg hne]
  refine h.neg id (fun p hp' e => ?_)
  exact hid p (h3 p hp' (by rw [e]; exact hne)) e
theorem nodup_find : ∀ {M : List Pr} {q : Pr}, (M.map Pr.id).Nodup → q ∈ M → M.find? (fun p => p.id == q.id) = some q
 | [], _, _, h => by cases h
 | a :: X, q, hnd, hq => by
  rw [List.find?_cons]
  rw [List.map_cons, List.nodup_cons] at hnd
  rcases List.mem_cons.1 hq with rfl | hq'
  ·simp
  ·have : (a.id == q.id) = false := by
    simp only [beq_eq_false_iff_ne]
    intro e
    exact hnd.1 (e ▸ List.mem_map_of_mem (f := Pr.id) hq')
   rw [this]; exact nodup_find hnd.2 hq'
abbrev Srt (L : List Pr) : Prop := L.Pairwise (fun p q => p.id < q.id)
theorem Srt.nd {L : List Pr} (h : Srt L) : (L.map Pr.id).Nodup := by
 rw [List.Nodup, List.pairwise_map]
 exact h.imp (fun h => by omega)
theorem below_take (id : Int) : ∀ (L : List Pr), ∀ p ∈ L.take (belowN id L), p.id < id
 | [], p, h => by simp [belowN] at h
 | a :: L, p, h => by
  unfold belowN at h
  split at h
  ·rename_i c
   rw [List.take_succ_cons, List.mem_cons] at h
   rcases h with rfl | h
   ·exact c
   ·exact below_take id L p h
  ·simp at h
theorem below_drop (id : Int) : ∀ (L : List Pr), Srt L → ∀ p ∈ L.drop (belowN id L), id ≤ p.id
 | [], _, p, h => by simp at h
 | a :: L, hs, p, h => by
  unfold belowN at h
  have hs' := List.pairwise_cons.1 hs
  split at h
  ·rw [List.drop_succ_cons] at h
   exact below_drop id L hs'.2 p h
  ·rename_i c
   rw [List.drop_zero, List.mem_cons] at h
   rcases h with rfl | h
   ·omega
   ·have := hs'.1 p h; omega
theorem atP_find (id : Int) (L : List Pr) (hs : Srt L) : atP id L = L.find? (fun p => p.id == id) := by
 have h1 := below_take id L
 have h2 := below_drop id L hs
 have h3 : L.find? (fun p => p.id == id) = (L.drop (belowN id L)).find? (fun p => p.id == id) := by
  conv => lhs; rw [← List.take_append_drop (belowN id L) L]
  rw [List.find?_append]
  have : (L.take (belowN id L)).find? (fun p => p.id == id) = none := by
   rw [List.find?_eq_none]
   intro p hp; have := h1 p hp; simp; omega
  rw [this]; rfl
 rw [h3]
 unfold atP
 have hs2 : Srt (L.drop (belowN id L)) := hs.sublist (List.drop_sublist _ _)
 have h4 : L[belowN id L]? = (L.drop (belowN id L))[0]? := by rw [List.getElem?_drop]; rfl
 rw [h4]
 generalize L.drop (belowN id L) = D at *
 cases D with
 | nil => rfl
 | cons a D =>
  simp only [List.getElem?_cons_zero, List.find?_cons]
  by_cases e : a.id = id
  ·simp [e]
  ·have e' : (a.id == id) = false := by simpa using e
   rw [if_neg e, e']
   have ha := h2 a List.mem_cons_self
   have : D.find? (fun p => p.id == id) = none := by
    rw [List.find?_eq_none]
    intro p hp
    have := (List.pairwise_cons.1 hs2).1 p hp
    simp; omega
   rw [this]
theorem Srt.tabT {L : List Pr} (hs : Srt L) (b : Ba) (hr : rightE b = 0) {O : Kn} (h : Rp L O) : Srt (tabL L b) ∧ Rp (tabL L b) (stepT O b) := by
 unfold Go.Abs.tabL
 by_cases hp : b.prod < 0
 ·rw [if_pos (.inr hp), stepT_neg O b hp]; exact ⟨hs, h⟩
 ·rw [if_neg (by omega)]
  have ho := h.find b.prod
  have hx := applyP_id ((L.find? fun p => p.id == b.prod).getD zeroPr) (L.find? fun p => p.id == b.prod).isSome b
  have hat := atP_find b.prod L hs
  rw [← hat] at hx ho
  cases hf : atP b.prod L with
  | some p =>
   rw [hf] at hx ho
   simp only
   have hx : (applyP p true b).id = b.prod := hx
   have hst : stepT O b = fun id => if id = b.prod then some (applyP p true b) else O id := by unfold stepT; rw [if_neg hp, ← ho]; rfl
   generalize applyP p true b = x at *
   obtain ⟨hp1, hp2⟩ := atP_mem hf
   have hp3 : p.id = b.prod := by
    rw [hat] at hf
    simpa using List.find?_some hf
   have hi : belowN b.prod L < L.length := (List.getElem?_eq_some_iff.1 hp2).1
   have hids : (L.set (belowN b.prod L) x).map Pr.id = L.map Pr.id := by
    rw [List.map_set]
    refine List.ext_getElem? fun k => ?_
    rw [List.getElem?_set]
    split
    ·rename_i e
     subst e
     rw [if_pos (by rw [List.length_map]; exact hi), List.getElem?_map, hp2, Option.map_some, hp3, hx]
    ·rfl
   have hsx : Srt (L.set (belowN b.prod L) x) := by
    have h1 : (L.map Pr.id).Pairwise (· < ·) := List.pairwise_map.2 hs
    rw [← hids] at h1
    exact List.pairwise_map.1 h1
   rw [hst]
   refine ⟨hsx, h.put b x hx hsx.nd ?_ (List.mem_iff_getElem?.2 ⟨_, by rw [List.getElem?_set, if_pos rfl, if_pos hi]⟩) ?_⟩
   ·intro q hq
    rcases List.mem_or_eq_of_mem_set hq with h1 | rfl
    ·by_cases e : q.id = b.prod
     ·have := nodup_find hsx.nd hq
      have h2 := nodup_find hsx.nd (List.mem_iff_getElem?.2 ⟨_, by rw [List.getElem?_set, if_pos rfl, if_pos hi]⟩ : x ∈ L.set (belowN b.prod L) x)
      rw [show x.id = q.id by rw [hx, e], this] at h2
      simp only [Option.some.injEq] at h2
      exact .inl h2
     ·exact .inr ⟨h1, e⟩
    ·exact .inl rfl
   ·intro q hq hne
    obtain ⟨k, hk⟩ := List.mem_iff_getElem?.1 hq
    refine List.mem_iff_getElem?.2 ⟨k, ?_⟩
    rw [List.getElem?_set]
    by_cases e : belowN b.prod L = k
    ·subst e
     rw [hp2] at hk
     simp only [Option.some.injEq] at hk
     exact absurd (hk ▸ hp3) hne
    ·rw [if_neg e]; exact hk
  | none =>
   rw [hf] at hx ho
   simp only
   have hx : (applyP zeroPr false b).id = b.prod := hx
   have hst : stepT O b = fun id => if id = b.prod then some (applyP zeroPr false b) else O id := by unfold stepT; rw [if_neg hp, ← ho]; rfl
   generalize applyP zeroPr false b = x at *
   have hno : ∀ p ∈ L, p.id ≠ b.prod := by
    rw [hat, List.find?_eq_none] at hf
    intro p hp e
    exact hf p hp (by simp [e])
   have h1 := below_take b.prod L
   have h2 := below_drop b.prod L hs
   have hL := List.take_append_drop (belowN b.prod L) L
   have hs1 : Srt (L.take (belowN b.prod L)) := hs.sublist (List.take_sublist _ _)
   have hs2 : Srt (L.drop (belowN b.prod L)) := hs.sublist (List.drop_sublist _ _)
   have hm : ∀ q, q ∈ L ↔ q ∈ L.take (belowN b.prod L) ∨ q ∈ L.drop (belowN b.prod L) := fun q => by
    conv => lhs; rw [← hL]
    exact List.mem_append
   have hm1 : ∀ q ∈ L.drop (belowN b.prod L), b.prod < q.id := fun q hq => by
    have a1 := h2 q hq
    have a2 := hno q ((hm q).2 (.inr hq))
    omega
   generalize L.take (belowN b.prod L) = A at *
   generalize L.drop (belowN b.prod L) = B at *
   have hsx : Srt (A ++ [x] ++ B) := by
    rw [List.append_assoc]
    refine List.pairwise_append.2 ⟨hs1, List.pairwise_append.2 ⟨by simp, hs2, ?_⟩, ?_⟩
    ·intro p hp q hq
     simp only [List.mem_singleton] at hp
     rw [hp, hx]; exact hm1 q hq
    ·intro p hp q hq
     rw [List.mem_append, List.mem_singleton] at hq
     have := h1 p hp
     rcases hq with rfl | hq
     ·rw [hx]; exact this
     ·have := hm1 q hq; omega
   rw [hst]
   refine ⟨hsx, h.put b x hx hsx.nd ?_ (by simp) ?_⟩
   ·intro q hq
    simp only [List.mem_append, List.mem_singleton] at hq
    rcases hq with (hq | rfl) | hq
    ·exact .inr ⟨(hm q).2 (.inl hq), hno q ((hm q).2 (.inl hq))⟩
    ·exact .inl rfl
    ·exact .inr ⟨(hm q).2 (.inr hq), hno q ((hm q).2 (.inr hq))⟩
   ·intro q hq _
    simp only [List.mem_append, List.mem_singleton]
    rcases (hm q).1 hq with h | h
    ·exact .inl (.inl h)
    ·exact .inr h
theorem rp_nil : Rp [] (fun _ => none) := ⟨by simp, by simp, fun _ _ => rfl⟩
abbrev Rm (M : List Pr) (O : Kn) : Prop := ∀ id, getM id M = O id
theorem Rm.stepM {M O} (h : Rm M O) (b : Ba) (hr : rightE b = 0) : Rm (stepM M b) (stepT O b) := by
 intro id
 unfold Go.Abs.stepM stepT
 by_cases hp : b.prod < 0
 ·rw [if_pos (.inr hp), if_pos hp]; exact h id
 ·rw [if_neg (by omega), if_neg hp, getM_set, applyP_id, h b.prod]
  rw [h id]
def mapCheck (M : List Pr) (b : Ba) : Int × Int :=
 if rightE b ≠ 0 then (-1, rightE b) else if b.prod < 0 then (-1, 0) else checkP ((getM b.prod M).getD zeroPr) (getM b.prod M).isSome b
theorem check_same {L M : List Pr} {O : Kn} (hs : Srt L) (h : Rp L O) (hm : Rm M O) (b : Ba) : mapCheck M b = tabCheck L b := by
 unfold mapCheck tabCheck
 rw [atP_find b.prod L hs, h.find, hm]
def ChkC : List Ba → List Ba → Prop
 | _, [] => True
 | A, b :: r => ((tabCheck (foldL A []) b).2 = 0 ∧ (tabCheck (foldL A []) b).1 < 0) ∧ ChkC (A ++ [b]) r
theorem ChkC.snoc : ∀ {A r : List Ba} {b : Ba}, ChkC A r → ((tabCheck (foldL (A ++ r) []) b).2 = 0 ∧ (tabCheck (foldL (A ++ r) []) b).1 < 0) → ChkC A (r ++ [b])
 | A, [], b, _, h => by rw [List.append_nil] at h; exact ⟨h, trivial⟩
 | A, c :: r, b, h, k => ⟨h.1, ChkC.snoc h.2 (by rw [List.append_assoc]; exact k)⟩
theorem putOK_chk {cap start L b} (h : putOK cap start L b = true) : (tabCheck (foldL L []) b).2 = 0 ∧ (tabCheck (foldL L []) b).1 < 0 := by
 unfold putOK at h
 simp only [Bool.and_eq_true, decide_eq_true_eq] at h
 exact ⟨h.1, h.2.1⟩
theorem prodL_chk {cap start L b} (h : ChkC [] L) : ChkC [] (prodL cap start L b) := by
 unfold prodL
 split
 ·rename_i hc
  unfold prodOK at hc
  simp only [Bool.and_eq_true] at hc
  exact h.snoc (putOK_chk hc.2.2)
 ·exact h
theorem markL_chk {cap start L p e m} (h : ChkC [] L) : ChkC [] (markL cap start L p e m) := by
 unfold markL
 split
 ·rename_i hc
  unfold markOK at hc
  simp only [Bool.and_eq_true] at hc
  exact h.snoc (putOK_chk hc.2)
 ·exact h
theorem rowStep_chk {l cap start s} (h : ChkC [] s.L) : ChkC [] (rowStep l cap start s).L := by
 unfold rowStep
 simp only
 split
 ·exact prodL_chk h
 ·exact markL_chk h
theorem rowGo_chk {l : List Int} {cap start : Int} {most : Nat} : ∀ (k : Nat) (s : RS), ChkC [] s.L → ChkC [] (rowGo l cap start most k s).L
 | 0, _, h => h
 | k + 1, s, h => by
  unfold rowGo
  split
  ·exact rowGo_chk k _ (rowStep_chk h)
  ·exact h
theorem row_chk (l : List Int) (start : Int) (most : Nat) : ChkC [] (rowOf l start most) := rowGo_chk _ _ trivial
theorem foldL_snoc : ∀ (A : List Ba) (L : List Pr) (b : Ba), foldL (A ++ [b]) L = tabL (foldL A L) b
 | [], _, _ => rfl
 | _ :: A, L, b => foldL_snoc A _ b
structure Ta (A : List Ba) (M : List Pr) : Prop where
 ex : ∃ O, Srt (foldL A []) ∧ Rp (foldL A []) O ∧ Rm M O
theorem Ta.nil : Ta [] [] := ⟨⟨fun _ => none, .nil, rp_nil, fun _ => rfl⟩⟩
theorem Ta.snoc {A M} (h : Ta A M) (b : Ba) (hr : rightE b = 0) : Ta (A ++ [b]) (stepM M b) := by
 obtain ⟨O, h1, h2, h3⟩ := h.ex
 obtain ⟨h4, h5⟩ := h1.tabT b hr h2
 refine ⟨⟨stepT O b, ?_, ?_, h3.stepM b hr⟩⟩
 ·rw [foldL_snoc]; exact h4
 ·rw [foldL_snoc]; exact h5
theorem Ta.check {A M} (h : Ta A M) (b : Ba) : mapCheck M b = tabCheck (foldL A []) b := by
 obtain ⟨O, h1, h2, h3⟩ := h.ex
 exact check_same h1 h2 h3 b
abbrev PB (p : Pr) : Prop := ∀ x ∈ p.last, 0 ≤ x.2.2
theorem applyP_pb {p : Pr} (h : PB p) (known : Bool) {b : Ba} (hb : 0 ≤ b.base) : PB (applyP p known b) := by
 have hl : ∀ x ∈ lastsP p known b, 0 ≤ x.2.2 := by
  unfold lastsP
  split
  ·exact h
  ·simp
 unfold applyP
 split
 ·exact hl
 ·intro x hx
  have hx' := List.mem_of_mem_drop hx
  unfold newL at hx'
  rw [List.mem_append] at hx'
  rcases hx' with hx' | hx'
  ·exact hl x hx'
  ·simp only [List.mem_cons, List.not_mem_nil, or_false] at hx'
   rw [hx']; exact hb
theorem tabL_pb {L : List Pr} (h : ∀ p ∈ L, PB p) {b : Ba} (hb : 0 ≤ b.base) : ∀ p ∈ tabL L b, PB p := by
 unfold tabL
 split
 ·exact h
 ·split
  ·rename_i p hp
   intro q hq
   rcases List.mem_or_eq_of_mem_set hq with hq | rfl
   ·exact h q hq
   ·exact applyP_pb (h p (atP_mem hp).1) true hb
  ·intro q hq
   simp only [List.append_assoc, List.mem_append, List.mem_cons, List.not_mem_nil, or_false] at hq
   rcases hq with hq | rfl | hq
   ·exact h q (List.mem_of_mem_take hq)
   ·exact applyP_pb (p := zeroPr) (by simp [zeroPr]) false hb
   ·exact h q (List.mem_of_mem_drop hq)
theorem foldL_pb : ∀ (A : List Ba) (L : List Pr), (∀ b ∈ A, 0 ≤ b.base) → (∀ p ∈ L, PB p) → ∀ p ∈ foldL A L, PB p
 | [], _, _, h => h
 | b :: A, L, hA, h => foldL_pb A (tabL L b) (fun x hx => hA x (List.mem_cons_of_mem _ hx)) (tabL_pb h (hA b List.mem_cons_self))
theorem dupIn_pos {n c : Int} : ∀ {l : List La} {v : Int}, (∀ x ∈ l, 0 ≤ x.2.2) → dupIn n c l = some v → 0 ≤ v
 | [], _, _, h => by cases h
 | x :: l, v, hl, h => by
  unfold dupIn at h
  split at h
  ·cases h; exact hl x List.mem_cons_self
  ·exact dupIn_pos (fun y hy => hl y (List.mem_cons_of_mem _ hy)) h
theorem checkP_one {p : Pr} (hp : PB p) (k : Bool) (b : Ba) (h : (checkP p k b).1 < 0) : (checkP p k b).1 = -1 := by
 unfold checkP at *
 split
 ·split
  ·rfl
  ·split
   ·rfl
   ·split <;> rfl
 ·rename_i c1
  rw [if_neg c1] at h
  split
  ·rfl
  ·rename_i c2
   rw [if_neg c2] at h
   split
   ·rfl
   ·rename_i c3
    rw [if_neg c3] at h
    split
    ·split
     ·rfl
     ·split <;> rfl
    ·rename_i c4
     rw [if_neg c4] at h
     split
     ·rename_i v hv
      rw [hv] at h
      simp only at h
      have : 0 ≤ v := by
       unfold dupP at hv
       split at hv
       ·exact dupIn_pos hp hv
       ·cases hv
      omega
     ·split
      ·split
       ·rfl
       ·split <;> rfl
      ·split <;> rfl
theorem tabCheck_one {A : List Ba} (hA : ∀ b ∈ A, 0 ≤ b.base) {b : Ba} (h2 : (tabCheck (foldL A []) b).2 = 0) (h1 : (tabCheck (foldL A []) b).1 < 0) : tabCheck (foldL A []) b = (-1, 0) := by
 refine Prod.ext ?_ h2
 have hpb := foldL_pb A [] hA (by simp)
 unfold tabCheck at *
 split
 ·rfl
 ·rename_i c1
  rw [if_neg c1] at h1
  split
  ·rfl
  ·rename_i c2
   rw [if_neg c2] at h1
   refine checkP_one ?_ _ _ h1
   cases ha : atP b.prod (foldL A []) with
   | none => simp [zeroPr]
   | some p => exact hpb p (atP_mem ha).1
theorem stepM_len {M : List Pr} (h : ∀ p ∈ M, p.last.length ≤ 5) (b : Ba) : ∀ p ∈ stepM M b, p.last.length ≤ 5 := by
 unfold Go.Abs.stepM
 split
 ·exact h
 ·have hx : (applyP ((getM b.prod M).getD zeroPr) (getM b.prod M).isSome b).last.length ≤ 5 := by
   refine apply_last _ _ _ ?_
   cases hg : getM b.prod M with
   | none => simp [zeroPr]
   | some p => exact h p (getM_mem hg)
  generalize applyP ((getM b.prod M).getD zeroPr) (getM b.prod M).isSome b = x at *
  intro p hp
  unfold setM at hp
  split at hp
  ·rcases List.mem_or_eq_of_mem_set hp with hp | rfl
   ·exact h p hp
   ·exact hx
  ·rcases List.mem_append.1 hp with hp | hp
   ·exact h p hp
   ·simp only [List.mem_cons, List.not_mem_nil, or_false] at hp
    rw [hp]; exact hx
end Go.Abs
