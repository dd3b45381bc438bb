import Derived.Test.YtmfmhbpggmgbbaaBS2
import Derived.Test.YtmfmhbpggmgbbaaBS1
set_option linter.unusedVariables false
set_option linter.unusedSimpArgs false
namespace Go.Abs
open Go Go.RowKit
structure TK (L : List Pr) (n : Nat) : Prop where
 len : L.length ≤ n
 last : ∀ p ∈ L, p.last.length ≤ 5
theorem TK.ok {L n} (h : TK L n) (hn : n ≤ 100000) : TOK L := ⟨Nat.le_trans h.len hn, fun p hp => by have := h.last p hp; omega⟩
theorem apply_last (p : Pr) (known : Bool) (b : Ba) (h : p.last.length ≤ 5) : (applyP p known b).last.length ≤ 5 := by
 unfold applyP
 split
 ·simp only [lastsP]; split
  ·exact h
  ·simp
 ·simp only [List.length_drop]; omega
theorem TK.next {L n} (h : TK L n) (b : Ba) : TK (tabL L b) (n + 1) := by
 unfold tabL
 split
 ·exact ⟨Nat.le_trans h.len (Nat.le_succ n), h.last⟩
 ·split
  ·rename_i p hp
   refine ⟨by simpa using Nat.le_trans h.len (Nat.le_succ n), fun q hq => ?_⟩
   rcases List.mem_or_eq_of_mem_set hq with hq | rfl
   ·exact h.last q hq
   ·exact apply_last p true b (h.last p (atP_mem hp).1)
  ·refine ⟨?_, fun q hq => ?_⟩
   ·have h1 := h.len
    have h2 := belowN_le b.prod L
    simp only [List.length_append, List.length_take, List.length_drop, List.length_cons, List.length_nil]
    omega
   ·simp only [List.append_assoc, List.mem_append, List.mem_cons, List.not_mem_nil, or_false] at hq
    rcases hq with hq | rfl | hq
    ·exact h.last q (List.mem_of_mem_take hq)
    ·exact apply_last zeroPr false b (by simp [zeroPr])
    ·exact h.last q (List.mem_of_mem_drop hq)
def foldL : List Ba → List Pr → List Pr
 | [], L => L
 | b :: l, L => foldL l (tabL L b)
def foldD : List Ba → List Pr → List La
 | [], _ => []
 | b :: l, L => (match tabD L b with | some d => [d] | none => []) ++ foldD l (tabL L b)
def foldF : List Ba → List Pr → Fl → Fl
 | [], _, fl => fl
 | b :: l, L, fl => foldF l (tabL L b) (newFl L b fl)
def dFl (d : List La) : Fl := if d = [] then .full else .own
theorem newFl_ok {L b fl} (h : fl = .own ∨ (fl = .full ∧ L = [])) : newFl L b fl = .own ∨ (newFl L b fl = .full ∧ tabL L b = []) := by
 unfold newFl tabL
 split
 ·exact h
 ·exact .inl rfl
theorem fold_loop (A : List Ba) (hA : ∀ b ∈ A, BOK b) (hn : A.length ≤ 1000) (H : Heap) (r : List Ba) : ∀ (q : List Ba) (L : List Pr) (fl : Fl) (D : List La) (N : Heap), A = q ++ r → TK L q.length → (fl = .own ∨ (fl = .full ∧ L = [])) → D.length ≤ q.length →
  ∃ M, loopA W loopW (.ghost (.kill k_ref10_Fold_0) l_ref10_Fold_0) [(4, .ptr (pt H 0) 0), (5, .list 3 (D.map laV) (dFl D)), (12, .list 7 (A.map Ba.V) .ro), (13, .int .i64 (A.length : Nat)), (14, .int .i64 (q.length : Nat))] (hx H (tabB L fl :: N)) =
   some (.exit 0, [(4, .ptr (pt H 0) 0), (5, .list 3 ((D ++ foldD r L).map laV) (dFl (D ++ foldD r L)))], hx H (tabB (foldL r L) (foldF r L fl) :: M)) := by
 induction r with
 | nil =>
  intro q L fl D N hq hT hfl hD
  rw [List.append_nil] at hq
  subst hq
  refine ⟨N, ?_⟩
  have h1 : ¬ ((A.length : Int) < (A.length : Int)) := by omega
  rw [show foldD [] L = [] from rfl, List.append_nil, show foldL [] L = L from rfl, show foldF [] L fl = fl from rfl]
  refine loop_step l_ref10_Fold_0.eq_1 k_ref10_Fold_0.eq_1 (by kernel_rfl) ?_
  simp only [go_sem, h1, simprocAttr]
 | cons b r ih =>
  intro q L fl D N hq hT hfl hD
  have hlen : q.length < A.length := by rw [hq]; simp
  have h1 : ((q.length : Int) < (A.length : Int)) := by omega
  have e0 : (0 : Int) ≤ (q.length : Int) := by omega
  have e7 : ((q.length : Nat) : Int).toNat = q.length := by omega
  have e1 : (A.map Ba.V)[q.length]? = some (.agg [.int .i64 b.base, .int .i64 b.prod, .int .i64 b.epoch, .int .i64 b.seq, .bool b.txn, .int .i64 b.mark, .list 2 (b.recs.map rcV) .ro]) := by rw [hq]; simp [Ba.V, Ba.cs]
  have e6 : IntKind.i64.wrap ((q.length : Int) + 1) = ((q.length + 1 : Nat) : Int) := by rw [wrap_id (by unfold I64; omega)]; omega
  have hbo := hA b (by rw [hq]; simp)
  have ta := fun M => tab_apply_spec L (hT.ok (by omega)) fl hfl b hbo (pt H 0) (hx H (tabB L fl :: M)) ⟨by rw [hx_get]; rfl⟩
  simp only [hx_set, List.set_cons_zero] at ta
  have hb : ((D.map laV).length + 1) * 24 ≤ maxBytes := by simp only [List.length_map, maxBytes]; omega
  have hb' : (D.length + 1) * 24 ≤ maxBytes := by simp only [maxBytes]; omega
  have hb0 : (0 + 1) * 24 ≤ maxBytes := by decide
  have n1 : ∀ x x' y : Box, (N ++ [x, y])[(N ++ [x']).length]? = some y := fun x x' y => by simp
  have n2 : ∀ x x' y z : Box, (N ++ [x, y]).set (N ++ [x']).length z = N ++ [x, z] := fun x x' y z => by simp
  have g1 : foldL (b :: r) L = foldL r (tabL L b) := rfl
  have g2 : foldF (b :: r) L fl = foldF r (tabL L b) (newFl L b fl) := rfl
  rw [g1, g2]
  cases hd : tabD L b with
  | none =>
   rw [hd] at ta
   obtain ⟨M, h2⟩ := ih (q ++ [b]) (tabL L b) (newFl L b fl) D (N ++ [.cells b.cs, .cells [.int .i64 0, .int .i64 0, .int .i64 0]]) (by rw [hq]; simp) (by simpa using hT.next b) (newFl_ok hfl) (by simp; omega)
   refine ⟨M, ?_⟩
   have g3 : D ++ foldD (b :: r) L = D ++ foldD r (tabL L b) := by simp [foldD, hd]
   rw [g3]
   simp only [List.length_append, List.length_cons, List.length_nil, Nat.zero_add] at h2
   simp only [optLa, laV, Option.isSome_none] at ta
   unfold Ba.V Ba.cs at *
   refine loop_step l_ref10_Fold_0.eq_1 k_ref10_Fold_0.eq_1 (by kernel_rfl) ?_
   simp only [go_sem, h1, e0, e7, e1, ta, n1, n2, e6, simprocAttr]
   exact h2
  | some d =>
   rw [hd] at ta
   obtain ⟨M, h2⟩ := ih (q ++ [b]) (tabL L b) (newFl L b fl) (D ++ [d]) (N ++ [.cells b.cs, .cells [.int .i64 d.1, .int .i64 d.2.1, .int .i64 d.2.2]]) (by rw [hq]; simp) (by simpa using hT.next b) (newFl_ok hfl) (by simp; omega)
   refine ⟨M, ?_⟩
   have g3 : D ++ foldD (b :: r) L = D ++ [d] ++ foldD r (tabL L b) := by simp [foldD, hd]
   rw [g3]
   have g4 : dFl (D ++ [d]) = .own := by unfold dFl; rw [if_neg (by simp)]
   have g5 : D.map laV ++ [.agg [.int .i64 d.1, .int .i64 d.2.1, .int .i64 d.2.2]] = (D ++ [d]).map laV := by simp [laV]
   rw [g4] at h2
   simp only [List.length_append, List.length_cons, List.length_nil, Nat.zero_add] at h2
   simp only [optLa, laV, Option.isSome_some] at ta
   unfold Ba.V Ba.cs at *
   refine loop_step l_ref10_Fold_0.eq_1 k_ref10_Fold_0.eq_1 (by kernel_rfl) ?_
   by_cases hD0 : D = []
   ·subst hD0
    have g6 : dFl ([] : List La) = .full := rfl
    rw [g6]
    simp only [List.map_nil, List.nil_append] at g5 h2 ⊢
    simp only [go_sem, h1, e0, e7, e1, ta, n1, n2, apF, List.length_nil, hb0, List.nil_append, e6, simprocAttr]
    rw [g5]
    exact h2
   ·have g6 : dFl D = .own := by unfold dFl; rw [if_neg hD0]
    rw [g6]
    simp only [List.append_assoc, List.cons_append, List.nil_append] at h2 ⊢
    simp only [go_sem, h1, e0, e7, e1, ta, n1, n2, apO, hb, g5, e6, simprocAttr]
    exact h2
theorem fold_spec (A : List Ba) (hA : ∀ b ∈ A, BOK b) (hn : A.length ≤ 1000) (H : Heap) :
  ∃ M, W n_ref10_Fold [.list 7 (A.map Ba.V) .ro] H = some (.tuple [.ptr (pt H 0) 0, .list 3 ((foldD A []).map laV) (dFl (foldD A []))], hx H (tabB (foldL A []) (foldF A [] .full) :: M)) := by
 obtain ⟨M, h⟩ := fold_loop A hA hn H A [] [] .full [] [] rfl ⟨by simp, by simp⟩ (.inr ⟨rfl, rfl⟩) (by simp)
 have g0 : ((([] : List Ba).length : Nat) : Int) = 0 := rfl
 rw [g0, List.nil_append] at h
 refine ⟨M, W_fnS rfl rfl ?_⟩
 simp only [List.map_nil, show dFl ([] : List La) = .full from rfl] at h
 have h' : loopA W loopW (.ghost (.kill k_ref10_Fold_0) l_ref10_Fold_0) [(4, .ptr (pt H 0) 0), (5, .list 3 [] .full), (12, .list 7 (A.map Ba.V) .ro), (13, .int .i64 (A.length : Nat)), (14, .int .i64 0)] (hx H [.cells [.list 4 [] .full]]) = _ := h
 simp only [go_sem, c_ref10_Fold, List.length_map, h', simprocAttr]
def countE (b : Ba) : Int := if b.mark = 0 then (b.recs.length : Int) else 1
def endE (start : Int) (L : List Ba) : Int := match L.getLast? with
 | none => start
 | some b => b.base + countE b
structure Fit (b : Ba) : Prop where
 ok : BOK b
 right : rightE b = 0
theorem Fit.base {b : Ba} (h : Fit b) : 0 ≤ b.base ∧ b.base ≤ 1099511627776 := by
 have := h.right
 unfold rightE at this
 split at this
 ·cases this
 ·omega
theorem Fit.count {b : Ba} (h : Fit b) : 0 ≤ countE b ∧ countE b ≤ 16 := by
 have := (rightE_small h.right).1
 unfold countE
 split <;> omega
theorem end_spec (start : Int) (L : List Ba) (hL : ∀ b ∈ L, Fit b) (hn : L.length ≤ 1000) (fl : Fl) (hfl : fl = .ro ∨ (fl = .full ∧ L = [])) (H : Heap) :
  W n_ref14_End [.int .i64 start, .list 7 (L.map Ba.V) .ro] H = some (.int .i64 (endE start L), H) := by
 unfold endE
 rcases List.eq_nil_or_concat L with rfl | ⟨l, b, hl⟩
 ·refine W_fn rfl rfl ?_
  simp only [go_sem, c_ref14_End, List.map_nil, List.length_nil, Int.natCast_zero, List.getLast?_nil, simprocAttr]
 ·have hx : L.getLast? = some b := by rw [hl]; simp
  have hlen : L.length = l.length + 1 := by rw [hl]; simp
  have hb := hL b (by rw [hl]; simp)
  have b1 := hb.base
  have b2 := hb.count
  have h1 : ¬ (L.length : Int) = 0 := by omega
  have w1 : IntKind.i64.wrap ((L.length : Int) - 1) = (l.length : Int) := by rw [wrap_id (by unfold I64; omega)]; omega
  have e0 : (0 : Int) ≤ (l.length : Int) := by omega
  have e7 : ((l.length : Nat) : Int).toNat = l.length := by omega
  have e1 : (L.map Ba.V)[l.length]? = some (.agg [.int .i64 b.base, .int .i64 b.prod, .int .i64 b.epoch, .int .i64 b.seq, .bool b.txn, .int .i64 b.mark, .list 2 (b.recs.map rcV) .ro]) := by rw [hl]; simp [Ba.V, Ba.cs]
  have tc := fun H => ref_count_spec b H
  rw [show (if b.mark = 0 then (b.recs.length : Int) else 1) = countE b from rfl] at tc
  have w2 : IntKind.i64.wrap (b.base + countE b) = b.base + countE b := wrap_id (by unfold I64; omega)
  rw [hx]
  simp only
  unfold Ba.V Ba.cs at tc
  refine W_fn rfl rfl ?_
  simp only [go_sem, c_ref14_End, List.length_map, h1, w1, e0, e7, e1, tc, w2, simprocAttr]
def mdB (cap start : Int) (L : List Ba) (fl : Fl) : Box := .cells [.int .i64 cap, .int .i64 start, .list 7 (L.map Ba.V) fl]
theorem model_end_spec (cap start : Int) (L : List Ba) (hL : ∀ b ∈ L, Fit b) (hn : L.length ≤ 1000) (fl : Fl) (hfl : fl = .own ∨ (fl = .full ∧ L = [])) (i : Nat) (H : Heap) (hi : Old H i (mdB cap start L fl)) :
  W n_ref14_Model_End [.ptr i 0] H = some (.int .i64 (endE start L), H) := by
 have te := fun H => end_spec start L hL hn .ro (.inl rfl) H
 have gj := hi.g
 unfold mdB at gj
 refine W_fn0 rfl rfl ?_
 rcases hfl with rfl | ⟨rfl, rfl⟩
 ·simp only [go_sem, trim_same, c_ref14_Model_End, gj, te, simprocAttr]
 ·simp only [List.map_nil] at te gj
  simp only [go_sem, trim_same, c_ref14_Model_End, gj, te, simprocAttr]
theorem foldF_ok : ∀ (A : List Ba) (L : List Pr) (fl : Fl), (fl = .own ∨ (fl = .full ∧ L = [])) → foldF A L fl = .own ∨ (foldF A L fl = .full ∧ foldL A L = [])
 | [], _, _, h => h
 | b :: A, L, fl, h => foldF_ok A (tabL L b) (newFl L b fl) (newFl_ok h)
theorem producers_spec (cap start : Int) (L : List Ba) (hL : ∀ b ∈ L, Fit b) (hn : L.length ≤ 1000) (fl : Fl) (hfl : fl = .own ∨ (fl = .full ∧ L = [])) (i : Nat) (H : Heap) (hi : Old H i (mdB cap start L fl)) :
  ∃ fl', W n_ref14_Model_Producers [.ptr i 0] H = some (.list 4 ((foldL L []).map Pr.V) fl', H) ∧ (fl' = .ro ∨ fl' = .full) := by
 obtain ⟨M, tf⟩ := fold_spec L (fun b hb => (hL b hb).ok) hn H
 rw [← hx_nil H] at tf
 simp only [hx_nil (hx H []), show pt (hx H []) 0 = pt H 0 by rw [hx_nil], show ∀ L, hx (hx H []) L = hx H L from fun L => by rw [hx_nil]] at tf
 have gj := hi.get
 unfold mdB at gj
 unfold tabB at tf
 rcases foldF_ok L [] .full (.inr ⟨rfl, rfl⟩) with h | ⟨h, h0⟩
 ·rw [h] at tf
  refine ⟨.ro, ?_, .inl rfl⟩
  refine W_fn rfl rfl ?_
  rcases hfl with rfl | ⟨rfl, rfl⟩
  ·simp only [go_sem, c_ref14_Model_Producers, gj, tf, under_prs, simprocAttr]
  ·simp only [List.map_nil] at tf gj
   simp only [go_sem, c_ref14_Model_Producers, gj, tf, under_prs, simprocAttr]
 ·rw [h] at tf
  refine ⟨.full, ?_, .inr rfl⟩
  refine W_fn rfl rfl ?_
  rcases hfl with rfl | ⟨rfl, rfl⟩
  ·simp only [go_sem, c_ref14_Model_Producers, gj, tf, under_prs, simprocAttr]
  ·simp only [List.map_nil] at tf gj
   simp only [go_sem, c_ref14_Model_Producers, gj, tf, under_prs, simprocAttr]
def sizeL : List Ba → Int
 | [] => 0
 | b :: l => sizeE b + sizeL l
theorem sizeE_range {b : Ba} : 0 ≤ sizeE b ∧ sizeE b ≤ 2404 := by
 unfold sizeE
 split
 ·rename_i h
  have := baBytes_len (rightE_small h)
  omega
 ·omega
theorem sizeL_app : ∀ (p r : List Ba), sizeL (p ++ r) = sizeL p + sizeL r
 | [], r => by simp [sizeL]
 | b :: p, r => by simp only [List.cons_append, sizeL, sizeL_app p r]; omega
theorem sizeL_range : ∀ (l : List Ba), 0 ≤ sizeL l ∧ sizeL l ≤ 2404 * l.length
 | [] => by simp [sizeL]
 | b :: l => by
  have h1 := sizeE_range (b := b)
  have h2 := sizeL_range l
  simp only [sizeL, List.length_cons]
  omega
theorem size_loop (A : List Ba) (hA : ∀ b ∈ A, BOK b) (hn : A.length ≤ 1000) (H : Heap) (r : List Ba) : ∀ (q : List Ba) (N : Heap), A = q ++ r →
  ∃ M, loopA W loopW (.ghost (.kill k_ref14_Model_size_0) l_ref14_Model_size_0) [(3, .int .i64 (sizeL q)), (9, .list 7 (A.map Ba.V) .ro), (10, .int .i64 (A.length : Nat)), (11, .int .i64 (q.length : Nat))] (hx H N) =
   some (.exit 0, [(3, .int .i64 (sizeL A))], hx H M) := by
 induction r with
 | nil =>
  intro q N hq
  rw [List.append_nil] at hq
  subst hq
  refine ⟨N, ?_⟩
  have h1 : ¬ ((A.length : Int) < (A.length : Int)) := by omega
  refine loop_step l_ref14_Model_size_0.eq_1 k_ref14_Model_size_0.eq_1 (by kernel_rfl) ?_
  simp only [go_sem, h1, simprocAttr]
 | cons b r ih =>
  intro q N hq
  have hlen : q.length < A.length := by rw [hq]; simp
  have h1 : ((q.length : Int) < (A.length : Int)) := by omega
  have e0 : (0 : Int) ≤ (q.length : Int) := by omega
  have e7 : ((q.length : Nat) : Int).toNat = q.length := by omega
  have e1 : (A.map Ba.V)[q.length]? = some (.agg [.int .i64 b.base, .int .i64 b.prod, .int .i64 b.epoch, .int .i64 b.seq, .bool b.txn, .int .i64 b.mark, .list 2 (b.recs.map rcV) .ro]) := by rw [hq]; simp [Ba.V, Ba.cs]
  have e6 : IntKind.i64.wrap ((q.length : Int) + 1) = ((q.length + 1 : Nat) : Int) := by rw [wrap_id (by unfold I64; omega)]; omega
  have hbo := hA b (by rw [hq]; simp)
  have ts := fun H => ref_size_spec b hbo H
  have r1 := sizeE_range (b := b)
  have r2 := sizeL_range q
  have w1 : IntKind.i64.wrap (sizeL q + sizeE b) = sizeL (q ++ [b]) := by
   rw [sizeL_app, wrap_id (by unfold I64; omega)]; simp [sizeL]
  obtain ⟨M, h2⟩ := ih (q ++ [b]) (N ++ [.cells b.cs]) (by rw [hq]; simp)
  refine ⟨M, ?_⟩
  simp only [List.length_append, List.length_cons, List.length_nil, Nat.zero_add] at h2
  unfold Ba.V Ba.cs at *
  refine loop_step l_ref14_Model_size_0.eq_1 k_ref14_Model_size_0.eq_1 (by kernel_rfl) ?_
  simp only [go_sem, h1, e0, e7, e1, ts, w1, e6, simprocAttr]
  exact h2
theorem size_spec (cap start : Int) (L : List Ba) (hL : ∀ b ∈ L, Fit b) (hn : L.length ≤ 1000) (fl : Fl) (hfl : fl = .own ∨ (fl = .full ∧ L = [])) (i : Nat) (H : Heap) (hi : Old H i (mdB cap start L fl)) :
  W n_ref14_Model_size [.ptr i 0] H = some (.int .i64 (sizeL L), H) := by
 obtain ⟨M, h⟩ := size_loop L (fun b hb => (hL b hb).ok) hn H L [] [] rfl
 have g0 : ((([] : List Ba).length : Nat) : Int) = 0 := rfl
 have g1 : sizeL [] = 0 := rfl
 rw [g0, g1] at h
 have gj := hi.get
 unfold mdB at gj
 refine W_fn rfl rfl ?_
 rcases hfl with rfl | ⟨rfl, rfl⟩
 ·simp only [go_sem, c_ref14_Model_size, gj, List.length_map, h, simprocAttr]
 ·simp only [List.map_nil] at gj
  have h0 : ¬ ((0 : Int) < 0) := by omega
  have hl : loopA W loopW (.ghost (.kill k_ref14_Model_size_0) l_ref14_Model_size_0) [(3, .int .i64 0), (9, .list 7 [] .full), (10, .int .i64 0), (11, .int .i64 0)] (hx H []) = some (.exit 0, [(3, .int .i64 0)], hx H []) := by
   refine loop_step l_ref14_Model_size_0.eq_1 k_ref14_Model_size_0.eq_1 (by kernel_rfl) ?_
   simp only [go_sem, h0, Int.lt_irrefl, simprocAttr]
  simp only [go_sem, c_ref14_Model_size, gj, List.length_nil, Int.natCast_zero, hl, simprocAttr]
  rfl
def putR (cap start : Int) (L : List Ba) (b : Ba) : Int × Int :=
 if (tabCheck (foldL L []) b).2 ≠ 0 then (-1, (tabCheck (foldL L []) b).2)
 else if (tabCheck (foldL L []) b).1 ≥ 0 then ((tabCheck (foldL L []) b).1, 0)
 else if sizeL L + sizeE b > cap then (-1, 17)
 else if endE start L + countE b > 1099511627776 then (-1, 18)
 else (b.base, 0)
def putOK (cap start : Int) (L : List Ba) (b : Ba) : Bool :=
 decide ((tabCheck (foldL L []) b).2 = 0) && (decide ((tabCheck (foldL L []) b).1 < 0) && (decide (sizeL L + sizeE b ≤ cap) && decide (endE start L + countE b ≤ 1099511627776)))
theorem foldL_tk : ∀ (A : List Ba) (L : List Pr) (n : Nat), TK L n → TK (foldL A L) (n + A.length)
 | [], _, _, h => h
 | b :: A, L, n, h => by
  have := foldL_tk A (tabL L b) (n + 1) (h.next b)
  rw [show n + (b :: A).length = n + 1 + A.length by simp; omega]
  exact this
theorem endE_range (start : Int) (L : List Ba) (hL : ∀ b ∈ L, Fit b) (h0 : 0 ≤ start) (h1 : start ≤ 1099511627776) : 0 ≤ endE start L ∧ endE start L ≤ 1099511627792 := by
 unfold endE
 split
 ·omega
 ·rename_i b hb
  have hm := hL b (List.mem_of_getLast? hb)
  have := hm.base
  have := hm.count
  omega
set_option maxHeartbeats 1000000 in
theorem put_no (cap start : Int) (L : List Ba) (hL : ∀ b ∈ L, Fit b) (hn : L.length ≤ 900) (fl : Fl) (hfl : fl = .own ∨ (fl = .full ∧ L = [])) (h0 : 0 ≤ start) (hs1 : start ≤ 1099511627776) (b : Ba) (hb : BOK b) (hr : b.recs.length ≤ 1000)
  (i : Nat) (H : Heap) (hi : Old H i (mdB cap start L fl)) (hc : putOK cap start L b = false) :
  W n_ref14_Model_put [.ptr i 0, b.V] H = some (.tuple [.int .i64 (putR cap start L b).1, .int .i64 (putR cap start L b).2], H) := by
 obtain ⟨M, tf0⟩ := fold_spec L (fun b hb => (hL b hb).ok) (by omega) (hx H [.cells b.cs])
 obtain ⟨T, hT⟩ : ∃ T, tabB (foldL L []) (foldF L [] .full) = T := ⟨_, rfl⟩
 have tf : W n_ref10_Fold [.list 7 (L.map Ba.V) .ro] (hx H [.cells b.cs]) = some (.tuple [.ptr (pt H 1) 0, .list 3 ((foldD L []).map laV) (dFl (foldD L []))], hx H (.cells b.cs :: T :: M)) := by
  rw [tf0, hT]
  simp [hx, pt]
 have hfo := foldF_ok L [] .full (.inr ⟨rfl, rfl⟩)
 have hTK := foldL_tk L [] 0 ⟨by simp, by simp⟩
 have tc := fun M' => tab_check_spec (foldL L []) (hTK.ok (by omega)) (foldF L [] .full) hfo (pt H 1) (hx H (.cells b.cs :: T :: M')) ⟨by rw [hx_get, hT]; rfl⟩ b hb
 have tz := fun M' => size_spec cap start L hL (by omega) fl hfl i (hx H M') ⟨hi.get M'⟩
 have te := fun M' => model_end_spec cap start L hL (by omega) fl hfl i (hx H M') ⟨hi.get M'⟩
 have ts := fun H => ref_size_spec b hb H
 have tn := fun H => ref_count_spec b H
 rw [show (if b.mark = 0 then (b.recs.length : Int) else 1) = countE b from rfl] at tn
 have r1 := sizeE_range (b := b)
 have r2 := sizeL_range L
 have w1 : IntKind.i64.wrap (sizeL L + sizeE b) = sizeL L + sizeE b := wrap_id (by unfold I64; omega)
 have re := endE_range start L hL h0 hs1
 have rc : 0 ≤ countE b ∧ countE b ≤ 1000 := by unfold countE; split <;> omega
 have w2 : IntKind.i64.wrap (endE start L + countE b) = endE start L + countE b := wrap_id (by unfold I64; omega)
 have gj := hi.get
 unfold mdB at gj
 unfold putOK at hc
 unfold putR
 generalize tabCheck (foldL L []) b = R at *
 obtain ⟨ba, er⟩ := R
 obtain ⟨sz, hsz⟩ : ∃ sz, sizeL L + sizeE b = sz := ⟨_, rfl⟩
 obtain ⟨en, hen⟩ : ∃ en, endE start L + countE b = en := ⟨_, rfl⟩
 replace w1 := w1.trans hsz
 replace w2 := w2.trans hen
 simp only [hsz, hen] at hc tc ⊢
 unfold Ba.V Ba.cs at *
 by_cases c1 : er = 0
 ·subst c1
  rw [if_neg (by simp)]
  by_cases c2 : ba ≥ 0
  ·rw [if_pos c2]
   refine W_fn rfl rfl ?_
   rcases hfl with rfl | ⟨rfl, rfl⟩
   ·simp only [go_sem, c_ref14_Model_put, gj, tf, tc, c2, simprocAttr]
   ·simp only [List.map_nil] at gj tf
    simp only [go_sem, c_ref14_Model_put, gj, tf, tc, c2, simprocAttr]
  ·rw [if_neg c2]
   by_cases c3 : sz > cap
   ·rw [if_pos c3]
    refine W_fn rfl rfl ?_
    rcases hfl with rfl | ⟨rfl, rfl⟩
    ·simp only [go_sem, c_ref14_Model_put, gj, tf, tc, c2, tz, ts, w1, c3, simprocAttr]
    ·simp only [List.map_nil] at gj tf
     simp only [go_sem, c_ref14_Model_put, gj, tf, tc, c2, tz, ts, w1, c3, simprocAttr]
   ·rw [if_neg c3]
    have c4 : en > 1099511627776 := by
     simp at hc
     omega
    rw [if_pos c4]
    refine W_fn rfl rfl ?_
    rcases hfl with rfl | ⟨rfl, rfl⟩
    ·simp only [go_sem, c_ref14_Model_put, gj, tf, tc, c2, tz, ts, w1, c3, te, tn, w2, c4, simprocAttr]
    ·simp only [List.map_nil] at gj tf
     simp only [go_sem, c_ref14_Model_put, gj, tf, tc, c2, tz, ts, w1, c3, te, tn, w2, c4, simprocAttr]
 ·rw [if_pos c1]
  refine W_fn rfl rfl ?_
  rcases hfl with rfl | ⟨rfl, rfl⟩
  ·simp only [go_sem, c_ref14_Model_put, gj, tf, tc, c1, simprocAttr]
  ·simp only [List.map_nil] at gj tf
   simp only [go_sem, c_ref14_Model_put, gj, tf, tc, c1, simprocAttr]
set_option maxHeartbeats 1000000 in
theorem put_yes (cap start : Int) (L : List Ba) (hL : ∀ b ∈ L, Fit b) (hn : L.length ≤ 900) (fl : Fl) (hfl : fl = .own ∨ (fl = .full ∧ L = [])) (h0 : 0 ≤ start) (hs1 : start ≤ 1099511627776) (b : Ba) (hb : BOK b) (hr : b.recs.length ≤ 1000)
  (i : Nat) (H : Heap) (hi : Old H i (mdB cap start L fl)) (hc : putOK cap start L b = true) :
  W n_ref14_Model_put [.ptr i 0, b.V] H = some (.tuple [.int .i64 b.base, .int .i64 0], H.set i (mdB cap start (L ++ [b]) .own)) := by
 obtain ⟨M, tf0⟩ := fold_spec L (fun b hb => (hL b hb).ok) (by omega) (hx H [.cells b.cs])
 obtain ⟨T, hT⟩ : ∃ T, tabB (foldL L []) (foldF L [] .full) = T := ⟨_, rfl⟩
 have tf : W n_ref10_Fold [.list 7 (L.map Ba.V) .ro] (hx H [.cells b.cs]) = some (.tuple [.ptr (pt H 1) 0, .list 3 ((foldD L []).map laV) (dFl (foldD L []))], hx H (.cells b.cs :: T :: M)) := by
  rw [tf0, hT]
  simp [hx, pt]
 have hfo := foldF_ok L [] .full (.inr ⟨rfl, rfl⟩)
 have hTK := foldL_tk L [] 0 ⟨by simp, by simp⟩
 have tc := fun M' => tab_check_spec (foldL L []) (hTK.ok (by omega)) (foldF L [] .full) hfo (pt H 1) (hx H (.cells b.cs :: T :: M')) ⟨by rw [hx_get, hT]; rfl⟩ b hb
 have tz := fun M' => size_spec cap start L hL (by omega) fl hfl i (hx H M') ⟨hi.get M'⟩
 have te := fun M' => model_end_spec cap start L hL (by omega) fl hfl i (hx H M') ⟨hi.get M'⟩
 have ts := fun H => ref_size_spec b hb H
 have tn := fun H => ref_count_spec b H
 rw [show (if b.mark = 0 then (b.recs.length : Int) else 1) = countE b from rfl] at tn
 have r1 := sizeE_range (b := b)
 have r2 := sizeL_range L
 have w1 : IntKind.i64.wrap (sizeL L + sizeE b) = sizeL L + sizeE b := wrap_id (by unfold I64; omega)
 have re := endE_range start L hL h0 hs1
 have rc : 0 ≤ countE b ∧ countE b ≤ 1000 := by unfold countE; split <;> omega
 have w2 : IntKind.i64.wrap (endE start L + countE b) = endE start L + countE b := wrap_id (by unfold I64; omega)
 have gj := hi.get
 have gs := hi.set
 have gj' := hi.get'
 have gs' := hi.set'
 unfold mdB at gj gs gj' gs' ⊢
 unfold putOK at hc
 generalize tabCheck (foldL L []) b = R at *
 obtain ⟨ba, er⟩ := R
 obtain ⟨sz, hsz⟩ : ∃ sz, sizeL L + sizeE b = sz := ⟨_, rfl⟩
 obtain ⟨en, hen⟩ : ∃ en, endE start L + countE b = en := ⟨_, rfl⟩
 replace w1 := w1.trans hsz
 replace w2 := w2.trans hen
 simp only [hsz, hen] at hc tc
 have d : er = 0 ∧ ba < 0 ∧ sz ≤ cap ∧ en ≤ 1099511627776 := by simpa using hc
 obtain ⟨rfl, d2, d3, d4⟩ := d
 have c2 : ¬ ba ≥ 0 := by omega
 have c3 : ¬ sz > cap := by omega
 have c4 : ¬ en > 1099511627776 := by omega
 have b1 : b.recs.length * 32 ≤ maxBytes := by simp only [maxBytes]; omega
 have b1' : (0 + b.recs.length) * 32 ≤ maxBytes := by simp only [maxBytes]; omega
 have b2 : L.length * 72 ≤ maxBytes := by simp only [maxBytes]; omega
 have b2' : (0 + L.length) * 72 ≤ maxBytes := by simp only [maxBytes]; omega
 have b3 : (L.length + 1) * 72 ≤ maxBytes := by simp only [maxBytes]; omega
 have a1 : L.map Ba.V ++ [.agg [.int .i64 b.base, .int .i64 b.prod, .int .i64 b.epoch, .int .i64 b.seq, .bool b.txn, .int .i64 b.mark, .list 2 (b.recs.map rcV) .ro]] = (L ++ [b]).map Ba.V := by simp [Ba.V, Ba.cs]
 have fb : Box.flatB (.cells [.int .i64 cap, .int .i64 start, .list 7 ((L ++ [b]).map Ba.V) .own]) = true := by
  have u : ∀ (l : List Ba), AVal.underL 0 (l.map Ba.V) = true := by
   intro l
   induction l with
   | nil => rfl
   | cons x l ih => simp [Ba.V, Ba.cs, AVal.underL, AVal.under, under_rc, ih]
  simp only [Box.flatB, AVal.underL, AVal.under, u, Bool.and_self]
 unfold Ba.V Ba.cs at *
 refine W_fnS rfl rfl ?_
 rcases hfl with rfl | ⟨rfl, rfl⟩
 ·simp only [go_sem, c_ref14_Model_put, gj, gs, gj', gs', tf, tc, c2, tz, ts, w1, c3, te, tn, w2, c4, apF, apO, List.length_nil, List.length_map, Nat.zero_add, List.nil_append, b1, b2, b3, a1, fb, simprocAttr]
 ·simp only [List.map_nil, List.nil_append, List.map_cons] at gj gs gj' gs' tf fb ⊢
  have b5 : (0 + 0) * 72 ≤ maxBytes := by decide
  have b6 : (0 + 1) * 72 ≤ maxBytes := by decide
  simp only [go_sem, c_ref14_Model_put, gj, gs, gj', gs', tf, tc, c2, tz, ts, w1, c3, te, tn, w2, c4, apF, apO, List.length_nil, List.length_map, Nat.zero_add, List.nil_append, b1, b5, b6, fb, simprocAttr]
theorem under_bas (n : Nat) : ∀ (l : List Ba), AVal.underL n (l.map Ba.V) = true
 | [] => rfl
 | x :: l => by simp [Ba.V, Ba.cs, AVal.underL, AVal.under, under_rc, under_bas n l]
theorem mdB_flat (cap start L fl) : (mdB cap start L fl).flatB = true := by
 simp only [mdB, Box.flatB, AVal.underL, AVal.under, under_bas, Bool.and_self]
def atEnd (start : Int) (L : List Ba) (b : Ba) : Ba := { b with base := endE start L }
def prodOK (cap start : Int) (L : List Ba) (b : Ba) : Bool :=
 decide (rightE (atEnd start L b) = 0) && (decide (b.mark = 0) && putOK cap start L (atEnd start L b))
def prodL (cap start : Int) (L : List Ba) (b : Ba) : List Ba := if prodOK cap start L b = true then L ++ [atEnd start L b] else L
def prodF (cap start : Int) (L : List Ba) (b : Ba) (fl : Fl) : Fl := if prodOK cap start L b = true then .own else fl
theorem produce_spec (cap start : Int) (L : List Ba) (hL : ∀ b ∈ L, Fit b) (hn : L.length ≤ 900) (fl : Fl) (hfl : fl = .own ∨ (fl = .full ∧ L = [])) (h0 : 0 ≤ start) (hs1 : start ≤ 1099511627776) (b : Ba) (hb : BOK b) (hr : b.recs.length ≤ 1000)
  (i : Nat) (H : Heap) (hi : Old H i (mdB cap start L fl)) :
  ∃ x y, W n_ref14_Model_Produce [.ptr i 0, b.V] H = some (.tuple [.int .i64 x, .int .i64 y], H.set i (mdB cap start (prodL cap start L b) (prodF cap start L b fl))) := by
 have re := endE_range start L hL h0 hs1
 obtain ⟨b', hb'⟩ : ∃ b', atEnd start L b = b' := ⟨_, rfl⟩
 have hbo : BOK b' := by
  rw [← hb']
  exact ⟨by unfold I64 atEnd; simp only; omega, hb.prod, hb.epoch, hb.seq, hb.mark⟩
 have hrr : b'.recs.length ≤ 1000 := by rw [← hb']; exact hr
 have f1 : b'.base = endE start L := by rw [← hb']; rfl
 have f2 : b'.prod = b.prod := by rw [← hb']; rfl
 have f3 : b'.epoch = b.epoch := by rw [← hb']; rfl
 have f4 : b'.seq = b.seq := by rw [← hb']; rfl
 have f5 : b'.txn = b.txn := by rw [← hb']; rfl
 have f6 : b'.mark = b.mark := by rw [← hb']; rfl
 have f7 : b'.recs = b.recs := by rw [← hb']; rfl
 have te := fun M' => model_end_spec cap start L hL (by omega) fl hfl i (hx H M') ⟨hi.get M'⟩
 have tr := fun H => ref_right_spec b' hbo H
 have tn := fun M' => put_no cap start L hL hn fl hfl h0 hs1 b' hbo hrr i (hx H M') ⟨hi.get M'⟩
 have ty := fun M' => put_yes cap start L hL hn fl hfl h0 hs1 b' hbo hrr i (hx H M') ⟨hi.get M'⟩
 have gs := hi.set
 have hsame := hi.same
 unfold prodL prodF prodOK
 rw [hb']
 unfold Ba.V Ba.cs at *
 rw [f1, f2, f3, f4, f5, f6, f7] at tr tn ty
 by_cases c1 : rightE b' = 0
 ·rw [c1] at tr
  have d1 : decide (rightE b' = 0) = true := decide_eq_true c1
  by_cases c2 : b.mark = 0
  ·have d2 : decide (b.mark = 0) = true := decide_eq_true c2
   cases c3 : putOK cap start L b' with
   | false =>
    have tn' := fun M' => tn M' c3
    simp only [d1, d2, Bool.and_false, Bool.false_eq_true, if_false, hsame]
    refine ⟨(putR cap start L b').1, (putR cap start L b').2, ?_⟩
    refine W_fn rfl rfl ?_
    simp only [go_sem, c_ref14_Model_Produce, te, tr, tn', eq_true c2, simprocAttr]
   | true =>
    have ty' := fun M' => ty M' c3
    simp only [gs] at ty'
    simp only [d1, d2, Bool.and_true, if_true]
    refine ⟨endE start L, 0, ?_⟩
    refine W_fnS rfl rfl ?_
    simp only [go_sem, c_ref14_Model_Produce, te, tr, ty', eq_true c2, mdB_flat, simprocAttr]
  ·simp only [c1, c2, decide_true, decide_false, Bool.and_false, Bool.false_and, Bool.false_eq_true, if_false, hsame]
   refine ⟨-1, 16, ?_⟩
   refine W_fn rfl rfl ?_
   simp only [go_sem, c_ref14_Model_Produce, te, tr, c2, simprocAttr]
 ·simp only [c1, decide_false, Bool.false_and, Bool.false_eq_true, if_false, hsame]
  refine ⟨-1, rightE b', ?_⟩
  refine W_fn rfl rfl ?_
  simp only [go_sem, c_ref14_Model_Produce, te, tr, c1, simprocAttr]
def markB (start : Int) (L : List Ba) (prod epoch mark : Int) : Ba := ⟨endE start L, prod, epoch, -1, true, mark, []⟩
def markOK (cap start : Int) (L : List Ba) (prod epoch mark : Int) : Bool := !decide (mark = 0) && putOK cap start L (markB start L prod epoch mark)
def markL (cap start : Int) (L : List Ba) (prod epoch mark : Int) : List Ba := if markOK cap start L prod epoch mark = true then L ++ [markB start L prod epoch mark] else L
def markF (cap start : Int) (L : List Ba) (prod epoch mark : Int) (fl : Fl) : Fl := if markOK cap start L prod epoch mark = true then .own else fl
theorem mark_spec (cap start : Int) (L : List Ba) (hL : ∀ b ∈ L, Fit b) (hn : L.length ≤ 900) (fl : Fl) (hfl : fl = .own ∨ (fl = .full ∧ L = [])) (h0 : 0 ≤ start) (hs1 : start ≤ 1099511627776) (prod epoch mark : Int) (hp : I64 prod) (he : I64 epoch) (hm : I64 mark)
  (i : Nat) (H : Heap) (hi : Old H i (mdB cap start L fl)) :
  ∃ x y, W n_ref14_Model_Mark [.ptr i 0, .int .i64 prod, .int .i64 epoch, .int .i64 mark] H = some (.tuple [.int .i64 x, .int .i64 y], H.set i (mdB cap start (markL cap start L prod epoch mark) (markF cap start L prod epoch mark fl))) := by
 have re := endE_range start L hL h0 hs1
 obtain ⟨b', hb'⟩ : ∃ b', markB start L prod epoch mark = b' := ⟨_, rfl⟩
 have hbo : BOK b' := by
  rw [← hb']
  exact ⟨by unfold I64 markB; simp only; omega, hp, he, by unfold I64 markB; simp only; omega, hm⟩
 have te := fun M' => model_end_spec cap start L hL (by omega) fl hfl i (hx H M') ⟨hi.get M'⟩
 have hrr : b'.recs.length ≤ 1000 := by rw [← hb']; simp [markB]
 have tn := fun M' => put_no cap start L hL hn fl hfl h0 hs1 b' hbo hrr i (hx H M') ⟨hi.get M'⟩
 have ty := fun M' => put_yes cap start L hL hn fl hfl h0 hs1 b' hbo hrr i (hx H M') ⟨hi.get M'⟩
 have gs := hi.set
 have hsame := hi.same
 unfold markL markF markOK
 rw [hb']
 have hv : b'.V = .agg [.int .i64 (endE start L), .int .i64 prod, .int .i64 epoch, .int .i64 (-1), .bool true, .int .i64 mark, .list 2 [] .ro] := by rw [← hb']; rfl
 have hba : b'.base = endE start L := by rw [← hb']; rfl
 rw [hv] at tn ty
 rw [hba] at ty
 by_cases c2 : mark = 0
 ·have d2 : decide (mark = 0) = true := decide_eq_true c2
  simp only [d2, Bool.not_true, Bool.false_and, Bool.false_eq_true, if_false, hsame]
  refine ⟨-1, 12, ?_⟩
  refine W_fn rfl rfl ?_
  simp only [go_sem, c_ref14_Model_Mark, eq_true c2, simprocAttr]
 ·have d2 : decide (mark = 0) = false := decide_eq_false c2
  cases c3 : putOK cap start L b' with
  | false =>
   have tn' := fun M' => tn M' c3
   simp only [d2, Bool.not_false, Bool.and_false, Bool.false_eq_true, if_false, hsame]
   refine ⟨(putR cap start L b').1, (putR cap start L b').2, ?_⟩
   refine W_fn rfl rfl ?_
   simp only [go_sem, c_ref14_Model_Mark, te, tn', c2, simprocAttr]
  | true =>
   have ty' := fun M' => ty M' c3
   simp only [gs] at ty'
   simp only [d2, Bool.not_false, Bool.and_self, if_true]
   refine ⟨endE start L, 0, ?_⟩
   refine W_fnS rfl rfl ?_
   simp only [go_sem, c_ref14_Model_Mark, te, ty', c2, mdB_flat, simprocAttr]
theorem Old.other {H i j B} (h : Old H j B) (hij : i ≠ j) (B') : Old (H.set i B') j B := ⟨by rw [List.getElem?_set_ne hij]; exact h.g⟩
structure PrOK (p : Pr) : Prop where
 id : I64 p.id
 epoch : I64 p.epoch
 open_ : I64 p.open_
 last : ∀ x ∈ p.last, I64 x.1 ∧ I64 x.2.1 ∧ I64 x.2.2
theorem lastS_i64 (n c : Int) : I64 (lastS n c) := by
 unfold lastS
 split
 ·exact i64_c (by omega) (by omega)
 ·unfold addS
  split
  ·exact i64_c (by omega) (by omega)
  ·exact i64_c (by omega) (by omega)
theorem zeroPr_ok : PrOK zeroPr := ⟨i64_c (by decide) (by decide), i64_c (by decide) (by decide), i64_c (by decide) (by decide), by simp [zeroPr]⟩
theorem applyP_ok {p : Pr} (h : PrOK p) (known : Bool) {b : Ba} (hb : BOK b) : PrOK (applyP p known b) := by
 have hl : ∀ x ∈ lastsP p known b, I64 x.1 ∧ I64 x.2.1 ∧ I64 x.2.2 := by
  unfold lastsP
  split
  ·exact h.last
  ·simp
 have ho : I64 (openP p known) := by
  unfold openP
  split
  ·exact h.open_
  ·exact i64_c (by decide) (by decide)
 unfold applyP
 split
 ·exact ⟨hb.prod, hb.epoch, show I64 (-1) from i64_c (by decide) (by decide), hl⟩
 ·refine ⟨hb.prod, hb.epoch, ?_, ?_⟩
  ·simp only; split
   ·exact hb.base
   ·exact ho
  ·intro x hx
   have hx' := List.mem_of_mem_drop hx
   unfold newL at hx'
   rw [List.mem_append] at hx'
   rcases hx' with hx' | hx'
   ·exact hl x hx'
   ·simp only [List.mem_cons, List.not_mem_nil, or_false] at hx'
    rw [hx']
    exact ⟨hb.seq, lastS_i64 _ _, hb.base⟩
theorem tabL_ok {L : List Pr} (h : ∀ p ∈ L, PrOK p) {b : Ba} (hb : BOK b) : ∀ p ∈ tabL L b, PrOK p := by
 unfold tabL
 split
 ·exact h
 ·split
  ·rename_i p hp
   intro q hq
   rcases List.mem_or_eq_of_mem_set hq with hq | rfl
   ·exact h q hq
   ·exact applyP_ok (h p (atP_mem hp).1) true hb
  ·intro q hq
   simp only [List.append_assoc, List.mem_append, List.mem_cons, List.not_mem_nil, or_false] at hq
   rcases hq with hq | rfl | hq
   ·exact h q (List.mem_of_mem_take hq)
   ·exact applyP_ok zeroPr_ok false hb
   ·exact h q (List.mem_of_mem_drop hq)
theorem foldL_ok : ∀ (A : List Ba) (L : List Pr), (∀ b ∈ A, BOK b) → (∀ p ∈ L, PrOK p) → ∀ p ∈ foldL A L, PrOK p
 | [], _, _, h => h
 | b :: A, L, hA, h => foldL_ok A (tabL L b) (fun x hx => hA x (List.mem_cons_of_mem _ hx)) (tabL_ok h (hA b List.mem_cons_self))
theorem foldL_TK : ∀ (A : List Ba) (L : List Pr) (n : Nat), TK L n → TK (foldL A L) (n + A.length)
 | [], _, _, h => h
 | b :: A, L, n, h => by
  have := foldL_TK A (tabL L b) (n + 1) (h.next b)
  rw [show n + (b :: A).length = n + 1 + A.length by simp only [List.length_cons]; omega]
  exact this
def seqAsk (p : Pr) : Int := match p.last.getLast? with
 | some x => (x.2.1 + 1) % 2147483648
 | none => 0
def askData (l : List Int) (b : Ba) (p : Pr) (a : Nat) : Ba × Nat :=
 let b1 : Ba := { b with epoch := p.epoch, seq := seqAsk p, txn := decide (p.open_ ≥ 0) || b.txn }
 if p.last = [] then (b1, a)
 else if nextV l a 7 = 0 then ({ b1 with seq := (p.last.getD (nextV l (nextA l a 7) p.last.length).toNat (0, 0, 0)).1 }, nextA l (nextA l a 7) p.last.length)
 else (b1, nextA l a 7)
def askStep (l : List Int) (s : Ba × Nat) (p : Pr) : Ba × Nat :=
 if p.id ≠ s.1.prod then s
 else if s.1.mark ≠ 0 then ({ s.1 with epoch := p.epoch }, s.2)
 else askData l s.1 p s.2
def askB (l : List Int) (L : List Ba) (a : Nat) : Ba × Nat :=
 let s := tapeBatch l 0 a
 if s.1.prod < 0 then s
 else if nextV l s.2 8 = 0 then (s.1, nextA l s.2 8)
 else (foldL L []).foldl (askStep l) (s.1, nextA l s.2 8)
structure AskOK (l : List Int) (s : Ba × Nat) : Prop where
 bok : BOK s.1
 at_ : s.2 ≤ l.length
 recs : s.1.recs.length ≤ 16
theorem askData_ok {l b p a} (hl : l.length ≤ 70368744177664) (h : AskOK l (b, a)) (hp : PrOK p) (hn : p.last.length ≤ 5) : AskOK l (askData l b p a) := by
 have hs : I64 (seqAsk p) := by
  unfold seqAsk
  split
  ·exact i64_c (by omega) (by omega)
  ·exact i64_c (by omega) (by omega)
 have h1 := nextA_le (n := 7) h.at_
 unfold askData
 simp only
 split
 ·exact ⟨⟨h.bok.base, h.bok.prod, hp.epoch, hs, h.bok.mark⟩, h.at_, h.recs⟩
 ·rename_i hne
  split
  ·refine ⟨⟨h.bok.base, h.bok.prod, hp.epoch, ?_, h.bok.mark⟩, nextA_le h1, h.recs⟩
   simp only
   have hpos : 0 < p.last.length := List.length_pos_iff.2 hne
   have r := nextV_range (l := l) (a := nextA l a 7) (n := p.last.length) (by omega) (by omega)
   rw [List.getD_eq_getElem?_getD]
   have : (nextV l (nextA l a 7) p.last.length).toNat < p.last.length := by omega
   rw [List.getElem?_eq_getElem this]
   exact (hp.last _ (List.getElem_mem this)).1
  ·exact ⟨⟨h.bok.base, h.bok.prod, hp.epoch, hs, h.bok.mark⟩, h1, h.recs⟩
theorem askStep_ok {l s p} (hl : l.length ≤ 70368744177664) (h : AskOK l s) (hp : PrOK p) (hn : p.last.length ≤ 5) : AskOK l (askStep l s p) := by
 unfold askStep
 split
 ·exact h
 ·split
  ·exact ⟨⟨h.bok.base, h.bok.prod, hp.epoch, h.bok.seq, h.bok.mark⟩, h.at_, h.recs⟩
  ·exact askData_ok hl h hp hn
theorem askFold_ok {l} (hl : l.length ≤ 70368744177664) : ∀ (P : List Pr) (s : Ba × Nat), AskOK l s → (∀ p ∈ P, PrOK p ∧ p.last.length ≤ 5) → AskOK l (P.foldl (askStep l) s)
 | [], _, h, _ => h
 | p :: P, s, h, hP => askFold_ok hl P (askStep l s p) (askStep_ok hl h (hP p List.mem_cons_self).1 (hP p List.mem_cons_self).2) (fun q hq => hP q (List.mem_cons_of_mem _ hq))
set_option maxHeartbeats 2000000 in
theorem ask_loop (l : List Int) (hl : l.length ≤ 70368744177664) (P : List Pr) (hP : ∀ p ∈ P, PrOK p ∧ p.last.length ≤ 5) (hn : P.length ≤ 1000000) (fl : Fl) (hfl : fl = .ro ∨ fl = .full) (i : Nat) (X : Box) (r : List Pr) : ∀ (q : List Pr) (s : Ba × Nat) (G N : Heap), P = q ++ r → AskOK l s → Old G i (tapeB l s.2) →
  ∃ M, loopA W loopW (.ghost (.kill k_keep_Tape_Ask_0) l_keep_Tape_Ask_0) [(0, .ptr i 0), (4, .ptr (pt G 0) 0), (5, .ptr (pt G 1) 0), (22, .list 4 (P.map Pr.V) fl), (23, .int .i64 (P.length : Nat)), (24, .int .i64 (q.length : Nat))] (hx G (X :: .cells s.1.cs :: N)) =
   some (.exit 0, [(4, .ptr (pt G 0) 0), (5, .ptr (pt G 1) 0)], hx (G.set i (tapeB l (r.foldl (askStep l) s).2)) (X :: .cells (r.foldl (askStep l) s).1.cs :: M)) := by
 induction r with
 | nil =>
  intro q s G N hq hs hi
  rw [List.append_nil] at hq
  subst hq
  refine ⟨N, ?_⟩
  have h1 : ¬ ((P.length : Int) < (P.length : Int)) := by omega
  rw [List.foldl_nil, hi.same]
  refine loop_step l_keep_Tape_Ask_0.eq_1 k_keep_Tape_Ask_0.eq_1 (by kernel_rfl) ?_
  simp only [go_sem, h1, simprocAttr]
 | cons p r ih =>
  intro q s G N hq hs hi
  obtain ⟨b, a⟩ := s
  have hlen : q.length < P.length := by rw [hq]; simp
  have h1 : ((q.length : Int) < (P.length : Int)) := by omega
  have e0 : (0 : Int) ≤ (q.length : Int) := by omega
  have e7 : ((q.length : Nat) : Int).toNat = q.length := by omega
  have e1 : (P.map Pr.V)[q.length]? = some (.agg [.int .i64 p.id, .int .i64 p.epoch, .list 3 (p.last.map laV) .ro, .int .i64 p.open_]) := by rw [hq]; simp [Pr.V, Pr.cs]
  have e6 : IntKind.i64.wrap ((q.length : Int) + 1) = ((q.length + 1 : Nat) : Int) := by rw [wrap_id (by unfold I64; omega)]; omega
  obtain ⟨hp, hp5⟩ := hP p (by rw [hq]; simp)
  have hs' := askStep_ok hl hs hp hp5
  rw [List.foldl_cons]
  have step := fun (s' : Ba × Nat) (e : askStep l (b, a) p = s') (N' : Heap) => ih (q ++ [p]) s' (G.set i (tapeB l s'.2)) N' (by rw [hq]; simp) (by rw [← e]; exact hs') (hi.step _)
  simp only [List.length_append, List.length_cons, List.length_nil, Nat.zero_add, pt_set, List.set_set] at step
  have hi' := hi.same
  simp only at hi hi' hs
  by_cases c0 : p.id = b.prod
  ·by_cases c1 : b.mark = 0
   ·have hst : askStep l (b, a) p = askData l b p a := by unfold askStep; rw [if_neg (by simpa using c0), if_neg (by simpa using c1)]
    rw [hst] at step ⊢
    rcases List.eq_nil_or_concat p.last with hl0 | ⟨l', x, hl0⟩
    ·have hq0 : seqAsk p = 0 := by unfold seqAsk; rw [hl0]; rfl
     by_cases c3 : p.open_ ≥ 0
     ·have e : askData l b p a = ({ b with epoch := p.epoch, seq := 0, txn := true }, a) := by
       unfold askData; rw [if_pos hl0, hq0, decide_eq_true c3, Bool.true_or]
      rw [e]
      obtain ⟨M, h2⟩ := step _ e (N ++ [.cells p.cs])
      refine ⟨M, ?_⟩
      simp only [hi'] at h2
      unfold Ba.cs Pr.cs at *
      rw [hl0, List.map_nil] at h2 e1
      refine loop_step l_keep_Tape_Ask_0.eq_1 k_keep_Tape_Ask_0.eq_1 (by kernel_rfl) ?_
      rcases hfl with rfl | rfl
      ·simp only [go_sem, h1, e0, e7, e1, eq_true c0, eq_true c1, e6, List.length_nil, Int.natCast_zero, gt_iff_lt, Int.lt_irrefl, c3, simprocAttr]
       exact h2
      ·simp only [go_sem, h1, e0, e7, e1, eq_true c0, eq_true c1, e6, List.length_nil, Int.natCast_zero, gt_iff_lt, Int.lt_irrefl, c3, simprocAttr]
       exact h2
     ·have e : askData l b p a = ({ b with epoch := p.epoch, seq := 0 }, a) := by
       unfold askData; rw [if_pos hl0, hq0, decide_eq_false c3, Bool.false_or]
      rw [e]
      obtain ⟨M, h2⟩ := step _ e (N ++ [.cells p.cs])
      refine ⟨M, ?_⟩
      simp only [hi'] at h2
      unfold Ba.cs Pr.cs at *
      rw [hl0, List.map_nil] at h2 e1
      refine loop_step l_keep_Tape_Ask_0.eq_1 k_keep_Tape_Ask_0.eq_1 (by kernel_rfl) ?_
      rcases hfl with rfl | rfl
      ·simp only [go_sem, h1, e0, e7, e1, eq_true c0, eq_true c1, e6, List.length_nil, Int.natCast_zero, gt_iff_lt, Int.lt_irrefl, c3, simprocAttr]
       exact h2
      ·simp only [go_sem, h1, e0, e7, e1, eq_true c0, eq_true c1, e6, List.length_nil, Int.natCast_zero, gt_iff_lt, Int.lt_irrefl, c3, simprocAttr]
       exact h2
    ·have hne : p.last ≠ [] := by rw [hl0]; simp
     have hx1 : p.last.getLast? = some x := by rw [hl0]; simp
     have hln : p.last.length = l'.length + 1 := by rw [hl0]; simp
     have hx2 := hp.last x (by rw [hl0]; simp)
     have hq0 : seqAsk p = (x.2.1 + 1) % 2147483648 := by unfold seqAsk; rw [hx1]
     have j1 : (p.last.length : Int) > 0 := by omega
     have w1 : IntKind.i64.wrap ((p.last.length : Int) - 1) = (l'.length : Int) := by rw [wrap_id (by unfold I64; omega)]; omega
     have j0 : (0 : Int) ≤ (l'.length : Int) := by omega
     have j7 : ((l'.length : Nat) : Int).toNat = l'.length := by omega
     have j2 : (p.last.map laV)[l'.length]? = some (.agg [.int .i64 x.1, .int .i64 x.2.1, .int .i64 x.2.2]) := by rw [hl0]; simp [laV]
     have w2 : bits .and .i64 (IntKind.i64.wrap (x.2.1 + 1)) 2147483647 = (x.2.1 + 1) % 2147483648 := by
      rw [and_seq, IntKind.wrap_i64]; omega
     have t1 := next_hx l hl a hs.at_ 7 i G hi
     have ha1 := nextA_le (n := 7) hs.at_
     have hi1 := hi.step (tapeB l (nextA l a 7))
     have t2 := next_hx l hl (nextA l a 7) ha1 (p.last.length : Nat) i _ hi1
     simp only [List.set_set] at t2
     have r2 := nextV_range (l := l) (a := nextA l a 7) (n := p.last.length) (by omega) (by omega)
     have j3 : (p.last.map laV)[(nextV l (nextA l a 7) p.last.length).toNat]? = some ((fun y => AVal.agg [.int .i64 y.1, .int .i64 y.2.1, .int .i64 y.2.2]) (p.last.getD (nextV l (nextA l a 7) p.last.length).toNat (0, 0, 0))) := by
      have : (nextV l (nextA l a 7) p.last.length).toNat < p.last.length := by omega
      rw [List.getElem?_map, List.getD_eq_getElem?_getD, List.getElem?_eq_getElem this]; rfl
     have j4 := r2.1
     by_cases c4 : nextV l a 7 = 0
     ·have e' : askData l b p a = ({ b with epoch := p.epoch, seq := (p.last.getD (nextV l (nextA l a 7) p.last.length).toNat (0, 0, 0)).1, txn := decide (p.open_ ≥ 0) || b.txn }, nextA l (nextA l a 7) p.last.length) := by
       unfold askData; rw [if_neg hne, if_pos c4]
      generalize nextA l (nextA l a 7) p.last.length = a2 at *
      generalize nextV l (nextA l a 7) p.last.length = v at *
      generalize p.last.getD v.toNat (0, 0, 0) = y at *
      generalize nextA l a 7 = a1 at *
      generalize nextV l a 7 = v1 at *
      by_cases c3 : p.open_ ≥ 0
      ·have e : askData l b p a = ({ b with epoch := p.epoch, seq := y.1, txn := true }, a2) := by rw [e', decide_eq_true c3, Bool.true_or]
       rw [e]
       obtain ⟨M, h2⟩ := step _ e (N ++ [.cells p.cs])
       refine ⟨M, ?_⟩
       simp only at j3
       unfold Ba.cs Pr.cs at *
       refine loop_step l_keep_Tape_Ask_0.eq_1 k_keep_Tape_Ask_0.eq_1 (by kernel_rfl) ?_
       rcases hfl with rfl | rfl
       ·simp only [go_sem, h1, e0, e7, e1, eq_true c0, eq_true c1, e6, List.length_map, j1, w1, j0, j7, j2, w2, c3, t1, eq_true c4, t2, j3, j4, simprocAttr]
        exact h2
       ·simp only [go_sem, h1, e0, e7, e1, eq_true c0, eq_true c1, e6, List.length_map, j1, w1, j0, j7, j2, w2, c3, t1, eq_true c4, t2, j3, j4, simprocAttr]
        exact h2
      ·have e : askData l b p a = ({ b with epoch := p.epoch, seq := y.1 }, a2) := by rw [e', decide_eq_false c3, Bool.false_or]
       rw [e]
       obtain ⟨M, h2⟩ := step _ e (N ++ [.cells p.cs])
       refine ⟨M, ?_⟩
       simp only at j3
       unfold Ba.cs Pr.cs at *
       refine loop_step l_keep_Tape_Ask_0.eq_1 k_keep_Tape_Ask_0.eq_1 (by kernel_rfl) ?_
       rcases hfl with rfl | rfl
       ·simp only [go_sem, h1, e0, e7, e1, eq_true c0, eq_true c1, e6, List.length_map, j1, w1, j0, j7, j2, w2, c3, t1, eq_true c4, t2, j3, j4, simprocAttr]
        exact h2
       ·simp only [go_sem, h1, e0, e7, e1, eq_true c0, eq_true c1, e6, List.length_map, j1, w1, j0, j7, j2, w2, c3, t1, eq_true c4, t2, j3, j4, simprocAttr]
        exact h2
     ·have e' : askData l b p a = ({ b with epoch := p.epoch, seq := (x.2.1 + 1) % 2147483648, txn := decide (p.open_ ≥ 0) || b.txn }, nextA l a 7) := by
       unfold askData; rw [if_neg hne, if_neg c4, hq0]
      clear t2 j3
      generalize nextA l a 7 = a1 at *
      generalize nextV l a 7 = v1 at *
      by_cases c3 : p.open_ ≥ 0
      ·have e : askData l b p a = ({ b with epoch := p.epoch, seq := (x.2.1 + 1) % 2147483648, txn := true }, a1) := by rw [e', decide_eq_true c3, Bool.true_or]
       rw [e]
       obtain ⟨M, h2⟩ := step _ e (N ++ [.cells p.cs])
       refine ⟨M, ?_⟩
       unfold Ba.cs Pr.cs at *
       refine loop_step l_keep_Tape_Ask_0.eq_1 k_keep_Tape_Ask_0.eq_1 (by kernel_rfl) ?_
       rcases hfl with rfl | rfl
       ·simp only [go_sem, h1, e0, e7, e1, eq_true c0, eq_true c1, e6, List.length_map, j1, w1, j0, j7, j2, w2, c3, t1, c4, simprocAttr]
        exact h2
       ·simp only [go_sem, h1, e0, e7, e1, eq_true c0, eq_true c1, e6, List.length_map, j1, w1, j0, j7, j2, w2, c3, t1, c4, simprocAttr]
        exact h2
      ·have e : askData l b p a = ({ b with epoch := p.epoch, seq := (x.2.1 + 1) % 2147483648 }, a1) := by rw [e', decide_eq_false c3, Bool.false_or]
       rw [e]
       obtain ⟨M, h2⟩ := step _ e (N ++ [.cells p.cs])
       refine ⟨M, ?_⟩
       unfold Ba.cs Pr.cs at *
       refine loop_step l_keep_Tape_Ask_0.eq_1 k_keep_Tape_Ask_0.eq_1 (by kernel_rfl) ?_
       rcases hfl with rfl | rfl
       ·simp only [go_sem, h1, e0, e7, e1, eq_true c0, eq_true c1, e6, List.length_map, j1, w1, j0, j7, j2, w2, c3, t1, c4, simprocAttr]
        exact h2
       ·simp only [go_sem, h1, e0, e7, e1, eq_true c0, eq_true c1, e6, List.length_map, j1, w1, j0, j7, j2, w2, c3, t1, c4, simprocAttr]
        exact h2
   ·have e : askStep l (b, a) p = ({ b with epoch := p.epoch }, a) := by unfold askStep; rw [if_neg (by simpa using c0), if_pos c1]
    rw [e]
    obtain ⟨M, h2⟩ := step _ e (N ++ [.cells p.cs])
    refine ⟨M, ?_⟩
    simp only [hi'] at h2
    unfold Ba.cs Pr.cs at *
    rcases hfl with rfl | rfl
    ·refine loop_step l_keep_Tape_Ask_0.eq_1 k_keep_Tape_Ask_0.eq_1 (by kernel_rfl) ?_
     simp only [go_sem, h1, e0, e7, e1, eq_true c0, c1, e6, simprocAttr]
     exact h2
    ·refine loop_step l_keep_Tape_Ask_0.eq_1 k_keep_Tape_Ask_0.eq_1 (by kernel_rfl) ?_
     simp only [go_sem, h1, e0, e7, e1, eq_true c0, c1, e6, simprocAttr]
     exact h2
  ·have e : askStep l (b, a) p = (b, a) := by unfold askStep; rw [if_pos (by simpa using c0)]
   rw [e]
   obtain ⟨M, h2⟩ := step _ e (N ++ [.cells p.cs])
   refine ⟨M, ?_⟩
   simp only [hi'] at h2
   unfold Ba.cs Pr.cs at *
   rcases hfl with rfl | rfl
   ·refine loop_step l_keep_Tape_Ask_0.eq_1 k_keep_Tape_Ask_0.eq_1 (by kernel_rfl) ?_
    simp only [go_sem, h1, e0, e7, e1, c0, e6, simprocAttr]
    exact h2
   ·refine loop_step l_keep_Tape_Ask_0.eq_1 k_keep_Tape_Ask_0.eq_1 (by kernel_rfl) ?_
    simp only [go_sem, h1, e0, e7, e1, c0, e6, simprocAttr]
    exact h2
set_option maxHeartbeats 1000000 in
theorem ask_spec (l : List Int) (hl : l.length ≤ 70368744177664) (a : Nat) (ha : a ≤ l.length) (i : Nat) (cap start : Int) (L : List Ba) (hL : ∀ b ∈ L, Fit b) (hn : L.length ≤ 900) (fl : Fl) (hfl : fl = .own ∨ (fl = .full ∧ L = [])) (j : Nat) (hij : i ≠ j) (H : Heap) (hi : Old H i (tapeB l a)) (hj : Old H j (mdB cap start L fl)) :
  W n_keep_Tape_Ask [.ptr i 0, .ptr j 0] H = some ((askB l L a).1.V, H.set i (tapeB l (askB l L a).2)) := by
 have hb := tapeBatch_right l 0 (by omega) (by omega) a
 have ha1 := tapeBatch_at l 0 a ha
 have hr1 := tapeBatch_recs l 0 a
 have t1 := fun M => tape_batch_spec l hl a ha 0 i (hx H M) ⟨hi.get M⟩
 simp only [hi.set] at t1
 have hi1 := hi.step (tapeB l (tapeBatch l 0 a).2)
 have hj1 := hj.other hij (tapeB l (tapeBatch l 0 a).2)
 unfold askB
 simp only
 generalize tapeBatch l 0 a = s at *
 obtain ⟨b, a1⟩ := s
 simp only at *
 by_cases c1 : b.prod < 0
 ·rw [if_pos c1]
  unfold Ba.V Ba.cs at *
  refine W_fnS rfl rfl ?_
  simp only [go_sem, c_keep_Tape_Ask, t1, c1, under_rc, tapeB_flat, simprocAttr]
 ·rw [if_neg c1]
  have t2 := next_hx l hl a1 ha1 8 i _ hi1
  simp only [List.set_set] at t2
  have ha2 := nextA_le (n := 8) ha1
  have hi2 := hi1.step (tapeB l (nextA l a1 8))
  have hj2 := hj1.other hij (tapeB l (nextA l a1 8))
  simp only [List.set_set] at hi2 hj2
  generalize nextA l a1 8 = a2 at *
  by_cases c2 : nextV l a1 8 = 0
  ·rw [if_pos c2]
   unfold Ba.V Ba.cs at *
   refine W_fnS rfl rfl ?_
   simp only [go_sem, c_keep_Tape_Ask, t1, c1, t2, c2, under_rc, tapeB_flat, simprocAttr]
  ·rw [if_neg c2]
   have hPr := foldL_ok L [] (fun b hb => (hL b hb).ok) (by simp)
   have hTK := foldL_TK L [] 0 ⟨by simp, by simp⟩
   obtain ⟨f', tp, hf⟩ := producers_spec cap start L hL (by omega) fl hfl j (hx (H.set i (tapeB l a2)) [.cells [.int .i64 0, .int .i64 0, .int .i64 0, .int .i64 0, .bool false, .int .i64 0, .list 2 [] .full], .cells b.cs]) ⟨hj2.get _⟩
   generalize foldL L [] = P at *
   have hPl : P.length ≤ 1000000 := by have := hTK.len; omega
   obtain ⟨M, h⟩ := ask_loop l hl P (fun p hp => ⟨hPr p hp, hTK.last p hp⟩) hPl f' hf i (.cells [.int .i64 0, .int .i64 0, .int .i64 0, .int .i64 0, .bool false, .int .i64 0, .list 2 [] .full]) P [] (b, a2) (H.set i (tapeB l a2)) [] rfl ⟨hb.ok, ha2, hr1⟩ hi2
   simp only [List.length_nil, Int.natCast_zero, pt_set, List.set_set] at h
   generalize P.foldl (askStep l) (b, a2) = s at *
   obtain ⟨b', a3⟩ := s
   unfold Ba.V Ba.cs at *
   refine W_fnS rfl rfl ?_
   rcases hf with rfl | rfl
   ·simp only [go_sem, c_keep_Tape_Ask, t1, c1, t2, c2, tp, List.length_map, h, under_rc, tapeB_flat, simprocAttr]
   ·simp only [go_sem, c_keep_Tape_Ask, t1, c1, t2, c2, tp, List.length_map, h, under_rc, tapeB_flat, simprocAttr]
theorem putOK_right {cap start L b} (h : putOK cap start L b = true) : rightE b = 0 := by
 unfold putOK at h
 rw [Bool.and_eq_true, decide_eq_true_eq] at h
 have h1 := h.1
 unfold tabCheck at h1
 by_cases c : rightE b = 0
 ·exact c
 ·rw [if_pos c] at h1; exact absurd h1 c
theorem putOK_end {cap start L b} (h : putOK cap start L b = true) : endE start L + countE b ≤ 1099511627776 := by
 unfold putOK at h
 simp only [Bool.and_eq_true, decide_eq_true_eq] at h
 exact h.2.2.2
theorem Fit.all {L : List Ba} {b : Ba} (h : ∀ b ∈ L, Fit b) (hb : Fit b) : ∀ x ∈ L ++ [b], Fit x := by
 intro x hx
 rw [List.mem_append, List.mem_singleton] at hx
 rcases hx with hx | rfl
 ·exact h x hx
 ·exact hb
theorem prodL_fit {cap start L b} (hL : ∀ b ∈ L, Fit b) (h0 : 0 ≤ start) (h1 : start ≤ 1099511627776) (hb : BOK b) : ∀ x ∈ prodL cap start L b, Fit x := by
 unfold prodL
 split
 ·rename_i h
  refine Fit.all hL ⟨?_, ?_⟩
  ·have re := endE_range start L hL h0 h1
   exact ⟨by unfold I64 atEnd; simp only; omega, hb.prod, hb.epoch, hb.seq, hb.mark⟩
  ·unfold prodOK at h
   rw [Bool.and_eq_true, decide_eq_true_eq] at h
   exact h.1
 ·exact hL
theorem markL_fit {cap start L p e m} (hL : ∀ b ∈ L, Fit b) (h0 : 0 ≤ start) (h1 : start ≤ 1099511627776) (hp : I64 p) (he : I64 e) (hm : I64 m) : ∀ x ∈ markL cap start L p e m, Fit x := by
 unfold markL
 split
 ·rename_i h
  have re := endE_range start L hL h0 h1
  refine Fit.all hL ⟨⟨by unfold I64 markB; simp only; omega, hp, he, show I64 (-1) from i64_c (by decide) (by decide), hm⟩, ?_⟩
  unfold markOK at h
  rw [Bool.and_eq_true] at h
  exact putOK_right h.2
 ·exact hL
theorem prodF_ok {cap start L b fl} (h : fl = .own ∨ (fl = .full ∧ L = [])) : prodF cap start L b fl = .own ∨ (prodF cap start L b fl = .full ∧ prodL cap start L b = []) := by
 unfold prodF prodL
 split
 ·exact .inl rfl
 ·exact h
theorem markF_ok {cap start L p e m fl} (h : fl = .own ∨ (fl = .full ∧ L = [])) : markF cap start L p e m fl = .own ∨ (markF cap start L p e m fl = .full ∧ markL cap start L p e m = []) := by
 unfold markF markL
 split
 ·exact .inl rfl
 ·exact h
theorem prodL_len {cap start L b} : (prodL cap start L b).length ≤ L.length + 1 := by unfold prodL; split <;> simp
theorem markL_len {cap start L p e m} : (markL cap start L p e m).length ≤ L.length + 1 := by unfold markL; split <;> simp
structure RS where
 L : List Ba
 at_ : Nat
 fl : Fl
def rowStep (l : List Int) (cap start : Int) (s : RS) : RS :=
 let b := (askB l s.L s.at_).1
 if b.mark = 0 then ⟨prodL cap start s.L b, (askB l s.L s.at_).2, prodF cap start s.L b s.fl⟩
 else ⟨markL cap start s.L b.prod b.epoch b.mark, (askB l s.L s.at_).2, markF cap start s.L b.prod b.epoch b.mark s.fl⟩
def rowGo (l : List Int) (cap start : Int) (most : Nat) : Nat → RS → RS
 | 0, s => s
 | k + 1, s => if s.L.length < most ∧ s.at_ < l.length then rowGo l cap start most k (rowStep l cap start s) else s
structure RI (l : List Int) (most : Nat) (s : RS) : Prop where
 fit : ∀ b ∈ s.L, Fit b
 len : s.L.length ≤ most
 at_ : s.at_ ≤ l.length
 fl : s.fl = .own ∨ (s.fl = .full ∧ s.L = [])
theorem askB_ok {l L a} (hl : l.length ≤ 70368744177664) (ha : a ≤ l.length) (hL : ∀ b ∈ L, Fit b) : AskOK l (askB l L a) := by
 have hb := tapeBatch_right l 0 (by omega) (by omega) a
 have ha1 := tapeBatch_at l 0 a ha
 have hr1 := tapeBatch_recs l 0 a
 have hPr := foldL_ok L [] (fun b hb => (hL b hb).ok) (by simp)
 have hTK := foldL_TK L [] 0 ⟨by simp, by simp⟩
 unfold askB
 simp only
 split
 ·exact ⟨hb.ok, ha1, hr1⟩
 ·split
  ·exact ⟨hb.ok, nextA_le ha1, hr1⟩
  ·exact askFold_ok hl _ _ ⟨hb.ok, nextA_le ha1, hr1⟩ (fun p hp => ⟨hPr p hp, hTK.last p hp⟩)
theorem RI.step {l most s cap start} (hl : l.length ≤ 70368744177664) (h0 : 0 ≤ start) (h1 : start ≤ 1099511627776) (h : RI l most s) (hm : s.L.length < most) : RI l most (rowStep l cap start s) := by
 have ha := askB_ok hl h.at_ h.fit
 unfold rowStep
 simp only
 split
 ·exact ⟨prodL_fit h.fit h0 h1 ha.bok, Nat.le_trans prodL_len hm, ha.at_, prodF_ok h.fl⟩
 ·exact ⟨markL_fit h.fit h0 h1 ha.bok.prod ha.bok.epoch ha.bok.mark, Nat.le_trans markL_len hm, ha.at_, markF_ok h.fl⟩
theorem RI.go {l most cap start} (hl : l.length ≤ 70368744177664) (h0 : 0 ≤ start) (h1 : start ≤ 1099511627776) : ∀ (k : Nat) (s : RS), RI l most s → RI l most (rowGo l cap start most k s)
 | 0, _, h => h
 | k + 1, s, h => by
  unfold rowGo
  split
  ·rename_i hc
   exact RI.go hl h0 h1 k _ (h.step hl h0 h1 hc.1)
  ·exact h
theorem hxg0 (H : Heap) (A B : Box) (N : Heap) : Old (hx H (A :: B :: N)) (pt H 0) A := ⟨by rw [hx_get]; rfl⟩
theorem hxg1 (H : Heap) (A B : Box) (N : Heap) : Old (hx H (A :: B :: N)) (pt H 1) B := ⟨by rw [hx_get]; rfl⟩
theorem pt_ne {H : Heap} {i j : Nat} (h : i ≠ j) : pt H i ≠ pt H j := by unfold pt; omega
set_option maxHeartbeats 2000000 in
theorem row_loop (l : List Int) (hl : l.length ≤ 70368744177664) (start : Int) (h0 : 0 ≤ start) (hs1 : start ≤ 1099511627776) (most : Nat) (hm : most ≤ 900) (H : Heap) (k : Nat) : ∀ (i : Nat) (s : RS) (N : Heap), i + k = 4 * most → RI l most s →
  ∃ M, loopA W loopW (.ghost (.kill k_keep_Row_0) l_keep_Row_0) [(0, .list 1 (ints .i64 l) .ro), (2, .int .i64 (most : Nat)), (7, .ptr (pt H 0) 0), (8, .ptr (pt H 1) 0), (9, .int .i64 (i : Nat))] (hx H (tapeB l s.at_ :: mdB 1073741824 start s.L s.fl :: N)) =
   some (.exit 0, [(8, .ptr (pt H 1) 0)], hx H (tapeB l (rowGo l 1073741824 start most k s).at_ :: mdB 1073741824 start (rowGo l 1073741824 start most k s).L (rowGo l 1073741824 start most k s).fl :: M)) := by
 have w4 : IntKind.i64.wrap (4 * (most : Int)) = 4 * (most : Int) := wrap_id (by unfold I64; omega)
 induction k with
 | zero =>
  intro i s N hi hs
  refine ⟨N, ?_⟩
  have h1 : ¬ ((i : Int) < 4 * (most : Int)) := by omega
  unfold rowGo
  refine loop_step l_keep_Row_0.eq_1 k_keep_Row_0.eq_1 (by kernel_rfl) ?_
  simp only [go_sem, w4, h1, simprocAttr]
 | succ k ih =>
  intro i s N hi hs
  have h1 : ((i : Int) < 4 * (most : Int)) := by omega
  unfold rowGo
  obtain ⟨L, a, fl⟩ := s
  have hs' := fun hc => RI.step (cap := 1073741824) (start := start) hl h0 hs1 hs hc
  have ha := askB_ok hl hs.at_ hs.fit
  have hfl := hs.fl
  have hfit := hs.fit
  have hle := hs.len
  have hat := hs.at_
  simp only at ha hfl hfit hle hat hs' ⊢
  by_cases c1 : L.length < most
  ·by_cases c2 : a < l.length
   ·rw [if_pos ⟨c1, c2⟩]
    have c1' : ((L.length : Int) < (most : Int)) := by omega
    have c2' : ((a : Int) < (l.length : Int)) := by omega
    have e6 : IntKind.i64.wrap ((i : Int) + 1) = ((i + 1 : Nat) : Int) := by rw [wrap_id (by unfold I64; omega)]; omega
    have ta := ask_spec l hl a hat (pt H 0) 1073741824 start L hfit (by omega) fl hfl (pt H 1) (pt_ne (by decide)) (hx H (tapeB l a :: mdB 1073741824 start L fl :: N)) (hxg0 _ _ _ _) (hxg1 _ _ _ _)
    simp only [hx_set, List.set_cons_zero] at ta
    have hst : rowStep l 1073741824 start ⟨L, a, fl⟩ = if (askB l L a).1.mark = 0 then ⟨prodL 1073741824 start L (askB l L a).1, (askB l L a).2, prodF 1073741824 start L (askB l L a).1 fl⟩
     else ⟨markL 1073741824 start L (askB l L a).1.prod (askB l L a).1.epoch (askB l L a).1.mark, (askB l L a).2, markF 1073741824 start L (askB l L a).1.prod (askB l L a).1.epoch (askB l L a).1.mark fl⟩ := rfl
    have hsn := hs' c1
    rw [hst] at hsn ⊢
    generalize askB l L a = r at *
    obtain ⟨b, a1⟩ := r
    simp only at ta ha hst hsn ⊢
    have hab := ha.bok
    have har := ha.recs
    simp only at hab har
    by_cases c3 : b.mark = 0
    ·rw [if_pos c3] at hsn ⊢
     obtain ⟨x, y, tp⟩ := produce_spec 1073741824 start L hfit (by omega) fl hfl h0 hs1 b hab (by omega) (pt H 1) (hx H (tapeB l a1 :: mdB 1073741824 start L fl :: (N ++ [.cells b.cs]))) (hxg1 _ _ _ _)
     simp only [hx_set, List.set_cons_succ, List.set_cons_zero] at tp
     obtain ⟨M, h2⟩ := ih (i + 1) _ (N ++ [.cells b.cs]) (by omega) hsn
     refine ⟨M, ?_⟩
     simp only at h2
     generalize prodL 1073741824 start L b = L' at *
     generalize prodF 1073741824 start L b fl = fl' at *
     generalize rowGo l 1073741824 start most k _ = R at *
     unfold Ba.V Ba.cs at *
     unfold tapeB mdB at *
     refine loop_step l_keep_Row_0.eq_1 k_keep_Row_0.eq_1 (by kernel_rfl) ?_
     rcases hfl with rfl | ⟨rfl, rfl⟩
     ·simp only [go_sem, w4, h1, List.length_map, c1', c2', ta, eq_true c3, tp, e6, simprocAttr]
      exact h2
     ·simp only [List.map_nil, List.length_nil, Int.natCast_zero] at ta tp c1' ⊢
      simp only [go_sem, w4, h1, List.length_map, List.length_nil, Int.natCast_zero, c1', c2', ta, eq_true c3, tp, e6, simprocAttr]
      exact h2
    ·rw [if_neg c3] at hsn ⊢
     obtain ⟨x, y, tp⟩ := mark_spec 1073741824 start L hfit (by omega) fl hfl h0 hs1 b.prod b.epoch b.mark hab.prod hab.epoch hab.mark (pt H 1) (hx H (tapeB l a1 :: mdB 1073741824 start L fl :: (N ++ [.cells b.cs]))) (hxg1 _ _ _ _)
     simp only [hx_set, List.set_cons_succ, List.set_cons_zero] at tp
     obtain ⟨M, h2⟩ := ih (i + 1) _ (N ++ [.cells b.cs]) (by omega) hsn
     refine ⟨M, ?_⟩
     simp only at h2
     generalize markL 1073741824 start L b.prod b.epoch b.mark = L' at *
     generalize markF 1073741824 start L b.prod b.epoch b.mark fl = fl' at *
     generalize rowGo l 1073741824 start most k _ = R at *
     unfold Ba.V Ba.cs at *
     unfold tapeB mdB at *
     refine loop_step l_keep_Row_0.eq_1 k_keep_Row_0.eq_1 (by kernel_rfl) ?_
     rcases hfl with rfl | ⟨rfl, rfl⟩
     ·simp only [go_sem, w4, h1, List.length_map, c1', c2', ta, c3, tp, e6, simprocAttr]
      exact h2
     ·simp only [List.map_nil, List.length_nil, Int.natCast_zero] at ta tp c1' ⊢
      simp only [go_sem, w4, h1, List.length_map, List.length_nil, Int.natCast_zero, c1', c2', ta, c3, tp, e6, simprocAttr]
      exact h2
   ·rw [if_neg (by omega)]
    have c1' : ((L.length : Int) < (most : Int)) := by omega
    have c2' : ¬ ((a : Int) < (l.length : Int)) := by omega
    refine ⟨N, ?_⟩
    simp only
    unfold tapeB mdB
    refine loop_step l_keep_Row_0.eq_1 k_keep_Row_0.eq_1 (by kernel_rfl) ?_
    rcases hfl with rfl | ⟨rfl, rfl⟩
    ·simp only [go_sem, w4, h1, List.length_map, c1', c2', simprocAttr]
    ·simp only [List.map_nil, List.length_nil, Int.natCast_zero] at c1' ⊢
     simp only [go_sem, w4, h1, List.length_map, List.length_nil, Int.natCast_zero, c1', c2', simprocAttr]
  ·rw [if_neg (by omega)]
   have c1' : ¬ ((L.length : Int) < (most : Int)) := by omega
   refine ⟨N, ?_⟩
   simp only
   unfold tapeB mdB
   refine loop_step l_keep_Row_0.eq_1 k_keep_Row_0.eq_1 (by kernel_rfl) ?_
   rcases hfl with rfl | ⟨rfl, rfl⟩
   ·simp only [go_sem, w4, h1, List.length_map, c1', simprocAttr]
   ·simp only [List.map_nil, List.length_nil, Int.natCast_zero] at c1' ⊢
    simp only [go_sem, w4, h1, List.length_map, List.length_nil, Int.natCast_zero, c1', simprocAttr]
def rowOf (l : List Int) (start : Int) (most : Nat) : List Ba := (rowGo l 1073741824 start most (4 * most) ⟨[], 0, .full⟩).L
theorem row_ri (l : List Int) (hl : l.length ≤ 70368744177664) (start : Int) (h0 : 0 ≤ start) (hs1 : start ≤ 1099511627776) (most : Nat) : RI l most (rowGo l 1073741824 start most (4 * most) ⟨[], 0, .full⟩) :=
 RI.go hl h0 hs1 _ _ ⟨by simp, by simp, by simp, .inr ⟨rfl, rfl⟩⟩
theorem under_bas' (n : Nat) (L : List Ba) : AVal.underL n (L.map Ba.V) = true := under_bas n L
theorem row_spec (l : List Int) (hl : l.length ≤ 70368744177664) (start : Int) (h0 : 0 ≤ start) (hs1 : start ≤ 1099511627776) (most : Nat) (hm : most ≤ 900) (H : Heap) :
  ∃ f, W n_keep_Row [.list 1 (ints .i64 l) .ro, .int .i64 start, .int .i64 (most : Nat)] H = some (.list 7 ((rowOf l start most).map Ba.V) f, H) ∧ (f = .ro ∨ (f = .full ∧ rowOf l start most = [])) := by
 obtain ⟨M, h⟩ := row_loop l hl start h0 hs1 most hm H (4 * most) 0 ⟨[], 0, .full⟩ [] (by omega) ⟨by simp, by simp, by simp, .inr ⟨rfl, rfl⟩⟩
 have hr := (row_ri l hl start h0 hs1 most).fl
 unfold rowOf
 generalize rowGo l 1073741824 start most (4 * most) ⟨[], 0, .full⟩ = R at *
 obtain ⟨L, a, fl⟩ := R
 simp only [Int.natCast_zero] at h hr ⊢
 unfold tapeB mdB at h
 simp only [List.map_nil, Int.natCast_zero] at h
 rcases hr with rfl | ⟨rfl, rfl⟩
 ·refine ⟨.ro, ?_, .inl rfl⟩
  refine W_fn rfl rfl ?_
  simp only [go_sem, c_keep_Row, h, under_bas, simprocAttr]
 ·refine ⟨.full, ?_, .inr ⟨rfl, rfl⟩⟩
  refine W_fn rfl rfl ?_
  simp only [go_sem, c_keep_Row, h, under_bas, simprocAttr]
end Go.Abs
