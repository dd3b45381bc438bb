import Derived.Test.YtljlbcipngmdmaaBS4
import Derived.Test.YtljlbcipngmdmaaBS2
import Derived.Test.YtljlbcipngmdmaaBS3
set_option linter.unusedVariables false
set_option linter.unusedSimpArgs false
namespace Go.Abs
open Go Go.RowKit
set_option maxHeartbeats 1000000 in
theorem put_yes (cap start : Int) (L : List Ba) (hL : ∀ b ∈ L, Fit b) (hn : L.length ≤ 900) (fl : Fl) (hfl : fl = .own ∨ (fl = .full ∧ L = [])) (h0 : 0 ≤ start) (hs1 : start ≤ 1099511627776) (b : Ba) (hb : BOK b) (hr : b.recs.length ≤ 1000)
  (i : Nat) (H : Heap) (hi : Old H i (mdB cap start L fl)) (hc : putOK cap start L b = true) :
  W n_ref14_Model_put [.ptr i 0, b.V] H = some (.tuple [.int .i64 b.base, .int .i64 0], H.set i (mdB cap start (L ++ [b]) .own)) := by
 obtain ⟨M, tf0⟩ := fold_spec L (fun b hb => (hL b hb).ok) (by omega) (hx H [.cells b.cs])
 obtain ⟨T, hT⟩ : ∃ T, tabB (foldL L []) (foldF L [] .full) = T := ⟨_, rfl⟩
 have tf : W n_ref10_Fold [.list 7 (L.map Ba.V) .ro] (hx H [.cells b.cs]) = some (.tuple [.ptr (pt H 1) 0, .list 3 ((foldD L []).map laV) (dFl (foldD L []))], hx H (.cells b.cs :: T :: M)) := by
  rw [tf0, hT]
  simp [hx, pt]
 have hfo := foldF_ok L [] .full (.inr ⟨rfl, rfl⟩)
 have hTK := foldL_tk L [] 0 ⟨by simp, by simp⟩
 have tc := fun M' => tab_check_spec (foldL L []) (hTK.ok (by omega)) (foldF L [] .full) hfo (pt H 1) (hx H (.cells b.cs :: T :: M')) ⟨by rw [hx_get, hT]; rfl⟩ b hb
 have tz := fun M' => size_spec cap start L hL (by omega) fl hfl i (hx H M') ⟨hi.get M'⟩
 have te := fun M' => model_end_spec cap start L hL (by omega) fl hfl i (hx H M') ⟨hi.get M'⟩
 have ts := fun H => ref_size_spec b hb H
 have tn := fun H => ref_count_spec b H
 rw [show (if b.mark = 0 then (b.recs.length : Int) else 1) = countE b from rfl] at tn
 have r1 := sizeE_range (b := b)
 have r2 := sizeL_range L
 have w1 : IntKind.i64.wrap (sizeL L + sizeE b) = sizeL L + sizeE b := wrap_id (by unfold I64; omega)
 have re := endE_range start L hL h0 hs1
 have rc : 0 ≤ countE b ∧ countE b ≤ 1000 := by unfold countE; split <;> omega
 have w2 : IntKind.i64.wrap (endE start L + countE b) = endE start L + countE b := wrap_id (by unfold I64; omega)
 have gj := hi.get
 have gs := hi.set
 have gj' := hi.get'
 have gs' := hi.set'
 unfold mdB at gj gs gj' gs' ⊢
 unfold putOK at hc
 generalize tabCheck (foldL L []) b = R at *
 obtain ⟨ba, er⟩ := R
 obtain ⟨sz, hsz⟩ : ∃ sz, sizeL L + sizeE b = sz := ⟨_, rfl⟩
 obtain ⟨en, hen⟩ : ∃ en, endE start L + countE b = en := ⟨_, rfl⟩
 replace w1 := w1.trans hsz
 replace w2 := w2.trans hen
 simp only [hsz, hen] at hc tc
 have d : er = 0 ∧ ba < 0 ∧ sz ≤ cap ∧ en ≤ 1099511627776 := by simpa using hc
 obtain ⟨rfl, d2, d3, d4⟩ := d
 have c2 : ¬ ba ≥ 0 := by omega
 have c3 : ¬ sz > cap := by omega
 have c4 : ¬ en > 1099511627776 := by omega
 have b1 : b.recs.length * 32 ≤ maxBytes := by simp only [maxBytes]; omega
 have b1' : (0 + b.recs.length) * 32 ≤ maxBytes := by simp only [maxBytes]; omega
 have b2 : L.length * 72 ≤ maxBytes := by simp only [maxBytes]; omega
 have b2' : (0 + L.length) * 72 ≤ maxBytes := by simp only [maxBytes]; omega
 have b3 : (L.length + 1) * 72 ≤ maxBytes := by simp only [maxBytes]; omega
 have a1 : L.map Ba.V ++ [.agg [.int .i64 b.base, .int .i64 b.prod, .int .i64 b.epoch, .int .i64 b.seq, .bool b.txn, .int .i64 b.mark, .list 2 (b.recs.map rcV) .ro]] = (L ++ [b]).map Ba.V := by simp [Ba.V, Ba.cs]
 have fb : Box.flatB (.cells [.int .i64 cap, .int .i64 start, .list 7 ((L ++ [b]).map Ba.V) .own]) = true := by
  have u : ∀ (l : List Ba), AVal.underL 0 (l.map Ba.V) = true := by
   intro l
   induction l with
   | nil => rfl
   | cons x l ih => simp [Ba.V, Ba.cs, AVal.underL, AVal.under, under_rc, ih]
  simp only [Box.flatB, AVal.underL, AVal.under, u, Bool.and_self]
 unfold Ba.V Ba.cs at *
 refine W_fnS rfl rfl ?_
 rcases hfl with rfl | ⟨rfl, rfl⟩
 ·simp only [go_sem, c_ref14_Model_put, gj, gs, gj', gs', tf, tc, c2, tz, ts, w1, c3, te, tn, w2, c4, apF, apO, List.length_nil, List.length_map, Nat.zero_add, List.nil_append, b1, b2, b3, a1, fb, simprocAttr]
 ·simp only [List.map_nil, List.nil_append, List.map_cons] at gj gs gj' gs' tf fb ⊢
  have b5 : (0 + 0) * 72 ≤ maxBytes := by decide
  have b6 : (0 + 1) * 72 ≤ maxBytes := by decide
  simp only [go_sem, c_ref14_Model_put, gj, gs, gj', gs', tf, tc, c2, tz, ts, w1, c3, te, tn, w2, c4, apF, apO, List.length_nil, List.length_map, Nat.zero_add, List.nil_append, b1, b5, b6, fb, simprocAttr]
theorem under_bas (n : Nat) : ∀ (l : List Ba), AVal.underL n (l.map Ba.V) = true
 | [] => rfl
 | x :: l => by simp [Ba.V, Ba.cs, AVal.underL, AVal.under, under_rc, under_bas n l]
theorem mdB_flat (cap start L fl) : (mdB cap start L fl).flatB = true := by
 simp only [mdB, Box.flatB, AVal.underL, AVal.under, under_bas, Bool.and_self]
def atEnd (start : Int) (L : List Ba) (b : Ba) : Ba := { b with base := endE start L }
def prodOK (cap start : Int) (L : List Ba) (b : Ba) : Bool :=
 decide (rightE (atEnd start L b) = 0) && (decide (b.mark = 0) && putOK cap start L (atEnd start L b))
def prodL (cap start : Int) (L : List Ba) (b : Ba) : List Ba := if prodOK cap start L b = true then L ++ [atEnd start L b] else L
def prodF (cap start : Int) (L : List Ba) (b : Ba) (fl : Fl) : Fl := if prodOK cap start L b = true then .own else fl
theorem produce_spec (cap start : Int) (L : List Ba) (hL : ∀ b ∈ L, Fit b) (hn : L.length ≤ 900) (fl : Fl) (hfl : fl = .own ∨ (fl = .full ∧ L = [])) (h0 : 0 ≤ start) (hs1 : start ≤ 1099511627776) (b : Ba) (hb : BOK b) (hr : b.recs.length ≤ 1000)
  (i : Nat) (H : Heap) (hi : Old H i (mdB cap start L fl)) :
  ∃ x y, W n_ref14_Model_Produce [.ptr i 0, b.V] H = some (.tuple [.int .i64 x, .int .i64 y], H.set i (mdB cap start (prodL cap start L b) (prodF cap start L b fl))) := by
 have re := endE_range start L hL h0 hs1
 obtain ⟨b', hb'⟩ : ∃ b', atEnd start L b = b' := ⟨_, rfl⟩
 have hbo : BOK b' := by
  rw [← hb']
  exact ⟨by unfold I64 atEnd; simp only; omega, hb.prod, hb.epoch, hb.seq, hb.mark⟩
 have hrr : b'.recs.length ≤ 1000 := by rw [← hb']; exact hr
 have f1 : b'.base = endE start L := by rw [← hb']; rfl
 have f2 : b'.prod = b.prod := by rw [← hb']; rfl
 have f3 : b'.epoch = b.epoch := by rw [← hb']; rfl
 have f4 : b'.seq = b.seq := by rw [← hb']; rfl
 have f5 : b'.txn = b.txn := by rw [← hb']; rfl
 have f6 : b'.mark = b.mark := by rw [← hb']; rfl
 have f7 : b'.recs = b.recs := by rw [← hb']; rfl
 have te := fun M' => model_end_spec cap start L hL (by omega) fl hfl i (hx H M') ⟨hi.get M'⟩
 have tr := fun H => ref_right_spec b' hbo H
 have tn := fun M' => put_no cap start L hL hn fl hfl h0 hs1 b' hbo hrr i (hx H M') ⟨hi.get M'⟩
 have ty := fun M' => put_yes cap start L hL hn fl hfl h0 hs1 b' hbo hrr i (hx H M') ⟨hi.get M'⟩
 have gs := hi.set
 have hsame := hi.same
 unfold prodL prodF prodOK
 rw [hb']
 unfold Ba.V Ba.cs at *
 rw [f1, f2, f3, f4, f5, f6, f7] at tr tn ty
 by_cases c1 : rightE b' = 0
 ·rw [c1] at tr
  have d1 : decide (rightE b' = 0) = true := decide_eq_true c1
  by_cases c2 : b.mark = 0
  ·have d2 : decide (b.mark = 0) = true := decide_eq_true c2
   cases c3 : putOK cap start L b' with
   | false =>
    have tn' := fun M' => tn M' c3
    simp only [d1, d2, Bool.and_false, Bool.false_eq_true, if_false, hsame]
    refine ⟨(putR cap start L b').1, (putR cap start L b').2, ?_⟩
    refine W_fn rfl rfl ?_
    simp only [go_sem, c_ref14_Model_Produce, te, tr, tn', eq_true c2, simprocAttr]
   | true =>
    have ty' := fun M' => ty M' c3
    simp only [gs] at ty'
    simp only [d1, d2, Bool.and_true, if_true]
    refine ⟨endE start L, 0, ?_⟩
    refine W_fnS rfl rfl ?_
    simp only [go_sem, c_ref14_Model_Produce, te, tr, ty', eq_true c2, mdB_flat, simprocAttr]
  ·simp only [c1, c2, decide_true, decide_false, Bool.and_false, Bool.false_and, Bool.false_eq_true, if_false, hsame]
   refine ⟨-1, 16, ?_⟩
   refine W_fn rfl rfl ?_
   simp only [go_sem, c_ref14_Model_Produce, te, tr, c2, simprocAttr]
 ·simp only [c1, decide_false, Bool.false_and, Bool.false_eq_true, if_false, hsame]
  refine ⟨-1, rightE b', ?_⟩
  refine W_fn rfl rfl ?_
  simp only [go_sem, c_ref14_Model_Produce, te, tr, c1, simprocAttr]
def markB (start : Int) (L : List Ba) (prod epoch mark : Int) : Ba := ⟨endE start L, prod, epoch, -1, true, mark, []⟩
def markOK (cap start : Int) (L : List Ba) (prod epoch mark : Int) : Bool := !decide (mark = 0) && putOK cap start L (markB start L prod epoch mark)
def markL (cap start : Int) (L : List Ba) (prod epoch mark : Int) : List Ba := if markOK cap start L prod epoch mark = true then L ++ [markB start L prod epoch mark] else L
def markF (cap start : Int) (L : List Ba) (prod epoch mark : Int) (fl : Fl) : Fl := if markOK cap start L prod epoch mark = true then .own else fl
theorem mark_spec (cap start : Int) (L : List Ba) (hL : ∀ b ∈ L, Fit b) (hn : L.length ≤ 900) (fl : Fl) (hfl : fl = .own ∨ (fl = .full ∧ L = [])) (h0 : 0 ≤ start) (hs1 : start ≤ 1099511627776) (prod epoch mark : Int) (hp : I64 prod) (he : I64 epoch) (hm : I64 mark)
  (i : Nat) (H : Heap) (hi : Old H i (mdB cap start L fl)) :
  ∃ x y, W n_ref14_Model_Mark [.ptr i 0, .int .i64 prod, .int .i64 epoch, .int .i64 mark] H = some (.tuple [.int .i64 x, .int .i64 y], H.set i (mdB cap start (markL cap start L prod epoch mark) (markF cap start L prod epoch mark fl))) := by
 have re := endE_range start L hL h0 hs1
 obtain ⟨b', hb'⟩ : ∃ b', markB start L prod epoch mark = b' := ⟨_, rfl⟩
 have hbo : BOK b' := by
  rw [← hb']
  exact ⟨by unfold I64 markB; simp only; omega, hp, he, by unfold I64 markB; simp only; omega, hm⟩
 have te := fun M' => model_end_spec cap start L hL (by omega) fl hfl i (hx H M') ⟨hi.get M'⟩
 have hrr : b'.recs.length ≤ 1000 := by rw [← hb']; simp [markB]
 have tn := fun M' => put_no cap start L hL hn fl hfl h0 hs1 b' hbo hrr i (hx H M') ⟨hi.get M'⟩
 have ty := fun M' => put_yes cap start L hL hn fl hfl h0 hs1 b' hbo hrr i (hx H M') ⟨hi.get M'⟩
 have gs := hi.set
 have hsame := hi.same
 unfold markL markF markOK
 rw [hb']
 have hv : b'.V = .agg [.int .i64 (endE start L), .int .i64 prod, .int .i64 epoch, .int .i64 (-1), .bool true, .int .i64 mark, .list 2 [] .ro] := by rw [← hb']; rfl
 have hba : b'.base = endE start L := by rw [← hb']; rfl
 rw [hv] at tn ty
 rw [hba] at ty
 by_cases c2 : mark = 0
 ·have d2 : decide (mark = 0) = true := decide_eq_true c2
  simp only [d2, Bool.not_true, Bool.false_and, Bool.false_eq_true, if_false, hsame]
  refine ⟨-1, 12, ?_⟩
  refine W_fn rfl rfl ?_
  simp only [go_sem, c_ref14_Model_Mark, eq_true c2, simprocAttr]
 ·have d2 : decide (mark = 0) = false := decide_eq_false c2
  cases c3 : putOK cap start L b' with
  | false =>
   have tn' := fun M' => tn M' c3
   simp only [d2, Bool.not_false, Bool.and_false, Bool.false_eq_true, if_false, hsame]
   refine ⟨(putR cap start L b').1, (putR cap start L b').2, ?_⟩
   refine W_fn rfl rfl ?_
   simp only [go_sem, c_ref14_Model_Mark, te, tn', c2, simprocAttr]
  | true =>
   have ty' := fun M' => ty M' c3
   simp only [gs] at ty'
   simp only [d2, Bool.not_false, Bool.and_self, if_true]
   refine ⟨endE start L, 0, ?_⟩
   refine W_fnS rfl rfl ?_
   simp only [go_sem, c_ref14_Model_Mark, te, ty', c2, mdB_flat, simprocAttr]
theorem recs4_small (l a) : SmallR (recs4 l a).1 ∧ 0 < (recs4 l a).1.length ∧ (recs4 l a).1.any bigR = false := by
 have hr := nextV_range (l := l) (a := a) (n := 4) (by omega) (by omega)
 have hlen : (recs4 l a).1.length = (1 + nextV l a 4).toNat := recsT_len l _ _
 have hs := recsT_small l (1 + nextV l a 4).toNat (nextA l a 4)
 refine ⟨⟨by omega, fun x hx => ?_⟩, by omega, ?_⟩
 ·have := hs x hx; omega
 ·rw [List.any_eq_false]
  intro x hx
  have := hs x hx
  simp [bigR]; omega
structure TB (b : Ba) (base : Int) : Prop where
 ok : BOK b
 right : rightE b = 0
 base : b.base = base
theorem tapeBatch_right (l : List Int) (base : Int) (h0 : 0 ≤ base) (h1 : base ≤ 1099511627776) (a : Nat) : TB (tapeBatch l base a).1 base := by
 have data : ∀ b : Ba, b.base = base → b.mark = 0 → SmallR b.recs → 0 < b.recs.length → b.recs.any bigR = false → (noneB b || (namedB b && seqR b.seq)) = true → rightE b = 0 := by
  intro b e1 e2 e3 e4 e5 e6
  unfold rightE
  rw [if_neg (by omega), if_pos e2]
  unfold dataE
  rw [if_neg (by cases hn : noneB b <;> simp_all), if_neg (by omega), if_neg (by have := e3.1; omega), if_neg (by rw [e5]; decide)]
 have r1 := nextV_range (l := l) (a := a) (n := 4) (by omega) (by omega)
 have rr : ∀ a n, 1 ≤ n → n ≤ 1073741824 → 0 ≤ nextV l a n ∧ nextV l a n < n := fun a n hn hm => nextV_range hn hm
 unfold tapeBatch
 simp only
 split
 ·rename_i hp
  have hp1 : nextV l a 4 - 1 = -1 := by omega
  obtain ⟨s1, s2, s3⟩ := recs4_small l (nextA l a 4)
  refine ⟨⟨?_, ?_, ?_, ?_, ?_⟩, data _ rfl rfl s1 s2 s3 (by simp [noneB, hp1]), rfl⟩ <;> (unfold I64; simp only; omega)
 ·rename_i hp
  have q1 := rr (nextA l a 4) 3 (by omega) (by omega)
  split
  ·have q2 := rr (nextA l (nextA l (nextA l a 4) 3) 4) 2 (by omega) (by omega)
   refine ⟨⟨?_, ?_, ?_, ?_, ?_⟩, ?_, rfl⟩
   ·unfold I64; simp only; omega
   ·unfold I64; simp only; omega
   ·unfold I64; simp only; omega
   ·unfold I64; simp only; omega
   ·unfold I64; simp only; omega
   ·unfold rightE
    rw [if_neg (by simp only; omega), if_neg (by simp only; omega), if_neg]
    simp only [markE, namedB]
    have e1 : (decide (1 + nextV l (nextA l (nextA l (nextA l a 4) 3) 4) 2 ≠ 1) && decide (1 + nextV l (nextA l (nextA l (nextA l a 4) 3) 4) 2 ≠ 2)) = false := by
     by_cases h : 1 + nextV l (nextA l (nextA l (nextA l a 4) 3) 4) 2 = 1
     ·simp [h]
     ·have : 1 + nextV l (nextA l (nextA l (nextA l a 4) 3) 4) 2 = 2 := by omega
      simp [this]
    rw [e1]
    simp; omega
  ·have q3 := rr (nextA l (nextA l (nextA l a 4) 3) 4) 6 (by omega) (by omega)
   obtain ⟨s1, s2, s3⟩ := recs4_small l (nextA l (nextA l (nextA l (nextA l (nextA l a 4) 3) 4) 6) 2)
   split
   ·have q8 := rr (nextA l (recs4 l (nextA l (nextA l (nextA l (nextA l (nextA l a 4) 3) 4) 6) 2)).2 9) 3 (by omega) (by omega)
    refine ⟨⟨?_, ?_, ?_, ?_, ?_⟩, data _ rfl rfl s1 s2 s3 (by simp [namedB, seqR]; omega), rfl⟩ <;> (unfold I64; simp only; omega)
   ·refine ⟨⟨?_, ?_, ?_, ?_, ?_⟩, data _ rfl rfl s1 s2 s3 (by simp [namedB, seqR]; omega), rfl⟩ <;> (unfold I64; simp only; omega)
theorem tapeBatch_at (l : List Int) (base : Int) (a : Nat) (ha : a ≤ l.length) : (tapeBatch l base a).2 ≤ l.length := by
 unfold tapeBatch
 simp only
 split
 ·exact recs4_le (nextA_le ha)
 ·split
  ·exact nextA_le (nextA_le (nextA_le (nextA_le ha)))
  ·split
   ·exact nextA_le (nextA_le (recs4_le (nextA_le (nextA_le (nextA_le (nextA_le (nextA_le ha)))))))
   ·exact nextA_le (recs4_le (nextA_le (nextA_le (nextA_le (nextA_le (nextA_le ha))))))
theorem tapeBatch_recs (l : List Int) (base : Int) (a : Nat) : (tapeBatch l base a).1.recs.length ≤ 16 := by
 unfold tapeBatch
 simp only
 split
 ·exact (recs4_small l _).1.1
 ·split
  ·simp
  ·split
   ·exact (recs4_small l _).1.1
   ·exact (recs4_small l _).1.1
theorem i64_c {n : Int} (h : -9223372036854775808 ≤ n) (k : n ≤ 9223372036854775807) : I64 n := by unfold I64; omega
theorem Old.other {H i j B} (h : Old H j B) (hij : i ≠ j) (B') : Old (H.set i B') j B := ⟨by rw [List.getElem?_set_ne hij]; exact h.g⟩
structure PrOK (p : Pr) : Prop where
 id : I64 p.id
 epoch : I64 p.epoch
 open_ : I64 p.open_
 last : ∀ x ∈ p.last, I64 x.1 ∧ I64 x.2.1 ∧ I64 x.2.2
theorem lastS_i64 (n c : Int) : I64 (lastS n c) := by
 unfold lastS
 split
 ·exact i64_c (by omega) (by omega)
 ·unfold addS
  split
  ·exact i64_c (by omega) (by omega)
  ·exact i64_c (by omega) (by omega)
theorem zeroPr_ok : PrOK zeroPr := ⟨i64_c (by decide) (by decide), i64_c (by decide) (by decide), i64_c (by decide) (by decide), by simp [zeroPr]⟩
theorem applyP_ok {p : Pr} (h : PrOK p) (known : Bool) {b : Ba} (hb : BOK b) : PrOK (applyP p known b) := by
 have hl : ∀ x ∈ lastsP p known b, I64 x.1 ∧ I64 x.2.1 ∧ I64 x.2.2 := by
  unfold lastsP
  split
  ·exact h.last
  ·simp
 have ho : I64 (openP p known) := by
  unfold openP
  split
  ·exact h.open_
  ·exact i64_c (by decide) (by decide)
 unfold applyP
 split
 ·exact ⟨hb.prod, hb.epoch, show I64 (-1) from i64_c (by decide) (by decide), hl⟩
 ·refine ⟨hb.prod, hb.epoch, ?_, ?_⟩
  ·simp only; split
   ·exact hb.base
   ·exact ho
  ·intro x hx
   have hx' := List.mem_of_mem_drop hx
   unfold newL at hx'
   rw [List.mem_append] at hx'
   rcases hx' with hx' | hx'
   ·exact hl x hx'
   ·simp only [List.mem_cons, List.not_mem_nil, or_false] at hx'
    rw [hx']
    exact ⟨hb.seq, lastS_i64 _ _, hb.base⟩
theorem tabL_ok {L : List Pr} (h : ∀ p ∈ L, PrOK p) {b : Ba} (hb : BOK b) : ∀ p ∈ tabL L b, PrOK p := by
 unfold tabL
 split
 ·exact h
 ·split
  ·rename_i p hp
   intro q hq
   rcases List.mem_or_eq_of_mem_set hq with hq | rfl
   ·exact h q hq
   ·exact applyP_ok (h p (atP_mem hp).1) true hb
  ·intro q hq
   simp only [List.append_assoc, List.mem_append, List.mem_cons, List.not_mem_nil, or_false] at hq
   rcases hq with hq | rfl | hq
   ·exact h q (List.mem_of_mem_take hq)
   ·exact applyP_ok zeroPr_ok false hb
   ·exact h q (List.mem_of_mem_drop hq)
theorem foldL_ok : ∀ (A : List Ba) (L : List Pr), (∀ b ∈ A, BOK b) → (∀ p ∈ L, PrOK p) → ∀ p ∈ foldL A L, PrOK p
 | [], _, _, h => h
 | b :: A, L, hA, h => foldL_ok A (tabL L b) (fun x hx => hA x (List.mem_cons_of_mem _ hx)) (tabL_ok h (hA b List.mem_cons_self))
theorem foldL_TK : ∀ (A : List Ba) (L : List Pr) (n : Nat), TK L n → TK (foldL A L) (n + A.length)
 | [], _, _, h => h
 | b :: A, L, n, h => by
  have := foldL_TK A (tabL L b) (n + 1) (h.next b)
  rw [show n + (b :: A).length = n + 1 + A.length by simp only [List.length_cons]; omega]
  exact this
def seqAsk (p : Pr) : Int := match p.last.getLast? with
 | some x => (x.2.1 + 1) % 2147483648
 | none => 0
def askData (l : List Int) (b : Ba) (p : Pr) (a : Nat) : Ba × Nat :=
 let b1 : Ba := { b with epoch := p.epoch, seq := seqAsk p, txn := decide (p.open_ ≥ 0) || b.txn }
 if p.last = [] then (b1, a)
 else if nextV l a 7 = 0 then ({ b1 with seq := (p.last.getD (nextV l (nextA l a 7) p.last.length).toNat (0, 0, 0)).1 }, nextA l (nextA l a 7) p.last.length)
 else (b1, nextA l a 7)
def askStep (l : List Int) (s : Ba × Nat) (p : Pr) : Ba × Nat :=
 if p.id ≠ s.1.prod then s
 else if s.1.mark ≠ 0 then ({ s.1 with epoch := p.epoch }, s.2)
 else askData l s.1 p s.2
def askB (l : List Int) (L : List Ba) (a : Nat) : Ba × Nat :=
 let s := tapeBatch l 0 a
 if s.1.prod < 0 then s
 else if nextV l s.2 8 = 0 then (s.1, nextA l s.2 8)
 else (foldL L []).foldl (askStep l) (s.1, nextA l s.2 8)
structure AskOK (l : List Int) (s : Ba × Nat) : Prop where
 bok : BOK s.1
 at_ : s.2 ≤ l.length
 recs : s.1.recs.length ≤ 16
theorem askData_ok {l b p a} (hl : l.length ≤ 140737488355328) (h : AskOK l (b, a)) (hp : PrOK p) (hn : p.last.length ≤ 5) : AskOK l (askData l b p a) := by
 have hs : I64 (seqAsk p) := by
  unfold seqAsk
  split
  ·exact i64_c (by omega) (by omega)
  ·exact i64_c (by omega) (by omega)
 have h1 := nextA_le (n := 7) h.at_
 unfold askData
 simp only
 split
 ·exact ⟨⟨h.bok.base, h.bok.prod, hp.epoch, hs, h.bok.mark⟩, h.at_, h.recs⟩
 ·rename_i hne
  split
  ·refine ⟨⟨h.bok.base, h.bok.prod, hp.epoch, ?_, h.bok.mark⟩, nextA_le h1, h.recs⟩
   simp only
   have hpos : 0 < p.last.length := List.length_pos_iff.2 hne
   have r := nextV_range (l := l) (a := nextA l a 7) (n := p.last.length) (by omega) (by omega)
   rw [List.getD_eq_getElem?_getD]
   have : (nextV l (nextA l a 7) p.last.length).toNat < p.last.length := by omega
   rw [List.getElem?_eq_getElem this]
   exact (hp.last _ (List.getElem_mem this)).1
  ·exact ⟨⟨h.bok.base, h.bok.prod, hp.epoch, hs, h.bok.mark⟩, h1, h.recs⟩
theorem askStep_ok {l s p} (hl : l.length ≤ 140737488355328) (h : AskOK l s) (hp : PrOK p) (hn : p.last.length ≤ 5) : AskOK l (askStep l s p) := by
 unfold askStep
 split
 ·exact h
 ·split
  ·exact ⟨⟨h.bok.base, h.bok.prod, hp.epoch, h.bok.seq, h.bok.mark⟩, h.at_, h.recs⟩
  ·exact askData_ok hl h hp hn
theorem askFold_ok {l} (hl : l.length ≤ 140737488355328) : ∀ (P : List Pr) (s : Ba × Nat), AskOK l s → (∀ p ∈ P, PrOK p ∧ p.last.length ≤ 5) → AskOK l (P.foldl (askStep l) s)
 | [], _, h, _ => h
 | p :: P, s, h, hP => askFold_ok hl P (askStep l s p) (askStep_ok hl h (hP p List.mem_cons_self).1 (hP p List.mem_cons_self).2) (fun q hq => hP q (List.mem_cons_of_mem _ hq))
set_option maxHeartbeats 2000000 in
theorem ask_loop (l : List Int) (hl : l.length ≤ 140737488355328) (P : List Pr) (hP : ∀ p ∈ P, PrOK p ∧ p.last.length ≤ 5) (hn : P.length ≤ 1000000) (fl : Fl) (hfl : fl = .ro ∨ fl = .full) (i : Nat) (X : Box) (r : List Pr) : ∀ (q : List Pr) (s : Ba × Nat) (G N : Heap), P = q ++ r → AskOK l s → Old G i (tapeB l s.2) →
  ∃ M, loopA W loopW (.ghost (.kill k_keep_Tape_Ask_0) l_keep_Tape_Ask_0) [(0, .ptr i 0), (4, .ptr (pt G 0) 0), (5, .ptr (pt G 1) 0), (22, .list 4 (P.map Pr.V) fl), (23, .int .i64 (P.length : Nat)), (24, .int .i64 (q.length : Nat))] (hx G (X :: .cells s.1.cs :: N)) =
   some (.exit 0, [(4, .ptr (pt G 0) 0), (5, .ptr (pt G 1) 0)], hx (G.set i (tapeB l (r.foldl (askStep l) s).2)) (X :: .cells (r.foldl (askStep l) s).1.cs :: M)) := by
 induction r with
 | nil =>
  intro q s G N hq hs hi
  rw [List.append_nil] at hq
  subst hq
  refine ⟨N, ?_⟩
  have h1 : ¬ ((P.length : Int) < (P.length : Int)) := by omega
  rw [List.foldl_nil, hi.same]
  refine loop_step l_keep_Tape_Ask_0.eq_1 k_keep_Tape_Ask_0.eq_1 (by kernel_rfl) ?_
  simp only [go_sem, h1, simprocAttr]
 | cons p r ih =>
  intro q s G N hq hs hi
  obtain ⟨b, a⟩ := s
  have hlen : q.length < P.length := by rw [hq]; simp
  have h1 : ((q.length : Int) < (P.length : Int)) := by omega
  have e0 : (0 : Int) ≤ (q.length : Int) := by omega
  have e7 : ((q.length : Nat) : Int).toNat = q.length := by omega
  have e1 : (P.map Pr.V)[q.length]? = some (.agg [.int .i64 p.id, .int .i64 p.epoch, .list 3 (p.last.map laV) .ro, .int .i64 p.open_]) := by rw [hq]; simp [Pr.V, Pr.cs]
  have e6 : IntKind.i64.wrap ((q.length : Int) + 1) = ((q.length + 1 : Nat) : Int) := by rw [wrap_id (by unfold I64; omega)]; omega
  obtain ⟨hp, hp5⟩ := hP p (by rw [hq]; simp)
  have hs' := askStep_ok hl hs hp hp5
  rw [List.foldl_cons]
  have step := fun (s' : Ba × Nat) (e : askStep l (b, a) p = s') (N' : Heap) => ih (q ++ [p]) s' (G.set i (tapeB l s'.2)) N' (by rw [hq]; simp) (by rw [← e]; exact hs') (hi.step _)
  simp only [List.length_append, List.length_cons, List.length_nil, Nat.zero_add, pt_set, List.set_set] at step
  have hi' := hi.same
  simp only at hi hi' hs
  by_cases c0 : p.id = b.prod
  ·by_cases c1 : b.mark = 0
   ·have hst : askStep l (b, a) p = askData l b p a := by unfold askStep; rw [if_neg (by simpa using c0), if_neg (by simpa using c1)]
    rw [hst] at step ⊢
    rcases List.eq_nil_or_concat p.last with hl0 | ⟨l', x, hl0⟩
    ·have hq0 : seqAsk p = 0 := by unfold seqAsk; rw [hl0]; rfl
     by_cases c3 : p.open_ ≥ 0
     ·have e : askData l b p a = ({ b with epoch := p.epoch, seq := 0, txn := true }, a) := by
       unfold askData; rw [if_pos hl0, hq0, decide_eq_true c3, Bool.true_or]
      rw [e]
      obtain ⟨M, h2⟩ := step _ e (N ++ [.cells p.cs])
      refine ⟨M, ?_⟩
      simp only [hi'] at h2
      unfold Ba.cs Pr.cs at *
      rw [hl0, List.map_nil] at h2 e1
      refine loop_step l_keep_Tape_Ask_0.eq_1 k_keep_Tape_Ask_0.eq_1 (by kernel_rfl) ?_
      rcases hfl with rfl | rfl
      ·simp only [go_sem, h1, e0, e7, e1, eq_true c0, eq_true c1, e6, List.length_nil, Int.natCast_zero, gt_iff_lt, Int.lt_irrefl, c3, simprocAttr]
       exact h2
      ·simp only [go_sem, h1, e0, e7, e1, eq_true c0, eq_true c1, e6, List.length_nil, Int.natCast_zero, gt_iff_lt, Int.lt_irrefl, c3, simprocAttr]
       exact h2
     ·have e : askData l b p a = ({ b with epoch := p.epoch, seq := 0 }, a) := by
       unfold askData; rw [if_pos hl0, hq0, decide_eq_false c3, Bool.false_or]
      rw [e]
      obtain ⟨M, h2⟩ := step _ e (N ++ [.cells p.cs])
      refine ⟨M, ?_⟩
      simp only [hi'] at h2
      unfold Ba.cs Pr.cs at *
      rw [hl0, List.map_nil] at h2 e1
      refine loop_step l_keep_Tape_Ask_0.eq_1 k_keep_Tape_Ask_0.eq_1 (by kernel_rfl) ?_
      rcases hfl with rfl | rfl
      ·simp only [go_sem, h1, e0, e7, e1, eq_true c0, eq_true c1, e6, List.length_nil, Int.natCast_zero, gt_iff_lt, Int.lt_irrefl, c3, simprocAttr]
       exact h2
      ·simp only [go_sem, h1, e0, e7, e1, eq_true c0, eq_true c1, e6, List.length_nil, Int.natCast_zero, gt_iff_lt, Int.lt_irrefl, c3, simprocAttr]
       exact h2
    ·have hne : p.last ≠ [] := by rw [hl0]; simp
     have hx1 : p.last.getLast? = some x := by rw [hl0]; simp
     have hln : p.last.length = l'.length + 1 := by rw [hl0]; simp
     have hx2 := hp.last x (by rw [hl0]; simp)
     have hq0 : seqAsk p = (x.2.1 + 1) % 2147483648 := by unfold seqAsk; rw [hx1]
     have j1 : (p.last.length : Int) > 0 := by omega
     have w1 : IntKind.i64.wrap ((p.last.length : Int) - 1) = (l'.length : Int) := by rw [wrap_id (by unfold I64; omega)]; omega
     have j0 : (0 : Int) ≤ (l'.length : Int) := by omega
     have j7 : ((l'.length : Nat) : Int).toNat = l'.length := by omega
     have j2 : (p.last.map laV)[l'.length]? = some (.agg [.int .i64 x.1, .int .i64 x.2.1, .int .i64 x.2.2]) := by rw [hl0]; simp [laV]
     have w2 : bits .and .i64 (IntKind.i64.wrap (x.2.1 + 1)) 2147483647 = (x.2.1 + 1) % 2147483648 := by
      rw [and_seq, IntKind.wrap_i64]; omega
     have t1 := next_hx l hl a hs.at_ 7 i G hi
     have ha1 := nextA_le (n := 7) hs.at_
     have hi1 := hi.step (tapeB l (nextA l a 7))
     have t2 := next_hx l hl (nextA l a 7) ha1 (p.last.length : Nat) i _ hi1
     simp only [List.set_set] at t2
     have r2 := nextV_range (l := l) (a := nextA l a 7) (n := p.last.length) (by omega) (by omega)
     have j3 : (p.last.map laV)[(nextV l (nextA l a 7) p.last.length).toNat]? = some ((fun y => AVal.agg [.int .i64 y.1, .int .i64 y.2.1, .int .i64 y.2.2]) (p.last.getD (nextV l (nextA l a 7) p.last.length).toNat (0, 0, 0))) := by
      have : (nextV l (nextA l a 7) p.last.length).toNat < p.last.length := by omega
      rw [List.getElem?_map, List.getD_eq_getElem?_getD, List.getElem?_eq_getElem this]; rfl
     have j4 := r2.1
     by_cases c4 : nextV l a 7 = 0
     ·have e' : askData l b p a = ({ b with epoch := p.epoch, seq := (p.last.getD (nextV l (nextA l a 7) p.last.length).toNat (0, 0, 0)).1, txn := decide (p.open_ ≥ 0) || b.txn }, nextA l (nextA l a 7) p.last.length) := by
       unfold askData; rw [if_neg hne, if_pos c4]
      generalize nextA l (nextA l a 7) p.last.length = a2 at *
      generalize nextV l (nextA l a 7) p.last.length = v at *
      generalize p.last.getD v.toNat (0, 0, 0) = y at *
      generalize nextA l a 7 = a1 at *
      generalize nextV l a 7 = v1 at *
      by_cases c3 : p.open_ ≥ 0
      ·have e : askData l b p a = ({ b with epoch := p.epoch, seq := y.1, txn := true }, a2) := by rw [e', decide_eq_true c3, Bool.true_or]
       rw [e]
       obtain ⟨M, h2⟩ := step _ e (N ++ [.cells p.cs])
       refine ⟨M, ?_⟩
       simp only at j3
       unfold Ba.cs Pr.cs at *
       refine loop_step l_keep_Tape_Ask_0.eq_1 k_keep_Tape_Ask_0.eq_1 (by kernel_rfl) ?_
       rcases hfl with rfl | rfl
       ·simp only [go_sem, h1, e0, e7, e1, eq_true c0, eq_true c1, e6, List.length_map, j1, w1, j0, j7, j2, w2, c3, t1, eq_true c4, t2, j3, j4, simprocAttr]
        exact h2
       ·simp only [go_sem, h1, e0, e7, e1, eq_true c0, eq_true c1, e6, List.length_map, j1, w1, j0, j7, j2, w2, c3, t1, eq_true c4, t2, j3, j4, simprocAttr]
        exact h2
      ·have e : askData l b p a = ({ b with epoch := p.epoch, seq := y.1 }, a2) := by rw [e', decide_eq_false c3, Bool.false_or]
       rw [e]
       obtain ⟨M, h2⟩ := step _ e (N ++ [.cells p.cs])
       refine ⟨M, ?_⟩
       simp only at j3
       unfold Ba.cs Pr.cs at *
       refine loop_step l_keep_Tape_Ask_0.eq_1 k_keep_Tape_Ask_0.eq_1 (by kernel_rfl) ?_
       rcases hfl with rfl | rfl
       ·simp only [go_sem, h1, e0, e7, e1, eq_true c0, eq_true c1, e6, List.length_map, j1, w1, j0, j7, j2, w2, c3, t1, eq_true c4, t2, j3, j4, simprocAttr]
        exact h2
       ·simp only [go_sem, h1, e0, e7, e1, eq_true c0, eq_true c1, e6, List.length_map, j1, w1, j0, j7, j2, w2, c3, t1, eq_true c4, t2, j3, j4, simprocAttr]
        exact h2
     ·have e' : askData l b p a = ({ b with epoch := p.epoch, seq := (x.2.1 + 1) % 2147483648, txn := decide (p.open_ ≥ 0) || b.txn }, nextA l a 7) := by
       unfold askData; rw [if_neg hne, if_neg c4, hq0]
      clear t2 j3
      generalize nextA l a 7 = a1 at *
      generalize nextV l a 7 = v1 at *
      by_cases c3 : p.open_ ≥ 0
      ·have e : askData l b p a = ({ b with epoch := p.epoch, seq := (x.2.1 + 1) % 2147483648, txn := true }, a1) := by rw [e', decide_eq_true c3, Bool.true_or]
       rw [e]
       obtain ⟨M, h2⟩ := step _ e (N ++ [.cells p.cs])
       refine ⟨M, ?_⟩
       unfold Ba.cs Pr.cs at *
       refine loop_step l_keep_Tape_Ask_0.eq_1 k_keep_Tape_Ask_0.eq_1 (by kernel_rfl) ?_
       rcases hfl with rfl | rfl
       ·simp only [go_sem, h1, e0, e7, e1, eq_true c0, eq_true c1, e6, List.length_map, j1, w1, j0, j7, j2, w2, c3, t1, c4, simprocAttr]
        exact h2
       ·simp only [go_sem, h1, e0, e7, e1, eq_true c0, eq_true c1, e6, List.length_map, j1, w1, j0, j7, j2, w2, c3, t1, c4, simprocAttr]
        exact h2
      ·have e : askData l b p a = ({ b with epoch := p.epoch, seq := (x.2.1 + 1) % 2147483648 }, a1) := by rw [e', decide_eq_false c3, Bool.false_or]
       rw [e]
       obtain ⟨M, h2⟩ := step _ e (N ++ [.cells p.cs])
       refine ⟨M, ?_⟩
       unfold Ba.cs Pr.cs at *
       refine loop_step l_keep_Tape_Ask_0.eq_1 k_keep_Tape_Ask_0.eq_1 (by kernel_rfl) ?_
       rcases hfl with rfl | rfl
       ·simp only [go_sem, h1, e0, e7, e1, eq_true c0, eq_true c1, e6, List.length_map, j1, w1, j0, j7, j2, w2, c3, t1, c4, simprocAttr]
        exact h2
       ·simp only [go_sem, h1, e0, e7, e1, eq_true c0, eq_true c1, e6, List.length_map, j1, w1, j0, j7, j2, w2, c3, t1, c4, simprocAttr]
        exact h2
   ·have e : askStep l (b, a) p = ({ b with epoch := p.epoch }, a) := by unfold askStep; rw [if_neg (by simpa using c0), if_pos c1]
    rw [e]
    obtain ⟨M, h2⟩ := step _ e (N ++ [.cells p.cs])
    refine ⟨M, ?_⟩
    simp only [hi'] at h2
    unfold Ba.cs Pr.cs at *
    rcases hfl with rfl | rfl
    ·refine loop_step l_keep_Tape_Ask_0.eq_1 k_keep_Tape_Ask_0.eq_1 (by kernel_rfl) ?_
     simp only [go_sem, h1, e0, e7, e1, eq_true c0, c1, e6, simprocAttr]
     exact h2
    ·refine loop_step l_keep_Tape_Ask_0.eq_1 k_keep_Tape_Ask_0.eq_1 (by kernel_rfl) ?_
     simp only [go_sem, h1, e0, e7, e1, eq_true c0, c1, e6, simprocAttr]
     exact h2
  ·have e : askStep l (b, a) p = (b, a) := by unfold askStep; rw [if_pos (by simpa using c0)]
   rw [e]
   obtain ⟨M, h2⟩ := step _ e (N ++ [.cells p.cs])
   refine ⟨M, ?_⟩
   simp only [hi'] at h2
   unfold Ba.cs Pr.cs at *
   rcases hfl with rfl | rfl
   ·refine loop_step l_keep_Tape_Ask_0.eq_1 k_keep_Tape_Ask_0.eq_1 (by kernel_rfl) ?_
    simp only [go_sem, h1, e0, e7, e1, c0, e6, simprocAttr]
    exact h2
   ·refine loop_step l_keep_Tape_Ask_0.eq_1 k_keep_Tape_Ask_0.eq_1 (by kernel_rfl) ?_
    simp only [go_sem, h1, e0, e7, e1, c0, e6, simprocAttr]
    exact h2
set_option maxHeartbeats 1000000 in
theorem ask_spec (l : List Int) (hl : l.length ≤ 140737488355328) (a : Nat) (ha : a ≤ l.length) (i : Nat) (cap start : Int) (L : List Ba) (hL : ∀ b ∈ L, Fit b) (hn : L.length ≤ 900) (fl : Fl) (hfl : fl = .own ∨ (fl = .full ∧ L = [])) (j : Nat) (hij : i ≠ j) (H : Heap) (hi : Old H i (tapeB l a)) (hj : Old H j (mdB cap start L fl)) :
  W n_keep_Tape_Ask [.ptr i 0, .ptr j 0] H = some ((askB l L a).1.V, H.set i (tapeB l (askB l L a).2)) := by
 have hb := tapeBatch_right l 0 (by omega) (by omega) a
 have ha1 := tapeBatch_at l 0 a ha
 have hr1 := tapeBatch_recs l 0 a
 have t1 := fun M => tape_batch_spec l hl a ha 0 i (hx H M) ⟨hi.get M⟩
 simp only [hi.set] at t1
 have hi1 := hi.step (tapeB l (tapeBatch l 0 a).2)
 have hj1 := hj.other hij (tapeB l (tapeBatch l 0 a).2)
 unfold askB
 simp only
 generalize tapeBatch l 0 a = s at *
 obtain ⟨b, a1⟩ := s
 simp only at *
 by_cases c1 : b.prod < 0
 ·rw [if_pos c1]
  unfold Ba.V Ba.cs at *
  refine W_fnS rfl rfl ?_
  simp only [go_sem, c_keep_Tape_Ask, t1, c1, under_rc, tapeB_flat, simprocAttr]
 ·rw [if_neg c1]
  have t2 := next_hx l hl a1 ha1 8 i _ hi1
  simp only [List.set_set] at t2
  have ha2 := nextA_le (n := 8) ha1
  have hi2 := hi1.step (tapeB l (nextA l a1 8))
  have hj2 := hj1.other hij (tapeB l (nextA l a1 8))
  simp only [List.set_set] at hi2 hj2
  generalize nextA l a1 8 = a2 at *
  by_cases c2 : nextV l a1 8 = 0
  ·rw [if_pos c2]
   unfold Ba.V Ba.cs at *
   refine W_fnS rfl rfl ?_
   simp only [go_sem, c_keep_Tape_Ask, t1, c1, t2, c2, under_rc, tapeB_flat, simprocAttr]
  ·rw [if_neg c2]
   have hPr := foldL_ok L [] (fun b hb => (hL b hb).ok) (by simp)
   have hTK := foldL_TK L [] 0 ⟨by simp, by simp⟩
   obtain ⟨f', tp, hf⟩ := producers_spec cap start L hL (by omega) fl hfl j (hx (H.set i (tapeB l a2)) [.cells [.int .i64 0, .int .i64 0, .int .i64 0, .int .i64 0, .bool false, .int .i64 0, .list 2 [] .full], .cells b.cs]) ⟨hj2.get _⟩
   generalize foldL L [] = P at *
   have hPl : P.length ≤ 1000000 := by have := hTK.len; omega
   obtain ⟨M, h⟩ := ask_loop l hl P (fun p hp => ⟨hPr p hp, hTK.last p hp⟩) hPl f' hf i (.cells [.int .i64 0, .int .i64 0, .int .i64 0, .int .i64 0, .bool false, .int .i64 0, .list 2 [] .full]) P [] (b, a2) (H.set i (tapeB l a2)) [] rfl ⟨hb.ok, ha2, hr1⟩ hi2
   simp only [List.length_nil, Int.natCast_zero, pt_set, List.set_set] at h
   generalize P.foldl (askStep l) (b, a2) = s at *
   obtain ⟨b', a3⟩ := s
   unfold Ba.V Ba.cs at *
   refine W_fnS rfl rfl ?_
   rcases hf with rfl | rfl
   ·simp only [go_sem, c_keep_Tape_Ask, t1, c1, t2, c2, tp, List.length_map, h, under_rc, tapeB_flat, simprocAttr]
   ·simp only [go_sem, c_keep_Tape_Ask, t1, c1, t2, c2, tp, List.length_map, h, under_rc, tapeB_flat, simprocAttr]
end Go.Abs
namespace Go.Abs.Pq
open Go Go.RowKit
def rightQ (n : Int) : Bool := decide (0 ≤ n ∧ n ≤ 2147483647)
def addQ (n k : Int) : Int := if rightQ n = true then (n + k) % 2147483648 else -1
def lastQ (f c : Int) : Int := if 1 ≤ c ∧ c ≤ 16 then addQ f (c - 1) else -1
def followsQ (l f : Int) : Bool := if l = -1 then decide (f = 0) else rightQ l && decide (f = addQ l 1)
def gapQ (a b : Int) : Int := if rightQ a = true ∧ rightQ b = true then (b - a) % 2147483648 else -1
theorem right_spec (n : Int) (H : Heap) : W n_seq_Right [.int .i64 n] H = some (.bool (rightQ n), H) := by
 refine W_fn rfl rfl ?_
 unfold rightQ
 by_cases h1 : n ≥ 0 <;> by_cases h2 : n ≤ 2147483647 <;> simp only [go_sem, c_seq_Right, h1, h2, reduceCtorEq, ↓reduceIte, Nat.reduceAdd, Nat.reduceEqDiff, Nat.reduceLT, Int.reduceLE, Nat.reduceSub, Nat.reduceLeDiff, Nat.reduceMul, Int.reduceToNat, Int.reduceLT, Int.reduceEq, Int.reduceNeg, Nat.reduceBEq, Nat.reduceBNe]
theorem add_spec (n k : Int) (H : Heap) (h0 : 0 ≤ k) (h1 : k ≤ 1000000) : W n_seq_Add [.int .i64 n, .int .i64 k] H = some (.int .i64 (addQ n k), H) := by
 have hs := right_spec n
 refine W_fn rfl rfl ?_
 cases h : rightQ n with
 | false => rw [h] at hs; simp only [go_sem, c_seq_Add, hs, reduceCtorEq, ↓reduceIte, Nat.reduceAdd, Nat.reduceEqDiff, Nat.reduceLT, Int.reduceLE, Nat.reduceSub, Nat.reduceLeDiff, Nat.reduceMul, Int.reduceToNat, Int.reduceLT, Int.reduceEq, Int.reduceNeg, Nat.reduceBEq, Nat.reduceBNe]; simp [addQ, h]
 | true =>
  rw [h] at hs
  have hr : 0 ≤ n ∧ n ≤ 2147483647 := by simpa [rightQ] using h
  have e1 : IntKind.i64.wrap (n + k.tmod 2147483648) = n + k := by
   rw [Int.tmod_eq_emod_of_nonneg h0, wrap_id (by unfold I64; omega)]; omega
  have e2 : IntKind.i64.wrap ((n + k).tmod 2147483648 + 2147483648) = (n + k) % 2147483648 + 2147483648 := by
   rw [Int.tmod_eq_emod_of_nonneg (by omega), wrap_id (by unfold I64; omega)]
  have e3 : ((n + k) % 2147483648 + 2147483648).tmod 2147483648 = (n + k) % 2147483648 := by
   rw [Int.tmod_eq_emod_of_nonneg (by omega)]; omega
  simp only [go_sem, c_seq_Add, hs, e1, e2, e3, addQ, h, reduceCtorEq, ↓reduceIte, Nat.reduceAdd, Nat.reduceEqDiff, Nat.reduceLT, Int.reduceLE, Nat.reduceSub, Nat.reduceLeDiff, Nat.reduceMul, Int.reduceToNat, Int.reduceLT, Int.reduceEq, Int.reduceNeg, Nat.reduceBEq, Nat.reduceBNe]
theorem last_spec (f c : Int) (H : Heap) (hc : I64 c) : W n_seq_Last [.int .i64 f, .int .i64 c] H = some (.int .i64 (lastQ f c), H) := by
 refine W_fn rfl rfl ?_
 by_cases h1 : c < 1
 ·simp only [go_sem, c_seq_Last, h1, lastQ, show ¬ (1 ≤ c ∧ c ≤ 16) by omega, reduceCtorEq, ↓reduceIte, Nat.reduceAdd, Nat.reduceEqDiff, Nat.reduceLT, Int.reduceLE, Nat.reduceSub, Nat.reduceLeDiff, Nat.reduceMul, Int.reduceToNat, Int.reduceLT, Int.reduceEq, Int.reduceNeg, Nat.reduceBEq, Nat.reduceBNe]
 ·by_cases h2 : c > 16
  ·simp only [go_sem, c_seq_Last, h1, h2, lastQ, show ¬ (1 ≤ c ∧ c ≤ 16) by omega, reduceCtorEq, ↓reduceIte, Nat.reduceAdd, Nat.reduceEqDiff, Nat.reduceLT, Int.reduceLE, Nat.reduceSub, Nat.reduceLeDiff, Nat.reduceMul, Int.reduceToNat, Int.reduceLT, Int.reduceEq, Int.reduceNeg, Nat.reduceBEq, Nat.reduceBNe]
  ·have ha := fun H => add_spec f (c - 1) H (by omega) (by omega)
   have e1 : IntKind.i64.wrap (c - 1) = c - 1 := wrap_id (by unfold I64 at *; omega)
   simp only [go_sem, c_seq_Last, h1, h2, lastQ, show (1 ≤ c ∧ c ≤ 16) by omega, e1, ha, reduceCtorEq, ↓reduceIte, Nat.reduceAdd, Nat.reduceEqDiff, Nat.reduceLT, Int.reduceLE, Nat.reduceSub, Nat.reduceLeDiff, Nat.reduceMul, Int.reduceToNat, Int.reduceLT, Int.reduceEq, Int.reduceNeg, Nat.reduceBEq, Nat.reduceBNe]
structure Pr where
 id : Int
 ep : Int
 last : List (Int × Int × Int)
 op : Int
structure Ba where
 base : Int
 prod : Int
 ep : Int
 seq : Int
 txn : Bool
 mark : Int
 recs : List AVal
abbrev t3 (t : Int × Int × Int) : AVal := .agg [.int .i64 t.1, .int .i64 t.2.1, .int .i64 t.2.2]
abbrev lastV (l : List (Int × Int × Int)) (fl : Fl) : AVal := .list 3 (l.map t3) fl
abbrev Pr.v (p : Pr) : AVal := .agg [.int .i64 p.id, .int .i64 p.ep, lastV p.last .ro, .int .i64 p.op]
abbrev Ba.v (b : Ba) : AVal := .agg [.int .i64 b.base, .int .i64 b.prod, .int .i64 b.ep, .int .i64 b.seq, .bool b.txn, .int .i64 b.mark, .list 2 b.recs .ro]
def dupQ (p : Pr) (b : Ba) : List (Int × Int × Int) → Int × Bool
 | [] => (-1, false)
 | l :: ls => if b.mark = 0 ∧ b.ep = p.ep ∧ l.1 = b.seq ∧ l.2.1 = lastQ b.seq b.recs.length then (l.2.2, true) else dupQ p b ls
def checkQ (p : Pr) (known : Bool) (b : Ba) : Int × Int :=
 if b.mark ≠ 0 then (-1, if known = false then 16 else if b.ep < p.ep then 14 else if p.op < 0 then 16 else 0)
 else if known = false then (-1, 0)
 else if b.ep < p.ep then (-1, 14)
 else if b.ep > p.ep then (-1, if p.op ≥ 0 then 16 else if b.seq ≠ 0 then 15 else 0)
 else if (dupQ p b p.last).2 = true then ((dupQ p b p.last).1, 0)
 else if p.last ≠ [] ∧ followsQ (p.last.getLastD (0, 0, 0)).2.1 b.seq = false then (-1, 15)
 else if p.op ≥ 0 ∧ b.txn = false then (-1, 16)
 else (-1, 0)
def applyQ (p : Pr) (known : Bool) (b : Ba) : Pr :=
 let op := if known then p.op else -1
 let l := if known = true ∧ b.ep = p.ep then p.last else []
 if b.mark ≠ 0 then ⟨b.prod, b.ep, l, -1⟩
 else
  let l2 := l ++ [(b.seq, lastQ b.seq b.recs.length, b.base)]
  ⟨b.prod, b.ep, l2.drop (l2.length - 5), if b.txn = true ∧ op < 0 then b.base else op⟩
theorem apply_spec (p : Pr) (k : Bool) (b : Ba) (H : Heap) (hl : p.last.length < 1000000) (hr : b.recs.length < 1000000000) :
  W n_producer_Apply [p.v, .bool k, b.v] H = some ((applyQ p k b).v, H) := by
 have hlast := fun H => last_spec b.seq (b.recs.length : Int) H (by unfold I64; omega)
 have hcl : (p.last.map t3).length * 24 ≤ maxBytes := by simp [maxBytes]; omega
 have u1 : ∀ l : List (Int × Int × Int), AVal.underL 0 (l.map t3) = true := fun l => uL_map 0 t3 (fun _ => rfl) l
 by_cases c1 : b.mark = 0
 ·have key : ∀ (l : List (Int × Int × Int)), l.length ≤ p.last.length →
   ((l.map t3).length + 1) * 24 ≤ maxBytes ∧
   (l.map t3 ++ [AVal.agg [.int .i64 b.seq, .int .i64 (lastQ b.seq b.recs.length), .int .i64 b.base]]) = (l ++ [(b.seq, lastQ b.seq b.recs.length, b.base)]).map t3 ∧
   ((l ++ [(b.seq, lastQ b.seq b.recs.length, b.base)]).map t3).length = l.length + 1 ∧
   IntKind.i64.wrap (((l.length + 1 : Nat) : Int) - 5) = (l.length : Int) - 4 := by
   intro l hl'
   refine ⟨by simp [maxBytes]; omega, by simp, by simp, by rw [wrap_id (by unfold I64; omega)]; omega⟩
  have tail : ∀ (l : List (Int × Int × Int)), l.length ≤ p.last.length → 
   (0 : Int) ≤ mx 0 ((l.length : Int) - 4) ∧ mx 0 ((l.length : Int) - 4) ≤ ((l.length + 1 : Nat) : Int) ∧
   ((l ++ [(b.seq, lastQ b.seq b.recs.length, b.base)]).map t3).drop (mx 0 ((l.length : Int) - 4)).toNat = ((l ++ [(b.seq, lastQ b.seq b.recs.length, b.base)]).drop ((l ++ [(b.seq, lastQ b.seq b.recs.length, b.base)]).length - 5)).map t3 ∧
   (((l ++ [(b.seq, lastQ b.seq b.recs.length, b.base)]).drop ((l ++ [(b.seq, lastQ b.seq b.recs.length, b.base)]).length - 5)).map t3).length * 24 ≤ maxBytes := by
   intro l hl'
   have h : (mx 0 ((l.length : Int) - 4)).toNat = (l ++ [(b.seq, lastQ b.seq b.recs.length, b.base)]).length - 5 := by
    rw [List.length_append]; simp only [List.length_cons, List.length_nil]; unfold mx; split <;> omega
   refine ⟨by unfold mx; split <;> omega, by unfold mx; split <;> omega, by rw [h, List.map_drop], by simp [maxBytes]; omega⟩
  obtain ⟨k1, k2, k3, k4⟩ := key p.last (Nat.le_refl _)
  obtain ⟨t1, t2, t3', t4⟩ := tail p.last (Nat.le_refl _)
  have w1 : IntKind.i64.wrap (1 - 5) = -4 := by decide
  have w2 : mx 0 (-4) = 0 := by decide
  have w3 : (0 + 1) * 24 ≤ maxBytes := by decide
  have w4 : 1 * 24 ≤ maxBytes := by decide
  refine W_fn rfl rfl ?_
  cases k with
  | false =>
   by_cases c5 : b.txn = true
   ·simp only [go_sem, c_producer_Apply, eq_true c1, c5, applyQ, u1, hlast, apF, w1, w2, w3, w4, slL, W_slices_Clone_3_int64_3_int64_, Pr.v, reduceCtorEq, ↓reduceIte, Nat.reduceAdd, Nat.reduceEqDiff, Nat.reduceLT, Int.reduceLE, Nat.reduceSub, Nat.reduceLeDiff, Nat.reduceMul, Int.reduceToNat, Int.reduceLT, Int.reduceEq, Int.reduceNeg, Nat.reduceBEq, Nat.reduceBNe]; rfl
   ·simp only [go_sem, c_producer_Apply, eq_true c1, c5, applyQ, u1, hlast, apF, w1, w2, w3, w4, slL, W_slices_Clone_3_int64_3_int64_, Pr.v, reduceCtorEq, ↓reduceIte, Nat.reduceAdd, Nat.reduceEqDiff, Nat.reduceLT, Int.reduceLE, Nat.reduceSub, Nat.reduceLeDiff, Nat.reduceMul, Int.reduceToNat, Int.reduceLT, Int.reduceEq, Int.reduceNeg, Nat.reduceBEq, Nat.reduceBNe]; rfl
  | true =>
   by_cases c2 : b.ep = p.ep
   ·by_cases c5 : b.txn = true
    ·by_cases c6 : p.op < 0
     ·simp only [go_sem, c_producer_Apply, eq_true c1, eq_true c2, c5, c6, applyQ, u1, hlast, apO, k1, k2, k3, k4, t1, t2, t3', t4, hcl, slL, W_slices_Clone_3_int64_3_int64_, Pr.v, reduceCtorEq, ↓reduceIte, Nat.reduceAdd, Nat.reduceEqDiff, Nat.reduceLT, Int.reduceLE, Nat.reduceSub, Nat.reduceLeDiff, Nat.reduceMul, Int.reduceToNat, Int.reduceLT, Int.reduceEq, Int.reduceNeg, Nat.reduceBEq, Nat.reduceBNe]
     ·simp only [go_sem, c_producer_Apply, eq_true c1, eq_true c2, c5, c6, applyQ, u1, hlast, apO, k1, k2, k3, k4, t1, t2, t3', t4, hcl, slL, W_slices_Clone_3_int64_3_int64_, Pr.v, reduceCtorEq, ↓reduceIte, Nat.reduceAdd, Nat.reduceEqDiff, Nat.reduceLT, Int.reduceLE, Nat.reduceSub, Nat.reduceLeDiff, Nat.reduceMul, Int.reduceToNat, Int.reduceLT, Int.reduceEq, Int.reduceNeg, Nat.reduceBEq, Nat.reduceBNe]
    ·simp only [go_sem, c_producer_Apply, eq_true c1, eq_true c2, c5, applyQ, u1, hlast, apO, k1, k2, k3, k4, t1, t2, t3', t4, hcl, slL, W_slices_Clone_3_int64_3_int64_, Pr.v, reduceCtorEq, ↓reduceIte, Nat.reduceAdd, Nat.reduceEqDiff, Nat.reduceLT, Int.reduceLE, Nat.reduceSub, Nat.reduceLeDiff, Nat.reduceMul, Int.reduceToNat, Int.reduceLT, Int.reduceEq, Int.reduceNeg, Nat.reduceBEq, Nat.reduceBNe]
   ·by_cases c5 : b.txn = true
    ·by_cases c6 : p.op < 0
     ·simp only [go_sem, c_producer_Apply, eq_true c1, c2, c5, c6, applyQ, u1, hlast, apF, w1, w2, w3, w4, slL, W_slices_Clone_3_int64_3_int64_, Pr.v, reduceCtorEq, ↓reduceIte, Nat.reduceAdd, Nat.reduceEqDiff, Nat.reduceLT, Int.reduceLE, Nat.reduceSub, Nat.reduceLeDiff, Nat.reduceMul, Int.reduceToNat, Int.reduceLT, Int.reduceEq, Int.reduceNeg, Nat.reduceBEq, Nat.reduceBNe]; rfl
     ·simp only [go_sem, c_producer_Apply, eq_true c1, c2, c5, c6, applyQ, u1, hlast, apF, w1, w2, w3, w4, slL, W_slices_Clone_3_int64_3_int64_, Pr.v, reduceCtorEq, ↓reduceIte, Nat.reduceAdd, Nat.reduceEqDiff, Nat.reduceLT, Int.reduceLE, Nat.reduceSub, Nat.reduceLeDiff, Nat.reduceMul, Int.reduceToNat, Int.reduceLT, Int.reduceEq, Int.reduceNeg, Nat.reduceBEq, Nat.reduceBNe]; rfl
    ·simp only [go_sem, c_producer_Apply, eq_true c1, c2, c5, applyQ, u1, hlast, apF, w1, w2, w3, w4, slL, W_slices_Clone_3_int64_3_int64_, Pr.v, reduceCtorEq, ↓reduceIte, Nat.reduceAdd, Nat.reduceEqDiff, Nat.reduceLT, Int.reduceLE, Nat.reduceSub, Nat.reduceLeDiff, Nat.reduceMul, Int.reduceToNat, Int.reduceLT, Int.reduceEq, Int.reduceNeg, Nat.reduceBEq, Nat.reduceBNe]; rfl
 ·refine W_fn rfl rfl ?_
  cases k with
  | false => simp only [go_sem, c_producer_Apply, c1, applyQ, u1, Pr.v, reduceCtorEq, ↓reduceIte, Nat.reduceAdd, Nat.reduceEqDiff, Nat.reduceLT, Int.reduceLE, Nat.reduceSub, Nat.reduceLeDiff, Nat.reduceMul, Int.reduceToNat, Int.reduceLT, Int.reduceEq, Int.reduceNeg, Nat.reduceBEq, Nat.reduceBNe]; rfl
  | true =>
   by_cases c2 : b.ep = p.ep
   ·simp only [go_sem, c_producer_Apply, c1, eq_true c2, applyQ, u1, W_slices_Clone_3_int64_3_int64_, hcl, reduceCtorEq, ↓reduceIte, Nat.reduceAdd, Nat.reduceEqDiff, Nat.reduceLT, Int.reduceLE, Nat.reduceSub, Nat.reduceLeDiff, Nat.reduceMul, Int.reduceToNat, Int.reduceLT, Int.reduceEq, Int.reduceNeg, Nat.reduceBEq, Nat.reduceBNe]
   ·simp only [go_sem, c_producer_Apply, c1, c2, applyQ, u1, Pr.v, reduceCtorEq, ↓reduceIte, Nat.reduceAdd, Nat.reduceEqDiff, Nat.reduceLT, Int.reduceLE, Nat.reduceSub, Nat.reduceLeDiff, Nat.reduceMul, Int.reduceToNat, Int.reduceLT, Int.reduceEq, Int.reduceNeg, Nat.reduceBEq, Nat.reduceBNe]; rfl
end Go.Abs.Pq
namespace Go.Abs
open Go Go.RowKit
def toP (p : Pr) : Pq.Pr := ⟨p.id, p.epoch, p.last, p.open_⟩
def toB (b : Ba) : Pq.Ba := ⟨b.base, b.prod, b.epoch, b.seq, b.txn, b.mark, b.recs.map rcV⟩
theorem toP_v (p : Pr) : (toP p).v = p.V := rfl
theorem toB_v (b : Ba) : (toB b).v = b.V := rfl
theorem rightQ_eq (n : Int) : Pq.rightQ n = seqR n := by
 unfold Pq.rightQ seqR
 by_cases h : n ≥ 0 <;> by_cases k : n ≤ 2147483647 <;> simp [h, k]
 all_goals omega
theorem addQ_eq (n k : Int) : Pq.addQ n k = addS n k := by unfold Pq.addQ addS; rw [rightQ_eq]
theorem lastQ_eq (n c : Int) : Pq.lastQ n c = lastS n c := by
 unfold Pq.lastQ lastS
 rw [addQ_eq]
 by_cases h : 1 ≤ c ∧ c ≤ 16
 ·rw [if_pos h, if_neg (by omega)]
 ·rw [if_neg h, if_pos (by omega)]
theorem applyQ_eq (p : Pr) (k : Bool) (b : Ba) : Pq.applyQ (toP p) k (toB b) = toP (applyP p k b) := by
 have hl : (if k = true ∧ b.epoch = p.epoch then p.last else []) = lastsP p k b := by
  unfold lastsP
  by_cases h : k = true ∧ b.epoch = p.epoch
  ·rw [if_pos h, if_pos ⟨h.1, h.2.symm⟩]
  ·rw [if_neg h, if_neg (fun q => h ⟨q.1, q.2.symm⟩)]
 have hll : (b.recs.map rcV).length = b.recs.length := List.length_map _
 have h : Pq.applyQ (toP p) k (toB b) = (if b.mark ≠ 0 then (⟨b.prod, b.epoch, if k = true ∧ b.epoch = p.epoch then p.last else [], -1⟩ : Pq.Pr)
  else ⟨b.prod, b.epoch, ((if k = true ∧ b.epoch = p.epoch then p.last else []) ++ [(b.seq, Pq.lastQ b.seq (b.recs.map rcV).length, b.base)]).drop (((if k = true ∧ b.epoch = p.epoch then p.last else []) ++ [(b.seq, Pq.lastQ b.seq (b.recs.map rcV).length, b.base)]).length - 5), if b.txn = true ∧ openP p k < 0 then b.base else openP p k⟩) := rfl
 rw [h, hl, hll, lastQ_eq]
 unfold applyP
 by_cases c : b.mark ≠ 0
 ·rw [if_pos c, if_pos c]; rfl
 ·rw [if_neg c, if_neg c]; rfl
theorem papply_spec (p : Pr) (k : Bool) (b : Ba) (hl : p.last.length ≤ 1000) (hr : b.recs.length ≤ 1000) (H : Heap) :
  W n_producer_Apply [p.V, .bool k, b.V] H = some ((applyP p k b).V, H) := by
 have := Pq.apply_spec (toP p) k (toB b) H (by show p.last.length < _; omega) (by simp only [toB, List.length_map]; omega)
 rw [toP_v, toB_v, applyQ_eq, toP_v] at this
 exact this
end Go.Abs
