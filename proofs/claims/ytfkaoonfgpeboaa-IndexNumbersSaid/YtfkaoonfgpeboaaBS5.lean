import Derived.Test.YtfkaoonfgpeboaaBS4
set_option linter.unusedVariables false
set_option linter.unusedSimpArgs false
namespace Go.Abs
open Go Go.RowKit
structure Rel (x : Ix) (p : Pl) : Prop where
 base : x.base = p.base
 every : x.every = p.every
 l : ents x.l = p.l
 b0 : 0 ≤ p.base
 lst : (x.l = [] ∧ p.last = -1 ∧ p.end_ = 0) ∨ ∃ q, x.l.getLast? = some q ∧ q.off = p.last ∧ q.end_ = p.end_
theorem Rel.ok {x : Ix} {p : Pl} (h : Rel x p) (o a s : Int) : addOK x o a s = plOK p o a s := by
 unfold addOK plOK
 rw [h.base]
 have hb := h.b0
 rcases h.lst with ⟨h1, h2, h3⟩ | ⟨q, h1, h2, h3⟩
 ·rw [h1, h2, h3]
  simp only [List.getLast?_nil, Bool.and_true]
  by_cases c1 : o < p.base
  ·simp [c1]
  ·have c2 : ¬ o ≤ -1 := by omega
   by_cases c3 : a < 0 <;> by_cases c4 : s < 1 <;> simp [c1, c2, c3, c4]
 ·rw [h1, ← h2, ← h3]
  simp only
  by_cases c1 : o < p.base <;> by_cases c2 : o ≤ q.off <;> by_cases c3 : a < 0 <;> by_cases c4 : s < 1 <;> by_cases c5 : a < q.end_ <;> simp [c1, c2, c3, c4, c5]
theorem Rel.entry {x : Ix} {p : Pl} (h : Rel x p) (a : Int) : addE x a = plE p a := by
 unfold addE plE
 rw [← h.l, ← lastE_ents, h.every]
 cases lastE x.l <;> rfl
theorem Rel.add {x : Ix} {p : Pl} (h : Rel x p) (o a s : Int) : Rel (addI x o a s) (plAdd p o a s) := by
 refine ⟨h.base, h.every, ?_, h.b0, .inr ⟨_, by simp [addI]; rfl, rfl, rfl⟩⟩
 show ents (x.l ++ [_]) = _
 rw [ents_app, ents_cons, h.l, h.entry]
 unfold plAdd
 cases plE p a <;> simp [ents]
structure Ask where
 kind : Int
 at_ : Int
 size : Int
 off : Int
abbrev Ask.v (a : Ask) : AVal := .agg [.int .i64 a.kind, .int .i64 a.at_, .int .i64 a.size, .int .i64 a.off]
structure PB (x : Ix) (p : Pl) (fl fp : Fl) : Prop where
 rel : Rel x p
 fx : Flag x fl
 fp : fp = .own ∨ (fp = .full ∧ p.l = [])
 inv : IxInv x (p.last + 1) p.end_
 e0 : 0 ≤ p.end_ ∧ p.end_ ≤ 2199023255552
 k1 : 1 ≤ x.every
 offs : ∀ a ∈ x.l, p.base ≤ a.off ∧ I64 a.off
theorem PB.add {x p fl fp} (h : PB x p fl fp) {o a s : Int} (ho : I64 o) (ha : a < 1099511627776) (hs : s < 1099511627776) (hok : addOK x o a s = true) : PB (addI x o a s) (plAdd p o a s) .uniq .own := by
 have hpl := hok
 rw [h.rel.ok] at hpl
 unfold plOK at hpl
 simp only [Bool.and_eq_true, decide_eq_true_eq] at hpl
 obtain ⟨c1, c2, c3, c4, c5⟩ := hpl
 have hw : IntKind.i64.wrap (a + s) = a + s := wrap_id (by unfold I64; omega)
 have hh := (h.inv.add (o := o) (a := a) (s := s) (by omega) (by omega) (by omega) (by omega) (by omega) (by rw [h.rel.base]; omega)).2
 refine ⟨h.rel.add o a s, rfl, .inl rfl, ?_, ?_, h.k1, ?_⟩
 ·show IxInv _ (o + 1) (IntKind.i64.wrap (a + s)); rw [hw]; exact hh
 ·show 0 ≤ IntKind.i64.wrap (a + s) ∧ IntKind.i64.wrap (a + s) ≤ _; rw [hw]; omega
 ·intro b hb
  rcases List.mem_append.1 hb with hb | hb
  ·exact h.offs b hb
  ·rw [List.mem_singleton] at hb; subst hb; exact ⟨by show p.base ≤ o; omega, ho⟩
theorem play_loop (l : List Ask) (hl : l.length < 70368744177664) (hI : ∀ a ∈ l, I64 a.off) (base every : Int) (H : Heap) : ∀ (r s : List Ask) (x : Ix) (p : Pl) (fl fp : Fl) (M : Heap), l = s ++ r → PB x p fl fp → x.l.length ≤ s.length → s.length ≤ 80 →
  ∃ x' p' fl' fp' N, PB x' p' fl' fp' ∧ x'.base = x.base ∧ x'.every = x.every ∧ x'.l.length ≤ 80 ∧ loopA W loopW (.ghost (.kill k_law8_play_0) l_law8_play_0) [(0, .int .i64 base), (1, .int .i64 every), (2, .list 4 (l.map Ask.v) .ro), (7, .ptr (pt H 0) 0), (8, .ptr (pt H 2) 0), (9, .int .i64 s.length)] (hx H (x.B fl :: .dead :: p.B fp :: M)) =
   some (.exit 0, [(0, .int .i64 base), (1, .int .i64 every), (7, .ptr (pt H 0) 0), (8, .ptr (pt H 2) 0)], hx H (x'.B fl' :: .dead :: p'.B fp' :: N)) := by
 have e0 : (l.map Ask.v).length = l.length := by simp
 intro r
 induction r with
 | nil =>
  intro s x p fl fp M hs hP hxl h80
  rw [List.append_nil] at hs
  subst hs
  refine ⟨x, p, fl, fp, M, hP, rfl, rfl, by omega, ?_⟩
  have h1 : ¬ ((l.length : Int) < (l.length : Int)) := by omega
  refine loop_step l_law8_play_0.eq_1 k_law8_play_0.eq_1 (by kernel_rfl) ?_
  simp only [go_sem, e0, h1, simprocAttr]
 | cons a r ih =>
  intro s x p fl fp M hs hP hxl h80
  have hlen : l.length = s.length + (r.length + 1) := by rw [hs, List.length_append, List.length_cons]
  have h1 : (s.length : Int) < (l.length : Int) := by omega
  by_cases c80 : (s.length : Int) < 80
  rotate_left
  ·refine ⟨x, p, fl, fp, M, hP, rfl, rfl, by omega, ?_⟩
   refine loop_step l_law8_play_0.eq_1 k_law8_play_0.eq_1 (by kernel_rfl) ?_
   simp only [go_sem, e0, h1, c80, simprocAttr]
  have h2 : (0 : Int) ≤ (s.length : Int) := by omega
  have h3 : (l.map Ask.v)[((s.length : Nat) : Int).toNat]? = some a.v := by rw [hs]; simp
  have e1 : IntKind.i64.wrap ((s.length : Int) + 1) = ((s ++ [a]).length : Int) := by rw [wrap_id (by unfold I64; omega)]; simp
  have ha := hI a (by rw [hs]; simp)
  have hlx : x.l.length < 1000000000 := by omega
  have hel := ents_len x.l
  have hpl : p.l.length < 1000000000 := by rw [← hP.rel.l]; omega
  let ab : Box := .cells [.int .i64 a.kind, .int .i64 a.at_, .int .i64 a.size, .int .i64 a.off]
  have hP' : p.l = ents x.l := hP.rel.l.symm
  have hsame : ∀ (x : Ix) (p : Pl) (fl fp : Fl), PB x p fl fp → x.l.length ≤ s.length + 1 → W n_law8_same [.ptr (pt H 0) 0, .ptr (pt H 2) 0] (hx H (x.B fl :: .dead :: p.B fp :: (M ++ [ab]))) = some (.bool true, hx H (x.B fl :: .dead :: p.B fp :: (M ++ [ab]))) := by
   intro x p fl fp h hx1
   have hE : p.end_ ≤ 4611686018427387904 := by have := h.e0; omega
   exact same_spec x fl h.fx (by omega) (h.inv.I64 hE) (pt H 0) _ ⟨by rw [hx_get]; rfl⟩ p fp (by rcases h.fp with h | ⟨h, _⟩ <;> simp [h]) (pt H 2) ⟨by rw [hx_get]; rfl⟩ h.rel.base h.rel.l
  by_cases c4 : a.kind = 4
  ·-- it is found
   have hsrt := GapS.srt hP.k1 hP.inv.gap
   have hf := find_spec x fl hP.fx hlx (pt H 0) (hx H (x.B fl :: .dead :: p.B fp :: (M ++ [ab]))) ⟨by rw [hx_get]; rfl⟩ hsrt a.off
   have hpf := pfind_spec p fp hP.fp hpl (pt H 2) (hx H (x.B fl :: .dead :: p.B fp :: (M ++ [ab]))) ⟨by rw [hx_get]; rfl⟩ a.off
   rw [hP.rel.l] at hf
   have hsm := hsame x p fl fp hP (by omega)
   have n1 : (decide (¬ findP p.l a.off 0 = findP p.l a.off 0)) = false := by simp
   obtain ⟨x', p', fl', fp', N, r1, r2, r3, r4, hN⟩ := ih (s ++ [a]) x p fl fp (M ++ [ab]) (by rw [hs]; simp) hP (by simp; omega) (by simp; omega)
   refine ⟨x', p', fl', fp', N, r1, r2, r3, r4, loop_step l_law8_play_0.eq_1 k_law8_play_0.eq_1 (by kernel_rfl) ?_⟩
   simp only [ab] at hf hpf hsm hN
   simp only [go_sem, e0, h1, c80, h2, h3, e1, eq_true c4, hf, hpf, hsm, n1, simprocAttr]
   exact hN
  ·by_cases cc : a.kind < 4 ∧ a.size < 1099511627776 ∧ a.at_ < 1099511627776
   ·obtain ⟨k1, k2, k3⟩ := cc
    cases hok : addOK x a.off a.at_ a.size with
    | false =>
     have hadd := add_false x fl hP.fx hlx (pt H 0) (hx H (x.B fl :: .dead :: p.B fp :: (M ++ [ab]))) ⟨by rw [hx_get]; rfl⟩ a.off a.at_ a.size hok
     have hpadd := padd_false p fp hP.fp hpl (pt H 2) (hx H (x.B fl :: .dead :: p.B fp :: (M ++ [ab]))) ⟨by rw [hx_get]; rfl⟩ a.off a.at_ a.size (by rw [← hP.rel.ok]; exact hok)
     have hsm := hsame x p fl fp hP (by omega)
     obtain ⟨x', p', fl', fp', N, r1, r2, r3, r4, hN⟩ := ih (s ++ [a]) x p fl fp (M ++ [ab]) (by rw [hs]; simp) hP (by simp; omega) (by simp; omega)
     refine ⟨x', p', fl', fp', N, r1, r2, r3, r4, loop_step l_law8_play_0.eq_1 k_law8_play_0.eq_1 (by kernel_rfl) ?_⟩
     simp only [ab] at hadd hpadd hsm hN
     simp only [go_sem, e0, h1, c80, h2, h3, e1, c4, k1, k2, k3, hadd, hpadd, hsm, bne_self_eq_false, simprocAttr]
     exact hN
    | true =>
     have hadd := add_true x fl hP.fx hlx (pt H 0) (hx H (x.B fl :: .dead :: p.B fp :: (M ++ [ab]))) ⟨by rw [hx_get]; rfl⟩ a.off a.at_ a.size hok
     rw [hx_set, List.set_cons_zero] at hadd
     have hpadd := padd_true p fp hP.fp hpl (pt H 2) (hx H ((addI x a.off a.at_ a.size).B .uniq :: .dead :: p.B fp :: (M ++ [ab]))) ⟨by rw [hx_get]; rfl⟩ a.off a.at_ a.size (by rw [← hP.rel.ok]; exact hok)
     rw [hx_set, List.set_cons_succ, List.set_cons_succ, List.set_cons_zero] at hpadd
     have hPn := hP.add ha k3 k2 hok
     have hl' : (addI x a.off a.at_ a.size).l.length = x.l.length + 1 := by simp [addI]
     have hsm := hsame _ _ .uniq .own hPn (by omega)
     obtain ⟨x', p', fl', fp', N, r1, r2, r3, r4, hN⟩ := ih (s ++ [a]) _ _ .uniq .own (M ++ [ab]) (by rw [hs]; simp) hPn (by simp; omega) (by simp; omega)
     refine ⟨x', p', fl', fp', N, r1, r2, r3, r4, loop_step l_law8_play_0.eq_1 k_law8_play_0.eq_1 (by kernel_rfl) ?_⟩
     simp only [ab] at hadd hpadd hsm hN
     simp only [go_sem, e0, h1, c80, h2, h3, e1, c4, k1, k2, k3, hadd, hpadd, hsm, bne_self_eq_false, simprocAttr]
     exact hN
   ·have hsm := hsame x p fl fp hP (by omega)
    obtain ⟨x', p', fl', fp', N, r1, r2, r3, r4, hN⟩ := ih (s ++ [a]) x p fl fp (M ++ [ab]) (by rw [hs]; simp) hP (by simp; omega) (by simp; omega)
    refine ⟨x', p', fl', fp', N, r1, r2, r3, r4, loop_step l_law8_play_0.eq_1 k_law8_play_0.eq_1 (by kernel_rfl) ?_⟩
    simp only [ab] at hsm hN
    by_cases k1 : a.kind < 4
    ·by_cases k2 : a.size < 1099511627776
     ·have k3 : ¬ a.at_ < 1099511627776 := fun h => cc ⟨k1, k2, h⟩
      simp only [go_sem, e0, h1, c80, h2, h3, e1, c4, k1, k2, k3, hsm, simprocAttr]
      exact hN
     ·simp only [go_sem, e0, h1, c80, h2, h3, e1, c4, k1, k2, hsm, simprocAttr]
      exact hN
    ·simp only [go_sem, e0, h1, c80, h2, h3, e1, c4, k1, hsm, simprocAttr]
     exact hN
theorem play_spec (base every : Int) (l : List Ask) (hl : l.length < 70368744177664) (hI : ∀ a ∈ l, I64 a.off) (H : Heap) :
  W n_law8_play [.int .i64 base, .int .i64 every, .list 4 (l.map Ask.v) .ro] H = some (.bool true, H) := by
 have hnew := fun H => new_spec base every H
 cases hok : newOK base every with
 | false =>
  rw [hok] at hnew
  simp only [Bool.false_eq_true, if_false] at hnew
  unfold newOK at hok
  refine W_fn rfl rfl ?_
  by_cases c1 : base < 0
  ·simp only [go_sem, c_law8_play, hnew, c1, simprocAttr]
  ·by_cases c2 : base > 1099511627776
   ·simp only [go_sem, c_law8_play, hnew, c1, c2, simprocAttr]
   ·by_cases c3 : every < 1
    ·simp only [go_sem, c_law8_play, hnew, c1, c2, c3, simprocAttr]
    ·have c4 : every > 1073741824 := by simp only [c1, c2, c3] at hok; simpa using hok
     simp only [go_sem, c_law8_play, hnew, c1, c2, c3, c4, simprocAttr]
 | true =>
  have hrd' := hok
  rw [hok] at hnew
  simp only [if_true] at hnew
  unfold newOK at hok
  simp only [Bool.and_eq_true, decide_eq_true_eq] at hok
  obtain ⟨c1, c2, c3, c4⟩ := hok
  have hPB : PB ⟨base, every, []⟩ ⟨base, -1, every, 0, []⟩ .uniq .full := by
   refine ⟨⟨rfl, rfl, rfl, by show 0 ≤ base; omega, .inl ⟨rfl, rfl, rfl⟩⟩, rfl, .inr ⟨rfl, rfl⟩, IxInv.nil _ _ _ _, ⟨Int.le_refl 0, by show (0 : Int) ≤ 2199023255552; decide⟩, by show 1 ≤ every; omega, by simp⟩
  obtain ⟨x, p, fl, fp, N, r1, r2, r3, r4, hN⟩ := play_loop l hl hI base every H l [] ⟨base, every, []⟩ ⟨base, -1, every, 0, []⟩ .uniq .full [] rfl hPB (Nat.le_refl _) (by simp)
  simp only [Ix.B, Pl.B, List.map_nil, List.length_nil, show ((0 : Nat) : Int) = 0 from rfl] at hN
  simp only at r2 r3
  have hE : p.end_ ≤ 4611686018427387904 := by have := r1.e0; omega
  have hI64 := r1.inv.I64 hE
  have hel := ents_len x.l
  have hby := bytes_spec x fl r1.fx (by omega) hI64 (pt H 0) (hx H (x.B fl :: .dead :: p.B fp :: N)) ⟨by rw [hx_get]; rfl⟩
  rw [r2] at hby
  have hbI : ∀ e ∈ ents x.l, base ≤ e.1 ∧ e.1 ≤ 9223372036854775807 ∧ 0 ≤ e.2 ∧ e.2 ≤ 4611686018427387904 := by
   intro e he
   unfold ents at he
   obtain ⟨c, hc, rfl⟩ := List.mem_map.1 he
   have hc := (List.mem_filter.1 hc).1
   have h1 := r1.inv.be c hc
   have h2 := r1.offs c hc
   have h3 := r1.rel.base
   unfold I64 at h2
   simp only; omega
  obtain ⟨N2, hrd⟩ := read_good base every hrd' (ents x.l) (by omega) (r3 ▸ r1.inv.gap) hbI (hx H (x.B fl :: .dead :: p.B fp :: N))
  simp only [hx_hx, pt_hx, List.cons_append, List.length_cons, Nat.add_zero] at hrd
  have hE' : ents (rdX base every (ents x.l)).l = p.l := (ents_rd _).trans r1.rel.l
  have hsm := same_spec (rdX base every (ents x.l)) .uniq (rd_flag _ _ _) (by simp [rdX]; omega) (by
   intro a ha
   simp only [rdX] at ha
   obtain ⟨e, he, rfl⟩ := List.mem_map.1 ha
   have := hbI e he
   show I64 e.2
   unfold I64; omega) (pt H (N.length + 1 + 1 + 1)) (hx H (x.B fl :: .dead :: p.B fp :: (N ++ (rdX base every (ents x.l)).B .uniq :: N2))) ⟨by rw [hx_get, List.getElem?_cons_succ, List.getElem?_cons_succ, List.getElem?_cons_succ, mx_0]; rfl⟩
   p fp (by rcases r1.fp with h | ⟨h, _⟩ <;> simp [h]) (pt H 2) ⟨by rw [hx_get]; rfl⟩ (by show base = p.base; rw [← r1.rel.base, r2]) hE'
  generalize (rdX base every (ents x.l)).B .uniq = B2 at hrd hsm
  simp only [Ix.B, Pl.B] at hby hrd hsm
  refine W_fn rfl rfl ?_
  simp only [go_sem, c_law8_play, hnew, c1, c2, c3, c4, hN, hby, hrd, hsm, Ix.B, Pl.B, simprocAttr]
def atK (k : Int) : Nat → Int
 | 0 => 0
 | n + 1 => atK k n + (k * (n : Int)).tmod 23
def askI (k : Int) (i : Nat) : Ask := ⟨(i : Int).tmod 6, atK k i, (k * (i : Int)).tmod 23, 5 + ((i : Int) * k).tmod 7 + i⟩
def askL (k : Int) (n : Nat) : List Ask := (List.range n).map (askI k)
theorem tm_range (a m : Int) (h : 0 < m) (h0 : 0 ≤ a) : 0 ≤ a.tmod m ∧ a.tmod m < m := ⟨Int.tmod_nonneg m h0, Int.tmod_lt_of_pos a h⟩
theorem atK_range (k : Int) (h0 : 0 ≤ k) : ∀ n : Nat, 0 ≤ atK k n ∧ atK k n ≤ 22 * n
 | 0 => by simp [atK]
 | n + 1 => by
  have h := atK_range k h0 n
  have h2 := tm_range (k * (n : Int)) 23 (by decide) (Int.mul_nonneg h0 (by omega))
  unfold atK
  omega
theorem asks_loop (k : Int) (h0 : 0 ≤ k) (h1 : k ≤ 100) (H : Heap) (d : Nat) : ∀ (i : Nat) (fl : Fl), i + d = 60 → (fl = .own ∨ (fl = .full ∧ i = 0)) →
  loopA W loopW (.ghost (.kill k_law8_IndexNumbers_0) l_law8_IndexNumbers_0) [(1, .int .i64 k), (2, .list 4 ((askL k i).map Ask.v) fl), (3, .int .i64 (atK k i)), (4, .int .i64 (i : Nat))] H = some (.exit 2, [(1, .int .i64 k), (2, .list 4 ((askL k 60).map Ask.v) (if d = 0 then fl else .own))], H) := by
 induction d with
 | zero =>
  intro i fl hi hfl
  have : i = 60 := by omega
  subst this
  have c : ¬ (((60 : Nat) : Int) < 60) := by omega
  rw [if_pos rfl]
  refine loop_step l_law8_IndexNumbers_0.eq_1 k_law8_IndexNumbers_0.eq_1 (by kernel_rfl) ?_
  simp only [go_sem, c, simprocAttr]
 | succ d ih =>
  intro i fl hi hfl
  have c : ((i : Int) < 60) := by omega
  have hik0 : (0 : Int) ≤ (i : Int) * k := Int.mul_nonneg (by omega) h0
  have hik : (i : Int) * k ≤ 60 * 100 := Int.mul_le_mul (by omega) h1 h0 (by omega)
  have hki : k * (i : Int) = (i : Int) * k := Int.mul_comm _ _
  have ha := atK_range k h0 i
  have m7 := tm_range ((i : Int) * k) 7 (by decide) hik0
  have m23 := tm_range ((i : Int) * k) 23 (by decide) hik0
  have w1 : IntKind.i64.wrap ((i : Int) * k) = (i : Int) * k := wrap_id (by unfold I64; omega)
  have w2 : IntKind.i64.wrap (k * (i : Int)) = (i : Int) * k := by rw [hki]; exact w1
  have w3 : IntKind.i64.wrap (5 + ((i : Int) * k).tmod 7) = 5 + ((i : Int) * k).tmod 7 := wrap_id (by unfold I64; omega)
  have w4 : IntKind.i64.wrap (5 + ((i : Int) * k).tmod 7 + (i : Int)) = 5 + ((i : Int) * k).tmod 7 + (i : Int) := wrap_id (by unfold I64; omega)
  have w5 : IntKind.i64.wrap (atK k i + ((i : Int) * k).tmod 23) = atK k (i + 1) := by rw [wrap_id (by unfold I64; omega)]; rw [show atK k (i + 1) = atK k i + (k * (i : Int)).tmod 23 from rfl, hki]
  have n6 : ¬ ((6 : Int) = 0) := by decide
  have n7 : ¬ ((7 : Int) = 0) := by decide
  have n23 : ¬ ((23 : Int) = 0) := by decide
  have e6 : IntKind.i64.wrap ((i : Int) + 1) = ((i + 1 : Nat) : Int) := by rw [wrap_id (by unfold I64; omega)]; omega
  have e8 : (askL k i).map Ask.v ++ [.agg [.int .i64 ((i : Int).tmod 6), .int .i64 (atK k i), .int .i64 (((i : Int) * k).tmod 23), .int .i64 (5 + ((i : Int) * k).tmod 7 + (i : Int))]] = (askL k (i + 1)).map Ask.v := by
   unfold askL; rw [List.range_succ]; simp [askI, Ask.v, hki]
  have l6 : ((askL k i).map Ask.v).length = i := by simp [askL]
  have b1 : (i + 1) * 32 ≤ maxBytes := by simp only [maxBytes]; omega
  have h2 := ih (i + 1) .own (by omega) (.inl rfl)
  have hz : (if d = 0 then Fl.own else Fl.own) = Fl.own := by split <;> rfl
  rw [hz] at h2
  rw [if_neg (by omega)]
  generalize (askL k 60).map Ask.v = T at *
  generalize (askL k (i + 1)).map Ask.v = T2 at *
  generalize atK k (i + 1) = A2 at *
  refine loop_step l_law8_IndexNumbers_0.eq_1 k_law8_IndexNumbers_0.eq_1 (by kernel_rfl) ?_
  rcases hfl with rfl | ⟨rfl, rfl⟩
  ·generalize (askL k i).map Ask.v = T1 at *
   generalize atK k i = A1 at *
   simp only [go_sem, c, w1, w2, w3, w4, w5, n6, n7, n23, apO, l6, b1, e8, e6, simprocAttr]
   exact h2
  ·have b2 : (0 + 1) * 32 ≤ maxBytes := by decide
   simp only [Int.natCast_zero, Int.zero_mul, Int.mul_zero, Int.zero_tmod, Int.add_zero] at w1 w2 w3 w4 w5 e8 e6
   generalize (askL k 0).map Ask.v = T1 at *
   generalize atK k 0 = A1 at *
   simp only [go_sem, c, w1, w2, w3, w4, w5, n6, n7, n23, apF, l6, b2, e8, e6, Int.natCast_zero, Int.zero_mul, Int.mul_zero, Int.zero_tmod, Int.add_zero, simprocAttr]
   exact h2
theorem asks_I64 (k : Int) (h0 : 0 ≤ k) (h1 : k ≤ 100) (n : Nat) (hn : n ≤ 60) : ∀ a ∈ askL k n, I64 a.off := by
 intro a ha
 obtain ⟨i, hi, rfl⟩ := List.mem_map.1 ha
 have hi := List.mem_range.1 hi
 have m7 := tm_range ((i : Int) * k) 7 (by decide) (Int.mul_nonneg (by omega) h0)
 show I64 (5 + ((i : Int) * k).tmod 7 + i)
 unfold I64; omega
theorem plays30_loop (H : Heap) (d : Nat) : ∀ (k : Nat), 1 ≤ k → k + d = 30 → loopA W loopW (.ghost (.kill k_law8_IndexNumbers_1) l_law8_IndexNumbers_1) [(1, .int .i64 (k : Nat))] H = some (.exit 0, [], H) := by
 induction d with
 | zero =>
  intro k hk1 hk
  have : k = 30 := by omega
  subst this
  have c : ¬ (((30 : Nat) : Int) < 30) := by omega
  refine loop_step l_law8_IndexNumbers_1.eq_1 k_law8_IndexNumbers_1.eq_1 (by kernel_rfl) ?_
  simp only [go_sem, c, simprocAttr]
 | succ d ih =>
  intro k hk1 hk
  have c : ((k : Int) < 30) := by omega
  have e6 : IntKind.i64.wrap ((k : Int) + 1) = ((k + 1 : Nat) : Int) := by rw [wrap_id (by unfold I64; omega)]; omega
  have w1 : IntKind.i64.wrap ((k : Int) * 3) = (k : Int) * 3 := wrap_id (by unfold I64; omega)
  have w2 : IntKind.i64.wrap (1 + (k : Int) * 3) = 1 + (k : Int) * 3 := wrap_id (by unfold I64; omega)
  have w3 : IntKind.i64.wrap ((k : Int) - 3) = (k : Int) - 3 := wrap_id (by unfold I64; omega)
  have n4 : ¬ ((4 : Int) = 0) := by decide
  have h2 := asks_loop k (by omega) (by omega) H 60 0 .full (by omega) (.inr ⟨rfl, rfl⟩)
  rw [if_neg (by decide), show askL k 0 = [] from rfl, show atK k 0 = 0 from rfl] at h2
  simp only [List.map_nil, Int.natCast_zero] at h2
  have hI := asks_I64 k (by omega) (by omega) 60 (by omega)
  have hl : (askL k 60).length < 70368744177664 := by simp [askL]
  have t1 := fun b e H => play_spec b e (askL k 60) hl hI H
  have h3 := ih (k + 1) (by omega) (by omega)
  have u : AVal.underL 0 ((askL k 60).map Ask.v) = true := uL_map 0 Ask.v (fun _ => rfl) _
  generalize (askL k 60).map Ask.v = T at *
  refine loop_step l_law8_IndexNumbers_1.eq_1 k_law8_IndexNumbers_1.eq_1 (by kernel_rfl) ?_
  simp only [go_sem, c, h2, w1, w2, w3, n4, t1, e6, u, simprocAttr]
  exact h3
end Go.Abs
