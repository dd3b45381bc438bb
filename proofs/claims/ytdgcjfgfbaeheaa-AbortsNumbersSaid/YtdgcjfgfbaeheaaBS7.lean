import Derived.Test.YtdgcjfgfbaeheaaBS6
import Derived.Test.YtdgcjfgfbaeheaaBS5
import Derived.Test.YtdgcjfgfbaeheaaBS3
import Derived.Test.YtdgcjfgfbaeheaaB0
set_option linter.unusedVariables false
set_option linter.unusedSimpArgs false
namespace Go.Abs
open Go Go.RowKit
theorem rwithin_loop (l : List La) (hn : l.length ≤ 100000) (lo hi : Int) (f : Fl) (hf : f = .ro ∨ (f = .full ∧ l = [])) (H : Heap) (r : List La) : ∀ (p out : List La) (fl : Fl) (N : Heap), l = p ++ r → out.length ≤ p.length → (fl = .own ∨ (fl = .full ∧ out = [])) →
  ∃ N' fl', loopA W loopW (.ghost (.kill k_ref10_Within_0) l_ref10_Within_0) [(1, .int .i64 lo), (2, .int .i64 hi), (7, .list 3 (out.map laV) fl), (10, .list 3 (l.map laV) f), (11, .int .i64 (l.length : Nat)), (12, .int .i64 (p.length : Nat))] (hx H N) =
   some (.exit 0, [(7, .list 3 ((out ++ r.filter (inR2 lo hi)).map laV) fl')], hx H N') ∧ (fl' = .own ∨ (fl' = .full ∧ out ++ r.filter (inR2 lo hi) = [])) := by
 induction r with
 | nil =>
  intro p out fl N hp ho hfl
  rw [List.append_nil] at hp
  subst hp
  rw [List.filter_nil, List.append_nil]
  refine ⟨N, fl, ?_, hfl⟩
  have h1 : ¬ ((l.length : Int) < (l.length : Int)) := by omega
  refine loop_step l_ref10_Within_0.eq_1 k_ref10_Within_0.eq_1 (by kernel_rfl) ?_
  simp only [go_sem, h1, simprocAttr]
 | cons d r ih =>
  intro p out fl N hp ho hfl
  have hf0 : f = .ro := by
   rcases hf with h | ⟨_, h⟩
   ·exact h
   ·rw [hp] at h; simp at h
  subst hf0
  have hlen : l.length = p.length + (r.length + 1) := by rw [hp]; simp
  have h1 : ((p.length : Int) < (l.length : Int)) := by omega
  have e0 : (0 : Int) ≤ (p.length : Int) := by omega
  have e7 : ((p.length : Nat) : Int).toNat = p.length := by omega
  have e1 : (l.map laV)[p.length]? = some (.agg [.int .i64 d.1, .int .i64 d.2.1, .int .i64 d.2.2]) := by rw [hp]; simp [laV]
  have e6 : IntKind.i64.wrap ((p.length : Int) + 1) = ((p.length + 1 : Nat) : Int) := by rw [wrap_id (by unfold I64; omega)]; omega
  have n1 : ∀ x : Box, (N ++ [x])[N.length]? = some x := fun x => by simp
  have n2 : ∀ x z : Box, (N ++ [x]).set N.length z = N ++ [z] := fun x z => by simp
  have bb : (out.length + 1) * 24 ≤ maxBytes := by simp only [maxBytes]; omega
  have b0 : (0 + 1) * 24 ≤ maxBytes := by decide
  have e8 : out.map laV ++ [.agg [.int .i64 d.1, .int .i64 d.2.1, .int .i64 d.2.2]] = (out ++ [d]).map laV := by simp [laV]
  rw [List.filter_cons]
  have skip : inR2 lo hi d = false → ∃ N' fl', loopA W loopW (.ghost (.kill k_ref10_Within_0) l_ref10_Within_0) [(1, .int .i64 lo), (2, .int .i64 hi), (7, .list 3 (out.map laV) fl), (10, .list 3 (l.map laV) .ro), (11, .int .i64 (l.length : Nat)), (12, .int .i64 ((p.length + 1 : Nat) : Int))] (hx H (N ++ [.cells [.int .i64 d.1, .int .i64 d.2.1, .int .i64 d.2.2]])) =
   some (.exit 0, [(7, .list 3 ((out ++ r.filter (inR2 lo hi)).map laV) fl')], hx H N') ∧ (fl' = .own ∨ (fl' = .full ∧ out ++ r.filter (inR2 lo hi) = [])) := fun _ => by
   obtain ⟨N', fl', h2, h3⟩ := ih (p ++ [d]) out fl (N ++ [.cells [.int .i64 d.1, .int .i64 d.2.1, .int .i64 d.2.2]]) (by rw [hp]; simp) (by simp; omega) hfl
   simp only [List.length_append, List.length_cons, List.length_nil, Nat.zero_add] at h2
   exact ⟨N', fl', h2, h3⟩
  by_cases c1 : lo < hi
  ·by_cases c2 : d.2.1 < hi
   ·by_cases c3 : d.2.2 ≥ lo
    ·have hk : inR2 lo hi d = true := by simp [inR2, c1, c2, c3]
     rw [hk, if_pos rfl]
     obtain ⟨N', fl', h2, h3⟩ := ih (p ++ [d]) (out ++ [d]) .own (N ++ [.cells [.int .i64 d.1, .int .i64 d.2.1, .int .i64 d.2.2]]) (by rw [hp]; simp) (by simp; omega) (.inl rfl)
     rw [List.append_assoc, List.cons_append, List.nil_append] at h2 h3
     simp only [List.length_append, List.length_cons, List.length_nil, Nat.zero_add] at h2
     refine ⟨N', fl', ?_, h3⟩
     refine loop_step l_ref10_Within_0.eq_1 k_ref10_Within_0.eq_1 (by kernel_rfl) ?_
     rcases hfl with rfl | ⟨rfl, rfl⟩
     ·simp only [go_sem, h1, e0, e7, e1, n1, n2, c1, c2, c3, List.length_map, apO, bb, e8, e6, simprocAttr]
      exact h2
     ·simp only [List.map_nil, List.nil_append] at *
      simp only [go_sem, h1, e0, e7, e1, n1, n2, c1, c2, c3, List.length_nil, apF, b0, List.nil_append, e6, simprocAttr]
      rw [e8]
      exact h2
    ·have hk : inR2 lo hi d = false := by simp [inR2, c3]
     rw [hk, if_neg (by decide)]
     obtain ⟨N', fl', h2, h3⟩ := skip hk
     refine ⟨N', fl', ?_, h3⟩
     refine loop_step l_ref10_Within_0.eq_1 k_ref10_Within_0.eq_1 (by kernel_rfl) ?_
     simp only [go_sem, h1, e0, e7, e1, n1, n2, c1, c2, c3, e6, simprocAttr]
     exact h2
   ·have hk : inR2 lo hi d = false := by simp [inR2, c2]
    rw [hk, if_neg (by decide)]
    obtain ⟨N', fl', h2, h3⟩ := skip hk
    refine ⟨N', fl', ?_, h3⟩
    refine loop_step l_ref10_Within_0.eq_1 k_ref10_Within_0.eq_1 (by kernel_rfl) ?_
    simp only [go_sem, h1, e0, e7, e1, n1, n2, c1, c2, e6, simprocAttr]
    exact h2
  ·have hk : inR2 lo hi d = false := by simp [inR2, c1]
   rw [hk, if_neg (by decide)]
   obtain ⟨N', fl', h2, h3⟩ := skip hk
   refine ⟨N', fl', ?_, h3⟩
   refine loop_step l_ref10_Within_0.eq_1 k_ref10_Within_0.eq_1 (by kernel_rfl) ?_
   simp only [go_sem, h1, e0, e7, e1, n1, n2, c1, e6, simprocAttr]
   exact h2
theorem rwithin_spec (l : List La) (hn : l.length ≤ 100000) (lo hi : Int) (H : Heap) :
  ∃ f, W n_ref10_Within [.list 3 (l.map laV) .ro, .int .i64 lo, .int .i64 hi] H = some (.list 3 ((l.filter (inR2 lo hi)).map laV) f, H) ∧ (f = .own ∨ (f = .full ∧ l.filter (inR2 lo hi) = [])) := by
 obtain ⟨N, f, h, hf⟩ := rwithin_loop l hn lo hi .ro (.inl rfl) H l [] [] .full [] rfl (by simp) (.inr ⟨rfl, rfl⟩)
 simp only [List.length_nil, Int.natCast_zero, List.map_nil, List.nil_append] at h hf
 refine ⟨f, ?_, hf⟩
 generalize l.filter (inR2 lo hi) = R at *
 refine W_fn rfl rfl ?_
 rcases hf with rfl | ⟨rfl, rfl⟩
 ·have u := fun n => under_la n R
  simp only [go_sem, c_ref10_Within, List.length_map, h, u, simprocAttr]
 ·simp only [List.map_nil] at h ⊢
  simp only [go_sem, c_ref10_Within, List.length_map, h, simprocAttr]
  first | done | rfl
theorem start1_at (e : Int) (kc : Nat) (H : Heap) (hk : H[kc]? = some (.cells [.int .i64 e])) (x : La) :
  W n_aborts_Row_Start_1 [.agg [.int .i64 x.1, .int .i64 x.2.1, .int .i64 x.2.2], .ptr kc 0] H = some (.bool (decide (x.2.2 < e)), H) := by
 have gk := fun M => hx_old hk M
 refine W_fn rfl rfl ?_
 by_cases c : x.2.2 < e
 ·rw [decide_eq_true c]
  simp only [go_sem, c_aborts_Row_Start_1, gk, c, simprocAttr]
 ·rw [decide_eq_false c]
  simp only [go_sem, c_aborts_Row_Start_1, gk, c, simprocAttr]
theorem start1_spec (e : Int) (kc : Nat) (H : Heap) (hk : H[kc]? = some (.cells [.int .i64 e])) (N : Heap) (x : La) :
  W n_aborts_Row_Start_1 [.agg [.int .i64 x.1, .int .i64 x.2.1, .int .i64 x.2.2], .ptr kc 0] (hx H N) = some (.bool (decide (x.2.2 < e)), hx H N) :=
 start1_at e kc (hx H N) (hx_old hk N) x
theorem abstart_spec (l : List La) (hn : l.length ≤ 1000000) (fl : Fl) (hfl : RF l fl) (e : Int) (i : Nat) (H : Heap) (hi : Old H i (rwB l fl)) :
  W n_aborts_Row_Start [.ptr i 0, .int .i64 e] H = some (.tuple [], H.set i (rwB (l.filter fun d => !decide (d.2.2 < e)) fl)) := by
 have gi := hi.get
 have gs := hi.set
 have gi' := hi.get'
 have gs' := hi.set'
 unfold rwB at *
 rcases hfl with rfl | ⟨rfl, rfl⟩
 ·have td := delete_spec (fun d => decide (d.2.2 < e)) n_aborts_Row_Start_1 (pt H 0) (hx (H.set i (.cells [.any])) [.cells [.int .i64 e]]) l hn (fun N x => start1_spec e (pt H 0) _ (by rw [hx_getS]; rfl) N x)
  have u := fun m => under_la m (l.filter fun d => !decide (d.2.2 < e))
  generalize l.filter (fun d => !decide (d.2.2 < e)) = F at *
  refine W_fnS rfl rfl ?_
  simp only [go_sem, c_aborts_Row_Start, gi, gs, gi', gs', AVal.demote, td, u, simprocAttr]
  first | done | rfl
 ·have td := fun H => delete_nil n_aborts_Row_Start_1 (pt H 0) H
  simp only [List.filter_nil, List.map_nil] at *
  refine W_fnS rfl rfl ?_
  simp only [go_sem, c_aborts_Row_Start, gi, gs, gi', gs', AVal.demote, delete_nil, simprocAttr]
  first | done | rfl
theorem abOf_len (L : List Ba) (hL : ∀ b ∈ L, Fit b) (hn : L.length ≤ 1000) : (abOf L [] []).length ≤ L.length := by
 obtain ⟨_, _, _, _, h⟩ := abof_spec L (fun b hb => (hL b hb).ok) (fun b hb => by have := (rightE_small (hL b hb).right).1; omega) hn []
 exact h
theorem rows_spec (L : List Ba) (hL : ∀ b ∈ L, Fit b) (hn : L.length ≤ 1000) (hr : RowC 0 L) (H : Heap) : W n_law13_rows [.list 7 (L.map Ba.V) .ro] H = some (.bool true, H) := by
 obtain ⟨M, t1⟩ := fold_spec L (fun b hb => (hL b hb).ok) hn (hx H [])
 rw [hx_hx, List.nil_append, pt_hx, List.length_nil, Nat.zero_add, ← ab_eq 0 L (by decide) hL hr] at t1
 generalize (tabB (foldL L []) (foldF L [] .full) :: M) = K at *
 obtain ⟨N, fl, t2, hfl, hal⟩ := abof_spec L (fun b hb => (hL b hb).ok) (fun b hb => by have := (rightE_small (hL b hb).right).1; omega) hn (hx H K)
 rw [hx_hx, pt_hx, Nat.add_zero] at t2
 have hdl := abOf_len L hL hn
 have t3 := aball_spec (abOf L [] []) (by omega) fl hfl (pt H K.length) (hx H (K ++ rwB (abOf L [] []) fl :: N)) ⟨by rw [hx_get, List.getElem?_append_right (Nat.le_refl _), Nat.sub_self]; rfl⟩
 have t4 := fun H => dropped_self (abOf L [] []) (by omega) H
 have hdf : dFl (abOf L [] []) = .own ∨ dFl (abOf L [] []) = .full := by unfold dFl; split <;> simp
 generalize abOf L [] [] = D at *
 generalize dFl D = df at *
 rw [hx_set] at t3
 generalize (K ++ rwB D fl :: N).set K.length (rwB D .uniq) = K2 at *
 generalize (K ++ rwB D fl :: N) = K1 at *
 refine W_fn rfl rfl ?_
 rcases hdf with rfl | rfl
 all_goals simp only [go_sem, c_law13_rows, t1, t2, t3, t4, simprocAttr]
abbrev Ak := Int × La × Int
def akV (a : Ak) : AVal := .agg [.int .i64 a.1, .int .i64 a.2.1.1, .int .i64 a.2.1.2.1, .int .i64 a.2.1.2.2, .int .i64 a.2.2]
theorem abOK_aok {D : List La} {d : La} (h : abOK D d = true) : AOK d := by
 unfold abOK at h
 simp only [Bool.and_eq_true, decide_eq_true_eq] at h
 unfold AOK; omega
def AL (D : List La) : Prop := ∀ d ∈ D, AOK d
theorem AL.add {D : List La} (h : AL D) (d : La) : AL (abL D d) := by
 unfold abL
 split
 ·rename_i hk
  intro x hx
  rw [List.mem_append, List.mem_singleton] at hx
  rcases hx with hx | rfl
  ·exact h x hx
  ·exact abOK_aok hk
 ·exact h
theorem di_add {D : List La} (h : DI D) {d : La} (hd : I64 d.1 ∧ I64 d.2.1 ∧ I64 d.2.2) : DI (abL D d) := by
 unfold abL
 split
 ·intro x hx
  rw [List.mem_append, List.mem_singleton] at hx
  rcases hx with hx | rfl
  ·exact h x hx
  ·exact hd
 ·exact h
theorem AL.within {D : List La} (h : AL D) (lo hi : Int) : D.filter (inR2 lo hi) = D.filter (inR lo hi) := List.filter_congr fun d hd => (inR_eq (h d hd)).symm
theorem two_v (sz xs) {f : Fl} (h : f = .own ∨ f = .full) : ∃ v : AVal, v = .list sz xs f ∧ v.argOK = true ∧ v.strip = .list sz xs .ro := by
 rcases h with rfl | rfl
 ·exact ⟨_, rfl, rfl, rfl⟩
 ·exact ⟨_, rfl, rfl, rfl⟩
set_option maxHeartbeats 2000000 in
theorem play0_loop (l : List Ak) (hl : l.length ≤ 9223372036854775807) (hI : ∀ a ∈ l, I64 a.2.1.1 ∧ I64 a.2.1.2.1 ∧ I64 a.2.1.2.2) (lo hi : Int) (H : Heap) (m : Nat) : ∀ (i : Nat) (D : List La) (fl pf : Fl) (N : Heap), i + m = min l.length 60 → D.length ≤ i → AL D → DI D → RF D fl → PF D pf →
  ∃ D' fl' pf' N', loopA W loopW (.ghost (.kill k_law13_play_0) l_law13_play_0) [(0, .list 5 (l.map akV) .ro), (1, .int .i64 lo), (2, .int .i64 hi), (7, .ptr (pt H 0) 0), (8, .ptr (pt H 1) 0), (9, .int .i64 (i : Nat))] (hx H (rwB D fl :: plB D (lastM D) pf :: N)) =
   some (.exit 0, [(0, .list 5 (l.map akV) .ro), (7, .ptr (pt H 0) 0), (8, .ptr (pt H 1) 0)], hx H (rwB D' fl' :: plB D' (lastM D') pf' :: N')) ∧ D'.length ≤ 60 ∧ AL D' ∧ DI D' ∧ RF D' fl' ∧ PF D' pf' := by
 induction m with
 | zero =>
  intro i D fl pf N him hD hA hDI hfl hpf
  refine ⟨D, fl, pf, N, ?_, by omega, hA, hDI, hfl, hpf⟩
  generalize rwB D fl = B1 at *
  generalize plB D (lastM D) pf = B2 at *
  by_cases c : (i : Int) < (l.length : Int)
  ·have c2 : ¬ (i : Int) < 60 := by omega
   refine loop_step l_law13_play_0.eq_1 k_law13_play_0.eq_1 (by kernel_rfl) ?_
   simp only [go_sem, List.length_map, c, c2, simprocAttr]
  ·refine loop_step l_law13_play_0.eq_1 k_law13_play_0.eq_1 (by kernel_rfl) ?_
   simp only [go_sem, List.length_map, c, simprocAttr]
 | succ m ih =>
  intro i D fl pf N him hD hA hDI hfl hpf
  have c : (i : Int) < (l.length : Int) := by omega
  have c2 : (i : Int) < 60 := by omega
  have e0 : (0 : Int) ≤ (i : Int) := by omega
  have e7 : ((i : Nat) : Int).toNat = i := by omega
  have e6 : IntKind.i64.wrap ((i : Int) + 1) = ((i + 1 : Nat) : Int) := by rw [wrap_id (by unfold I64; omega)]; omega
  obtain ⟨⟨k, d, n⟩, ha⟩ : ∃ a, l[i]? = some a := ⟨_, List.getElem?_eq_getElem (by omega)⟩
  have e1 : (l.map akV)[i]? = some (.agg [.int .i64 k, .int .i64 d.1, .int .i64 d.2.1, .int .i64 d.2.2, .int .i64 n]) := by rw [List.getElem?_map, ha]; rfl
  have n1 : ∀ x : Box, (N ++ [x])[N.length]? = some x := fun x => by simp
  have n2 : ∀ x z : Box, (N ++ [x]).set N.length z = N ++ [z] := fun x z => by simp
  by_cases ck : k > 4
  ·obtain ⟨D', fl', pf', N', h, hh⟩ := ih (i + 1) D fl pf (N ++ [.cells [.int .i64 k, .int .i64 d.1, .int .i64 d.2.1, .int .i64 d.2.2, .int .i64 n]]) (by omega) (by omega) hA hDI hfl hpf
   refine ⟨D', fl', pf', N', ?_, hh⟩
   generalize rwB D fl = B1 at *
   generalize plB D (lastM D) pf = B2 at *
   generalize rwB D' fl' = B3 at *
   generalize plB D' (lastM D') pf' = B4 at *
   refine loop_step l_law13_play_0.eq_1 k_law13_play_0.eq_1 (by kernel_rfl) ?_
   simp only [go_sem, List.length_map, c, c2, e0, e7, e1, n1, n2, ck, e6, simprocAttr]
   exact h
  ·obtain ⟨A, hAk⟩ : ∃ A : Box, A = .cells [.int .i64 k, .int .i64 d.1, .int .i64 d.2.1, .int .i64 d.2.2, .int .i64 n] := ⟨_, rfl⟩
   have hpl : (if abOK D d = true then plB (D ++ [d]) d.2.2 .own else plB D (lastM D) pf) = plB (abL D d) (lastM (abL D d)) (if abOK D d = true then .own else pf) := by
    unfold abL
    split
    ·rw [lastM_snoc]
    ·rfl
   have hpf' : PF (abL D d) (if abOK D d = true then .own else pf) := by
    unfold abL
    split
    ·exact .inl rfl
    ·exact hpf
   have t1 := fun B M => abadd_spec D (by omega) fl hfl d (pt H 0) (hx H (rwB D fl :: B :: M)) ⟨by rw [hx_get]; rfl⟩
   have t2 := fun B M => padd_spec D (by omega) (lastM D) pf hpf d (pt H 1) (hx H (B :: plB D (lastM D) pf :: M)) ⟨by rw [hx_get]; rfl⟩
   rw [pl_ab, hpl] at t2
   have hA' := hA.add d
   have hDI' := di_add hDI (hI _ (List.mem_of_getElem? ha))
   simp only at hDI'
   have hfl' := @abF_ok D d fl hfl
   have hlen : (abL D d).length ≤ i + 1 := Nat.le_trans abL_len (by omega)
   generalize abL D d = D1 at *
   generalize abF d fl = fl1 at *
   generalize (if abOK D d = true then Fl.own else pf) = pf1 at *
   generalize abOK D d = ok at *
   have t3 := fun fl hfl B M => aball_spec D1 (by omega) fl hfl (pt H 0) (hx H (rwB D1 fl :: B :: M)) ⟨by rw [hx_get]; rfl⟩
   have t4 := fun H => dropped_self D1 (by omega) H
   have hru : RF D1 .uniq := .inl rfl
   obtain ⟨f5, t5, hf5⟩ := abwithin_spec D1 (by omega) .uniq hru lo hi (pt H 0) (hx H (rwB D1 .uniq :: plB D1 (lastM D1) pf1 :: (N ++ [A]))) ⟨by rw [hx_get]; rfl⟩
   obtain ⟨f6, t6, hf6⟩ := rwithin_spec D1 (by omega) lo hi (hx H (rwB D1 .uniq :: plB D1 (lastM D1) pf1 :: (N ++ [A])))
   obtain ⟨f8, t8, hf8⟩ := abwithin_spec D1 (by omega) .uniq hru d.2.1 n (pt H 0) (hx H (rwB D1 .uniq :: plB D1 (lastM D1) pf1 :: (N ++ [A]))) ⟨by rw [hx_get]; rfl⟩
   obtain ⟨f9, t9, hf9⟩ := rwithin_spec D1 (by omega) d.2.1 n (hx H (rwB D1 .uniq :: plB D1 (lastM D1) pf1 :: (N ++ [A])))
   rw [hA'.within] at t6 hf6 t9 hf9
   have t7 := fun H => dropped_self (D1.filter (inR lo hi)) (Nat.le_trans (List.length_filter_le _ _) (by omega)) H
   have t10 := fun H => dropped_self (D1.filter (inR d.2.1 n)) (Nat.le_trans (List.length_filter_le _ _) (by omega)) H
   simp only [hx_set, List.set_cons_succ, List.set_cons_zero] at t1 t2 t3 t5 t8
   have t3' := t3 fl1 hfl'
   obtain ⟨D', fl', pf', N', h, hh⟩ := ih (i + 1) D1 .uniq pf1 (N ++ [A]) (by omega) hlen hA' hDI' hru hpf'
   refine ⟨D', fl', pf', N', ?_, hh⟩
   clear t3 hh ih hDI' hDI hI
   generalize D1.filter (inR lo hi) = W1 at *
   generalize D1.filter (inR d.2.1 n) = W2 at *
   generalize rwB D' fl' = B3 at *
   generalize plB D' (lastM D') pf' = B4 at *
   generalize rwB D1 fl1 = R1 at *
   generalize rwB D1 .uniq = R2 at *
   generalize plB D (lastM D) pf = P0 at *
   generalize rwB D fl = R0 at *
   unfold laV at t1
   subst hAk
   unfold plB at *
   have f5' : f5 = .own ∨ f5 = .full := by rcases hf5 with h | ⟨h, _⟩ <;> simp [h]
   have f6' : f6 = .own ∨ f6 = .full := by rcases hf6 with h | ⟨h, _⟩ <;> simp [h]
   have f8' : f8 = .own ∨ f8 = .full := by rcases hf8 with h | ⟨h, _⟩ <;> simp [h]
   have f9' : f9 = .own ∨ f9 = .full := by rcases hf9 with h | ⟨h, _⟩ <;> simp [h]
   have p1' : pf1 = .own ∨ pf1 = .full := by rcases hpf' with h | ⟨h, _⟩ <;> simp [h]
   clear hf5 hf6 hf8 hf9 hpf'
   obtain ⟨v5, q5, a5, s5⟩ := two_v 3 (W1.map laV) f5'
   obtain ⟨v6, q6, a6, s6⟩ := two_v 3 (W1.map laV) f6'
   obtain ⟨v8, q8, a8, s8⟩ := two_v 3 (W2.map laV) f8'
   obtain ⟨v9, q9, a9, s9⟩ := two_v 3 (W2.map laV) f9'
   rw [← q5] at t5
   rw [← q6] at t6
   rw [← q8] at t8
   rw [← q9] at t9
   clear q5 q6 q8 q9
   simp only [AVal.argOK, AVal.isU] at a5 a6 a8 a9
   simp only [AVal.strip] at s5 s6 s8 s9
   refine loop_step l_law13_play_0.eq_1 k_law13_play_0.eq_1 (by kernel_rfl) ?_
   have bb : (ok != ok) = false := by cases ok <;> rfl
   rcases p1' with rfl | rfl
   all_goals
    simp only [go_sem, List.length_map, c, c2, e0, e7, e1, n1, n2, ck, t1, t2, bb, t3', t4, t5, t6, t7, t8, t9, t10, a5, a6, a8, a9, s5, s6, s8, s9, e6, simprocAttr]
    exact h
def keepA (k n : Int) (d : La) : Bool := if k = 5 then decide (d.2.2 < n) else if k = 6 then decide (d.2.2 ≥ n) else true
set_option maxHeartbeats 1000000 in
theorem play1_loop (l : List Ak) (i : Nat) (k : Int) (d0 : La) (n : Int) (ha : l[i]? = some (k, d0, n)) (hl : l.length ≤ 9223372036854775807) (D : List La) (hn : D.length ≤ 1000) (fD : Fl) (hfD : fD = .ro ∨ (fD = .full ∧ D = [])) (X7 X8 : AVal) (H : Heap) (r : List La) :
  ∀ (p out : List La) (fo : Fl) (N : Heap), D = p ++ r → out.length ≤ p.length → PF out fo →
  ∃ X fo', loopA W loopW (.ghost (.kill k_law13_play_1) l_law13_play_1) [(0, .list 5 (l.map akV) .ro), (7, X7), (8, X8), (11, .int .i64 (i : Nat)), (12, .list 3 (out.map laV) fo), (120, .list 3 (D.map laV) fD), (121, .int .i64 (D.length : Nat)), (122, .int .i64 (p.length : Nat))] (hx H N) =
   some (.exit 4, [(0, .list 5 (l.map akV) .ro), (7, X7), (8, X8), (11, .int .i64 (i : Nat)), (12, .list 3 ((out ++ r.filter (keepA k n)).map laV) fo')], hx H (N ++ X)) ∧ PF (out ++ r.filter (keepA k n)) fo' := by
 have hil : i < l.length := (List.getElem?_eq_some_iff.1 ha).1
 have i1 : (i : Int) < (l.length : Int) := by omega
 have i0 : (0 : Int) ≤ (i : Int) := by omega
 have i7 : ((i : Nat) : Int).toNat = i := by omega
 have ia : (l.map akV)[i]? = some (.agg [.int .i64 k, .int .i64 d0.1, .int .i64 d0.2.1, .int .i64 d0.2.2, .int .i64 n]) := by rw [List.getElem?_map, ha]; rfl
 induction r with
 | nil =>
  intro p out fo N hp ho hfo
  rw [List.append_nil] at hp
  subst hp
  rw [List.filter_nil, List.append_nil]
  refine ⟨[], fo, ?_, hfo⟩
  rw [List.append_nil]
  have h1 : ¬ ((D.length : Int) < (D.length : Int)) := by omega
  refine loop_step l_law13_play_1.eq_1 k_law13_play_1.eq_1 (by kernel_rfl) ?_
  simp only [go_sem, h1, simprocAttr]
 | cons d r ih =>
  intro p out fo N hp ho hfo
  have hf0 : fD = .ro := by
   rcases hfD with h | ⟨_, h⟩
   ·exact h
   ·rw [hp] at h; simp at h
  subst hf0
  have hlen : D.length = p.length + (r.length + 1) := by rw [hp]; simp
  have h1 : ((p.length : Int) < (D.length : Int)) := by omega
  have e0 : (0 : Int) ≤ (p.length : Int) := by omega
  have e7 : ((p.length : Nat) : Int).toNat = p.length := by omega
  have e1 : (D.map laV)[p.length]? = some (.agg [.int .i64 d.1, .int .i64 d.2.1, .int .i64 d.2.2]) := by rw [hp]; simp [laV]
  have e6 : IntKind.i64.wrap ((p.length : Int) + 1) = ((p.length + 1 : Nat) : Int) := by rw [wrap_id (by unfold I64; omega)]; omega
  have n1 : ∀ x : Box, (N ++ [x])[N.length]? = some x := fun x => by simp
  have n2 : ∀ x z : Box, (N ++ [x]).set N.length z = N ++ [z] := fun x z => by simp
  have bb : (out.length + 1) * 24 ≤ maxBytes := by simp only [maxBytes]; omega
  have b0 : (0 + 1) * 24 ≤ maxBytes := by decide
  have e8 : out.map laV ++ [.agg [.int .i64 d.1, .int .i64 d.2.1, .int .i64 d.2.2]] = (out ++ [d]).map laV := by simp [laV]
  have key : ∀ out' fo', out' = out ++ (if keepA k n d = true then [d] else []) → PF out' fo' → ∃ X fo'', loopA W loopW (.ghost (.kill k_law13_play_1) l_law13_play_1) [(0, .list 5 (l.map akV) .ro), (7, X7), (8, X8), (11, .int .i64 (i : Nat)), (12, .list 3 (out'.map laV) fo'), (120, .list 3 (D.map laV) .ro), (121, .int .i64 (D.length : Nat)), (122, .int .i64 ((p.length + 1 : Nat) : Int))] (hx H (N ++ [.cells [.int .i64 d.1, .int .i64 d.2.1, .int .i64 d.2.2]])) =
   some (.exit 4, [(0, .list 5 (l.map akV) .ro), (7, X7), (8, X8), (11, .int .i64 (i : Nat)), (12, .list 3 ((out ++ (d :: r).filter (keepA k n)).map laV) fo'')], hx H (N ++ X)) ∧ PF (out ++ (d :: r).filter (keepA k n)) fo'' := by
   intro out' fo' ho' hfo'
   obtain ⟨X, fo'', h2, h3⟩ := ih (p ++ [d]) out' fo' (N ++ [.cells [.int .i64 d.1, .int .i64 d.2.1, .int .i64 d.2.2]]) (by rw [hp]; simp) (by rw [ho']; split <;> simp <;> omega) hfo'
   have e : out' ++ r.filter (keepA k n) = out ++ (d :: r).filter (keepA k n) := by
    rw [ho', List.filter_cons, List.append_assoc]
    split <;> rfl
   rw [e, List.append_assoc] at h2
   rw [e] at h3
   simp only [List.length_append, List.length_cons, List.length_nil, Nat.zero_add] at h2
   exact ⟨_, fo'', h2, h3⟩
  cases hk : keepA k n d with
  | false =>
   rw [hk] at key
   obtain ⟨X, fo', h2, h3⟩ := key out fo (by simp) hfo
   refine ⟨X, fo', ?_, h3⟩
   generalize out ++ (d :: r).filter (keepA k n) = R at *
   unfold keepA at hk
   refine loop_step l_law13_play_1.eq_1 k_law13_play_1.eq_1 (by kernel_rfl) ?_
   by_cases k5 : k = 5
   ·subst k5
    rw [if_pos rfl] at hk
    have c1 : ¬ d.2.2 < n := by simpa using hk
    have c2 : ¬ ((5 : Int) < 5) := by decide
    have c3 : ¬ ((5 : Int) > 6) := by decide
    have c4 : ¬ ((5 : Int) = 6) := by decide
    simp only [go_sem, h1, e0, e7, e1, n1, n2, i1, i0, i7, ia, List.length_map, c1, c2, c3, c4, e6, simprocAttr]
    exact h2
   ·rw [if_neg k5] at hk
    by_cases k6 : k = 6
    ·subst k6
     rw [if_pos rfl] at hk
     have c1 : ¬ d.2.2 ≥ n := by simpa using hk
     have c2 : ¬ ((6 : Int) < 5) := by decide
     have c3 : ¬ ((6 : Int) > 6) := by decide
     have c4 : ¬ ((6 : Int) = 5) := by decide
     simp only [go_sem, h1, e0, e7, e1, n1, n2, i1, i0, i7, ia, List.length_map, c1, c2, c3, c4, e6, simprocAttr]
     exact h2
    ·rw [if_neg k6] at hk; cases hk
  | true =>
   rw [hk] at key
   obtain ⟨X, fo', h2, h3⟩ := key (out ++ [d]) .own (by simp) (.inl rfl)
   refine ⟨X, fo', ?_, h3⟩
   generalize out ++ (d :: r).filter (keepA k n) = R at *
   unfold keepA at hk
   refine loop_step l_law13_play_1.eq_1 k_law13_play_1.eq_1 (by kernel_rfl) ?_
   by_cases k5 : k = 5
   ·subst k5
    rw [if_pos rfl] at hk
    have c1 : d.2.2 < n := by simpa using hk
    rcases hfo with rfl | ⟨rfl, rfl⟩
    ·simp only [go_sem, h1, e0, e7, e1, n1, n2, i1, i0, i7, ia, List.length_map, c1, apO, bb, e8, e6, simprocAttr]
     exact h2
    ·simp only [List.map_nil, List.nil_append] at *
     simp only [go_sem, h1, e0, e7, e1, n1, n2, i1, i0, i7, ia, List.length_map, c1, apF, List.length_nil, b0, List.nil_append, e6, simprocAttr]
     rw [e8]; exact h2
   ·rw [if_neg k5] at hk
    by_cases k6 : k = 6
    ·subst k6
     rw [if_pos rfl] at hk
     have c1 : d.2.2 ≥ n := by simpa using hk
     have c4 : ¬ ((6 : Int) = 5) := by decide
     rcases hfo with rfl | ⟨rfl, rfl⟩
     ·simp only [go_sem, h1, e0, e7, e1, n1, n2, i1, i0, i7, ia, List.length_map, c1, c4, apO, bb, e8, e6, simprocAttr]
      exact h2
     ·simp only [List.map_nil, List.nil_append] at *
      simp only [go_sem, h1, e0, e7, e1, n1, n2, i1, i0, i7, ia, List.length_map, c1, c4, apF, List.length_nil, b0, List.nil_append, e6, simprocAttr]
      rw [e8]; exact h2
    ·by_cases k4 : k < 5
     ·rcases hfo with rfl | ⟨rfl, rfl⟩
      ·simp only [go_sem, h1, e0, e7, e1, n1, n2, i1, i0, i7, ia, List.length_map, k5, k6, k4, apO, bb, e8, e6, simprocAttr]
       exact h2
      ·simp only [List.map_nil, List.nil_append] at *
       simp only [go_sem, h1, e0, e7, e1, n1, n2, i1, i0, i7, ia, List.length_map, k5, k6, k4, apF, List.length_nil, b0, List.nil_append, e6, simprocAttr]
       rw [e8]; exact h2
     ·have k7 : k > 6 := by omega
      rcases hfo with rfl | ⟨rfl, rfl⟩
      ·simp only [go_sem, h1, e0, e7, e1, n1, n2, i1, i0, i7, ia, List.length_map, k5, k6, k4, k7, apO, bb, e8, e6, simprocAttr]
       exact h2
      ·simp only [List.map_nil, List.nil_append] at *
       simp only [go_sem, h1, e0, e7, e1, n1, n2, i1, i0, i7, ia, List.length_map, k5, k6, k4, k7, apF, List.length_nil, b0, List.nil_append, e6, simprocAttr]
       rw [e8]; exact h2
theorem keep5 (D : List La) (n : Int) : D.filter (keepA 5 n) = D.filter (fun d => !decide (d.2.2 ≥ n)) := by
 refine List.filter_congr fun d _ => ?_
 unfold keepA
 rw [if_pos rfl]
 by_cases c : d.2.2 < n
 ·have : ¬ d.2.2 ≥ n := by omega
  simp [c, this]
 ·have : d.2.2 ≥ n := by omega
  simp [c, this]
theorem keep6 (D : List La) (n : Int) : D.filter (keepA 6 n) = D.filter (fun d => !decide (d.2.2 < n)) := by
 refine List.filter_congr fun d _ => ?_
 unfold keepA
 rw [if_neg (by decide), if_pos rfl]
 by_cases c : d.2.2 < n
 ·have : ¬ d.2.2 ≥ n := by omega
  simp [c, this]
 ·have : d.2.2 ≥ n := by omega
  simp [c, this]
theorem keepO (D : List La) (k n : Int) (h5 : k ≠ 5) (h6 : k ≠ 6) : D.filter (keepA k n) = D := by
 refine List.filter_eq_self.2 fun d _ => ?_
 unfold keepA
 rw [if_neg h5, if_neg h6]
theorem RF.filter {D : List La} {fl : Fl} (h : RF D fl) (p : La → Bool) : RF (D.filter p) fl := by
 rcases h with rfl | ⟨rfl, rfl⟩
 ·exact .inl rfl
 ·exact .inr ⟨rfl, rfl⟩
set_option maxHeartbeats 2000000 in
theorem play2_loop (l : List Ak) (hl : l.length ≤ 9223372036854775807) (la : Int) (H : Heap) (m : Nat) : ∀ (i : Nat) (D : List La) (fl pf : Fl) (N : Heap), i + m = min l.length 60 → D.length ≤ 60 → RF D fl → PF D pf →
  ∃ M, loopA W loopW (.ghost (.kill k_law13_play_2) l_law13_play_2) [(0, .list 5 (l.map akV) .ro), (7, .ptr (pt H 0) 0), (8, .ptr (pt H 1) 0), (11, .int .i64 (i : Nat))] (hx H (rwB D fl :: plB D la pf :: N)) = some (.exit 2, [], hx H M) := by
 induction m with
 | zero =>
  intro i D fl pf N him hD hfl hpf
  refine ⟨rwB D fl :: plB D la pf :: N, ?_⟩
  generalize rwB D fl = B1 at *
  generalize plB D la pf = B2 at *
  by_cases c : (i : Int) < (l.length : Int)
  ·have c2 : ¬ (i : Int) < 60 := by omega
   refine loop_step l_law13_play_2.eq_1 k_law13_play_2.eq_1 (by kernel_rfl) ?_
   simp only [go_sem, List.length_map, c, c2, simprocAttr]
   first | done | rfl
  ·refine loop_step l_law13_play_2.eq_1 k_law13_play_2.eq_1 (by kernel_rfl) ?_
   simp only [go_sem, List.length_map, c, simprocAttr]
   first | done | rfl
 | succ m ih =>
  intro i D fl pf N him hD hfl hpf
  have c : (i : Int) < (l.length : Int) := by omega
  have c2 : (i : Int) < 60 := by omega
  have e0 : (0 : Int) ≤ (i : Int) := by omega
  have e7 : ((i : Nat) : Int).toNat = i := by omega
  have e6 : IntKind.i64.wrap ((i : Int) + 1) = ((i + 1 : Nat) : Int) := by rw [wrap_id (by unfold I64; omega)]; omega
  obtain ⟨⟨k, d, n⟩, ha⟩ : ∃ a, l[i]? = some a := ⟨_, List.getElem?_eq_getElem (by omega)⟩
  have e1 : (l.map akV)[i]? = some (.agg [.int .i64 k, .int .i64 d.1, .int .i64 d.2.1, .int .i64 d.2.2, .int .i64 n]) := by rw [List.getElem?_map, ha]; rfl
  have p1 := fun fD hfD => play1_loop l i k d n ha hl D (by omega) fD hfD (.ptr (pt H 0) 0) (.ptr (pt H 1) 0) H D [] [] .full (rwB D fl :: plB D la pf :: N) rfl (by simp) (.inr ⟨rfl, rfl⟩)
  obtain ⟨fD, hfD, hsh⟩ : ∃ fD : Fl, (fD = .ro ∨ (fD = .full ∧ D = [])) ∧ (pf = .own ∧ fD = .ro ∨ pf = .full ∧ fD = .full) := by
   rcases hpf with rfl | ⟨rfl, rfl⟩
   ·exact ⟨.ro, .inl rfl, .inl ⟨rfl, rfl⟩⟩
   ·exact ⟨.full, .inr ⟨rfl, rfl⟩, .inr ⟨rfl, rfl⟩⟩
  obtain ⟨X, fo, h1, hfo⟩ := p1 fD hfD
  simp only [List.length_nil, Int.natCast_zero, List.map_nil, List.nil_append, List.cons_append] at h1 hfo
  have hlen : (D.filter (keepA k n)).length ≤ 60 := Nat.le_trans (List.length_filter_le _ _) hD
  have hD1 : ∀ fl1, RF (D.filter (keepA k n)) fl1 → ∃ M, loopA W loopW (.ghost (.kill k_law13_play_2) l_law13_play_2) [(0, .list 5 (l.map akV) .ro), (7, .ptr (pt H 0) 0), (8, .ptr (pt H 1) 0), (11, .int .i64 ((i + 1 : Nat) : Int))] (hx H (rwB (D.filter (keepA k n)) fl1 :: plB (D.filter (keepA k n)) la fo :: (N ++ X))) = some (.exit 2, [], hx H M) :=
   fun fl1 h => ih (i + 1) (D.filter (keepA k n)) fl1 fo (N ++ X) (by omega) hlen h hfo
  have t1 := fun B => abcut_spec D (by omega) fl hfl n (pt H 0) (hx H (rwB D fl :: B :: (N ++ X))) ⟨by rw [hx_get]; rfl⟩
  have t2 := fun B => abstart_spec D (by omega) fl hfl n (pt H 0) (hx H (rwB D fl :: B :: (N ++ X))) ⟨by rw [hx_get]; rfl⟩
  have t3 := fun fl1 (h : RF (D.filter (keepA k n)) fl1) B => aball_spec (D.filter (keepA k n)) (by omega) fl1 h (pt H 0) (hx H (rwB (D.filter (keepA k n)) fl1 :: B :: (N ++ X))) ⟨by rw [hx_get]; rfl⟩
  have t4 := fun H => dropped_self (D.filter (keepA k n)) (by omega) H
  simp only [hx_set, List.set_cons_zero] at t1 t2 t3
  have tf : RF (D.filter (keepA k n)) fl := hfl.filter _
  have t3' := t3 fl tf
  obtain ⟨M, hM⟩ := hD1 .uniq (.inl rfl)
  refine ⟨M, ?_⟩
  have hfo' : fo = .own ∨ fo = .full := by rcases hfo with h | ⟨h, _⟩ <;> simp [h]
  clear hD1 t3 tf p1
  by_cases k5 : k = 5
  ·subst k5
   rw [← keep5] at t1
   have c6 : ¬ ((5 : Int) = 6) := by decide
   generalize D.filter (keepA 5 n) = D1 at *
   generalize rwB D1 fl = R1 at *
   generalize rwB D1 .uniq = R2 at *
   generalize rwB D fl = R0 at *
   unfold plB at *
   refine loop_step l_law13_play_2.eq_1 k_law13_play_2.eq_1 (by kernel_rfl) ?_
   rcases hfo' with rfl | rfl <;> rcases hsh with ⟨rfl, rfl⟩ | ⟨rfl, rfl⟩
   all_goals
    simp only [go_sem, List.length_map, c, c2, e0, e7, e1, h1, t1, t3', t4, c6, e6, simprocAttr]
    exact hM
  ·by_cases k6 : k = 6
   ·subst k6
    rw [← keep6] at t2
    have c5 : ¬ ((6 : Int) = 5) := by decide
    generalize D.filter (keepA 6 n) = D1 at *
    generalize rwB D1 fl = R1 at *
    generalize rwB D1 .uniq = R2 at *
    generalize rwB D fl = R0 at *
    unfold plB at *
    refine loop_step l_law13_play_2.eq_1 k_law13_play_2.eq_1 (by kernel_rfl) ?_
    rcases hfo' with rfl | rfl <;> rcases hsh with ⟨rfl, rfl⟩ | ⟨rfl, rfl⟩
    all_goals
     simp only [go_sem, List.length_map, c, c2, e0, e7, e1, h1, t2, t3', t4, c5, e6, simprocAttr]
     exact hM
   ·have hke := keepO D k n k5 k6
    generalize D.filter (keepA k n) = F at *
    obtain rfl : D = F := hke.symm
    generalize rwB D fl = R0 at *
    generalize rwB D .uniq = R2 at *
    unfold plB at *
    refine loop_step l_law13_play_2.eq_1 k_law13_play_2.eq_1 (by kernel_rfl) ?_
    rcases hfo' with rfl | rfl <;> rcases hsh with ⟨rfl, rfl⟩ | ⟨rfl, rfl⟩
    all_goals
     simp only [go_sem, List.length_map, c, c2, e0, e7, e1, h1, t3', t4, k5, k6, e6, simprocAttr]
     exact hM
set_option maxHeartbeats 2000000 in
theorem play_spec (l : List Ak) (hl : l.length ≤ 9223372036854775807) (hI : ∀ a ∈ l, I64 a.2.1.1 ∧ I64 a.2.1.2.1 ∧ I64 a.2.1.2.2) (lo hi : Int) (H : Heap) :
  W n_law13_play [.list 5 (l.map akV) .ro, .int .i64 lo, .int .i64 hi] H = some (.bool true, H) := by
 obtain ⟨D, fl, pf, N, h0, hD, hA, hDI, hfl, hpf⟩ := play0_loop l hl hI lo hi H (min l.length 60) 0 [] .full .full [] (by omega) (by simp) (by intro d h; cases h) (by intro d h; cases h) (.inr ⟨rfl, rfl⟩) (.inr ⟨rfl, rfl⟩)
 obtain ⟨M, h2⟩ := play2_loop l hl (lastM D) H (min l.length 60) 0 D .uniq pf N (by omega) hD (.inl rfl) hpf
 have t1 := abnew_spec (hx H [])
 rw [hx_hx, pt_hx, List.nil_append, List.length_nil, Nat.zero_add] at t1
 have t2 := abbytes_spec D hDI (by omega) fl hfl (pt H 0) (hx H (rwB D fl :: plB D (lastM D) pf :: N)) ⟨by rw [hx_get]; rfl⟩
 rw [hx_set, List.set_cons_zero] at t2
 have t3 := pbytes_spec D hDI (by omega) (lastM D) pf hpf (pt H 1) (hx H (rwB D .uniq :: plB D (lastM D) pf :: N)) ⟨by rw [hx_get]; rfl⟩
 have hb := encD_bytesL hDI (by omega)
 have hle : (sealE (encD D)).length < 140737488355328 := by
  have h1 : (encD D).length ≤ 10 + 30 * D.length := by
   unfold encD
   have := pN_len ((D.length : Nat) : Int)
   have := encR_len D
   rw [List.length_append]; omega
  have h2 : (sealE (encD D)).length = 4 + (encD D).length := by unfold sealE; simp [le4]; omega
  omega
 have t4 := fun H => reads_spec (sealE (encD D)) (sealE_bytes hb) hle H
 have la0 : lastM [] = -1 := rfl
 rw [la0] at h0
 generalize hS : sealE (encD D) = S at *
 generalize lastM D = la at *
 generalize rwB D fl = R0 at *
 generalize rwB D .uniq = R1 at *
 generalize plB D la pf = P0 at *
 unfold rwB plB at h0
 simp only [List.map_nil, Int.natCast_zero] at h0 h2
 clear hle hb hS
 refine W_fn rfl rfl ?_
 simp only [go_sem, c_law13_play, List.length_map, t1, h0, t2, t3, t4, h2, simprocAttr]
theorem wrap_I64 (n : Int) : I64 (IntKind.i64.wrap n) := by rw [IntKind.wrap_i64]; unfold I64; omega
theorem bits_I64 (op a b) : I64 (bits op .i64 a b) := by unfold bits; exact wrap_I64 _
theorem mx_I64 {a b : Int} (ha : I64 a) (hb : I64 b) : I64 (mx a b) := by unfold mx; split <;> assumption
abbrev AkI (a : Ak) : Prop := I64 a.2.1.1 ∧ I64 a.2.1.2.1 ∧ I64 a.2.1.2.2
abbrev atQ (n at' : Int) : Int := IntKind.i64.wrap (at' + bits .and .i64 n 7)
theorem zI64 : I64 0 := by unfold I64; omega
theorem thaw_v (v : Nat) (Xs : List AVal) (e : Env) (H : Heap) (N : Heap) (h1 : Env.get e v = .list 1 Xs .uniq) :
  agh (.thaw v) e (hx H N) = some (e.put v (.lbox (pt H N.length)), hx H (N ++ [.arr 1 Xs])) := by
 simp only [agh, h1]
 unfold hx pt
 rw [List.append_assoc, List.length_append]
theorem back_v (v : Nat) (Xs : List AVal) (e : Env) (H : Heap) (N : Heap) (h1 : Env.get e v = .lbox (pt H N.length)) :
  agh (.back v) e (hx H (N ++ [.arr 1 Xs])) = some (e.put v (.list 1 Xs .uniq), hx H (N ++ [.dead])) := by
 have g : (hx H (N ++ [.arr 1 Xs]))[pt H N.length]? = some (.arr 1 Xs) := by rw [hx_get]; simp
 have s : (hx H (N ++ [.arr 1 Xs])).set (pt H N.length) .dead = hx H (N ++ [.dead]) := by rw [hx_set]; simp
 simp only [agh, h1, g, s]
theorem freeze_v (v : Nat) (Xs : List AVal) (e : Env) (H : Heap) (h1 : Env.get e v = .list 1 Xs .uniq) :
  agh (.freeze v) e H = some (e.put v (.list 1 Xs .own), H) := by
 simp only [agh, h1]
theorem ix_v (k : Nat) (Xs : List AVal) (hk : k < Xs.length) (H N : Heap) :
  ev W (.ixAddr 1) [.lbox (pt H N.length), .int .i64 (k : Nat)] (hx H (N ++ [.arr 1 Xs])) = some (.eptr (pt H N.length) k 0, hx H (N ++ [.arr 1 Xs])) := by
 have g : (hx H (N ++ [.arr 1 Xs]))[pt H N.length]? = some (.arr 1 Xs) := by rw [hx_get]; simp
 simp only [ev, g]
 rw [if_pos (by refine ⟨?_, ?_, ?_⟩ <;> first | trivial | omega)]
 simp
theorem ld_v (k : Nat) (xs : List Int) (hk : k < xs.length) (H N : Heap) :
  evLoad false 1 false (.eptr (pt H N.length) k 0) (hx H (N ++ [.arr 1 (ints .u8 xs)])) = some (.int .u8 (xs.getD k 0), hx H (N ++ [.arr 1 (ints .u8 xs)])) := by
 have g : (hx H (N ++ [.arr 1 (ints .u8 xs)]))[pt H N.length]? = some (.arr 1 (ints .u8 xs)) := by rw [hx_get]; simp
 have g2 := getD_at (p := xs) k hk
 simp only [evLoad, g, g2, Option.bind_some]
 rfl
theorem st_v (k : Nat) (xs : List Int) (v : Int) (hk : k < xs.length) (H N : Heap) :
  evStore 1 (.eptr (pt H N.length) k 0) (.int .u8 v) (hx H (N ++ [.arr 1 (ints .u8 xs)])) = some (.tuple [], hx H (N ++ [.arr 1 (ints .u8 (xs.set k v))])) := by
 have g : (hx H (N ++ [.arr 1 (ints .u8 xs)]))[pt H N.length]? = some (.arr 1 (ints .u8 xs)) := by rw [hx_get]; simp
 have g2 := getD_at (p := xs) k hk
 have s : ∀ B, (hx H (N ++ [.arr 1 (ints .u8 xs)])).set (pt H N.length) B = hx H (N ++ [B]) := fun B => by rw [hx_set]; simp
 unfold evStore
 rw [if_pos (by simp [AVal.flat, AVal.share0, AVal.one])]
 simp only [g, g2]
 rw [if_pos (by simp [AVal.cells, AVal.flat, AVal.argOK, AVal.isU]), s]
 simp [AVal.withCells, AVal.cells, AVal.flat, AVal.share0, AVal.strip, overwrite, List.map_set]
theorem apU (xs : List AVal) (h : xs.length * 1 ≤ maxBytes) : evAppend 1 1 true (.list 1 [] .full) xs = some (.list 1 xs .uniq) := by
 simp only [evAppend]
 rw [if_pos (by simpa using h)]
 rfl
def tapeL13 (k : Int) (n : Nat) : List Int := (List.range n).map fun (i : Nat) => ((i : Int) * (i : Int) * 7 + k * 43 + (i : Int) * k).tmod 211
theorem tape_loop13 (k : Int) (h0 : 0 ≤ k) (h1 : k ≤ 100) (H : Heap) (d : Nat) : ∀ (i : Nat) (fl : Fl), i + d = 400 → (fl = .own ∨ (fl = .full ∧ i = 0)) →
  loopA W loopW (.ghost (.kill k_law13_tape_0) l_law13_tape_0) [(0, .int .i64 k), (3, .list 1 (ints .i64 (tapeL13 k i)) fl), (4, .int .i64 (i : Nat))] H = some (.exit 0, [(3, .list 1 (ints .i64 (tapeL13 k 400)) (if d = 0 then fl else .own))], H) := by
 induction d with
 | zero =>
  intro i fl hi hfl
  have : i = 400 := by omega
  subst this
  have c : ¬ (((400 : Nat) : Int) < 400) := by omega
  rw [if_pos rfl]
  refine loop_step l_law13_tape_0.eq_1 k_law13_tape_0.eq_1 (by kernel_rfl) ?_
  simp only [go_sem, c, simprocAttr]
 | succ d ih =>
  intro i fl hi hfl
  have c : ((i : Int) < 400) := by omega
  have hii0 : (0 : Int) ≤ (i : Int) * i := Int.mul_nonneg (by omega) (by omega)
  have hii : (i : Int) * i ≤ 400 * 400 := Int.mul_le_mul (by omega) (by omega) (by omega) (by omega)
  have hik0 : (0 : Int) ≤ (i : Int) * k := Int.mul_nonneg (by omega) h0
  have hik : (i : Int) * k ≤ 400 * 100 := Int.mul_le_mul (by omega) h1 h0 (by omega)
  have w1 : IntKind.i64.wrap ((i : Int) * i) = (i : Int) * i := wrap_id (by unfold I64; omega)
  have w2 : IntKind.i64.wrap ((i : Int) * i * 7) = (i : Int) * i * 7 := wrap_id (by unfold I64; omega)
  have w3 : IntKind.i64.wrap (k * 43) = k * 43 := wrap_id (by unfold I64; omega)
  have w4 : IntKind.i64.wrap ((i : Int) * i * 7 + k * 43) = (i : Int) * i * 7 + k * 43 := wrap_id (by unfold I64; omega)
  have w5 : IntKind.i64.wrap ((i : Int) * k) = (i : Int) * k := wrap_id (by unfold I64; omega)
  have w6 : IntKind.i64.wrap ((i : Int) * i * 7 + k * 43 + (i : Int) * k) = (i : Int) * i * 7 + k * 43 + (i : Int) * k := wrap_id (by unfold I64; omega)
  have n0 : ¬ ((211 : Int) = 0) := by decide
  have e6 : IntKind.i64.wrap ((i : Int) + 1) = ((i + 1 : Nat) : Int) := by rw [wrap_id (by unfold I64; omega)]; omega
  have e8 : ints .i64 (tapeL13 k i) ++ [.int .i64 (((i : Int) * i * 7 + k * 43 + (i : Int) * k).tmod 211)] = ints .i64 (tapeL13 k (i + 1)) := by
   unfold tapeL13; rw [List.range_succ]; simp
  have l6 : (tapeL13 k i).length = i := by simp [tapeL13]
  have b1 : (i + 1) * 8 ≤ maxBytes := by simp only [maxBytes]; omega
  have h2 := ih (i + 1) .own (by omega) (.inl rfl)
  have hz : (if d = 0 then Fl.own else Fl.own) = Fl.own := by split <;> rfl
  rw [hz] at h2
  rw [if_neg (by omega)]
  generalize tapeL13 k 400 = T at *
  generalize tapeL13 k (i + 1) = T2 at *
  refine loop_step l_law13_tape_0.eq_1 k_law13_tape_0.eq_1 (by kernel_rfl) ?_
  rcases hfl with rfl | ⟨rfl, rfl⟩
  ·simp only [go_sem, c, w1, w2, w3, w4, w5, w6, n0, apO, List.length_map, l6, b1, e8, e6, simprocAttr]
   exact h2
  ·have t0 : tapeL13 k 0 = [] := rfl
   rw [t0] at e8 ⊢
   have b2 : (0 + 1) * 8 ≤ maxBytes := by decide
   simp only [List.map_nil, List.nil_append, Int.natCast_zero, Int.zero_mul, Int.zero_add, Int.add_zero] at *
   simp only [go_sem, c, w1, w2, w3, w4, w5, w6, n0, apF, List.length_nil, List.nil_append, b2, e6, Int.zero_mul, Int.zero_add, Int.add_zero, simprocAttr]
   rw [e8]
   exact h2
theorem tape13_spec (k : Int) (h0 : 0 ≤ k) (h1 : k ≤ 100) (H : Heap) : W n_law13_tape [.int .i64 k] H = some (.list 1 (ints .i64 (tapeL13 k 400)) .own, H) := by
 have h := tape_loop13 k h0 h1 H 400 0 .full (by omega) (.inr ⟨rfl, rfl⟩)
 have t0 : tapeL13 k 0 = [] := rfl
 rw [t0, if_neg (by decide)] at h
 simp only [List.map_nil, Int.natCast_zero] at h
 generalize tapeL13 k 400 = T at *
 refine W_fn0 rfl rfl ?_
 simp only [go_sem, trim_same, c_law13_tape, h, simprocAttr]
 first | done | rfl
set_option maxHeartbeats 1000000 in
theorem an0_loop (k : Nat) (H : Heap) (d : Nat) : ∀ (i : Nat) (out : List Ak) (fl : Fl), i + d = 30 → out.length = i → (∀ a ∈ out, AkI a) → (fl = .own ∨ (fl = .full ∧ out = [])) →
  ∃ out' fl', loopA W loopW (.ghost (.kill k_law13_AbortsNumbers_0) l_law13_AbortsNumbers_0) [(1, .int .i64 (k : Nat)), (2, .list 5 (out.map akV) fl), (3, .int .i64 (i : Nat))] H = some (.exit 2, [(1, .int .i64 (k : Nat)), (2, .list 5 (out'.map akV) fl')], H) ∧ out'.length ≤ 30 ∧ (∀ a ∈ out', AkI a) ∧ (fl' = .own ∨ (fl' = .full ∧ out' = [])) := by
 induction d with
 | zero =>
  intro i out fl hi ho hI hfl
  have : i = 30 := by omega
  subst this
  have c : ¬ (((30 : Nat) : Int) < 30) := by omega
  refine ⟨out, fl, ?_, by omega, hI, hfl⟩
  refine loop_step l_law13_AbortsNumbers_0.eq_1 k_law13_AbortsNumbers_0.eq_1 (by kernel_rfl) ?_
  simp only [go_sem, c, simprocAttr]
 | succ d ih =>
  intro i out fl hi ho hI hfl
  have c : ((i : Int) < 30) := by omega
  have e6 : IntKind.i64.wrap ((i : Int) + 1) = ((i + 1 : Nat) : Int) := by rw [wrap_id (by unfold I64; omega)]; omega
  have n7 : ¬ ((7 : Int) = 0) := by decide
  have n4 : ¬ ((4 : Int) = 0) := by decide
  have n19 : ¬ ((19 : Int) = 0) := by decide
  have n5 : ¬ ((5 : Int) = 0) := by decide
  have bb : (out.length + 1) * 40 ≤ maxBytes := by simp only [maxBytes]; omega
  have b0 : (0 + 1) * 40 ≤ maxBytes := by decide
  obtain ⟨x1, h1⟩ : ∃ x : Int, x = ((i : Int).tmod 7) := ⟨_, rfl⟩
  obtain ⟨x2, h2⟩ : ∃ x : Int, x = IntKind.i64.wrap ((i : Int).tmod 4 - 1) := ⟨_, rfl⟩
  obtain ⟨x3, h3⟩ : ∃ x : Int, x = (IntKind.i64.wrap ((i : Int) * (k : Int))).tmod 19 := ⟨_, rfl⟩
  obtain ⟨x4, h4⟩ : ∃ x : Int, x = IntKind.i64.wrap ((i : Int) + (k : Int).tmod 5) := ⟨_, rfl⟩
  have hx : AkI (x1, (x2, x3, x4), (i : Int)) := by
   refine And.intro ?_ (And.intro ?_ ?_)
   ·rw [h2]; exact wrap_I64 _
   ·show I64 x3
    rw [h3]
    generalize IntKind.i64.wrap ((i : Int) * (k : Int)) = z
    have := Int.tmod_lt_of_pos z (show (0 : Int) < 19 by decide)
    have := Int.lt_tmod_of_pos z (show (0 : Int) < 19 by decide)
    unfold I64; omega
   ·rw [h4]; exact wrap_I64 _
  have e8 : out.map akV ++ [.agg [.int .i64 x1, .int .i64 x2, .int .i64 x3, .int .i64 x4, .int .i64 (i : Nat)]] = (out ++ [(x1, (x2, x3, x4), (i : Int))]).map akV := by simp [akV]
  obtain ⟨out', fl', g1, g2, g3, g4⟩ := ih (i + 1) (out ++ [(x1, (x2, x3, x4), (i : Int))]) .own (by omega) (by simp [ho]) (by
   intro a ha
   rw [List.mem_append, List.mem_singleton] at ha
   rcases ha with ha | rfl
   ·exact hI a ha
   ·exact hx) (.inl rfl)
  refine ⟨out', fl', ?_, g2, g3, g4⟩
  generalize (out ++ [(x1, (x2, x3, x4), (i : Int))]).map akV = R at *
  subst h1; subst h2; subst h3; subst h4
  refine loop_step l_law13_AbortsNumbers_0.eq_1 k_law13_AbortsNumbers_0.eq_1 (by kernel_rfl) ?_
  rcases hfl with rfl | ⟨rfl, rfl⟩
  ·simp only [go_sem, c, n7, n4, n19, n5, apO, bb, List.length_map, e8, e6, simprocAttr]
   exact g1
  ·simp only [List.map_nil, List.nil_append] at *
   simp only [go_sem, c, n7, n4, n19, n5, apF, b0, List.length_nil, List.nil_append, e6, simprocAttr]
   rw [e8]; exact g1
theorem an1_loop (H : Heap) (d : Nat) : ∀ (k : Nat), k + d = 40 →
  loopA W loopW (.ghost (.kill k_law13_AbortsNumbers_1) l_law13_AbortsNumbers_1) [(1, .int .i64 (k : Nat))] H = some (.exit 0, [], H) := by
 induction d with
 | zero =>
  intro k hk
  have : k = 40 := by omega
  subst this
  have c : ¬ (((40 : Nat) : Int) < 40) := by omega
  refine loop_step l_law13_AbortsNumbers_1.eq_1 k_law13_AbortsNumbers_1.eq_1 (by kernel_rfl) ?_
  simp only [go_sem, c, simprocAttr]
 | succ d ih =>
  intro k hk
  have c : ((k : Int) < 40) := by omega
  have e6 : IntKind.i64.wrap ((k : Int) + 1) = ((k + 1 : Nat) : Int) := by rw [wrap_id (by unfold I64; omega)]; omega
  have h2 := ih (k + 1) (by omega)
  have t1 := tape13_spec (k : Int) (by omega) (by omega) H
  have hlen : (tapeL13 (k : Int) 400).length ≤ 140737488355328 := by simp [tapeL13]
  obtain ⟨rf, t3, hrf⟩ := row_spec (tapeL13 (k : Int) 400) hlen 0 (by decide) (by decide) 40 (by decide) H
  simp only [Int.cast_ofNat_Int] at t3
  have hri := row_ri (tapeL13 (k : Int) 400) hlen 0 (by decide) (by decide) 40
  have t4 := fun H => rows_spec (rowOf (tapeL13 (k : Int) 400) 0 40) hri.fit (by have := hri.len; unfold rowOf; omega) (row_rowC _ 0 40) H
  have hrf' : rf = .ro ∨ rf = .full := by rcases hrf with h | ⟨h, _⟩ <;> simp [h]
  clear hri hlen
  generalize rowOf (tapeL13 (k : Int) 400) 0 40 = L at *
  generalize tapeL13 (k : Int) 400 = T at *
  obtain ⟨out, fl, t5, t6, t7, t8⟩ := an0_loop k H 30 0 [] .full rfl rfl (by intro a h; cases h) (.inr ⟨rfl, rfl⟩)
  simp only [List.map_nil, Int.natCast_zero] at t5
  have n20 : ¬ ((20 : Int) = 0) := by decide
  have t9 := fun H => play_spec out (by omega) t7 ((k : Int).tmod 20) (k : Int) H
  have t8' : fl = .own ∨ fl = .full := by rcases t8 with h | ⟨h, _⟩ <;> simp [h]
  clear t6 t7
  refine loop_step l_law13_AbortsNumbers_1.eq_1 k_law13_AbortsNumbers_1.eq_1 (by kernel_rfl) ?_
  rcases hrf' with rfl | rfl <;> rcases t8' with rfl | rfl
  all_goals
   simp only [go_sem, c, t1, t3, t4, t5, n20, t9, e6, simprocAttr]
   exact h2
theorem an2_loop (H : Heap) (d : Nat) : ∀ (i : Nat) (D : List La) (pf : Fl), i + d = 5 → D.length ≤ i → DI D → PF D pf →
  ∃ D' pf', loopA W loopW (.ghost (.kill k_law13_AbortsNumbers_2) l_law13_AbortsNumbers_2) [(4, .ptr (pt H 0) 0), (5, .int .i64 (i : Nat))] (hx H [plB D (lastM D) pf]) = some (.exit 4, [(4, .ptr (pt H 0) 0)], hx H [plB D' (lastM D') pf']) ∧ D'.length ≤ 5 ∧ DI D' ∧ PF D' pf' := by
 induction d with
 | zero =>
  intro i D pf hi hD hI hpf
  have : i = 5 := by omega
  subst this
  have c : ¬ (((5 : Nat) : Int) < 5) := by omega
  refine ⟨D, pf, ?_, hD, hI, hpf⟩
  generalize plB D (lastM D) pf = P at *
  refine loop_step l_law13_AbortsNumbers_2.eq_1 k_law13_AbortsNumbers_2.eq_1 (by kernel_rfl) ?_
  simp only [go_sem, c, simprocAttr]
 | succ d ih =>
  intro i D pf hi hD hI hpf
  have c : ((i : Int) < 5) := by omega
  have e6 : IntKind.i64.wrap ((i : Int) + 1) = ((i + 1 : Nat) : Int) := by rw [wrap_id (by unfold I64; omega)]; omega
  have w1 : IntKind.i64.wrap ((i : Int) * 3) = (i : Int) * 3 := wrap_id (by unfold I64; omega)
  have w2 : IntKind.i64.wrap ((i : Int) * 3 + 5) = (i : Int) * 3 + 5 := wrap_id (by unfold I64; omega)
  have t2 := padd_spec D (by omega) (lastM D) pf hpf ((i : Int), (i : Int) * 3, (i : Int) * 3 + 5) (pt H 0) (hx H [plB D (lastM D) pf]) ⟨by rw [hx_get]; rfl⟩
  have hpl : (if abOK D ((i : Int), (i : Int) * 3, (i : Int) * 3 + 5) = true then plB (D ++ [((i : Int), (i : Int) * 3, (i : Int) * 3 + 5)]) ((i : Int) * 3 + 5) .own else plB D (lastM D) pf) = plB (abL D ((i : Int), (i : Int) * 3, (i : Int) * 3 + 5)) (lastM (abL D ((i : Int), (i : Int) * 3, (i : Int) * 3 + 5))) (if abOK D ((i : Int), (i : Int) * 3, (i : Int) * 3 + 5) = true then .own else pf) := by
   unfold abL
   split
   ·rw [lastM_snoc]
   ·rfl
  have hpf' : PF (abL D ((i : Int), (i : Int) * 3, (i : Int) * 3 + 5)) (if abOK D ((i : Int), (i : Int) * 3, (i : Int) * 3 + 5) = true then .own else pf) := by
   unfold abL
   split
   ·exact .inl rfl
   ·exact hpf
  rw [pl_ab, hpl, hx_set, List.set_cons_zero] at t2
  have hI' := di_add hI (d := ((i : Int), (i : Int) * 3, (i : Int) * 3 + 5)) ⟨by unfold I64; omega, by unfold I64; simp only; omega, by unfold I64; simp only; omega⟩
  have hlen : (abL D ((i : Int), (i : Int) * 3, (i : Int) * 3 + 5)).length ≤ i + 1 := Nat.le_trans abL_len (by omega)
  obtain ⟨D', pf', h1, h2, h3, h4⟩ := ih (i + 1) _ _ (by omega) hlen hI' hpf'
  refine ⟨D', pf', ?_, h2, h3, h4⟩
  generalize (plB (abL D ((i : Int), (i : Int) * 3, (i : Int) * 3 + 5)) (lastM (abL D ((i : Int), (i : Int) * 3, (i : Int) * 3 + 5))) (if abOK D ((i : Int), (i : Int) * 3, (i : Int) * 3 + 5) = true then .own else pf)) = P1 at *
  generalize plB D (lastM D) pf = P at *
  generalize plB D' (lastM D') pf' = P2 at *
  refine loop_step l_law13_AbortsNumbers_2.eq_1 k_law13_AbortsNumbers_2.eq_1 (by kernel_rfl) ?_
  simp only [go_sem, c, w1, w2, t2, e6, simprocAttr]
  exact h1
theorem an3_loop (b : List Int) (hb : ∀ x ∈ b, 0 ≤ x ∧ x < 256) (h4 : 4 ≤ b.length) (hl : b.length ≤ 1000000) (H : Heap) (d : Nat) : ∀ (i : Nat) (N : Heap), i + d = b.length →
  ∃ M, loopA W loopW (.ghost (.kill k_law13_AbortsNumbers_3) l_law13_AbortsNumbers_3) [(6, bytes b .own), (7, .int .i64 (i : Nat))] (hx H N) = some (.exit 6, [], hx H M) := by
 induction d with
 | zero =>
  intro i N hi
  have c : ¬ ((i : Int) < (b.length : Int)) := by omega
  refine ⟨N, ?_⟩
  refine loop_step l_law13_AbortsNumbers_3.eq_1 k_law13_AbortsNumbers_3.eq_1 (by kernel_rfl) ?_
  simp only [go_sem, List.length_map, c, simprocAttr]
 | succ d ih =>
  intro i N hi
  have c : ((i : Int) < (b.length : Int)) := by omega
  have e6 : IntKind.i64.wrap ((i : Int) + 1) = ((i + 1 : Nat) : Int) := by rw [wrap_id (by unfold I64; omega)]; omega
  have i0 : (0 : Int) ≤ (i : Int) := by omega
  have i7 : ((i : Nat) : Int).toNat = i := by omega
  have il : (i : Int) ≤ (b.length : Int) := by omega
  have q0 : (4 : Int) ≤ (b.length : Int) := by omega
  have q1 : (ints .u8 b).take i = ints .u8 (b.take i) := by rw [← List.map_take]
  have q4 : (ints .u8 b).drop 4 = ints .u8 (b.drop 4) := by rw [← List.map_drop]
  have hPt : ∀ x ∈ b.take i, 0 ≤ x ∧ x < 256 := fun x hx => hb x (List.mem_of_mem_take hx)
  have t1 := fun H => reads_spec (b.take i) hPt (by rw [List.length_take]; omega) H
  obtain ⟨P, hP⟩ : ∃ P, P = b.drop 4 := ⟨_, rfl⟩
  have hPb : ∀ x ∈ P, 0 ≤ x ∧ x < 256 := fun x hx => hb x (List.mem_of_mem_drop (by rw [← hP]; exact hx))
  have hPl : P.length ≤ 1000000 := by rw [hP, List.length_drop]; omega
  rw [← hP] at q4
  have sealed : ∀ Z : List Int, (∀ x ∈ Z, 0 ≤ x ∧ x < 256) → Z.length ≤ 1000000 → (∀ H, W n_ref1_Sealed [bytes Z .ro] H = some (bytes (sealE Z) .own, H)) ∧ (∀ H, W n_law13_reads [bytes (sealE Z) .ro] H = some (.bool true, H)) := by
   intro Z hZ hZl
   exact ⟨fun H => ref_sealed_spec Z H hZ (by omega), fun H => reads_spec (sealE Z) (sealE_bytes hZ) (by unfold sealE; simp [le4]; omega) H⟩
  have bx : (ints .u8 P).length * 1 ≤ maxBytes := by rw [List.length_map]; simp only [maxBytes]; omega
  have ta := apU (ints .u8 P) bx
  have g1 := fun e h1 => thaw_v 8 (ints .u8 P) e H N h1
  have gl : (hx H (N ++ [.arr 1 (ints .u8 P)]))[pt H N.length]? = some (.arr 1 (ints .u8 P)) := by rw [hx_get]; simp
  obtain ⟨M, h2⟩ := ih (i + 1) (N ++ [.dead]) (by omega)
  refine ⟨M, ?_⟩
  clear hb hPt hP ih
  generalize b.take i = Q at *
  by_cases ci : (i : Int) < (P.length : Int)
  ·have hil : i < P.length := by omega
   obtain ⟨v, hv⟩ : ∃ v, bits .xor .u8 (P.getD i 0) 2 = v := ⟨_, rfl⟩
   have hv8 : 0 ≤ v ∧ v < 256 := by rw [← hv]; exact u8r _
   have lx : i < (ints .u8 P).length := by rw [List.length_map]; omega
   have g2 := ix_v i (ints .u8 P) lx H N
   have g3 := ld_v i P hil H N
   have g4 := st_v i P v hil H N
   have g5 := fun e h1 => back_v 8 (ints .u8 (P.set i v)) e H N h1
   have g6 := fun e H h1 => freeze_v 8 (ints .u8 (P.set i v)) e H h1
   have t2 := sealed (P.set i v) (by
    intro x hx
    rcases List.mem_or_eq_of_mem_set hx with hx | rfl
    ·exact hPb x hx
    ·exact hv8) (by rw [List.length_set]; omega)
   obtain ⟨t3, t4⟩ := t2
   clear sealed hv8
   generalize P.getD i 0 = a at *
   generalize P.set i v = Z at *
   generalize sealE Z = SZ at *
   refine loop_step l_law13_AbortsNumbers_3.eq_1 k_law13_AbortsNumbers_3.eq_1 (by kernel_rfl) ?_
   simp only [go_sem, List.length_map, c, slL, q0, q4, ta, g1, gl, ci, g2, g3, hv, g4, g5, g6, slH, i0, il, i7, q1, t1, t3, t4, e6, simprocAttr]
   exact h2
  ·have g5 := fun e h1 => back_v 8 (ints .u8 P) e H N h1
   have g6 := fun e H h1 => freeze_v 8 (ints .u8 P) e H h1
   obtain ⟨t3, t4⟩ := sealed P hPb hPl
   clear sealed
   generalize sealE P = SZ at *
   refine loop_step l_law13_AbortsNumbers_3.eq_1 k_law13_AbortsNumbers_3.eq_1 (by kernel_rfl) ?_
   simp only [go_sem, List.length_map, c, slL, q0, q4, ta, g1, gl, ci, g5, g6, slH, i0, il, i7, q1, t1, t3, t4, e6, simprocAttr]
   exact h2
theorem numbers_spec13 : W n_law13_AbortsNumbers [] [] = some (.bool true, []) := by
 have t0 := an1_loop (hx [] []) 40 0 rfl
 obtain ⟨D, pf, t1, hD, hI, hpf⟩ := an2_loop [] 5 0 [] .full rfl (by simp) (by intro d h; cases h) (.inr ⟨rfl, rfl⟩)
 have la0 : lastM [] = -1 := rfl
 rw [la0] at t1
 have t2 := pbytes_spec D hI (by omega) (lastM D) pf hpf (pt [] 0) (hx [] [plB D (lastM D) pf]) ⟨by rw [hx_get]; rfl⟩
 have hb := encD_bytesL hI (by omega)
 have h4 : 4 ≤ (sealE (encD D)).length := by unfold sealE; simp [le4]
 have hle : (sealE (encD D)).length ≤ 1000000 := by
  have h1 : (encD D).length ≤ 10 + 30 * D.length := by
   unfold encD
   have := pN_len ((D.length : Nat) : Int)
   have := encR_len D
   rw [List.length_append]; omega
  have h2 : (sealE (encD D)).length = 4 + (encD D).length := by unfold sealE; simp [le4]; omega
  omega
 obtain ⟨M, t3⟩ := an3_loop (sealE (encD D)) (sealE_bytes hb) h4 hle [] (sealE (encD D)).length 0 [plB D (lastM D) pf] (by omega)
 have t4 : ∀ H, W n_law13_rows [.list 7 [] .ro] H = some (.bool true, H) := fun H => rows_spec [] (by intro b h; cases h) (by simp) trivial H
 have t5 := fun H => known_spec H
 unfold plB at t1
 simp only [List.map_nil, Int.natCast_zero] at t0 t1 t3
 generalize sealE (encD D) = S at *
 unfold plB at t2 t3
 refine W_fn rfl rfl ?_
 simp only [go_sem, c_law13_AbortsNumbers, t0, t1, t2, t3, t4, t5, simprocAttr]
end Go.Abs
