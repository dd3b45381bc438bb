import Derived.Test.YtmfmhbpggmgbbaaGreatBS6
import Derived.Test.YtmfmhbpggmgbbaaGreatB0
set_option linter.unusedVariables false
set_option linter.unusedSimpArgs false
namespace Go.Abs
open Go Go.RowKit
def tapeL14 (k : Int) (n : Nat) : List Int := (List.range n).map fun (i : Nat) => ((i : Int) * (i : Int) * 7 + k * 47 + (i : Int) * k).tmod 211
theorem tape_loop14 (k : Int) (h0 : 0 ≤ k) (h1 : k ≤ 100) (H : Heap) (d : Nat) : ∀ (i : Nat) (fl : Fl), i + d = 400 → (fl = .own ∨ (fl = .full ∧ i = 0)) →
  loopA W loopW (.ghost (.kill k_law14_tape_0) l_law14_tape_0) [(0, .int .i64 k), (3, .list 1 (ints .i64 (tapeL14 k i)) fl), (4, .int .i64 (i : Nat))] H = some (.exit 0, [(3, .list 1 (ints .i64 (tapeL14 k 400)) (if d = 0 then fl else .own))], H) := by
 induction d with
 | zero =>
  intro i fl hi hfl
  have : i = 400 := by omega
  subst this
  have c : ¬ (((400 : Nat) : Int) < 400) := by omega
  rw [if_pos rfl]
  refine loop_step l_law14_tape_0.eq_1 k_law14_tape_0.eq_1 (by kernel_rfl) ?_
  simp only [go_sem, c, simprocAttr]
 | succ d ih =>
  intro i fl hi hfl
  have c : ((i : Int) < 400) := by omega
  have hii0 : (0 : Int) ≤ (i : Int) * i := Int.mul_nonneg (by omega) (by omega)
  have hii : (i : Int) * i ≤ 400 * 400 := Int.mul_le_mul (by omega) (by omega) (by omega) (by omega)
  have hik0 : (0 : Int) ≤ (i : Int) * k := Int.mul_nonneg (by omega) h0
  have hik : (i : Int) * k ≤ 400 * 100 := Int.mul_le_mul (by omega) h1 h0 (by omega)
  have w1 : IntKind.i64.wrap ((i : Int) * i) = (i : Int) * i := wrap_id (by unfold I64; omega)
  have w2 : IntKind.i64.wrap ((i : Int) * i * 7) = (i : Int) * i * 7 := wrap_id (by unfold I64; omega)
  have w3 : IntKind.i64.wrap (k * 47) = k * 47 := wrap_id (by unfold I64; omega)
  have w4 : IntKind.i64.wrap ((i : Int) * i * 7 + k * 47) = (i : Int) * i * 7 + k * 47 := wrap_id (by unfold I64; omega)
  have w5 : IntKind.i64.wrap ((i : Int) * k) = (i : Int) * k := wrap_id (by unfold I64; omega)
  have w6 : IntKind.i64.wrap ((i : Int) * i * 7 + k * 47 + (i : Int) * k) = (i : Int) * i * 7 + k * 47 + (i : Int) * k := wrap_id (by unfold I64; omega)
  have n0 : ¬ ((211 : Int) = 0) := by decide
  have e6 : IntKind.i64.wrap ((i : Int) + 1) = ((i + 1 : Nat) : Int) := by rw [wrap_id (by unfold I64; omega)]; omega
  have e8 : ints .i64 (tapeL14 k i) ++ [.int .i64 (((i : Int) * i * 7 + k * 47 + (i : Int) * k).tmod 211)] = ints .i64 (tapeL14 k (i + 1)) := by
   unfold tapeL14; rw [List.range_succ]; simp
  have l6 : (tapeL14 k i).length = i := by simp [tapeL14]
  have b1 : (i + 1) * 8 ≤ maxBytes := by simp only [maxBytes]; omega
  have h2 := ih (i + 1) .own (by omega) (.inl rfl)
  have hz : (if d = 0 then Fl.own else Fl.own) = Fl.own := by split <;> rfl
  rw [hz] at h2
  rw [if_neg (by omega)]
  generalize tapeL14 k 400 = T at *
  generalize tapeL14 k (i + 1) = T2 at *
  refine loop_step l_law14_tape_0.eq_1 k_law14_tape_0.eq_1 (by kernel_rfl) ?_
  rcases hfl with rfl | ⟨rfl, rfl⟩
  ·simp only [go_sem, c, w1, w2, w3, w4, w5, w6, n0, apO, List.length_map, l6, b1, e8, e6, simprocAttr]
   exact h2
  ·have t0 : tapeL14 k 0 = [] := rfl
   rw [t0] at e8 ⊢
   have b2 : (0 + 1) * 8 ≤ maxBytes := by decide
   simp only [List.map_nil, List.nil_append, Int.natCast_zero, Int.zero_mul, Int.zero_add, Int.add_zero] at *
   simp only [go_sem, c, w1, w2, w3, w4, w5, w6, n0, apF, List.length_nil, List.nil_append, b2, e6, Int.zero_mul, Int.zero_add, Int.add_zero, simprocAttr]
   rw [e8]
   exact h2
theorem tape14_spec (k : Int) (h0 : 0 ≤ k) (h1 : k ≤ 100) (H : Heap) : W n_law14_tape [.int .i64 k] H = some (.list 1 (ints .i64 (tapeL14 k 400)) .own, H) := by
 have h := tape_loop14 k h0 h1 H 400 0 .full (by omega) (.inr ⟨rfl, rfl⟩)
 have t0 : tapeL14 k 0 = [] := rfl
 rw [t0, if_neg (by decide)] at h
 simp only [List.map_nil, Int.natCast_zero] at h
 generalize tapeL14 k 400 = T at *
 refine W_fn0 rfl rfl ?_
 simp only [go_sem, trim_same, c_law14_tape, h, simprocAttr]
 first | done | rfl
theorem fn0_loop (L : List Ba) (hL : ∀ b ∈ L, Fit b) (hn : L.length ≤ 1000) (fl : Fl) (hfl : fl = .ro ∨ fl = .full) (start o : Int) (h0 : 0 ≤ start) (hr : RowC start L) (h1 : -35184372088832 ≤ o) (h2 : o ≤ 35184372088832) (k : Nat) (ns : List Int) (hb : ∀ n ∈ ns, -1000 ≤ n ∧ n ≤ 1000) (hns : ns.length ≤ 1000) (f : Fl) (hf : f = .own ∨ f = .full) (H : Heap) (r : List Int) : ∀ (p : List Int), ns = p ++ r →
  loopA W loopW (.ghost (.kill k_law14_FoldNumbers_0) l_law14_FoldNumbers_0) [(1, .int .i64 (k : Nat)), (2, .int .i64 start), (3, .list 7 (L.map Ba.V) fl), (4, .int .i64 o), (31, .list 1 (ints .i64 ns) f), (32, .int .i64 (ns.length : Nat)), (33, .int .i64 (p.length : Nat))] H =
   some (.exit 4, [(1, .int .i64 (k : Nat)), (2, .int .i64 start), (3, .list 7 (L.map Ba.V) fl), (4, .int .i64 o)], H) := by
 induction r with
 | nil =>
  intro p hp
  rw [List.append_nil] at hp
  subst hp
  have c : ¬ ((ns.length : Int) < (ns.length : Int)) := by omega
  refine loop_step l_law14_FoldNumbers_0.eq_1 k_law14_FoldNumbers_0.eq_1 (by kernel_rfl) ?_
  simp only [go_sem, c, simprocAttr]
 | cons n r ih =>
  intro p hp
  have hlen : ns.length = p.length + (r.length + 1) := by rw [hp]; simp
  have c : ((p.length : Int) < (ns.length : Int)) := by omega
  have e0 : (0 : Int) ≤ (p.length : Int) := by omega
  have e7 : ((p.length : Nat) : Int).toNat = p.length := by omega
  have e1 : (ints .i64 ns)[p.length]? = some (.int .i64 n) := by rw [hp]; simp
  have e6 : IntKind.i64.wrap ((p.length : Int) + 1) = ((p.length + 1 : Nat) : Int) := by rw [wrap_id (by unfold I64; omega)]; omega
  have hn1 := hb n (by rw [hp]; simp)
  have ts := fun only H => same_spec L hL hn start o n h0 hr h1 h2 hn1.1 hn1.2 only H
  have n0 : ¬ ((2 : Int) = 0) := by decide
  have h3 := ih (p ++ [n]) (by rw [hp]; simp)
  simp only [List.length_append, List.length_cons, List.length_nil, Nat.zero_add] at h3
  refine loop_step l_law14_FoldNumbers_0.eq_1 k_law14_FoldNumbers_0.eq_1 (by kernel_rfl) ?_
  rcases hf with rfl | rfl <;> rcases hfl with rfl | rfl
  all_goals
   simp only [go_sem, c, e0, e7, e1, List.length_map, n0, ts, e6, simprocAttr]
   exact h3
theorem fn1_loop (L : List Ba) (hL : ∀ b ∈ L, Fit b) (hn : L.length ≤ 1000) (fl : Fl) (hfl : fl = .ro ∨ fl = .full) (start : Int) (h0 : 0 ≤ start) (hr : RowC start L) (he : endE start L ≤ 2199023255552) (k : Nat) (H : Heap) (d : Nat) : ∀ (o : Int), -2 ≤ o → o ≤ 2199023255600 → (endE start L + 2 - o).toNat ≤ d →
  loopA W loopW (.ghost (.kill k_law14_FoldNumbers_1) l_law14_FoldNumbers_1) [(1, .int .i64 (k : Nat)), (2, .int .i64 start), (3, .list 7 (L.map Ba.V) fl), (4, .int .i64 o)] H =
   some (.exit 2, [(1, .int .i64 (k : Nat))], H) := by
 have te := fun H => end_spec start L hL hn .ro (.inl rfl) H
 have he0 : start ≤ endE start L := endE_le hL hr
 generalize hE : endE start L = e at *
 have w1 : IntKind.i64.wrap (e + 1) = e + 1 := wrap_id (by unfold I64; omega)
 induction d with
 | zero =>
  intro o h1 h2 hd
  have c : ¬ (o ≤ e + 1) := by omega
  refine loop_step l_law14_FoldNumbers_1.eq_1 k_law14_FoldNumbers_1.eq_1 (by kernel_rfl) ?_
  rcases hfl with rfl | rfl
  all_goals simp only [go_sem, te, w1, c, simprocAttr]
 | succ d ih =>
  intro o h1 h2 hd
  by_cases c : o ≤ e + 1
  ·have w2 : IntKind.i64.wrap (o + 2) = o + 2 := wrap_id (by unfold I64; omega)
   have h3 := ih (o + 2) (by omega) (by omega) (by omega)
   have ti : loopA W loopW (.ghost (.kill k_law14_FoldNumbers_0) l_law14_FoldNumbers_0) [(1, .int .i64 (k : Nat)), (2, .int .i64 start), (3, .list 7 (L.map Ba.V) fl), (4, .int .i64 o), (31, .list 1 [.int .i64 (-1), .int .i64 0, .int .i64 1, .int .i64 3, .int .i64 64, .int .i64 65] .full), (32, .int .i64 6), (33, .int .i64 0)] H =
     some (.exit 4, [(1, .int .i64 (k : Nat)), (2, .int .i64 start), (3, .list 7 (L.map Ba.V) fl), (4, .int .i64 o)], H) :=
    fn0_loop L hL hn fl hfl start o h0 hr (by omega) (by omega) k [-1, 0, 1, 3, 64, 65] (by decide) (by decide) .full (.inr rfl) H [-1, 0, 1, 3, 64, 65] [] rfl
   have fs : fillS 1 (List.replicate 6 (.int .i64 0)) [0, 1, 2, 3, 4, 5] [.int .i64 (-1), .int .i64 0, .int .i64 1, .int .i64 3, .int .i64 64, .int .i64 65] = some [.int .i64 (-1), .int .i64 0, .int .i64 1, .int .i64 3, .int .i64 64, .int .i64 65] := rfl
   refine loop_step l_law14_FoldNumbers_1.eq_1 k_law14_FoldNumbers_1.eq_1 (by kernel_rfl) ?_
   rcases hfl with rfl | rfl
   all_goals
    simp only [go_sem, te, w1, c, fs, ti, w2, simprocAttr]
    exact h3
  ·refine loop_step l_law14_FoldNumbers_1.eq_1 k_law14_FoldNumbers_1.eq_1 (by kernel_rfl) ?_
   rcases hfl with rfl | rfl
   all_goals simp only [go_sem, te, w1, c, simprocAttr]
theorem fn2_loop (H : Heap) (d : Nat) : ∀ (k : Nat), k + d = 30 →
  loopA W loopW (.ghost (.kill k_law14_FoldNumbers_2) l_law14_FoldNumbers_2) [(1, .int .i64 (k : Nat))] H = some (.exit 0, [], H) := by
 induction d with
 | zero =>
  intro k hk
  have : k = 30 := by omega
  subst this
  have c : ¬ (((30 : Nat) : Int) < 30) := by omega
  refine loop_step l_law14_FoldNumbers_2.eq_1 k_law14_FoldNumbers_2.eq_1 (by kernel_rfl) ?_
  simp only [go_sem, c, simprocAttr]
 | succ d ih =>
  intro k hk
  have c : ((k : Int) < 30) := by omega
  have e6 : IntKind.i64.wrap ((k : Int) + 1) = ((k + 1 : Nat) : Int) := by rw [wrap_id (by unfold I64; omega)]; omega
  have n0 : ¬ ((7 : Int) = 0) := by decide
  have t0 := fun H => tape14_spec k (by omega) (by omega) H
  have hTl : (tapeL14 k 400).length = 400 := by simp [tapeL14]
  generalize tapeL14 k 400 = T at *
  have hm7 := Int.tmod_eq_emod_of_nonneg (b := 7) (show (0 : Int) ≤ (k : Int) by omega)
  have hs0 : 0 ≤ (k : Int).tmod 7 ∧ (k : Int).tmod 7 ≤ 6 := by omega
  obtain ⟨s, hs⟩ : ∃ s, (k : Int).tmod 7 = s := ⟨_, rfl⟩
  rw [hs] at hs0
  obtain ⟨f, t1, hf⟩ : ∃ f, W n_keep_Row [.list 1 (ints .i64 T) .ro, .int .i64 s, .int .i64 18] H = some (.list 7 ((rowOf T s 18).map Ba.V) f, H) ∧ (f = .ro ∨ (f = .full ∧ rowOf T s 18 = [])) := row_spec T (by omega) s (by omega) (by omega) 18 (by omega) H
  have hri := row_ri T (by omega) s (by omega) (by omega) 18
  have hfit : ∀ b' ∈ rowOf T s 18, Fit b' := hri.fit
  have hlen : (rowOf T s 18).length ≤ 18 := hri.len
  have hrow := row_rowC T s 18
  generalize rowOf T s 18 = L at *
  have ta := fun H => all_spec L hfit (by omega) s hs0.1 hrow H
  have w2 : IntKind.i64.wrap (s - 1) = s - 1 := wrap_id (by unfold I64; omega)
  have her : endE s L ≤ 2199023255552 := by
   unfold endE
   cases h : L.getLast? with
   | none => simp only; omega
   | some b =>
    have hb := hfit b (List.mem_of_getLast? h)
    have h1 := hb.base
    have h2 := hb.count
    simp only; omega
  have hf' : f = .ro ∨ f = .full := by
   rcases hf with h | ⟨h, _⟩
   ·exact .inl h
   ·exact .inr h
  have h1 := fn1_loop L hfit (by omega) f hf' s hs0.1 hrow her k H _ (s - 1) (by omega) (by omega) (Nat.le_refl _)
  have h3 := ih (k + 1) (by omega)
  refine loop_step l_law14_FoldNumbers_2.eq_1 k_law14_FoldNumbers_2.eq_1 (by kernel_rfl) ?_
  rcases hf' with rfl | rfl
  all_goals
   simp only [go_sem, c, n0, hs, t0, t1, ta, w2, h1, e6, simprocAttr]
   exact h3
theorem foldnumbers_spec : W n_law14_FoldNumbers [] [] = some (.bool true, []) := by
 have h3 := fn2_loop [] 30 0 (by omega)
 have t1 : ∀ H, W n_law14_same [.int .i64 3, .list 7 [] .ro, .int .i64 3, .int .i64 5, .bool true] H = some (.bool true, H) := fun H => same_spec [] (by simp) (by simp) 3 3 5 (by decide) trivial (by decide) (by decide) (by decide) (by decide) true H
 have t2 : ∀ H, W n_law14_all [.int .i64 9, .list 7 [] .ro] H = some (.bool true, H) := fun H => all_spec [] (by simp) (by simp) 9 (by decide) trivial H
 have kn := known_spec
 simp only [Int.natCast_zero] at h3
 refine W_fn0 rfl rfl ?_
 simp only [go_sem, trim_same, c_law14_FoldNumbers, h3, t1, t2, kn, simprocAttr]
 first | done | rfl
end Go.Abs
