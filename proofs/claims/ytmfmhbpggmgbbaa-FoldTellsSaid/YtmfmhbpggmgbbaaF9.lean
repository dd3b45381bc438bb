import Derived.Test.YtmfmhbpggmgbbaaBS6
import Derived.Test.YtmfmhbpggmgbbaaB0
import Derived.Test.YtmfmhbpggmgbbaaK42
set_option linter.unusedVariables false
set_option linter.unusedSimpArgs false
namespace Go.Abs
open Go Go.RowKit
theorem gots_of : ∀ (rows : List (List AVal)), (∀ r ∈ rows, Reps [.int .i64, .int .i64, .str, .str] r) → ∃ R : List Gt, rows.map AVal.agg = R.map gV ∧ R.length = rows.length
 | [], _ => ⟨[], rfl, rfl⟩
 | r :: rows, h => by
  obtain ⟨R, h1, h2⟩ := gots_of rows (fun x hx => h x (List.mem_cons_of_mem _ hx))
  have h3 := h r List.mem_cons_self
  cases h3 with
  | cons a h3 => cases h3 with
   | cons b h3 => cases h3 with
    | cons c h3 => cases h3 with
     | cons d h3 =>
      cases h3; cases a; cases b; cases c; cases d
      rename_i n hn m hm k hk v hv
      exact ⟨(n, m, (k, v)) :: R, by rw [List.map_cons, List.map_cons, h1]; rfl, by simp [h2]⟩
theorem las_of : ∀ (rows : List (List AVal)), (∀ r ∈ rows, Reps [.int .i64, .int .i64, .int .i64] r) → ∃ D : List La, rows.map AVal.agg = D.map laV ∧ D.length = rows.length
 | [], _ => ⟨[], rfl, rfl⟩
 | r :: rows, h => by
  obtain ⟨R, h1, h2⟩ := las_of rows (fun x hx => h x (List.mem_cons_of_mem _ hx))
  have h3 := h r List.mem_cons_self
  cases h3 with
  | cons a h3 => cases h3 with
   | cons b h3 => cases h3 with
    | cons c h3 =>
     cases h3; cases a; cases b; cases c
     rename_i n hn m hm k hk
     exact ⟨(n, m, k) :: R, by rw [List.map_cons, List.map_cons, h1]; rfl, by simp [h2]⟩
theorem delivers_self (R : List Gt) (hR : R.length ≤ 30) (D : List La) (hD : D.length ≤ 9223372036854775807) (n s : Int) (H : Heap) :
  ∃ Q f, W n_fold_Deliver [.agg [.list 4 (R.map gV) .ro, .list 3 (D.map laV) .ro, .int .i64 n, .int .i64 s]] H = some (.list 4 (Q.map gV) .full, H) ∧
   W n_ref14_Deliver [.agg [.list 4 (R.map gV) .ro, .list 3 (D.map laV) .ro, .int .i64 n, .int .i64 s]] H = some (.list 4 (Q.map gV) f, H) ∧ (f = .own ∨ (f = .full ∧ Q = [])) ∧ Q.length ≤ 30 := by
 obtain ⟨f, h, hf⟩ := rdeliver_spec R (by omega) D hD n s H
 exact ⟨_, f, deliver_spec R (by omega) D hD n s H, h, hf, Nat.le_trans (List.length_filter_le _ _) hR⟩
set_option maxHeartbeats 4000000 in
theorem foldtells_spec (t : List Int) (start lo n : Int) (only : Bool) (R : List Gt) (D : List La) (nx s : Int) (ht : ∀ x ∈ t, I64 x) (hl : t.length * 8 ≤ 140737488351232) (hs : I64 start) (hlo : I64 lo) (hn : I64 n) (hD : D.length ≤ 9223372036854775807) :
  W n_law14_FoldTells [.list 1 (ints .i64 t) .ro, .int .i64 start, .int .i64 lo, .int .i64 n, .bool only, .agg [.list 4 (R.map gV) .ro, .list 3 (D.map laV) .ro, .int .i64 nx, .int .i64 s]] [] = some (.bool true, []) := by
 obtain ⟨s0, hs0⟩ : ∃ x, start % 65536 = x := ⟨_, rfl⟩
 have hs1 : 0 ≤ s0 ∧ s0 < 65536 := by omega
 obtain ⟨f, t1, hf⟩ : ∃ f, W n_keep_Row [.list 1 (ints .i64 t) .ro, .int .i64 s0, .int .i64 20] (hx [] [.cells [.list 4 (R.map gV) .ro, .list 3 (D.map laV) .ro, .int .i64 nx, .int .i64 s]]) = some (.list 7 ((rowOf t s0 20).map Ba.V) f, hx [] [.cells [.list 4 (R.map gV) .ro, .list 3 (D.map laV) .ro, .int .i64 nx, .int .i64 s]]) ∧ (f = .ro ∨ (f = .full ∧ rowOf t s0 20 = [])) := row_spec t (by omega) s0 (by omega) (by omega) 20 (by decide) _
 have hri := row_ri t (by omega) s0 (by omega) (by omega) 20
 have hfit : ∀ b ∈ rowOf t s0 20, Fit b := hri.fit
 have hlen : (rowOf t s0 20).length ≤ 20 := hri.len
 have hrow := row_rowC t s0 20
 generalize rowOf t s0 20 = L at *
 have ta := fun H => all_spec L hfit (by omega) s0 hs1.1 hrow H
 have hr9 := Int.lt_tmod_of_pos lo (show (0 : Int) < 9 by decide)
 have hr8 := Int.tmod_lt_of_pos lo (show (0 : Int) < 9 by decide)
 have n9 : ¬ ((9 : Int) = 0) := by decide
 obtain ⟨q9, hq9⟩ : ∃ x, lo.tmod 9 = x := ⟨_, rfl⟩
 rw [hq9] at hr9 hr8
 have w1 : IntKind.i64.wrap (s0 + lo % 64) = s0 + lo % 64 := wrap_id (by unfold I64; omega)
 have w2 : IntKind.i64.wrap (s0 + lo % 64 - 2) = s0 + lo % 64 - 2 := wrap_id (by unfold I64; omega)
 have w3 : IntKind.i64.wrap (1 + n % 16) = 1 + n % 16 := wrap_id (by unfold I64; omega)
 have w4 : IntKind.i64.wrap (s0 + q9) = s0 + q9 := wrap_id (by unfold I64; omega)
 have ts1 := fun only H => same_spec L hfit (by omega) s0 (s0 + lo % 64 - 2) (1 + n % 16) hs1.1 hrow (by omega) (by omega) (by omega) (by omega) only H
 have ts2 := fun only H => same_spec L hfit (by omega) s0 (s0 + q9) (n % 128) hs1.1 hrow (by omega) (by omega) (by omega) (by omega) only H
 have ts3 := fun only H => same_spec L hfit (by omega) s0 (lo % 65536) (n % 256) hs1.1 hrow (by omega) (by omega) (by omega) (by omega) only H
 have kn := known_spec
 have and8 : bits .and .i64 n 255 = n % 256 := and_low n 8 (by decide)
 refine W_fn rfl rfl ?_
 by_cases c : ((R.length : Nat) : Int) > 30
 ·have g0 : (0 : Int) ≤ 30 := by decide
  have g1 : (30 : Int) ≤ (R.length : Nat) := by omega
  have g2 : (R.map gV).take 30 = (R.take 30).map gV := (List.map_take ..).symm
  obtain ⟨Q, fq, t2, t3, hq, hql⟩ := delivers_self (R.take 30) (by rw [List.length_take]; omega) D hD nx s (hx [] [.cells [.list 4 ((R.take 30).map gV) .ro, .list 3 (D.map laV) .ro, .int .i64 nx, .int .i64 s]])
  have t4 := fun H => gots_self Q (by omega) H
  rcases hf with rfl | ⟨rfl, _⟩ <;> rcases hq with rfl | ⟨rfl, _⟩
  all_goals
   simp only [go_sem, c_law14_FoldTells, and_16, and_6, and_4, and_7, and8, hs0, t1, w1, w2, w3, w4, n9, hq9, List.length_map, c, slH, g0, g1, g2, ta, ts1, ts2, ts3, t2, t3, t4, kn, simprocAttr]
   first | done | rfl
 ·obtain ⟨Q, fq, t2, t3, hq, hql⟩ := delivers_self R (by omega) D hD nx s (hx [] [.cells [.list 4 (R.map gV) .ro, .list 3 (D.map laV) .ro, .int .i64 nx, .int .i64 s]])
  have t4 := fun H => gots_self Q (by omega) H
  rcases hf with rfl | ⟨rfl, _⟩ <;> rcases hq with rfl | ⟨rfl, _⟩
  all_goals
   simp only [go_sem, c_law14_FoldTells, and_16, and_6, and_4, and_7, and8, hs0, t1, w1, w2, w3, w4, n9, hq9, List.length_map, c, ta, ts1, ts2, ts3, t2, t3, t4, kn, simprocAttr]
   first | done | rfl
end Go.Abs
