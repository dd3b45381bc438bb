import Derived.Test.YtmfmhbpggmgbbaaBS5
namespace Go.Abs
open Go Go.RowKit
set_option linter.unusedVariables false
set_option linter.unusedSimpArgs false

set_option maxHeartbeats 1000000 in
theorem within_spec13 (t : List Int) (a b c d : Int) (ht : ∀ x ∈ t, I64 x) (hl : t.length * 8 ≤ 140737488351232) (ha : I64 a) (hb : I64 b) (hc : I64 c) (hd : I64 d) :
    W n_law13_AbortsWithin [.list 1 (ints .i64 t) .ro, .int .i64 a, .int .i64 b, .int .i64 c, .int .i64 d] [] = some (.bool true, []) := by
  obtain ⟨f, t1, hf⟩ : ∃ f, W n_keep_Row [.list 1 (ints .i64 t) .ro, .int .i64 0, .int .i64 40] (hx [] []) = some (.list 7 ((rowOf t 0 40).map Ba.V) f, hx [] []) ∧ (f = .ro ∨ (f = .full ∧ rowOf t 0 40 = [])) := row_spec t (by omega) 0 (by decide) (by decide) 40 (by decide) (hx [] [])
  have hri := row_ri t (by omega) 0 (by decide) (by decide) 40
  have hfit : ∀ b ∈ rowOf t 0 40, Fit b := hri.fit
  have hlen : (rowOf t 0 40).length ≤ 40 := hri.len
  generalize rowOf t 0 40 = L at *
  obtain ⟨N, fl, t2, hfl, hol⟩ := abof_spec L (fun b hb => (hfit b hb).ok) (fun b hb => by have := (rightE_small (hfit b hb).right).1; omega) (by omega) (hx [] [])
  have hok := abOf_ok L [] [] (by simp)
  have p0 : pt (hx [] []) 0 = pt [] 0 := by rw [hx_nil]
  rw [p0, hx_hx, List.nil_append] at t2
  generalize abOf L [] [] = D at *
  have hm : (D.filter (inR (a % 64) (a % 64 + b % 32))).Sublist (D.filter (inR (a % 64 - c % 8) (a % 64 + b % 32 + d % 8))) := filter_le D (fun x _ h => inR_mono (by omega) (by omega) x h)
  have hall := inR_all hok
  have hg := grd_sub _ _ hm
  obtain ⟨g1, w1, k1⟩ := abwithin_spec D (by omega) fl hfl (a % 64) (a % 64 + b % 32) (pt [] 0) (hx [] (rwB D fl :: N)) ⟨by rw [hx_get]; rfl⟩
  obtain ⟨g2, w2, k2⟩ := abwithin_spec D (by omega) .uniq (.inl rfl) (a % 64 - c % 8) (a % 64 + b % 32 + d % 8) (pt [] 0) (hx [] (rwB D .uniq :: N)) ⟨by rw [hx_get]; rfl⟩
  obtain ⟨g3, w3, k3⟩ := abwithin_spec D (by omega) .uniq (.inl rfl) 0 1099511627776 (pt [] 0) (hx [] (rwB D .uniq :: N)) ⟨by rw [hx_get]; rfl⟩
  have w4 := aball_spec D (by omega) .uniq (.inl rfl) (pt [] 0) (hx [] (rwB D .uniq :: N)) ⟨by rw [hx_get]; rfl⟩
  simp only [hx_set, List.set_cons_zero] at w1 w2 w3 w4
  rw [hall] at w3 k3
  have hS : (D.filter (inR (a % 64) (a % 64 + b % 32))).length ≤ D.length := List.length_filter_le _ _
  have hG : (D.filter (inR (a % 64 - c % 8) (a % 64 + b % 32 + d % 8))).length ≤ D.length := List.length_filter_le _ _
  generalize D.filter (inR (a % 64) (a % 64 + b % 32)) = S at *
  generalize D.filter (inR (a % 64 - c % 8) (a % 64 + b % 32 + d % 8)) = G at *
  obtain ⟨h1, h2, tl, j1, j2⟩ := greedy_loop (.ptr (pt [] 0) 0) S G g1 g2 (by rcases k1 with h | ⟨h, _⟩ <;> simp [h]) (by rcases k2 with h | ⟨h, _⟩ <;> simp [h]) (by omega) (by omega) rfl (hx [] (rwB D .uniq :: N)) G [] 0 rfl (by omega)
  simp only [List.length_nil, Int.natCast_zero, List.drop_zero, Nat.zero_add, hg] at tl
  have q1 : IntKind.i64.wrap (a % 64 + b % 32) = a % 64 + b % 32 := wrap_id (by unfold I64; omega)
  have q2 : IntKind.i64.wrap (a % 64 - c % 8) = a % 64 - c % 8 := wrap_id (by unfold I64; omega)
  have q3 : IntKind.i64.wrap (a % 64 + b % 32 + d % 8) = a % 64 + b % 32 + d % 8 := wrap_id (by unfold I64; omega)
  have tb := fun H => within_spec (G.length : Nat) 0 (D.length : Nat) H (by omega) (by omega) (by omega)
  have hq : withinQ (G.length : Nat) 0 (D.length : Nat) = (G.length : Nat) := by unfold withinQ; rw [if_pos ⟨by omega, by omega⟩]
  rw [hq] at tb
  have td := fun H => dropped_self D (by omega) H
  have kn := known_spec
  have n1 : ¬ (AVal.ptr (pt [] 0) 0 = .nilp) := by simp
  unfold rwB at *
  refine W_fn rfl rfl ?_
  rcases hf with rfl | ⟨rfl, hnil⟩
  · rcases k1 with rfl | ⟨rfl, k1⟩ <;> rcases k2 with rfl | ⟨rfl, k2⟩ <;> rcases k3 with rfl | ⟨rfl, k3⟩ <;> rcases j1 with rfl | rfl <;> rcases j2 with rfl | rfl
    all_goals
      simp only [go_sem, c_law13_AbortsWithin, t1, t2, and_6, and_5, and_3, q1, q2, q3, w1, w2, w3, w4, List.length_map, tl, tb, td, kn, reduceCtorEq, ↓reduceIte, Nat.reduceAdd, Nat.reduceEqDiff, Nat.reduceLT, Int.reduceLE, Nat.reduceSub, Nat.reduceLeDiff, Nat.reduceMul, Int.reduceToNat, Int.reduceLT, Int.reduceEq, Int.reduceNeg, Nat.reduceBEq, Nat.reduceBNe]
  · rcases k1 with rfl | ⟨rfl, k1⟩ <;> rcases k2 with rfl | ⟨rfl, k2⟩ <;> rcases k3 with rfl | ⟨rfl, k3⟩ <;> rcases j1 with rfl | rfl <;> rcases j2 with rfl | rfl
    all_goals
      simp only [go_sem, c_law13_AbortsWithin, t1, t2, and_6, and_5, and_3, q1, q2, q3, w1, w2, w3, w4, List.length_map, tl, tb, td, kn, reduceCtorEq, ↓reduceIte, Nat.reduceAdd, Nat.reduceEqDiff, Nat.reduceLT, Int.reduceLE, Nat.reduceSub, Nat.reduceLeDiff, Nat.reduceMul, Int.reduceToNat, Int.reduceLT, Int.reduceEq, Int.reduceNeg, Nat.reduceBEq, Nat.reduceBNe]
end Go.Abs
