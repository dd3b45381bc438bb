import Derived.Test.YtegpgelddogoiaaBS5
import Derived.Test.YtegpgelddogoiaaB0
namespace Go.Abs
open Go Go.RowKit
set_option linter.unusedVariables false
set_option linter.unusedSimpArgs false

theorem begins_spec14 (t : List Int) (n : Int) (ht : ∀ x ∈ t, I64 x) (hl : t.length * 8 ≤ 140737488351232) (hn : I64 n) :
    W n_law14_FoldBegins [.list 1 (ints .i64 t) .ro, .int .i64 n] [] = some (.bool true, []) := by
  obtain ⟨f, t1, hf⟩ : ∃ f, W n_keep_Row [.list 1 (ints .i64 t) .ro, .int .i64 0, .int .i64 20] (hx [] []) = some (.list 7 ((rowOf t 0 20).map Ba.V) f, hx [] []) ∧ (f = .ro ∨ (f = .full ∧ rowOf t 0 20 = [])) := row_spec t (by omega) 0 (by decide) (by decide) 20 (by decide) (hx [] [])
  have hri := row_ri t (by omega) 0 (by decide) (by decide) 20
  have hfit : ∀ b ∈ rowOf t 0 20, Fit b := hri.fit
  have hlen : (rowOf t 0 20).length ≤ 20 := hri.len
  have hrow := row_rowC t 0 20
  generalize rowOf t 0 20 = L at *
  have t0 := fun H => within_spec n 0 (L.length : Nat) H (by omega) (by omega) (by omega)
  have r0 := withinQ_range n 0 (L.length : Nat) (by omega)
  obtain ⟨k, hk⟩ : ∃ k : Nat, withinQ n 0 (L.length : Nat) = (k : Int) := ⟨(withinQ n 0 (L.length : Nat)).toNat, by omega⟩
  rw [hk] at r0
  simp only [hk] at t0
  have hfA : ∀ b ∈ L.take k, Fit b := fun b hb => hfit b (List.mem_of_mem_take hb)
  have hlA : (L.take k).length ≤ 20 := Nat.le_trans (List.length_take_le _ _) (by omega)
  have hL := List.take_append_drop k L
  have hsm : stableE 0 (L.take k) ≤ stableE 0 L := by
    have := stable_mono (L.take k) (L.drop k) 0 (by decide) (by rw [hL]; exact hfit) (by rw [hL]; exact hrow)
    rwa [hL] at this
  have hem : endE 0 (L.take k) ≤ endE 0 L := by
    have hr' : RowC 0 (L.take k ++ L.drop k) := by rw [hL]; exact hrow
    have h1 := RowC.app hr'
    have h2 := endE_le (L := L.drop k) (s := endE 0 (L.take k)) (fun b hb => hfit b (List.mem_of_mem_drop hb)) h1.1
    rw [← h1.2, hL] at h2
    exact h2
  obtain ⟨R, hR⟩ := comm_take L k hfit hrow
  have tca := fun H => committed_spec (L.take k) hfA (by omega) 0 H
  have tcb := fun H => committed_spec L hfit (by omega) 0 H
  have tsa := fun H => stable_spec (L.take k) hfA (by omega) 0 H
  have tsb := fun H => stable_spec L hfit (by omega) 0 H
  have tea := fun H => fend_spec (L.take k) hfA (by omega) 0 H
  have teb := fun H => fend_spec L hfit (by omega) 0 H
  have hca := commL_len (stableE 0 (L.take k)) (L.take k) hfA
  have e2 : (L.map Ba.V).take k = (L.take k).map Ba.V := (List.map_take ..).symm
  have g0 : (0 : Int) ≤ (k : Nat) := by omega
  have g1 : (k : Int) ≤ (L.length : Nat) := by omega
  have g2 : ((k : Nat) : Int).toNat = k := by omega
  have kn := known_spec
  generalize L.take k = A at *
  generalize commL (stableE 0 A) A = X at *
  generalize hY : commL (stableE 0 L) L = Y at *
  generalize stableE 0 A = sa at *
  generalize stableE 0 L = sb at *
  generalize endE 0 A = ea at *
  generalize endE 0 L = eb at *
  have hXY : Y.length = X.length + R.length := by rw [← hR, List.length_append]
  have c1 : ((X.length : Nat) : Int) ≤ (Y.length : Nat) := by omega
  have tg := fun H => gots_self X (by omega) H
  have d1 : (Y.map gV).take X.length = X.map gV := by rw [← hR, ← List.map_take]; simp
  have g3 : (0 : Int) ≤ (X.length : Nat) := by omega
  have g4 : ((X.length : Nat) : Int).toNat = X.length := by omega
  refine W_fn rfl rfl ?_
  rcases hf with rfl | ⟨rfl, hnil⟩
  · simp only [go_sem, c_law14_FoldBegins, t1, List.length_map, t0, slH, g0, g1, g2, e2, tca, tcb, c1, g3, g4, d1, tg, tsa, tsb, hsm, tea, teb, hem, kn, reduceCtorEq, ↓reduceIte, Nat.reduceAdd, Nat.reduceEqDiff, Nat.reduceLT, Int.reduceLE, Nat.reduceSub, Nat.reduceLeDiff, Nat.reduceMul, Int.reduceToNat, Int.reduceLT, Int.reduceEq, Int.reduceNeg, Nat.reduceBEq, Nat.reduceBNe]
  · simp only [go_sem, c_law14_FoldBegins, t1, List.length_map, t0, slH, g0, g1, g2, e2, tca, tcb, c1, g3, g4, d1, tg, tsa, tsb, hsm, tea, teb, hem, kn, reduceCtorEq, ↓reduceIte, Nat.reduceAdd, Nat.reduceEqDiff, Nat.reduceLT, Int.reduceLE, Nat.reduceSub, Nat.reduceLeDiff, Nat.reduceMul, Int.reduceToNat, Int.reduceLT, Int.reduceEq, Int.reduceNeg, Nat.reduceBEq, Nat.reduceBNe]
end Go.Abs
