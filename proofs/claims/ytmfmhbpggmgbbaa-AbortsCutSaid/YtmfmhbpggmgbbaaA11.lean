import Derived.Test.YtmfmhbpggmgbbaaBS6
namespace Go.Abs
open Go Go.RowKit
set_option linter.unusedVariables false
set_option linter.unusedSimpArgs false

theorem get_set_eq {L : Heap} {i : Nat} {B B' : Box} (h : L[i]? = some B) : (L.set i B')[i]? = some B' := by
  have hi := (List.getElem?_eq_some_iff.1 h).1
  rw [List.getElem?_set, if_pos rfl, if_pos hi]
theorem get_set_ne {L : Heap} {i j : Nat} {B B' : Box} (h : L[j]? = some B) (hn : i ≠ j) : (L.set i B')[j]? = some B := by
  rw [List.getElem?_set, if_neg hn]; exact h
theorem get_app {L X : Heap} {i : Nat} {B : Box} (h : L[i]? = some B) : (L ++ X)[i]? = some B := by
  have hi := (List.getElem?_eq_some_iff.1 h).1
  rw [List.getElem?_append_left hi]; exact h
theorem get_new {L X : Heap} {k : Nat} : (L ++ X)[L.length + k]? = X[k]? := by
  rw [List.getElem?_append_right (by omega)]; congr 1; omega
theorem old_of {L : Heap} {i : Nat} {B : Box} (h : L[i]? = some B) : Old (hx [] L) i B := ⟨h⟩
theorem hx_is (H L : Heap) : hx H L = hx [] (H ++ L) := rfl
theorem pt_is (H : Heap) (k : Nat) : pt H k = H.length + k := rfl

set_option maxHeartbeats 2000000 in
theorem cut_spec13 (t : List Int) (n : Int) (ht : ∀ x ∈ t, I64 x) (hl : t.length * 8 ≤ 140737488351232) (hn : I64 n) :
    W n_law13_AbortsCut [.list 1 (ints .i64 t) .ro, .int .i64 n] [] = some (.bool true, []) := by
  obtain ⟨f, t1, hf⟩ : ∃ f, W n_keep_Row [.list 1 (ints .i64 t) .ro, .int .i64 0, .int .i64 40] (hx [] []) = some (.list 7 ((rowOf t 0 40).map Ba.V) f, hx [] []) ∧ (f = .ro ∨ (f = .full ∧ rowOf t 0 40 = [])) := row_spec t (by omega) 0 (by decide) (by decide) 40 (by decide) (hx [] [])
  have hri := row_ri t (by omega) 0 (by decide) (by decide) 40
  have hfit : ∀ b ∈ rowOf t 0 40, Fit b := hri.fit
  have hlen : (rowOf t 0 40).length ≤ 40 := hri.len
  have hrow := row_rowC t 0 40
  generalize rowOf t 0 40 = L at *
  have t0 := fun H => within_spec n 0 (L.length : Nat) H (by omega) (by omega) (by omega)
  have r0 := withinQ_range n 0 (L.length : Nat) (by omega)
  obtain ⟨k, hk⟩ : ∃ k : Nat, withinQ n 0 (L.length : Nat) = (k : Int) := ⟨(withinQ n 0 (L.length : Nat)).toNat, by omega⟩
  rw [hk] at r0
  simp only [hk] at t0
  have hfA : ∀ b ∈ L.take k, Fit b := fun b hb => hfit b (List.mem_of_mem_take hb)
  have hlA : (L.take k).length ≤ 40 := Nat.le_trans (List.length_take_le _ _) (by omega)
  -- the place of the cut
  obtain ⟨e, he, hcut⟩ : ∃ e, (e = if k < L.length then ((L[k]?).getD ⟨0, 0, 0, 0, false, 0, []⟩).base else 1099511627776) ∧ (abOf L [] []).filter (fun d => !decide (d.2.2 ≥ e)) = abOf (L.take k) [] [] := by
    refine ⟨_, rfl, ?_⟩
    have hLk := List.take_append_drop k L
    have hr' : RowC 0 (L.take k ++ L.drop k) := by rw [hLk]; exact hrow
    have hrA := hr'.left
    have hrB := (RowC.app hr').1
    have hfB : ∀ b ∈ L.drop k, Fit b := fun b hb => hfit b (List.mem_of_mem_drop hb)
    refine cut_begin L k hfit hrow _ ?_ ?_
    · intro b hb
      have hb1 := rowc_base hfA hrA b hb
      by_cases c : k < L.length
      · rw [if_pos c, List.getElem?_eq_getElem c]
        have hd : L.drop k = L[k] :: L.drop (k + 1) := List.drop_eq_getElem_cons c
        rw [hd] at hrB
        have := hrB.1
        simp only [Option.getD_some]; omega
      · rw [if_neg c]
        have := endE_bound hfA hrA
        omega
    · intro b hb
      by_cases c : k < L.length
      · rw [if_pos c, List.getElem?_eq_getElem c]
        have hd : L.drop k = L[k] :: L.drop (k + 1) := List.drop_eq_getElem_cons c
        rw [hd] at hrB hb hfB
        have h1 := rowc_base hfB hrB b hb
        have h2 := hrB.1
        simp only [Option.getD_some]; omega
      · rw [List.drop_eq_nil_of_le (by omega)] at hb; cases hb
  have hDI := abOf_di hfit
  have hseq := abOf_seq L [] [] (by simp)
  have hrb := fun h => read_back (abOf L [] []) hDI hseq h
  -- a, b
  obtain ⟨N1, fl1, t2, hfl1, hol1⟩ := abof_spec L (fun b hb => (hfit b hb).ok) (fun b hb => by have := (rightE_small (hfit b hb).right).1; omega) (by omega) (hx [] [])
  rw [hx_is (hx [] []), pt_is] at t2
  have ga1 : ((hx [] []) ++ (rwB (abOf L [] []) fl1 :: N1))[(hx [] []).length + 0]? = some (rwB (abOf L [] []) fl1) := get_new
  generalize (hx [] []).length + 0 = ia at *
  generalize (hx [] []) ++ (rwB (abOf L [] []) fl1 :: N1) = L1 at *
  obtain ⟨N2, fl2, t3, hfl2, hol2⟩ := abof_spec (L.take k) (fun b hb => (hfA b hb).ok) (fun b hb => by have := (rightE_small (hfA b hb).right).1; omega) (by omega) (hx [] L1)
  rw [hx_is (hx [] L1), pt_is] at t3
  have hia1 : ia < L1.length := (List.getElem?_eq_some_iff.1 ga1).1
  have ga2 : (hx [] L1 ++ (rwB (abOf (L.take k) [] []) fl2 :: N2))[ia]? = some (rwB (abOf L [] []) fl1) := get_app ga1
  have gb2 : (hx [] L1 ++ (rwB (abOf (L.take k) [] []) fl2 :: N2))[(hx [] L1).length + 0]? = some (rwB (abOf (L.take k) [] []) fl2) := get_new
  have hab : ia ≠ (hx [] L1).length + 0 := by have : (hx [] L1).length = L1.length := rfl; omega
  generalize (hx [] L1).length + 0 = ib at *
  generalize hx [] L1 ++ (rwB (abOf (L.take k) [] []) fl2 :: N2) = L2 at *
  generalize abOf (L.take k) [] [] = Db at *
  have t1' := t1
  -- written, read
  have hDl : (abOf L [] []).length ≤ 1000 := by omega
  generalize hD : abOf L [] [] = D at *
  have t4 := abbytes_spec D hDI (by omega) fl1 hfl1 ia (hx [] L2) (old_of ga2)
  have ga3 : (L2.set ia (rwB D .uniq))[ia]? = some (rwB D .uniq) := get_set_eq ga2
  have gb3 : (L2.set ia (rwB D .uniq))[ib]? = some (rwB Db fl2) := get_set_ne gb2 hab
  rw [show (hx [] L2).set ia (rwB D .uniq) = hx [] (L2.set ia (rwB D .uniq)) from rfl] at t4
  generalize L2.set ia (rwB D .uniq) = L3 at *
  have hsb : ∀ x ∈ sealE (encD D), 0 ≤ x ∧ x < 256 := by
    intro x hx
    have hb := encD_bytes hDI (by omega)
    have hlt := crcN_lt (toN (encD D)) (toN_byte7 hb)
    unfold sealE at hx
    rcases List.mem_append.1 hx with hx | hx
    · simp only [le4, List.mem_cons, List.mem_nil_iff, or_false] at hx
      rcases hx with rfl | rfl | rfl | rfl <;> omega
    · exact hb x hx
  have hsl : (sealE (encD D)).length ≤ 1000000 := by
    have h1 := encR_len D
    have h2 := pN_len ((D.length : Nat) : Int)
    show (le4 _ ++ encD D).length ≤ _
    unfold encD
    rw [List.length_append, List.length_append]
    simp only [le4, List.length_cons, List.length_nil]; omega
  rcases abread_spec (sealE (encD D)) hsb (by omega) (hx [] L3) with ⟨h1, _⟩ | ⟨D', fl3, B, N3, h1, hfl3, _, t5⟩
  · rw [hrb (by omega)] at h1; cases h1
  rw [hrb (by omega)] at h1
  simp only [Option.some.injEq] at h1
  subst h1
  rw [hx_is (hx [] L3), pt_is] at t5
  have ga4 : (hx [] L3 ++ (B :: rwB D fl3 :: N3))[ia]? = some (rwB D .uniq) := get_app ga3
  have gb4 : (hx [] L3 ++ (B :: rwB D fl3 :: N3))[ib]? = some (rwB Db fl2) := get_app gb3
  have gx4 : (hx [] L3 ++ (B :: rwB D fl3 :: N3))[(hx [] L3).length + 1]? = some (rwB D fl3) := get_new
  have hia3 : ia < L3.length := (List.getElem?_eq_some_iff.1 ga3).1
  have hib3 : ib < L3.length := (List.getElem?_eq_some_iff.1 gb3).1
  have hax : ia ≠ (hx [] L3).length + 1 := by have : (hx [] L3).length = L3.length := rfl; omega
  have hbx : (hx [] L3).length + 1 ≠ ib := by have : (hx [] L3).length = L3.length := rfl; omega
  generalize (hx [] L3).length + 1 = ix at *
  generalize hx [] L3 ++ (B :: rwB D fl3 :: N3) = L4 at *
  generalize sealE (encD D) = S at *
  -- cut
  have t6 := abcut_spec D (by omega) .uniq (.inl rfl) e ia (hx [] L4) (old_of ga4)
  rw [hcut] at t6
  have ga5 : (L4.set ia (rwB Db .uniq))[ia]? = some (rwB Db .uniq) := get_set_eq ga4
  have gb5 : (L4.set ia (rwB Db .uniq))[ib]? = some (rwB Db fl2) := get_set_ne gb4 hab
  have gx5 : (L4.set ia (rwB Db .uniq))[ix]? = some (rwB D fl3) := get_set_ne gx4 hax
  rw [show (hx [] L4).set ia (rwB Db .uniq) = hx [] (L4.set ia (rwB Db .uniq)) from rfl] at t6
  generalize L4.set ia (rwB Db .uniq) = L5 at *
  -- all of what was read, of the row again
  have t7 := aball_spec D (by omega) fl3 hfl3 ix (hx [] L5) (old_of gx5)
  have ga6 : (L5.set ix (rwB D .uniq))[ia]? = some (rwB Db .uniq) := get_set_ne ga5 (fun h => hax h.symm)
  have gb6 : (L5.set ix (rwB D .uniq))[ib]? = some (rwB Db fl2) := get_set_ne gb5 hbx
  rw [show (hx [] L5).set ix (rwB D .uniq) = hx [] (L5.set ix (rwB D .uniq)) from rfl] at t7
  generalize L5.set ix (rwB D .uniq) = L6 at *
  obtain ⟨N4, fl4, t8, hfl4, _⟩ := abof_spec L (fun b hb => (hfit b hb).ok) (fun b hb => by have := (rightE_small (hfit b hb).right).1; omega) (by omega) (hx [] L6)
  rw [hD] at t8 hfl4
  rw [hx_is (hx [] L6), pt_is] at t8
  have ga7 : (hx [] L6 ++ (rwB D fl4 :: N4))[ia]? = some (rwB Db .uniq) := get_app ga6
  have gb7 : (hx [] L6 ++ (rwB D fl4 :: N4))[ib]? = some (rwB Db fl2) := get_app gb6
  have gc7 : (hx [] L6 ++ (rwB D fl4 :: N4))[(hx [] L6).length + 0]? = some (rwB D fl4) := get_new
  have hia6 : ia < L6.length := (List.getElem?_eq_some_iff.1 ga6).1
  have hib6 : ib < L6.length := (List.getElem?_eq_some_iff.1 gb6).1
  have hac : (hx [] L6).length + 0 ≠ ia := by have : (hx [] L6).length = L6.length := rfl; omega
  have hbc : (hx [] L6).length + 0 ≠ ib := by have : (hx [] L6).length = L6.length := rfl; omega
  generalize (hx [] L6).length + 0 = ic at *
  generalize hx [] L6 ++ (rwB D fl4 :: N4) = L7 at *
  have t9 := aball_spec D (by omega) fl4 hfl4 ic (hx [] L7) (old_of gc7)
  have ga8 : (L7.set ic (rwB D .uniq))[ia]? = some (rwB Db .uniq) := get_set_ne ga7 hac
  have gb8 : (L7.set ic (rwB D .uniq))[ib]? = some (rwB Db fl2) := get_set_ne gb7 hbc
  rw [show (hx [] L7).set ic (rwB D .uniq) = hx [] (L7.set ic (rwB D .uniq)) from rfl] at t9
  generalize L7.set ic (rwB D .uniq) = L8 at *
  have t10 := aball_spec Db (by omega) .uniq (.inl rfl) ia (hx [] L8) (old_of ga8)
  have gb9 : (L8.set ia (rwB Db .uniq))[ib]? = some (rwB Db fl2) := get_set_ne gb8 hab
  rw [show (hx [] L8).set ia (rwB Db .uniq) = hx [] (L8.set ia (rwB Db .uniq)) from rfl] at t10
  generalize L8.set ia (rwB Db .uniq) = L9 at *
  have t11 := aball_spec Db (by omega) fl2 hfl2 ib (hx [] L9) (old_of gb9)
  rw [show (hx [] L9).set ib (rwB Db .uniq) = hx [] (L9.set ib (rwB Db .uniq)) from rfl] at t11
  generalize L9.set ib (rwB Db .uniq) = L10 at *
  have td := fun H => dropped_self D (by omega) H
  have td2 := fun H => dropped_self Db (by omega) H
  have kn := known_spec
  have e2 : (L.map Ba.V).take k = (L.take k).map Ba.V := (List.map_take ..).symm
  have g0 : (0 : Int) ≤ (k : Nat) := by omega
  have g1 : (k : Int) ≤ (L.length : Nat) := by omega
  have g2 : ((k : Nat) : Int).toNat = k := by omega
  generalize hLA : L.take k = LA at *
  clear ga1 ga2 ga3 ga4 ga5 ga6 ga7 ga8 gb2 gb3 gb4 gb5 gb6 gb7 gb8 gb9 gx4 gx5 gc7 hrb hseq hDI hcut hD hsb hrow hri
  refine W_fn rfl rfl ?_
  by_cases c : k < L.length
  · rw [if_pos c] at he
    have c' : ((k : Nat) : Int) < (L.length : Int) := by omega
    have e1 : (L.map Ba.V)[k]? = some (.agg [.int .i64 e, .int .i64 L[k].prod, .int .i64 L[k].epoch, .int .i64 L[k].seq, .bool L[k].txn, .int .i64 L[k].mark, .list 2 (L[k].recs.map rcV) .ro]) := by
      rw [List.getElem?_map, List.getElem?_eq_getElem c, he, List.getElem?_eq_getElem c]; rfl
    rcases hf with rfl | ⟨rfl, hnil⟩
    · simp only [go_sem, c_law13_AbortsCut, t1, List.length_map, t0, slH, g0, g1, g2, e2, t2, t3, t4, t5, c', e1, t6, t7, t8, t9, t10, t11, td, td2, kn, reduceCtorEq, ↓reduceIte, Nat.reduceAdd, Nat.reduceEqDiff, Nat.reduceLT, Int.reduceLE, Nat.reduceSub, Nat.reduceLeDiff, Nat.reduceMul, Int.reduceToNat, Int.reduceLT, Int.reduceEq, Int.reduceNeg, Nat.reduceBEq, Nat.reduceBNe]
    · rw [hnil] at c; simp at c
  · rw [if_neg c] at he
    have c' : ¬ ((k : Nat) : Int) < (L.length : Int) := by omega
    subst he
    rcases hf with rfl | ⟨rfl, hnil⟩
    · simp only [go_sem, c_law13_AbortsCut, t1, List.length_map, t0, slH, g0, g1, g2, e2, t2, t3, t4, t5, c', t6, t7, t8, t9, t10, t11, td, td2, kn, reduceCtorEq, ↓reduceIte, Nat.reduceAdd, Nat.reduceEqDiff, Nat.reduceLT, Int.reduceLE, Nat.reduceSub, Nat.reduceLeDiff, Nat.reduceMul, Int.reduceToNat, Int.reduceLT, Int.reduceEq, Int.reduceNeg, Nat.reduceBEq, Nat.reduceBNe]
    · simp only [go_sem, c_law13_AbortsCut, t1, List.length_map, t0, slH, g0, g1, g2, e2, t2, t3, t4, t5, c', t6, t7, t8, t9, t10, t11, td, td2, kn, reduceCtorEq, ↓reduceIte, Nat.reduceAdd, Nat.reduceEqDiff, Nat.reduceLT, Int.reduceLE, Nat.reduceSub, Nat.reduceLeDiff, Nat.reduceMul, Int.reduceToNat, Int.reduceLT, Int.reduceEq, Int.reduceNeg, Nat.reduceBEq, Nat.reduceBNe]
end Go.Abs
