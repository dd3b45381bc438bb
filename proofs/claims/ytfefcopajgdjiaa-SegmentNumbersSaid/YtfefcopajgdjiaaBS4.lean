import Derived.Test.YtfefcopajgdjiaaBS3
namespace Go.Abs
open Go Go.RowKit
set_option linter.unusedVariables false
set_option linter.unusedSimpArgs false
theorem ref_back_loop (l : List Int) (H : Heap) (r q : List Int) : ∀ (p : List Int) (x : Int), l = p ++ r ++ q → p.length + r.length = 8 →
  loopA W loopW (.ghost (.kill k_ref1_Back_0) l_ref1_Back_0) [(0, bytes l .ro), (4, .int .u64 x), (5, .int .i64 (p.length : Int))] H = some (.exit 0, [(4, .int .u64 (bk r x))], H) := by
 induction r with
 | nil =>
  intro p x hp hl
  have h1 : ¬ ((p.length : Int) < 8) := by simp at hl; omega
  refine loop_step l_ref1_Back_0.eq_1 k_ref1_Back_0.eq_1 (by kernel_rfl) ?_
  simp only [go_sem, trim_same, h1, bk, reduceCtorEq, ↓reduceIte, Nat.reduceAdd, Nat.reduceEqDiff, Nat.reduceLT, Int.reduceLE, Nat.reduceSub, Nat.reduceLeDiff, Nat.reduceMul, Int.reduceToNat, Int.reduceLT, Int.reduceEq, Int.reduceNeg, Nat.reduceBEq, Nat.reduceBNe]
 | cons c r ih =>
  intro p x hp hl
  have h1 : (p.length : Int) < 8 := by simp at hl; omega
  have h2 : (0 : Int) ≤ (p.length : Int) := by omega
  have h3 := ints_at (k := .u8) (l := l) (p := p) (c := c) (r := r ++ q) (by rw [hp]; simp) rfl
  have e8 : IntKind.i64.wrap ((p.length : Int) + 1) = ((p.length + 1 : Nat) : Int) := by rw [wrap_id (by unfold I64; omega)]; omega
  have hn := ih (p ++ [c]) (bits .or .u64 (shl .u64 x 8) (IntKind.u64.wrap c)) (by rw [hp]; simp) (by simp at hl ⊢; omega)
  rw [show (p ++ [c]).length = p.length + 1 by simp] at hn
  refine loop_step l_ref1_Back_0.eq_1 k_ref1_Back_0.eq_1 (by kernel_rfl) ?_
  simp only [go_sem, trim_same, h1, h2, h3, e8, reduceCtorEq, ↓reduceIte, Nat.reduceAdd, Nat.reduceEqDiff, Nat.reduceLT, Int.reduceLE, Nat.reduceSub, Nat.reduceLeDiff, Nat.reduceMul, Int.reduceToNat, Int.reduceLT, Int.reduceEq, Int.reduceNeg, Nat.reduceBEq, Nat.reduceBNe]
  exact hn

theorem ref_back_spec (l : List Int) (H : Heap) : W n_ref1_Back [bytes l .ro] H = some (backV l, H) := by
 refine W_fn0 rfl rfl ?_
 have e3 : (ints .u8 l).length = l.length := by simp
 unfold backV
 by_cases h : l.length < 8
 ·rw [if_pos h]
  have h1 : (l.length : Int) < 8 := by omega
  simp only [go_sem, trim_same, c_ref1_Back, e3, h1, reduceCtorEq, ↓reduceIte, Nat.reduceAdd, Nat.reduceEqDiff, Nat.reduceLT, Int.reduceLE, Nat.reduceSub, Nat.reduceLeDiff, Nat.reduceMul, Int.reduceToNat, Int.reduceLT, Int.reduceEq, Int.reduceNeg, Nat.reduceBEq, Nat.reduceBNe]
 ·rw [if_neg h]
  have h1 : ¬ ((l.length : Int) < 8) := by omega
  have h8 : (l.take 8).length = 8 := by rw [List.length_take]; omega
  have hl := ref_back_loop l H (l.take 8) (l.drop 8) [] 0 (by simp) (by simpa using h8)
  simp only [List.length_nil, Int.natCast_zero] at hl
  simp only [go_sem, trim_same, c_ref1_Back, e3, h1, hl, reduceCtorEq, ↓reduceIte, Nat.reduceAdd, Nat.reduceEqDiff, Nat.reduceLT, Int.reduceLE, Nat.reduceSub, Nat.reduceLeDiff, Nat.reduceMul, Int.reduceToNat, Int.reduceLT, Int.reduceEq, Int.reduceNeg, Nat.reduceBEq, Nat.reduceBNe]
theorem ref_get_loop (l : List Int) (hb : Bytes l) (hl : l.length < 70368744177664) (H : Heap) (r : List Int) : ∀ (p : List Int) (u : Int), l = p ++ r → (∀ x ∈ p, 128 ≤ x ∧ x < 256) → p.length ≤ 10 → (p.length ≤ 9 → u = Vt.val p) →
  loopA W loopW (.ghost (.kill k_ref1_Get_0) l_ref1_Get_0) [(0, bytes l .ro), (4, .int .u64 u), (5, .int .i64 (p.length : Int))] H =
   some (.ret, [(2, .int .i64 (told (Vt.dec r p.length (Vt.val p))).1), (3, .int .i64 (told (Vt.dec r p.length (Vt.val p))).2)], H) ∨
  (loopA W loopW (.ghost (.kill k_ref1_Get_0) l_ref1_Get_0) [(0, bytes l .ro), (4, .int .u64 u), (5, .int .i64 (p.length : Int))] H = some (.exit 0, [], H) ∧ told (Vt.dec r p.length (Vt.val p)) = (0, 0)) := by
 have e3 : (ints .u8 l).length = l.length := by simp
 induction r with
 | nil =>
  intro p u hp hc h10 hu
  have hlen : l.length = p.length := by rw [hp, List.append_nil]
  right
  refine ⟨loop_step l_ref1_Get_0.eq_1 k_ref1_Get_0.eq_1 (by kernel_rfl) ?_, rfl⟩
  have h1 : ¬ ((p.length : Int) < (l.length : Int)) := by omega
  simp only [go_sem, trim_same, h1, e3, reduceCtorEq, ↓reduceIte, Nat.reduceAdd, Nat.reduceEqDiff, Nat.reduceLT, Int.reduceLE, Nat.reduceSub, Nat.reduceLeDiff, Nat.reduceMul, Int.reduceToNat, Int.reduceLT, Int.reduceEq, Int.reduceNeg, Nat.reduceBEq, Nat.reduceBNe]
 | cons c r ih =>
  intro p u hp hpc h10 hu
  have hlen : l.length = p.length + (r.length + 1) := by rw [hp, List.length_append, List.length_cons]
  have hc := hb c (by rw [hp]; simp)
  have h0 : (p.length : Int) < (l.length : Int) := by omega
  by_cases hi : p.length ≥ 10
  ·right
   rw [Vt.dec, if_pos hi]
   refine ⟨loop_step l_ref1_Get_0.eq_1 k_ref1_Get_0.eq_1 (by kernel_rfl) ?_, rfl⟩
   have h1 : ¬ ((p.length : Int) < 10) := by omega
   simp only [go_sem, trim_same, h0, h1, e3, reduceCtorEq, ↓reduceIte, Nat.reduceAdd, Nat.reduceEqDiff, Nat.reduceLT, Int.reduceLE, Nat.reduceSub, Nat.reduceLeDiff, Nat.reduceMul, Int.reduceToNat, Int.reduceLT, Int.reduceEq, Int.reduceNeg, Nat.reduceBEq, Nat.reduceBNe]
  ·have h1 : (p.length : Int) < 10 := by omega
   have h2 : (0 : Int) ≤ (p.length : Int) := by omega
   have h3 := ints_at (k := .u8) hp rfl
   have e1 := Num.and127_u8 c hc.1 hc.2
   have e2 : IntKind.u64.wrap (c % 128) = c % 128 := by rw [Num.wu64]; omega
   have e4 : IntKind.u64.wrap (IntKind.i64.wrap (7 * (p.length : Int))) = (p.length : Int) * 7 := by rw [wrap_id (by unfold I64; omega), Num.wu64]; omega
   have e4' : (0 : Int) ≤ (p.length : Int) * 7 := by omega
   have e5 := shl7 p.length (by omega) (c % 128)
   have hv0 := Vt.val_nonneg p
   have hv1 := Vt.val_lt p
   have hu' := hu (by omega)
   subst hu'
   have hj := joins p.length (by omega) (Vt.val p) (c % 128) hv0 hv1 (by omega) (by omega)
   have e6 := hj.1
   have e8 : IntKind.i64.wrap ((p.length : Int) + 1) = ((p.length + 1 : Nat) : Int) := by rw [wrap_id (by unfold I64; omega)]; omega
   have hl1 : ((p.length + 1 : Nat) : Int) = (p.length : Int) + 1 := by omega
   by_cases h128 : c < 128
   ·have e128 : c % 128 = c := by omega
    rw [e128] at e6
    have hr : 0 ≤ (Vt.val p + 128 ^ p.length * c) % 18446744073709551616 ∧ (Vt.val p + 128 ^ p.length * c) % 18446744073709551616 < 18446744073709551616 := by omega
    have hz := zag_own' _ hr.1 hr.2
    have hzr : I64 _ := Num.zag_range _ hr
    have hput := ref_put_spec [] _ H .ro (.inl rfl) hzr (by simp)
    rw [List.nil_append, Num.zig_zag _ hr.1] at hput
    change W n_ref1_Put [.list 1 [] .ro, _] H = _ at hput
    have htk : (ints .u8 l).take ((p.length + 1 : Nat) : Int).toNat = ints .u8 (p ++ [c]) := by
     rw [Int.toNat_natCast, ← List.map_take, hp, List.take_append, List.take_of_length_le (by omega), Nat.add_sub_cancel_left]; rfl
    have h5 : (((p.length + 1 : Nat) : Int)) ≤ (l.length : Int) := by omega
    have h6 : (0 : Int) ≤ ((p.length + 1 : Nat) : Int) := by omega
    have hd := Vt.dec_last p c r hpc (by omega) hc.1 h128 _ rfl
    have hbp : Bytes (p ++ [c]) := bytes_app (fun x hx => ⟨by have := hpc x hx; omega, (hpc x hx).2⟩) (fun x hx => by rw [List.mem_singleton] at hx; omega)
    have hbe : Bytes (Vt.enc 9 ((Vt.val p + 128 ^ p.length * c) % 18446744073709551616)) := Vt.enc_bytes 9 _ hr.1 (Int.lt_trans hr.2 (by decide))
    rw [e128] at e1 e2 e5
    left
    by_cases he : Vt.enc 9 ((Vt.val p + 128 ^ p.length * c) % 18446744073709551616) = p ++ [c]
    ·have hq : (toS (Vt.enc 9 ((Vt.val p + 128 ^ p.length * c) % 18446744073709551616)) == toS (p ++ [c])) = true := by rw [he]; simp
     rw [hd.1 he]
     refine loop_step l_ref1_Get_0.eq_1 k_ref1_Get_0.eq_1 (by kernel_rfl) ?_
     simp only [go_sem, trim_same, h0, h1, h2, h3, e1, e2, e3, e4, e4', e5, e6, e8, h128, hz, hput, sl_hi, h5, h6, htk, hq, told, reduceCtorEq, ↓reduceIte, Nat.reduceAdd, Nat.reduceEqDiff, Nat.reduceLT, Int.reduceLE, Nat.reduceSub, Nat.reduceLeDiff, Nat.reduceMul, Int.reduceToNat, Int.reduceLT, Int.reduceEq, Int.reduceNeg, Nat.reduceBEq, Nat.reduceBNe]
    ·have hq : (toS (Vt.enc 9 ((Vt.val p + 128 ^ p.length * c) % 18446744073709551616)) == toS (p ++ [c])) = false := by
      simp only [beq_eq_false_iff_ne]; exact fun h => he (toS_inj hbe hbp h)
     rw [hd.2 he]
     refine loop_step l_ref1_Get_0.eq_1 k_ref1_Get_0.eq_1 (by kernel_rfl) ?_
     simp only [go_sem, trim_same, h0, h1, h2, h3, e1, e2, e3, e4, e4', e5, e6, e8, h128, hz, hput, sl_hi, h5, h6, htk, hq, told, reduceCtorEq, ↓reduceIte, Nat.reduceAdd, Nat.reduceEqDiff, Nat.reduceLT, Int.reduceLE, Nat.reduceSub, Nat.reduceLeDiff, Nat.reduceMul, Int.reduceToNat, Int.reduceLT, Int.reduceEq, Int.reduceNeg, Nat.reduceBEq, Nat.reduceBNe]
   ·have hnx := ih (p ++ [c]) ((Vt.val p + 128 ^ p.length * (c % 128)) % 18446744073709551616) (by rw [hp, List.append_assoc]; rfl) (fun x hx => (List.mem_append.1 hx).elim (hpc x) (fun h => by rw [List.mem_singleton] at h; omega)) (by simp only [List.length_append, List.length_cons, List.length_nil]; omega) (by
     intro h
     rw [List.length_append, List.length_cons, List.length_nil] at h
     have hval : Vt.val (p ++ [c]) = Vt.val p + 128 ^ p.length * (c % 128) := by rw [Vt.val_append]; simp only [Vt.val]; congr 1; congr 1; omega
     rw [hval]
     have := hj.2.1 (by omega)
     have h3 : 0 ≤ 128 ^ p.length * (c % 128) := Int.mul_nonneg (Int.le_of_lt (Vt.pow_pos _)) (by omega)
     omega)
    rw [show (p ++ [c]).length = p.length + 1 by simp] at hnx
    have hval : Vt.val (p ++ [c]) = Vt.val p + 128 ^ p.length * (c % 128) := by rw [Vt.val_append]; simp only [Vt.val]; congr 1; congr 1; omega
    rw [hval] at hnx
    have step : ∀ q, loopA W loopW (.ghost (.kill k_ref1_Get_0) l_ref1_Get_0) [(0, bytes l .ro), (4, .int .u64 ((Vt.val p + 128 ^ p.length * (c % 128)) % 18446744073709551616)), (5, .int .i64 ((p.length + 1 : Nat) : Int))] H = some q →
      loopA W loopW (.ghost (.kill k_ref1_Get_0) l_ref1_Get_0) [(0, bytes l .ro), (4, .int .u64 (Vt.val p)), (5, .int .i64 (p.length : Int))] H = some q := by
     intro q hq
     refine loop_step l_ref1_Get_0.eq_1 k_ref1_Get_0.eq_1 (by kernel_rfl) ?_
     simp only [go_sem, trim_same, h0, h1, h2, h3, e1, e2, e3, e4, e4', e5, e6, e8, h128, reduceCtorEq, ↓reduceIte, Nat.reduceAdd, Nat.reduceEqDiff, Nat.reduceLT, Int.reduceLE, Nat.reduceSub, Nat.reduceLeDiff, Nat.reduceMul, Int.reduceToNat, Int.reduceLT, Int.reduceEq, Int.reduceNeg, Nat.reduceBEq, Nat.reduceBNe]
     exact hq
    rw [Vt.dec, if_neg hi]
    by_cases h9 : p.length = 9 ∧ c % 128 ≥ 2
    ·rw [if_pos h9]
     have hn : Vt.dec r (p.length + 1) (Vt.val p + 128 ^ p.length * (c % 128)) = none := by
      rw [h9.1]
      cases r with
      | nil => rfl
      | cons y r => rw [Vt.dec, if_pos (by decide)]
     rw [hn] at hnx
     rcases hnx with hn | ⟨hn, ht⟩
     ·exact .inl (step _ hn)
     ·exact .inr ⟨step _ hn, rfl⟩
    ·rw [if_neg h9, if_pos (by omega)]
     rcases hnx with hn | ⟨hn, ht⟩
     ·exact .inl (step _ hn)
     ·exact .inr ⟨step _ hn, ht⟩

theorem ref_get_spec (l : List Int) (H : Heap) (hb : Bytes l) (hl : l.length < 70368744177664) : W n_ref1_Get [bytes l .ro] H = some (.tuple [.int .i64 (told (Vt.dec l 0 0)).1, .int .i64 (told (Vt.dec l 0 0)).2], H) := by
 refine W_fn0 rfl rfl ?_
 have e0 : Vt.val [] = 0 := rfl
 rcases ref_get_loop l hb hl H l [] 0 rfl (by simp) (by simp) (fun _ => rfl) with h | ⟨h, ht⟩
 ·simp only [List.length_nil, Int.natCast_zero, e0] at h
  simp only [go_sem, trim_same, c_ref1_Get, h, reduceCtorEq, ↓reduceIte, Nat.reduceAdd, Nat.reduceEqDiff, Nat.reduceLT, Int.reduceLE, Nat.reduceSub, Nat.reduceLeDiff, Nat.reduceMul, Int.reduceToNat, Int.reduceLT, Int.reduceEq, Int.reduceNeg, Nat.reduceBEq, Nat.reduceBNe]
 ·simp only [List.length_nil, Int.natCast_zero, e0] at h ht
  rw [ht]
  simp only [go_sem, trim_same, c_ref1_Get, h, reduceCtorEq, ↓reduceIte, Nat.reduceAdd, Nat.reduceEqDiff, Nat.reduceLT, Int.reduceLE, Nat.reduceSub, Nat.reduceLeDiff, Nat.reduceMul, Int.reduceToNat, Int.reduceLT, Int.reduceEq, Int.reduceNeg, Nat.reduceBEq, Nat.reduceBNe]
theorem ref_cut_spec (l : List Int) (a : Int) (H : Heap) (hb : Bytes l) (hl : l.length < 70368744177664) : W n_ref1_Cut [bytes l .ro, .int .i64 a] H = some (.tuple [.str (cutS l a).1, .int .i64 (cutS l a).2], H) := by
 have hg := ref_get_spec l H hb hl
 have hr := told_range l
 have e3 : (ints .u8 l).length = l.length := by simp
 refine W_fn0 rfl rfl ?_
 unfold cutS
 generalize told (Vt.dec l 0 0) = g at *
 obtain ⟨n, k⟩ := g
 simp only at hg hr ⊢
 by_cases h1 : k = 0
 ·rw [if_pos h1]
  simp only [go_sem, trim_same, c_ref1_Cut, hg, h1, e3, reduceCtorEq, ↓reduceIte, Nat.reduceAdd, Nat.reduceEqDiff, Nat.reduceLT, Int.reduceLE, Nat.reduceSub, Nat.reduceLeDiff, Nat.reduceMul, Int.reduceToNat, Int.reduceLT, Int.reduceEq, Int.reduceNeg, Nat.reduceBEq, Nat.reduceBNe]
 ·rw [if_neg h1]
  by_cases h2 : n < 0
  ·rw [if_pos h2]
   simp only [go_sem, trim_same, c_ref1_Cut, hg, h1, h2, e3, reduceCtorEq, ↓reduceIte, Nat.reduceAdd, Nat.reduceEqDiff, Nat.reduceLT, Int.reduceLE, Nat.reduceSub, Nat.reduceLeDiff, Nat.reduceMul, Int.reduceToNat, Int.reduceLT, Int.reduceEq, Int.reduceNeg, Nat.reduceBEq, Nat.reduceBNe]
  ·rw [if_neg h2]
   have e1 : IntKind.i64.wrap ((l.length : Int) - k) = (l.length : Int) - k := wrap_id (by unfold I64; omega)
   by_cases h3 : n > a
   ·rw [if_pos (.inl h3)]
    simp only [go_sem, trim_same, c_ref1_Cut, hg, h1, h2, h3, e1, e3, reduceCtorEq, ↓reduceIte, Nat.reduceAdd, Nat.reduceEqDiff, Nat.reduceLT, Int.reduceLE, Nat.reduceSub, Nat.reduceLeDiff, Nat.reduceMul, Int.reduceToNat, Int.reduceLT, Int.reduceEq, Int.reduceNeg, Nat.reduceBEq, Nat.reduceBNe]
   ·by_cases h4 : n > (l.length : Int) - k
    ·rw [if_pos (.inr h4)]
     simp only [go_sem, trim_same, c_ref1_Cut, hg, h1, h2, h3, h4, e1, e3, reduceCtorEq, ↓reduceIte, Nat.reduceAdd, Nat.reduceEqDiff, Nat.reduceLT, Int.reduceLE, Nat.reduceSub, Nat.reduceLeDiff, Nat.reduceMul, Int.reduceToNat, Int.reduceLT, Int.reduceEq, Int.reduceNeg, Nat.reduceBEq, Nat.reduceBNe]
    ·rw [if_neg (show ¬ (n > a ∨ n > (l.length : Int) - k) by omega)]
     have e2 : IntKind.i64.wrap (k + n) = k + n := wrap_id (by unfold I64; omega)
     have h5 : 0 ≤ k := hr.1
     have h6 : k ≤ k + n := by omega
     have h7 : k + n ≤ (l.length : Int) := by omega
     have e4 : ((ints .u8 l).take (k + n).toNat).drop k.toNat = ints .u8 ((l.take (k + n).toNat).drop k.toNat) := by rw [← List.map_take, ← List.map_drop]
     simp only [go_sem, trim_same, c_ref1_Cut, hg, h1, h2, h3, h4, e1, e2, e3, sl_mid, h5, h6, h7, e4, reduceCtorEq, ↓reduceIte, Nat.reduceAdd, Nat.reduceEqDiff, Nat.reduceLT, Int.reduceLE, Nat.reduceSub, Nat.reduceLeDiff, Nat.reduceMul, Int.reduceToNat, Int.reduceLT, Int.reduceEq, Int.reduceNeg, Nat.reduceBEq, Nat.reduceBNe]


end Go.Abs

namespace Go.Abs
open Go Go.RowKit
set_option linter.unusedVariables false
set_option linter.unusedSimpArgs false

/-! ## A row that is written in place -/
theorem thaw_v (v : Nat) (Xs : List AVal) (e : Env) (H : Heap) (N : Heap) (h1 : Env.get e v = .list 1 Xs .uniq) :
  agh (.thaw v) e (hx H N) = some (e.put v (.lbox (pt H N.length)), hx H (N ++ [.arr 1 Xs])) := by
 simp only [agh, h1]
 unfold hx pt
 rw [List.append_assoc, List.length_append]
theorem back_v (v : Nat) (Xs : List AVal) (e : Env) (H : Heap) (N : Heap) (h1 : Env.get e v = .lbox (pt H N.length)) :
  agh (.back v) e (hx H (N ++ [.arr 1 Xs])) = some (e.put v (.list 1 Xs .uniq), hx H (N ++ [.dead])) := by
 have g : (hx H (N ++ [.arr 1 Xs]))[pt H N.length]? = some (.arr 1 Xs) := by rw [hx_get]; simp
 have s : (hx H (N ++ [.arr 1 Xs])).set (pt H N.length) .dead = hx H (N ++ [.dead]) := by rw [hx_set]; simp
 simp only [agh, h1, g, s]
theorem freeze_v (v : Nat) (Xs : List AVal) (e : Env) (H : Heap) (h1 : Env.get e v = .list 1 Xs .uniq) :
  agh (.freeze v) e H = some (e.put v (.list 1 Xs .own), H) := by
 simp only [agh, h1]
theorem ix_v (k : Nat) (Xs : List AVal) (hk : k < Xs.length) (H N : Heap) :
  ev W (.ixAddr 1) [.lbox (pt H N.length), .int .i64 (k : Nat)] (hx H (N ++ [.arr 1 Xs])) = some (.eptr (pt H N.length) k 0, hx H (N ++ [.arr 1 Xs])) := by
 have g : (hx H (N ++ [.arr 1 Xs]))[pt H N.length]? = some (.arr 1 Xs) := by rw [hx_get]; simp
 simp only [ev, g]
 rw [if_pos (by refine ⟨?_, ?_, ?_⟩ <;> first | trivial | omega)]
 simp
theorem ld_v (k : Nat) (xs : List Int) (hk : k < xs.length) (H N : Heap) :
  evLoad false 1 false (.eptr (pt H N.length) k 0) (hx H (N ++ [.arr 1 (ints .u8 xs)])) = some (.int .u8 (xs.getD k 0), hx H (N ++ [.arr 1 (ints .u8 xs)])) := by
 have g : (hx H (N ++ [.arr 1 (ints .u8 xs)]))[pt H N.length]? = some (.arr 1 (ints .u8 xs)) := by rw [hx_get]; simp
 have g2 := getD_at (p := xs) k hk
 simp only [evLoad, g, g2, Option.bind_some]
 rfl
theorem st_v (k : Nat) (xs : List Int) (v : Int) (hk : k < xs.length) (H N : Heap) :
  evStore 1 (.eptr (pt H N.length) k 0) (.int .u8 v) (hx H (N ++ [.arr 1 (ints .u8 xs)])) = some (.tuple [], hx H (N ++ [.arr 1 (ints .u8 (xs.set k v))])) := by
 have g : (hx H (N ++ [.arr 1 (ints .u8 xs)]))[pt H N.length]? = some (.arr 1 (ints .u8 xs)) := by rw [hx_get]; simp
 have g2 := getD_at (p := xs) k hk
 have s : ∀ B, (hx H (N ++ [.arr 1 (ints .u8 xs)])).set (pt H N.length) B = hx H (N ++ [B]) := fun B => by rw [hx_set]; simp
 unfold evStore
 rw [if_pos (by simp [AVal.flat, AVal.share0, AVal.one])]
 simp only [g, g2]
 rw [if_pos (by simp [AVal.cells, AVal.flat, AVal.argOK, AVal.isU]), s]
 simp [AVal.withCells, AVal.cells, AVal.flat, AVal.share0, AVal.strip, overwrite, List.map_set]
theorem apU (xs : List AVal) (h : xs.length * 1 ≤ maxBytes) : evAppend 1 1 true (.list 1 [] .full) xs = some (.list 1 xs .uniq) := by
 simp only [evAppend]
 rw [if_pos (by simpa using h)]
 rfl

end Go.Abs

namespace Go.Abs
open Go Go.RowKit
set_option linter.unusedVariables false
set_option linter.unusedSimpArgs false

/-! ## The document's Read -/
def sealOf (x : List Int) : List Int := le4 (crcN (toN x) : Nat) ++ x
def unsOK (p : List Int) : Bool := decide (4 ≤ p.length) && decide (sealOf (p.drop 4) = p)
theorem sealOf_bytes {x : List Int} (h : ∀ c ∈ x, 0 ≤ c ∧ c < 256) : ∀ c ∈ sealOf x, 0 ≤ c ∧ c < 256 := by
 intro c hc
 unfold sealOf at hc
 rcases List.mem_append.1 hc with hc | hc
 ·simp only [le4, List.mem_cons, List.not_mem_nil, or_false] at hc
  rcases hc with rfl | rfl | rfl | rfl <;> omega
 ·exact h c hc
theorem toS_beq {x y : List Int} (hx : ∀ c ∈ x, 0 ≤ c ∧ c < 256) (hy : ∀ c ∈ y, 0 ≤ c ∧ c < 256) : (toS x == toS y) = decide (x = y) := by
 by_cases h : x = y
 ·rw [h]; simp
 ·have : ¬ toS x = toS y := fun e => h (toS_inj hx hy e)
  rw [beq_eq_false_iff_ne.2 this, decide_eq_false h]
theorem unseal_spec (p : List Int) (hp : ∀ x ∈ p, 0 ≤ x ∧ x < 256) (hl : p.length ≤ 100000) (H : Heap) :
  W n_ref1_Unseal [bytes p .ro] H = some (.tuple [if unsOK p then bytes (p.drop 4) .own else .list 1 [] .full, .bool (unsOK p)], H) := by
 unfold unsOK
 by_cases c : p.length < 4
 ·have c' : (p.length : Int) < 4 := by omega
  have d : decide (4 ≤ p.length) = false := decide_eq_false (by omega)
  rw [d, Bool.false_and, if_neg (by decide)]
  refine W_fn0 rfl rfl ?_
  simp only [go_sem, trim_same, c_ref1_Unseal, List.length_map, c', reduceCtorEq, ↓reduceIte, Nat.reduceAdd, Nat.reduceEqDiff, Nat.reduceLT, Int.reduceLE, Nat.reduceSub, Nat.reduceLeDiff, Nat.reduceMul, Int.reduceToNat, Int.reduceLT, Int.reduceEq, Int.reduceNeg, Nat.reduceBEq, Nat.reduceBNe]
 ·have c' : ¬ (p.length : Int) < 4 := by omega
  have d : decide (4 ≤ p.length) = true := decide_eq_true (by omega)
  rw [d, Bool.true_and]
  have hb4 : ∀ x ∈ p.drop 4, 0 ≤ x ∧ x < 256 := fun x hx => hp x (List.mem_of_mem_drop hx)
  have e4 : (ints .u8 p).drop 4 = ints .u8 (p.drop 4) := by rw [← List.map_drop]
  have l4 : (4 : Int) ≤ (p.length : Int) := by omega
  have ts := fun H => ref_sealed_spec (p.drop 4) H hb4 (by simp; omega)
  have tq := toS_beq (sealOf_bytes hb4) hp
  have lb : (0 + (p.drop 4).length) * 1 ≤ maxBytes := by simp [maxBytes]; omega
  have eS : le4 (crcN (toN (p.drop 4)) : Nat) ++ p.drop 4 = sealOf (p.drop 4) := rfl
  rw [eS] at ts
  clear eS
  generalize sealOf (p.drop 4) = S at *
  generalize p.drop 4 = y at *
  by_cases e : S = p
  ·rw [decide_eq_true e] at tq
   rw [decide_eq_true e, if_pos rfl]
   refine W_fn0 rfl rfl ?_
   simp only [go_sem, trim_same, c_ref1_Unseal, List.length_map, c', slL, l4, e4, ts, tq, apF, List.length_nil, List.nil_append, lb, reduceCtorEq, ↓reduceIte, Nat.reduceAdd, Nat.reduceEqDiff, Nat.reduceLT, Int.reduceLE, Nat.reduceSub, Nat.reduceLeDiff, Nat.reduceMul, Int.reduceToNat, Int.reduceLT, Int.reduceEq, Int.reduceNeg, Nat.reduceBEq, Nat.reduceBNe]
  ·rw [decide_eq_false e] at tq
   rw [decide_eq_false e, if_neg (by decide)]
   refine W_fn0 rfl rfl ?_
   simp only [go_sem, trim_same, c_ref1_Unseal, List.length_map, c', slL, l4, e4, ts, tq, reduceCtorEq, ↓reduceIte, Nat.reduceAdd, Nat.reduceEqDiff, Nat.reduceLT, Int.reduceLE, Nat.reduceSub, Nat.reduceLeDiff, Nat.reduceMul, Int.reduceToNat, Int.reduceLT, Int.reduceEq, Int.reduceNeg, Nat.reduceBEq, Nat.reduceBNe]

def innR (x : List Int) : Nat → Nat → Option (List Rc × Nat)
 | 0, a => some ([], a)
 | k + 1, a =>
  let s1 := cutS (x.drop a) x.length
  let s2 := cutS (x.drop (a + s1.2.toNat)) x.length
  if s1.2 = 0 ∨ s2.2 = 0 then none
  else (innR x k (a + s1.2.toNat + s2.2.toNat)).map fun r => ((s1.1, s2.1) :: r.1, r.2)
theorem W_rback (l : List Int) (H : Heap) : W n_ref1_Back [bytes l .ro] H = some (.tuple [.int .i64 (backI l), .bool (decide (8 ≤ l.length))], H) := by rw [ref_back_spec, backV_eq]
def zeroC : Box := .cells [.int .i64 0, .int .i64 0, .int .i64 0, .int .i64 0, .bool false, .int .i64 0, .list 2 [] .full]
theorem inn_loop (x : List Int) (hb : Bytes x) (hl : x.length ≤ 100000) (n : Nat) (hn : n ≤ 255) (c0 c1' c2' c3 c4 c5 : AVal) (H N : Heap) (k : Nat) : ∀ (i a : Nat) (acc : List Rc) (fl : Fl), i + k = n → acc.length = i → a ≤ x.length → (fl = .own ∨ (fl = .full ∧ acc = [])) →
  (innR x k a = none → ∃ M, loopA W loopW (.ghost (.kill k_ref6_inner_0) l_ref6_inner_0) [(0, bytes x .ro), (2, .ptr (pt H 0) 0), (4, .ptr (pt H 1) 0), (5, .int .i64 (n : Nat)), (6, .int .i64 (a : Nat)), (7, .int .i64 (i : Nat))] (hx H (zeroC :: .cells [c0, c1', c2', c3, c4, c5, .list 2 (acc.map rcV) fl] :: N)) =
   some (.ret, [(2, .ptr (pt H 0) 0), (3, .bool false)], hx H (zeroC :: M))) ∧
  (∀ r e, innR x k a = some (r, e) → ∃ fl', loopA W loopW (.ghost (.kill k_ref6_inner_0) l_ref6_inner_0) [(0, bytes x .ro), (2, .ptr (pt H 0) 0), (4, .ptr (pt H 1) 0), (5, .int .i64 (n : Nat)), (6, .int .i64 (a : Nat)), (7, .int .i64 (i : Nat))] (hx H (zeroC :: .cells [c0, c1', c2', c3, c4, c5, .list 2 (acc.map rcV) fl] :: N)) =
   some (.exit 0, [(0, bytes x .ro), (2, .ptr (pt H 0) 0), (4, .ptr (pt H 1) 0), (6, .int .i64 (e : Nat))], hx H (zeroC :: .cells [c0, c1', c2', c3, c4, c5, .list 2 ((acc ++ r).map rcV) fl'] :: N)) ∧ (fl' = .own ∨ (fl' = .full ∧ acc ++ r = []))) := by
 unfold zeroC
 induction k with
 | zero =>
  intro i a acc fl hi ha hx1 hfl
  have h1 : ¬ ((i : Int) < (n : Int)) := by omega
  refine ⟨fun h => by simp [innR] at h, fun r e h => ?_⟩
  simp only [innR, Option.some.injEq, Prod.mk.injEq] at h
  obtain ⟨rfl, rfl⟩ := h
  refine ⟨fl, ?_, by rw [List.append_nil]; exact hfl⟩
  rw [List.append_nil]
  refine loop_step l_ref6_inner_0.eq_1 k_ref6_inner_0.eq_1 (by kernel_rfl) ?_
  simp only [go_sem, h1, reduceCtorEq, ↓reduceIte, Nat.reduceAdd, Nat.reduceEqDiff, Nat.reduceLT, Int.reduceLE, Nat.reduceSub, Nat.reduceLeDiff, Nat.reduceMul, Int.reduceToNat, Int.reduceLT, Int.reduceEq, Int.reduceNeg, Nat.reduceBEq, Nat.reduceBNe]
 | succ k ih =>
  intro i a acc fl hi hacc ha hfl
  have h1 : ((i : Int) < (n : Int)) := by omega
  have e6 : IntKind.i64.wrap ((i : Int) + 1) = ((i + 1 : Nat) : Int) := by rw [wrap_id (by unfold I64; omega)]; omega
  have a0 : (0 : Int) ≤ (a : Int) := by omega
  have a1 : (a : Int) ≤ (x.length : Int) := by omega
  have d1 : ((a : Nat) : Int).toNat = a := by omega
  have q1 : (ints .u8 x).drop a = ints .u8 (x.drop a) := by rw [← List.map_drop]
  have t1 := fun H => ref_cut_spec (x.drop a) x.length H (bytes_drop a hb) (by simp; omega)
  have r1 := cutS_range (x.drop a) x.length
  unfold innR
  simp only
  rw [List.length_drop] at r1
  generalize cutS (x.drop a) x.length = s1 at *
  obtain ⟨k1, m1⟩ := s1
  simp only at t1 r1 ⊢
  obtain ⟨n1, rfl⟩ := Int.eq_ofNat_of_zero_le r1.1
  simp only [Int.toNat_natCast]
  have w1 : IntKind.i64.wrap ((a : Int) + (n1 : Int)) = ((a + n1 : Nat) : Int) := by rw [wrap_id (by unfold I64; omega)]; omega
  have a2 : (0 : Int) ≤ ((a + n1 : Nat) : Int) := by omega
  have a3 : ((a + n1 : Nat) : Int) ≤ (x.length : Int) := by omega
  have d2 : ((a + n1 : Nat) : Int).toNat = a + n1 := by omega
  have q2 : (ints .u8 x).drop (a + n1) = ints .u8 (x.drop (a + n1)) := by rw [← List.map_drop]
  have t2 := fun H => ref_cut_spec (x.drop (a + n1)) x.length H (bytes_drop (a + n1) hb) (by simp; omega)
  have r2 := cutS_range (x.drop (a + n1)) x.length
  rw [List.length_drop] at r2
  generalize cutS (x.drop (a + n1)) x.length = s2 at *
  obtain ⟨k2, m2⟩ := s2
  simp only at t2 r2 ⊢
  obtain ⟨n2, rfl⟩ := Int.eq_ofNat_of_zero_le r2.1
  simp only [Int.toNat_natCast]
  have w3 : IntKind.i64.wrap (((a + n1 : Nat) : Int) + (n2 : Int)) = ((a + n1 + n2 : Nat) : Int) := by rw [wrap_id (by unfold I64; omega)]; omega
  by_cases c1 : (n1 : Int) = 0
  ·rw [if_pos (.inl c1)]
   refine ⟨fun _ => ⟨.cells [c0, c1', c2', c3, c4, c5, .list 2 (acc.map rcV) fl] :: N, ?_⟩, fun r e h => by cases h⟩
   refine loop_step l_ref6_inner_0.eq_1 k_ref6_inner_0.eq_1 (by kernel_rfl) ?_
   simp only [go_sem, h1, slL, List.length_map, a0, a1, d1, q1, t1, w1, a2, a3, d2, q2, t2, eq_true c1, reduceCtorEq, ↓reduceIte, Nat.reduceAdd, Nat.reduceEqDiff, Nat.reduceLT, Int.reduceLE, Nat.reduceSub, Nat.reduceLeDiff, Nat.reduceMul, Int.reduceToNat, Int.reduceLT, Int.reduceEq, Int.reduceNeg, Nat.reduceBEq, Nat.reduceBNe]
  ·by_cases c2 : (n2 : Int) = 0
   ·rw [if_pos (.inr c2)]
    refine ⟨fun _ => ⟨.cells [c0, c1', c2', c3, c4, c5, .list 2 (acc.map rcV) fl] :: N, ?_⟩, fun r e h => by cases h⟩
    refine loop_step l_ref6_inner_0.eq_1 k_ref6_inner_0.eq_1 (by kernel_rfl) ?_
    simp only [go_sem, h1, slL, List.length_map, a0, a1, d1, q1, t1, w1, a2, a3, d2, q2, t2, c1, eq_true c2, reduceCtorEq, ↓reduceIte, Nat.reduceAdd, Nat.reduceEqDiff, Nat.reduceLT, Int.reduceLE, Nat.reduceSub, Nat.reduceLeDiff, Nat.reduceMul, Int.reduceToNat, Int.reduceLT, Int.reduceEq, Int.reduceNeg, Nat.reduceBEq, Nat.reduceBNe]
   ·rw [if_neg (by omega)]
    obtain ⟨ihn, ihs⟩ := ih (i + 1) (a + n1 + n2) (acc ++ [(k1, k2)]) .own (by omega) (by simp; omega) (by omega) (.inl rfl)
    have bb : ((acc.map rcV).length + 1) * 32 ≤ maxBytes := by simp only [List.length_map, maxBytes]; omega
    have bb' : (acc.length + 1) * 32 ≤ maxBytes := by simp only [maxBytes]; omega
    have b0 : (0 + 1) * 32 ≤ maxBytes := by decide
    have e8 : acc.map rcV ++ [.agg [.str k1, .str k2]] = (acc ++ [(k1, k2)]).map rcV := by simp [rcV]
    refine ⟨fun h => ?_, fun r e h => ?_⟩
    ·rw [Option.map_eq_none_iff] at h
     obtain ⟨M, h2⟩ := ihn h
     refine ⟨M, ?_⟩
     refine loop_step l_ref6_inner_0.eq_1 k_ref6_inner_0.eq_1 (by kernel_rfl) ?_
     rcases hfl with rfl | ⟨rfl, rfl⟩
     ·simp only [go_sem, h1, slL, List.length_map, a0, a1, d1, q1, t1, w1, a2, a3, d2, q2, t2, c1, c2, apO, bb, bb', e8, w3, e6, reduceCtorEq, ↓reduceIte, Nat.reduceAdd, Nat.reduceEqDiff, Nat.reduceLT, Int.reduceLE, Nat.reduceSub, Nat.reduceLeDiff, Nat.reduceMul, Int.reduceToNat, Int.reduceLT, Int.reduceEq, Int.reduceNeg, Nat.reduceBEq, Nat.reduceBNe]
      exact h2
     ·simp only [List.map_nil, List.nil_append] at e8 h2 ⊢
      simp only [go_sem, h1, slL, List.length_map, a0, a1, d1, q1, t1, w1, a2, a3, d2, q2, t2, c1, c2, apF, List.length_nil, b0, List.nil_append, w3, e6, reduceCtorEq, ↓reduceIte, Nat.reduceAdd, Nat.reduceEqDiff, Nat.reduceLT, Int.reduceLE, Nat.reduceSub, Nat.reduceLeDiff, Nat.reduceMul, Int.reduceToNat, Int.reduceLT, Int.reduceEq, Int.reduceNeg, Nat.reduceBEq, Nat.reduceBNe]
      rw [e8]
      exact h2
    ·rw [Option.map_eq_some_iff] at h
     obtain ⟨⟨r', e'⟩, h, he⟩ := h
     cases he
     obtain ⟨fl', h2, hf'⟩ := ihs r' e' h
     refine ⟨fl', ?_, by simpa using hf'⟩
     rw [List.append_assoc] at h2
     simp only [List.singleton_append] at h2
     refine loop_step l_ref6_inner_0.eq_1 k_ref6_inner_0.eq_1 (by kernel_rfl) ?_
     rcases hfl with rfl | ⟨rfl, rfl⟩
     ·simp only [go_sem, h1, slL, List.length_map, a0, a1, d1, q1, t1, w1, a2, a3, d2, q2, t2, c1, c2, apO, bb, bb', e8, w3, e6, reduceCtorEq, ↓reduceIte, Nat.reduceAdd, Nat.reduceEqDiff, Nat.reduceLT, Int.reduceLE, Nat.reduceSub, Nat.reduceLeDiff, Nat.reduceMul, Int.reduceToNat, Int.reduceLT, Int.reduceEq, Int.reduceNeg, Nat.reduceBEq, Nat.reduceBNe]
      exact h2
     ·simp only [List.map_nil, List.nil_append] at e8 h2 ⊢
      simp only [go_sem, h1, slL, List.length_map, a0, a1, d1, q1, t1, w1, a2, a3, d2, q2, t2, c1, c2, apF, List.length_nil, b0, List.nil_append, w3, e6, reduceCtorEq, ↓reduceIte, Nat.reduceAdd, Nat.reduceEqDiff, Nat.reduceLT, Int.reduceLE, Nat.reduceSub, Nat.reduceLeDiff, Nat.reduceMul, Int.reduceToNat, Int.reduceLT, Int.reduceEq, Int.reduceNeg, Nat.reduceBEq, Nat.reduceBNe]
      rw [e8]
      exact h2
end Go.Abs

namespace Go.Abs
open Go Go.RowKit
set_option linter.unusedVariables false
set_option linter.unusedSimpArgs false

def innB (x : List Int) : Ba × Bool :=
 if x.length < 20 then (zeroBa, false)
 else match innR x (x.getD 19 0).toNat 20 with
 | none => (zeroBa, false)
 | some (r, e) => (⟨0, backI (x.drop 1), epochOf (x.getD 9 0) (x.getD 10 0), backI (x.drop 11), decide (x.getD 0 0 % 2 = 1), x.getD 0 0 / 2, r⟩, decide (e = x.length))
set_option maxHeartbeats 2000000 in
theorem inner_spec (x : List Int) (hb : Bytes x) (hl : x.length ≤ 100000) (H : Heap) :
  W n_ref6_inner [bytes x .ro] H = some (.tuple [(innB x).1.V, .bool (innB x).2], H) := by
 unfold innB
 by_cases h20 : x.length < 20
 ·rw [if_pos h20]
  have h20' : (x.length : Int) < 20 := by omega
  refine W_fn rfl rfl ?_
  simp only [go_sem, c_ref6_inner, List.length_map, h20', zeroBa, reduceCtorEq, ↓reduceIte, Nat.reduceAdd, Nat.reduceEqDiff, Nat.reduceLT, Int.reduceLE, Nat.reduceSub, Nat.reduceLeDiff, Nat.reduceMul, Int.reduceToNat, Int.reduceLT, Int.reduceEq, Int.reduceNeg, Nat.reduceBEq, Nat.reduceBNe]
  rfl
 rw [if_neg h20]
 have h20' : ¬ (x.length : Int) < 20 := by omega
 have g0 := getD_at (p := x) 0 (by omega)
 have g9 := getD_at (p := x) 9 (by omega)
 have g10 := getD_at (p := x) 10 (by omega)
 have g19 := getD_at (p := x) 19 (by omega)
 have r0 := getD_byte hb 0
 have r9 := getD_byte hb 9
 have r10 := getD_byte hb 10
 have r19 := getD_byte hb 19
 have q1 : (ints .u8 x).drop 1 = ints .u8 (x.drop 1) := by rw [← List.map_drop]
 have q11 : (ints .u8 x).drop 11 = ints .u8 (x.drop 11) := by rw [← List.map_drop]
 have l1 : (1 : Int) ≤ (x.length : Int) := by omega
 have l11 : (11 : Int) ≤ (x.length : Int) := by omega
 have t1 := fun H => W_rback (x.drop 1) H
 have t11 := fun H => W_rback (x.drop 11) H
 have a1 := and1_u8 (x.getD 0 0) r0.1 r0.2
 have s1 := shr1_u8 (x.getD 0 0)
 have w1 : IntKind.i64.wrap (x.getD 0 0 / 2) = x.getD 0 0 / 2 := wrap_id (by unfold I64; omega)
 have w2 : IntKind.i64.wrap (x.getD 19 0) = x.getD 19 0 := wrap_id (by unfold I64; omega)
 have eo := epoch_or (x.getD 9 0) (x.getD 10 0) r9 r10
 obtain ⟨n, hn⟩ : ∃ n : Nat, x.getD 19 0 = (n : Int) := ⟨(x.getD 19 0).toNat, by omega⟩
 rw [hn, Int.toNat_natCast]
 rw [hn] at w2 g19
 have lp := fun c0 c1 c2 c3 c4 c5 => inn_loop x hb hl n (by omega) c0 c1 c2 c3 c4 c5 H [] n 0 20 [] .full (by omega) rfl (by omega) (.inr ⟨rfl, rfl⟩)
 simp only [List.nil_append, List.map_nil, Int.natCast_zero, Int.cast_ofNat_Int] at lp
 unfold zeroC at lp
 unfold epochOf
 generalize hR : innR x n 20 = R at *
 generalize x.drop 1 = x1 at *
 generalize x.drop 11 = x11 at *
 generalize backI x1 = p1 at *
 generalize backI x11 = p11 at *
 generalize decide (8 ≤ x1.length) = o1 at *
 generalize decide (8 ≤ x11.length) = o11 at *
 generalize x.getD 0 0 = v0 at *
 generalize x.getD 9 0 = v9 at *
 generalize x.getD 10 0 = v10 at *
 generalize v9 * 256 + v10 = e at *
 have ep : ∃ E, (if e = 65535 then -1 else e) = E := ⟨_, rfl⟩
 obtain ⟨E, hE⟩ := ep
 rw [hE]
 obtain ⟨ln, ls⟩ := lp (.int .i64 0) (.int .i64 p1) (.int .i64 E) (.int .i64 p11) (.bool (decide (v0 % 2 = 1))) (.int .i64 (v0 / 2))
 cases R with
 | none =>
  obtain ⟨M, h⟩ := ln rfl
  simp only
  by_cases c1 : e = 65535
  ·rw [if_pos c1] at hE
   subst hE
   refine W_fn rfl rfl ?_
   simp only [go_sem, c_ref6_inner, g0, g9, g10, g19, a1, s1, w1, w2, eo, slL, List.length_map, h20', l1, l11, q1, q11, t1, t11, eq_true c1, h, under_rc, zeroBa, reduceCtorEq, ↓reduceIte, Nat.reduceAdd, Nat.reduceEqDiff, Nat.reduceLT, Int.reduceLE, Nat.reduceSub, Nat.reduceLeDiff, Nat.reduceMul, Int.reduceToNat, Int.reduceLT, Int.reduceEq, Int.reduceNeg, Nat.reduceBEq, Nat.reduceBNe]
   rfl
  ·rw [if_neg c1] at hE
   subst hE
   refine W_fn rfl rfl ?_
   simp only [go_sem, c_ref6_inner, g0, g9, g10, g19, a1, s1, w1, w2, eo, slL, List.length_map, h20', l1, l11, q1, q11, t1, t11, c1, h, under_rc, zeroBa, reduceCtorEq, ↓reduceIte, Nat.reduceAdd, Nat.reduceEqDiff, Nat.reduceLT, Int.reduceLE, Nat.reduceSub, Nat.reduceLeDiff, Nat.reduceMul, Int.reduceToNat, Int.reduceLT, Int.reduceEq, Int.reduceNeg, Nat.reduceBEq, Nat.reduceBNe]
   rfl
 | some re =>
  obtain ⟨r, en⟩ := re
  obtain ⟨fl', h, hf⟩ := ls r en rfl
  simp only
  have hd : decide ((en : Int) = (x.length : Int)) = decide (en = x.length) := by
   by_cases q : en = x.length
   ·rw [decide_eq_true q, decide_eq_true (by omega)]
   ·rw [decide_eq_false q, decide_eq_false (by omega)]
  generalize decide (en = x.length) = D at *
  by_cases c1 : e = 65535
  ·rw [if_pos c1] at hE
   subst hE
   refine W_fn rfl rfl ?_
   rcases hf with rfl | ⟨rfl, rfl⟩
   ·simp only [go_sem, c_ref6_inner, g0, g9, g10, g19, a1, s1, w1, w2, eo, slL, List.length_map, h20', l1, l11, q1, q11, t1, t11, eq_true c1, h, hd, under_rc, reduceCtorEq, ↓reduceIte, Nat.reduceAdd, Nat.reduceEqDiff, Nat.reduceLT, Int.reduceLE, Nat.reduceSub, Nat.reduceLeDiff, Nat.reduceMul, Int.reduceToNat, Int.reduceLT, Int.reduceEq, Int.reduceNeg, Nat.reduceBEq, Nat.reduceBNe]
    rfl
   ·simp only [List.map_nil] at h ⊢
    simp only [go_sem, c_ref6_inner, g0, g9, g10, g19, a1, s1, w1, w2, eo, slL, List.length_map, h20', l1, l11, q1, q11, t1, t11, eq_true c1, h, hd, under_rc, reduceCtorEq, ↓reduceIte, Nat.reduceAdd, Nat.reduceEqDiff, Nat.reduceLT, Int.reduceLE, Nat.reduceSub, Nat.reduceLeDiff, Nat.reduceMul, Int.reduceToNat, Int.reduceLT, Int.reduceEq, Int.reduceNeg, Nat.reduceBEq, Nat.reduceBNe]
    rfl
  ·rw [if_neg c1] at hE
   subst hE
   refine W_fn rfl rfl ?_
   rcases hf with rfl | ⟨rfl, rfl⟩
   ·simp only [go_sem, c_ref6_inner, g0, g9, g10, g19, a1, s1, w1, w2, eo, slL, List.length_map, h20', l1, l11, q1, q11, t1, t11, c1, h, hd, under_rc, reduceCtorEq, ↓reduceIte, Nat.reduceAdd, Nat.reduceEqDiff, Nat.reduceLT, Int.reduceLE, Nat.reduceSub, Nat.reduceLeDiff, Nat.reduceMul, Int.reduceToNat, Int.reduceLT, Int.reduceEq, Int.reduceNeg, Nat.reduceBEq, Nat.reduceBNe]
    rfl
   ·simp only [List.map_nil] at h ⊢
    simp only [go_sem, c_ref6_inner, g0, g9, g10, g19, a1, s1, w1, w2, eo, slL, List.length_map, h20', l1, l11, q1, q11, t1, t11, c1, h, hd, under_rc, reduceCtorEq, ↓reduceIte, Nat.reduceAdd, Nat.reduceEqDiff, Nat.reduceLT, Int.reduceLE, Nat.reduceSub, Nat.reduceLeDiff, Nat.reduceMul, Int.reduceToNat, Int.reduceLT, Int.reduceEq, Int.reduceNeg, Nat.reduceBEq, Nat.reduceBNe]
    rfl
end Go.Abs

namespace Go.Abs
open Go Go.RowKit
set_option linter.unusedVariables false
set_option linter.unusedSimpArgs false

theorem num4_or (a b c d : Int) (ha : 0 ≤ a ∧ a < 256) (hb : 0 ≤ b ∧ b < 256) (hc : 0 ≤ c ∧ c < 256) (hd : 0 ≤ d ∧ d < 256) :
  bits .or .i64 (bits .or .i64 (bits .or .i64 (shl .i64 (IntKind.i64.wrap a) 24) (shl .i64 (IntKind.i64.wrap b) 16)) (shl .i64 (IntKind.i64.wrap c) 8)) (IntKind.i64.wrap d) = num4 a b c d := by
 have wa : ∀ x : Int, 0 ≤ x ∧ x < 256 → IntKind.i64.wrap x = x := fun x h => wrap_id (by unfold I64; omega)
 have s24 : shl .i64 a 24 = a * 16777216 := by
  unfold shl
  rw [show (2 : Int) ^ (min (24 : Int).toNat IntKind.i64.bits) = 16777216 from by decide, wrap_id (by unfold I64; omega)]
 have s16 : shl .i64 b 16 = b * 65536 := by
  unfold shl
  rw [show (2 : Int) ^ (min (16 : Int).toNat IntKind.i64.bits) = 65536 from by decide, wrap_id (by unfold I64; omega)]
 rw [wa a ha, wa b hb, wa c hc, wa d hd, s24, s16, shl_i64 c hc.1 (by omega)]
 rw [(or_at .i64 (.inl rfl) 24 (b * 65536) (a * 16777216) (by omega) (by show b * 65536 < 16777216; omega) (by omega) (by show a * 16777216 % 16777216 = 0; omega) (by omega) (by omega) (by omega)).2]
 rw [(or_at .i64 (.inl rfl) 16 (c * 256) (b * 65536 + a * 16777216) (by omega) (by show c * 256 < 65536; omega) (by omega) (by show (b * 65536 + a * 16777216) % 65536 = 0; omega) (by omega) (by omega) (by omega)).2]
 rw [(or_at .i64 (.inl rfl) 8 d (c * 256 + (b * 65536 + a * 16777216)) hd.1 (by show d < 256; omega) (by omega) (by show (c * 256 + (b * 65536 + a * 16777216)) % 256 = 0; omega) (by omega) (by omega) (by omega)).2]
 unfold num4; omega
def readR (p : List Int) : Ba × Int × Int :=
 if p.length < 12 then (zeroBa, 0, 12)
 else if longB p > 4096 then (zeroBa, 0, 13)
 else if (p.length : Int) < longB p then (zeroBa, 0, 12)
 else if unsOK (cutP p) = false then (zeroBa, 0, 12)
 else if (innB ((cutP p).drop 4)).2 = false then (zeroBa, 0, 12)
 else if rightE { (innB ((cutP p).drop 4)).1 with base := backI p } ≠ 0 then (zeroBa, 0, 12)
 else if baBytes { (innB ((cutP p).drop 4)).1 with base := backI p } = p.take (longB p).toNat then ({ (innB ((cutP p).drop 4)).1 with base := backI p }, longB p, 0)
 else (zeroBa, 0, 12)
theorem zeroBa_ok (base : Int) (h : I64 base) : BOK { zeroBa with base := base } :=
 ⟨h, show I64 0 from i64_c (by decide) (by decide), show I64 0 from i64_c (by decide) (by decide), show I64 0 from i64_c (by decide) (by decide), show I64 0 from i64_c (by decide) (by decide)⟩
theorem innB_ok (base : Int) (h : I64 base) (x : List Int) (hx : ∀ c ∈ x, 0 ≤ c ∧ c < 256) : BOK { (innB x).1 with base := base } := by
 have r0 := getD_byte hx 0
 have r9 := getD_byte hx 9
 have r10 := getD_byte hx 10
 unfold innB
 split
 ·exact zeroBa_ok base h
 ·split
  ·exact zeroBa_ok base h
  ·refine ⟨h, backI_i64 _, ?_, backI_i64 _, ?_⟩
   ·unfold epochOf I64; simp only; split <;> omega
   ·unfold I64; simp only; omega
set_option maxHeartbeats 4000000 in
theorem read_specR (p : List Int) (hp : ∀ x ∈ p, 0 ≤ x ∧ x < 256) (hl : p.length ≤ 70368744177664) (H : Heap) :
  W n_ref6_Read [bytes p .ro] H = some (.tuple [(readR p).1.V, .int .i64 (readR p).2.1, .int .i64 (readR p).2.2], H) := by
 have rl := longB_range hp
 have zV : zeroBa.V = .agg [.int .i64 0, .int .i64 0, .int .i64 0, .int .i64 0, .bool false, .int .i64 0, .list 2 [] .ro] := rfl
 unfold readR
 by_cases c0 : p.length < 12
 ·rw [if_pos c0]
  have c0' : (p.length : Int) < 12 := by omega
  simp only [zV]
  refine W_fn rfl rfl ?_
  simp only [go_sem, c_ref6_Read, List.length_map, c0', reduceCtorEq, ↓reduceIte, Nat.reduceAdd, Nat.reduceEqDiff, Nat.reduceLT, Int.reduceLE, Nat.reduceSub, Nat.reduceLeDiff, Nat.reduceMul, Int.reduceToNat, Int.reduceLT, Int.reduceEq, Int.reduceNeg, Nat.reduceBEq, Nat.reduceBNe]
 rw [if_neg c0]
 have c0' : ¬ (p.length : Int) < 12 := by omega
 have g8 := getD_at (p := p) 8 (by omega)
 have g9 := getD_at (p := p) 9 (by omega)
 have g10 := getD_at (p := p) 10 (by omega)
 have g11 := getD_at (p := p) 11 (by omega)
 have eo := num4_or _ _ _ _ (getD_byte hp 8) (getD_byte hp 9) (getD_byte hp 10) (getD_byte hp 11)
 have eL : longB p = 12 + num4 (p.getD 8 0) (p.getD 9 0) (p.getD 10 0) (p.getD 11 0) := by unfold longB; rw [if_neg c0]
 have e12 : 12 ≤ longB p := by
  have := num4_range _ _ _ _ (getD_byte hp 8) (getD_byte hp 9) (getD_byte hp 10) (getD_byte hp 11)
  omega
 have w1 : IntKind.i64.wrap (num4 (p.getD 8 0) (p.getD 9 0) (p.getD 10 0) (p.getD 11 0) + 12) = longB p := by rw [wrap_id (by unfold I64; omega)]; omega
 have w2 : IntKind.i64.wrap (12 + num4 (p.getD 8 0) (p.getD 9 0) (p.getD 10 0) (p.getD 11 0)) = longB p := by rw [wrap_id (by unfold I64; omega)]; omega
 clear eL
 generalize num4 (p.getD 8 0) (p.getD 9 0) (p.getD 10 0) (p.getD 11 0) = m at *
 generalize p.getD 8 0 = v8 at *
 generalize p.getD 9 0 = v9 at *
 generalize p.getD 10 0 = v10 at *
 generalize p.getD 11 0 = v11 at *
 by_cases c1 : longB p > 4096
 ·rw [if_pos c1]
  simp only [zV]
  generalize longB p = n at *
  refine W_fn rfl rfl ?_
  simp only [go_sem, c_ref6_Read, List.length_map, c0', g8, g9, g10, g11, eo, w1, w2, c1, reduceCtorEq, ↓reduceIte, Nat.reduceAdd, Nat.reduceEqDiff, Nat.reduceLT, Int.reduceLE, Nat.reduceSub, Nat.reduceLeDiff, Nat.reduceMul, Int.reduceToNat, Int.reduceLT, Int.reduceEq, Int.reduceNeg, Nat.reduceBEq, Nat.reduceBNe]
 rw [if_neg c1]
 by_cases c3 : (p.length : Int) < longB p
 ·rw [if_pos c3]
  simp only [zV]
  generalize longB p = n at *
  refine W_fn rfl rfl ?_
  simp only [go_sem, c_ref6_Read, List.length_map, c0', g8, g9, g10, g11, eo, w1, w2, c1, c3, reduceCtorEq, ↓reduceIte, Nat.reduceAdd, Nat.reduceEqDiff, Nat.reduceLT, Int.reduceLE, Nat.reduceSub, Nat.reduceLeDiff, Nat.reduceMul, Int.reduceToNat, Int.reduceLT, Int.reduceEq, Int.reduceNeg, Nat.reduceBEq, Nat.reduceBNe]
 rw [if_neg c3]
 have hcb : ∀ x ∈ cutP p, 0 ≤ x ∧ x < 256 := fun x hx => hp x (List.mem_of_mem_take (List.mem_of_mem_drop hx))
 have hcl : (cutP p).length = (longB p).toNat - 12 := by unfold cutP; rw [List.length_drop, List.length_take]; omega
 have q2 : (ints .u8 p).take (longB p).toNat = ints .u8 (p.take (longB p).toNat) := by rw [← List.map_take]
 have q3 : (ints .u8 (p.take (longB p).toNat)).drop 12 = ints .u8 (cutP p) := by unfold cutP; rw [← List.map_drop]
 have t2 := fun H => unseal_spec (cutP p) hcb (by omega) H
 have i1 : (0 : Int) ≤ longB p := by omega
 have i2 : (12 : Int) ≤ longB p := by omega
 have i3 : longB p ≤ (p.length : Int) := by omega
 cases c4 : unsOK (cutP p) with
 | false =>
  rw [if_pos rfl]
  simp only [zV]
  rw [c4] at t2
  simp only [Bool.false_eq_true, if_false] at t2
  generalize longB p = n at *
  refine W_fn rfl rfl ?_
  simp only [go_sem, c_ref6_Read, List.length_map, c0', g8, g9, g10, g11, eo, w1, w2, c1, c3, slM, i1, i2, i3, q2, q3, t2, reduceCtorEq, ↓reduceIte, Nat.reduceAdd, Nat.reduceEqDiff, Nat.reduceLT, Int.reduceLE, Nat.reduceSub, Nat.reduceLeDiff, Nat.reduceMul, Int.reduceToNat, Int.reduceLT, Int.reduceEq, Int.reduceNeg, Nat.reduceBEq, Nat.reduceBNe]
 | true =>
  rw [if_neg (by decide)]
  rw [c4] at t2
  simp only [if_true] at t2
  have hxl : ((cutP p).drop 4).length ≤ 4100 := by rw [List.length_drop]; omega
  have hxb : ∀ x ∈ (cutP p).drop 4, 0 ≤ x ∧ x < 256 := fun x hx => hcb x (List.mem_of_mem_drop hx)
  generalize (cutP p).drop 4 = x at *
  have t3 := fun H => inner_spec x hxb (by omega) H
  have t4 := fun H => W_rback p H
  have hbo := innB_ok (backI p) (backI_i64 p) x hxb
  generalize innB x = r at *
  obtain ⟨b0, ok⟩ := r
  simp only at t3 hbo ⊢
  generalize backI p = base at *
  generalize decide (8 ≤ p.length) = o8 at *
  obtain ⟨b, hb⟩ : ∃ b, ({ b0 with base := base } : Ba) = b := ⟨_, rfl⟩
  rw [hb] at hbo ⊢
  have f1 : b.base = base := by rw [← hb]
  have f2 : b.prod = b0.prod := by rw [← hb]
  have f3 : b.epoch = b0.epoch := by rw [← hb]
  have f4 : b.seq = b0.seq := by rw [← hb]
  have f5 : b.txn = b0.txn := by rw [← hb]
  have f6 : b.mark = b0.mark := by rw [← hb]
  have f7 : b.recs = b0.recs := by rw [← hb]
  cases ok with
  | false =>
   rw [if_pos rfl]
   simp only [zV]
   unfold Ba.V Ba.cs at *
   generalize longB p = n at *
   refine W_fn rfl rfl ?_
   simp only [go_sem, c_ref6_Read, List.length_map, c0', g8, g9, g10, g11, eo, w1, w2, c1, c3, slM, i1, i2, i3, q2, q3, t2, t3, t4, reduceCtorEq, ↓reduceIte, Nat.reduceAdd, Nat.reduceEqDiff, Nat.reduceLT, Int.reduceLE, Nat.reduceSub, Nat.reduceLeDiff, Nat.reduceMul, Int.reduceToNat, Int.reduceLT, Int.reduceEq, Int.reduceNeg, Nat.reduceBEq, Nat.reduceBNe]
  | true =>
   rw [if_neg (by decide)]
   have t5 := fun H => ref_right_spec b hbo H
   have t6 := fun hs H => write_spec b hbo hs H
   unfold Ba.V Ba.cs at *
   rw [f1, f2, f3, f4, f5, f6, f7] at t5 t6
   by_cases c6 : rightE b = 0
   ·have t6' := t6 (by rw [← f7]; exact rightE_small c6)
    rw [if_neg (by omega)]
    rw [c6] at t5
    have tq := toS_beq (baBytes_bytes (rightE_small c6)) (y := p.take (longB p).toNat) (fun x hx => hp x (List.mem_of_mem_take hx))
    generalize p.take (longB p).toNat = y at *
    generalize baBytes b = z at *
    by_cases c7 : z = y
    ·rw [if_pos c7]
     rw [decide_eq_true c7] at tq
     simp only [f1, f2, f3, f4, f5, f6, f7]
     generalize longB p = n at *
     refine W_fn rfl rfl ?_
     simp only [go_sem, c_ref6_Read, List.length_map, c0', g8, g9, g10, g11, eo, w1, w2, c1, c3, slM, slH, i1, i2, i3, q2, q3, t2, t3, t4, t5, t6', tq, under_rc, reduceCtorEq, ↓reduceIte, Nat.reduceAdd, Nat.reduceEqDiff, Nat.reduceLT, Int.reduceLE, Nat.reduceSub, Nat.reduceLeDiff, Nat.reduceMul, Int.reduceToNat, Int.reduceLT, Int.reduceEq, Int.reduceNeg, Nat.reduceBEq, Nat.reduceBNe]
    ·rw [if_neg c7]
     rw [decide_eq_false c7] at tq
     simp only [zeroBa, List.map_nil]
     generalize longB p = n at *
     refine W_fn rfl rfl ?_
     simp only [go_sem, c_ref6_Read, List.length_map, c0', g8, g9, g10, g11, eo, w1, w2, c1, c3, slM, slH, i1, i2, i3, q2, q3, t2, t3, t4, t5, t6', tq, under_rc, reduceCtorEq, ↓reduceIte, Nat.reduceAdd, Nat.reduceEqDiff, Nat.reduceLT, Int.reduceLE, Nat.reduceSub, Nat.reduceLeDiff, Nat.reduceMul, Int.reduceToNat, Int.reduceLT, Int.reduceEq, Int.reduceNeg, Nat.reduceBEq, Nat.reduceBNe]
   ·rw [if_pos c6]
    simp only [zeroBa, List.map_nil]
    generalize longB p = n at *
    refine W_fn rfl rfl ?_
    simp only [go_sem, c_ref6_Read, List.length_map, c0', g8, g9, g10, g11, eo, w1, w2, c1, c3, slM, slH, i1, i2, i3, q2, q3, t2, t3, t4, t5, c6, under_rc, reduceCtorEq, ↓reduceIte, Nat.reduceAdd, Nat.reduceEqDiff, Nat.reduceLT, Int.reduceLE, Nat.reduceSub, Nat.reduceLeDiff, Nat.reduceMul, Int.reduceToNat, Int.reduceLT, Int.reduceEq, Int.reduceNeg, Nat.reduceBEq, Nat.reduceBNe]
end Go.Abs

namespace Go.Abs
open Go Go.RowKit
set_option linter.unusedVariables false
set_option linter.unusedSimpArgs false

/-! ## Both read alike -/
theorem cut_txtM (s : List UInt8) (m : Int) (hs : (s.length : Int) ≤ m) (hs1 : s.length ≤ 64) (r : List Int) : cutS (txt s ++ r) m = (s, ((txt s).length : Int)) := by
 have hz := Num.zig_range (s.length : Int) (by omega)
 have hd := Vt.dec_enc (Num.zig s.length) hz.1 hz.2 ((s.map fun b => (b.toNat : Int)) ++ r)
 have hne := Vt.enc_ne 9 (Num.zig s.length)
 have hpos : 0 < (Vt.enc 9 (Num.zig s.length)).length := List.length_pos_iff.2 hne
 unfold cutS txt
 rw [List.append_assoc, hd]
 generalize Vt.enc 9 (Num.zig s.length) = E at *
 simp only [told, Num.zag_zig]
 rw [if_neg (by omega), if_neg (by omega), if_neg (by simp; omega)]
 have e1 : ((E.length : Int) + (s.length : Int)).toNat = E.length + s.length := by omega
 have e2 : ((E.length : Nat) : Int).toNat = E.length := by omega
 rw [e1, e2]
 have e3 : ((E ++ ((s.map fun b => (b.toNat : Int)) ++ r)).take (E.length + s.length)).drop E.length = s.map fun b => (b.toNat : Int) := by
  rw [List.take_append, List.drop_append]
  simp
 rw [e3, toS_txt]
 simp
theorem txt_pos (s : List UInt8) : 0 < (txt s).length := by
 have := List.length_pos_iff.2 (Vt.enc_ne 9 (Num.zig s.length))
 unfold txt; rw [List.length_append]; omega
theorem txt_long (s : List UInt8) : s.length ≤ (txt s).length := by unfold txt; rw [List.length_append, List.length_map]; omega
theorem innR_rcs (x : List Int) : ∀ (r : List Rc) (a : Nat), (∀ y ∈ r, y.1.length ≤ 64 ∧ y.2.length ≤ 64) → x.drop a = rcsB r → a ≤ x.length → innR x r.length a = some (r, x.length)
 | [], a, _, hx, ha => by
  have : a = x.length := by
   have h := congrArg List.length hx
   simp [rcsB] at h; omega
  subst this; rfl
 | y :: r, a, h, hx, ha => by
  have hy := h y List.mem_cons_self
  have e1 : x.drop a = txt y.1 ++ (txt y.2 ++ rcsB r) := by rw [hx]; simp [rcsB, rcB]
  have e2 : x.drop (a + (txt y.1).length) = txt y.2 ++ rcsB r := by
   rw [← List.drop_drop, e1]; simp
  have e3 : x.drop (a + (txt y.1).length + (txt y.2).length) = rcsB r := by
   rw [← List.drop_drop, e2]; simp
  have p1 := txt_pos y.1
  have p2 := txt_pos y.2
  have hl := congrArg List.length e1
  rw [List.length_drop, List.length_append, List.length_append] at hl
  have s1 := txt_long y.1
  have s2 := txt_long y.2
  have c1 : cutS (x.drop a) x.length = (y.1, ((txt y.1).length : Int)) := by rw [e1]; exact cut_txtM y.1 _ (by omega) hy.1 _
  have c2 : cutS (x.drop (a + (txt y.1).length)) x.length = (y.2, ((txt y.2).length : Int)) := by rw [e2]; exact cut_txtM y.2 _ (by omega) hy.2 _
  show innR x (r.length + 1) a = _
  unfold innR
  simp only
  rw [c1]
  simp only [Int.toNat_natCast]
  rw [c2]
  simp only [Int.toNat_natCast]
  rw [if_neg (by omega), innR_rcs x r _ (fun z hz => h z (List.mem_cons_of_mem _ hz)) e3 (by omega)]
  rfl
theorem innB_self {b : Ba} (hb : BOK b) (h : rightE b = 0) : innB (inner b) = ({ b with base := 0 }, true) := by
 have hr := right_rt h
 have e0 : (inner b).getD 0 0 = flagI b := rfl
 have e9 : (inner b).getD 9 0 = b.epoch / 256 % 256 := rfl
 have e10 : (inner b).getD 10 0 = b.epoch % 256 := rfl
 have e19 : (inner b).getD 19 0 = (b.recs.length : Int) % 256 := rfl
 have d1 : (inner b).drop 1 = bes b.prod 0 ++ ([b.epoch / 256 % 256, b.epoch % 256] ++ bes b.seq 0 ++ [(b.recs.length : Int) % 256] ++ rcsB b.recs) := rfl
 have d11 : (inner b).drop 11 = bes b.seq 0 ++ ([(b.recs.length : Int) % 256] ++ rcsB b.recs) := rfl
 have d20 : (inner b).drop 20 = rcsB b.recs := head_drop b _
 have hs := hr.small
 have e19' : ((b.recs.length : Int) % 256).toNat = b.recs.length := by have := hs.1; omega
 have hi := inner_len20 b
 unfold innB
 rw [if_neg (by omega), e0, e9, e10, e19, d1, d11, backI_bes _ hb.prod, backI_bes _ hb.seq, e19', innR_rcs (inner b) b.recs 20 hs.2 d20 hi, flagI_eq hr.mark]
 have he := hr.epoch
 have ep : epochOf (b.epoch / 256 % 256) (b.epoch % 256) = b.epoch := by unfold epochOf; split <;> omega
 simp only [ep, decide_true]
 have hm := hr.mark
 obtain ⟨base, prod, epoch, seq, txn, mark, recs⟩ := b
 simp only at hm ⊢
 have m1 : (2 * mark + (if txn = true then 1 else 0)) / 2 = mark := by split <;> omega
 have m2 : decide ((2 * mark + (if txn = true then 1 else 0)) % 2 = 1) = txn := by
  cases txn with
  | true => rw [if_pos rfl]; exact decide_eq_true (by omega)
  | false => rw [if_neg (by decide)]; exact decide_eq_false (by omega)
 rw [m1, m2]
theorem readR_self {b : Ba} (hb : BOK b) (h : rightE b = 0) (r : List Int) : readR (baBytes b ++ r) = (b, ((baBytes b).length : Int), 0) := by
 have hr := right_rt h
 have hl := baBytes_len hr.small
 have hl' := baBytes_len' b
 have hs := sealed_len b
 have hi := inner_len20 b
 have hlong := long_self (b := b) (by omega) r
 have ht : (baBytes b ++ r).take (baBytes b).length = baBytes b := by simp
 have hc : cutP (baBytes b ++ r) = sealedI b := by
  unfold cutP
  rw [hlong, Int.toNat_natCast, ht]
  rfl
 have k2 : (sealedI b).drop 4 = inner b := rfl
 have k1 : unsOK (sealedI b) = true := by
  unfold unsOK
  rw [k2, decide_eq_true (by omega), Bool.true_and]
  exact decide_eq_true rfl
 have hbk : backI (baBytes b ++ r) = b.base := by
  unfold baBytes
  rw [List.append_assoc, List.append_assoc]
  exact backI_bes _ hb.base _
 unfold readR
 rw [hc, k1, k2, hlong, hbk, innB_self hb h, Int.toNat_natCast, ht]
 simp only
 have hbb : ({ b with base := b.base } : Ba) = b := rfl
 rw [if_neg (by rw [List.length_append]; omega), if_neg (by omega), if_neg (by rw [List.length_append]; omega), if_neg (by decide), if_neg (by decide), if_neg (show ¬ (rightE b ≠ 0) from fun q => q h)]
 exact if_pos trivial
theorem readR_cases (p : List Int) (hp : ∀ x ∈ p, 0 ≤ x ∧ x < 256) (hn : ¬ longB p > 4096) : readR p = (zeroBa, 0, 12) ∨ ∃ b, BOK b ∧ rightE b = 0 ∧ p = baBytes b ++ p.drop (baBytes b).length := by
 have hr := longB_range hp
 unfold readR
 by_cases h12 : p.length < 12
 ·rw [if_pos h12]; exact .inl rfl
 ·rw [if_neg h12, if_neg hn]
  split
  ·exact .inl rfl
  ·split
   ·exact .inl rfl
   ·split
    ·exact .inl rfl
    ·split
     ·exact .inl rfl
     ·split
      ·rename_i hlen _ _ h6 h7
       refine .inr ⟨{ (innB ((cutP p).drop 4)).1 with base := backI p }, innB_ok _ (backI_i64 _) _ (fun x hx => hp x (List.mem_of_mem_take (List.mem_of_mem_drop (List.mem_of_mem_drop hx)))), Decidable.not_not.1 h6, ?_⟩
       rw [h7, List.length_take, Nat.min_eq_left (by omega), List.take_append_drop]
      ·exact .inl rfl
theorem read_eq (p : List Int) (hp : ∀ x ∈ p, 0 ≤ x ∧ x < 256) : readR p = readB p := by
 by_cases hn : longB p > 4096
 ·have : ¬ p.length < 12 := by
   intro h
   unfold longB at hn
   rw [if_pos h] at hn
   omega
  unfold readR readB
  rw [if_neg this, if_pos hn, if_pos hn]
 ·rcases readB_cases p hp hn with h | ⟨b, h1, h2, h3⟩
  ·rcases readR_cases p hp hn with k | ⟨b, h1, h2, h3⟩
   ·rw [h, k]
   ·rw [h3, readR_self h1 h2, read_self h1 h2]
  ·rw [h3, readR_self h1 h2, read_self h1 h2]
end Go.Abs

namespace Go.Abs
open Go Go.RowKit
set_option linter.unusedVariables false
set_option linter.unusedSimpArgs false

theorem scan_len : ∀ (k : Nat) (base : Int) (q : List Int), (∀ x ∈ q, 0 ≤ x ∧ x < 256) → 36 * (scanR k base q).1.length ≤ q.length
 | 0, _, _, _ => by simp [scanR]
 | k + 1, base, q, hq => by
  unfold scanR
  split
  ·simp
  ·rename_i hc
   rcases read_ok q hq with ⟨e, he, he2⟩ | ⟨b, h1, h2, h3, h4⟩
   ·exfalso
    rw [he] at hc
    rcases he2 with rfl | rfl <;> simp at hc
   ·rw [h4] at hc ⊢
    simp only [Int.toNat_natCast]
    have i4 := scan_len k (base + countE b) (q.drop (baBytes b).length) (fun x hx => hq x (List.mem_of_mem_drop hx))
    have hl := congrArg List.length h3
    rw [List.length_append] at hl
    rw [List.length_drop] at i4
    have l1 := baBytes_len' b
    have l2 := sealed_len b
    have l3 := inner_len20 b
    rw [List.length_drop] at hl
    simp only [List.length_cons]; omega
theorem rcount_spec (b : Ba) (H : Heap) : W n_ref6_Count [b.V] H = some (.int .i64 (countE b), H) := ref_count_spec b H
set_option maxHeartbeats 1000000 in
theorem rscan_loop (p : List Int) (hp : ∀ x ∈ p, 0 ≤ x ∧ x < 256) (hl : p.length ≤ 1000000) (H : Heap) (k : Nat) : ∀ (base : Int) (at_ : Nat) (acc : List Ba) (fl : Fl) (N : Heap), p.length - at_ < k → at_ ≤ p.length → acc.length ≤ at_ → (fl = .own ∨ (fl = .full ∧ acc = [])) →
  ∃ M fl', loopA W loopW (.ghost (.kill k_ref6_Scan_0) l_ref6_Scan_0) [(0, bytes p .ro), (1, .int .i64 base), (6, .list 7 (acc.map Ba.V) fl), (7, .int .i64 (at_ : Nat))] (hx H N) =
   some (.ret, [(4, .list 7 ((acc ++ (scanR k base (p.drop at_)).1).map Ba.V) fl'), (5, .int .i64 ((at_ + (scanR k base (p.drop at_)).2 : Nat) : Int))], hx H M) ∧ (fl' = .own ∨ (fl' = .full ∧ acc ++ (scanR k base (p.drop at_)).1 = [])) := by
 induction k with
 | zero => intro base at_ acc fl N h; omega
 | succ k ih =>
  intro base at_ acc fl N hk hat hacc hfl
  have hq : ∀ x ∈ p.drop at_, 0 ≤ x ∧ x < 256 := fun x hx => hp x (List.mem_of_mem_drop hx)
  have a0 : (0 : Int) ≤ (at_ : Int) := by omega
  have a1 : (at_ : Int) ≤ (p.length : Int) := by omega
  have d1 : ((at_ : Nat) : Int).toNat = at_ := by omega
  have q1 : (ints .u8 p).drop at_ = ints .u8 (p.drop at_) := by rw [← List.map_drop]
  have t1 := fun H => read_specR (p.drop at_) hq (by rw [List.length_drop]; omega) H
  rw [read_eq _ hq] at t1
  unfold scanR
  rcases read_ok _ hq with ⟨e, he, he2⟩ | ⟨b, h1, h2, h3, h4⟩
  ·have c1 : ¬ e = 0 := by omega
   rw [he] at t1 ⊢
   rw [if_pos (.inl c1)]
   refine ⟨N ++ [.cells zeroBa.cs], fl, ?_, by rw [List.append_nil]; exact hfl⟩
   rw [List.append_nil, Nat.add_zero]
   clear he
   generalize p.drop at_ = Q at *
   unfold zeroBa Ba.V Ba.cs at *
   simp only [List.map_nil] at t1
   refine loop_step l_ref6_Scan_0.eq_1 k_ref6_Scan_0.eq_1 (by kernel_rfl) ?_
   rcases hfl with rfl | ⟨rfl, rfl⟩
   ·simp only [go_sem, slL, List.length_map, a0, a1, d1, q1, t1, c1, reduceCtorEq, ↓reduceIte, Nat.reduceAdd, Nat.reduceEqDiff, Nat.reduceLT, Int.reduceLE, Nat.reduceSub, Nat.reduceLeDiff, Nat.reduceMul, Int.reduceToNat, Int.reduceLT, Int.reduceEq, Int.reduceNeg, Nat.reduceBEq, Nat.reduceBNe]
   ·simp only [List.map_nil]
    simp only [go_sem, slL, List.length_map, a0, a1, d1, q1, t1, c1, reduceCtorEq, ↓reduceIte, Nat.reduceAdd, Nat.reduceEqDiff, Nat.reduceLT, Int.reduceLE, Nat.reduceSub, Nat.reduceLeDiff, Nat.reduceMul, Int.reduceToNat, Int.reduceLT, Int.reduceEq, Int.reduceNeg, Nat.reduceBEq, Nat.reduceBNe]
  ·rw [h4] at t1 ⊢
   simp only [Int.toNat_natCast] at t1 ⊢
   by_cases cb : b.base = base
   ·have hf : Fit b := ⟨h1, h2⟩
    have hb := hf.base
    have hc := hf.count
    have hn := congrArg List.length h3
    rw [List.length_append, List.length_drop] at hn
    have ln := baBytes_len' b
    have w1 : IntKind.i64.wrap ((at_ : Int) + ((baBytes b).length : Int)) = ((at_ + (baBytes b).length : Nat) : Int) := by rw [wrap_id (by unfold I64; omega)]; omega
    have w2 : IntKind.i64.wrap (base + countE b) = base + countE b := wrap_id (by unfold I64; omega)
    have t2 := fun H => rcount_spec b H
    obtain ⟨M, fl', h5, h6⟩ := ih (base + countE b) (at_ + (baBytes b).length) (acc ++ [b]) .own (N ++ [.cells b.cs]) (by omega) (by omega) (by rw [List.length_append]; simp; omega) (.inl rfl)
    rw [if_neg (by rintro (h | h); exact h rfl; exact h cb), List.drop_drop]
    rw [List.append_assoc] at h5 h6
    simp only [List.singleton_append] at h5 h6
    refine ⟨M, fl', ?_, h6⟩
    have bb : (acc.length + 1) * 72 ≤ maxBytes := by simp only [maxBytes]; omega
    have b0 : (0 + 1) * 72 ≤ maxBytes := by decide
    have e8 : acc.map Ba.V ++ [.agg [.int .i64 b.base, .int .i64 b.prod, .int .i64 b.epoch, .int .i64 b.seq, .bool b.txn, .int .i64 b.mark, .list 2 (b.recs.map rcV) .ro]] = (acc ++ [b]).map Ba.V := by simp [Ba.V, Ba.cs]
    generalize scanR k (base + countE b) (p.drop (at_ + (baBytes b).length)) = R at *
    obtain ⟨R1, R2⟩ := R
    simp only at h5 ⊢
    rw [show at_ + ((baBytes b).length + R2) = at_ + (baBytes b).length + R2 by omega]
    generalize at_ + (baBytes b).length + R2 = z at *
    generalize at_ + (baBytes b).length = y at *
    generalize p.drop at_ = Q at *
    generalize (baBytes b).length = n at *
    unfold Ba.cs at h5
    have tv1 : ∀ H, W n_ref6_Read [bytes Q .ro] H = some (.tuple [.agg [.int .i64 b.base, .int .i64 b.prod, .int .i64 b.epoch, .int .i64 b.seq, .bool b.txn, .int .i64 b.mark, .list 2 (b.recs.map rcV) .ro], .int .i64 (n : Nat), .int .i64 0], H) := t1
    have tv2 : ∀ H, W n_ref6_Count [.agg [.int .i64 b.base, .int .i64 b.prod, .int .i64 b.epoch, .int .i64 b.seq, .bool b.txn, .int .i64 b.mark, .list 2 (b.recs.map rcV) .ro]] H = some (.int .i64 (countE b), H) := t2
    refine loop_step l_ref6_Scan_0.eq_1 k_ref6_Scan_0.eq_1 (by kernel_rfl) ?_
    rcases hfl with rfl | ⟨rfl, rfl⟩
    ·simp only [go_sem, slL, List.length_map, a0, a1, d1, q1, tv1, eq_true cb, apO, bb, e8, w1, tv2, w2, reduceCtorEq, ↓reduceIte, Nat.reduceAdd, Nat.reduceEqDiff, Nat.reduceLT, Int.reduceLE, Nat.reduceSub, Nat.reduceLeDiff, Nat.reduceMul, Int.reduceToNat, Int.reduceLT, Int.reduceEq, Int.reduceNeg, Nat.reduceBEq, Nat.reduceBNe]
     exact h5
    ·simp only [List.map_nil, List.nil_append] at e8 h5 ⊢
     simp only [go_sem, slL, List.length_map, a0, a1, d1, q1, tv1, eq_true cb, apF, List.length_nil, List.nil_append, b0, w1, tv2, w2, reduceCtorEq, ↓reduceIte, Nat.reduceAdd, Nat.reduceEqDiff, Nat.reduceLT, Int.reduceLE, Nat.reduceSub, Nat.reduceLeDiff, Nat.reduceMul, Int.reduceToNat, Int.reduceLT, Int.reduceEq, Int.reduceNeg, Nat.reduceBEq, Nat.reduceBNe]
     rw [e8]
     exact h5
   ·rw [if_pos (.inr cb)]
    refine ⟨N ++ [.cells b.cs], fl, ?_, by rw [List.append_nil]; exact hfl⟩
    rw [List.append_nil, Nat.add_zero]
    generalize p.drop at_ = Q at *
    unfold Ba.V at t1
    unfold Ba.cs at *
    refine loop_step l_ref6_Scan_0.eq_1 k_ref6_Scan_0.eq_1 (by kernel_rfl) ?_
    rcases hfl with rfl | ⟨rfl, rfl⟩
    ·simp only [go_sem, slL, List.length_map, a0, a1, d1, q1, t1, cb, reduceCtorEq, ↓reduceIte, Nat.reduceAdd, Nat.reduceEqDiff, Nat.reduceLT, Int.reduceLE, Nat.reduceSub, Nat.reduceLeDiff, Nat.reduceMul, Int.reduceToNat, Int.reduceLT, Int.reduceEq, Int.reduceNeg, Nat.reduceBEq, Nat.reduceBNe]
    ·simp only [List.map_nil]
     simp only [go_sem, slL, List.length_map, a0, a1, d1, q1, t1, cb, reduceCtorEq, ↓reduceIte, Nat.reduceAdd, Nat.reduceEqDiff, Nat.reduceLT, Int.reduceLE, Nat.reduceSub, Nat.reduceLeDiff, Nat.reduceMul, Int.reduceToNat, Int.reduceLT, Int.reduceEq, Int.reduceNeg, Nat.reduceBEq, Nat.reduceBNe]
theorem rscan_spec (p : List Int) (hp : ∀ x ∈ p, 0 ≤ x ∧ x < 256) (hl : p.length ≤ 1000000) (base : Int) (H : Heap) :
  ∃ f, W n_ref6_Scan [bytes p .ro, .int .i64 base] H = some (.tuple [.list 7 ((scanB base p).1.map Ba.V) f, .int .i64 ((scanB base p).2 : Nat)], H) ∧ (f = .own ∨ (f = .full ∧ (scanB base p).1 = [])) := by
 obtain ⟨M, f, h, hf⟩ := rscan_loop p hp hl H (p.length + 1) base 0 [] .full [] (by omega) (by omega) (by simp) (.inr ⟨rfl, rfl⟩)
 unfold scanB
 simp only [List.drop_zero, List.nil_append, Nat.zero_add, List.map_nil, Int.natCast_zero] at h hf
 generalize scanR (p.length + 1) base p = R at *
 obtain ⟨R1, R2⟩ := R
 simp only at h hf ⊢
 refine ⟨f, ?_, hf⟩
 refine W_fn rfl rfl ?_
 rcases hf with rfl | ⟨rfl, rfl⟩
 ·simp only [go_sem, c_ref6_Scan, h, under_bas, reduceCtorEq, ↓reduceIte, Nat.reduceAdd, Nat.reduceEqDiff, Nat.reduceLT, Int.reduceLE, Nat.reduceSub, Nat.reduceLeDiff, Nat.reduceMul, Int.reduceToNat, Int.reduceLT, Int.reduceEq, Int.reduceNeg, Nat.reduceBEq, Nat.reduceBNe]
 ·simp only [List.map_nil] at h ⊢
  simp only [go_sem, c_ref6_Scan, h, under_bas, reduceCtorEq, ↓reduceIte, Nat.reduceAdd, Nat.reduceEqDiff, Nat.reduceLT, Int.reduceLE, Nat.reduceSub, Nat.reduceLeDiff, Nat.reduceMul, Int.reduceToNat, Int.reduceLT, Int.reduceEq, Int.reduceNeg, Nat.reduceBEq, Nat.reduceBNe]

/-! ## What lies behind, what ahead -/
theorem endB_gt : ∀ {s : Int} {l : List Ba}, RowC s l → (∀ b ∈ l, Fit b) → ∀ b ∈ l, s < endB b
 | s, [], _, _, b, hb => by cases hb
 | s, c :: l, h, hf, b, hb => by
  have hc := countE_pos (hf c List.mem_cons_self)
  rcases List.mem_cons.1 hb with rfl | hb
  ·unfold endB; rw [h.1]; omega
  ·have := endB_gt h.2 (fun x hx => hf x (List.mem_cons_of_mem _ hx)) b hb
   omega
def fromF (off : Int) : List Ba → List Ba
 | [] => []
 | b :: l => if endB b > off then b :: fromF off l else fromF off l
theorem fromF_all (off : Int) : ∀ (l : List Ba), (∀ b ∈ l, off < endB b) → fromF off l = l
 | [], _ => rfl
 | b :: l, h => by
  unfold fromF
  rw [if_pos (h b List.mem_cons_self), fromF_all off l (fun x hx => h x (List.mem_cons_of_mem _ hx))]
theorem fromF_drop (off : Int) : ∀ (l : List Ba) (s : Int), RowC s l → (∀ b ∈ l, Fit b) → fromF off l = dropN off l
 | [], _, _, _ => rfl
 | b :: l, s, h, hf => by
  have hf' : ∀ x ∈ l, Fit x := fun x hx => hf x (List.mem_cons_of_mem _ hx)
  unfold fromF dropN
  by_cases c : endB b > off
  ·rw [if_pos c, if_neg (by omega)]
   have he : endB b = s + countE b := by unfold endB; rw [h.1]
   rw [fromF_all off l (fun x hx => by have := endB_gt h.2 hf' x hx; omega)]
  ·rw [if_neg c, if_pos (by omega)]
   exact fromF_drop off l _ h.2 hf'
def sumF (off : Int) : List Ba → Int
 | [] => 0
 | b :: l => (if endB b ≤ off then ((baBytes b).length : Int) else 0) + sumF off l
theorem sumF_none (off : Int) : ∀ (l : List Ba), (∀ b ∈ l, off < endB b) → sumF off l = 0
 | [], _ => rfl
 | b :: l, h => by
  unfold sumF
  have := h b List.mem_cons_self
  rw [if_neg (by omega), sumF_none off l (fun x hx => h x (List.mem_cons_of_mem _ hx))]; rfl
theorem sumF_cut (off : Int) : ∀ (l : List Ba) (s : Int), RowC s l → (∀ b ∈ l, Fit b) → sumF off l = cutN off l
 | [], _, _, _ => rfl
 | b :: l, s, h, hf => by
  have hf' : ∀ x ∈ l, Fit x := fun x hx => hf x (List.mem_cons_of_mem _ hx)
  unfold sumF cutN
  by_cases c : endB b > off
  ·rw [if_neg (by omega), if_pos c]
   have he : endB b = s + countE b := by unfold endB; rw [h.1]
   rw [sumF_none off l (fun x hx => by have := endB_gt h.2 hf' x hx; omega)]; rfl
  ·rw [if_pos (by omega), if_neg c, sumF_cut off l _ h.2 hf']
end Go.Abs

namespace Go.Abs
open Go Go.RowKit
set_option linter.unusedVariables false
set_option linter.unusedSimpArgs false

theorem from9_loop (L : List Ba) (hL : ∀ b ∈ L, Fit b) (hn : L.length ≤ 1000000) (off : Int) (f : Fl) (hf : f = .ro ∨ (f = .full ∧ L = [])) (H : Heap) (r : List Ba) : ∀ (p acc : List Ba) (fl : Fl) (N : Heap), L = p ++ r → acc.length ≤ p.length → (fl = .own ∨ (fl = .full ∧ acc = [])) →
  ∃ M fl', loopA W loopW (.ghost (.kill k_law9_from_0) l_law9_from_0) [(1, .int .i64 off), (5, .list 7 (acc.map Ba.V) fl), (8, .list 7 (L.map Ba.V) f), (9, .int .i64 (L.length : Nat)), (10, .int .i64 (p.length : Nat))] (hx H N) =
   some (.exit 0, [(5, .list 7 ((acc ++ fromF off r).map Ba.V) fl')], hx H M) ∧ (fl' = .own ∨ (fl' = .full ∧ acc ++ fromF off r = [])) := by
 induction r with
 | nil =>
  intro p acc fl N hp ha hfl
  rw [List.append_nil] at hp
  subst hp
  refine ⟨N, fl, ?_, by simpa [fromF] using hfl⟩
  have h1 : ¬ ((L.length : Int) < (L.length : Int)) := by omega
  rw [show fromF off [] = [] from rfl, List.append_nil]
  refine loop_step l_law9_from_0.eq_1 k_law9_from_0.eq_1 (by kernel_rfl) ?_
  simp only [go_sem, h1, reduceCtorEq, ↓reduceIte, Nat.reduceAdd, Nat.reduceEqDiff, Nat.reduceLT, Int.reduceLE, Nat.reduceSub, Nat.reduceLeDiff, Nat.reduceMul, Int.reduceToNat, Int.reduceLT, Int.reduceEq, Int.reduceNeg, Nat.reduceBEq, Nat.reduceBNe]
 | cons b r ih =>
  intro p acc fl N hp ha hfl
  have hf0 : f = .ro := by
   rcases hf with h | ⟨_, h⟩
   ·exact h
   ·rw [hp] at h; simp at h
  subst hf0
  have hlen : L.length = p.length + (r.length + 1) := by rw [hp]; simp
  have h1 : ((p.length : Int) < (L.length : Int)) := by omega
  have e0 : (0 : Int) ≤ (p.length : Int) := by omega
  have e7 : ((p.length : Nat) : Int).toNat = p.length := by omega
  have e1 : (L.map Ba.V)[p.length]? = some (.agg [.int .i64 b.base, .int .i64 b.prod, .int .i64 b.epoch, .int .i64 b.seq, .bool b.txn, .int .i64 b.mark, .list 2 (b.recs.map rcV) .ro]) := by rw [hp]; simp [Ba.V, Ba.cs]
  have e6 : IntKind.i64.wrap ((p.length : Int) + 1) = ((p.length + 1 : Nat) : Int) := by rw [wrap_id (by unfold I64; omega)]; omega
  have hb := hL b (by rw [hp]; simp)
  have hbb := hb.base
  have hbc := hb.count
  have w1 : IntKind.i64.wrap (b.base + countE b) = endB b := wrap_id (by unfold I64; omega)
  have t := fun H => rcount_spec b H
  have tv : ∀ H, W n_ref6_Count [.agg [.int .i64 b.base, .int .i64 b.prod, .int .i64 b.epoch, .int .i64 b.seq, .bool b.txn, .int .i64 b.mark, .list 2 (b.recs.map rcV) .ro]] H = some (.int .i64 (countE b), H) := t
  by_cases c : endB b > off
  ·obtain ⟨M, fl', h2, hf'⟩ := ih (p ++ [b]) (acc ++ [b]) .own (N ++ [.cells b.cs]) (by rw [hp]; simp) (by rw [List.length_append, List.length_append]; simp; omega) (.inl rfl)
   have ef : acc ++ [b] ++ fromF off r = acc ++ fromF off (b :: r) := by rw [List.append_assoc, show fromF off (b :: r) = b :: fromF off r from if_pos c]; rfl
   rw [ef] at h2 hf'
   refine ⟨M, fl', ?_, hf'⟩
   simp only [List.length_append, List.length_cons, List.length_nil, Nat.zero_add] at h2
   have bb : (acc.length + 1) * 72 ≤ maxBytes := by simp only [maxBytes]; omega
   have b0 : (0 + 1) * 72 ≤ maxBytes := by decide
   have e8 : acc.map Ba.V ++ [.agg [.int .i64 b.base, .int .i64 b.prod, .int .i64 b.epoch, .int .i64 b.seq, .bool b.txn, .int .i64 b.mark, .list 2 (b.recs.map rcV) .ro]] = (acc ++ [b]).map Ba.V := by simp [Ba.V, Ba.cs]
   unfold Ba.cs at h2
   generalize acc ++ fromF off (b :: r) = Y at *
   refine loop_step l_law9_from_0.eq_1 k_law9_from_0.eq_1 (by kernel_rfl) ?_
   rcases hfl with rfl | ⟨rfl, rfl⟩
   ·simp only [go_sem, h1, e0, e7, e1, tv, w1, c, List.length_map, apO, bb, e8, e6, reduceCtorEq, ↓reduceIte, Nat.reduceAdd, Nat.reduceEqDiff, Nat.reduceLT, Int.reduceLE, Nat.reduceSub, Nat.reduceLeDiff, Nat.reduceMul, Int.reduceToNat, Int.reduceLT, Int.reduceEq, Int.reduceNeg, Nat.reduceBEq, Nat.reduceBNe]
    exact h2
   ·simp only [List.map_nil, List.nil_append] at e8 h2 ⊢
    simp only [go_sem, h1, e0, e7, e1, tv, w1, c, List.length_map, apF, List.length_nil, b0, List.nil_append, e6, reduceCtorEq, ↓reduceIte, Nat.reduceAdd, Nat.reduceEqDiff, Nat.reduceLT, Int.reduceLE, Nat.reduceSub, Nat.reduceLeDiff, Nat.reduceMul, Int.reduceToNat, Int.reduceLT, Int.reduceEq, Int.reduceNeg, Nat.reduceBEq, Nat.reduceBNe]
    rw [e8]
    exact h2
  ·obtain ⟨M, fl', h2, hf'⟩ := ih (p ++ [b]) acc fl (N ++ [.cells b.cs]) (by rw [hp]; simp) (by rw [List.length_append]; omega) hfl
   have ef : fromF off r = fromF off (b :: r) := (if_neg c).symm
   rw [ef] at h2 hf'
   refine ⟨M, fl', ?_, hf'⟩
   simp only [List.length_append, List.length_cons, List.length_nil, Nat.zero_add] at h2
   unfold Ba.cs at h2
   generalize acc ++ fromF off (b :: r) = Y at *
   refine loop_step l_law9_from_0.eq_1 k_law9_from_0.eq_1 (by kernel_rfl) ?_
   simp only [go_sem, h1, e0, e7, e1, tv, w1, c, e6, reduceCtorEq, ↓reduceIte, Nat.reduceAdd, Nat.reduceEqDiff, Nat.reduceLT, Int.reduceLE, Nat.reduceSub, Nat.reduceLeDiff, Nat.reduceMul, Int.reduceToNat, Int.reduceLT, Int.reduceEq, Int.reduceNeg, Nat.reduceBEq, Nat.reduceBNe]
   exact h2
theorem from9_spec (L : List Ba) (hL : ∀ b ∈ L, Fit b) (hn : L.length ≤ 1000000) (off : Int) (H : Heap) :
  ∃ f, W n_law9_from [.list 7 (L.map Ba.V) .ro, .int .i64 off] H = some (.list 7 ((fromF off L).map Ba.V) f, H) ∧ (f = .own ∨ (f = .full ∧ fromF off L = [])) := by
 obtain ⟨M, f, h, hf⟩ := from9_loop L hL hn off .ro (.inl rfl) H L [] [] .full [] rfl (Nat.le_refl _) (.inr ⟨rfl, rfl⟩)
 simp only [List.length_nil, Int.natCast_zero, List.map_nil, List.nil_append] at h hf
 generalize fromF off L = Y at *
 refine ⟨f, ?_, hf⟩
 refine W_fn rfl rfl ?_
 rcases hf with rfl | ⟨rfl, rfl⟩
 ·simp only [go_sem, c_law9_from, List.length_map, h, under_bas, reduceCtorEq, ↓reduceIte, Nat.reduceAdd, Nat.reduceEqDiff, Nat.reduceLT, Int.reduceLE, Nat.reduceSub, Nat.reduceLeDiff, Nat.reduceMul, Int.reduceToNat, Int.reduceLT, Int.reduceEq, Int.reduceNeg, Nat.reduceBEq, Nat.reduceBNe]
 ·simp only [List.map_nil] at h ⊢
  simp only [go_sem, c_law9_from, List.length_map, h, under_bas, reduceCtorEq, ↓reduceIte, Nat.reduceAdd, Nat.reduceEqDiff, Nat.reduceLT, Int.reduceLE, Nat.reduceSub, Nat.reduceLeDiff, Nat.reduceMul, Int.reduceToNat, Int.reduceLT, Int.reduceEq, Int.reduceNeg, Nat.reduceBEq, Nat.reduceBNe]

theorem same9_loop (L : List Ba) (hL : ∀ b ∈ L, Fit b) (hn : L.length ≤ 1000000) (f : Fl) (hf : f = .ro ∨ (f = .full ∧ L = [])) (v0 : AVal) (base off : Int) (v13 : AVal) (hv : (∃ i, v13 = .ptr i 0) ∨ v13 = .nilp) (ok : Bool) (fw : Fl) (hfw : fw = .own ∨ (fw = .full ∧ L = [])) (p0 : List Int) (hv0 : v0 = bytes p0 .ro) (H : Heap) (r : List Ba) : ∀ (p : List Ba) (n : Int) (N : Heap), L = p ++ r → 0 ≤ n → n ≤ 2404 * p.length →
  ∃ M, loopA W loopW (.ghost (.kill k_law9_same_0) l_law9_same_0) [(0, v0), (1, .int .i64 base), (3, .int .i64 off), (11, .list 7 (L.map Ba.V) fw), (13, v13), (14, .bool ok), (15, .int .i64 n), (77, .list 7 (L.map Ba.V) f), (78, .int .i64 (L.length : Nat)), (79, .int .i64 (p.length : Nat))] (hx H N) =
   some (.exit 0, [(0, v0), (1, .int .i64 base), (3, .int .i64 off), (11, .list 7 (L.map Ba.V) fw), (13, v13), (14, .bool ok), (15, .int .i64 (n + sumF off r))], hx H M) := by
 subst hv0
 induction r with
 | nil =>
  intro p n N hp h0 h1
  rw [List.append_nil] at hp
  subst hp
  refine ⟨N, ?_⟩
  have h1 : ¬ ((L.length : Int) < (L.length : Int)) := by omega
  rw [show sumF off [] = 0 from rfl, Int.add_zero]
  refine loop_step l_law9_same_0.eq_1 k_law9_same_0.eq_1 (by kernel_rfl) ?_
  rcases hv with ⟨i, rfl⟩ | rfl
  ·simp only [go_sem, h1, reduceCtorEq, ↓reduceIte, Nat.reduceAdd, Nat.reduceEqDiff, Nat.reduceLT, Int.reduceLE, Nat.reduceSub, Nat.reduceLeDiff, Nat.reduceMul, Int.reduceToNat, Int.reduceLT, Int.reduceEq, Int.reduceNeg, Nat.reduceBEq, Nat.reduceBNe]
  ·simp only [go_sem, h1, reduceCtorEq, ↓reduceIte, Nat.reduceAdd, Nat.reduceEqDiff, Nat.reduceLT, Int.reduceLE, Nat.reduceSub, Nat.reduceLeDiff, Nat.reduceMul, Int.reduceToNat, Int.reduceLT, Int.reduceEq, Int.reduceNeg, Nat.reduceBEq, Nat.reduceBNe]
 | cons b r ih =>
  intro p n N hp hn0 hn1
  have hf0 : f = .ro := by
   rcases hf with h | ⟨_, h⟩
   ·exact h
   ·rw [hp] at h; simp at h
  subst hf0
  have hlen : L.length = p.length + (r.length + 1) := by rw [hp]; simp
  have h1 : ((p.length : Int) < (L.length : Int)) := by omega
  have e0 : (0 : Int) ≤ (p.length : Int) := by omega
  have e7 : ((p.length : Nat) : Int).toNat = p.length := by omega
  have e1 : (L.map Ba.V)[p.length]? = some (.agg [.int .i64 b.base, .int .i64 b.prod, .int .i64 b.epoch, .int .i64 b.seq, .bool b.txn, .int .i64 b.mark, .list 2 (b.recs.map rcV) .ro]) := by rw [hp]; simp [Ba.V, Ba.cs]
  have e6 : IntKind.i64.wrap ((p.length : Int) + 1) = ((p.length + 1 : Nat) : Int) := by rw [wrap_id (by unfold I64; omega)]; omega
  have hb := hL b (by rw [hp]; simp)
  have hbb := hb.base
  have hbc := hb.count
  have w1 : IntKind.i64.wrap (b.base + countE b) = endB b := wrap_id (by unfold I64; omega)
  have t := fun H => rcount_spec b H
  have tv : ∀ H, W n_ref6_Count [.agg [.int .i64 b.base, .int .i64 b.prod, .int .i64 b.epoch, .int .i64 b.seq, .bool b.txn, .int .i64 b.mark, .list 2 (b.recs.map rcV) .ro]] H = some (.int .i64 (countE b), H) := t
  have t2 := fun H => ref_size_spec b hb.ok H
  rw [fit_size hb] at t2
  have tv2 : ∀ H, W n_ref6_Size [.agg [.int .i64 b.base, .int .i64 b.prod, .int .i64 b.epoch, .int .i64 b.seq, .bool b.txn, .int .i64 b.mark, .list 2 (b.recs.map rcV) .ro]] H = some (.int .i64 ((baBytes b).length : Nat), H) := t2
  have hbl := baBytes_len (rightE_small hb.right)
  by_cases c : endB b ≤ off
  ·have w2 : IntKind.i64.wrap (n + ((baBytes b).length : Int)) = n + ((baBytes b).length : Int) := wrap_id (by unfold I64; omega)
   obtain ⟨M, h2⟩ := ih (p ++ [b]) (n + ((baBytes b).length : Int)) (N ++ [.cells b.cs]) (by rw [hp]; simp) (by omega) (by rw [List.length_append]; simp; omega)
   refine ⟨M, ?_⟩
   rw [show sumF off (b :: r) = ((baBytes b).length : Int) + sumF off r by rw [sumF, if_pos c], ← Int.add_assoc]
   simp only [List.length_append, List.length_cons, List.length_nil, Nat.zero_add] at h2
   unfold Ba.cs at h2
   generalize ((baBytes b).length : Int) = T at *
   refine loop_step l_law9_same_0.eq_1 k_law9_same_0.eq_1 (by kernel_rfl) ?_
   rcases hv with ⟨i, rfl⟩ | rfl
   ·rcases hfw with rfl | ⟨rfl, _⟩
    ·simp only [go_sem, h1, e0, e7, e1, tv, w1, c, tv2, w2, e6, reduceCtorEq, ↓reduceIte, Nat.reduceAdd, Nat.reduceEqDiff, Nat.reduceLT, Int.reduceLE, Nat.reduceSub, Nat.reduceLeDiff, Nat.reduceMul, Int.reduceToNat, Int.reduceLT, Int.reduceEq, Int.reduceNeg, Nat.reduceBEq, Nat.reduceBNe]
     exact h2
    ·simp only [go_sem, h1, e0, e7, e1, tv, w1, c, tv2, w2, e6, reduceCtorEq, ↓reduceIte, Nat.reduceAdd, Nat.reduceEqDiff, Nat.reduceLT, Int.reduceLE, Nat.reduceSub, Nat.reduceLeDiff, Nat.reduceMul, Int.reduceToNat, Int.reduceLT, Int.reduceEq, Int.reduceNeg, Nat.reduceBEq, Nat.reduceBNe]
     exact h2
   ·rcases hfw with rfl | ⟨rfl, _⟩
    ·simp only [go_sem, h1, e0, e7, e1, tv, w1, c, tv2, w2, e6, reduceCtorEq, ↓reduceIte, Nat.reduceAdd, Nat.reduceEqDiff, Nat.reduceLT, Int.reduceLE, Nat.reduceSub, Nat.reduceLeDiff, Nat.reduceMul, Int.reduceToNat, Int.reduceLT, Int.reduceEq, Int.reduceNeg, Nat.reduceBEq, Nat.reduceBNe]
     exact h2
    ·simp only [go_sem, h1, e0, e7, e1, tv, w1, c, tv2, w2, e6, reduceCtorEq, ↓reduceIte, Nat.reduceAdd, Nat.reduceEqDiff, Nat.reduceLT, Int.reduceLE, Nat.reduceSub, Nat.reduceLeDiff, Nat.reduceMul, Int.reduceToNat, Int.reduceLT, Int.reduceEq, Int.reduceNeg, Nat.reduceBEq, Nat.reduceBNe]
     exact h2
  ·obtain ⟨M, h2⟩ := ih (p ++ [b]) n (N ++ [.cells b.cs]) (by rw [hp]; simp) (by omega) (by rw [List.length_append]; simp; omega)
   refine ⟨M, ?_⟩
   rw [show sumF off (b :: r) = sumF off r by rw [sumF, if_neg c, Int.zero_add]]
   simp only [List.length_append, List.length_cons, List.length_nil, Nat.zero_add] at h2
   unfold Ba.cs at h2
   refine loop_step l_law9_same_0.eq_1 k_law9_same_0.eq_1 (by kernel_rfl) ?_
   rcases hv with ⟨i, rfl⟩ | rfl
   ·rcases hfw with rfl | ⟨rfl, _⟩
    ·simp only [go_sem, h1, e0, e7, e1, tv, w1, c, e6, reduceCtorEq, ↓reduceIte, Nat.reduceAdd, Nat.reduceEqDiff, Nat.reduceLT, Int.reduceLE, Nat.reduceSub, Nat.reduceLeDiff, Nat.reduceMul, Int.reduceToNat, Int.reduceLT, Int.reduceEq, Int.reduceNeg, Nat.reduceBEq, Nat.reduceBNe]
     exact h2
    ·simp only [go_sem, h1, e0, e7, e1, tv, w1, c, e6, reduceCtorEq, ↓reduceIte, Nat.reduceAdd, Nat.reduceEqDiff, Nat.reduceLT, Int.reduceLE, Nat.reduceSub, Nat.reduceLeDiff, Nat.reduceMul, Int.reduceToNat, Int.reduceLT, Int.reduceEq, Int.reduceNeg, Nat.reduceBEq, Nat.reduceBNe]
     exact h2
   ·rcases hfw with rfl | ⟨rfl, _⟩
    ·simp only [go_sem, h1, e0, e7, e1, tv, w1, c, e6, reduceCtorEq, ↓reduceIte, Nat.reduceAdd, Nat.reduceEqDiff, Nat.reduceLT, Int.reduceLE, Nat.reduceSub, Nat.reduceLeDiff, Nat.reduceMul, Int.reduceToNat, Int.reduceLT, Int.reduceEq, Int.reduceNeg, Nat.reduceBEq, Nat.reduceBNe]
     exact h2
    ·simp only [go_sem, h1, e0, e7, e1, tv, w1, c, e6, reduceCtorEq, ↓reduceIte, Nat.reduceAdd, Nat.reduceEqDiff, Nat.reduceLT, Int.reduceLE, Nat.reduceSub, Nat.reduceLeDiff, Nat.reduceMul, Int.reduceToNat, Int.reduceLT, Int.reduceEq, Int.reduceNeg, Nat.reduceBEq, Nat.reduceBNe]
     exact h2
end Go.Abs

namespace Go.Abs
open Go Go.RowKit
set_option linter.unusedVariables false
set_option linter.unusedSimpArgs false

set_option maxHeartbeats 8000000 in
set_option maxRecDepth 8000 in
theorem lsame9_spec (p : List Int) (hp : ∀ x ∈ p, 0 ≤ x ∧ x < 256) (hl : p.length ≤ 36000) (base every off : Int) (H : Heap) :
    W n_law9_same [bytes p .ro, .int .i64 base, .int .i64 every, .int .i64 off] H = some (.bool true, H) := by
  obtain ⟨f1, u1, hf1⟩ := scan_spec p hp (by omega) base (hx H [])
  obtain ⟨f2, u2, hf2⟩ := rscan_spec p hp (by omega) base (hx H [])
  obtain ⟨s1, s2, s3, s4⟩ := scan_fit (p.length + 1) base p hp
  have s5 := scan_len (p.length + 1) base p hp
  have hs : scanR (p.length + 1) base p = scanB base p := rfl
  rw [hs] at s1 s2 s3 s4 s5
  have tf := fun x H => from_spec9 p hp (by omega) x base off H
  have tc := fun H => cut_spec9 p hp (by omega) base off H
  have tb := fun hk => build_yes p hp (by omega) base every hk (hx H [])
  have tn := fun hk H => build_no p base every hk H
  generalize scanB base p = R at *
  obtain ⟨L, e⟩ := R
  simp only at u1 u2 hf1 hf2 s1 s2 s3 s4 s5 tf tc tb
  have tr := fun H => rows_spec6 L (fun b hb => fit_recs (s1 b hb)) (by omega) H
  have tx := fun H => next_spec9 L s1 (by omega) base H
  have tE := fun H => end_spec base L s1 (by omega) .ro (.inl rfl) H
  have hd := dropN_mem off L
  have hdl := dropN_len off L
  have tr2 := fun H => rows_spec6 (dropN off L) (fun b hb => fit_recs (s1 b (hd b hb))) (by omega) H
  have hff := fromF_drop off L base s2 s1
  have hsf := sumF_cut off L base s2 s1
  have tg := fun H => from9_spec L s1 (by omega) off H
  rw [hff] at tg
  have tl := fun f hf v13 hv ok fw hfw N => same9_loop L s1 (by omega) f hf (bytes p .ro) base off v13 hv ok fw hfw p rfl H L [] 0 N rfl (by decide) (by decide)
  simp only [List.length_nil, Int.natCast_zero, Int.zero_add] at tl
  rw [hsf] at tl
  generalize dropN off L = D at *
  generalize cutN off L = C at *
  generalize endE base L = E at *
  have hbool : ∀ a : Bool, (a != a) = false := fun a => by cases a <;> rfl
  have fr : ∀ g : Fl, (g = .own ∨ (g = .full ∧ L = [])) → ∃ g', (g' = .ro ∨ (g' = .full ∧ L = [])) ∧ (AVal.list 7 (L.map Ba.V) g).share0 = .list 7 (L.map Ba.V) g' := by
    rintro g (rfl | ⟨rfl, h⟩)
    · exact ⟨.ro, .inl rfl, rfl⟩
    · exact ⟨.full, .inr ⟨rfl, h⟩, rfl⟩
  have main : ∀ (c1 : base ≥ 0) (c2 : base ≤ 1099511627776) (c3 : every ≥ 1) (c4 : every ≤ 1073741824), W n_law9_same [bytes p .ro, .int .i64 base, .int .i64 every, .int .i64 off] H = some (.bool true, H) := by
    intro c1 c2 c3 c4
    have hk : newOK base every = true := by
      unfold newOK
      rw [decide_eq_true (by omega), decide_eq_true (by omega), decide_eq_true (by omega), decide_eq_true (by omega)]; rfl
    obtain ⟨M, fl', tb', hF⟩ := tb hk
    have p0 : pt (hx H []) 0 = pt H 0 := by rw [hx_nil]
    rw [p0, hx_hx, List.nil_append] at tb'
    generalize buildI ⟨base, every, []⟩ 0 L = X at *
    have tf' := fun H => tf (.ptr (pt H 0) 0) H
    rcases hf2 with rfl | ⟨rfl, h0⟩
    · obtain ⟨M2, h2⟩ := tl .ro (.inl rfl) (.ptr (pt H 0) 0) (.inl ⟨_, rfl⟩) true .own (.inl rfl) (X.B fl' :: M)
      obtain ⟨f3, tg', hf3⟩ := tg (hx H M2)
      refine W_fn rfl rfl ?_
      rcases hf1 with rfl | ⟨rfl, _⟩
      all_goals
        rcases hf3 with rfl | ⟨rfl, _⟩
        all_goals
          simp only [go_sem, c_law9_same, u1, u2, tr, tx, tE, tb', c1, c2, c3, c4, hbool, List.length_map, h2, tf, tg', tr2, tc, reduceCtorEq, ↓reduceIte, Nat.reduceAdd, Nat.reduceEqDiff, Nat.reduceLT, Int.reduceLE, Nat.reduceSub, Nat.reduceLeDiff, Nat.reduceMul, Int.reduceToNat, Int.reduceLT, Int.reduceEq, Int.reduceNeg, Nat.reduceBEq, Nat.reduceBNe]
    · obtain ⟨M2, h2⟩ := tl .full (.inr ⟨rfl, h0⟩) (.ptr (pt H 0) 0) (.inl ⟨_, rfl⟩) true .full (.inr ⟨rfl, h0⟩) (X.B fl' :: M)
      obtain ⟨f3, tg', hf3⟩ := tg (hx H M2)
      refine W_fn rfl rfl ?_
      rcases hf1 with rfl | ⟨rfl, _⟩
      all_goals
        rcases hf3 with rfl | ⟨rfl, _⟩
        all_goals
          simp only [go_sem, c_law9_same, u1, u2, tr, tx, tE, tb', c1, c2, c3, c4, hbool, List.length_map, h2, tf, tg', tr2, tc, reduceCtorEq, ↓reduceIte, Nat.reduceAdd, Nat.reduceEqDiff, Nat.reduceLT, Int.reduceLE, Nat.reduceSub, Nat.reduceLeDiff, Nat.reduceMul, Int.reduceToNat, Int.reduceLT, Int.reduceEq, Int.reduceNeg, Nat.reduceBEq, Nat.reduceBNe]
  have none_ : newOK base every = false → W n_law9_same [bytes p .ro, .int .i64 base, .int .i64 every, .int .i64 off] H = some (.bool true, H) := by
    intro hk
    have tn' := tn hk
    have cases4 : base < 0 ∨ base > 1099511627776 ∨ every < 1 ∨ every > 1073741824 := by
      rcases Int.lt_or_le base 0 with h | h
      · exact .inl h
      · rcases Int.lt_or_le 1099511627776 base with h2 | h2
        · exact .inr (.inl h2)
        · rcases Int.lt_or_le every 1 with h3 | h3
          · exact .inr (.inr (.inl h3))
          · rcases Int.lt_or_le 1073741824 every with h4 | h4
            · exact .inr (.inr (.inr h4))
            · exfalso
              unfold newOK at hk
              rw [decide_eq_true (by omega), decide_eq_true (by omega), decide_eq_true (by omega), decide_eq_true (by omega)] at hk
              cases hk
    have fin : ∀ f2', (f2' = f2) → True := fun _ _ => trivial
    rcases hf2 with rfl | ⟨rfl, h0⟩
    · obtain ⟨M2, h2⟩ := tl .ro (.inl rfl) .nilp (.inr rfl) false .own (.inl rfl) []
      obtain ⟨f3, tg', hf3⟩ := tg (hx H M2)
      refine W_fn rfl rfl ?_
      rcases hf1 with rfl | ⟨rfl, _⟩
      all_goals
        rcases hf3 with rfl | ⟨rfl, _⟩
        all_goals
          by_cases c1 : base ≥ 0
          · by_cases c2 : base ≤ 1099511627776
            · by_cases c3 : every ≥ 1
              · have c4 : ¬ every ≤ 1073741824 := by omega
                simp only [go_sem, c_law9_same, u1, u2, tr, tx, tE, tn', c1, c2, c3, c4, hbool, List.length_map, h2, tf, tg', tr2, tc, reduceCtorEq, ↓reduceIte, Nat.reduceAdd, Nat.reduceEqDiff, Nat.reduceLT, Int.reduceLE, Nat.reduceSub, Nat.reduceLeDiff, Nat.reduceMul, Int.reduceToNat, Int.reduceLT, Int.reduceEq, Int.reduceNeg, Nat.reduceBEq, Nat.reduceBNe]
              · simp only [go_sem, c_law9_same, u1, u2, tr, tx, tE, tn', c1, c2, c3, hbool, List.length_map, h2, tf, tg', tr2, tc, reduceCtorEq, ↓reduceIte, Nat.reduceAdd, Nat.reduceEqDiff, Nat.reduceLT, Int.reduceLE, Nat.reduceSub, Nat.reduceLeDiff, Nat.reduceMul, Int.reduceToNat, Int.reduceLT, Int.reduceEq, Int.reduceNeg, Nat.reduceBEq, Nat.reduceBNe]
            · simp only [go_sem, c_law9_same, u1, u2, tr, tx, tE, tn', c1, c2, hbool, List.length_map, h2, tf, tg', tr2, tc, reduceCtorEq, ↓reduceIte, Nat.reduceAdd, Nat.reduceEqDiff, Nat.reduceLT, Int.reduceLE, Nat.reduceSub, Nat.reduceLeDiff, Nat.reduceMul, Int.reduceToNat, Int.reduceLT, Int.reduceEq, Int.reduceNeg, Nat.reduceBEq, Nat.reduceBNe]
          · simp only [go_sem, c_law9_same, u1, u2, tr, tx, tE, tn', c1, hbool, List.length_map, h2, tf, tg', tr2, tc, reduceCtorEq, ↓reduceIte, Nat.reduceAdd, Nat.reduceEqDiff, Nat.reduceLT, Int.reduceLE, Nat.reduceSub, Nat.reduceLeDiff, Nat.reduceMul, Int.reduceToNat, Int.reduceLT, Int.reduceEq, Int.reduceNeg, Nat.reduceBEq, Nat.reduceBNe]
    · obtain ⟨M2, h2⟩ := tl .full (.inr ⟨rfl, h0⟩) .nilp (.inr rfl) false .full (.inr ⟨rfl, h0⟩) []
      obtain ⟨f3, tg', hf3⟩ := tg (hx H M2)
      refine W_fn rfl rfl ?_
      rcases hf1 with rfl | ⟨rfl, _⟩
      all_goals
        rcases hf3 with rfl | ⟨rfl, _⟩
        all_goals
          by_cases c1 : base ≥ 0
          · by_cases c2 : base ≤ 1099511627776
            · by_cases c3 : every ≥ 1
              · have c4 : ¬ every ≤ 1073741824 := by omega
                simp only [go_sem, c_law9_same, u1, u2, tr, tx, tE, tn', c1, c2, c3, c4, hbool, List.length_map, h2, tf, tg', tr2, tc, reduceCtorEq, ↓reduceIte, Nat.reduceAdd, Nat.reduceEqDiff, Nat.reduceLT, Int.reduceLE, Nat.reduceSub, Nat.reduceLeDiff, Nat.reduceMul, Int.reduceToNat, Int.reduceLT, Int.reduceEq, Int.reduceNeg, Nat.reduceBEq, Nat.reduceBNe]
              · simp only [go_sem, c_law9_same, u1, u2, tr, tx, tE, tn', c1, c2, c3, hbool, List.length_map, h2, tf, tg', tr2, tc, reduceCtorEq, ↓reduceIte, Nat.reduceAdd, Nat.reduceEqDiff, Nat.reduceLT, Int.reduceLE, Nat.reduceSub, Nat.reduceLeDiff, Nat.reduceMul, Int.reduceToNat, Int.reduceLT, Int.reduceEq, Int.reduceNeg, Nat.reduceBEq, Nat.reduceBNe]
            · simp only [go_sem, c_law9_same, u1, u2, tr, tx, tE, tn', c1, c2, hbool, List.length_map, h2, tf, tg', tr2, tc, reduceCtorEq, ↓reduceIte, Nat.reduceAdd, Nat.reduceEqDiff, Nat.reduceLT, Int.reduceLE, Nat.reduceSub, Nat.reduceLeDiff, Nat.reduceMul, Int.reduceToNat, Int.reduceLT, Int.reduceEq, Int.reduceNeg, Nat.reduceBEq, Nat.reduceBNe]
          · simp only [go_sem, c_law9_same, u1, u2, tr, tx, tE, tn', c1, hbool, List.length_map, h2, tf, tg', tr2, tc, reduceCtorEq, ↓reduceIte, Nat.reduceAdd, Nat.reduceEqDiff, Nat.reduceLT, Int.reduceLE, Nat.reduceSub, Nat.reduceLeDiff, Nat.reduceMul, Int.reduceToNat, Int.reduceLT, Int.reduceEq, Int.reduceNeg, Nat.reduceBEq, Nat.reduceBNe]
  cases hk : newOK base every with
  | false => exact none_ hk
  | true =>
    have hk' := hk
    unfold newOK at hk'
    simp only [Bool.and_eq_true, decide_eq_true_eq] at hk'
    exact main (by omega) (by omega) (by omega) (by omega)
end Go.Abs

namespace Go.Abs
open Go Go.RowKit
set_option linter.unusedVariables false
set_option linter.unusedSimpArgs false

theorem sn0_loop (P : List Int) (hP : ∀ x ∈ P, 0 ≤ x ∧ x < 256) (hl : P.length ≤ 36000) (f : Fl) (hf : f = .own ∨ f = .full) (k : Nat) (hk : k ≤ 30) (e : Int) (he0 : 0 ≤ e) (he : e ≤ 2199023255552) (H : Heap) (d : Nat) :
    ∀ (o : Int), -2 ≤ o → o ≤ 2199023255600 → (e + 3 - o).toNat = d →
    loopA W loopW (.ghost (.kill k_law9_SegmentNumbers_0) l_law9_SegmentNumbers_0) [(1, .int .i64 (k : Nat)), (3, bytes P f), (4, .int .i64 e), (5, .int .i64 o)] H = some (.exit 2, [(1, .int .i64 (k : Nat)), (3, bytes P f)], H) := by
  induction d with
  | zero =>
    intro o h0 h1 hd
    have c : ¬ (o < e + 3) := by omega
    have w1 : IntKind.i64.wrap (e + 3) = e + 3 := wrap_id (by unfold I64; omega)
    refine loop_step l_law9_SegmentNumbers_0.eq_1 k_law9_SegmentNumbers_0.eq_1 (by kernel_rfl) ?_
    rcases hf with rfl | rfl
    all_goals simp only [go_sem, w1, c, reduceCtorEq, ↓reduceIte, Nat.reduceAdd, Nat.reduceEqDiff, Nat.reduceLT, Int.reduceLE, Nat.reduceSub, Nat.reduceLeDiff, Nat.reduceMul, Int.reduceToNat, Int.reduceLT, Int.reduceEq, Int.reduceNeg, Nat.reduceBEq, Nat.reduceBNe]
  | succ d ih =>
    intro o h0 h1 hd
    have c : o < e + 3 := by omega
    have w1 : IntKind.i64.wrap (e + 3) = e + 3 := wrap_id (by unfold I64; omega)
    have w2 : IntKind.i64.wrap ((k : Int) * 20) = (k : Int) * 20 := wrap_id (by unfold I64; omega)
    have w3 : IntKind.i64.wrap (1 + (k : Int) * 20) = 1 + (k : Int) * 20 := wrap_id (by unfold I64; omega)
    have w4 : IntKind.i64.wrap (o + 1) = o + 1 := wrap_id (by unfold I64; omega)
    have t1 := fun base every off H => lsame9_spec P hP hl base every off H
    have h2 := ih (o + 1) (by omega) (by omega) (by omega)
    refine loop_step l_law9_SegmentNumbers_0.eq_1 k_law9_SegmentNumbers_0.eq_1 (by kernel_rfl) ?_
    rcases hf with rfl | rfl
    all_goals
      simp only [go_sem, c, w1, w2, w3, t1, w4, reduceCtorEq, ↓reduceIte, Nat.reduceAdd, Nat.reduceEqDiff, Nat.reduceLT, Int.reduceLE, Nat.reduceSub, Nat.reduceLeDiff, Nat.reduceMul, Int.reduceToNat, Int.reduceLT, Int.reduceEq, Int.reduceNeg, Nat.reduceBEq, Nat.reduceBNe]
      exact h2

theorem sn1_loop (P : List Int) (hP : ∀ x ∈ P, 0 ≤ x ∧ x < 256) (hl : P.length ≤ 36000) (f : Fl) (hf : f = .own ∨ f = .full) (k : Nat) (hk : k ≤ 30) (H : Heap) (d : Nat) : ∀ (i : Nat) (N : Heap), P.length + 5 ≤ i + d →
    ∃ M, loopA W loopW (.ghost (.kill k_law9_SegmentNumbers_1) l_law9_SegmentNumbers_1) [(1, .int .i64 (k : Nat)), (3, bytes P f), (6, .int .i64 (i : Nat))] (hx H N) = some (.exit 4, [(1, .int .i64 (k : Nat))], hx H M) := by
  induction d with
  | zero =>
    intro i N hi
    have c : ¬ ((i : Int) < (P.length : Int)) := by omega
    refine ⟨N, ?_⟩
    refine loop_step l_law9_SegmentNumbers_1.eq_1 k_law9_SegmentNumbers_1.eq_1 (by kernel_rfl) ?_
    rcases hf with rfl | rfl
    all_goals simp only [go_sem, List.length_map, c, reduceCtorEq, ↓reduceIte, Nat.reduceAdd, Nat.reduceEqDiff, Nat.reduceLT, Int.reduceLE, Nat.reduceSub, Nat.reduceLeDiff, Nat.reduceMul, Int.reduceToNat, Int.reduceLT, Int.reduceEq, Int.reduceNeg, Nat.reduceBEq, Nat.reduceBNe]
  | succ d ih =>
    intro i N hi
    by_cases c : (i : Int) < (P.length : Int)
    · have e6 : IntKind.i64.wrap ((i : Int) + 5) = ((i + 5 : Nat) : Int) := by rw [wrap_id (by unfold I64; omega)]; omega
      have i0 : (0 : Int) ≤ (i : Int) := by omega
      have i7 : ((i : Nat) : Int).toNat = i := by omega
      have il : (i : Int) ≤ (P.length : Int) := by omega
      have hil : i < P.length := by omega
      have w1 : IntKind.i64.wrap ((k : Int) + 1) = (k : Int) + 1 := wrap_id (by unfold I64; omega)
      have w2 : IntKind.i64.wrap ((k : Int) + 2) = (k : Int) + 2 := wrap_id (by unfold I64; omega)
      have q1 : (ints .u8 P).take i = ints .u8 (P.take i) := by rw [← List.map_take]
      have hPt : ∀ x ∈ P.take i, 0 ≤ x ∧ x < 256 := fun x hx => hP x (List.mem_of_mem_take hx)
      have t1 := fun base every off H => lsame9_spec (P.take i) hPt (by rw [List.length_take]; omega) base every off H
      obtain ⟨v, hv⟩ : ∃ v, bits .xor .u8 (P.getD i 0) 4 = v := ⟨_, rfl⟩
      have hv8 : 0 ≤ v ∧ v < 256 := by rw [← hv]; exact u8r _
      have bx : (ints .u8 P).length * 1 ≤ maxBytes := by rw [List.length_map]; simp only [maxBytes]; omega
      have ta := apU (ints .u8 P) bx
      have lx : i < (ints .u8 P).length := by rw [List.length_map]; omega
      have g1 := fun e h1 => thaw_v 7 (ints .u8 P) e H N h1
      have g2 := ix_v i (ints .u8 P) lx H N
      have g3 := ld_v i P hil H N
      have g4 := st_v i P v hil H N
      have g5 := fun e h1 => back_v 7 (ints .u8 (P.set i v)) e H N h1
      have g6 := fun e H h1 => freeze_v 7 (ints .u8 (P.set i v)) e H h1
      have t2 := fun base every off H => lsame9_spec (P.set i v) (by
        intro x hx
        rcases List.mem_or_eq_of_mem_set hx with hx | rfl
        · exact hP x hx
        · exact hv8) (by rw [List.length_set]; omega) base every off H
      obtain ⟨M, h2⟩ := ih (i + 5) (N ++ [.dead]) (by omega)
      refine ⟨M, ?_⟩
      generalize P.take i = Q at *
      generalize P.getD i 0 = a at *
      generalize P.set i v = Z at *
      refine loop_step l_law9_SegmentNumbers_1.eq_1 k_law9_SegmentNumbers_1.eq_1 (by kernel_rfl) ?_
      rcases hf with rfl | rfl
      all_goals
        simp only [go_sem, List.length_map, c, ta, g1, g2, g3, hv, g4, g5, g6, slH, i0, il, i7, q1, w1, t1, w2, t2, e6, reduceCtorEq, ↓reduceIte, Nat.reduceAdd, Nat.reduceEqDiff, Nat.reduceLT, Int.reduceLE, Nat.reduceSub, Nat.reduceLeDiff, Nat.reduceMul, Int.reduceToNat, Int.reduceLT, Int.reduceEq, Int.reduceNeg, Nat.reduceBEq, Nat.reduceBNe]
        exact h2
    · refine ⟨N, ?_⟩
      refine loop_step l_law9_SegmentNumbers_1.eq_1 k_law9_SegmentNumbers_1.eq_1 (by kernel_rfl) ?_
      rcases hf with rfl | rfl
      all_goals simp only [go_sem, List.length_map, c, reduceCtorEq, ↓reduceIte, Nat.reduceAdd, Nat.reduceEqDiff, Nat.reduceLT, Int.reduceLE, Nat.reduceSub, Nat.reduceLeDiff, Nat.reduceMul, Int.reduceToNat, Int.reduceLT, Int.reduceEq, Int.reduceNeg, Nat.reduceBEq, Nat.reduceBNe]

theorem endE_range9 (k : Nat) (hk : k ≤ 30) (L : List Ba) (hL : ∀ b ∈ L, Fit b) : 0 ≤ endE k L ∧ endE k L ≤ 2199023255552 := by
  unfold endE
  cases h : L.getLast? with
  | none => simp only; omega
  | some b =>
    have hb := hL b (List.mem_of_getLast? h)
    have h1 := hb.base
    have h2 := hb.count
    simp only; omega

theorem sn2_loop (H : Heap) (d : Nat) : ∀ (k : Nat) (N : Heap), k + d = 30 →
    ∃ M, loopA W loopW (.ghost (.kill k_law9_SegmentNumbers_2) l_law9_SegmentNumbers_2) [(1, .int .i64 (k : Nat))] (hx H N) = some (.exit 0, [], hx H M) := by
  induction d with
  | zero =>
    intro k N hk
    have : k = 30 := by omega
    subst this
    have c : ¬ (((30 : Nat) : Int) < 30) := by omega
    refine ⟨N, ?_⟩
    refine loop_step l_law9_SegmentNumbers_2.eq_1 k_law9_SegmentNumbers_2.eq_1 (by kernel_rfl) ?_
    simp only [go_sem, c, reduceCtorEq, ↓reduceIte, Nat.reduceAdd, Nat.reduceEqDiff, Nat.reduceLT, Int.reduceLE, Nat.reduceSub, Nat.reduceLeDiff, Nat.reduceMul, Int.reduceToNat, Int.reduceLT, Int.reduceEq, Int.reduceNeg, Nat.reduceBEq, Nat.reduceBNe]
  | succ d ih =>
    intro k N hk
    have c : ((k : Int) < 30) := by omega
    have e6 : IntKind.i64.wrap ((k : Int) + 1) = ((k + 1 : Nat) : Int) := by rw [wrap_id (by unfold I64; omega)]; omega
    have n0 : ¬ ((9 : Int) = 0) := by decide
    have t0 := fun H => tape9_spec k (by omega) (by omega) H
    have hTl : (tapeL9 k 400).length = 400 := by simp [tapeL9]
    generalize tapeL9 k 400 = T at *
    have hm9 := Int.tmod_eq_emod_of_nonneg (b := 9) (show (0 : Int) ≤ (k : Int) by omega)
    obtain ⟨m, hm⟩ : ∃ m : Nat, 1 + (k : Int).tmod 9 = (m : Int) := ⟨(1 + (k : Int).tmod 9).toNat, by omega⟩
    have hm1 : m ≤ 9 := by omega
    have w1 : IntKind.i64.wrap (1 + (k : Int).tmod 9) = (m : Int) := by rw [wrap_id (by unfold I64; omega)]; exact hm
    obtain ⟨f, t1, hf⟩ := row_spec T (by omega) (k : Int) (by omega) (by omega) m (by omega) (hx H N)
    have hri := row_ri T (by omega) (k : Int) (by omega) (by omega) m
    have hfit : ∀ b' ∈ rowOf T (k : Int) m, Fit b' := hri.fit
    have hlen : (rowOf T (k : Int) m).length ≤ m := hri.len
    generalize rowOf T (k : Int) m = L at *
    obtain ⟨f2, t2, hf2⟩ := kbytes_spec L hfit (by omega) (hx H N)
    have hpb := allB_bytes hfit
    have hpl := allB_len L hfit
    have t3 := fun H => end_spec (k : Int) L hfit (by omega) .ro (.inl rfl) H
    have her := endE_range9 k (by omega) L hfit
    generalize endE (k : Int) L = e at *
    generalize allB L = P at *
    have hf2' : f2 = .own ∨ f2 = .full := by
      rcases hf2 with h | ⟨h, _⟩
      · exact .inl h
      · exact .inr h
    have w2 : IntKind.i64.wrap ((k : Int) - 2) = (k : Int) - 2 := wrap_id (by unfold I64; omega)
    have h0 := sn0_loop P hpb (by omega) f2 hf2' k (by omega) e her.1 her.2 (hx H N) _ ((k : Int) - 2) (by omega) (by omega) rfl
    obtain ⟨M2, h1⟩ := sn1_loop P hpb (by omega) f2 hf2' k (by omega) H (P.length + 5) 0 N (by omega)
    obtain ⟨M, h3⟩ := ih (k + 1) M2 (by omega)
    refine ⟨M, ?_⟩
    simp only [Int.natCast_zero] at h1
    clear hf2 hf2'
    refine loop_step l_law9_SegmentNumbers_2.eq_1 k_law9_SegmentNumbers_2.eq_1 (by kernel_rfl) ?_
    rcases hf with rfl | ⟨rfl, _⟩
    all_goals
      simp only [go_sem, c, t0, n0, w1, t1, t2, t3, w2, h0, h1, e6, reduceCtorEq, ↓reduceIte, Nat.reduceAdd, Nat.reduceEqDiff, Nat.reduceLT, Int.reduceLE, Nat.reduceSub, Nat.reduceLeDiff, Nat.reduceMul, Int.reduceToNat, Int.reduceLT, Int.reduceEq, Int.reduceNeg, Nat.reduceBEq, Nat.reduceBNe]
      exact h3

theorem segnumbers_spec : W n_law9_SegmentNumbers [] [] = some (.bool true, []) := by
  obtain ⟨M, h3⟩ := sn2_loop [] 30 0 [] (by omega)
  have t1 : ∀ H, W n_law9_same [.list 1 [] .ro, .int .i64 (-1), .int .i64 1, .int .i64 0] H = some (.bool true, H) := fun H => lsame9_spec [] (by simp) (by simp) (-1) 1 0 H
  have t2 : ∀ H, W n_law9_same [.list 1 [.int .u8 110, .int .u8 111, .int .u8 32, .int .u8 98, .int .u8 97, .int .u8 116, .int .u8 99, .int .u8 104, .int .u8 101, .int .u8 115] .ro, .int .i64 0, .int .i64 1, .int .i64 0] H = some (.bool true, H) :=
    fun H => lsame9_spec [110, 111, 32, 98, 97, 116, 99, 104, 101, 115] (by decide) (by decide) 0 1 0 H
  have fs : fillS 1 (List.replicate 10 (.int .u8 0)) [0, 1, 2, 3, 4, 5, 6, 7, 8, 9] [.int .u8 110, .int .u8 111, .int .u8 32, .int .u8 98, .int .u8 97, .int .u8 116, .int .u8 99, .int .u8 104, .int .u8 101, .int .u8 115] = some [.int .u8 110, .int .u8 111, .int .u8 32, .int .u8 98, .int .u8 97, .int .u8 116, .int .u8 99, .int .u8 104, .int .u8 101, .int .u8 115] := rfl
  have kn := known9_spec
  simp only [Int.natCast_zero] at h3
  refine W_fn rfl rfl ?_
  simp only [go_sem, c_law9_SegmentNumbers, h3, t1, fs, t2, kn, reduceCtorEq, ↓reduceIte, Nat.reduceAdd, Nat.reduceEqDiff, Nat.reduceLT, Int.reduceLE, Nat.reduceSub, Nat.reduceLeDiff, Nat.reduceMul, Int.reduceToNat, Int.reduceLT, Int.reduceEq, Int.reduceNeg, Nat.reduceBEq, Nat.reduceBNe]
end Go.Abs

