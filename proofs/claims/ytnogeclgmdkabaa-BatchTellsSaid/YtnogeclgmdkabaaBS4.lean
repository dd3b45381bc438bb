import Derived.Test.YtnogeclgmdkabaaBS3
import Derived.Test.YtnogeclgmdkabaaBS1
import Derived.Test.YtnogeclgmdkabaaB0
import Derived.Test.YtnogeclgmdkabaaK44
set_option linter.unusedVariables false
set_option linter.unusedSimpArgs false
namespace Go.Abs
open Go Go.RowKit
def innB (x : List Int) : Ba × Bool :=
 if x.length < 20 then (zeroBa, false)
 else match innR x (x.getD 19 0).toNat 20 with
 | none => (zeroBa, false)
 | some (r, e) => (⟨0, backI (x.drop 1), epochOf (x.getD 9 0) (x.getD 10 0), backI (x.drop 11), decide (x.getD 0 0 % 2 = 1), x.getD 0 0 / 2, r⟩, decide (e = x.length))
set_option maxHeartbeats 2000000 in
theorem inner_spec (x : List Int) (hb : Bytes x) (hl : x.length ≤ 100000) (H : Heap) :
  W n_ref6_inner [bytes x .ro] H = some (.tuple [(innB x).1.V, .bool (innB x).2], H) := by
 unfold innB
 by_cases h20 : x.length < 20
 ·rw [if_pos h20]
  have h20' : (x.length : Int) < 20 := by omega
  refine W_fn rfl rfl ?_
  simp only [go_sem, c_ref6_inner, List.length_map, h20', zeroBa, simprocAttr]
  rfl
 rw [if_neg h20]
 have h20' : ¬ (x.length : Int) < 20 := by omega
 have g0 := getD_at (p := x) 0 (by omega)
 have g9 := getD_at (p := x) 9 (by omega)
 have g10 := getD_at (p := x) 10 (by omega)
 have g19 := getD_at (p := x) 19 (by omega)
 have r0 := getD_byte hb 0
 have r9 := getD_byte hb 9
 have r10 := getD_byte hb 10
 have r19 := getD_byte hb 19
 have q1 : (ints .u8 x).drop 1 = ints .u8 (x.drop 1) := by rw [← List.map_drop]
 have q11 : (ints .u8 x).drop 11 = ints .u8 (x.drop 11) := by rw [← List.map_drop]
 have l1 : (1 : Int) ≤ (x.length : Int) := by omega
 have l11 : (11 : Int) ≤ (x.length : Int) := by omega
 have t1 := fun H => W_rback (x.drop 1) H
 have t11 := fun H => W_rback (x.drop 11) H
 have a1 := and1_u8 (x.getD 0 0) r0.1 r0.2
 have s1 := shr1_u8 (x.getD 0 0)
 have w1 : IntKind.i64.wrap (x.getD 0 0 / 2) = x.getD 0 0 / 2 := wrap_id (by unfold I64; omega)
 have w2 : IntKind.i64.wrap (x.getD 19 0) = x.getD 19 0 := wrap_id (by unfold I64; omega)
 have eo := epoch_or (x.getD 9 0) (x.getD 10 0) r9 r10
 obtain ⟨n, hn⟩ : ∃ n : Nat, x.getD 19 0 = (n : Int) := ⟨(x.getD 19 0).toNat, by omega⟩
 rw [hn, Int.toNat_natCast]
 rw [hn] at w2 g19
 have lp := fun c0 c1 c2 c3 c4 c5 => inn_loop x hb hl n (by omega) c0 c1 c2 c3 c4 c5 H [] n 0 20 [] .full (by omega) rfl (by omega) (.inr ⟨rfl, rfl⟩)
 simp only [List.nil_append, List.map_nil, Int.natCast_zero, Int.cast_ofNat_Int] at lp
 unfold zeroC at lp
 unfold epochOf
 generalize hR : innR x n 20 = R at *
 generalize x.drop 1 = x1 at *
 generalize x.drop 11 = x11 at *
 generalize backI x1 = p1 at *
 generalize backI x11 = p11 at *
 generalize decide (8 ≤ x1.length) = o1 at *
 generalize decide (8 ≤ x11.length) = o11 at *
 generalize x.getD 0 0 = v0 at *
 generalize x.getD 9 0 = v9 at *
 generalize x.getD 10 0 = v10 at *
 generalize v9 * 256 + v10 = e at *
 have ep : ∃ E, (if e = 65535 then -1 else e) = E := ⟨_, rfl⟩
 obtain ⟨E, hE⟩ := ep
 rw [hE]
 obtain ⟨ln, ls⟩ := lp (.int .i64 0) (.int .i64 p1) (.int .i64 E) (.int .i64 p11) (.bool (decide (v0 % 2 = 1))) (.int .i64 (v0 / 2))
 cases R with
 | none =>
  obtain ⟨M, h⟩ := ln rfl
  simp only
  by_cases c1 : e = 65535
  ·rw [if_pos c1] at hE
   subst hE
   refine W_fn rfl rfl ?_
   simp only [go_sem, c_ref6_inner, g0, g9, g10, g19, a1, s1, w1, w2, eo, slL, List.length_map, h20', l1, l11, q1, q11, t1, t11, eq_true c1, h, under_rc, zeroBa, simprocAttr]
   rfl
  ·rw [if_neg c1] at hE
   subst hE
   refine W_fn rfl rfl ?_
   simp only [go_sem, c_ref6_inner, g0, g9, g10, g19, a1, s1, w1, w2, eo, slL, List.length_map, h20', l1, l11, q1, q11, t1, t11, c1, h, under_rc, zeroBa, simprocAttr]
   rfl
 | some re =>
  obtain ⟨r, en⟩ := re
  obtain ⟨fl', h, hf⟩ := ls r en rfl
  simp only
  have hd : decide ((en : Int) = (x.length : Int)) = decide (en = x.length) := by
   by_cases q : en = x.length
   ·rw [decide_eq_true q, decide_eq_true (by omega)]
   ·rw [decide_eq_false q, decide_eq_false (by omega)]
  generalize decide (en = x.length) = D at *
  by_cases c1 : e = 65535
  ·rw [if_pos c1] at hE
   subst hE
   refine W_fn rfl rfl ?_
   rcases hf with rfl | ⟨rfl, rfl⟩
   ·simp only [go_sem, c_ref6_inner, g0, g9, g10, g19, a1, s1, w1, w2, eo, slL, List.length_map, h20', l1, l11, q1, q11, t1, t11, eq_true c1, h, hd, under_rc, simprocAttr]
    rfl
   ·simp only [List.map_nil] at h ⊢
    simp only [go_sem, c_ref6_inner, g0, g9, g10, g19, a1, s1, w1, w2, eo, slL, List.length_map, h20', l1, l11, q1, q11, t1, t11, eq_true c1, h, hd, under_rc, simprocAttr]
    rfl
  ·rw [if_neg c1] at hE
   subst hE
   refine W_fn rfl rfl ?_
   rcases hf with rfl | ⟨rfl, rfl⟩
   ·simp only [go_sem, c_ref6_inner, g0, g9, g10, g19, a1, s1, w1, w2, eo, slL, List.length_map, h20', l1, l11, q1, q11, t1, t11, c1, h, hd, under_rc, simprocAttr]
    rfl
   ·simp only [List.map_nil] at h ⊢
    simp only [go_sem, c_ref6_inner, g0, g9, g10, g19, a1, s1, w1, w2, eo, slL, List.length_map, h20', l1, l11, q1, q11, t1, t11, c1, h, hd, under_rc, simprocAttr]
    rfl
theorem num4_or (a b c d : Int) (ha : 0 ≤ a ∧ a < 256) (hb : 0 ≤ b ∧ b < 256) (hc : 0 ≤ c ∧ c < 256) (hd : 0 ≤ d ∧ d < 256) :
  bits .or .i64 (bits .or .i64 (bits .or .i64 (shl .i64 (IntKind.i64.wrap a) 24) (shl .i64 (IntKind.i64.wrap b) 16)) (shl .i64 (IntKind.i64.wrap c) 8)) (IntKind.i64.wrap d) = num4 a b c d := by
 have wa : ∀ x : Int, 0 ≤ x ∧ x < 256 → IntKind.i64.wrap x = x := fun x h => wrap_id (by unfold I64; omega)
 have s24 : shl .i64 a 24 = a * 16777216 := by
  unfold shl
  rw [show (2 : Int) ^ (min (24 : Int).toNat IntKind.i64.bits) = 16777216 from by decide, wrap_id (by unfold I64; omega)]
 have s16 : shl .i64 b 16 = b * 65536 := by
  unfold shl
  rw [show (2 : Int) ^ (min (16 : Int).toNat IntKind.i64.bits) = 65536 from by decide, wrap_id (by unfold I64; omega)]
 rw [wa a ha, wa b hb, wa c hc, wa d hd, s24, s16, shl_i64 c hc.1 (by omega)]
 rw [(or_at .i64 (.inl rfl) 24 (b * 65536) (a * 16777216) (by omega) (by show b * 65536 < 16777216; omega) (by omega) (by show a * 16777216 % 16777216 = 0; omega) (by omega) (by omega) (by omega)).2]
 rw [(or_at .i64 (.inl rfl) 16 (c * 256) (b * 65536 + a * 16777216) (by omega) (by show c * 256 < 65536; omega) (by omega) (by show (b * 65536 + a * 16777216) % 65536 = 0; omega) (by omega) (by omega) (by omega)).2]
 rw [(or_at .i64 (.inl rfl) 8 d (c * 256 + (b * 65536 + a * 16777216)) hd.1 (by show d < 256; omega) (by omega) (by show (c * 256 + (b * 65536 + a * 16777216)) % 256 = 0; omega) (by omega) (by omega) (by omega)).2]
 unfold num4; omega
def readR (p : List Int) : Ba × Int × Int :=
 if p.length < 12 then (zeroBa, 0, 12)
 else if longB p > 4096 then (zeroBa, 0, 13)
 else if (p.length : Int) < longB p then (zeroBa, 0, 12)
 else if unsOK (cutP p) = false then (zeroBa, 0, 12)
 else if (innB ((cutP p).drop 4)).2 = false then (zeroBa, 0, 12)
 else if rightE { (innB ((cutP p).drop 4)).1 with base := backI p } ≠ 0 then (zeroBa, 0, 12)
 else if baBytes { (innB ((cutP p).drop 4)).1 with base := backI p } = p.take (longB p).toNat then ({ (innB ((cutP p).drop 4)).1 with base := backI p }, longB p, 0)
 else (zeroBa, 0, 12)
theorem zeroBa_ok (base : Int) (h : I64 base) : BOK { zeroBa with base := base } :=
 ⟨h, show I64 0 from i64_c (by decide) (by decide), show I64 0 from i64_c (by decide) (by decide), show I64 0 from i64_c (by decide) (by decide), show I64 0 from i64_c (by decide) (by decide)⟩
theorem innB_ok (base : Int) (h : I64 base) (x : List Int) (hx : ∀ c ∈ x, 0 ≤ c ∧ c < 256) : BOK { (innB x).1 with base := base } := by
 have r0 := getD_byte hx 0
 have r9 := getD_byte hx 9
 have r10 := getD_byte hx 10
 unfold innB
 split
 ·exact zeroBa_ok base h
 ·split
  ·exact zeroBa_ok base h
  ·refine ⟨h, backI_i64 _, ?_, backI_i64 _, ?_⟩
   ·unfold epochOf I64; simp only; split <;> omega
   ·unfold I64; simp only; omega
set_option maxHeartbeats 4000000 in
theorem read_specR (p : List Int) (hp : ∀ x ∈ p, 0 ≤ x ∧ x < 256) (hl : p.length ≤ 140737488355328) (H : Heap) :
  W n_ref6_Read [bytes p .ro] H = some (.tuple [(readR p).1.V, .int .i64 (readR p).2.1, .int .i64 (readR p).2.2], H) := by
 have rl := longB_range hp
 have zV : zeroBa.V = .agg [.int .i64 0, .int .i64 0, .int .i64 0, .int .i64 0, .bool false, .int .i64 0, .list 2 [] .ro] := rfl
 unfold readR
 by_cases c0 : p.length < 12
 ·rw [if_pos c0]
  have c0' : (p.length : Int) < 12 := by omega
  simp only [zV]
  refine W_fn rfl rfl ?_
  simp only [go_sem, c_ref6_Read, List.length_map, c0', simprocAttr]
 rw [if_neg c0]
 have c0' : ¬ (p.length : Int) < 12 := by omega
 have g8 := getD_at (p := p) 8 (by omega)
 have g9 := getD_at (p := p) 9 (by omega)
 have g10 := getD_at (p := p) 10 (by omega)
 have g11 := getD_at (p := p) 11 (by omega)
 have eo := num4_or _ _ _ _ (getD_byte hp 8) (getD_byte hp 9) (getD_byte hp 10) (getD_byte hp 11)
 have eL : longB p = 12 + num4 (p.getD 8 0) (p.getD 9 0) (p.getD 10 0) (p.getD 11 0) := by unfold longB; rw [if_neg c0]
 have e12 : 12 ≤ longB p := by
  have := num4_range _ _ _ _ (getD_byte hp 8) (getD_byte hp 9) (getD_byte hp 10) (getD_byte hp 11)
  omega
 have w1 : IntKind.i64.wrap (num4 (p.getD 8 0) (p.getD 9 0) (p.getD 10 0) (p.getD 11 0) + 12) = longB p := by rw [wrap_id (by unfold I64; omega)]; omega
 have w2 : IntKind.i64.wrap (12 + num4 (p.getD 8 0) (p.getD 9 0) (p.getD 10 0) (p.getD 11 0)) = longB p := by rw [wrap_id (by unfold I64; omega)]; omega
 clear eL
 generalize num4 (p.getD 8 0) (p.getD 9 0) (p.getD 10 0) (p.getD 11 0) = m at *
 generalize p.getD 8 0 = v8 at *
 generalize p.getD 9 0 = v9 at *
 generalize p.getD 10 0 = v10 at *
 generalize p.getD 11 0 = v11 at *
 by_cases c1 : longB p > 4096
 ·rw [if_pos c1]
  simp only [zV]
  generalize longB p = n at *
  refine W_fn rfl rfl ?_
  simp only [go_sem, c_ref6_Read, List.length_map, c0', g8, g9, g10, g11, eo, w1, w2, c1, simprocAttr]
 rw [if_neg c1]
 by_cases c3 : (p.length : Int) < longB p
 ·rw [if_pos c3]
  simp only [zV]
  generalize longB p = n at *
  refine W_fn rfl rfl ?_
  simp only [go_sem, c_ref6_Read, List.length_map, c0', g8, g9, g10, g11, eo, w1, w2, c1, c3, simprocAttr]
 rw [if_neg c3]
 have hcb : ∀ x ∈ cutP p, 0 ≤ x ∧ x < 256 := fun x hx => hp x (List.mem_of_mem_take (List.mem_of_mem_drop hx))
 have hcl : (cutP p).length = (longB p).toNat - 12 := by unfold cutP; rw [List.length_drop, List.length_take]; omega
 have q2 : (ints .u8 p).take (longB p).toNat = ints .u8 (p.take (longB p).toNat) := by rw [← List.map_take]
 have q3 : (ints .u8 (p.take (longB p).toNat)).drop 12 = ints .u8 (cutP p) := by unfold cutP; rw [← List.map_drop]
 have t2 := fun H => unseal_spec (cutP p) hcb (by omega) H
 have i1 : (0 : Int) ≤ longB p := by omega
 have i2 : (12 : Int) ≤ longB p := by omega
 have i3 : longB p ≤ (p.length : Int) := by omega
 cases c4 : unsOK (cutP p) with
 | false =>
  rw [if_pos rfl]
  simp only [zV]
  rw [c4] at t2
  simp only [Bool.false_eq_true, if_false] at t2
  generalize longB p = n at *
  refine W_fn rfl rfl ?_
  simp only [go_sem, c_ref6_Read, List.length_map, c0', g8, g9, g10, g11, eo, w1, w2, c1, c3, slM, i1, i2, i3, q2, q3, t2, simprocAttr]
 | true =>
  rw [if_neg (by decide)]
  rw [c4] at t2
  simp only [if_true] at t2
  have hxl : ((cutP p).drop 4).length ≤ 4100 := by rw [List.length_drop]; omega
  have hxb : ∀ x ∈ (cutP p).drop 4, 0 ≤ x ∧ x < 256 := fun x hx => hcb x (List.mem_of_mem_drop hx)
  generalize (cutP p).drop 4 = x at *
  have t3 := fun H => inner_spec x hxb (by omega) H
  have t4 := fun H => W_rback p H
  have hbo := innB_ok (backI p) (backI_i64 p) x hxb
  generalize innB x = r at *
  obtain ⟨b0, ok⟩ := r
  simp only at t3 hbo ⊢
  generalize backI p = base at *
  generalize decide (8 ≤ p.length) = o8 at *
  obtain ⟨b, hb⟩ : ∃ b, ({ b0 with base := base } : Ba) = b := ⟨_, rfl⟩
  rw [hb] at hbo ⊢
  have f1 : b.base = base := by rw [← hb]
  have f2 : b.prod = b0.prod := by rw [← hb]
  have f3 : b.epoch = b0.epoch := by rw [← hb]
  have f4 : b.seq = b0.seq := by rw [← hb]
  have f5 : b.txn = b0.txn := by rw [← hb]
  have f6 : b.mark = b0.mark := by rw [← hb]
  have f7 : b.recs = b0.recs := by rw [← hb]
  cases ok with
  | false =>
   rw [if_pos rfl]
   simp only [zV]
   unfold Ba.V Ba.cs at *
   generalize longB p = n at *
   refine W_fn rfl rfl ?_
   simp only [go_sem, c_ref6_Read, List.length_map, c0', g8, g9, g10, g11, eo, w1, w2, c1, c3, slM, i1, i2, i3, q2, q3, t2, t3, t4, simprocAttr]
  | true =>
   rw [if_neg (by decide)]
   have t5 := fun H => ref_right_spec b hbo H
   have t6 := fun hs H => write_spec b hbo hs H
   unfold Ba.V Ba.cs at *
   rw [f1, f2, f3, f4, f5, f6, f7] at t5 t6
   by_cases c6 : rightE b = 0
   ·have t6' := t6 (by rw [← f7]; exact rightE_small c6)
    rw [if_neg (by omega)]
    rw [c6] at t5
    have tq := toS_beq (baBytes_bytes (rightE_small c6)) (y := p.take (longB p).toNat) (fun x hx => hp x (List.mem_of_mem_take hx))
    generalize p.take (longB p).toNat = y at *
    generalize baBytes b = z at *
    by_cases c7 : z = y
    ·rw [if_pos c7]
     rw [decide_eq_true c7] at tq
     simp only [f1, f2, f3, f4, f5, f6, f7]
     generalize longB p = n at *
     refine W_fn rfl rfl ?_
     simp only [go_sem, c_ref6_Read, List.length_map, c0', g8, g9, g10, g11, eo, w1, w2, c1, c3, slM, slH, i1, i2, i3, q2, q3, t2, t3, t4, t5, t6', tq, under_rc, simprocAttr]
    ·rw [if_neg c7]
     rw [decide_eq_false c7] at tq
     simp only [zeroBa, List.map_nil]
     generalize longB p = n at *
     refine W_fn rfl rfl ?_
     simp only [go_sem, c_ref6_Read, List.length_map, c0', g8, g9, g10, g11, eo, w1, w2, c1, c3, slM, slH, i1, i2, i3, q2, q3, t2, t3, t4, t5, t6', tq, under_rc, simprocAttr]
   ·rw [if_pos c6]
    simp only [zeroBa, List.map_nil]
    generalize longB p = n at *
    refine W_fn rfl rfl ?_
    simp only [go_sem, c_ref6_Read, List.length_map, c0', g8, g9, g10, g11, eo, w1, w2, c1, c3, slM, slH, i1, i2, i3, q2, q3, t2, t3, t4, t5, c6, under_rc, simprocAttr]
theorem cut_txtM (s : List UInt8) (m : Int) (hs : (s.length : Int) ≤ m) (hs1 : s.length ≤ 64) (r : List Int) : cutS (txt s ++ r) m = (s, ((txt s).length : Int)) := by
 have hz := Num.zig_range (s.length : Int) (by omega)
 have hd := Vt.dec_enc (Num.zig s.length) hz.1 hz.2 ((s.map fun b => (b.toNat : Int)) ++ r)
 have hne := Vt.enc_ne 9 (Num.zig s.length)
 have hpos : 0 < (Vt.enc 9 (Num.zig s.length)).length := List.length_pos_iff.2 hne
 unfold cutS txt
 rw [List.append_assoc, hd]
 generalize Vt.enc 9 (Num.zig s.length) = E at *
 simp only [told, Num.zag_zig]
 rw [if_neg (by omega), if_neg (by omega), if_neg (by simp; omega)]
 have e1 : ((E.length : Int) + (s.length : Int)).toNat = E.length + s.length := by omega
 have e2 : ((E.length : Nat) : Int).toNat = E.length := by omega
 rw [e1, e2]
 have e3 : ((E ++ ((s.map fun b => (b.toNat : Int)) ++ r)).take (E.length + s.length)).drop E.length = s.map fun b => (b.toNat : Int) := by
  rw [List.take_append, List.drop_append]
  simp
 rw [e3, toS_txt]
 simp
theorem txt_pos (s : List UInt8) : 0 < (txt s).length := by
 have := List.length_pos_iff.2 (Vt.enc_ne 9 (Num.zig s.length))
 unfold txt; rw [List.length_append]; omega
theorem txt_long (s : List UInt8) : s.length ≤ (txt s).length := by unfold txt; rw [List.length_append, List.length_map]; omega
theorem innR_rcs (x : List Int) : ∀ (r : List Rc) (a : Nat), (∀ y ∈ r, y.1.length ≤ 64 ∧ y.2.length ≤ 64) → x.drop a = rcsB r → a ≤ x.length → innR x r.length a = some (r, x.length)
 | [], a, _, hx, ha => by
  have : a = x.length := by
   have h := congrArg List.length hx
   simp [rcsB] at h; omega
  subst this; rfl
 | y :: r, a, h, hx, ha => by
  have hy := h y List.mem_cons_self
  have e1 : x.drop a = txt y.1 ++ (txt y.2 ++ rcsB r) := by rw [hx]; simp [rcsB, rcB]
  have e2 : x.drop (a + (txt y.1).length) = txt y.2 ++ rcsB r := by
   rw [← List.drop_drop, e1]; simp
  have e3 : x.drop (a + (txt y.1).length + (txt y.2).length) = rcsB r := by
   rw [← List.drop_drop, e2]; simp
  have p1 := txt_pos y.1
  have p2 := txt_pos y.2
  have hl := congrArg List.length e1
  rw [List.length_drop, List.length_append, List.length_append] at hl
  have s1 := txt_long y.1
  have s2 := txt_long y.2
  have c1 : cutS (x.drop a) x.length = (y.1, ((txt y.1).length : Int)) := by rw [e1]; exact cut_txtM y.1 _ (by omega) hy.1 _
  have c2 : cutS (x.drop (a + (txt y.1).length)) x.length = (y.2, ((txt y.2).length : Int)) := by rw [e2]; exact cut_txtM y.2 _ (by omega) hy.2 _
  show innR x (r.length + 1) a = _
  unfold innR
  simp only
  rw [c1]
  simp only [Int.toNat_natCast]
  rw [c2]
  simp only [Int.toNat_natCast]
  rw [if_neg (by omega), innR_rcs x r _ (fun z hz => h z (List.mem_cons_of_mem _ hz)) e3 (by omega)]
  rfl
theorem innB_self {b : Ba} (hb : BOK b) (h : rightE b = 0) : innB (inner b) = ({ b with base := 0 }, true) := by
 have hr := right_rt h
 have e0 : (inner b).getD 0 0 = flagI b := rfl
 have e9 : (inner b).getD 9 0 = b.epoch / 256 % 256 := rfl
 have e10 : (inner b).getD 10 0 = b.epoch % 256 := rfl
 have e19 : (inner b).getD 19 0 = (b.recs.length : Int) % 256 := rfl
 have d1 : (inner b).drop 1 = bes b.prod 0 ++ ([b.epoch / 256 % 256, b.epoch % 256] ++ bes b.seq 0 ++ [(b.recs.length : Int) % 256] ++ rcsB b.recs) := rfl
 have d11 : (inner b).drop 11 = bes b.seq 0 ++ ([(b.recs.length : Int) % 256] ++ rcsB b.recs) := rfl
 have d20 : (inner b).drop 20 = rcsB b.recs := head_drop b _
 have hs := hr.small
 have e19' : ((b.recs.length : Int) % 256).toNat = b.recs.length := by have := hs.1; omega
 have hi := inner_len20 b
 unfold innB
 rw [if_neg (by omega), e0, e9, e10, e19, d1, d11, backI_bes _ hb.prod, backI_bes _ hb.seq, e19', innR_rcs (inner b) b.recs 20 hs.2 d20 hi, flagI_eq hr.mark]
 have he := hr.epoch
 have ep : epochOf (b.epoch / 256 % 256) (b.epoch % 256) = b.epoch := by unfold epochOf; split <;> omega
 simp only [ep, decide_true]
 have hm := hr.mark
 obtain ⟨base, prod, epoch, seq, txn, mark, recs⟩ := b
 simp only at hm ⊢
 have m1 : (2 * mark + (if txn = true then 1 else 0)) / 2 = mark := by split <;> omega
 have m2 : decide ((2 * mark + (if txn = true then 1 else 0)) % 2 = 1) = txn := by
  cases txn with
  | true => rw [if_pos rfl]; exact decide_eq_true (by omega)
  | false => rw [if_neg (by decide)]; exact decide_eq_false (by omega)
 rw [m1, m2]
theorem readR_self {b : Ba} (hb : BOK b) (h : rightE b = 0) (r : List Int) : readR (baBytes b ++ r) = (b, ((baBytes b).length : Int), 0) := by
 have hr := right_rt h
 have hl := baBytes_len hr.small
 have hl' := baBytes_len' b
 have hs := sealed_len b
 have hi := inner_len20 b
 have hlong := long_self (b := b) (by omega) r
 have ht : (baBytes b ++ r).take (baBytes b).length = baBytes b := by simp
 have hc : cutP (baBytes b ++ r) = sealedI b := by
  unfold cutP
  rw [hlong, Int.toNat_natCast, ht]
  rfl
 have k2 : (sealedI b).drop 4 = inner b := rfl
 have k1 : unsOK (sealedI b) = true := by
  unfold unsOK
  rw [k2, decide_eq_true (by omega), Bool.true_and]
  exact decide_eq_true rfl
 have hbk : backI (baBytes b ++ r) = b.base := by
  unfold baBytes
  rw [List.append_assoc, List.append_assoc]
  exact backI_bes _ hb.base _
 unfold readR
 rw [hc, k1, k2, hlong, hbk, innB_self hb h, Int.toNat_natCast, ht]
 simp only
 have hbb : ({ b with base := b.base } : Ba) = b := rfl
 rw [if_neg (by rw [List.length_append]; omega), if_neg (by omega), if_neg (by rw [List.length_append]; omega), if_neg (by decide), if_neg (by decide), if_neg (show ¬ (rightE b ≠ 0) from fun q => q h)]
 exact if_pos trivial
theorem readB_cases (p : List Int) (hp : ∀ x ∈ p, 0 ≤ x ∧ x < 256) (hn : ¬ longB p > 4096) : readB p = (zeroBa, 0, 12) ∨ ∃ b, BOK b ∧ rightE b = 0 ∧ p = baBytes b ++ p.drop (baBytes b).length := by
 unfold readB
 rw [if_neg hn]
 split
 ·exact .inl rfl
 ·split
  ·exact .inl rfl
  ·split
   ·exact .inl rfl
   ·split
    ·exact .inl rfl
    ·split
     ·exact .inl rfl
     ·split
      ·rename_i h36 hlen _ _ h6 h7
       refine .inr ⟨bodyB (backI p) ((cutP p).drop 4), bodyB_ok _ (backI_i64 _) _ (fun x hx => hp x (List.mem_of_mem_take (List.mem_of_mem_drop (List.mem_of_mem_drop hx)))), Decidable.not_not.1 h6, ?_⟩
       rw [h7, List.length_take, Nat.min_eq_left (by omega), List.take_append_drop]
      ·exact .inl rfl
theorem readR_cases (p : List Int) (hp : ∀ x ∈ p, 0 ≤ x ∧ x < 256) (hn : ¬ longB p > 4096) : readR p = (zeroBa, 0, 12) ∨ ∃ b, BOK b ∧ rightE b = 0 ∧ p = baBytes b ++ p.drop (baBytes b).length := by
 have hr := longB_range hp
 unfold readR
 by_cases h12 : p.length < 12
 ·rw [if_pos h12]; exact .inl rfl
 ·rw [if_neg h12, if_neg hn]
  split
  ·exact .inl rfl
  ·split
   ·exact .inl rfl
   ·split
    ·exact .inl rfl
    ·split
     ·exact .inl rfl
     ·split
      ·rename_i hlen _ _ h6 h7
       refine .inr ⟨{ (innB ((cutP p).drop 4)).1 with base := backI p }, innB_ok _ (backI_i64 _) _ (fun x hx => hp x (List.mem_of_mem_take (List.mem_of_mem_drop (List.mem_of_mem_drop hx)))), Decidable.not_not.1 h6, ?_⟩
       rw [h7, List.length_take, Nat.min_eq_left (by omega), List.take_append_drop]
      ·exact .inl rfl
theorem read_eq (p : List Int) (hp : ∀ x ∈ p, 0 ≤ x ∧ x < 256) : readR p = readB p := by
 by_cases hn : longB p > 4096
 ·have : ¬ p.length < 12 := by
   intro h
   unfold longB at hn
   rw [if_pos h] at hn
   omega
  unfold readR readB
  rw [if_neg this, if_pos hn, if_pos hn]
 ·rcases readB_cases p hp hn with h | ⟨b, h1, h2, h3⟩
  ·rcases readR_cases p hp hn with k | ⟨b, h1, h2, h3⟩
   ·rw [h, k]
   ·rw [h3, readR_self h1 h2, read_self h1 h2]
  ·rw [h3, readR_self h1 h2, read_self h1 h2]
theorem read_ok (p : List Int) (hp : ∀ x ∈ p, 0 ≤ x ∧ x < 256) : (∃ e, readB p = (zeroBa, 0, e) ∧ (e = 12 ∨ e = 13)) ∨ ∃ b, BOK b ∧ rightE b = 0 ∧ p = baBytes b ++ p.drop (baBytes b).length ∧ readB p = (b, ((baBytes b).length : Int), 0) := by
 by_cases hn : longB p > 4096
 ·left
  refine ⟨13, ?_, .inr rfl⟩
  unfold readB
  rw [if_pos hn]
 ·rcases readB_cases p hp hn with h | ⟨b, h1, h2, h3⟩
  ·exact .inl ⟨12, h, .inl rfl⟩
  ·refine .inr ⟨b, h1, h2, h3, ?_⟩
   have := read_self h1 h2 (p.drop (baBytes b).length)
   rw [← h3] at this
   exact this
theorem count_spec (b : Ba) (H : Heap) : W n_batch_Count [b.V] H = some (.int .i64 (if b.mark = 0 then (b.recs.length : Int) else 1), H) := by
 refine W_fn rfl rfl ?_
 unfold Ba.V Ba.cs
 by_cases c : b.mark = 0
 ·rw [if_pos c]; simp only [go_sem, c_batch_Count, c, List.length_map, simprocAttr]
 ·rw [if_neg c]; simp only [go_sem, c_batch_Count, c, simprocAttr]
theorem eqrec_loop (l m : List Rc) (hm : l.length = m.length) (hn : l.length ≤ 9223372036854775807) (H : Heap) (r : List Rc) : ∀ (s : List Rc) (p q : List Rc), l = p ++ r → m = q ++ s → p = q →
  loopA W loopW (.ghost (.kill k_slices_Equal_api_Rec_api_Rec__0) l_slices_Equal_api_Rec_api_Rec__0) [(0, .list 2 (l.map rcV) .ro), (1, .list 2 (m.map rcV) .ro), (12, .int .i64 (l.length : Nat)), (13, .int .i64 (p.length : Nat))] H =
   if r = s then some (.exit 0, [], H) else some (.ret, [(4, .bool false)], H) := by
 induction r with
 | nil =>
  intro s p q hp hq hpq
  have hs : s = [] := by
   subst hpq
   rw [hp, hq, List.append_nil, List.length_append] at hm
   exact List.eq_nil_of_length_eq_zero (by omega)
  rw [if_pos hs.symm]
  have h1 : ¬ ((p.length : Int) < (l.length : Int)) := by rw [hp]; simp
  refine loop_step l_slices_Equal_api_Rec_api_Rec__0.eq_1 k_slices_Equal_api_Rec_api_Rec__0.eq_1 (by kernel_rfl) ?_
  simp only [go_sem, h1, simprocAttr]
 | cons x r ih =>
  intro s p q hp hq hpq
  cases s with
  | nil =>
   subst hpq
   rw [hp, hq, List.append_nil, List.length_append] at hm
   simp at hm
  | cons y s =>
   have h1 : ((p.length : Int) < (l.length : Int)) := by rw [hp]; simp; omega
   have e0 : (0 : Int) ≤ (p.length : Int) := by omega
   have e7 : ((p.length : Nat) : Int).toNat = p.length := by omega
   have e1 : (l.map rcV)[p.length]? = some (.agg [.str x.1, .str x.2]) := by rw [hp]; simp [rcV]
   have e2 : (m.map rcV)[p.length]? = some (.agg [.str y.1, .str y.2]) := by rw [hq, hpq]; simp [rcV]
   have hlen : l.length = p.length + (r.length + 1) := by rw [hp]; simp
   have e6 : IntKind.i64.wrap ((p.length : Int) + 1) = ((p.length + 1 : Nat) : Int) := by rw [wrap_id (by unfold I64; omega)]; omega
   have hq' := eq_rc x y
   by_cases c : x = y
   ·rw [decide_eq_true c] at hq'
    have h2 := ih s (p ++ [x]) (q ++ [y]) (by rw [hp]; simp) (by rw [hq]; simp) (by rw [hpq, c])
    simp only [List.length_append, List.length_cons, List.length_nil, Nat.zero_add] at h2
    have e9 : ((x :: r) = (y :: s)) = (r = s) := by simp [c]
    simp only [e9]
    by_cases c2 : r = s
    ·simp only [c2, if_true] at h2 ⊢
     refine loop_step l_slices_Equal_api_Rec_api_Rec__0.eq_1 k_slices_Equal_api_Rec_api_Rec__0.eq_1 (by kernel_rfl) ?_
     simp only [go_sem, h1, e0, e7, e1, e2, hq', e6, simprocAttr]
     exact h2
    ·simp only [c2, if_false] at h2 ⊢
     refine loop_step l_slices_Equal_api_Rec_api_Rec__0.eq_1 k_slices_Equal_api_Rec_api_Rec__0.eq_1 (by kernel_rfl) ?_
     simp only [go_sem, h1, e0, e7, e1, e2, hq', e6, simprocAttr]
     exact h2
   ·rw [decide_eq_false c] at hq'
    rw [if_neg (by simp [c])]
    refine loop_step l_slices_Equal_api_Rec_api_Rec__0.eq_1 k_slices_Equal_api_Rec_api_Rec__0.eq_1 (by kernel_rfl) ?_
    simp only [go_sem, h1, e0, e7, e1, e2, hq', simprocAttr]
theorem eqrec_spec (l m : List Rc) (hn : l.length ≤ 9223372036854775807) (H : Heap) : W n_slices_Equal_api_Rec_api_Rec_ [.list 2 (l.map rcV) .ro, .list 2 (m.map rcV) .ro] H = some (.bool (decide (l = m)), H) := by
 by_cases c : l.length = m.length
 ·have h := eqrec_loop l m c hn H l m [] [] rfl rfl rfl
  simp only [List.length_nil, Int.natCast_zero] at h
  have c' : (l.length : Int) = (m.length : Int) := by omega
  by_cases d : l = m
  ·rw [if_pos d] at h
   rw [decide_eq_true d]
   refine W_fn0 rfl rfl ?_
   simp only [go_sem, trim_same, c_slices_Equal_api_Rec_api_Rec_, List.length_map, eq_true c', h, simprocAttr]
   first | done | rfl
  ·rw [if_neg d] at h
   rw [decide_eq_false d]
   refine W_fn0 rfl rfl ?_
   simp only [go_sem, trim_same, c_slices_Equal_api_Rec_api_Rec_, List.length_map, eq_true c', h, simprocAttr]
   first | done | rfl
 ·have d : ¬ l = m := fun h => c (by rw [h])
  have c' : ¬ (l.length : Int) = (m.length : Int) := by omega
  rw [decide_eq_false d]
  refine W_fn0 rfl rfl ?_
  simp only [go_sem, trim_same, c_slices_Equal_api_Rec_api_Rec_, List.length_map, c', simprocAttr]
theorem bsame_spec (a b : Ba) (hn : a.recs.length ≤ 9223372036854775807) (H : Heap) : W n_batch_Same [a.V, b.V] H = some (.bool (sameB a b), H) := by
 have t := fun H => eqrec_spec a.recs b.recs hn H
 unfold sameB Ba.V Ba.cs
 by_cases c1 : a.base = b.base
 ·by_cases c2 : a.prod = b.prod
  ·by_cases c3 : a.epoch = b.epoch
   ·by_cases c4 : a.seq = b.seq
    ·cases c5 : a.txn == b.txn with
     | true =>
      by_cases c6 : a.mark = b.mark
      ·simp only [c1, c2, c3, c4, c6, decide_true, Bool.true_and]
       refine W_fn rfl rfl ?_
       simp only [go_sem, c_batch_Same, eq_true c1, eq_true c2, eq_true c3, eq_true c4, c5, eq_true c6, t, simprocAttr]
      ·simp only [c1, c2, c3, c4, c6, decide_true, decide_false, Bool.true_and, Bool.false_and]
       refine W_fn rfl rfl ?_
       simp only [go_sem, c_batch_Same, eq_true c1, eq_true c2, eq_true c3, eq_true c4, c5, c6, simprocAttr]
     | false =>
      simp only [c1, c2, c3, c4, decide_true, decide_false, Bool.true_and, Bool.false_and]
      refine W_fn rfl rfl ?_
      simp only [go_sem, c_batch_Same, eq_true c1, eq_true c2, eq_true c3, eq_true c4, c5, simprocAttr]
    ·simp only [c1, c2, c3, c4, decide_true, decide_false, Bool.true_and, Bool.false_and]
     refine W_fn rfl rfl ?_
     simp only [go_sem, c_batch_Same, eq_true c1, eq_true c2, eq_true c3, c4, simprocAttr]
   ·simp only [c1, c2, c3, decide_true, decide_false, Bool.true_and, Bool.false_and]
    refine W_fn rfl rfl ?_
    simp only [go_sem, c_batch_Same, eq_true c1, eq_true c2, c3, simprocAttr]
  ·simp only [c1, c2, decide_true, decide_false, Bool.true_and, Bool.false_and]
   refine W_fn rfl rfl ?_
   simp only [go_sem, c_batch_Same, eq_true c1, c2, simprocAttr]
 ·simp only [c1, decide_false, Bool.false_and]
  refine W_fn rfl rfl ?_
  simp only [go_sem, c_batch_Same, c1, simprocAttr]
theorem base_right {b : Ba} (h : rightE b = 0) (base : Int) (h0 : 0 ≤ base) (h1 : base ≤ 1099511627776) : rightE { b with base := base } = 0 := by
 unfold rightE at h ⊢
 split at h
 ·cases h
 ·rename_i hb
  rw [if_neg (by simp only; omega)]
  exact h
theorem rebase_no (p : List Int) (hp : ∀ x ∈ p, 0 ≤ x ∧ x < 256) (hl : p.length ≤ 140737488355328) (base : Int)
  (h : ¬ ((readB p).2.2 = 0 ∧ (readB p).2.1 = (p.length : Int) ∧ 0 ≤ base ∧ base ≤ 1099511627776)) (H : Heap) :
  W n_batch_Rebase [bytes p .ro, .int .i64 base] H = some (.tuple [.list 1 [] .full, .bool false], H) := by
 have t := fun H => read_spec p hp hl H
 unfold Ba.V Ba.cs at t
 generalize readB p = r at *
 obtain ⟨b, n, e⟩ := r
 simp only at t h
 by_cases c1 : e = 0
 ·by_cases c2 : n = (p.length : Int)
  ·by_cases c3 : base < 0
   ·refine W_fn rfl rfl ?_
    simp only [go_sem, c_batch_Rebase, t, eq_true c1, List.length_map, eq_true c2, c3, simprocAttr]
   ·have c4 : base > 1099511627776 := by omega
    refine W_fn rfl rfl ?_
    simp only [go_sem, c_batch_Rebase, t, eq_true c1, List.length_map, eq_true c2, c3, c4, simprocAttr]
  ·refine W_fn rfl rfl ?_
   simp only [go_sem, c_batch_Rebase, t, eq_true c1, List.length_map, c2, simprocAttr]
 ·refine W_fn rfl rfl ?_
  simp only [go_sem, c_batch_Rebase, t, c1, List.length_map, simprocAttr]
theorem rebase_yes (p : List Int) (hp : ∀ x ∈ p, 0 ≤ x ∧ x < 256) (hl : p.length ≤ 140737488355328) (base : Int) (b : Ba) (hb : BOK b) (hr : rightE b = 0) (e : p = baBytes b)
  (h0 : 0 ≤ base) (h1 : base ≤ 1099511627776) (H : Heap) :
  W n_batch_Rebase [bytes p .ro, .int .i64 base] H = some (.tuple [bytes (bes base 0 ++ p.drop 8) .own, .bool true], H) := by
 have t := fun H => read_spec p hp hl H
 have rs := read_self hb hr []
 rw [List.append_nil, ← e] at rs
 rw [rs] at t
 have hbo : BOK { b with base := base } := ⟨by unfold I64; simp only; omega, hb.prod, hb.epoch, hb.seq, hb.mark⟩
 have tb := fun H => bytes_spec { b with base := base } hbo (rightE_small (base_right hr base h0 h1)) H
 have eb : baBytes { b with base := base } = bes base 0 ++ p.drop 8 := by
  have e2 : p.drop 8 = be4 (sealedI b).length ++ sealedI b := by rw [e]; rfl
  rw [e2, ← List.append_assoc]; rfl
 rw [eb] at tb
 clear eb rs e
 generalize bes base 0 ++ p.drop 8 = Z at *
 unfold Ba.V Ba.cs at t tb
 simp only at t tb
 have c3 : ¬ base < 0 := by omega
 have c4 : ¬ base > 1099511627776 := by omega
 refine W_fn rfl rfl ?_
 simp only [go_sem, c_batch_Rebase, t, List.length_map, c3, c4, tb, simprocAttr]
set_option maxHeartbeats 1000000 in
theorem reads_spec (p : List Int) (hp : ∀ x ∈ p, 0 ≤ x ∧ x < 256) (hl : p.length ≤ 140737488355328) (base : Int) (hbase : I64 base) (H : Heap) :
  W n_law6_reads [bytes p .ro, .int .i64 base] H = some (.bool true, H) := by
 have t1 := fun H => read_spec p hp hl H
 have t2 := fun H => read_specR p hp hl H
 rw [read_eq p hp] at t2
 have tn := fun h H => rebase_no p hp hl base h H
 have ty := fun b hb hr e h0 h1 H => rebase_yes p hp hl base b hb hr e h0 h1 H
 rcases read_ok p hp with ⟨e, he, he2⟩ | ⟨b, hb, hr, hpb, hk⟩
 ·rw [he] at t1 t2 tn
  have tn' := tn (by rcases he2 with rfl | rfl <;> simp)
  have ts := fun H => same_spec6 zeroBa zeroBa (by simp [zeroBa]) H
  rw [sameB_self] at ts
  unfold Ba.V Ba.cs at *
  simp only [zeroBa, List.map_nil] at *
  have c1 : ¬ e = 0 := by omega
  refine W_fn rfl rfl ?_
  simp only [go_sem, c_law6_reads, t1, t2, tn', c1, ts, List.length_nil, simprocAttr]
 ·rw [hk] at t1 t2 tn
  simp only at tn
  have hsm := (rightE_small hr).1
  have ts := fun H => same_spec6 b b (by omega) H
  rw [sameB_self] at ts
  by_cases c1 : ((baBytes b).length : Int) = (p.length : Int)
  ·have hpe : p = baBytes b := by
    have h2 := congrArg List.length hpb
    rw [List.length_append] at h2
    have h3 : p.drop (baBytes b).length = [] := List.eq_nil_of_length_eq_zero (by omega)
    rw [h3, List.append_nil] at hpb; exact hpb
   by_cases c2 : base ≥ 0
   ·by_cases c3 : base ≤ 1099511627776
    ·have ty' := ty b hb hr hpe c2 c3
     have tl : ∀ H, W n_ref1_Long [.list 1 [] .ro, .int .i64 base] H = some (bytes (bes base 0) .uniq, H) := fun H => ref_long_spec [] base H hbase (by simp)
     have l8 : (8 : Int) ≤ (p.length : Int) := by rw [hpe, baBytes_len', sealed_len]; omega
     have e8 : (ints .u8 p).drop 8 = ints .u8 (p.drop 8) := by rw [← List.map_drop]
     have ta : strBin .add (toS (bes base 0)) (toS (p.drop 8)) = some (.str (toS (bes base 0) ++ toS (p.drop 8))) := by
      show (if _ then _ else _) = _
      rw [if_pos]
      rw [toS_len, toS_len, bes_len, List.length_drop]; simp only [maxBytes]; omega
     have tq : (toS (bes base 0 ++ p.drop 8) == toS (bes base 0) ++ toS (p.drop 8)) = true := by simp [toS]
     generalize hz : bes base 0 ++ p.drop 8 = Z at *
     generalize p.drop 8 = X at *
     generalize bes base 0 = Y at *
     clear hz tn hpb hpe hk ty
     unfold Ba.V Ba.cs at *
     refine W_fn rfl rfl ?_
     simp only [go_sem, c_law6_reads, t1, t2, ty', List.length_map, eq_true c1, c2, c3, ts, tl, slL, l8, e8, ta, tq, simprocAttr]
    ·have tn' := tn (by omega)
     unfold Ba.V Ba.cs at *
     refine W_fn rfl rfl ?_
     simp only [go_sem, c_law6_reads, t1, t2, tn', List.length_map, eq_true c1, c2, c3, ts, List.length_nil, simprocAttr]
   ·have tn' := tn (by omega)
    unfold Ba.V Ba.cs at *
    refine W_fn rfl rfl ?_
    simp only [go_sem, c_law6_reads, t1, t2, tn', List.length_map, eq_true c1, c2, ts, List.length_nil, simprocAttr]
  ·have tn' := tn (by omega)
   unfold Ba.V Ba.cs at *
   refine W_fn rfl rfl ?_
   simp only [go_sem, c_law6_reads, t1, t2, tn', List.length_map, c1, ts, List.length_nil, simprocAttr]
set_option maxHeartbeats 1000000 in
theorem lsame_spec (b : Ba) (hb : BOK b) (hn : b.recs.length ≤ 9223372036854775807) (H : Heap) : W n_law6_same [b.V] H = some (.bool true, H) := by
 have t1 := fun H => Bytes_spec b hb H
 have t2 := fun H => ref_Bytes_spec b hb H
 have t3 := fun H => right_spec b hb H
 have t4 := fun H => ref_right_spec b hb H
 have t5 := fun H => size_spec6 b hb H
 have t6 := fun H => ref_size_spec b hb H
 have t7 := fun H => count_spec b H
 have t8 := fun H => ref_count_spec b H
 have t9 := fun H => bsame_spec b b hn H
 rw [sameB_self] at t9
 have tr := fun hs H => reads_spec (baBytes b) (baBytes_bytes hs) (by have := baBytes_len hs; omega) 5 (i64_c (by decide) (by decide)) H
 generalize (if b.mark = 0 then (b.recs.length : Int) else 1) = N at *
 generalize sizeE b = S at *
 unfold Ba.V Ba.cs at *
 by_cases c : rightE b = 0
 ·have tr' := tr (rightE_small c)
  rw [c, if_pos rfl] at t1 t2
  rw [c] at t3 t4
  have tq : (toS (baBytes b) == toS (baBytes b)) = true := by simp
  generalize baBytes b = Z at *
  refine W_fn rfl rfl ?_
  simp only [go_sem, c_law6_same, t1, t2, fz_v 5 1 (ints .u8 Z), t3, t4, t5, t6, t7, t8, t9, tr', tq, simprocAttr]
 ·rw [if_neg c] at t1 t2
  have tq : (([] : List UInt8) == []) = true := rfl
  have dn : decBytes [] = some [] := rfl
  generalize rightE b = e at *
  refine W_fn rfl rfl ?_
  simp only [go_sem, c_law6_same, t1, t2, fz_f 5 1 List.nil, t3, t4, t5, t6, t7, t8, t9, c, tq, dn, simprocAttr]
def zs (n : Int) : List UInt8 := List.replicate (64 + n % 2).toNat 0
def e2 : Rc := ([], [])
def oddB (b : Ba) (k : Int) (n : Int) : Ba :=
 if k = 0 then { b with base := n } else if k = 1 then { b with prod := n } else if k = 2 then { b with epoch := n }
 else if k = 3 then { b with seq := n } else if k = 4 then { b with txn := !b.txn } else if k = 5 then { b with mark := n }
 else if k = 6 then { b with recs := [] } else if k = 7 then { b with recs := b.recs ++ [(zs n, [])] }
 else if k = 8 then { b with recs := b.recs ++ [([], zs n)] }
 else { b with recs := b.recs ++ List.replicate ((16 + n % 2).toNat - b.recs.length) e2 }
theorem dec_zeros : ∀ k : Nat, decBytes (List.replicate k (.int .u8 0)) = some (List.replicate k 0)
 | 0 => rfl
 | k + 1 => by
  rw [List.replicate_succ, List.replicate_succ, decBytes, dec_zeros k]; rfl
set_option maxHeartbeats 1000000 in
theorem loop_dels (c : CallF) (ks : List Nat) (x : ACode) (e : Env) (H : Heap) : loopA c loopW (.ghost (.kill ks) x) e H = loopA c loopW (.ghost (.kill ks) x) (e.dels ks) H := by
 unfold loopA
 have hS : ∀ e H, aexec c loopW (.ghost (.kill ks) x) (e.dels ks) H = aexec c loopW (.ghost (.kill ks) x) e H := by
  intro e H
  simp only [aexec, agh, dels_dels]
 exact (loopW_eq (f := fun e => e.dels ks) hS e H).symm
theorem odd_loop (n : Int) (c0 c1 c2 c3 c4 c5 : AVal) (X : Box) (H : Heap) (d : Nat) : ∀ (acc : List Rc) (fl : Fl), (16 + n % 2).toNat - acc.length = d → (fl = .ro ∨ fl = .own ∨ (fl = .full ∧ acc = [])) →
  ∃ fl', loopA W loopW (.ghost (.kill k_law6_odd_0) l_law6_odd_0) [(2, .int .i64 n), (3, .ptr (pt H 0) 0), (6, .ptr (pt H 1) 0)] (hx H [.cells [c0, c1, c2, c3, c4, c5, .list 2 (acc.map rcV) fl], X]) =
   some (.exit 1, [(3, .ptr (pt H 0) 0), (6, .ptr (pt H 1) 0)], hx H [.cells [c0, c1, c2, c3, c4, c5, .list 2 ((acc ++ List.replicate d e2).map rcV) fl'], X]) ∧ (fl' = .ro ∨ fl' = .own ∨ (fl' = .full ∧ acc ++ List.replicate d e2 = [])) := by
 have a1 : bits .and .i64 n 1 = n % 2 := and_1 n
 have w1 : IntKind.i64.wrap (16 + n % 2) = 16 + n % 2 := wrap_id (by unfold I64; omega)
 induction d with
 | zero =>
  intro acc fl hd hfl
  refine ⟨fl, ?_, by simpa using hfl⟩
  have h1 : ¬ ((acc.length : Int) < 16 + n % 2) := by omega
  rw [List.replicate_zero, List.append_nil]
  refine loop_step l_law6_odd_0.eq_1 k_law6_odd_0.eq_1 (by kernel_rfl) ?_
  rcases hfl with rfl | rfl | ⟨rfl, rfl⟩
  ·simp only [go_sem, List.length_map, a1, w1, h1, simprocAttr]
  ·simp only [go_sem, List.length_map, a1, w1, h1, simprocAttr]
  ·simp only [List.map_nil, List.length_nil, Int.natCast_zero] at h1 ⊢
   simp only [go_sem, List.length_nil, Int.natCast_zero, a1, w1, h1, simprocAttr]
 | succ d ih =>
  intro acc fl hd hfl
  have h1 : ((acc.length : Int) < 16 + n % 2) := by omega
  obtain ⟨fl', h2, hf⟩ := ih (acc ++ [e2]) .own (by simp; omega) (.inr (.inl rfl))
  have er : acc ++ [e2] ++ List.replicate d e2 = acc ++ List.replicate (d + 1) e2 := by rw [List.append_assoc]; rfl
  rw [er] at h2 hf
  refine ⟨fl', ?_, hf⟩
  have b1 : (0 + acc.length) * 32 ≤ maxBytes := by simp only [maxBytes]; omega
  have b2 : (acc.length + 1) * 32 ≤ maxBytes := by simp only [maxBytes]; omega
  have e8 : acc.map rcV ++ [.agg [.str [], .str []]] = (acc ++ [e2]).map rcV := by simp [rcV, e2]
  have b3 : (0 + 0) * 32 ≤ maxBytes := by decide
  have b4 : (0 + 1) * 32 ≤ maxBytes := by decide
  refine loop_step l_law6_odd_0.eq_1 k_law6_odd_0.eq_1 (by kernel_rfl) ?_
  rcases hfl with rfl | rfl | ⟨rfl, rfl⟩
  ·simp only [go_sem, List.length_map, a1, w1, h1, apF, apO, List.length_nil, List.nil_append, b1, b2, e8, simprocAttr]
   exact h2
  ·simp only [go_sem, List.length_map, a1, w1, h1, apF, apO, List.length_nil, List.nil_append, b1, b2, e8, simprocAttr]
   exact h2
  ·simp only [List.map_nil, List.length_nil, Int.natCast_zero, List.nil_append] at h1 h2 e8 ⊢
   simp only [go_sem, List.length_nil, Int.natCast_zero, a1, w1, h1, apF, apO, List.nil_append, b3, b4, simprocAttr]
   rw [e8]
   exact h2
set_option maxHeartbeats 2000000 in
theorem odd_spec (b : Ba) (hn : b.recs.length ≤ 100000000) (what n : Int) (H : Heap) :
  W n_law6_odd [b.V, .int .i64 what, .int .i64 n] H = some ((oddB b (withinQ what 0 9) n).V, H) := by
 have t0 := fun H => within_spec what 0 9 H (by omega) (by omega) (by omega)
 have r0 := withinQ_range what 0 9 (by omega)
 generalize withinQ what 0 9 = k at *
 have a1 : bits .and .i64 n 1 = n % 2 := and_1 n
 have w1 : IntKind.i64.wrap (64 + n % 2) = 64 + n % 2 := wrap_id (by unfold I64; omega)
 have z0 : (0 : Int) ≤ 64 + n % 2 := by omega
 have dz := dec_zeros (64 + n % 2).toNat
 have b0 : (64 + n % 2) * 1 ≤ 140737488355328 := by omega
 have b1 : (0 + b.recs.length) * 32 ≤ maxBytes := by simp only [maxBytes]; omega
 have b2 : (b.recs.length + 1) * 32 ≤ maxBytes := by simp only [maxBytes]; omega
 have e7 : b.recs.map rcV ++ [.agg [.str (zs n), .str []]] = (b.recs ++ [(zs n, [])]).map rcV := by simp [rcV]
 have e8 : b.recs.map rcV ++ [.agg [.str [], .str (zs n)]] = (b.recs ++ [([], zs n)]).map rcV := by simp [rcV]
 have hl := fun (X : Box) c0 c1 c2 c3 c4 c5 => odd_loop n c0 c1 c2 c3 c4 c5 X H _ b.recs .ro rfl (.inl rfl)
 have zd : List.replicate (64 + n % 2).toNat (0 : UInt8) = zs n := rfl
 rw [zd] at dz
 unfold oddB
 by_cases c0 : k = 0
 ·rw [if_pos c0]
  unfold Ba.V Ba.cs
  refine W_fn rfl rfl ?_
  simp only [go_sem, c_law6_odd, t0, eq_true c0, under_rc, simprocAttr]
 rw [if_neg c0]
 by_cases c1 : k = 1
 ·rw [if_pos c1]
  unfold Ba.V Ba.cs
  refine W_fn rfl rfl ?_
  simp only [go_sem, c_law6_odd, t0, c0, eq_true c1, under_rc, simprocAttr]
 rw [if_neg c1]
 by_cases c2 : k = 2
 ·rw [if_pos c2]
  unfold Ba.V Ba.cs
  refine W_fn rfl rfl ?_
  simp only [go_sem, c_law6_odd, t0, c0, c1, eq_true c2, under_rc, simprocAttr]
 rw [if_neg c2]
 by_cases c3 : k = 3
 ·rw [if_pos c3]
  unfold Ba.V Ba.cs
  refine W_fn rfl rfl ?_
  simp only [go_sem, c_law6_odd, t0, c0, c1, c2, eq_true c3, under_rc, simprocAttr]
 rw [if_neg c3]
 by_cases c4 : k = 4
 ·rw [if_pos c4]
  unfold Ba.V Ba.cs
  refine W_fn rfl rfl ?_
  simp only [go_sem, c_law6_odd, t0, c0, c1, c2, c3, eq_true c4, under_rc, simprocAttr]
 rw [if_neg c4]
 by_cases c5 : k = 5
 ·rw [if_pos c5]
  unfold Ba.V Ba.cs
  refine W_fn rfl rfl ?_
  simp only [go_sem, c_law6_odd, t0, c0, c1, c2, c3, c4, eq_true c5, under_rc, simprocAttr]
 rw [if_neg c5]
 by_cases c6 : k = 6
 ·rw [if_pos c6]
  unfold Ba.V Ba.cs
  refine W_fn rfl rfl ?_
  simp only [go_sem, c_law6_odd, t0, c0, c1, c2, c3, c4, c5, eq_true c6, under_rc, List.map_nil, simprocAttr]
 rw [if_neg c6]
 by_cases c7 : k = 7
 ·rw [if_pos c7]
  unfold Ba.V Ba.cs
  refine W_fn rfl rfl ?_
  simp only [go_sem, c_law6_odd, t0, c0, c1, c2, c3, c4, c5, c6, eq_true c7, under_rc, a1, w1, z0, b0, dz, apF, apO, List.length_nil, List.nil_append, List.length_map, b1, b2, e7, simprocAttr]
 rw [if_neg c7]
 by_cases c8 : k = 8
 ·rw [if_pos c8]
  unfold Ba.V Ba.cs
  refine W_fn rfl rfl ?_
  simp only [go_sem, c_law6_odd, t0, c0, c1, c2, c3, c4, c5, c6, c7, eq_true c8, under_rc, a1, w1, z0, b0, dz, apF, apO, List.length_nil, List.nil_append, List.length_map, b1, b2, e8, simprocAttr]
 rw [if_neg c8]
 obtain ⟨fl', h, hf⟩ := hl zeroC (.int .i64 b.base) (.int .i64 b.prod) (.int .i64 b.epoch) (.int .i64 b.seq) (.bool b.txn) (.int .i64 b.mark)
 unfold zeroC at h
 have ed : Env.dels [(2, .int .i64 n), (3, .ptr (pt H 0) 0), (6, .ptr (pt H 1) 0), (68, .bool false)] k_law6_odd_0 = [(2, .int .i64 n), (3, .ptr (pt H 0) 0), (6, .ptr (pt H 1) 0)] := rfl
 rw [← ed, ← loop_dels] at h
 clear ed
 generalize b.recs ++ List.replicate ((16 + n % 2).toNat - b.recs.length) e2 = R at *
 unfold Ba.V Ba.cs
 refine W_fn rfl rfl ?_
 rcases hf with rfl | rfl | ⟨rfl, rfl⟩
 ·simp only [go_sem, c_law6_odd, t0, c0, c1, c2, c3, c4, c5, c6, c7, c8, h, under_rc, simprocAttr]
 ·simp only [go_sem, c_law6_odd, t0, c0, c1, c2, c3, c4, c5, c6, c7, c8, h, under_rc, simprocAttr]
 ·simp only [List.map_nil] at h ⊢
  simp only [go_sem, c_law6_odd, t0, c0, c1, c2, c3, c4, c5, c6, c7, c8, h, under_rc, simprocAttr]
theorem thaw_v (v : Nat) (Xs : List AVal) (e : Env) (H : Heap) (N : Heap) (h1 : Env.get e v = .list 1 Xs .uniq) :
  agh (.thaw v) e (hx H N) = some (e.put v (.lbox (pt H N.length)), hx H (N ++ [.arr 1 Xs])) := by
 simp only [agh, h1]
 unfold hx pt
 rw [List.append_assoc, List.length_append]
theorem back_v (v : Nat) (Xs : List AVal) (e : Env) (H : Heap) (N : Heap) (h1 : Env.get e v = .lbox (pt H N.length)) :
  agh (.back v) e (hx H (N ++ [.arr 1 Xs])) = some (e.put v (.list 1 Xs .uniq), hx H (N ++ [.dead])) := by
 have g : (hx H (N ++ [.arr 1 Xs]))[pt H N.length]? = some (.arr 1 Xs) := by rw [hx_get]; simp
 have s : (hx H (N ++ [.arr 1 Xs])).set (pt H N.length) .dead = hx H (N ++ [.dead]) := by rw [hx_set]; simp
 simp only [agh, h1, g, s]
theorem freeze_v (v : Nat) (Xs : List AVal) (e : Env) (H : Heap) (h1 : Env.get e v = .list 1 Xs .uniq) :
  agh (.freeze v) e H = some (e.put v (.list 1 Xs .own), H) := by
 simp only [agh, h1]
theorem ix_v (k : Nat) (Xs : List AVal) (hk : k < Xs.length) (H N : Heap) :
  ev W (.ixAddr 1) [.lbox (pt H N.length), .int .i64 (k : Nat)] (hx H (N ++ [.arr 1 Xs])) = some (.eptr (pt H N.length) k 0, hx H (N ++ [.arr 1 Xs])) := by
 have g : (hx H (N ++ [.arr 1 Xs]))[pt H N.length]? = some (.arr 1 Xs) := by rw [hx_get]; simp
 simp only [ev, g]
 rw [if_pos (by refine ⟨?_, ?_, ?_⟩ <;> first | trivial | omega)]
 simp
theorem ld_v (k : Nat) (xs : List Int) (hk : k < xs.length) (H N : Heap) :
  evLoad false 1 false (.eptr (pt H N.length) k 0) (hx H (N ++ [.arr 1 (ints .u8 xs)])) = some (.int .u8 (xs.getD k 0), hx H (N ++ [.arr 1 (ints .u8 xs)])) := by
 have g : (hx H (N ++ [.arr 1 (ints .u8 xs)]))[pt H N.length]? = some (.arr 1 (ints .u8 xs)) := by rw [hx_get]; simp
 have g2 := getD_at (p := xs) k hk
 simp only [evLoad, g, g2, Option.bind_some]
 rfl
theorem st_v (k : Nat) (xs : List Int) (v : Int) (hk : k < xs.length) (H N : Heap) :
  evStore 1 (.eptr (pt H N.length) k 0) (.int .u8 v) (hx H (N ++ [.arr 1 (ints .u8 xs)])) = some (.tuple [], hx H (N ++ [.arr 1 (ints .u8 (xs.set k v))])) := by
 have g : (hx H (N ++ [.arr 1 (ints .u8 xs)]))[pt H N.length]? = some (.arr 1 (ints .u8 xs)) := by rw [hx_get]; simp
 have g2 := getD_at (p := xs) k hk
 have s : ∀ B, (hx H (N ++ [.arr 1 (ints .u8 xs)])).set (pt H N.length) B = hx H (N ++ [B]) := fun B => by rw [hx_set]; simp
 unfold evStore
 rw [if_pos (by simp [AVal.flat, AVal.share0, AVal.one])]
 simp only [g, g2]
 rw [if_pos (by simp [AVal.cells, AVal.flat, AVal.argOK, AVal.isU]), s]
 simp [AVal.withCells, AVal.cells, AVal.flat, AVal.share0, AVal.strip, overwrite, List.map_set]
theorem apU (xs : List AVal) (h : xs.length * 1 ≤ maxBytes) : evAppend 1 1 true (.list 1 [] .full) xs = some (.list 1 xs .uniq) := by
 simp only [evAppend]
 rw [if_pos (by simpa using h)]
 rfl
theorem recs4_small (l a) : SmallR (recs4 l a).1 ∧ 0 < (recs4 l a).1.length ∧ (recs4 l a).1.any bigR = false := by
 have hr := nextV_range (l := l) (a := a) (n := 4) (by omega) (by omega)
 have hlen : (recs4 l a).1.length = (1 + nextV l a 4).toNat := recsT_len l _ _
 have hs := recsT_small l (1 + nextV l a 4).toNat (nextA l a 4)
 refine ⟨⟨by omega, fun x hx => ?_⟩, by omega, ?_⟩
 ·have := hs x hx; omega
 ·rw [List.any_eq_false]
  intro x hx
  have := hs x hx
  simp [bigR]; omega
structure TB (b : Ba) (base : Int) : Prop where
 ok : BOK b
 right : rightE b = 0
 base : b.base = base
theorem tapeBatch_right (l : List Int) (base : Int) (h0 : 0 ≤ base) (h1 : base ≤ 1099511627776) (a : Nat) : TB (tapeBatch l base a).1 base := by
 have data : ∀ b : Ba, b.base = base → b.mark = 0 → SmallR b.recs → 0 < b.recs.length → b.recs.any bigR = false → (noneB b || (namedB b && seqR b.seq)) = true → rightE b = 0 := by
  intro b e1 e2 e3 e4 e5 e6
  unfold rightE
  rw [if_neg (by omega), if_pos e2]
  unfold dataE
  rw [if_neg (by cases hn : noneB b <;> simp_all), if_neg (by omega), if_neg (by have := e3.1; omega), if_neg (by rw [e5]; decide)]
 have r1 := nextV_range (l := l) (a := a) (n := 4) (by omega) (by omega)
 have rr : ∀ a n, 1 ≤ n → n ≤ 1073741824 → 0 ≤ nextV l a n ∧ nextV l a n < n := fun a n hn hm => nextV_range hn hm
 unfold tapeBatch
 simp only
 split
 ·rename_i hp
  have hp1 : nextV l a 4 - 1 = -1 := by omega
  obtain ⟨s1, s2, s3⟩ := recs4_small l (nextA l a 4)
  refine ⟨⟨?_, ?_, ?_, ?_, ?_⟩, data _ rfl rfl s1 s2 s3 (by simp [noneB, hp1]), rfl⟩ <;> (unfold I64; simp only; omega)
 ·rename_i hp
  have q1 := rr (nextA l a 4) 3 (by omega) (by omega)
  split
  ·have q2 := rr (nextA l (nextA l (nextA l a 4) 3) 4) 2 (by omega) (by omega)
   refine ⟨⟨?_, ?_, ?_, ?_, ?_⟩, ?_, rfl⟩
   ·unfold I64; simp only; omega
   ·unfold I64; simp only; omega
   ·unfold I64; simp only; omega
   ·unfold I64; simp only; omega
   ·unfold I64; simp only; omega
   ·unfold rightE
    rw [if_neg (by simp only; omega), if_neg (by simp only; omega), if_neg]
    simp only [markE, namedB]
    have e1 : (decide (1 + nextV l (nextA l (nextA l (nextA l a 4) 3) 4) 2 ≠ 1) && decide (1 + nextV l (nextA l (nextA l (nextA l a 4) 3) 4) 2 ≠ 2)) = false := by
     by_cases h : 1 + nextV l (nextA l (nextA l (nextA l a 4) 3) 4) 2 = 1
     ·simp [h]
     ·have : 1 + nextV l (nextA l (nextA l (nextA l a 4) 3) 4) 2 = 2 := by omega
      simp [this]
    rw [e1]
    simp; omega
  ·have q3 := rr (nextA l (nextA l (nextA l a 4) 3) 4) 6 (by omega) (by omega)
   obtain ⟨s1, s2, s3⟩ := recs4_small l (nextA l (nextA l (nextA l (nextA l (nextA l a 4) 3) 4) 6) 2)
   split
   ·have q8 := rr (nextA l (recs4 l (nextA l (nextA l (nextA l (nextA l (nextA l a 4) 3) 4) 6) 2)).2 9) 3 (by omega) (by omega)
    refine ⟨⟨?_, ?_, ?_, ?_, ?_⟩, data _ rfl rfl s1 s2 s3 (by simp [namedB, seqR]; omega), rfl⟩ <;> (unfold I64; simp only; omega)
   ·refine ⟨⟨?_, ?_, ?_, ?_, ?_⟩, data _ rfl rfl s1 s2 s3 (by simp [namedB, seqR]; omega), rfl⟩ <;> (unfold I64; simp only; omega)
theorem tapeBatch_at (l : List Int) (base : Int) (a : Nat) (ha : a ≤ l.length) : (tapeBatch l base a).2 ≤ l.length := by
 unfold tapeBatch
 simp only
 split
 ·exact recs4_le (nextA_le ha)
 ·split
  ·exact nextA_le (nextA_le (nextA_le (nextA_le ha)))
  ·split
   ·exact nextA_le (nextA_le (recs4_le (nextA_le (nextA_le (nextA_le (nextA_le (nextA_le ha)))))))
   ·exact nextA_le (recs4_le (nextA_le (nextA_le (nextA_le (nextA_le (nextA_le ha))))))
theorem tapeBatch_recs (l : List Int) (base : Int) (a : Nat) : (tapeBatch l base a).1.recs.length ≤ 16 := by
 unfold tapeBatch
 simp only
 split
 ·exact (recs4_small l _).1.1
 ·split
  ·simp
  ·split
   ·exact (recs4_small l _).1.1
   ·exact (recs4_small l _).1.1
theorem oddB_ok {b : Ba} (hb : BOK b) (k : Int) {n : Int} (hn : I64 n) : BOK (oddB b k n) := by
 unfold oddB
 repeat' split
 ·exact ⟨hn, hb.prod, hb.epoch, hb.seq, hb.mark⟩
 ·exact ⟨hb.base, hn, hb.epoch, hb.seq, hb.mark⟩
 ·exact ⟨hb.base, hb.prod, hn, hb.seq, hb.mark⟩
 ·exact ⟨hb.base, hb.prod, hb.epoch, hn, hb.mark⟩
 ·exact ⟨hb.base, hb.prod, hb.epoch, hb.seq, hb.mark⟩
 ·exact ⟨hb.base, hb.prod, hb.epoch, hb.seq, hn⟩
 ·exact ⟨hb.base, hb.prod, hb.epoch, hb.seq, hb.mark⟩
 ·exact ⟨hb.base, hb.prod, hb.epoch, hb.seq, hb.mark⟩
 ·exact ⟨hb.base, hb.prod, hb.epoch, hb.seq, hb.mark⟩
 ·exact ⟨hb.base, hb.prod, hb.epoch, hb.seq, hb.mark⟩
theorem oddB_len (b : Ba) (k n : Int) : (oddB b k n).recs.length ≤ b.recs.length + 17 := by
 unfold oddB
 repeat' split
 all_goals (simp only [List.length_append, List.length_cons, List.length_nil, List.length_replicate]; omega)
set_option maxHeartbeats 2000000 in
theorem tells_spec (t : List Int) (what n : Int) (raw : Ba) (p : List Int) (pl tu : Int) (ht : ∀ x ∈ t, I64 x) (hl : t.length * 8 ≤ 140737488351232) (hw : I64 what) (hn : I64 n)
  (hraw : BOK raw) (hrl : raw.recs.length ≤ 9223372036854775807) (hp : ∀ x ∈ p, 0 ≤ x ∧ x < 256) (hpl : p.length * 1 ≤ 140737488351232) (hat : I64 pl) (htu : 0 ≤ tu ∧ tu < 256) :
  W n_law6_BatchTells [.list 1 (ints .i64 t) .ro, .int .i64 what, .int .i64 n, raw.V, .list 1 (ints .u8 p) .ro, .int .i64 pl, .int .u8 tu] [] = some (.bool true, []) := by
 have hl' : t.length ≤ 140737488355328 := by omega
 obtain ⟨A, hA⟩ : ∃ A, n % 65536 = A := ⟨_, rfl⟩
 have a1 : bits .and .i64 n 65535 = A := by rw [and_16, hA]
 obtain ⟨A7, hA7⟩ : ∃ A, n % 8 = A := ⟨_, rfl⟩
 have a7 : bits .and .i64 n 7 = A7 := by rw [and_3, hA7]
 have hA7i : I64 A7 := i64_c (by omega) (by omega)
 have tb := tape_batch_spec t hl' 0 (Nat.zero_le _) A (pt [] 1) (hx [] [.cells raw.cs, tapeB t 0]) ⟨rfl⟩
 have hg := tapeBatch_right t A (by omega) (by omega) 0
 have hr16 := tapeBatch_recs t A 0
 generalize tapeBatch t A 0 = R at tb hg hr16
 obtain ⟨b, at_⟩ := R
 simp only at tb hg hr16
 have hsm := rightE_small hg.right
 have hX := baBytes_len hsm
 have hXb := baBytes_bytes hsm
 have t2 := fun H => ref_Bytes_spec b hg.ok H
 rw [hg.right, if_pos rfl] at t2
 have hX0 : 0 < (baBytes b).length := by unfold baBytes; rw [List.length_append, List.length_append, bes_len]; omega
 obtain ⟨X, hXe⟩ : ∃ X, baBytes b = X := ⟨_, rfl⟩
 rw [hXe] at t2 hX hXb hX0
 -- the place
 have w1 : IntKind.i64.wrap ((X.length : Int) - 1) = ((X.length - 1 : Nat) : Int) := by rw [wrap_id (by unfold I64; omega)]; omega
 have t3 := fun H => within_spec pl 0 ((X.length - 1 : Nat) : Int) H (by omega) (by omega) (by omega)
 have r3 := withinQ_range pl 0 ((X.length - 1 : Nat) : Int) (by omega)
 obtain ⟨i, hi⟩ : ∃ i : Nat, withinQ pl 0 ((X.length - 1 : Nat) : Int) = (i : Int) := ⟨(withinQ pl 0 ((X.length - 1 : Nat) : Int)).toNat, by omega⟩
 rw [hi] at t3
 have hil : i < X.length := by omega
 have e0 : (0 : Int) ≤ (i : Int) := by omega
 have e7 : ((i : Nat) : Int).toNat = i := by omega
 have e9 : (i : Int) < (X.length : Int) := by omega
 obtain ⟨v, hv⟩ : ∃ v, bits .xor .u8 (X.getD i 0) tu = v := ⟨_, rfl⟩
 have hv8 : 0 ≤ v ∧ v < 256 := by rw [← hv]; exact u8r _
 have lx : i < (ints .u8 X).length := by rw [List.length_map]; omega
 obtain ⟨N, hN⟩ : ∃ N : Heap, [.cells raw.cs, tapeB t at_, .cells b.cs] = N := ⟨_, rfl⟩
 have hN3 : N.length = 3 := by rw [← hN]; rfl
 have g1 := fun e h1 => thaw_v 16 (ints .u8 X) e [] N h1
 have g2 := ix_v i (ints .u8 X) lx [] N
 have g3 := ld_v i X hil [] N
 have g4 := st_v i X v hil [] N
 have gx : (ints .u8 X)[i]? = some (.int .u8 (X.getD i 0)) := getD_at (p := X) i hil
 have gs : (ints .u8 X).set i (.int .u8 v) = ints .u8 (X.set i v) := by simp [List.map_set]
 have g5 := fun e h1 => back_v 16 (ints .u8 (X.set i v)) e [] N h1
 have g6 := fun e H h1 => freeze_v 16 (ints .u8 (X.set i v)) e H h1
 have hZb : ∀ x ∈ X.set i v, 0 ≤ x ∧ x < 256 := by
  intro x hx
  rcases List.mem_or_eq_of_mem_set hx with hx | rfl
  ·exact hXb x hx
  ·exact hv8
 have hZl : (X.set i v).length ≤ 3000 := by rw [List.length_set]; omega
 -- what is asked
 have q1 := fun H => lsame_spec b hg.ok (by omega) H
 have q2 := fun H => odd_spec b (by omega) what n H
 have o1 := oddB_ok hg.ok (withinQ what 0 9) hn
 have o1l := oddB_len b (withinQ what 0 9) n
 generalize oddB b (withinQ what 0 9) n = c at *
 have q3 := fun H => lsame_spec c o1 (by omega) H
 have q4 := fun H => odd_spec c (by omega) pl A7 H
 have o2 := oddB_ok o1 (withinQ pl 0 9) hA7i
 have o2l := oddB_len c (withinQ pl 0 9) A7
 generalize oddB c (withinQ pl 0 9) A7 = d at *
 have q5 := fun H => lsame_spec d o2 (by omega) H
 have q6 := fun H => lsame_spec raw hraw hrl H
 generalize X.set i v = Z at *
 have q7 := fun H => reads_spec Z hZb (by omega) n hn H
 obtain ⟨Y, hY⟩ : ∃ Y, p.take 5000 = Y := ⟨_, rfl⟩
 have e5 : (ints .u8 p).take 5000 = ints .u8 Y := by rw [← hY, ← List.map_take]
 have hYb : ∀ x ∈ Y, 0 ≤ x ∧ x < 256 := fun x hx => hp x (by rw [← hY] at hx; exact List.mem_of_mem_take hx)
 have hYl : Y.length ≤ 5000 := by rw [← hY, List.length_take]; omega
 have q8 := fun H => reads_spec Y hYb (by omega) n hn H
 have ej : ints .u8 Z ++ ints .u8 Y = ints .u8 (Z ++ Y) := by simp
 have bj : (Z.length + Y.length) * 1 ≤ maxBytes := by simp only [maxBytes]; omega
 have q9 := fun H => reads_spec (Z ++ Y) (by
  intro x hx
  rcases List.mem_append.1 hx with hx | hx
  ·exact hZb x hx
  ·exact hYb x hx) (by rw [List.length_append]; omega) 7 (i64_c (by decide) (by decide)) H
 have qa := fun H => bsame_spec b raw (by omega) H
 have qb := fun H => same_spec6 b raw (by omega) H
 generalize sameB b raw = s at *
 have sb : (s == s) = true := by cases s <;> rfl
 have kn := known_spec
 clear hXe hA hA7 r3 hi hsm hg o1 o2 hXb hZb hYb
 generalize Z ++ Y = ZY at *
 unfold tapeB at *
 unfold Ba.V at *
 unfold Ba.cs at *
 simp only [Int.natCast_zero] at tb
 subst hN
 simp only [List.cons_append, List.nil_append, List.length_cons, List.length_nil, Nat.zero_add, Nat.reduceAdd] at g4 g5
 refine W_fn rfl rfl ?_
 by_cases c5 : (p.length : Int) > 5000
 ·have c6 : (5000 : Int) ≤ (p.length : Int) := by omega
  simp only [go_sem, c_law6_BatchTells, a1, tb, t2, List.length_map, w1, t3, g1, e0, e7, e9, gx, gs, g2, g3, g4, g5, g6, hv, c5, slH, c6, e5, q1, q2, q3, q4, a7, q5, q6, q7, q8, apO, bj, ej, q9, qa, qb, sb, kn, simprocAttr]
  first | done | rfl
 ·have eY : Y = p := by rw [← hY]; exact List.take_of_length_le (by omega)
  rw [eY] at q8 bj ej
  simp only [go_sem, c_law6_BatchTells, a1, tb, t2, List.length_map, w1, t3, g1, e0, e7, e9, gx, gs, g2, g3, g4, g5, g6, hv, c5, q1, q2, q3, q4, a7, q5, q6, q7, q8, apO, bj, ej, q9, qa, qb, sb, kn, simprocAttr]
  first | done | rfl
end Go.Abs
