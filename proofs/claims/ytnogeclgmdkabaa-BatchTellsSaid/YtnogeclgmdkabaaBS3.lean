import Derived.Test.YtnogeclgmdkabaaBS2
set_option linter.unusedVariables false
set_option linter.unusedSimpArgs false
namespace Go.Abs
open Go Go.RowKit
def sum4 (p : List Int) : Int := p.getD 0 0 + p.getD 1 0 * 256 + p.getD 2 0 * 65536 + p.getD 3 0 * 16777216
theorem sum4_or (a b c d : Int) (ha : 0 ≤ a ∧ a < 256) (hb : 0 ≤ b ∧ b < 256) (hc : 0 ≤ c ∧ c < 256) (hd : 0 ≤ d ∧ d < 256) :
  bits .or .u32 (bits .or .u32 (bits .or .u32 (IntKind.u32.wrap a) (shl .u32 (IntKind.u32.wrap b) 8)) (shl .u32 (IntKind.u32.wrap c) 16)) (shl .u32 (IntKind.u32.wrap d) 24) = a + b * 256 + c * 65536 + d * 16777216 := by
 have wa : ∀ x : Int, 0 ≤ x ∧ x < 256 → IntKind.u32.wrap x = x := fun x h => by rw [IntKind.wrap_u32]; omega
 rw [wa a ha, wa b hb, wa c hc, wa d hd, (shl_u32 b hb.1 hb.2).1, (shl_u32 c hc.1 hc.2).2.1, (shl_u32 d hd.1 hd.2).2.2]
 rw [(or_at .u32 (.inr (.inr rfl)) 8 a (b * 256) ha.1 (by show a < 256; omega) (by omega) (by show b * 256 % 256 = 0; omega) (by omega) (by omega) (by omega)).1]
 rw [(or_at .u32 (.inr (.inr rfl)) 16 (a + b * 256) (c * 65536) (by omega) (by show a + b * 256 < 65536; omega) (by omega) (by show c * 65536 % 65536 = 0; omega) (by omega) (by omega) (by omega)).1]
 rw [(or_at .u32 (.inr (.inr rfl)) 24 (a + b * 256 + c * 65536) (d * 16777216) (by omega) (by show a + b * 256 + c * 65536 < 16777216; omega) (by omega) (by show d * 16777216 % 16777216 = 0; omega) (by omega) (by omega) (by omega)).1]
def chkOK (p : List Int) : Bool := decide (4 ≤ p.length) && decide (((crcN (toN (p.drop 4)) : Nat) : Int) = sum4 p)
theorem getD_at {p : List Int} (i : Nat) (h : i < p.length) : (ints .u8 p)[i]? = some (.int .u8 (p.getD i 0)) := by
 rw [List.getElem?_map, List.getD_eq_getElem?_getD, List.getElem?_eq_getElem h]; rfl
theorem check_spec (p : List Int) (hp : ∀ x ∈ p, 0 ≤ x ∧ x < 256) (hl : p.length ≤ 140737488355328) (H : Heap) :
  W n_crc_Check [bytes p .ro] H = some (.tuple [if chkOK p then bytes (p.drop 4) .own else .list 1 [] .full, .bool (chkOK p)], H) := by
 unfold chkOK
 by_cases c : p.length < 4
 ·have c' : (p.length : Int) < 4 := by omega
  have d : decide (4 ≤ p.length) = false := decide_eq_false (by omega)
  rw [d, Bool.false_and, if_neg (by decide)]
  refine W_fn0 rfl rfl ?_
  simp only [go_sem, trim_same, c_crc_Check, List.length_map, c', simprocAttr]
 ·have c' : ¬ (p.length : Int) < 4 := by omega
  have d : decide (4 ≤ p.length) = true := decide_eq_true (by omega)
  rw [d, Bool.true_and]
  have g0 := getD_at (p := p) 0 (by omega)
  have g1 := getD_at (p := p) 1 (by omega)
  have g2 := getD_at (p := p) 2 (by omega)
  have g3 := getD_at (p := p) 3 (by omega)
  have hs := sum4_or _ _ _ _ (getD_byte hp 0) (getD_byte hp 1) (getD_byte hp 2) (getD_byte hp 3)
  have ho := fun H => of_spec (p.drop 4) H (fun x hx => hp x (List.mem_of_mem_drop hx)) (by simp; omega)
  have e4 : (ints .u8 p).drop 4 = ints .u8 (p.drop 4) := by rw [← List.map_drop]
  have l4 : (4 : Int) ≤ (p.length : Int) := by omega
  have hc := fun H => W_clone (ints .u8 (p.drop 4)) H (by simp [maxBytes]; omega)
  unfold sum4
  generalize p.getD 0 0 = x0 at *
  generalize p.getD 1 0 = x1 at *
  generalize p.getD 2 0 = x2 at *
  generalize p.getD 3 0 = x3 at *
  generalize p.drop 4 = y at *
  generalize ((crcN (toN y) : Nat) : Int) = n at *
  by_cases e : n = x0 + x1 * 256 + x2 * 65536 + x3 * 16777216
  ·rw [decide_eq_true e, if_pos rfl]
   refine W_fn0 rfl rfl ?_
   simp only [go_sem, trim_same, c_crc_Check, List.length_map, c', g0, g1, g2, g3, hs, slL, l4, e4, ho, eq_true e, hc, simprocAttr]
  ·rw [decide_eq_false e, if_neg (by decide)]
   refine W_fn0 rfl rfl ?_
   simp only [go_sem, trim_same, c_crc_Check, List.length_map, c', g0, g1, g2, g3, hs, slL, l4, e4, ho, e, simprocAttr]
def backI (l : List Int) : Int := if l.length < 8 then 0 else IntKind.i64.wrap (bk (l.take 8) 0)
theorem backV_eq (l : List Int) : backV l = .tuple [.int .i64 (backI l), .bool (decide (8 ≤ l.length))] := by
 unfold backV backI
 by_cases h : l.length < 8
 ·rw [if_pos h, if_pos h, decide_eq_false (by omega)]
 ·rw [if_neg h, if_neg h, decide_eq_true (by omega)]
theorem cutS_range (l : List Int) (a : Int) : 0 ≤ (cutS l a).2 ∧ (cutS l a).2 ≤ (l.length : Int) := by
 have h := told_range l
 unfold cutS
 simp only
 split
 ·simp
 ·split
  ·simp
  ·split
   ·simp
   ·simp only; omega
def bodyR (x : List Int) : Nat → Nat → List Rc
 | 0, _ => []
 | k + 1, a => ((cutS (x.drop a) 64).1, (cutS (x.drop (a + (cutS (x.drop a) 64).2.toNat)) 64).1) ::
   bodyR x k (a + (cutS (x.drop a) 64).2.toNat + (cutS (x.drop (a + (cutS (x.drop a) 64).2.toNat)) 64).2.toNat)
def epochOf (c d : Int) : Int := if c * 256 + d = 65535 then -1 else c * 256 + d
def bodyB (base : Int) (x : List Int) : Ba :=
 ⟨base, backI (x.drop 1), epochOf (x.getD 9 0) (x.getD 10 0), backI (x.drop 11), decide (x.getD 0 0 % 2 = 1), x.getD 0 0 / 2, bodyR x (x.getD 19 0).toNat 20⟩
theorem and1_u8 (c : Int) (h0 : 0 ≤ c) (h1 : c < 256) : bits .and .u8 c 1 = c % 2 := by
 have g : ∀ n : Nat, n < 256 → bits .and .u8 ((n : Nat) : Int) 1 = ((n % 2 : Nat) : Int) := by decide +kernel
 have := g c.toNat (by omega)
 rw [Int.toNat_of_nonneg h0] at this
 rw [this]; omega
theorem shr1_u8 (c : Int) : shr .u8 c 1 = c / 2 := rfl
theorem W_back (l : List Int) (H : Heap) : W n_varint_Back [bytes l .ro] H = some (.tuple [.int .i64 (backI l), .bool (decide (8 ≤ l.length))], H) := by rw [back_spec, backV_eq]
theorem body_loop (x : List Int) (hb : Bytes x) (hl : x.length ≤ 100000) (n : Nat) (hn : n ≤ 255) (X : Box) (c0 c1 c2 c3 c4 c5 : AVal) (H N : Heap) (k : Nat) : ∀ (i a : Nat) (acc : List Rc) (fl : Fl), i + k = n → acc.length = i → a ≤ x.length → (fl = .own ∨ (fl = .full ∧ acc = [])) →
  ∃ fl', loopA W loopW (.ghost (.kill k_batch_body_0) l_batch_body_0) [(1, bytes x .ro), (4, .ptr (pt H 0) 0), (5, .ptr (pt H 1) 0), (6, .int .i64 (a : Nat)), (54, .int .i64 (n : Nat)), (55, .int .i64 (i : Nat))] (hx H (X :: .cells [c0, c1, c2, c3, c4, c5, .list 2 (acc.map rcV) fl] :: N)) =
   some (.exit 0, [(4, .ptr (pt H 0) 0), (5, .ptr (pt H 1) 0)], hx H (X :: .cells [c0, c1, c2, c3, c4, c5, .list 2 ((acc ++ bodyR x k a).map rcV) fl'] :: N)) ∧ (fl' = .own ∨ (fl' = .full ∧ acc ++ bodyR x k a = [])) := by
 induction k with
 | zero =>
  intro i a acc fl hi ha hx1 hfl
  refine ⟨fl, ?_, by rw [bodyR, List.append_nil]; exact hfl⟩
  have h1 : ¬ ((i : Int) < (n : Int)) := by omega
  rw [bodyR, List.append_nil]
  refine loop_step l_batch_body_0.eq_1 k_batch_body_0.eq_1 (by kernel_rfl) ?_
  simp only [go_sem, h1, simprocAttr]
 | succ k ih =>
  intro i a acc fl hi hacc ha hfl
  have h1 : ((i : Int) < (n : Int)) := by omega
  have e6 : IntKind.i64.wrap ((i : Int) + 1) = ((i + 1 : Nat) : Int) := by rw [wrap_id (by unfold I64; omega)]; omega
  have a0 : (0 : Int) ≤ (a : Int) := by omega
  have a1 : (a : Int) ≤ (x.length : Int) := by omega
  have d1 : ((a : Nat) : Int).toNat = a := by omega
  have q1 : (ints .u8 x).drop a = ints .u8 (x.drop a) := by rw [← List.map_drop]
  have t1 := fun H => cut_spec (x.drop a) 64 H (bytes_drop a hb) (by simp; omega)
  have r1 := cutS_range (x.drop a) 64
  have b1 : bodyR x (k + 1) a = ((cutS (x.drop a) 64).1, (cutS (x.drop (a + (cutS (x.drop a) 64).2.toNat)) 64).1) ::
   bodyR x k (a + (cutS (x.drop a) 64).2.toNat + (cutS (x.drop (a + (cutS (x.drop a) 64).2.toNat)) 64).2.toNat) := rfl
  rw [b1]
  rw [List.length_drop] at r1
  generalize cutS (x.drop a) 64 = s1 at *
  obtain ⟨k1, m1⟩ := s1
  simp only at t1 r1 b1 ⊢
  obtain ⟨n1, rfl⟩ := Int.eq_ofNat_of_zero_le r1.1
  simp only [Int.toNat_natCast] at b1 ⊢
  have w1 : IntKind.i64.wrap ((a : Int) + (n1 : Int)) = ((a + n1 : Nat) : Int) := by rw [wrap_id (by unfold I64; omega)]; omega
  have a2 : (0 : Int) ≤ ((a + n1 : Nat) : Int) := by omega
  have a3 : ((a + n1 : Nat) : Int) ≤ (x.length : Int) := by omega
  have d2 : ((a + n1 : Nat) : Int).toNat = a + n1 := by omega
  have q2 : (ints .u8 x).drop (a + n1) = ints .u8 (x.drop (a + n1)) := by rw [← List.map_drop]
  have t2 := fun H => cut_spec (x.drop (a + n1)) 64 H (bytes_drop (a + n1) hb) (by simp; omega)
  have r2 := cutS_range (x.drop (a + n1)) 64
  rw [List.length_drop] at r2
  generalize cutS (x.drop (a + n1)) 64 = s2 at *
  obtain ⟨k2, m2⟩ := s2
  simp only at t2 r2 b1 ⊢
  obtain ⟨n2, rfl⟩ := Int.eq_ofNat_of_zero_le r2.1
  simp only [Int.toNat_natCast] at b1 ⊢
  have w2 : IntKind.i64.wrap ((n1 : Int) + (n2 : Int)) = ((n1 + n2 : Nat) : Int) := by rw [wrap_id (by unfold I64; omega)]; omega
  have w3 : IntKind.i64.wrap ((a : Int) + ((n1 + n2 : Nat) : Int)) = ((a + n1 + n2 : Nat) : Int) := by rw [wrap_id (by unfold I64; omega)]; omega
  obtain ⟨fl', h2, hf'⟩ := ih (i + 1) (a + n1 + n2) (acc ++ [(k1, k2)]) .own (by omega) (by simp; omega) (by omega) (.inl rfl)
  refine ⟨fl', ?_, by simpa using hf'⟩
  have bb : ((acc.map rcV).length + 1) * 32 ≤ maxBytes := by simp only [List.length_map, maxBytes]; omega
  have bb' : (acc.length + 1) * 32 ≤ maxBytes := by simp only [maxBytes]; omega
  have b0 : (0 + 1) * 32 ≤ maxBytes := by decide
  have e8 : acc.map rcV ++ [.agg [.str k1, .str k2]] = (acc ++ [(k1, k2)]).map rcV := by simp [rcV]
  rw [List.append_assoc] at h2
  simp only [List.singleton_append] at h2
  refine loop_step l_batch_body_0.eq_1 k_batch_body_0.eq_1 (by kernel_rfl) ?_
  rcases hfl with rfl | ⟨rfl, rfl⟩
  ·simp only [go_sem, h1, slL, List.length_map, a0, a1, d1, q1, t1, w1, a2, a3, d2, q2, t2, apO, bb, bb', e8, w2, w3, e6, simprocAttr]
   exact h2
  ·simp only [List.map_nil, List.nil_append] at e8 h2 ⊢
   simp only [go_sem, h1, slL, List.length_map, a0, a1, d1, q1, t1, w1, a2, a3, d2, q2, t2, apF, List.length_nil, b0, List.nil_append, w2, w3, e6, simprocAttr]
   rw [e8]
   exact h2
theorem epoch_or (c d : Int) (hc : 0 ≤ c ∧ c < 256) (hd : 0 ≤ d ∧ d < 256) : bits .or .i64 (shl .i64 (IntKind.i64.wrap c) 8) (IntKind.i64.wrap d) = c * 256 + d := by
 have e : IntKind.i64.wrap c = c := wrap_id (by unfold I64; omega)
 rw [e, lg_step c d hc.1 (by omega) hd.1 hd.2]
set_option maxHeartbeats 1000000 in
theorem body_spec (base : Int) (x : List Int) (hb : Bytes x) (h20 : 20 ≤ x.length) (hl : x.length ≤ 100000) (H : Heap) :
  W n_batch_body [.int .i64 base, bytes x .ro] H = some ((bodyB base x).V, H) := by
 have g0 := getD_at (p := x) 0 (by omega)
 have g9 := getD_at (p := x) 9 (by omega)
 have g10 := getD_at (p := x) 10 (by omega)
 have g19 := getD_at (p := x) 19 (by omega)
 have r0 := getD_byte hb 0
 have r9 := getD_byte hb 9
 have r10 := getD_byte hb 10
 have r19 := getD_byte hb 19
 have q1 : (ints .u8 x).drop 1 = ints .u8 (x.drop 1) := by rw [← List.map_drop]
 have q11 : (ints .u8 x).drop 11 = ints .u8 (x.drop 11) := by rw [← List.map_drop]
 have l1 : (1 : Int) ≤ (x.length : Int) := by omega
 have l11 : (11 : Int) ≤ (x.length : Int) := by omega
 have t1 := fun H => W_back (x.drop 1) H
 have t11 := fun H => W_back (x.drop 11) H
 have a1 := and1_u8 (x.getD 0 0) r0.1 r0.2
 have s1 := shr1_u8 (x.getD 0 0)
 have w1 : IntKind.i64.wrap (x.getD 0 0 / 2) = x.getD 0 0 / 2 := wrap_id (by unfold I64; omega)
 have w2 : IntKind.i64.wrap (x.getD 19 0) = x.getD 19 0 := wrap_id (by unfold I64; omega)
 have eo := epoch_or (x.getD 9 0) (x.getD 10 0) r9 r10
 obtain ⟨n, hn⟩ : ∃ n : Nat, x.getD 19 0 = (n : Int) := ⟨(x.getD 19 0).toNat, by omega⟩
 have hbV : (bodyB base x).V = .agg [.int .i64 base, .int .i64 (backI (x.drop 1)), .int .i64 (epochOf (x.getD 9 0) (x.getD 10 0)), .int .i64 (backI (x.drop 11)), .bool (decide (x.getD 0 0 % 2 = 1)), .int .i64 (x.getD 0 0 / 2), .list 2 ((bodyR x n 20).map rcV) .ro] := by
  unfold bodyB Ba.V Ba.cs; rw [hn]; rfl
 rw [hbV]
 rw [hn] at w2 g19
 have lp := fun (X : Box) c0 c1 c2 c3 c4 c5 => body_loop x hb hl n (by omega) X c0 c1 c2 c3 c4 c5 H [] n 0 20 [] .full (by omega) rfl (by omega) (.inr ⟨rfl, rfl⟩)
 simp only [List.nil_append, List.map_nil, Int.natCast_zero, Int.cast_ofNat_Int] at lp
 unfold epochOf
 clear hbV
 generalize bodyR x n 20 = R at *
 generalize x.drop 1 = x1 at *
 generalize x.drop 11 = x11 at *
 generalize backI x1 = p1 at *
 generalize backI x11 = p11 at *
 generalize decide (8 ≤ x1.length) = o1 at *
 generalize decide (8 ≤ x11.length) = o11 at *
 generalize x.getD 0 0 = v0 at *
 generalize x.getD 9 0 = v9 at *
 generalize x.getD 10 0 = v10 at *
 generalize v9 * 256 + v10 = e at *
 by_cases c1 : e = 65535
 ·rw [if_pos c1]
  obtain ⟨fl', h, hf⟩ := lp (.cells [.int .i64 0, .int .i64 0, .int .i64 0, .int .i64 0, .bool false, .int .i64 0, .list 2 [] .full]) (.int .i64 base) (.int .i64 p1) (.int .i64 (-1)) (.int .i64 p11) (.bool (decide (v0 % 2 = 1))) (.int .i64 (v0 / 2))
  refine W_fn rfl rfl ?_
  rcases hf with rfl | ⟨rfl, hR⟩
  ·simp only [go_sem, c_batch_body, g0, g9, g10, g19, a1, s1, w1, w2, eo, slL, List.length_map, l1, l11, q1, q11, t1, t11, eq_true c1, h, under_rc, simprocAttr]
  ·rw [hR] at h ⊢
   simp only [List.map_nil] at h ⊢
   simp only [go_sem, c_batch_body, g0, g9, g10, g19, a1, s1, w1, w2, eo, slL, List.length_map, l1, l11, q1, q11, t1, t11, eq_true c1, h, under_rc, simprocAttr]
 ·rw [if_neg c1]
  obtain ⟨fl', h, hf⟩ := lp (.cells [.int .i64 0, .int .i64 0, .int .i64 0, .int .i64 0, .bool false, .int .i64 0, .list 2 [] .full]) (.int .i64 base) (.int .i64 p1) (.int .i64 e) (.int .i64 p11) (.bool (decide (v0 % 2 = 1))) (.int .i64 (v0 / 2))
  refine W_fn rfl rfl ?_
  rcases hf with rfl | ⟨rfl, hR⟩
  ·simp only [go_sem, c_batch_body, g0, g9, g10, g19, a1, s1, w1, w2, eo, slL, List.length_map, l1, l11, q1, q11, t1, t11, c1, h, under_rc, simprocAttr]
  ·rw [hR] at h ⊢
   simp only [List.map_nil] at h ⊢
   simp only [go_sem, c_batch_body, g0, g9, g10, g19, a1, s1, w1, w2, eo, slL, List.length_map, l1, l11, q1, q11, t1, t11, c1, h, under_rc, simprocAttr]
def zeroBa : Ba := ⟨0, 0, 0, 0, false, 0, []⟩
def cutP (p : List Int) : List Int := (p.take (longB p).toNat).drop 12
def readB (p : List Int) : Ba × Int × Int :=
 if longB p > 4096 then (zeroBa, 0, 13)
 else if longB p < 36 then (zeroBa, 0, 12)
 else if longB p > (p.length : Int) then (zeroBa, 0, 12)
 else if chkOK (cutP p) = false then (zeroBa, 0, 12)
 else if 5 < ((cutP p).drop 4).getD 0 0 then (zeroBa, 0, 12)
 else if rightE (bodyB (backI p) ((cutP p).drop 4)) ≠ 0 then (zeroBa, 0, 12)
 else if baBytes (bodyB (backI p) ((cutP p).drop 4)) = p.take (longB p).toNat then (bodyB (backI p) ((cutP p).drop 4), longB p, 0)
 else (zeroBa, 0, 12)
theorem backI_i64 (l : List Int) : I64 (backI l) := by
 unfold backI
 split
 ·exact i64_c (by omega) (by omega)
 ·rw [IntKind.wrap_i64]; unfold I64; omega
theorem bodyB_ok (base : Int) (hb : I64 base) (x : List Int) (hx : ∀ c ∈ x, 0 ≤ c ∧ c < 256) : BOK (bodyB base x) := by
 have r0 := getD_byte hx 0
 have r9 := getD_byte hx 9
 have r10 := getD_byte hx 10
 refine ⟨hb, backI_i64 _, ?_, backI_i64 _, ?_⟩
 ·unfold bodyB epochOf I64; simp only; split <;> omega
 ·unfold bodyB I64; simp only; omega
set_option maxHeartbeats 2000000 in
theorem read_spec (p : List Int) (hp : ∀ x ∈ p, 0 ≤ x ∧ x < 256) (hl : p.length ≤ 140737488355328) (H : Heap) :
  W n_batch_Read [bytes p .ro] H = some (.tuple [(readB p).1.V, .int .i64 (readB p).2.1, .int .i64 (readB p).2.2], H) := by
 have t1 := fun H => blong_spec p hp H
 have rl := longB_range hp
 have zV : zeroBa.V = .agg [.int .i64 0, .int .i64 0, .int .i64 0, .int .i64 0, .bool false, .int .i64 0, .list 2 [] .ro] := rfl
 unfold readB
 by_cases c1 : longB p > 4096
 ·rw [if_pos c1]
  simp only [zV]
  generalize longB p = n at *
  refine W_fn rfl rfl ?_
  simp only [go_sem, c_batch_Read, t1, c1, simprocAttr]
 rw [if_neg c1]
 by_cases c2 : longB p < 36
 ·rw [if_pos c2]
  simp only [zV]
  generalize longB p = n at *
  refine W_fn rfl rfl ?_
  simp only [go_sem, c_batch_Read, t1, c1, c2, simprocAttr]
 rw [if_neg c2]
 by_cases c3 : longB p > (p.length : Int)
 ·rw [if_pos c3]
  simp only [zV]
  generalize longB p = n at *
  refine W_fn rfl rfl ?_
  simp only [go_sem, c_batch_Read, t1, c1, c2, List.length_map, c3, simprocAttr]
 rw [if_neg c3]
 have hcb : ∀ x ∈ cutP p, 0 ≤ x ∧ x < 256 := fun x hx => hp x (List.mem_of_mem_take (List.mem_of_mem_drop hx))
 have hcl : (cutP p).length = (longB p).toNat - 12 := by unfold cutP; rw [List.length_drop, List.length_take]; omega
 have q1 : ((ints .u8 p).take (longB p).toNat).drop 12 = ints .u8 (cutP p) := by unfold cutP; rw [← List.map_take, ← List.map_drop]
 have t2 := fun H => check_spec (cutP p) hcb (by omega) H
 have i1 : (0 : Int) ≤ longB p := by omega
 have i2 : (12 : Int) ≤ longB p := by omega
 have i3 : longB p ≤ (p.length : Int) := by omega
 cases c4 : chkOK (cutP p) with
 | false =>
  rw [if_pos rfl]
  simp only [zV]
  rw [c4] at t2
  simp only [Bool.false_eq_true, if_false] at t2
  generalize longB p = n at *
  refine W_fn rfl rfl ?_
  simp only [go_sem, c_batch_Read, t1, c1, c2, slM, List.length_map, c3, i1, i2, i3, q1, t2, simprocAttr]
 | true =>
  rw [if_neg (by decide)]
  rw [c4] at t2
  simp only [if_true] at t2
  have hx20 : 20 ≤ ((cutP p).drop 4).length := by rw [List.length_drop]; omega
  have hxl : ((cutP p).drop 4).length ≤ 4100 := by rw [List.length_drop]; omega
  have hxb : ∀ x ∈ (cutP p).drop 4, 0 ≤ x ∧ x < 256 := fun x hx => hcb x (List.mem_of_mem_drop hx)
  generalize (cutP p).drop 4 = x at *
  have g0 := getD_at (p := x) 0 (by omega)
  by_cases c5 : 5 < x.getD 0 0
  ·rw [if_pos c5]
   simp only [zV]
   have c5' : x.getD 0 0 > 5 := c5
   generalize longB p = n at *
   generalize x.getD 0 0 = x0 at *
   refine W_fn rfl rfl ?_
   simp only [go_sem, c_batch_Read, t1, c1, c2, slM, List.length_map, c3, i1, i2, i3, q1, t2, g0, c5', simprocAttr]
  ·rw [if_neg c5]
   have c5' : ¬ x.getD 0 0 > 5 := c5
   have t3 := fun H => W_back p H
   have t4 := fun H => body_spec (backI p) x hxb hx20 (by omega) H
   have hbo := bodyB_ok (backI p) (backI_i64 p) x hxb
   generalize bodyB (backI p) x = b at *
   generalize backI p = base at *
   have t5 := fun H => Bytes_spec b hbo H
   unfold Ba.V Ba.cs at *
   by_cases c6 : rightE b = 0
   ·rw [if_neg (by omega)]
    rw [c6] at t5
    simp only [if_true] at t5
    have q2 : (ints .u8 p).take (longB p).toNat = ints .u8 (p.take (longB p).toNat) := by rw [← List.map_take]
    have q3 : (ints .u8 (p.take (longB p).toNat)).drop 12 = ints .u8 (cutP p) := by unfold cutP; rw [← List.map_drop]
    have lb := baBytes_len (rightE_small c6)
    have t6 := fun H => equal_spec (baBytes b) (p.take (longB p).toNat) (by omega) H
    generalize p.take (longB p).toNat = y at *
    generalize baBytes b = z at *
    by_cases c7 : z = y
    ·rw [if_pos c7]
     rw [decide_eq_true c7] at t6
     generalize longB p = n at *
     generalize x.getD 0 0 = x0 at *
     refine W_fn rfl rfl ?_
     simp only [go_sem, c_batch_Read, t1, c1, c2, slM, slH, List.length_map, c3, i1, i2, i3, q2, q3, t2, g0, c5', t3, t4, t5, t6, under_rc, simprocAttr]
    ·rw [if_neg c7]
     rw [decide_eq_false c7] at t6
     simp only [zeroBa, List.map_nil]
     generalize longB p = n at *
     generalize x.getD 0 0 = x0 at *
     refine W_fn rfl rfl ?_
     simp only [go_sem, c_batch_Read, t1, c1, c2, slM, slH, List.length_map, c3, i1, i2, i3, q2, q3, t2, g0, c5', t3, t4, t5, t6, under_rc, simprocAttr]
   ·rw [if_pos c6]
    rw [if_neg c6] at t5
    simp only [zeroBa, List.map_nil]
    generalize longB p = n at *
    generalize x.getD 0 0 = x0 at *
    refine W_fn rfl rfl ?_
    simp only [go_sem, c_batch_Read, t1, c1, c2, slM, slH, List.length_map, c3, i1, i2, i3, q1, t2, g0, c5', t3, t4, t5, c6, under_rc, simprocAttr]
theorem or_comm64 (a b : Int) : bits .or .u64 a b = bits .or .u64 b a := by
 show IntKind.u64.wrap _ = IntKind.u64.wrap _
 rw [BitVec.or_comm]
theorem bk_step (x c : Int) (h0 : 0 ≤ x) (h1 : x < 72057594037927936) (c0 : 0 ≤ c) (c1 : c < 256) : bits .or .u64 (shl .u64 x 8) (IntKind.u64.wrap c) = x * 256 + c := by
 have e1 : shl .u64 x 8 = x * 256 := by
  unfold shl
  rw [Num.wu64]
  have : (2 : Int) ^ (min (8 : Int).toNat IntKind.u64.bits) = 256 := by decide
  rw [this]; omega
 have e2 : IntKind.u64.wrap c = c := by rw [Num.wu64]; omega
 rw [e1, e2, or_comm64, Num.or_u64 8 c (x * 256) c0 (by show c < 256; omega) (by omega) (by show x * 256 % 256 = 0; omega) (by omega) (by omega)]
 omega
theorem bk_bes (n : Int) : ∀ (d i : Nat), i + d = 8 → bk (bes n i) ((n / 2 ^ (8 * d)) % 2 ^ (8 * i)) = n % 18446744073709551616 := by
 intro d
 induction d with
 | zero =>
  intro i hi
  have : i = 8 := by omega
  subst this
  have : bes n 8 = [] := by simp [bes]
  rw [this, bk]
  simp
 | succ d ih =>
  intro i hi
  have hb : bes n i = be n i :: bes n (i + 1) := by
   unfold bes
   rw [List.drop_eq_getElem_cons (by simp; omega)]
   simp
  have hbe : be n i = (n / 2 ^ (8 * d)) % 256 := by unfold be; rw [show 7 - i = d by omega]
  have hp : (2 : Int) ^ (8 * (d + 1)) = 2 ^ (8 * d) * 256 := by rw [show 8 * (d + 1) = 8 * d + 8 by omega, Int.pow_add]; rfl
  have hp2 : (2 : Int) ^ (8 * (i + 1)) = 2 ^ (8 * i) * 256 := by rw [show 8 * (i + 1) = 8 * i + 8 by omega, Int.pow_add]; rfl
  have hpos : (0 : Int) < 2 ^ (8 * d) := Int.pow_pos (by decide)
  have hposi : (0 : Int) < 2 ^ (8 * i) := Int.pow_pos (by decide)
  have hle : (2 : Int) ^ (8 * i) ≤ 72057594037927936 := by
   have : (2 : Int) ^ (8 * i) ≤ 2 ^ 56 := by
    have h := Nat.pow_le_pow_right (n := 2) (by decide) (show 8 * i ≤ 56 by omega)
    have h2 : ((2 ^ (8 * i) : Nat) : Int) ≤ ((2 ^ 56 : Nat) : Int) := by omega
    simpa using h2
   exact this
  have hx0 := Int.emod_nonneg (n / 2 ^ (8 * (d + 1))) (by omega : (2 : Int) ^ (8 * i) ≠ 0)
  have hx1 := Int.emod_lt_of_pos (n / 2 ^ (8 * (d + 1))) hposi
  rw [hb, bk, hbe, bk_step _ _ hx0 (by omega) (by omega) (by omega)]
  have key : n / 2 ^ (8 * (d + 1)) % 2 ^ (8 * i) * 256 + n / 2 ^ (8 * d) % 256 = n / 2 ^ (8 * d) % 2 ^ (8 * (i + 1)) := by
   rw [hp, ← Int.ediv_ediv_of_nonneg (Int.le_of_lt hpos), hp2]
   generalize n / 2 ^ (8 * d) = m
   generalize (2 : Int) ^ (8 * i) = P at hposi
   have a1 : m = (m / 256 % P * 256 + m % 256) + P * 256 * (m / 256 / P) := by
    have b1 := Int.emod_add_mul_ediv m 256
    have b2 := Int.emod_add_mul_ediv (m / 256) P
    have b3 : P * 256 * (m / 256 / P) = (P * (m / 256 / P)) * 256 := by rw [Int.mul_assoc, Int.mul_comm 256, ← Int.mul_assoc]
    rw [b3]; omega
   have c1 := Int.emod_nonneg (m / 256) (by omega : P ≠ 0)
   have c2 := Int.emod_lt_of_pos (m / 256) hposi
   have a2 : m % (P * 256) = (m / 256 % P * 256 + m % 256) % (P * 256) := by
    conv => lhs; rw [a1]
    rw [Int.add_mul_emod_self_left]
   rw [a2, Int.emod_eq_of_lt (a := m / 256 % P * 256 + m % 256) (by omega) (by omega)]
  rw [key]
  exact ih (i + 1) (by omega)
theorem bk_bes0 (n : Int) (hn : I64 n) : IntKind.i64.wrap (bk (bes n 0) 0) = n := by
 have h := bk_bes n 8 0 rfl
 have e : n / 2 ^ (8 * 8) % 2 ^ (8 * 0) = 0 := by show n / 18446744073709551616 % 1 = 0; omega
 rw [e] at h
 rw [h, IntKind.wrap_i64]
 unfold I64 at hn
 omega
theorem backV_bes (n : Int) (hn : I64 n) (r : List Int) : backV (bes n 0 ++ r) = .tuple [.int .i64 n, .bool true] := by
 unfold backV
 have hl := bes_len n
 rw [if_neg (by rw [List.length_append]; omega), List.take_append_of_le_length (by omega), List.take_of_length_le (by omega), bk_bes0 n hn]
theorem backI_bes (n : Int) (hn : I64 n) (r : List Int) : backI (bes n 0 ++ r) = n := by
 have h := backV_bes n hn r
 rw [backV_eq] at h
 injection h with h
 injection h with h _
 injection h with _ h
theorem toS_txt (s : List UInt8) : toS (s.map fun b => (b.toNat : Int)) = s := by
 unfold toS
 rw [List.map_map]
 conv => rhs; rw [← List.map_id s]
 refine List.map_congr_left fun b _ => ?_
 simp
theorem cut_txt (s : List UInt8) (hs : s.length ≤ 64) (r : List Int) : cutS (txt s ++ r) 64 = (s, ((txt s).length : Int)) := by
 have hz := Num.zig_range (s.length : Int) (by omega)
 have hd := Vt.dec_enc (Num.zig s.length) hz.1 hz.2 ((s.map fun b => (b.toNat : Int)) ++ r)
 have hne := Vt.enc_ne 9 (Num.zig s.length)
 have hpos : 0 < (Vt.enc 9 (Num.zig s.length)).length := List.length_pos_iff.2 hne
 unfold cutS txt
 rw [List.append_assoc, hd]
 generalize Vt.enc 9 (Num.zig s.length) = E at *
 simp only [told, Num.zag_zig]
 rw [if_neg (by omega), if_neg (by omega), if_neg (by simp; omega)]
 have e1 : ((E.length : Int) + (s.length : Int)).toNat = E.length + s.length := by omega
 have e2 : ((E.length : Nat) : Int).toNat = E.length := by omega
 rw [e1, e2]
 have e3 : ((E ++ ((s.map fun b => (b.toNat : Int)) ++ r)).take (E.length + s.length)).drop E.length = s.map fun b => (b.toNat : Int) := by
  rw [List.take_append, List.drop_append]
  simp
 rw [e3, toS_txt]
 simp
theorem bodyR_rcs (x : List Int) (t : List Int) : ∀ (r : List Rc) (a : Nat), (∀ y ∈ r, y.1.length ≤ 64 ∧ y.2.length ≤ 64) → x.drop a = rcsB r ++ t → bodyR x r.length a = r
 | [], _, _, _ => rfl
 | y :: r, a, h, hx => by
  have hy := h y List.mem_cons_self
  have e1 : x.drop a = txt y.1 ++ (txt y.2 ++ (rcsB r ++ t)) := by rw [hx]; simp [rcsB, rcB]
  have e2 : x.drop (a + (txt y.1).length) = txt y.2 ++ (rcsB r ++ t) := by
   rw [← List.drop_drop, e1]; simp
  have e3 : x.drop (a + (txt y.1).length + (txt y.2).length) = rcsB r ++ t := by
   rw [← List.drop_drop, e2]; simp
  have c1 : cutS (x.drop a) 64 = (y.1, ((txt y.1).length : Int)) := by rw [e1]; exact cut_txt y.1 hy.1 _
  have c2 : cutS (x.drop (a + (txt y.1).length)) 64 = (y.2, ((txt y.2).length : Int)) := by rw [e2]; exact cut_txt y.2 hy.2 _
  show bodyR x (r.length + 1) a = _
  unfold bodyR
  rw [c1]
  simp only [Int.toNat_natCast]
  rw [c2]
  simp only [Int.toNat_natCast]
  rw [bodyR_rcs x t r _ (fun z hz => h z (List.mem_cons_of_mem _ hz)) e3]
theorem bes_list (n : Int) : bes n 0 = [be n 0, be n 1, be n 2, be n 3, be n 4, be n 5, be n 6, be n 7] := rfl
structure RtB (b : Ba) : Prop where
 base : 0 ≤ b.base ∧ b.base ≤ 1099511627776
 mark : b.mark = 0 ∨ b.mark = 1 ∨ b.mark = 2
 epoch : -1 ≤ b.epoch ∧ b.epoch ≤ 32767
 small : SmallR b.recs
theorem right_rt {b : Ba} (h : rightE b = 0) : RtB b := by
 have hs := rightE_small h
 unfold rightE at h
 split at h
 ·cases h
 ·rename_i hb
  split at h
  ·rename_i hm
   refine ⟨by omega, .inl hm, ?_, hs⟩
   unfold dataE at h
   split at h
   ·cases h
   ·rename_i hc
    cases hn : noneB b with
    | true =>
     unfold noneB at hn
     simp only [Bool.and_eq_true, decide_eq_true_eq] at hn
     omega
    | false =>
     cases hna : namedB b with
     | true =>
      unfold namedB at hna
      simp only [Bool.and_eq_true, decide_eq_true_eq] at hna
      omega
     | false => rw [hn, hna] at hc; exact absurd rfl hc
  ·split at h
   ·cases h
   ·rename_i hm hc
    unfold markE at hc
    simp only [Bool.or_eq_true, Bool.and_eq_true, decide_eq_true_eq, Bool.not_eq_true', not_or] at hc
    obtain ⟨h1, h2, h3, h4, h5⟩ := hc
    refine ⟨by omega, by omega, ?_, hs⟩
    have h2' : namedB b = true := by cases hx : namedB b with
     | true => rfl
     | false => exact absurd hx h2
    unfold namedB at h2'
    simp only [Bool.and_eq_true, decide_eq_true_eq] at h2'
    omega
theorem flagI_eq {b : Ba} (h : b.mark = 0 ∨ b.mark = 1 ∨ b.mark = 2) : flagI b = 2 * b.mark + (if b.txn then 1 else 0) := by
 have e : flag0 b = 2 * b.mark := by
  unfold flag0
  rw [wrap_id (by unfold I64; omega), Num.wu8]; omega
 unfold flagI
 rw [e]
 split
 ·rw [Num.wu8]; omega
 ·omega
theorem head_drop (b : Ba) (t : List Int) : (headI b ++ t).drop 20 = t := by
 rw [List.drop_append_of_le_length (by rw [headI_len]; exact Nat.le_refl _), List.drop_of_length_le (by rw [headI_len]; exact Nat.le_refl _), List.nil_append]
theorem body_self {b : Ba} (hb : BOK b) (h : rightE b = 0) : bodyB b.base (inner b) = b := by
 have hr := right_rt h
 have e0 : (inner b).getD 0 0 = flagI b := rfl
 have e9 : (inner b).getD 9 0 = b.epoch / 256 % 256 := rfl
 have e10 : (inner b).getD 10 0 = b.epoch % 256 := rfl
 have e19 : (inner b).getD 19 0 = (b.recs.length : Int) % 256 := rfl
 have d1 : (inner b).drop 1 = bes b.prod 0 ++ ([b.epoch / 256 % 256, b.epoch % 256] ++ bes b.seq 0 ++ [(b.recs.length : Int) % 256] ++ rcsB b.recs) := rfl
 have d11 : (inner b).drop 11 = bes b.seq 0 ++ ([(b.recs.length : Int) % 256] ++ rcsB b.recs) := rfl
 have d20 : (inner b).drop 20 = rcsB b.recs ++ [] := by rw [List.append_nil]; exact head_drop b _
 have hs := hr.small
 have e19' : ((b.recs.length : Int) % 256).toNat = b.recs.length := by have := hs.1; omega
 unfold bodyB
 rw [e0, e9, e10, e19, d1, d11, backI_bes _ hb.prod, backI_bes _ hb.seq, e19', bodyR_rcs (inner b) [] b.recs 20 hs.2 d20, flagI_eq hr.mark]
 have he := hr.epoch
 have ep : epochOf (b.epoch / 256 % 256) (b.epoch % 256) = b.epoch := by unfold epochOf; split <;> omega
 rw [ep]
 have hm := hr.mark
 obtain ⟨base, prod, epoch, seq, txn, mark, recs⟩ := b
 simp only at hm ⊢
 have m1 : (2 * mark + (if txn = true then 1 else 0)) / 2 = mark := by split <;> omega
 have m2 : decide ((2 * mark + (if txn = true then 1 else 0)) % 2 = 1) = txn := by
  cases txn with
  | true => rw [if_pos rfl]; exact decide_eq_true (by omega)
  | false => rw [if_neg (by decide)]; exact decide_eq_false (by omega)
 rw [m1, m2]
theorem num4_be4 (n : Int) (h0 : 0 ≤ n) (h1 : n < 4294967296) : num4 (n / 16777216 % 256) (n / 65536 % 256) (n / 256 % 256) (n % 256) = n := by unfold num4; omega
theorem sealed_len (b : Ba) : (sealedI b).length = 4 + (inner b).length := by simp [sealedI, le4]; omega
theorem baBytes_len' (b : Ba) : (baBytes b).length = 12 + (sealedI b).length := by simp [baBytes, be4, bes_len]; omega
theorem inner_len20 (b : Ba) : 20 ≤ (inner b).length := by unfold inner; rw [List.length_append, headI_len]; omega
theorem long_self {b : Ba} (h : (sealedI b).length < 4294967296) (r : List Int) : longB (baBytes b ++ r) = ((baBytes b).length : Int) := by
 have hl := baBytes_len' b
 unfold longB
 rw [if_neg (by rw [List.length_append]; omega)]
 have e8 : (baBytes b ++ r).getD 8 0 = ((sealedI b).length : Int) / 16777216 % 256 := rfl
 have e9 : (baBytes b ++ r).getD 9 0 = ((sealedI b).length : Int) / 65536 % 256 := rfl
 have e10 : (baBytes b ++ r).getD 10 0 = ((sealedI b).length : Int) / 256 % 256 := rfl
 have e11 : (baBytes b ++ r).getD 11 0 = ((sealedI b).length : Int) % 256 := rfl
 rw [e8, e9, e10, e11, num4_be4 _ (by omega) (by omega)]
 omega
theorem toN_byte {l : List Int} (h : ∀ x ∈ l, 0 ≤ x ∧ x < 256) : ∀ x ∈ toN l, x < 256 := by
 intro x hx
 unfold toN at hx
 rw [List.mem_map] at hx
 obtain ⟨y, hy, rfl⟩ := hx
 have := h y hy
 omega
theorem chk_self {b : Ba} (h : SmallR b.recs) : chkOK (sealedI b) = true ∧ (sealedI b).drop 4 = inner b := by
 have d : (sealedI b).drop 4 = inner b := rfl
 refine ⟨?_, d⟩
 have hlt := crcN_lt (toN (inner b)) (toN_byte (inner_bytes h))
 unfold chkOK
 rw [d, decide_eq_true (by rw [sealed_len]; omega), Bool.true_and]
 refine decide_eq_true ?_
 have e0 : (sealedI b).getD 0 0 = ((crcN (toN (inner b)) : Nat) : Int) % 256 := rfl
 have e1 : (sealedI b).getD 1 0 = ((crcN (toN (inner b)) : Nat) : Int) / 256 % 256 := rfl
 have e2 : (sealedI b).getD 2 0 = ((crcN (toN (inner b)) : Nat) : Int) / 65536 % 256 := rfl
 have e3 : (sealedI b).getD 3 0 = ((crcN (toN (inner b)) : Nat) : Int) / 16777216 % 256 := rfl
 unfold sum4
 rw [e0, e1, e2, e3]
 generalize crcN (toN (inner b)) = n at *
 omega
theorem read_self {b : Ba} (hb : BOK b) (h : rightE b = 0) (r : List Int) : readB (baBytes b ++ r) = (b, ((baBytes b).length : Int), 0) := by
 have hr := right_rt h
 have hl := baBytes_len hr.small
 have hl' := baBytes_len' b
 have hs := sealed_len b
 have hi := inner_len20 b
 have hlong := long_self (b := b) (by omega) r
 have ht : (baBytes b ++ r).take (baBytes b).length = baBytes b := by simp
 have hc : cutP (baBytes b ++ r) = sealedI b := by
  unfold cutP
  rw [hlong, Int.toNat_natCast, ht]
  rfl
 obtain ⟨k1, k2⟩ := chk_self hr.small
 have hbk : backI (baBytes b ++ r) = b.base := by
  unfold baBytes
  rw [List.append_assoc, List.append_assoc]
  exact backI_bes _ hb.base _
 have e0 : (inner b).getD 0 0 = flagI b := rfl
 unfold readB
 rw [hc, k1, k2, hlong, hbk, body_self hb h, e0, flagI_eq hr.mark, Int.toNat_natCast, ht]
 have hm := hr.mark
 rw [if_neg (by omega), if_neg (by omega), if_neg (by rw [List.length_append]; omega), if_neg (by decide), if_neg (by split <;> omega), if_neg (by omega), if_pos rfl]
theorem sealed_bytes {b : Ba} (h : SmallR b.recs) : ∀ x ∈ sealedI b, 0 ≤ x ∧ x < 256 := by
 intro x hx
 unfold sealedI at hx
 rcases List.mem_append.1 hx with hx | hx
 ·simp only [le4, List.mem_cons, List.not_mem_nil, or_false] at hx
  rcases hx with rfl | rfl | rfl | rfl <;> omega
 ·exact inner_bytes h x hx
theorem baBytes_bytes {b : Ba} (h : SmallR b.recs) : ∀ x ∈ baBytes b, 0 ≤ x ∧ x < 256 := by
 intro x hx
 unfold baBytes at hx
 rcases List.mem_append.1 hx with hx | hx
 ·rcases List.mem_append.1 hx with hx | hx
  ·exact bes_bytes _ x hx
  ·simp only [be4, List.mem_cons, List.not_mem_nil, or_false] at hx
   rcases hx with rfl | rfl | rfl | rfl <;> omega
 ·exact sealed_bytes h x hx
theorem eq_rc (x y : Rc) : eqCells [.str, .str] [.str x.1, .str x.2] [.str y.1, .str y.2] = some (decide (x = y)) := by
 obtain ⟨a, b⟩ := x
 obtain ⟨c, d⟩ := y
 simp only [eqCells, Option.map_some, Bool.and_true, Prod.mk.injEq]
 congr 1
 by_cases h1 : a = c <;> by_cases h2 : b = d <;> simp [h1, h2]
theorem recs_loop6 (l m : List Rc) (hm : l.length = m.length) (hn : l.length ≤ 9223372036854775807) (H : Heap) (r : List Rc) : ∀ (s : List Rc) (p q : List Rc), l = p ++ r → m = q ++ s → p = q →
  loopA W loopW (.ghost (.kill k_ref6_Recs_0) l_ref6_Recs_0) [(0, .list 2 (l.map rcV) .ro), (1, .list 2 (m.map rcV) .ro), (12, .int .i64 (l.length : Nat)), (13, .int .i64 (p.length : Nat))] H =
   if r = s then some (.exit 0, [], H) else some (.ret, [(4, .bool false)], H) := by
 induction r with
 | nil =>
  intro s p q hp hq hpq
  have hs : s = [] := by
   subst hpq
   rw [hp, hq, List.append_nil, List.length_append] at hm
   exact List.eq_nil_of_length_eq_zero (by omega)
  rw [if_pos hs.symm]
  have h1 : ¬ ((p.length : Int) < (l.length : Int)) := by rw [hp]; simp
  refine loop_step l_ref6_Recs_0.eq_1 k_ref6_Recs_0.eq_1 (by kernel_rfl) ?_
  simp only [go_sem, h1, simprocAttr]
 | cons x r ih =>
  intro s p q hp hq hpq
  cases s with
  | nil =>
   subst hpq
   rw [hp, hq, List.append_nil, List.length_append] at hm
   simp at hm
  | cons y s =>
   have h1 : ((p.length : Int) < (l.length : Int)) := by rw [hp]; simp; omega
   have e0 : (0 : Int) ≤ (p.length : Int) := by omega
   have e7 : ((p.length : Nat) : Int).toNat = p.length := by omega
   have e1 : (l.map rcV)[p.length]? = some (.agg [.str x.1, .str x.2]) := by rw [hp]; simp [rcV]
   have e2 : (m.map rcV)[p.length]? = some (.agg [.str y.1, .str y.2]) := by rw [hq, hpq]; simp [rcV]
   have hlen : l.length = p.length + (r.length + 1) := by rw [hp]; simp
   have e6 : IntKind.i64.wrap ((p.length : Int) + 1) = ((p.length + 1 : Nat) : Int) := by rw [wrap_id (by unfold I64; omega)]; omega
   have hq' := eq_rc x y
   by_cases c : x = y
   ·rw [decide_eq_true c] at hq'
    have h2 := ih s (p ++ [x]) (q ++ [y]) (by rw [hp]; simp) (by rw [hq]; simp) (by rw [hpq, c])
    simp only [List.length_append, List.length_cons, List.length_nil, Nat.zero_add] at h2
    have e9 : ((x :: r) = (y :: s)) = (r = s) := by simp [c]
    simp only [e9]
    by_cases c2 : r = s
    ·simp only [c2, if_true] at h2 ⊢
     refine loop_step l_ref6_Recs_0.eq_1 k_ref6_Recs_0.eq_1 (by kernel_rfl) ?_
     simp only [go_sem, h1, e0, e7, e1, e2, hq', e6, simprocAttr]
     exact h2
    ·simp only [c2, if_false] at h2 ⊢
     refine loop_step l_ref6_Recs_0.eq_1 k_ref6_Recs_0.eq_1 (by kernel_rfl) ?_
     simp only [go_sem, h1, e0, e7, e1, e2, hq', e6, simprocAttr]
     exact h2
   ·rw [decide_eq_false c] at hq'
    rw [if_neg (by simp [c])]
    refine loop_step l_ref6_Recs_0.eq_1 k_ref6_Recs_0.eq_1 (by kernel_rfl) ?_
    simp only [go_sem, h1, e0, e7, e1, e2, hq', simprocAttr]
theorem recs_spec6 (l m : List Rc) (hn : l.length ≤ 9223372036854775807) (H : Heap) : W n_ref6_Recs [.list 2 (l.map rcV) .ro, .list 2 (m.map rcV) .ro] H = some (.bool (decide (l = m)), H) := by
 by_cases c : l.length = m.length
 ·have h := recs_loop6 l m c hn H l m [] [] rfl rfl rfl
  simp only [List.length_nil, Int.natCast_zero] at h
  have c' : (l.length : Int) = (m.length : Int) := by omega
  by_cases d : l = m
  ·rw [if_pos d] at h
   rw [decide_eq_true d]
   refine W_fn0 rfl rfl ?_
   simp only [go_sem, trim_same, c_ref6_Recs, List.length_map, eq_true c', h, simprocAttr]
   first | done | rfl
  ·rw [if_neg d] at h
   rw [decide_eq_false d]
   refine W_fn0 rfl rfl ?_
   simp only [go_sem, trim_same, c_ref6_Recs, List.length_map, eq_true c', h, simprocAttr]
   first | done | rfl
 ·have d : ¬ l = m := fun h => c (by rw [h])
  have c' : ¬ (l.length : Int) = (m.length : Int) := by omega
  rw [decide_eq_false d]
  refine W_fn0 rfl rfl ?_
  simp only [go_sem, trim_same, c_ref6_Recs, List.length_map, c', simprocAttr]
def sameB (a b : Ba) : Bool :=
 decide (a.base = b.base) && (decide (a.prod = b.prod) && (decide (a.epoch = b.epoch) && (decide (a.seq = b.seq) && ((a.txn == b.txn) && (decide (a.mark = b.mark) && decide (a.recs = b.recs))))))
theorem sameB_self (b : Ba) : sameB b b = true := by simp [sameB]
theorem same_spec6 (a b : Ba) (hn : a.recs.length ≤ 9223372036854775807) (H : Heap) : W n_ref6_Same [a.V, b.V] H = some (.bool (sameB a b), H) := by
 have t := fun H => recs_spec6 a.recs b.recs hn H
 unfold sameB Ba.V Ba.cs
 by_cases c1 : a.base = b.base
 ·by_cases c2 : a.prod = b.prod
  ·by_cases c3 : a.epoch = b.epoch
   ·by_cases c4 : a.seq = b.seq
    ·cases c5 : a.txn == b.txn with
     | true =>
      by_cases c6 : a.mark = b.mark
      ·simp only [c1, c2, c3, c4, c6, decide_true, Bool.true_and]
       refine W_fn rfl rfl ?_
       simp only [go_sem, c_ref6_Same, eq_true c1, eq_true c2, eq_true c3, eq_true c4, c5, eq_true c6, t, simprocAttr]
      ·simp only [c1, c2, c3, c4, c6, decide_true, decide_false, Bool.true_and, Bool.false_and]
       refine W_fn rfl rfl ?_
       simp only [go_sem, c_ref6_Same, eq_true c1, eq_true c2, eq_true c3, eq_true c4, c5, c6, simprocAttr]
     | false =>
      simp only [c1, c2, c3, c4, decide_true, decide_false, Bool.true_and, Bool.false_and]
      refine W_fn rfl rfl ?_
      simp only [go_sem, c_ref6_Same, eq_true c1, eq_true c2, eq_true c3, eq_true c4, c5, simprocAttr]
    ·simp only [c1, c2, c3, c4, decide_true, decide_false, Bool.true_and, Bool.false_and]
     refine W_fn rfl rfl ?_
     simp only [go_sem, c_ref6_Same, eq_true c1, eq_true c2, eq_true c3, c4, simprocAttr]
   ·simp only [c1, c2, c3, decide_true, decide_false, Bool.true_and, Bool.false_and]
    refine W_fn rfl rfl ?_
    simp only [go_sem, c_ref6_Same, eq_true c1, eq_true c2, c3, simprocAttr]
  ·simp only [c1, c2, decide_true, decide_false, Bool.true_and, Bool.false_and]
   refine W_fn rfl rfl ?_
   simp only [go_sem, c_ref6_Same, eq_true c1, c2, simprocAttr]
 ·simp only [c1, decide_false, Bool.false_and]
  refine W_fn rfl rfl ?_
  simp only [go_sem, c_ref6_Same, c1, simprocAttr]
theorem size_spec6 (b : Ba) (h : BOK b) (H : Heap) : W n_batch_Size [b.V] H = some (.int .i64 (sizeE b), H) := by
 have tb := fun H => Bytes_spec b h H
 unfold sizeE
 unfold Ba.V Ba.cs at tb ⊢
 by_cases c : rightE b = 0
 ·rw [if_pos c]
  rw [c, if_pos rfl] at tb
  refine W_fn rfl rfl ?_
  simp only [go_sem, c_batch_Size, tb, List.length_map, simprocAttr]
 ·rw [if_neg c]
  rw [if_neg c] at tb
  refine W_fn rfl rfl ?_
  simp only [go_sem, c_batch_Size, tb, List.length_nil, simprocAttr]
  first | done | rfl
theorem ref_back_loop (l : List Int) (H : Heap) (r q : List Int) : ∀ (p : List Int) (x : Int), l = p ++ r ++ q → p.length + r.length = 8 →
  loopA W loopW (.ghost (.kill k_ref1_Back_0) l_ref1_Back_0) [(0, bytes l .ro), (4, .int .u64 x), (5, .int .i64 (p.length : Int))] H = some (.exit 0, [(4, .int .u64 (bk r x))], H) := by
 induction r with
 | nil =>
  intro p x hp hl
  have h1 : ¬ ((p.length : Int) < 8) := by simp at hl; omega
  refine loop_step l_ref1_Back_0.eq_1 k_ref1_Back_0.eq_1 (by kernel_rfl) ?_
  simp only [go_sem, trim_same, h1, bk, simprocAttr]
 | cons c r ih =>
  intro p x hp hl
  have h1 : (p.length : Int) < 8 := by simp at hl; omega
  have h2 : (0 : Int) ≤ (p.length : Int) := by omega
  have h3 := ints_at (k := .u8) (l := l) (p := p) (c := c) (r := r ++ q) (by rw [hp]; simp) rfl
  have e8 : IntKind.i64.wrap ((p.length : Int) + 1) = ((p.length + 1 : Nat) : Int) := by rw [wrap_id (by unfold I64; omega)]; omega
  have hn := ih (p ++ [c]) (bits .or .u64 (shl .u64 x 8) (IntKind.u64.wrap c)) (by rw [hp]; simp) (by simp at hl ⊢; omega)
  rw [show (p ++ [c]).length = p.length + 1 by simp] at hn
  refine loop_step l_ref1_Back_0.eq_1 k_ref1_Back_0.eq_1 (by kernel_rfl) ?_
  simp only [go_sem, trim_same, h1, h2, h3, e8, simprocAttr]
  exact hn
theorem ref_back_spec (l : List Int) (H : Heap) : W n_ref1_Back [bytes l .ro] H = some (backV l, H) := by
 refine W_fn0 rfl rfl ?_
 have e3 : (ints .u8 l).length = l.length := by simp
 unfold backV
 by_cases h : l.length < 8
 ·rw [if_pos h]
  have h1 : (l.length : Int) < 8 := by omega
  simp only [go_sem, trim_same, c_ref1_Back, e3, h1, simprocAttr]
 ·rw [if_neg h]
  have h1 : ¬ ((l.length : Int) < 8) := by omega
  have h8 : (l.take 8).length = 8 := by rw [List.length_take]; omega
  have hl := ref_back_loop l H (l.take 8) (l.drop 8) [] 0 (by simp) (by simpa using h8)
  simp only [List.length_nil, Int.natCast_zero] at hl
  simp only [go_sem, trim_same, c_ref1_Back, e3, h1, hl, simprocAttr]
theorem ref_get_loop (l : List Int) (hb : Bytes l) (hl : l.length < 140737488355328) (H : Heap) (r : List Int) : ∀ (p : List Int) (u : Int), l = p ++ r → (∀ x ∈ p, 128 ≤ x ∧ x < 256) → p.length ≤ 10 → (p.length ≤ 9 → u = Vt.val p) →
  loopA W loopW (.ghost (.kill k_ref1_Get_0) l_ref1_Get_0) [(0, bytes l .ro), (4, .int .u64 u), (5, .int .i64 (p.length : Int))] H =
   some (.ret, [(2, .int .i64 (told (Vt.dec r p.length (Vt.val p))).1), (3, .int .i64 (told (Vt.dec r p.length (Vt.val p))).2)], H) ∨
  (loopA W loopW (.ghost (.kill k_ref1_Get_0) l_ref1_Get_0) [(0, bytes l .ro), (4, .int .u64 u), (5, .int .i64 (p.length : Int))] H = some (.exit 0, [], H) ∧ told (Vt.dec r p.length (Vt.val p)) = (0, 0)) := by
 have e3 : (ints .u8 l).length = l.length := by simp
 induction r with
 | nil =>
  intro p u hp hc h10 hu
  have hlen : l.length = p.length := by rw [hp, List.append_nil]
  right
  refine ⟨loop_step l_ref1_Get_0.eq_1 k_ref1_Get_0.eq_1 (by kernel_rfl) ?_, rfl⟩
  have h1 : ¬ ((p.length : Int) < (l.length : Int)) := by omega
  simp only [go_sem, trim_same, h1, e3, simprocAttr]
 | cons c r ih =>
  intro p u hp hpc h10 hu
  have hlen : l.length = p.length + (r.length + 1) := by rw [hp, List.length_append, List.length_cons]
  have hc := hb c (by rw [hp]; simp)
  have h0 : (p.length : Int) < (l.length : Int) := by omega
  by_cases hi : p.length ≥ 10
  ·right
   rw [Vt.dec, if_pos hi]
   refine ⟨loop_step l_ref1_Get_0.eq_1 k_ref1_Get_0.eq_1 (by kernel_rfl) ?_, rfl⟩
   have h1 : ¬ ((p.length : Int) < 10) := by omega
   simp only [go_sem, trim_same, h0, h1, e3, simprocAttr]
  ·have h1 : (p.length : Int) < 10 := by omega
   have h2 : (0 : Int) ≤ (p.length : Int) := by omega
   have h3 := ints_at (k := .u8) hp rfl
   have e1 := Num.and127_u8 c hc.1 hc.2
   have e2 : IntKind.u64.wrap (c % 128) = c % 128 := by rw [Num.wu64]; omega
   have e4 : IntKind.u64.wrap (IntKind.i64.wrap (7 * (p.length : Int))) = (p.length : Int) * 7 := by rw [wrap_id (by unfold I64; omega), Num.wu64]; omega
   have e4' : (0 : Int) ≤ (p.length : Int) * 7 := by omega
   have e5 := shl7 p.length (by omega) (c % 128)
   have hv0 := Vt.val_nonneg p
   have hv1 := Vt.val_lt p
   have hu' := hu (by omega)
   subst hu'
   have hj := joins p.length (by omega) (Vt.val p) (c % 128) hv0 hv1 (by omega) (by omega)
   have e6 := hj.1
   have e8 : IntKind.i64.wrap ((p.length : Int) + 1) = ((p.length + 1 : Nat) : Int) := by rw [wrap_id (by unfold I64; omega)]; omega
   have hl1 : ((p.length + 1 : Nat) : Int) = (p.length : Int) + 1 := by omega
   by_cases h128 : c < 128
   ·have e128 : c % 128 = c := by omega
    rw [e128] at e6
    have hr : 0 ≤ (Vt.val p + 128 ^ p.length * c) % 18446744073709551616 ∧ (Vt.val p + 128 ^ p.length * c) % 18446744073709551616 < 18446744073709551616 := by omega
    have hz := zag_own' _ hr.1 hr.2
    have hzr : I64 _ := Num.zag_range _ hr
    have hput := ref_put_spec [] _ H .ro (.inl rfl) hzr (by simp)
    rw [List.nil_append, Num.zig_zag _ hr.1] at hput
    change W n_ref1_Put [.list 1 [] .ro, _] H = _ at hput
    have htk : (ints .u8 l).take ((p.length + 1 : Nat) : Int).toNat = ints .u8 (p ++ [c]) := by
     rw [Int.toNat_natCast, ← List.map_take, hp, List.take_append, List.take_of_length_le (by omega), Nat.add_sub_cancel_left]; rfl
    have h5 : (((p.length + 1 : Nat) : Int)) ≤ (l.length : Int) := by omega
    have h6 : (0 : Int) ≤ ((p.length + 1 : Nat) : Int) := by omega
    have hd := Vt.dec_last p c r hpc (by omega) hc.1 h128 _ rfl
    have hbp : Bytes (p ++ [c]) := bytes_app (fun x hx => ⟨by have := hpc x hx; omega, (hpc x hx).2⟩) (fun x hx => by rw [List.mem_singleton] at hx; omega)
    have hbe : Bytes (Vt.enc 9 ((Vt.val p + 128 ^ p.length * c) % 18446744073709551616)) := Vt.enc_bytes 9 _ hr.1 (Int.lt_trans hr.2 (by decide))
    rw [e128] at e1 e2 e5
    left
    by_cases he : Vt.enc 9 ((Vt.val p + 128 ^ p.length * c) % 18446744073709551616) = p ++ [c]
    ·have hq : (toS (Vt.enc 9 ((Vt.val p + 128 ^ p.length * c) % 18446744073709551616)) == toS (p ++ [c])) = true := by rw [he]; simp
     rw [hd.1 he]
     refine loop_step l_ref1_Get_0.eq_1 k_ref1_Get_0.eq_1 (by kernel_rfl) ?_
     simp only [go_sem, trim_same, h0, h1, h2, h3, e1, e2, e3, e4, e4', e5, e6, e8, h128, hz, hput, sl_hi, h5, h6, htk, hq, told, simprocAttr]
    ·have hq : (toS (Vt.enc 9 ((Vt.val p + 128 ^ p.length * c) % 18446744073709551616)) == toS (p ++ [c])) = false := by
      simp only [beq_eq_false_iff_ne]; exact fun h => he (toS_inj hbe hbp h)
     rw [hd.2 he]
     refine loop_step l_ref1_Get_0.eq_1 k_ref1_Get_0.eq_1 (by kernel_rfl) ?_
     simp only [go_sem, trim_same, h0, h1, h2, h3, e1, e2, e3, e4, e4', e5, e6, e8, h128, hz, hput, sl_hi, h5, h6, htk, hq, told, simprocAttr]
   ·have hnx := ih (p ++ [c]) ((Vt.val p + 128 ^ p.length * (c % 128)) % 18446744073709551616) (by rw [hp, List.append_assoc]; rfl) (fun x hx => (List.mem_append.1 hx).elim (hpc x) (fun h => by rw [List.mem_singleton] at h; omega)) (by simp only [List.length_append, List.length_cons, List.length_nil]; omega) (by
     intro h
     rw [List.length_append, List.length_cons, List.length_nil] at h
     have hval : Vt.val (p ++ [c]) = Vt.val p + 128 ^ p.length * (c % 128) := by rw [Vt.val_append]; simp only [Vt.val]; congr 1; congr 1; omega
     rw [hval]
     have := hj.2.1 (by omega)
     have h3 : 0 ≤ 128 ^ p.length * (c % 128) := Int.mul_nonneg (Int.le_of_lt (Vt.pow_pos _)) (by omega)
     omega)
    rw [show (p ++ [c]).length = p.length + 1 by simp] at hnx
    have hval : Vt.val (p ++ [c]) = Vt.val p + 128 ^ p.length * (c % 128) := by rw [Vt.val_append]; simp only [Vt.val]; congr 1; congr 1; omega
    rw [hval] at hnx
    have step : ∀ q, loopA W loopW (.ghost (.kill k_ref1_Get_0) l_ref1_Get_0) [(0, bytes l .ro), (4, .int .u64 ((Vt.val p + 128 ^ p.length * (c % 128)) % 18446744073709551616)), (5, .int .i64 ((p.length + 1 : Nat) : Int))] H = some q →
      loopA W loopW (.ghost (.kill k_ref1_Get_0) l_ref1_Get_0) [(0, bytes l .ro), (4, .int .u64 (Vt.val p)), (5, .int .i64 (p.length : Int))] H = some q := by
     intro q hq
     refine loop_step l_ref1_Get_0.eq_1 k_ref1_Get_0.eq_1 (by kernel_rfl) ?_
     simp only [go_sem, trim_same, h0, h1, h2, h3, e1, e2, e3, e4, e4', e5, e6, e8, h128, simprocAttr]
     exact hq
    rw [Vt.dec, if_neg hi]
    by_cases h9 : p.length = 9 ∧ c % 128 ≥ 2
    ·rw [if_pos h9]
     have hn : Vt.dec r (p.length + 1) (Vt.val p + 128 ^ p.length * (c % 128)) = none := by
      rw [h9.1]
      cases r with
      | nil => rfl
      | cons y r => rw [Vt.dec, if_pos (by decide)]
     rw [hn] at hnx
     rcases hnx with hn | ⟨hn, ht⟩
     ·exact .inl (step _ hn)
     ·exact .inr ⟨step _ hn, rfl⟩
    ·rw [if_neg h9, if_pos (by omega)]
     rcases hnx with hn | ⟨hn, ht⟩
     ·exact .inl (step _ hn)
     ·exact .inr ⟨step _ hn, ht⟩
theorem ref_get_spec (l : List Int) (H : Heap) (hb : Bytes l) (hl : l.length < 140737488355328) : W n_ref1_Get [bytes l .ro] H = some (.tuple [.int .i64 (told (Vt.dec l 0 0)).1, .int .i64 (told (Vt.dec l 0 0)).2], H) := by
 refine W_fn0 rfl rfl ?_
 have e0 : Vt.val [] = 0 := rfl
 rcases ref_get_loop l hb hl H l [] 0 rfl (by simp) (by simp) (fun _ => rfl) with h | ⟨h, ht⟩
 ·simp only [List.length_nil, Int.natCast_zero, e0] at h
  simp only [go_sem, trim_same, c_ref1_Get, h, simprocAttr]
 ·simp only [List.length_nil, Int.natCast_zero, e0] at h ht
  rw [ht]
  simp only [go_sem, trim_same, c_ref1_Get, h, simprocAttr]
theorem ref_cut_spec (l : List Int) (a : Int) (H : Heap) (hb : Bytes l) (hl : l.length < 140737488355328) : W n_ref1_Cut [bytes l .ro, .int .i64 a] H = some (.tuple [.str (cutS l a).1, .int .i64 (cutS l a).2], H) := by
 have hg := ref_get_spec l H hb hl
 have hr := told_range l
 have e3 : (ints .u8 l).length = l.length := by simp
 refine W_fn0 rfl rfl ?_
 unfold cutS
 generalize told (Vt.dec l 0 0) = g at *
 obtain ⟨n, k⟩ := g
 simp only at hg hr ⊢
 by_cases h1 : k = 0
 ·rw [if_pos h1]
  simp only [go_sem, trim_same, c_ref1_Cut, hg, h1, e3, simprocAttr]
 ·rw [if_neg h1]
  by_cases h2 : n < 0
  ·rw [if_pos h2]
   simp only [go_sem, trim_same, c_ref1_Cut, hg, h1, h2, e3, simprocAttr]
  ·rw [if_neg h2]
   have e1 : IntKind.i64.wrap ((l.length : Int) - k) = (l.length : Int) - k := wrap_id (by unfold I64; omega)
   by_cases h3 : n > a
   ·rw [if_pos (.inl h3)]
    simp only [go_sem, trim_same, c_ref1_Cut, hg, h1, h2, h3, e1, e3, simprocAttr]
   ·by_cases h4 : n > (l.length : Int) - k
    ·rw [if_pos (.inr h4)]
     simp only [go_sem, trim_same, c_ref1_Cut, hg, h1, h2, h3, h4, e1, e3, simprocAttr]
    ·rw [if_neg (show ¬ (n > a ∨ n > (l.length : Int) - k) by omega)]
     have e2 : IntKind.i64.wrap (k + n) = k + n := wrap_id (by unfold I64; omega)
     have h5 : 0 ≤ k := hr.1
     have h6 : k ≤ k + n := by omega
     have h7 : k + n ≤ (l.length : Int) := by omega
     have e4 : ((ints .u8 l).take (k + n).toNat).drop k.toNat = ints .u8 ((l.take (k + n).toNat).drop k.toNat) := by rw [← List.map_take, ← List.map_drop]
     simp only [go_sem, trim_same, c_ref1_Cut, hg, h1, h2, h3, h4, e1, e2, e3, sl_mid, h5, h6, h7, e4, simprocAttr]
def sealOf (x : List Int) : List Int := le4 (crcN (toN x) : Nat) ++ x
def unsOK (p : List Int) : Bool := decide (4 ≤ p.length) && decide (sealOf (p.drop 4) = p)
theorem sealOf_bytes {x : List Int} (h : ∀ c ∈ x, 0 ≤ c ∧ c < 256) : ∀ c ∈ sealOf x, 0 ≤ c ∧ c < 256 := by
 intro c hc
 unfold sealOf at hc
 rcases List.mem_append.1 hc with hc | hc
 ·simp only [le4, List.mem_cons, List.not_mem_nil, or_false] at hc
  rcases hc with rfl | rfl | rfl | rfl <;> omega
 ·exact h c hc
theorem toS_beq {x y : List Int} (hx : ∀ c ∈ x, 0 ≤ c ∧ c < 256) (hy : ∀ c ∈ y, 0 ≤ c ∧ c < 256) : (toS x == toS y) = decide (x = y) := by
 by_cases h : x = y
 ·rw [h]; simp
 ·have : ¬ toS x = toS y := fun e => h (toS_inj hx hy e)
  rw [beq_eq_false_iff_ne.2 this, decide_eq_false h]
theorem unseal_spec (p : List Int) (hp : ∀ x ∈ p, 0 ≤ x ∧ x < 256) (hl : p.length ≤ 100000) (H : Heap) :
  W n_ref1_Unseal [bytes p .ro] H = some (.tuple [if unsOK p then bytes (p.drop 4) .own else .list 1 [] .full, .bool (unsOK p)], H) := by
 unfold unsOK
 by_cases c : p.length < 4
 ·have c' : (p.length : Int) < 4 := by omega
  have d : decide (4 ≤ p.length) = false := decide_eq_false (by omega)
  rw [d, Bool.false_and, if_neg (by decide)]
  refine W_fn0 rfl rfl ?_
  simp only [go_sem, trim_same, c_ref1_Unseal, List.length_map, c', simprocAttr]
 ·have c' : ¬ (p.length : Int) < 4 := by omega
  have d : decide (4 ≤ p.length) = true := decide_eq_true (by omega)
  rw [d, Bool.true_and]
  have hb4 : ∀ x ∈ p.drop 4, 0 ≤ x ∧ x < 256 := fun x hx => hp x (List.mem_of_mem_drop hx)
  have e4 : (ints .u8 p).drop 4 = ints .u8 (p.drop 4) := by rw [← List.map_drop]
  have l4 : (4 : Int) ≤ (p.length : Int) := by omega
  have ts := fun H => ref_sealed_spec (p.drop 4) H hb4 (by simp; omega)
  have tq := toS_beq (sealOf_bytes hb4) hp
  have lb : (0 + (p.drop 4).length) * 1 ≤ maxBytes := by simp [maxBytes]; omega
  have eS : le4 (crcN (toN (p.drop 4)) : Nat) ++ p.drop 4 = sealOf (p.drop 4) := rfl
  rw [eS] at ts
  clear eS
  generalize sealOf (p.drop 4) = S at *
  generalize p.drop 4 = y at *
  by_cases e : S = p
  ·rw [decide_eq_true e] at tq
   rw [decide_eq_true e, if_pos rfl]
   refine W_fn0 rfl rfl ?_
   simp only [go_sem, trim_same, c_ref1_Unseal, List.length_map, c', slL, l4, e4, ts, tq, apF, List.length_nil, List.nil_append, lb, simprocAttr]
  ·rw [decide_eq_false e] at tq
   rw [decide_eq_false e, if_neg (by decide)]
   refine W_fn0 rfl rfl ?_
   simp only [go_sem, trim_same, c_ref1_Unseal, List.length_map, c', slL, l4, e4, ts, tq, simprocAttr]
def innR (x : List Int) : Nat → Nat → Option (List Rc × Nat)
 | 0, a => some ([], a)
 | k + 1, a =>
  let s1 := cutS (x.drop a) x.length
  let s2 := cutS (x.drop (a + s1.2.toNat)) x.length
  if s1.2 = 0 ∨ s2.2 = 0 then none
  else (innR x k (a + s1.2.toNat + s2.2.toNat)).map fun r => ((s1.1, s2.1) :: r.1, r.2)
theorem W_rback (l : List Int) (H : Heap) : W n_ref1_Back [bytes l .ro] H = some (.tuple [.int .i64 (backI l), .bool (decide (8 ≤ l.length))], H) := by rw [ref_back_spec, backV_eq]
def zeroC : Box := .cells [.int .i64 0, .int .i64 0, .int .i64 0, .int .i64 0, .bool false, .int .i64 0, .list 2 [] .full]
theorem inn_loop (x : List Int) (hb : Bytes x) (hl : x.length ≤ 100000) (n : Nat) (hn : n ≤ 255) (c0 c1' c2' c3 c4 c5 : AVal) (H N : Heap) (k : Nat) : ∀ (i a : Nat) (acc : List Rc) (fl : Fl), i + k = n → acc.length = i → a ≤ x.length → (fl = .own ∨ (fl = .full ∧ acc = [])) →
  (innR x k a = none → ∃ M, loopA W loopW (.ghost (.kill k_ref6_inner_0) l_ref6_inner_0) [(0, bytes x .ro), (2, .ptr (pt H 0) 0), (4, .ptr (pt H 1) 0), (5, .int .i64 (n : Nat)), (6, .int .i64 (a : Nat)), (7, .int .i64 (i : Nat))] (hx H (zeroC :: .cells [c0, c1', c2', c3, c4, c5, .list 2 (acc.map rcV) fl] :: N)) =
   some (.ret, [(2, .ptr (pt H 0) 0), (3, .bool false)], hx H (zeroC :: M))) ∧
  (∀ r e, innR x k a = some (r, e) → ∃ fl', loopA W loopW (.ghost (.kill k_ref6_inner_0) l_ref6_inner_0) [(0, bytes x .ro), (2, .ptr (pt H 0) 0), (4, .ptr (pt H 1) 0), (5, .int .i64 (n : Nat)), (6, .int .i64 (a : Nat)), (7, .int .i64 (i : Nat))] (hx H (zeroC :: .cells [c0, c1', c2', c3, c4, c5, .list 2 (acc.map rcV) fl] :: N)) =
   some (.exit 0, [(0, bytes x .ro), (2, .ptr (pt H 0) 0), (4, .ptr (pt H 1) 0), (6, .int .i64 (e : Nat))], hx H (zeroC :: .cells [c0, c1', c2', c3, c4, c5, .list 2 ((acc ++ r).map rcV) fl'] :: N)) ∧ (fl' = .own ∨ (fl' = .full ∧ acc ++ r = []))) := by
 unfold zeroC
 induction k with
 | zero =>
  intro i a acc fl hi ha hx1 hfl
  have h1 : ¬ ((i : Int) < (n : Int)) := by omega
  refine ⟨fun h => by simp [innR] at h, fun r e h => ?_⟩
  simp only [innR, Option.some.injEq, Prod.mk.injEq] at h
  obtain ⟨rfl, rfl⟩ := h
  refine ⟨fl, ?_, by rw [List.append_nil]; exact hfl⟩
  rw [List.append_nil]
  refine loop_step l_ref6_inner_0.eq_1 k_ref6_inner_0.eq_1 (by kernel_rfl) ?_
  simp only [go_sem, h1, simprocAttr]
 | succ k ih =>
  intro i a acc fl hi hacc ha hfl
  have h1 : ((i : Int) < (n : Int)) := by omega
  have e6 : IntKind.i64.wrap ((i : Int) + 1) = ((i + 1 : Nat) : Int) := by rw [wrap_id (by unfold I64; omega)]; omega
  have a0 : (0 : Int) ≤ (a : Int) := by omega
  have a1 : (a : Int) ≤ (x.length : Int) := by omega
  have d1 : ((a : Nat) : Int).toNat = a := by omega
  have q1 : (ints .u8 x).drop a = ints .u8 (x.drop a) := by rw [← List.map_drop]
  have t1 := fun H => ref_cut_spec (x.drop a) x.length H (bytes_drop a hb) (by simp; omega)
  have r1 := cutS_range (x.drop a) x.length
  unfold innR
  simp only
  rw [List.length_drop] at r1
  generalize cutS (x.drop a) x.length = s1 at *
  obtain ⟨k1, m1⟩ := s1
  simp only at t1 r1 ⊢
  obtain ⟨n1, rfl⟩ := Int.eq_ofNat_of_zero_le r1.1
  simp only [Int.toNat_natCast]
  have w1 : IntKind.i64.wrap ((a : Int) + (n1 : Int)) = ((a + n1 : Nat) : Int) := by rw [wrap_id (by unfold I64; omega)]; omega
  have a2 : (0 : Int) ≤ ((a + n1 : Nat) : Int) := by omega
  have a3 : ((a + n1 : Nat) : Int) ≤ (x.length : Int) := by omega
  have d2 : ((a + n1 : Nat) : Int).toNat = a + n1 := by omega
  have q2 : (ints .u8 x).drop (a + n1) = ints .u8 (x.drop (a + n1)) := by rw [← List.map_drop]
  have t2 := fun H => ref_cut_spec (x.drop (a + n1)) x.length H (bytes_drop (a + n1) hb) (by simp; omega)
  have r2 := cutS_range (x.drop (a + n1)) x.length
  rw [List.length_drop] at r2
  generalize cutS (x.drop (a + n1)) x.length = s2 at *
  obtain ⟨k2, m2⟩ := s2
  simp only at t2 r2 ⊢
  obtain ⟨n2, rfl⟩ := Int.eq_ofNat_of_zero_le r2.1
  simp only [Int.toNat_natCast]
  have w3 : IntKind.i64.wrap (((a + n1 : Nat) : Int) + (n2 : Int)) = ((a + n1 + n2 : Nat) : Int) := by rw [wrap_id (by unfold I64; omega)]; omega
  by_cases c1 : (n1 : Int) = 0
  ·rw [if_pos (.inl c1)]
   refine ⟨fun _ => ⟨.cells [c0, c1', c2', c3, c4, c5, .list 2 (acc.map rcV) fl] :: N, ?_⟩, fun r e h => by cases h⟩
   refine loop_step l_ref6_inner_0.eq_1 k_ref6_inner_0.eq_1 (by kernel_rfl) ?_
   simp only [go_sem, h1, slL, List.length_map, a0, a1, d1, q1, t1, w1, a2, a3, d2, q2, t2, eq_true c1, simprocAttr]
  ·by_cases c2 : (n2 : Int) = 0
   ·rw [if_pos (.inr c2)]
    refine ⟨fun _ => ⟨.cells [c0, c1', c2', c3, c4, c5, .list 2 (acc.map rcV) fl] :: N, ?_⟩, fun r e h => by cases h⟩
    refine loop_step l_ref6_inner_0.eq_1 k_ref6_inner_0.eq_1 (by kernel_rfl) ?_
    simp only [go_sem, h1, slL, List.length_map, a0, a1, d1, q1, t1, w1, a2, a3, d2, q2, t2, c1, eq_true c2, simprocAttr]
   ·rw [if_neg (by omega)]
    obtain ⟨ihn, ihs⟩ := ih (i + 1) (a + n1 + n2) (acc ++ [(k1, k2)]) .own (by omega) (by simp; omega) (by omega) (.inl rfl)
    have bb : ((acc.map rcV).length + 1) * 32 ≤ maxBytes := by simp only [List.length_map, maxBytes]; omega
    have bb' : (acc.length + 1) * 32 ≤ maxBytes := by simp only [maxBytes]; omega
    have b0 : (0 + 1) * 32 ≤ maxBytes := by decide
    have e8 : acc.map rcV ++ [.agg [.str k1, .str k2]] = (acc ++ [(k1, k2)]).map rcV := by simp [rcV]
    refine ⟨fun h => ?_, fun r e h => ?_⟩
    ·rw [Option.map_eq_none_iff] at h
     obtain ⟨M, h2⟩ := ihn h
     refine ⟨M, ?_⟩
     refine loop_step l_ref6_inner_0.eq_1 k_ref6_inner_0.eq_1 (by kernel_rfl) ?_
     rcases hfl with rfl | ⟨rfl, rfl⟩
     ·simp only [go_sem, h1, slL, List.length_map, a0, a1, d1, q1, t1, w1, a2, a3, d2, q2, t2, c1, c2, apO, bb, bb', e8, w3, e6, simprocAttr]
      exact h2
     ·simp only [List.map_nil, List.nil_append] at e8 h2 ⊢
      simp only [go_sem, h1, slL, List.length_map, a0, a1, d1, q1, t1, w1, a2, a3, d2, q2, t2, c1, c2, apF, List.length_nil, b0, List.nil_append, w3, e6, simprocAttr]
      rw [e8]
      exact h2
    ·rw [Option.map_eq_some_iff] at h
     obtain ⟨⟨r', e'⟩, h, he⟩ := h
     cases he
     obtain ⟨fl', h2, hf'⟩ := ihs r' e' h
     refine ⟨fl', ?_, by simpa using hf'⟩
     rw [List.append_assoc] at h2
     simp only [List.singleton_append] at h2
     refine loop_step l_ref6_inner_0.eq_1 k_ref6_inner_0.eq_1 (by kernel_rfl) ?_
     rcases hfl with rfl | ⟨rfl, rfl⟩
     ·simp only [go_sem, h1, slL, List.length_map, a0, a1, d1, q1, t1, w1, a2, a3, d2, q2, t2, c1, c2, apO, bb, bb', e8, w3, e6, simprocAttr]
      exact h2
     ·simp only [List.map_nil, List.nil_append] at e8 h2 ⊢
      simp only [go_sem, h1, slL, List.length_map, a0, a1, d1, q1, t1, w1, a2, a3, d2, q2, t2, c1, c2, apF, List.length_nil, b0, List.nil_append, w3, e6, simprocAttr]
      rw [e8]
      exact h2
end Go.Abs
