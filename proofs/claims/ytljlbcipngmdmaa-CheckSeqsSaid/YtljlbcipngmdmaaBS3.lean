import Derived.Test.YtljlbcipngmdmaaBS2
set_option linter.unusedVariables false
set_option linter.unusedSimpArgs false
namespace Go.Abs
open Go Go.RowKit
theorem plain_spec (b : Ba) (H : Heap) : W n_ref6_plain [b.V] H = some (.int .i64 (rightE b), H) := by
 have tn := fun H => ref_head_spec b H
 have td := plain_data b H
 by_cases c1 : b.base < 0
 ·have hr : rightE b = 18 := by unfold rightE; rw [if_pos (.inl c1)]
  rw [hr]
  unfold Ba.V Ba.cs
  refine W_fn rfl rfl ?_
  simp only [go_sem, c_ref6_plain, c1, simprocAttr]
 by_cases c2 : b.base > 1099511627776
 ·have hr : rightE b = 18 := by unfold rightE; rw [if_pos (.inr c2)]
  rw [hr]
  unfold Ba.V Ba.cs
  refine W_fn rfl rfl ?_
  simp only [go_sem, c_ref6_plain, c1, c2, simprocAttr]
 by_cases c3 : b.mark = 0
 ·have hr : rightE b = dataE b := by unfold rightE; rw [if_neg (by omega), if_pos c3]
  rw [hr]
  exact td c1 c2 c3
 ·have hr : rightE b = if markE b = true then 12 else 0 := by unfold rightE; rw [if_neg (by omega), if_neg c3]
  rw [hr]
  unfold Ba.V Ba.cs at tn
  have bad : markE b = true → (W n_ref6_plain [b.V] H = some (.int .i64 12, H)) → W n_ref6_plain [b.V] H = some (.int .i64 (if markE b = true then 12 else 0), H) := fun h1 h2 => by rw [if_pos h1]; exact h2
  have good : markE b = false → (W n_ref6_plain [b.V] H = some (.int .i64 0, H)) → W n_ref6_plain [b.V] H = some (.int .i64 (if markE b = true then 12 else 0), H) := fun h1 h2 => by rw [if_neg (by rw [h1]; decide)]; exact h2
  have rest : (b.mark = 1 ∨ b.mark = 2) → W n_ref6_plain [b.V] H = some (.int .i64 (if markE b = true then 12 else 0), H) := by
   intro hm
   have m12 : (decide (b.mark ≠ 1) && decide (b.mark ≠ 2)) = false := by rcases hm with hm | hm <;> rw [hm] <;> rfl
   have em : markE b = (!namedB b || (decide (b.seq ≠ -1) || (!b.txn || decide (0 < b.recs.length)))) := by unfold markE; rw [m12, Bool.false_or]
   cases hn : namedB b with
   | false =>
    rw [hn] at tn
    refine bad (by rw [em, hn]; rfl) (W_fn rfl rfl ?_)
    unfold Ba.V Ba.cs
    rcases hm with hm | hm
    ·simp only [go_sem, c_ref6_plain, c1, c2, c3, eq_true hm, tn, simprocAttr]
    ·have hm1 : ¬ b.mark = 1 := by omega
     simp only [go_sem, c_ref6_plain, c1, c2, c3, hm1, eq_true hm, tn, simprocAttr]
   | true =>
    rw [hn] at tn
    by_cases c6 : b.seq = -1
    ·cases ht : b.txn with
     | false =>
      rw [ht] at tn
      refine bad (by rw [em, hn, ht]; simp) (W_fn rfl rfl ?_)
      unfold Ba.V Ba.cs
      rcases hm with hm | hm
      ·simp only [go_sem, c_ref6_plain, c1, c2, c3, eq_true hm, tn, eq_true c6, ht, simprocAttr]
      ·have hm1 : ¬ b.mark = 1 := by omega
       simp only [go_sem, c_ref6_plain, c1, c2, c3, hm1, eq_true hm, tn, eq_true c6, ht, simprocAttr]
     | true =>
      rw [ht] at tn
      by_cases c7 : (b.recs.length : Int) > 0
      ·refine bad (by rw [em, hn, ht]; simp; right; omega) (W_fn rfl rfl ?_)
       unfold Ba.V Ba.cs
       rcases hm with hm | hm
       ·simp only [go_sem, c_ref6_plain, c1, c2, c3, eq_true hm, tn, eq_true c6, ht, c7, List.length_map, simprocAttr]
       ·have hm1 : ¬ b.mark = 1 := by omega
        simp only [go_sem, c_ref6_plain, c1, c2, c3, hm1, eq_true hm, tn, eq_true c6, ht, c7, List.length_map, simprocAttr]
      ·have h0 : b.recs = [] := List.length_eq_zero_iff.1 (by omega)
       refine good (by rw [em, hn, ht]; simp [c6, h0]) (W_fn rfl rfl ?_)
       unfold Ba.V Ba.cs
       rcases hm with hm | hm
       ·simp only [go_sem, c_ref6_plain, c1, c2, c3, eq_true hm, tn, eq_true c6, ht, c7, List.length_map, simprocAttr]
       ·have hm1 : ¬ b.mark = 1 := by omega
        simp only [go_sem, c_ref6_plain, c1, c2, c3, hm1, eq_true hm, tn, eq_true c6, ht, c7, List.length_map, simprocAttr]
    ·refine bad (by rw [em, hn]; simp [c6]) (W_fn rfl rfl ?_)
     unfold Ba.V Ba.cs
     rcases hm with hm | hm
     ·simp only [go_sem, c_ref6_plain, c1, c2, c3, eq_true hm, tn, c6, simprocAttr]
     ·have hm1 : ¬ b.mark = 1 := by omega
      simp only [go_sem, c_ref6_plain, c1, c2, c3, hm1, eq_true hm, tn, c6, simprocAttr]
  by_cases m1 : b.mark = 1
  ·exact rest (.inl m1)
  by_cases m2 : b.mark = 2
  ·exact rest (.inr m2)
  refine bad (by unfold markE; simp [m1, m2]) (W_fn rfl rfl ?_)
  unfold Ba.V Ba.cs
  simp only [go_sem, c_ref6_plain, c1, c2, c3, m1, m2, simprocAttr]
theorem write_loop (L : List Rc) (hL : ∀ r ∈ L, r.1.length ≤ 64 ∧ r.2.length ≤ 64) (hn : L.length ≤ 16) (B : Box) (H : Heap) (r : List Rc) : ∀ (p : List Rc) (l : List Int) (N : Heap), L = p ++ r → l.length + r.length * 148 ≤ 100000 →
  ∃ M, loopA W loopW (.ghost (.kill k_ref6_write_0) l_ref6_write_0) [(1, .ptr (pt H 0) 0), (4, bytes l .own), (43, .list 2 (L.map rcV) .ro), (44, .int .i64 (L.length : Nat)), (45, .int .i64 (p.length : Nat))] (hx H (B :: N)) =
   some (.exit 0, [(1, .ptr (pt H 0) 0), (4, bytes (l ++ rcsB r) .own)], hx H (B :: M)) := by
 induction r with
 | nil =>
  intro p l N hp hk
  rw [List.append_nil] at hp
  subst hp
  refine ⟨N, ?_⟩
  have h1 : ¬ ((L.length : Int) < (L.length : Int)) := by omega
  refine loop_step l_ref6_write_0.eq_1 k_ref6_write_0.eq_1 (by kernel_rfl) ?_
  simp only [go_sem, h1, rcsB, List.flatMap_nil, List.append_nil, simprocAttr]
 | cons x r ih =>
  intro p l N hp hk
  have hlen : p.length < L.length := by rw [hp]; simp
  have hx2 := hL x (by rw [hp]; simp)
  have h1 : ((p.length : Int) < (L.length : Int)) := by omega
  have e0 : (0 : Int) ≤ (p.length : Int) := by omega
  have e7 : ((p.length : Nat) : Int).toNat = p.length := by omega
  have e1 : (L.map rcV)[p.length]? = some (.agg [.str x.1, .str x.2]) := by rw [hp]; simp [rcV]
  have e6 : IntKind.i64.wrap ((p.length : Int) + 1) = ((p.length + 1 : Nat) : Int) := by rw [wrap_id (by unfold I64; omega)]; omega
  have hk' : l.length + (r.length * 148 + 148) ≤ 100000 := by
   have : (x :: r).length * 148 = r.length * 148 + 148 := by simp [Nat.add_mul]
   omega
  have l1 := txt_len x.1
  have l2 := txt_len x.2
  have t1 := fun H => ref_text_spec l x.1 H (by omega)
  have t2 := fun H => ref_text_spec (l ++ txt x.1) x.2 H (by simp; omega)
  have t1' : ∀ H, W n_ref1_Text [bytes l .ro, .str x.1] H = some (bytes (l ++ txt x.1) .own, H) := fun H => by rw [t1, List.append_assoc]; rfl
  have t2' : ∀ H, W n_ref1_Text [bytes (l ++ txt x.1) .ro, .str x.2] H = some (bytes (l ++ rcB x) .own, H) := fun H => by rw [t2]; simp [rcB, txt]
  obtain ⟨M, h2⟩ := ih (p ++ [x]) (l ++ rcB x) (N ++ [.cells [.str x.1, .str x.2]]) (by rw [hp]; simp) (by simp [rcB]; omega)
  refine ⟨M, ?_⟩
  simp only [List.length_append, List.length_cons, List.length_nil, Nat.zero_add] at h2
  have e9 : l ++ rcsB (x :: r) = l ++ rcB x ++ rcsB r := by simp [rcsB]
  simp only [List.append_assoc] at h2
  rw [e9]
  simp only [List.append_assoc]
  refine loop_step l_ref6_write_0.eq_1 k_ref6_write_0.eq_1 (by kernel_rfl) ?_
  simp only [go_sem, h1, e0, e7, e1, t1', t2', e6, simprocAttr]
  exact h2
theorem write_spec (b : Ba) (h : BOK b) (hr : SmallR b.recs) (H : Heap) : W n_ref6_write [b.V] H = some (bytes (baBytes b) .own, H) := by
 have hf := flagI_range b
 have hlen := rcsB_len hr.2
 have hn := hr.1
 obtain ⟨F, hF⟩ : ∃ F, flagI b = F := ⟨_, rfl⟩
 obtain ⟨l1, hl1⟩ : ∃ l1, [F] ++ bes b.prod 0 = l1 := ⟨_, rfl⟩
 obtain ⟨l2, hl2⟩ : ∃ l2, l1 ++ [b.epoch / 256 % 256, b.epoch % 256] = l2 := ⟨_, rfl⟩
 obtain ⟨l3, hl3⟩ : ∃ l3, l2 ++ bes b.seq 0 = l3 := ⟨_, rfl⟩
 obtain ⟨l4, hl4⟩ : ∃ l4, l3 ++ [(b.recs.length : Int) % 256] = l4 := ⟨_, rfl⟩
 have hh : l4 = headI b := by rw [← hl4, ← hl3, ← hl2, ← hl1, ← hF]; rfl
 have k1 : l1.length = 9 := by rw [← hl1]; simp [bes_len]
 have k2 : l2.length = 11 := by rw [← hl2]; simp [k1]
 have k3 : l3.length = 19 := by rw [← hl3]; simp [k2, bes_len]
 have t1 : ∀ H, W n_ref1_Long [.list 1 [.int .u8 F] .ro, .int .i64 b.prod] H = some (bytes l1 .own, H) := fun H => by rw [← hl1]; exact ref_long_spec [F] b.prod H h.prod (by simp)
 have t2 : ∀ H, W n_ref1_Long [bytes l2 .ro, .int .i64 b.seq] H = some (bytes l3 .own, H) := fun H => by rw [← hl3]; exact ref_long_spec l2 b.seq H h.seq (by rw [k2]; decide)
 obtain ⟨M, t3⟩ := write_loop b.recs hr.2 hr.1 (.cells b.cs) H b.recs [] l4 [] rfl (by rw [hh, headI_len]; omega)
 rw [show l4 ++ rcsB b.recs = inner b by rw [hh]; rfl] at t3
 obtain ⟨S, hS⟩ : ∃ S, sealedI b = S := ⟨_, rfl⟩
 have t4 : ∀ H, W n_ref1_Sealed [bytes (inner b) .ro] H = some (bytes S .own, H) := fun H => by rw [← hS]; exact ref_sealed_spec (inner b) H (inner_bytes hr) (by have := inner_len hr; omega)
 have kS : S.length ≤ 2392 := by rw [← hS, sealedI, List.length_append]; have := inner_len hr; simp [le4]; omega
 obtain ⟨X, hX⟩ : ∃ X, bes b.base 0 = X := ⟨_, rfl⟩
 have kX : X.length = 8 := by rw [← hX]; exact bes_len _
 have t5 : ∀ H, W n_ref1_Long [.list 1 [] .ro, .int .i64 b.base] H = some (bytes X .own, H) := fun H => by rw [← hX]; exact ref_long_spec [] b.base H h.base (by simp)
 obtain ⟨Y, hY⟩ : ∃ Y, X ++ [(S.length : Int) / 16777216 % 256, (S.length : Int) / 65536 % 256, (S.length : Int) / 256 % 256, (S.length : Int) % 256] = Y := ⟨_, rfl⟩
 have kY : Y.length = 12 := by rw [← hY]; simp [kX]
 have e1 : IntKind.u8.wrap (shr .i64 b.epoch 8) = b.epoch / 256 % 256 := Num.wu8 _
 have e2 : IntKind.u8.wrap b.epoch = b.epoch % 256 := Num.wu8 _
 have e3 : IntKind.u8.wrap (b.recs.length : Int) = (b.recs.length : Int) % 256 := Num.wu8 _
 have a2 : ints .u8 l1 ++ [.int .u8 (b.epoch / 256 % 256), .int .u8 (b.epoch % 256)] = ints .u8 l2 := by rw [← hl2]; simp
 have a4 : ints .u8 l3 ++ [.int .u8 ((b.recs.length : Int) % 256)] = ints .u8 l4 := by rw [← hl4]; simp
 have a5 : ints .u8 X ++ [.int .u8 ((S.length : Int) / 16777216 % 256), .int .u8 ((S.length : Int) / 65536 % 256), .int .u8 ((S.length : Int) / 256 % 256), .int .u8 ((S.length : Int) % 256)] = ints .u8 Y := by rw [← hY]; simp
 have a6 : ints .u8 Y ++ ints .u8 S = ints .u8 (baBytes b) := by rw [← List.map_append, ← hY, ← hX]; simp [baBytes, be4, hS]
 have b2 : (l1.length + 2) * 1 ≤ maxBytes := by rw [k1]; decide
 have b4 : (l3.length + 1) * 1 ≤ maxBytes := by rw [k3]; decide
 have b5 : (X.length + 4) * 1 ≤ maxBytes := by rw [kX]; decide
 have b6 : (Y.length + S.length) * 1 ≤ maxBytes := by rw [kY]; simp only [maxBytes]; omega
 have s1 : IntKind.u8.wrap (shr .i64 (S.length : Nat) 24) = (S.length : Int) / 16777216 % 256 := Num.wu8 _
 have s2 : IntKind.u8.wrap (shr .i64 (S.length : Nat) 16) = (S.length : Int) / 65536 % 256 := Num.wu8 _
 have s3 : IntKind.u8.wrap (shr .i64 (S.length : Nat) 8) = (S.length : Int) / 256 % 256 := Num.wu8 _
 have s4 : IntKind.u8.wrap (S.length : Nat) = (S.length : Int) % 256 := Num.wu8 _
 have g0 : ((([] : List Rc).length : Nat) : Int) = 0 := rfl
 rw [g0] at t3
 unfold Ba.cs at t3
 refine W_fn rfl rfl ?_
 unfold Ba.V Ba.cs
 cases ht : b.txn
 ·rw [ht] at t3
  have f1 : IntKind.u8.wrap (IntKind.i64.wrap (2 * b.mark)) = F := by rw [← hF]; unfold flagI; rw [ht]; rfl
  simp only [go_sem, c_ref6_write, f1, fs_int, t1, e1, e2, e3, apO, a2, a4, b2, b4, t2, t3, t4, t5, a5, b5, a6, b6, s1, s2, s3, s4, List.length_map, simprocAttr]
 ·rw [ht] at t3
  have f1 : IntKind.u8.wrap (IntKind.u8.wrap (IntKind.i64.wrap (2 * b.mark)) + 1) = F := by rw [← hF]; unfold flagI; rw [ht]; rfl
  simp only [go_sem, c_ref6_write, f1, fs_int, t1, e1, e2, e3, apO, a2, a4, b2, b4, t2, t3, t4, t5, a5, b5, a6, b6, s1, s2, s3, s4, List.length_map, simprocAttr]
theorem ref_right_spec (b : Ba) (h : BOK b) (H : Heap) : W n_ref6_Right [b.V] H = some (.int .i64 (rightE b), H) := by
 have tp := fun H => plain_spec b H
 have tw := fun hs H => write_spec b h hs H
 unfold Ba.V Ba.cs at *
 by_cases c : rightE b = 0
 ·have hs := rightE_small c
  have hl := baBytes_len hs
  have tw' := tw hs
  have c5 : ¬ ((baBytes b).length : Int) > 4096 := by omega
  rw [c] at tp ⊢
  refine W_fn rfl rfl ?_
  simp only [go_sem, c_ref6_Right, tp, tw', c5, List.length_map, simprocAttr]
 ·refine W_fn rfl rfl ?_
  simp only [go_sem, c_ref6_Right, tp, c, simprocAttr]
theorem ref_Bytes_spec (b : Ba) (h : BOK b) (H : Heap) :
  W n_ref6_Bytes [b.V] H = some (.tuple [if rightE b = 0 then bytes (baBytes b) .own else .list 1 [] .full, .int .i64 (rightE b)], H) := by
 have tr := fun H => ref_right_spec b h H
 have tb := fun hs H => write_spec b h hs H
 unfold Ba.V Ba.cs at tr tb ⊢
 by_cases c : rightE b = 0
 ·have tb' := tb (rightE_small c)
  rw [if_pos c]
  rw [c] at tr ⊢
  refine W_fn rfl rfl ?_
  simp only [go_sem, c_ref6_Bytes, tr, tb', simprocAttr]
 ·rw [if_neg c]
  refine W_fn rfl rfl ?_
  simp only [go_sem, c_ref6_Bytes, tr, c, simprocAttr]
def sizeE (b : Ba) : Int := if rightE b = 0 then ((baBytes b).length : Int) else 0
theorem ref_size_spec (b : Ba) (h : BOK b) (H : Heap) : W n_ref6_Size [b.V] H = some (.int .i64 (sizeE b), H) := by
 have tb := fun H => ref_Bytes_spec b h H
 unfold sizeE
 unfold Ba.V Ba.cs at tb ⊢
 by_cases c : rightE b = 0
 ·rw [if_pos c]
  rw [c, if_pos rfl] at tb
  refine W_fn rfl rfl ?_
  simp only [go_sem, c_ref6_Size, tb, List.length_map, simprocAttr]
 ·rw [if_neg c]
  simp only [if_neg c] at tb
  refine W_fn rfl rfl ?_
  simp only [go_sem, c_ref6_Size, tb, List.length_nil, Int.natCast_zero, simprocAttr]
def addS (n k : Int) : Int := if seqR n = true then (n + k) % 2147483648 else -1
def lastS (n c : Int) : Int := if c < 1 ∨ c > 16 then -1 else addS n (c - 1)
def followsS (l f : Int) : Bool := if l = -1 then decide (f = 0) else seqR l && decide (addS l 1 = f)
theorem ref_add_spec (n k : Int) (H : Heap) (hk : 0 ≤ k) (hk1 : k ≤ 1000) : W n_ref3_Add [.int .i64 n, .int .i64 k] H = some (.int .i64 (addS n k), H) := by
 have t := fun H => ref_seq_spec n H
 unfold addS
 cases c : seqR n with
 | false =>
  rw [c] at t
  refine W_fn rfl rfl ?_
  simp only [go_sem, c_ref3_Add, t, simprocAttr]
 | true =>
  rw [c] at t
  have hn : 0 ≤ n ∧ n ≤ 2147483647 := by simpa [seqR] using c
  have e1 : k.tmod 2147483648 = k := Int.tmod_eq_of_lt hk (by omega)
  have w1 : IntKind.i64.wrap (n + k) = n + k := wrap_id (by unfold I64; omega)
  have e2 : (n + k).tmod 2147483648 = (n + k) % 2147483648 := Int.tmod_eq_emod_of_nonneg (by omega)
  have w2 : IntKind.i64.wrap ((n + k) % 2147483648 + 2147483648) = (n + k) % 2147483648 + 2147483648 := wrap_id (by unfold I64; omega)
  have e3 : ((n + k) % 2147483648 + 2147483648).tmod 2147483648 = (n + k) % 2147483648 := by
   rw [Int.tmod_eq_emod_of_nonneg (by omega)]; omega
  have n0 : ¬ (2147483648 : Int) = 0 := by decide
  refine W_fn rfl rfl ?_
  simp only [go_sem, c_ref3_Add, t, e1, w1, e2, w2, e3, n0, simprocAttr]
theorem ref_last_spec (n c : Int) (H : Heap) (hc : 0 ≤ c) : W n_ref3_Last [.int .i64 n, .int .i64 c] H = some (.int .i64 (lastS n c), H) := by
 unfold lastS
 by_cases c1 : c < 1
 ·rw [if_pos (.inl c1)]
  refine W_fn rfl rfl ?_
  simp only [go_sem, c_ref3_Last, c1, simprocAttr]
 by_cases c2 : c > 16
 ·rw [if_pos (.inr c2)]
  refine W_fn rfl rfl ?_
  simp only [go_sem, c_ref3_Last, c1, c2, simprocAttr]
 ·rw [if_neg (by omega)]
  have t := fun H => ref_add_spec n (c - 1) H (by omega) (by omega)
  have w1 : IntKind.i64.wrap (c - 1) = c - 1 := wrap_id (by unfold I64; omega)
  refine W_fn rfl rfl ?_
  simp only [go_sem, c_ref3_Last, c1, c2, w1, t, simprocAttr]
theorem ref_follows_spec (l f : Int) (H : Heap) : W n_ref3_Follows [.int .i64 l, .int .i64 f] H = some (.bool (followsS l f), H) := by
 have t1 := fun H => ref_seq_spec l H
 have t2 := fun H => ref_add_spec l 1 H (by omega) (by omega)
 unfold followsS
 by_cases c : l = -1
 ·rw [if_pos c]
  refine W_fn rfl rfl ?_
  simp only [go_sem, c_ref3_Follows, eq_true c, simprocAttr]
 ·rw [if_neg c]
  cases c2 : seqR l with
  | false =>
   rw [c2] at t1
   refine W_fn rfl rfl ?_
   simp only [go_sem, c_ref3_Follows, c, t1, simprocAttr]
  | true =>
   rw [c2] at t1
   refine W_fn rfl rfl ?_
   simp only [go_sem, c_ref3_Follows, c, t1, t2, simprocAttr]
abbrev La := Int × Int × Int
def laV (x : La) : AVal := .agg [.int .i64 x.1, .int .i64 x.2.1, .int .i64 x.2.2]
structure Pr where
 id : Int
 epoch : Int
 last : List La
 open_ : Int
def Pr.cs (p : Pr) : List AVal := [.int .i64 p.id, .int .i64 p.epoch, .list 3 (p.last.map laV) .ro, .int .i64 p.open_]
def Pr.V (p : Pr) : AVal := .agg p.cs
def dupIn (n c : Int) : List La → Option Int
 | [] => none
 | x :: l => if x.1 = n ∧ x.2.1 = lastS n c then some x.2.2 else dupIn n c l
def dupP (p : Pr) (b : Ba) : Option Int := if b.epoch = p.epoch ∧ b.mark = 0 then dupIn b.seq b.recs.length p.last else none
theorem dup_loop (b : Ba) (L : List La) (hn : L.length ≤ 1000000) (C : Box) (H : Heap) (r : List La) : ∀ (p : List La) (N : Heap), L = p ++ r →
  ∃ M, loopA W loopW (.ghost (.kill k_ref10_Dup_0) l_ref10_Dup_0) [(3, .ptr (pt H 1) 0), (19, .list 3 (L.map laV) .ro), (20, .int .i64 (L.length : Nat)), (21, .int .i64 (p.length : Nat))] (hx H (C :: .cells b.cs :: N)) =
   match dupIn b.seq b.recs.length r with
   | some v => some (.ret, [(4, .int .i64 v), (5, .bool true)], hx H M)
   | none => some (.exit 0, [], hx H M) := by
 induction r with
 | nil =>
  intro p N hp
  rw [List.append_nil] at hp
  subst hp
  refine ⟨(C :: .cells b.cs :: N), ?_⟩
  have h1 : ¬ ((L.length : Int) < (L.length : Int)) := by omega
  show _ = some (Out.exit 0, _, _)
  refine loop_step l_ref10_Dup_0.eq_1 k_ref10_Dup_0.eq_1 (by kernel_rfl) ?_
  simp only [go_sem, h1, simprocAttr]
 | cons x r ih =>
  intro p N hp
  have hlen : p.length < L.length := by rw [hp]; simp
  have h1 : ((p.length : Int) < (L.length : Int)) := by omega
  have e0 : (0 : Int) ≤ (p.length : Int) := by omega
  have e7 : ((p.length : Nat) : Int).toNat = p.length := by omega
  have e1 : (L.map laV)[p.length]? = some (.agg [.int .i64 x.1, .int .i64 x.2.1, .int .i64 x.2.2]) := by rw [hp]; simp [laV]
  have e6 : IntKind.i64.wrap ((p.length : Int) + 1) = ((p.length + 1 : Nat) : Int) := by rw [wrap_id (by unfold I64; omega)]; omega
  have t := fun H => ref_last_spec b.seq b.recs.length H (by omega)
  obtain ⟨M, h2⟩ := ih (p ++ [x]) (N ++ [.cells [.int .i64 x.1, .int .i64 x.2.1, .int .i64 x.2.2]]) (by rw [hp]; simp)
  simp only [List.length_append, List.length_cons, List.length_nil, Nat.zero_add] at h2
  have no : ¬ (x.1 = b.seq ∧ x.2.1 = lastS b.seq b.recs.length) → dupIn b.seq b.recs.length (x :: r) = dupIn b.seq b.recs.length r := fun h => by rw [dupIn, if_neg h]
  by_cases c1 : x.1 = b.seq
  ·by_cases c2 : x.2.1 = lastS b.seq b.recs.length
   ·refine ⟨C :: .cells b.cs :: N ++ [.cells [.int .i64 x.1, .int .i64 x.2.1, .int .i64 x.2.2]], ?_⟩
    rw [show dupIn b.seq b.recs.length (x :: r) = some x.2.2 by rw [dupIn, if_pos ⟨c1, c2⟩]]
    unfold Ba.cs
    show _ = some (Out.ret, _, _)
    refine loop_step l_ref10_Dup_0.eq_1 k_ref10_Dup_0.eq_1 (by kernel_rfl) ?_
    simp only [go_sem, h1, e0, e7, e1, eq_true c1, eq_true c2, t, List.length_map, simprocAttr]
   ·refine ⟨M, ?_⟩
    rw [no (fun h => c2 h.2)]
    cases hd : dupIn b.seq b.recs.length r with
    | none =>
     rw [hd] at h2
     unfold Ba.cs at h2 ⊢
     show _ = some (Out.exit 0, _, _)
     refine loop_step l_ref10_Dup_0.eq_1 k_ref10_Dup_0.eq_1 (by kernel_rfl) ?_
     simp only [go_sem, h1, e0, e7, e1, eq_true c1, c2, t, e6, List.length_map, simprocAttr]
     exact h2
    | some v =>
     rw [hd] at h2
     unfold Ba.cs at h2 ⊢
     show _ = some (Out.ret, _, _)
     refine loop_step l_ref10_Dup_0.eq_1 k_ref10_Dup_0.eq_1 (by kernel_rfl) ?_
     simp only [go_sem, h1, e0, e7, e1, eq_true c1, c2, t, e6, List.length_map, simprocAttr]
     exact h2
  ·refine ⟨M, ?_⟩
   rw [no (fun h => c1 h.1)]
   cases hd : dupIn b.seq b.recs.length r with
   | none =>
    rw [hd] at h2
    unfold Ba.cs at h2 ⊢
    show _ = some (Out.exit 0, _, _)
    refine loop_step l_ref10_Dup_0.eq_1 k_ref10_Dup_0.eq_1 (by kernel_rfl) ?_
    simp only [go_sem, h1, e0, e7, e1, c1, e6, simprocAttr]
    exact h2
   | some v =>
    rw [hd] at h2
    unfold Ba.cs at h2 ⊢
    show _ = some (Out.ret, _, _)
    refine loop_step l_ref10_Dup_0.eq_1 k_ref10_Dup_0.eq_1 (by kernel_rfl) ?_
    simp only [go_sem, h1, e0, e7, e1, c1, e6, simprocAttr]
    exact h2
theorem ref_dup_spec (p : Pr) (b : Ba) (hn : p.last.length ≤ 1000000) (H : Heap) :
  W n_ref10_Dup [p.V, b.V] H = some (.tuple [.int .i64 ((dupP p b).getD (-1)), .bool (dupP p b).isSome], H) := by
 obtain ⟨M, h⟩ := dup_loop b p.last hn (.cells p.cs) H p.last [] [] rfl
 have g0 : ((([] : List La).length : Nat) : Int) = 0 := rfl
 rw [g0] at h
 unfold Ba.cs Pr.cs at h
 have no : ¬ (b.epoch = p.epoch ∧ b.mark = 0) → dupP p b = none := fun h => by unfold dupP; rw [if_neg h]
 unfold Pr.V Pr.cs Ba.V Ba.cs
 by_cases c1 : b.epoch = p.epoch
 ·by_cases c2 : b.mark = 0
  ·rw [show dupP p b = dupIn b.seq b.recs.length p.last by unfold dupP; rw [if_pos ⟨c1, c2⟩]]
   cases hd : dupIn b.seq b.recs.length p.last with
   | none =>
    rw [hd] at h
    refine W_fn rfl rfl ?_
    simp only [go_sem, c_ref10_Dup, eq_true c1, eq_true c2, List.length_map, h, simprocAttr]
    rfl
   | some v =>
    rw [hd] at h
    refine W_fn rfl rfl ?_
    simp only [go_sem, c_ref10_Dup, eq_true c1, eq_true c2, List.length_map, h, simprocAttr]
    rfl
  ·rw [no (fun h => c2 h.2)]
   refine W_fn rfl rfl ?_
   simp only [go_sem, c_ref10_Dup, eq_true c1, c2, simprocAttr]
   rfl
 ·rw [no (fun h => c1 h.1)]
  refine W_fn rfl rfl ?_
  simp only [go_sem, c_ref10_Dup, c1, simprocAttr]
  rfl
def checkP (p : Pr) (known : Bool) (b : Ba) : Int × Int :=
 if b.mark ≠ 0 then
  if known = false then (-1, 16) else if b.epoch < p.epoch then (-1, 14) else if p.open_ < 0 then (-1, 16) else (-1, 0)
 else if known = false then (-1, 0)
 else if b.epoch < p.epoch then (-1, 14)
 else if b.epoch > p.epoch then (if p.open_ ≥ 0 then (-1, 16) else if b.seq ≠ 0 then (-1, 15) else (-1, 0))
 else match dupP p b with
  | some v => (v, 0)
  | none => match p.last.getLast? with
   | some x => if followsS x.2.1 b.seq = false then (-1, 15) else if p.open_ ≥ 0 ∧ b.txn = false then (-1, 16) else (-1, 0)
   | none => if p.open_ ≥ 0 ∧ b.txn = false then (-1, 16) else (-1, 0)
theorem ref_check_spec (p : Pr) (known : Bool) (b : Ba) (hn : p.last.length ≤ 1000000) (H : Heap) :
  W n_ref10_Check [p.V, .bool known, b.V] H = some (.tuple [.int .i64 (checkP p known b).1, .int .i64 (checkP p known b).2], H) := by
 have td := fun H => ref_dup_spec p b hn H
 unfold checkP
 unfold Pr.V Pr.cs Ba.V Ba.cs at *
 by_cases c1 : b.mark = 0
 ·rw [if_neg (by omega)]
  cases known with
  | false =>
   simp only [if_true]
   refine W_fn rfl rfl ?_
   simp only [go_sem, c_ref10_Check, eq_true c1, reduceCtorEq, ↓reduceIte, Nat.reduceAdd, Nat.reduceEqDiff, Nat.reduceLT, Int.reduceLE, Nat.reduceSub, Nat.reduceLeDiff, Nat.reduceMul, Int.reduceToNat, Int.reduceLT, Int.reduceEq, Int.reduceNeg, Nat.reduceBEq, Nat.reduceBNe]
  | true =>
   simp only [Bool.true_eq_false, if_false]
   by_cases c2 : b.epoch < p.epoch
   ·rw [if_pos c2]
    refine W_fn rfl rfl ?_
    simp only [go_sem, c_ref10_Check, eq_true c1, c2, reduceCtorEq, ↓reduceIte, Nat.reduceAdd, Nat.reduceEqDiff, Nat.reduceLT, Int.reduceLE, Nat.reduceSub, Nat.reduceLeDiff, Nat.reduceMul, Int.reduceToNat, Int.reduceLT, Int.reduceEq, Int.reduceNeg, Nat.reduceBEq, Nat.reduceBNe]
   ·rw [if_neg c2]
    by_cases c3 : b.epoch > p.epoch
    ·rw [if_pos c3]
     by_cases c4 : p.open_ ≥ 0
     ·rw [if_pos c4]
      refine W_fn rfl rfl ?_
      simp only [go_sem, c_ref10_Check, eq_true c1, c2, c3, c4, reduceCtorEq, ↓reduceIte, Nat.reduceAdd, Nat.reduceEqDiff, Nat.reduceLT, Int.reduceLE, Nat.reduceSub, Nat.reduceLeDiff, Nat.reduceMul, Int.reduceToNat, Int.reduceLT, Int.reduceEq, Int.reduceNeg, Nat.reduceBEq, Nat.reduceBNe]
     ·rw [if_neg c4]
      by_cases c5 : b.seq = 0
      ·rw [if_neg (by omega)]
       refine W_fn rfl rfl ?_
       simp only [go_sem, c_ref10_Check, eq_true c1, c2, c3, c4, eq_true c5, reduceCtorEq, ↓reduceIte, Nat.reduceAdd, Nat.reduceEqDiff, Nat.reduceLT, Int.reduceLE, Nat.reduceSub, Nat.reduceLeDiff, Nat.reduceMul, Int.reduceToNat, Int.reduceLT, Int.reduceEq, Int.reduceNeg, Nat.reduceBEq, Nat.reduceBNe]
      ·rw [if_pos c5]
       refine W_fn rfl rfl ?_
       simp only [go_sem, c_ref10_Check, eq_true c1, c2, c3, c4, c5, reduceCtorEq, ↓reduceIte, Nat.reduceAdd, Nat.reduceEqDiff, Nat.reduceLT, Int.reduceLE, Nat.reduceSub, Nat.reduceLeDiff, Nat.reduceMul, Int.reduceToNat, Int.reduceLT, Int.reduceEq, Int.reduceNeg, Nat.reduceBEq, Nat.reduceBNe]
    ·rw [if_neg c3]
     cases hd : dupP p b with
     | some v =>
      rw [hd] at td
      simp only [Option.getD_some, Option.isSome_some] at td
      refine W_fn rfl rfl ?_
      simp only [go_sem, c_ref10_Check, eq_true c1, c2, c3, td, reduceCtorEq, ↓reduceIte, Nat.reduceAdd, Nat.reduceEqDiff, Nat.reduceLT, Int.reduceLE, Nat.reduceSub, Nat.reduceLeDiff, Nat.reduceMul, Int.reduceToNat, Int.reduceLT, Int.reduceEq, Int.reduceNeg, Nat.reduceBEq, Nat.reduceBNe]
     | none =>
      rw [hd] at td
      simp only [Option.getD_none, Option.isSome_none] at td
      rcases List.eq_nil_or_concat p.last with hl | ⟨l, x, hl⟩
      ·have l0 : p.last.length = 0 := by rw [hl]; rfl
       rw [hl]
       rw [hl] at td
       simp only [List.map_nil] at td
       by_cases c6 : p.open_ ≥ 0
       ·cases c7 : b.txn with
        | false =>
         rw [c7] at td
         simp only [List.getLast?_nil, c6, true_and, if_true]
         refine W_fn rfl rfl ?_
         simp only [go_sem, c_ref10_Check, eq_true c1, c2, c3, td, List.map_nil, List.length_nil, c6, c7, Int.natCast_zero, gt_iff_lt, Int.lt_irrefl, reduceCtorEq, ↓reduceIte, Nat.reduceAdd, Nat.reduceEqDiff, Nat.reduceLT, Int.reduceLE, Nat.reduceSub, Nat.reduceLeDiff, Nat.reduceMul, Int.reduceToNat, Int.reduceLT, Int.reduceEq, Int.reduceNeg, Nat.reduceBEq, Nat.reduceBNe]
        | true =>
         rw [c7] at td
         simp only [List.getLast?_nil, c6, Bool.true_eq_false, and_false, if_false]
         refine W_fn rfl rfl ?_
         simp only [go_sem, c_ref10_Check, eq_true c1, c2, c3, td, List.map_nil, List.length_nil, c6, c7, Int.natCast_zero, gt_iff_lt, Int.lt_irrefl, reduceCtorEq, ↓reduceIte, Nat.reduceAdd, Nat.reduceEqDiff, Nat.reduceLT, Int.reduceLE, Nat.reduceSub, Nat.reduceLeDiff, Nat.reduceMul, Int.reduceToNat, Int.reduceLT, Int.reduceEq, Int.reduceNeg, Nat.reduceBEq, Nat.reduceBNe]
       ·simp only [List.getLast?_nil, c6, false_and, if_false]
        refine W_fn rfl rfl ?_
        simp only [go_sem, c_ref10_Check, eq_true c1, c2, c3, td, List.map_nil, List.length_nil, c6, Int.natCast_zero, gt_iff_lt, Int.lt_irrefl, reduceCtorEq, ↓reduceIte, Nat.reduceAdd, Nat.reduceEqDiff, Nat.reduceLT, Int.reduceLE, Nat.reduceSub, Nat.reduceLeDiff, Nat.reduceMul, Int.reduceToNat, Int.reduceLT, Int.reduceEq, Int.reduceNeg, Nat.reduceBEq, Nat.reduceBNe]
      ·have hx : p.last.getLast? = some x := by rw [hl]; simp
       have hlen : p.last.length = l.length + 1 := by rw [hl]; simp
       have h1 : (p.last.length : Int) > 0 := by omega
       have w1 : IntKind.i64.wrap ((p.last.length : Int) - 1) = (l.length : Int) := by rw [wrap_id (by unfold I64; omega)]; omega
       have e0 : (0 : Int) ≤ (l.length : Int) := by omega
       have e7 : ((l.length : Nat) : Int).toNat = l.length := by omega
       have e1 : (p.last.map laV)[l.length]? = some (.agg [.int .i64 x.1, .int .i64 x.2.1, .int .i64 x.2.2]) := by rw [hl]; simp [laV]
       have tf := fun H => ref_follows_spec x.2.1 b.seq H
       rw [hx]
       simp only
       cases c5 : followsS x.2.1 b.seq with
       | false =>
        rw [c5] at tf
        simp only [if_true]
        refine W_fn rfl rfl ?_
        simp only [go_sem, c_ref10_Check, eq_true c1, c2, c3, td, List.length_map, h1, w1, e0, e7, e1, tf, reduceCtorEq, ↓reduceIte, Nat.reduceAdd, Nat.reduceEqDiff, Nat.reduceLT, Int.reduceLE, Nat.reduceSub, Nat.reduceLeDiff, Nat.reduceMul, Int.reduceToNat, Int.reduceLT, Int.reduceEq, Int.reduceNeg, Nat.reduceBEq, Nat.reduceBNe]
       | true =>
        rw [c5] at tf
        simp only [Bool.true_eq_false, if_false]
        by_cases c6 : p.open_ ≥ 0
        ·cases c7 : b.txn with
         | false =>
          rw [c7] at td
          simp only [c6, true_and, if_true]
          refine W_fn rfl rfl ?_
          simp only [go_sem, c_ref10_Check, eq_true c1, c2, c3, td, List.length_map, h1, w1, e0, e7, e1, tf, c6, c7, reduceCtorEq, ↓reduceIte, Nat.reduceAdd, Nat.reduceEqDiff, Nat.reduceLT, Int.reduceLE, Nat.reduceSub, Nat.reduceLeDiff, Nat.reduceMul, Int.reduceToNat, Int.reduceLT, Int.reduceEq, Int.reduceNeg, Nat.reduceBEq, Nat.reduceBNe]
         | true =>
          rw [c7] at td
          simp only [c6, Bool.true_eq_false, and_false, if_false]
          refine W_fn rfl rfl ?_
          simp only [go_sem, c_ref10_Check, eq_true c1, c2, c3, td, List.length_map, h1, w1, e0, e7, e1, tf, c6, c7, reduceCtorEq, ↓reduceIte, Nat.reduceAdd, Nat.reduceEqDiff, Nat.reduceLT, Int.reduceLE, Nat.reduceSub, Nat.reduceLeDiff, Nat.reduceMul, Int.reduceToNat, Int.reduceLT, Int.reduceEq, Int.reduceNeg, Nat.reduceBEq, Nat.reduceBNe]
        ·simp only [c6, false_and, if_false]
         refine W_fn rfl rfl ?_
         simp only [go_sem, c_ref10_Check, eq_true c1, c2, c3, td, List.length_map, h1, w1, e0, e7, e1, tf, c6, reduceCtorEq, ↓reduceIte, Nat.reduceAdd, Nat.reduceEqDiff, Nat.reduceLT, Int.reduceLE, Nat.reduceSub, Nat.reduceLeDiff, Nat.reduceMul, Int.reduceToNat, Int.reduceLT, Int.reduceEq, Int.reduceNeg, Nat.reduceBEq, Nat.reduceBNe]
 ·rw [if_pos c1]
  cases known with
  | false =>
   simp only [if_true]
   refine W_fn rfl rfl ?_
   simp only [go_sem, c_ref10_Check, c1, reduceCtorEq, ↓reduceIte, Nat.reduceAdd, Nat.reduceEqDiff, Nat.reduceLT, Int.reduceLE, Nat.reduceSub, Nat.reduceLeDiff, Nat.reduceMul, Int.reduceToNat, Int.reduceLT, Int.reduceEq, Int.reduceNeg, Nat.reduceBEq, Nat.reduceBNe]
  | true =>
   simp only [Bool.true_eq_false, if_false]
   by_cases c2 : b.epoch < p.epoch
   ·rw [if_pos c2]
    refine W_fn rfl rfl ?_
    simp only [go_sem, c_ref10_Check, c1, c2, reduceCtorEq, ↓reduceIte, Nat.reduceAdd, Nat.reduceEqDiff, Nat.reduceLT, Int.reduceLE, Nat.reduceSub, Nat.reduceLeDiff, Nat.reduceMul, Int.reduceToNat, Int.reduceLT, Int.reduceEq, Int.reduceNeg, Nat.reduceBEq, Nat.reduceBNe]
   ·rw [if_neg c2]
    by_cases c4 : p.open_ < 0
    ·rw [if_pos c4]
     refine W_fn rfl rfl ?_
     simp only [go_sem, c_ref10_Check, c1, c2, c4, reduceCtorEq, ↓reduceIte, Nat.reduceAdd, Nat.reduceEqDiff, Nat.reduceLT, Int.reduceLE, Nat.reduceSub, Nat.reduceLeDiff, Nat.reduceMul, Int.reduceToNat, Int.reduceLT, Int.reduceEq, Int.reduceNeg, Nat.reduceBEq, Nat.reduceBNe]
    ·rw [if_neg c4]
     refine W_fn rfl rfl ?_
     simp only [go_sem, c_ref10_Check, c1, c2, c4, reduceCtorEq, ↓reduceIte, Nat.reduceAdd, Nat.reduceEqDiff, Nat.reduceLT, Int.reduceLE, Nat.reduceSub, Nat.reduceLeDiff, Nat.reduceMul, Int.reduceToNat, Int.reduceLT, Int.reduceEq, Int.reduceNeg, Nat.reduceBEq, Nat.reduceBNe]
def lastsP (p : Pr) (known : Bool) (b : Ba) : List La := if known = true ∧ p.epoch = b.epoch then p.last else []
def openP (p : Pr) (known : Bool) : Int := if known then p.open_ else -1
def newL (p : Pr) (known : Bool) (b : Ba) : List La := lastsP p known b ++ [(b.seq, lastS b.seq b.recs.length, b.base)]
def applyP (p : Pr) (known : Bool) (b : Ba) : Pr :=
 if b.mark ≠ 0 then ⟨b.prod, b.epoch, lastsP p known b, -1⟩
 else ⟨b.prod, b.epoch, (newL p known b).drop ((newL p known b).length - 5), if b.txn = true ∧ openP p known < 0 then b.base else openP p known⟩
theorem under_la (n : Nat) : ∀ (r : List La), AVal.underL n (r.map laV) = true
 | [] => rfl
 | x :: r => by simp [laV, AVal.underL, AVal.under, under_la n r]
theorem under_lad (n k : Nat) (r : List La) : AVal.underL n ((r.map laV).drop k) = true := by rw [← List.map_drop]; exact under_la n _
theorem ref_apply_spec (p : Pr) (known : Bool) (b : Ba) (hn : p.last.length ≤ 1000000) (H : Heap) :
  W n_ref10_Apply [p.V, .bool known, b.V] H = some ((applyP p known b).V, H) := by
 have t := fun H => ref_last_spec b.seq b.recs.length H (by omega)
 have b0 : (0 + p.last.length) * 24 ≤ maxBytes := by simp only [maxBytes]; omega
 have b0' : p.last.length * 24 ≤ maxBytes := by simp only [maxBytes]; omega
 have b1 : (p.last.length + 1) * 24 ≤ maxBytes := by simp only [maxBytes]; omega
 have b2 : (0 + 1) * 24 ≤ maxBytes := by simp only [maxBytes]; omega
 have n1 : ∀ (l : List La), l.map laV ++ [.agg [.int .i64 b.seq, .int .i64 (lastS b.seq b.recs.length), .int .i64 b.base]] = (l ++ [(b.seq, lastS b.seq b.recs.length, b.base)]).map laV := fun l => by simp [laV]
 have mx0 : mx (-4) 0 = 0 := rfl
 have w4 : IntKind.i64.wrap ((1 : Int) - 5) = -4 := rfl
 obtain ⟨m, hm, hm2⟩ : ∃ m : Int, mx (IntKind.i64.wrap (((p.last.length + 1 : Nat) : Int) - 5)) 0 = m ∧ m = ((p.last.length + 1 - 5 : Nat) : Int) := by
  refine ⟨_, rfl, ?_⟩
  rw [wrap_id (by unfold I64; omega)]
  unfold mx
  split <;> omega
 have m0 : 0 ≤ m := by omega
 have m1 : m ≤ ((p.last.length + 1 : Nat) : Int) := by omega
 have m3 : m.toNat = p.last.length + 1 - 5 := by omega
 unfold applyP openP
 unfold Pr.V Pr.cs Ba.V Ba.cs
 cases known with
 | false =>
  have hl : lastsP p false b = [] := by unfold lastsP; rw [if_neg (by simp)]
  by_cases c1 : b.mark = 0
  ·rw [if_neg (by omega)]
   simp only [newL, hl, if_true, Bool.false_eq_true, if_false]
   cases c7 : b.txn with
   | false =>
    simp only [Bool.false_eq_true, false_and, if_false]
    refine W_fn rfl rfl ?_
    simp only [go_sem, c_ref10_Apply, eq_true c1, apF, List.length_nil, b2, w4, mx0, slL, List.nil_append, List.length_cons, List.drop_zero, Int.toNat_zero, t, under_la, c7, List.length_map, reduceCtorEq, ↓reduceIte, Nat.reduceAdd, Nat.reduceEqDiff, Nat.reduceLT, Int.reduceLE, Nat.reduceSub, Nat.reduceLeDiff, Nat.reduceMul, Int.reduceToNat, Int.reduceLT, Int.reduceEq, Int.reduceNeg, Nat.reduceBEq, Nat.reduceBNe]
    all_goals rfl
   | true =>
    rw [if_pos (by simp)]
    refine W_fn rfl rfl ?_
    simp only [go_sem, c_ref10_Apply, eq_true c1, apF, List.length_nil, b2, w4, mx0, slL, List.nil_append, List.length_cons, List.drop_zero, Int.toNat_zero, t, under_la, c7, List.length_map, reduceCtorEq, ↓reduceIte, Nat.reduceAdd, Nat.reduceEqDiff, Nat.reduceLT, Int.reduceLE, Nat.reduceSub, Nat.reduceLeDiff, Nat.reduceMul, Int.reduceToNat, Int.reduceLT, Int.reduceEq, Int.reduceNeg, Nat.reduceBEq, Nat.reduceBNe]
    all_goals rfl
  ·rw [if_pos c1, hl]
   refine W_fn rfl rfl ?_
   simp only [go_sem, c_ref10_Apply, c1, under_la, reduceCtorEq, ↓reduceIte, Nat.reduceAdd, Nat.reduceEqDiff, Nat.reduceLT, Int.reduceLE, Nat.reduceSub, Nat.reduceLeDiff, Nat.reduceMul, Int.reduceToNat, Int.reduceLT, Int.reduceEq, Int.reduceNeg, Nat.reduceBEq, Nat.reduceBNe]
   all_goals rfl
 | true =>
  by_cases c2 : p.epoch = b.epoch
  ·have hl : lastsP p true b = p.last := by unfold lastsP; rw [if_pos ⟨rfl, c2⟩]
   by_cases c1 : b.mark = 0
   ·rw [if_neg (by omega)]
    simp only [newL, hl, if_true, Bool.false_eq_true, if_false]
    cases c7 : b.txn with
    | false =>
     simp only [Bool.false_eq_true, false_and, if_false]
     refine W_fn rfl rfl ?_
     simp only [go_sem, c_ref10_Apply, eq_true c1, eq_true c2, apF, apO, List.length_nil, List.nil_append, b0', b1, n1, List.length_append, List.length_cons, Nat.zero_add, hm, slL, m0, m1, m3, List.map_drop, under_lad, t, under_la, c7, List.length_map, reduceCtorEq, ↓reduceIte, Nat.reduceAdd, Nat.reduceEqDiff, Nat.reduceLT, Int.reduceLE, Nat.reduceSub, Nat.reduceLeDiff, Nat.reduceMul, Int.reduceToNat, Int.reduceLT, Int.reduceEq, Int.reduceNeg, Nat.reduceBEq, Nat.reduceBNe]
     all_goals rfl
    | true =>
     simp only [true_and]
     by_cases c8 : p.open_ < 0
     ·rw [if_pos c8]
      refine W_fn rfl rfl ?_
      simp only [go_sem, c_ref10_Apply, eq_true c1, eq_true c2, apF, apO, List.length_nil, List.nil_append, b0', b1, n1, List.length_append, List.length_cons, Nat.zero_add, hm, slL, m0, m1, m3, List.map_drop, under_lad, t, under_la, c7, c8, List.length_map, reduceCtorEq, ↓reduceIte, Nat.reduceAdd, Nat.reduceEqDiff, Nat.reduceLT, Int.reduceLE, Nat.reduceSub, Nat.reduceLeDiff, Nat.reduceMul, Int.reduceToNat, Int.reduceLT, Int.reduceEq, Int.reduceNeg, Nat.reduceBEq, Nat.reduceBNe]
      all_goals rfl
     ·rw [if_neg c8]
      refine W_fn rfl rfl ?_
      simp only [go_sem, c_ref10_Apply, eq_true c1, eq_true c2, apF, apO, List.length_nil, List.nil_append, b0', b1, n1, List.length_append, List.length_cons, Nat.zero_add, hm, slL, m0, m1, m3, List.map_drop, under_lad, t, under_la, c7, c8, List.length_map, reduceCtorEq, ↓reduceIte, Nat.reduceAdd, Nat.reduceEqDiff, Nat.reduceLT, Int.reduceLE, Nat.reduceSub, Nat.reduceLeDiff, Nat.reduceMul, Int.reduceToNat, Int.reduceLT, Int.reduceEq, Int.reduceNeg, Nat.reduceBEq, Nat.reduceBNe]
      all_goals rfl
   ·rw [if_pos c1, hl]
    refine W_fn rfl rfl ?_
    simp only [go_sem, c_ref10_Apply, eq_true c2, c1, apF, List.length_nil, List.length_map, List.nil_append, b0, under_la, reduceCtorEq, ↓reduceIte, Nat.reduceAdd, Nat.reduceEqDiff, Nat.reduceLT, Int.reduceLE, Nat.reduceSub, Nat.reduceLeDiff, Nat.reduceMul, Int.reduceToNat, Int.reduceLT, Int.reduceEq, Int.reduceNeg, Nat.reduceBEq, Nat.reduceBNe]
    all_goals rfl
  ·have hl : lastsP p true b = [] := by unfold lastsP; rw [if_neg (fun h => c2 h.2)]
   by_cases c1 : b.mark = 0
   ·rw [if_neg (by omega)]
    simp only [newL, hl, if_true, Bool.false_eq_true, if_false]
    cases c7 : b.txn with
    | false =>
     simp only [Bool.false_eq_true, false_and, if_false]
     refine W_fn rfl rfl ?_
     simp only [go_sem, c_ref10_Apply, eq_true c1, c2, apF, List.length_nil, b2, w4, mx0, slL, List.nil_append, List.length_cons, List.drop_zero, Int.toNat_zero, t, under_la, c7, List.length_map, reduceCtorEq, ↓reduceIte, Nat.reduceAdd, Nat.reduceEqDiff, Nat.reduceLT, Int.reduceLE, Nat.reduceSub, Nat.reduceLeDiff, Nat.reduceMul, Int.reduceToNat, Int.reduceLT, Int.reduceEq, Int.reduceNeg, Nat.reduceBEq, Nat.reduceBNe]
     all_goals rfl
    | true =>
     simp only [true_and]
     by_cases c8 : p.open_ < 0
     ·rw [if_pos c8]
      refine W_fn rfl rfl ?_
      simp only [go_sem, c_ref10_Apply, eq_true c1, c2, apF, List.length_nil, b2, w4, mx0, slL, List.nil_append, List.length_cons, List.drop_zero, Int.toNat_zero, t, under_la, c7, c8, List.length_map, reduceCtorEq, ↓reduceIte, Nat.reduceAdd, Nat.reduceEqDiff, Nat.reduceLT, Int.reduceLE, Nat.reduceSub, Nat.reduceLeDiff, Nat.reduceMul, Int.reduceToNat, Int.reduceLT, Int.reduceEq, Int.reduceNeg, Nat.reduceBEq, Nat.reduceBNe]
      all_goals rfl
     ·rw [if_neg c8]
      refine W_fn rfl rfl ?_
      simp only [go_sem, c_ref10_Apply, eq_true c1, c2, apF, List.length_nil, b2, w4, mx0, slL, List.nil_append, List.length_cons, List.drop_zero, Int.toNat_zero, t, under_la, c7, c8, List.length_map, reduceCtorEq, ↓reduceIte, Nat.reduceAdd, Nat.reduceEqDiff, Nat.reduceLT, Int.reduceLE, Nat.reduceSub, Nat.reduceLeDiff, Nat.reduceMul, Int.reduceToNat, Int.reduceLT, Int.reduceEq, Int.reduceNeg, Nat.reduceBEq, Nat.reduceBNe]
      all_goals rfl
   ·rw [if_pos c1, hl]
    refine W_fn rfl rfl ?_
    simp only [go_sem, c_ref10_Apply, c2, c1, under_la, reduceCtorEq, ↓reduceIte, Nat.reduceAdd, Nat.reduceEqDiff, Nat.reduceLT, Int.reduceLE, Nat.reduceSub, Nat.reduceLeDiff, Nat.reduceMul, Int.reduceToNat, Int.reduceLT, Int.reduceEq, Int.reduceNeg, Nat.reduceBEq, Nat.reduceBNe]
    all_goals rfl
end Go.Abs
