import Derived.Test.YtheaccppdikjgaaGreatDoorBC
import Derived.Test.YtheaccppdikjgaaGreatDoorN1
set_option linter.unusedVariables false
set_option linter.unusedSimpArgs false
namespace Go.Abs
open Go Go.RowKit
theorem W_clone (xs H) (h : xs.length * 1 ≤ maxBytes) : W n_slices_Clone_byte_byte_ [.list 1 xs .ro] H = some (.list 1 xs .own, H) := W_slices_Clone_byte_byte_ xs H h
theorem W_clip (xs : List AVal) (H : Heap) : W n_slices_Clip_byte_byte_ [.list 1 xs .ro] H = some (.list 1 xs .full, H) := by
 refine W_fn0 rfl rfl ?_
 simp only [go_sem, c_slices_Clip_byte_byte_, trim_same, sl_clip, simprocAttr]
theorem bits_spec (n : Int) (H : Heap) (h : I64 (n * 8)) : W n_varint_bitsOf [.int .i64 n] H = some (.int .i64 (n * 8), H) := by
 have e := wrap_id h
 refine W_fn0 rfl rfl ?_
 simp only [go_sem, trim_same, c_varint_bitsOf, e, simprocAttr]
def be (n : Int) (i : Nat) : Int := (n / 2 ^ (8 * (7 - i))) % 256
def bes (n : Int) (i : Nat) : List Int := ((List.range 8).drop i).map (be n)
theorem toB8 (n : Int) (hn : I64 n) (k : Nat) (hk : k ≤ 56) : IntKind.u8.wrap (shr .i64 n (k : Int)) = (n / 2 ^ k) % 256 ∧ IntKind.u8.wrap (shr .u64 (IntKind.u64.wrap n) (k : Int)) = (n / 2 ^ k) % 256 := by
 have e : min ((k : Int)).toNat IntKind.i64.bits = k := by show min _ 64 = _; omega
 have e' : min ((k : Int)).toNat IntKind.u64.bits = k := by show min _ 64 = _; omega
 rw [Num.wu8, Num.wu8, Num.wu64]
 unfold shr
 rw [e, e']
 refine ⟨rfl, ?_⟩
 have hp : (18446744073709551616 : Int) = 2 ^ k * 2 ^ (64 - k) := by rw [← Int.pow_add]; rw [show k + (64 - k) = 64 by omega]; rfl
 have hp2 : (2 : Int) ^ (64 - k) = 256 * 2 ^ (56 - k) := by rw [show (64 - k) = 8 + (56 - k) by omega, Int.pow_add]; rfl
 have hpos : (0 : Int) < 2 ^ k := Int.pow_pos (by decide)
 have h1 : n % 18446744073709551616 = n - 18446744073709551616 * (n / 18446744073709551616) := by omega
 rw [h1]
 have h2 : n - 18446744073709551616 * (n / 18446744073709551616) = n + 2 ^ k * (-(2 ^ (64 - k) * (n / 18446744073709551616))) := by
  rw [Int.mul_neg, ← Int.mul_assoc, ← hp]; omega
 rw [h2, Int.add_mul_ediv_left _ _ (by omega), hp2, Int.mul_assoc]
 omega
theorem long_loop (l0 : List Int) (n : Int) (hn : I64 n) (hl : l0.length + 8 ≤ 140737488355328) (d : Nat) : ∀ (i : Nat) (l : List Int) (H : Heap), i + d = 8 → l.length = l0.length + i →
  loopA W loopW (.ghost (.kill k_varint_Long_0) l_varint_Long_0) [(1, .int .i64 n), (5, bytes l .own), (9, .int .i64 (i : Int))] H = some (.exit 0, [(5, bytes (l ++ bes n i) .own)], H) := by
 induction d with
 | zero =>
  intro i l H hi hl'
  have : i = 8 := by omega
  subst this
  refine loop_step l_varint_Long_0.eq_1 k_varint_Long_0.eq_1 (by kernel_rfl) ?_
  have h1 : ¬ (((8 : Nat) : Int) < 8) := by omega
  simp only [go_sem, trim_same, h1, simprocAttr]
  simp [bes]
 | succ d ih =>
  intro i l H hi hl'
  have h1 : ((i : Int) < 8) := by omega
  have e1 : IntKind.i64.wrap (7 - (i : Int)) = 7 - (i : Int) := wrap_id (by unfold I64; omega)
  have e2 := bits_spec (7 - (i : Int)) H (by unfold I64; omega)
  have e3 : (7 - (i : Int)) * 8 = ((8 * (7 - i) : Nat) : Int) := by omega
  have e4 := (toB8 n hn (8 * (7 - i)) (by omega)).2
  rw [e3] at e2
  have e5 : (0 : Int) ≤ ((8 * (7 - i) : Nat) : Int) := by omega
  have e6 : IntKind.i64.wrap ((i : Int) + 1) = ((i + 1 : Nat) : Int) := by rw [wrap_id (by unfold I64; omega)]; omega
  have e7 : ints .u8 l ++ [.int .u8 (n / 2 ^ (8 * (7 - i)) % 256)] = ints .u8 (l ++ [be n i]) := by simp [be]
  have hb : ((ints .u8 l).length + 1) * 1 ≤ maxBytes := by simp [maxBytes]; omega
  have h2 := ih (i + 1) (l ++ [be n i]) H (by omega) (by simp; omega)
  refine loop_step l_varint_Long_0.eq_1 k_varint_Long_0.eq_1 (by kernel_rfl) ?_
  simp only [go_sem, trim_same, h1, e1, e2, e4, e5, e6, apO, hb, e7, simprocAttr]
  refine h2.trans ?_
  have : bes n i = be n i :: bes n (i + 1) := by
   unfold bes
   rw [List.drop_eq_getElem_cons (by simp; omega)]
   simp
  rw [this]; simp
theorem long_spec (l : List Int) (n : Int) (H : Heap) (hn : I64 n) (hl : l.length + 8 ≤ 140737488355328) : W n_varint_Long [bytes l .ro, .int .i64 n] H = some (bytes (l ++ bes n 0) .full, H) := by
 have h := long_loop l n hn hl 8 0 l H rfl (by simp)
 have hcl : (ints .u8 l).length * 1 ≤ maxBytes := by simp [maxBytes]; omega
 simp only [Int.natCast_zero] at h
 refine W_fn0 rfl rfl ?_
 simp only [go_sem, trim_same, c_varint_Long, W_clone, hcl, h, W_clip, simprocAttr]
theorem put_loop (f : Nat) : ∀ (l : List Int) (u : Int) (H : Heap), 0 ≤ u → u < 128 ^ (f + 1) → l.length + f + 1 ≤ 140737488355328 → ∃ p q, p ++ [q] = Vt.enc f u ∧ 0 ≤ q ∧ q < 128 ∧
  loopA W loopW (.ghost (.kill k_varint_Put_0) l_varint_Put_0) [(5, bytes l .own), (6, .int .u64 u)] H = some (.exit 0, [(5, bytes (l ++ p) .own), (6, .int .u64 q)], H) := by
 induction f with
 | zero =>
  intro l u H h0 h1 hl
  rw [Vt.pow128] at h1
  have : (128 : Int) ^ 0 = 1 := rfl
  refine ⟨[], u, rfl, h0, by omega, loop_step l_varint_Put_0.eq_1 k_varint_Put_0.eq_1 (by kernel_rfl) ?_⟩
  have hu : ¬ (u ≥ 128) := by omega
  simp only [go_sem, trim_same, hu, decide_false, reduceCtorEq, ne_eq, not_false_eq_true, Bool.false_eq_true, ↓reduceIte, Nat.reduceAdd, Nat.reduceEqDiff, Nat.reduceLT, List.append_nil, simprocAttr]
 | succ f ih =>
  intro l u H h0 h1 hl
  rw [Vt.pow128] at h1
  by_cases h : u ≥ 128
  ·obtain ⟨p, q, g1, g2, g3, g4⟩ := ih (l ++ [u % 128 + 128]) (u / 128) H (by omega) (by omega) (by simp; omega)
   refine ⟨(u % 128 + 128) :: p, q, by rw [Vt.enc, if_pos h, ← g1]; rfl, g2, g3, loop_step l_varint_Put_0.eq_1 k_varint_Put_0.eq_1 (by kernel_rfl) ?_⟩
   have e1 : bits .or .u8 (IntKind.u8.wrap u) 128 = u % 128 + 128 := by
    rw [Num.wu8, Num.or128_u8 _ (by omega) (by omega)]; omega
   have e2 : shr .u64 u 7 = u / 128 := rfl
   have e3 : (ints .u8 l).length = l.length := by simp
   have e4 : ints .u8 l ++ [.int .u8 (u % 128 + 128)] = ints .u8 (l ++ [u % 128 + 128]) := by simp
   have hb : ((ints .u8 l).length + 1) * 1 ≤ maxBytes := by simp [maxBytes]; omega
   simp only [go_sem, trim_same, h, decide_true, reduceCtorEq, ne_eq, not_false_eq_true, Bool.false_eq_true, ↓reduceIte, Nat.reduceAdd, Nat.reduceEqDiff, Nat.reduceLT, fs_int, e1, e2, s_shr, Int.reduceLE, apO, hb, e4, simprocAttr]
   exact g4.trans (by simp)
  ·refine ⟨[], u, by rw [Vt.enc, if_neg h]; rfl, h0, by omega, loop_step l_varint_Put_0.eq_1 k_varint_Put_0.eq_1 (by kernel_rfl) ?_⟩
   simp only [go_sem, trim_same, h, decide_false, reduceCtorEq, ne_eq, not_false_eq_true, Bool.false_eq_true, ↓reduceIte, Nat.reduceAdd, Nat.reduceEqDiff, Nat.reduceLT, List.append_nil, simprocAttr]
theorem zig_own' (n : Int) (h : I64 n) : bits .xor .u64 (shl .u64 (IntKind.u64.wrap n) 1) (IntKind.u64.wrap (shr .i64 n 63)) = Num.zig n := Num.zig_own n h
theorem put_spec (l : List Int) (n : Int) (H : Heap) (hn : I64 n) (hl : l.length + 10 ≤ 140737488355328) : W n_varint_Put [bytes l .ro, .int .i64 n] H = some (bytes (l ++ Vt.enc 9 (Num.zig n)) .full, H) := by
 have hz := Num.zig_range n hn
 obtain ⟨p, q, g1, g2, g3, g4⟩ := put_loop 9 l (Num.zig n) H hz.1 (Int.lt_trans hz.2 (by decide)) (by omega)
 have hp : p.length < 10 := by
  have := Vt.enc_len' 9 (Num.zig n); rw [← g1] at this; simp at this; omega
 have hb : ((ints .u8 (l ++ p)).length + 1) * 1 ≤ maxBytes := by simp [maxBytes]; omega
 have e1 : IntKind.u8.wrap q = q := by rw [Num.wu8]; omega
 have hcl : (ints .u8 l).length * 1 ≤ maxBytes := by simp [maxBytes]; omega
 refine W_fn0 rfl rfl ?_
 simp only [go_sem, trim_same, c_varint_Put, W_clone, hcl, W_clip, s_shl, s_shr, zig_own' n hn, g4, e1, fs_int, apO, hb, Int.reduceLE, reduceCtorEq, ne_eq, not_false_eq_true, Bool.false_eq_true, ↓reduceIte, Nat.reduceAdd, Nat.reduceEqDiff, Nat.reduceLT, Bool.not_false, Bool.and_self, simprocAttr]
 rw [← g1]; simp
theorem text_spec (l : List Int) (s : List UInt8) (H : Heap) (hl : l.length + s.length + 10 ≤ 140737488355328) : W n_varint_Text [bytes l .ro, .str s] H = some (bytes (l ++ Vt.enc 9 (Num.zig s.length) ++ s.map fun b => (b.toNat : Int)) .full, H) := by
 have h1 := put_spec l s.length H (by unfold I64; omega) (by omega)
 have h2 := Vt.enc_len' 9 (Num.zig s.length)
 have hb : ((ints .u8 (l ++ Vt.enc 9 (Num.zig s.length))).length + (encBytes s).length) * 1 ≤ maxBytes := by simp [maxBytes, encBytes]; omega
 refine W_fn0 rfl rfl ?_
 simp only [go_sem, trim_same, c_varint_Text, h1, apF, hb, W_clip, simprocAttr]
 simp [encBytes]
theorem of_spec (l : List Int) (H : Heap) (hb : ∀ x ∈ l, 0 ≤ x ∧ x < 256) (hl : l.length ≤ 140737488355328) : W n_crc_Of [bytes l .ro] H = some (.int .u32 (crcN (toN l) : Nat), H) := by
 refine W_crc_Of ?_
 show (if (ints .u8 l).length ≤ maxBytes then _ else none) = _
 rw [if_pos (by simpa [maxBytes] using hl), nats8_ints l hb]; rfl
theorem fz_full (H : Heap) : agh (.freeze 0) [(0, .list 1 [] .full)] H = some ([(0, .list 1 [] .full)], H) := rfl
theorem fz_uniq (H : Heap) : agh (.freeze 0) [(0, .list 1 [] .uniq)] H = some ([(0, .list 1 [] .own)], H) := rfl
theorem grow_spec (n : Int) (H : Heap) (h0 : 0 ≤ n) (h1 : n ≤ 140737488355328) : W n_slices_Grow_byte_byte_ [.list 1 [] .full, .int .i64 n] H = some (.list 1 [] (if n = 0 then .full else .own), H) := by
 have e1 : IntKind.i64.wrap n = n := wrap_id (by unfold I64; omega)
 have e2 : ¬ n < 0 := by omega
 have e0 : IntKind.i64.wrap 0 = 0 := rfl
 by_cases h : n = 0
 ·subst h
  refine W_fn0 rfl rfl ?_
  simp only [go_sem, trim_same, c_slices_Grow_byte_byte_, List.length_nil, Int.natCast_zero, e0, Int.sub_zero, gt_iff_lt, Int.lt_irrefl, fz_full, fz_uniq, simprocAttr]
 ·have e3 : n > 0 := by omega
  have e4 : 0 < n ∧ n * 1 ≤ maxBytes := ⟨e3, by show n * 1 ≤ 140737488355328; omega⟩
  have e5 : (0 : Int) ≤ 0 ∧ (0 : Int) ≤ ((List.replicate n.toNat (AVal.int .u8 0)).length : Int) := ⟨by omega, by omega⟩
  refine W_fn0 rfl rfl ?_
  simp only [go_sem, trim_same, c_slices_Grow_byte_byte_, List.length_nil, Int.natCast_zero, e0, e1, e2, Int.sub_zero, e3, e4, e5, h, fz_uniq, gt_iff_lt, List.take_zero, Int.toNat_zero, simprocAttr]
def rowsOf (ls : List (List Int)) : List AVal := ls.map fun l => bytes l .ro
def total (ls : List (List Int)) : Nat := ls.flatten.length
theorem total_cons (l ls) : total (l :: ls) = l.length + total ls := by simp [total]
theorem total_app (p r) : total (p ++ r) = total p + total r := by simp [total]
theorem concat_loop0 (ls : List (List Int)) (ht : total ls ≤ 140737488355328) (hn : ls.length ≤ 140737488355328) (X : AVal) (H : Heap) (r : List (List Int)) : ∀ (p : List (List Int)), ls = p ++ r →
  loopA W loopW (.ghost (.kill k_slices_Concat_byte_byte__0) l_slices_Concat_byte_byte__0) [(0, .list 1 (rowsOf ls) .ro), (3, .int .i64 (total p : Nat)), (9, .list 1 (rowsOf ls) .ro), (10, .int .i64 (ls.length : Nat)), (11, .int .i64 (p.length : Nat))] H =
   some (.exit 0, [(0, .list 1 (rowsOf ls) .ro), (3, .int .i64 (total ls : Nat))], H) := by
 induction r with
 | nil =>
  intro p hp
  rw [List.append_nil] at hp
  subst hp
  have h1 : ¬ ((ls.length : Int) < (ls.length : Int)) := by omega
  refine loop_step l_slices_Concat_byte_byte__0.eq_1 k_slices_Concat_byte_byte__0.eq_1 (by kernel_rfl) ?_
  simp only [go_sem, h1, simprocAttr]
 | cons x r ih =>
  intro p hp
  have hlen : p.length < ls.length := by rw [hp]; simp
  have h1 : ((p.length : Int) < (ls.length : Int)) := by omega
  have e0 : (0 : Int) ≤ (p.length : Int) := by omega
  have e7 : ((p.length : Nat) : Int).toNat = p.length := by omega
  have e1 : (rowsOf ls)[p.length]? = some (bytes x .ro) := by rw [hp]; simp [rowsOf]
  have e6 : IntKind.i64.wrap ((p.length : Int) + 1) = ((p.length + 1 : Nat) : Int) := by rw [wrap_id (by unfold I64; omega)]; omega
  have ht' : total p + (x.length + total r) ≤ 140737488355328 := by rw [hp, total_app, total_cons] at ht; exact ht
  have e8 : IntKind.i64.wrap ((total p : Int) + (x.length : Int)) = ((total p + x.length : Nat) : Int) := by rw [wrap_id (by unfold I64; omega)]; omega
  have e9 : ¬ (((total p + x.length : Nat) : Int) < 0) := by omega
  have h2 := ih (p ++ [x]) (by rw [hp]; simp)
  have e10 : total (p ++ [x]) = total p + x.length := by simp [total]
  rw [e10] at h2
  simp only [List.length_append, List.length_cons, List.length_nil, Nat.zero_add] at h2
  refine loop_step l_slices_Concat_byte_byte__0.eq_1 k_slices_Concat_byte_byte__0.eq_1 (by kernel_rfl) ?_
  simp only [go_sem, h1, e0, e7, e1, e8, e9, e6, List.length_map, simprocAttr]
  exact h2
theorem concat_loop1 (ls : List (List Int)) (ht : total ls ≤ 140737488355328) (hn : ls.length ≤ 140737488355328) (H : Heap) (r : List (List Int)) : ∀ (p : List (List Int)), ls = p ++ r →
  loopA W loopW (.ghost (.kill k_slices_Concat_byte_byte__1) l_slices_Concat_byte_byte__1) [(6, bytes p.flatten .own), (25, .list 1 (rowsOf ls) .ro), (26, .int .i64 (ls.length : Nat)), (27, .int .i64 (p.length : Nat))] H =
   some (.exit 2, [(6, bytes ls.flatten .own)], H) := by
 induction r with
 | nil =>
  intro p hp
  rw [List.append_nil] at hp
  subst hp
  have h1 : ¬ ((ls.length : Int) < (ls.length : Int)) := by omega
  refine loop_step l_slices_Concat_byte_byte__1.eq_1 k_slices_Concat_byte_byte__1.eq_1 (by kernel_rfl) ?_
  simp only [go_sem, h1, simprocAttr]
 | cons x r ih =>
  intro p hp
  have hlen : p.length < ls.length := by rw [hp]; simp
  have h1 : ((p.length : Int) < (ls.length : Int)) := by omega
  have e0 : (0 : Int) ≤ (p.length : Int) := by omega
  have e7 : ((p.length : Nat) : Int).toNat = p.length := by omega
  have e1 : (rowsOf ls)[p.length]? = some (bytes x .ro) := by rw [hp]; simp [rowsOf]
  have e6 : IntKind.i64.wrap ((p.length : Int) + 1) = ((p.length + 1 : Nat) : Int) := by rw [wrap_id (by unfold I64; omega)]; omega
  have ht' : p.flatten.length + (x.length + total r) ≤ 140737488355328 := by rw [hp, total_app, total_cons] at ht; exact ht
  have hb : ((ints .u8 p.flatten).length + (ints .u8 x).length) * 1 ≤ maxBytes := by simp only [List.length_map, maxBytes]; omega
  have e8 : ints .u8 p.flatten ++ ints .u8 x = ints .u8 (p ++ [x]).flatten := by simp
  have h2 := ih (p ++ [x]) (by rw [hp]; simp)
  simp only [List.length_append, List.length_cons, List.length_nil, Nat.zero_add] at h2
  refine loop_step l_slices_Concat_byte_byte__1.eq_1 k_slices_Concat_byte_byte__1.eq_1 (by kernel_rfl) ?_
  simp only [go_sem, h1, e0, e7, e1, e6, apO, hb, e8, simprocAttr]
  exact h2
theorem rows_len (ls) : (rowsOf ls).length = ls.length := by simp [rowsOf]
theorem concat_spec (ls : List (List Int)) (h0 : 0 < total ls) (ht : total ls ≤ 140737488355328) (hn : ls.length ≤ 140737488355328) (H : Heap) :
  W n_slices_Concat_byte_byte_ [.list 1 (rowsOf ls) .ro] H = some (bytes ls.flatten .own, H) := by
 have h1 := concat_loop0 ls ht hn .any H ls [] rfl
 have h2 : loopA W loopW (.ghost (.kill k_slices_Concat_byte_byte__1) l_slices_Concat_byte_byte__1) [(6, .list 1 [] .own), (25, .list 1 (rowsOf ls) .ro), (26, .int .i64 (ls.length : Nat)), (27, .int .i64 0)] H = some (.exit 2, [(6, bytes ls.flatten .own)], H) := concat_loop1 ls ht hn H ls [] rfl
 have h3 := grow_spec (total ls : Nat) H (by omega) (by omega)
 rw [if_neg (by omega)] at h3
 have e0 : total [] = 0 := rfl
 simp only [e0, List.length_nil, Int.natCast_zero, List.flatten_nil, List.map_nil] at h1
 refine W_fn0 rfl rfl ?_
 simp only [go_sem, trim_same, c_slices_Concat_byte_byte_, rows_len, h1, h2, h3, simprocAttr]
def le4 (c : Int) : List Int := [c % 256, c / 256 % 256, c / 65536 % 256, c / 16777216 % 256]
theorem crc_put_spec (l : List Int) (H : Heap) (hb : ∀ x ∈ l, 0 ≤ x ∧ x < 256) (hl : l.length + 4 ≤ 140737488355328) :
  W n_crc_Put [bytes l .ro] H = some (bytes (le4 (crcN (toN l) : Nat) ++ l) .own, H) := by
 have h1 := of_spec l H hb (by omega)
 have h2 : W n_slices_Concat_byte_byte_ [.list 1 [.list 1 [.int .u8 ((crcN (toN l) : Int) % 256), .int .u8 ((crcN (toN l) : Int) / 256 % 256), .int .u8 ((crcN (toN l) : Int) / 65536 % 256), .int .u8 ((crcN (toN l) : Int) / 16777216 % 256)] .ro, .list 1 (ints .u8 l) .ro] .ro] H =
   some (bytes (le4 (crcN (toN l) : Nat) ++ l) .own, H) := by
  have := concat_spec [le4 (crcN (toN l) : Nat), l] (by simp [total, le4]) (by simp [total, le4]; omega) (by simp) H
  rw [show [le4 (crcN (toN l) : Nat), l].flatten = le4 (crcN (toN l) : Nat) ++ l by simp] at this
  exact this
 have e1 : IntKind.u8.wrap (crcN (toN l) : Nat) = (crcN (toN l) : Int) % 256 := Num.wu8 _
 have e2 : IntKind.u8.wrap (shr .u32 (crcN (toN l) : Nat) 8) = (crcN (toN l) : Int) / 256 % 256 := Num.wu8 _
 have e3 : IntKind.u8.wrap (shr .u32 (crcN (toN l) : Nat) 16) = (crcN (toN l) : Int) / 65536 % 256 := Num.wu8 _
 have e4 : IntKind.u8.wrap (shr .u32 (crcN (toN l) : Nat) 24) = (crcN (toN l) : Int) / 16777216 % 256 := Num.wu8 _
 refine W_fn0 rfl rfl ?_
 simp only [go_sem, trim_same, c_crc_Put, h1, e1, e2, e3, e4, fs_int, h2, simprocAttr]
def okC (b : UInt8) : Bool := decide (97 ≤ b.toNat ∧ b.toNat ≤ 122) || decide (48 ≤ b.toNat ∧ b.toNat ≤ 57) || decide (b.toNat = 46)
theorem okC_lt {b : UInt8} (h : okC b = true) : b.toNat < 128 := by
 simp only [okC, Bool.or_eq_true, decide_eq_true_eq] at h
 omega
theorem one_spec (b : UInt8) (h : okC b = true) (H : Heap) : W n_name_one [.int .i32 (b.toNat : Nat)] H = some (.bool true, H) := by
 have hb := okC_lt h
 simp only [okC, Bool.or_eq_true, decide_eq_true_eq] at h
 have e1 : ¬ ((b.toNat : Int) > 255) := by omega
 refine W_fn rfl rfl ?_
 by_cases c1 : (b.toNat : Int) ≥ 97
 ·by_cases c2 : (b.toNat : Int) ≤ 122
  ·simp only [go_sem, c_name_one, c1, c2, simprocAttr]
  ·exact absurd h (by omega)
 ·by_cases c3 : (b.toNat : Int) ≥ 48
  ·have c4 : (b.toNat : Int) ≤ 57 := by omega
   simp only [go_sem, c_name_one, c1, c3, c4, simprocAttr]
  ·have c5 : (b.toNat : Int) = 46 := by omega
   simp only [go_sem, c_name_one, c1, c3, c5, simprocAttr]
theorem dec_ascii (s : List UInt8) (pos : Nat) (b : UInt8) (hs : s[pos]? = some b) (hb : b.toNat < 128) : Utf8.decode (bytesOf s) pos = (b.toNat, 1) := by
 have h0 : (bytesOf s).get! (pos + 0) = b := by
  show (bytesOf s).data[pos + 0]! = b
  simp only [bytesOf, Nat.add_zero]
  rw [getElem!_def]
  simp [hs]
 unfold Utf8.decode
 simp only [h0]
 rw [if_pos hb]
theorem right_loop (s : List UInt8) (hs : ∀ b ∈ s, okC b = true) (H : Heap) (d : Nat) : ∀ (pos : Nat), pos + d = s.length →
  loopA W loopW (.ghost (.kill k_name_Right_0) l_name_Right_0) [(0, .str s), (7, .ptr (pt H 0) 0)] (hx H [.iter s pos]) = some (.exit 0, [(0, .str s)], hx H [.iter s s.length]) := by
 induction d with
 | zero =>
  intro pos hp
  have : pos = s.length := by omega
  subst this
  have c : ¬ (s.length < s.length) := by omega
  refine loop_step l_name_Right_0.eq_1 k_name_Right_0.eq_1 (by kernel_rfl) ?_
  simp only [go_sem, snB, c, simprocAttr]
 | succ d ih =>
  intro pos hp
  have c : pos < s.length := by omega
  obtain ⟨b, hb⟩ : ∃ b, s[pos]? = some b := ⟨s[pos], by rw [List.getElem?_eq_getElem c]⟩
  have hm : b ∈ s := List.mem_of_getElem? hb
  have hd := dec_ascii s pos b hb (okC_lt (hs b hm))
  have t := one_spec b (hs b hm)
  have h2 := ih (pos + 1) (by omega)
  refine loop_step l_name_Right_0.eq_1 k_name_Right_0.eq_1 (by kernel_rfl) ?_
  simp only [go_sem, snB, c, hd, t, simprocAttr]
  exact h2
theorem cnt_loop (s : List UInt8) (hs : ∀ b ∈ s, okC b = true) (hl : s.length ≤ 1000) (H : Heap) (d : Nat) : ∀ (pos : Nat), pos + d = s.length →
  loopA W loopW (.ghost (.kill k_name_Count_0) l_name_Count_0) [(3, .int .i64 (pos : Nat)), (5, .ptr (pt H 0) 0)] (hx H [.iter s pos]) = some (.exit 0, [(3, .int .i64 (s.length : Nat))], hx H [.iter s s.length]) := by
 induction d with
 | zero =>
  intro pos hp
  have : pos = s.length := by omega
  subst this
  have c : ¬ (s.length < s.length) := by omega
  refine loop_step l_name_Count_0.eq_1 k_name_Count_0.eq_1 (by kernel_rfl) ?_
  simp only [go_sem, snB, c, simprocAttr]
 | succ d ih =>
  intro pos hp
  have c : pos < s.length := by omega
  obtain ⟨b, hb⟩ : ∃ b, s[pos]? = some b := ⟨s[pos], by rw [List.getElem?_eq_getElem c]⟩
  have hm : b ∈ s := List.mem_of_getElem? hb
  have hd := dec_ascii s pos b hb (okC_lt (hs b hm))
  have e6 : IntKind.i64.wrap ((pos : Int) + 1) = ((pos + 1 : Nat) : Int) := by rw [wrap_id (by unfold I64; omega)]; omega
  have h2 := ih (pos + 1) (by omega)
  refine loop_step l_name_Count_0.eq_1 k_name_Count_0.eq_1 (by kernel_rfl) ?_
  simp only [go_sem, snB, c, hd, e6, simprocAttr]
  exact h2
theorem count_specN (s : List UInt8) (hs : ∀ b ∈ s, okC b = true) (hl : s.length ≤ 1000) (H : Heap) : W n_name_Count [.str s] H = some (.int .i64 (s.length : Nat), H) := by
 have h := cnt_loop s hs hl H s.length 0 (by omega)
 simp only [Int.natCast_zero] at h
 refine W_fn rfl rfl ?_
 simp only [go_sem, c_name_Count, List.length_nil, List.nil_append, h, simprocAttr]
theorem nright_spec (s : List UInt8) (hs : ∀ b ∈ s, okC b = true) (h1 : 1 ≤ s.length) (h2 : s.length ≤ 40) (H : Heap) : W n_name_Right [.str s] H = some (.bool true, H) := by
 have h := right_loop s hs H s.length 0 (by omega)
 have t := fun H => count_specN s hs (by omega) H
 have c1 : (s.length : Int) ≥ 1 := by omega
 have c2 : (s.length : Int) ≤ 40 := by omega
 refine W_fn rfl rfl ?_
 simp only [go_sem, c_name_Right, List.length_nil, List.nil_append, h, t, c1, c2, simprocAttr]
def digs (n : Nat) : List UInt8 := if n < 10 then [UInt8.ofNat (48 + n)] else [UInt8.ofNat (48 + n / 10), UInt8.ofNat (48 + n % 10)]
def logN (n : Nat) : List UInt8 := List.replicate (20 - (digs n).length) 48 ++ digs n ++ [46, 108, 111, 103]
def digD : List UInt8 := [48,49,50,51,52,53,54,55,56,57,97,98,99,100,101,102,103,104,105,106,107,108,109,110,111,112,113,114,115,116,117,118,119,120,121,122]
def digS : List UInt8 := [48,48,48,49,48,50,48,51,48,52,48,53,48,54,48,55,48,56,48,57,49,48,49,49,49,50,49,51,49,52,49,53,49,54,49,55,49,56,49,57,50,48,50,49,50,50,50,51,50,52,50,53,50,54,50,55,50,56,50,57,51,48,51,49,51,50,51,51,51,52,51,53,51,54,51,55,51,56,51,57,52,48,52,49,52,50,52,51,52,52,52,53,52,54,52,55,52,56,52,57,53,48,53,49,53,50,53,51,53,52,53,53,53,54,53,55,53,56,53,57,54,48,54,49,54,50,54,51,54,52,54,53,54,54,54,55,54,56,54,57,55,48,55,49,55,50,55,51,55,52,55,53,55,54,55,55,55,56,55,57,56,48,56,49,56,50,56,51,56,52,56,53,56,54,56,55,56,56,56,57,57,48,57,49,57,50,57,51,57,52,57,53,57,54,57,55,57,56,57,57]
set_option maxRecDepth 20000 in
theorem small_spec (n : Nat) (h : n < 100) (H : Heap) : W n_internal_strconv_small [.int .i64 (n : Nat)] H = some (.str (digs n), H) := by
 have w1 : IntKind.i64.wrap ((n : Int) + 1) = ((n + 1 : Nat) : Int) := by rw [wrap_id (by unfold I64; omega)]; omega
 have w2 : IntKind.i64.wrap ((n : Int) * 2) = ((2 * n : Nat) : Int) := by rw [wrap_id (by unfold I64; omega)]; omega
 have w3 : IntKind.i64.wrap (((2 * n : Nat) : Int) + 2) = ((2 * n + 2 : Nat) : Int) := by rw [wrap_id (by unfold I64; omega)]; omega
 have b1 : n < 10 → bounds 36 true true false [.int .i64 (n : Nat), .int .i64 ((n + 1 : Nat) : Int)] = some (n, n + 1, none) := fun h => by
  simp only [bounds, natOf]
  rw [if_pos (by omega)]
  simp only [Option.bind_some]
  rw [if_pos (by omega)]
  simp
 have b2 : bounds 200 true true false [.int .i64 ((2 * n : Nat) : Int), .int .i64 ((2 * n + 2 : Nat) : Int)] = some (2 * n, 2 * n + 2, none) := by
  simp only [bounds, natOf]
  rw [if_pos (by omega)]
  simp only [Option.bind_some]
  rw [if_pos (by omega)]
  simp; omega
 have ch : ∀ n : Nat, n < 100 → digs n = if n < 10 then (digD.take (n + 1)).drop n else (digS.take (2 * n + 2)).drop (2 * n) := by
  have : (List.range 100).all (fun n => digs n == if n < 10 then (digD.take (n + 1)).drop n else (digS.take (2 * n + 2)).drop (2 * n)) = true := by decide +kernel
  intro n hn
  have := List.all_eq_true.1 this n (List.mem_range.2 hn)
  exact eq_of_beq this
 rw [ch n h]
 have lD : digD.length = 36 := rfl
 have lS : digS.length = 200 := rfl
 have sD : ([48,49,50,51,52,53,54,55,56,57,97,98,99,100,101,102,103,104,105,106,107,108,109,110,111,112,113,114,115,116,117,118,119,120,121,122] : List UInt8) = digD := rfl
 have fn : c_internal_strconv_small = c_internal_strconv_small := rfl
 refine W_fn rfl rfl ?_
 by_cases c : n < 10
 ·rw [if_pos c]
  have c' : (n : Int) < 10 := by omega
  have b1 := b1 c
  simp only [go_sem, c_internal_strconv_small, c', w1, b1, simprocAttr]
  first | done | rfl
 ·rw [if_neg c]
  have c' : ¬ ((n : Int) < 10) := by omega
  simp only [go_sem, c_internal_strconv_small, c', w2, w3, b2, simprocAttr]
  first | done | rfl
theorem fmtI_spec (n : Nat) (h : n < 100) (H : Heap) : W n_strconv_FormatInt [.int .i64 (n : Nat), .int .i64 10] H = some (.str (digs n), H) := by
 have t := fun H => small_spec n h H
 have c1 : (0 : Int) ≤ (n : Int) := by omega
 have c2 : (n : Int) < 100 := by omega
 have u : ∀ H, W n_internal_strconv_FormatInt [.int .i64 (n : Nat), .int .i64 10] H = some (.str (digs n), H) := fun H => by
  refine W_fn rfl rfl ?_
  simp only [go_sem, c_internal_strconv_FormatInt, c1, c2, t, simprocAttr]
 refine W_fn rfl rfl ?_
 simp only [go_sem, c_strconv_FormatInt, u, simprocAttr]
theorem pre1_spec (a c : UInt8) (s : List UInt8) (H : Heap) : W n_strings_HasPrefix [.str (a :: s), .str [c]] H = some (.bool (a == c), H) := by
 have e : ([a] == [c]) = (a == c) := by simp
 have c1 : ((s.length + 1 : Nat) : Int) ≥ 1 := by omega
 have b1 : bounds (s.length + 1) false true false [.int .i64 1] = some (0, 1, none) := by simp [bounds, natOf]; omega
 have t : ∀ H, W n_internal_stringslite_HasPrefix [.str (a :: s), .str [c]] H = some (.bool (a == c), H) := fun H => by
  refine W_fn rfl rfl ?_
  simp only [go_sem, c_internal_stringslite_HasPrefix, List.length_cons, List.length_nil, Nat.zero_add, c1, b1, List.take_succ_cons, List.take_zero, List.drop_zero, e, simprocAttr]
  first | done | rfl
 refine W_fn rfl rfl ?_
 simp only [go_sem, c_strings_HasPrefix, t, simprocAttr]
theorem mul_spec (k : Nat) (hk : k ≤ 64) (H : Heap) : W n_math_bits_Mul [.int .u64 1, .int .u64 (k : Nat)] H = some (.tuple [.int .u64 0, .int .u64 (k : Nat)], H) := by
 have m64 : ∀ H, W n_math_bits_Mul64 [.int .u64 1, .int .u64 (k : Nat)] H = some (.tuple [.int .u64 0, .int .u64 (k : Nat)], H) := fun H => by
  have hk' : k ∈ List.range 65 := List.mem_range.2 (by omega)
  have a1 : bits .and .u64 ((k : Nat) : Int) 4294967295 = (k : Nat) := by
   have : (List.range 65).all (fun k => decide (bits .and .u64 ((k : Nat) : Int) 4294967295 = (k : Nat))) = true := by decide +kernel
   exact of_decide_eq_true (List.all_eq_true.1 this k hk')
  have a0 : bits .and .u64 0 4294967295 = 0 := by decide +kernel
  have b0 : bits .and .u64 1 4294967295 = 1 := by decide +kernel
  have s1 : shr .u64 ((k : Nat) : Int) 32 = 0 := by
   have : (List.range 65).all (fun k => decide (shr .u64 ((k : Nat) : Int) 32 = 0)) = true := by decide +kernel
   exact of_decide_eq_true (List.all_eq_true.1 this k hk')
  have s0 : shr .u64 1 32 = 0 := by decide +kernel
  have s2 : shr .u64 0 32 = 0 := by decide +kernel
  have w1 : IntKind.u64.wrap ((k : Nat) : Int) = (k : Nat) := by rw [Num.wu64]; omega
  have w0 : IntKind.u64.wrap 0 = 0 := by decide +kernel
  refine W_fn rfl rfl ?_
  simp only [go_sem, c_math_bits_Mul64, a1, a0, b0, s1, s0, s2, Int.zero_mul, Int.mul_zero, Int.one_mul, Int.zero_add, Int.add_zero, w1, w0, simprocAttr]
  first | done | rfl
 refine W_fn rfl rfl ?_
 simp only [go_sem, c_math_bits_Mul, m64, simprocAttr]
set_option maxRecDepth 20000 in
set_option maxHeartbeats 1000000 in
theorem repeat_spec (k : Nat) (hk : k = 18 ∨ k = 19) (H : Heap) : W n_strings_Repeat [.str [48], .int .i64 (k : Nat)] H = some (.str (List.replicate k 48), H) := by
 have w1 : IntKind.u64.wrap 1 = 1 := by decide +kernel
 have w2 : IntKind.u64.wrap 18 = 18 := by decide +kernel
 have w3 : IntKind.u64.wrap 19 = 19 := by decide +kernel
 have w4 : IntKind.i64.wrap 18 = 18 := by decide +kernel
 have w5 : IntKind.i64.wrap 19 = 19 := by decide +kernel
 have m18 : ∀ H, W n_math_bits_Mul [.int .u64 1, .int .u64 18] H = some (.tuple [.int .u64 0, .int .u64 18], H) := mul_spec 18 (by omega)
 have m19 : ∀ H, W n_math_bits_Mul [.int .u64 1, .int .u64 19] H = some (.tuple [.int .u64 0, .int .u64 19], H) := mul_spec 19 (by omega)
 have b18 : bounds 64 false true false [.int .i64 18] = some (0, 18, none) := rfl
 have b19 : bounds 64 false true false [.int .i64 19] = some (0, 19, none) := rfl
 have e1 : ((32 : UInt8) == 48) = false := by decide
 have e2 : ((45 : UInt8) == 48) = false := by decide
 have e3 : ((48 : UInt8) == 48) = true := by decide
 have t48 : ((UInt8.toNat 48 : Nat) : Int) = 48 := rfl
 rcases hk with rfl | rfl
 ·refine W_fn rfl rfl ?_
  simp only [go_sem, c_strings_Repeat, w1, w2, w4, m18, pre1_spec, t48, Int.reduceGT, Int.reduceLT, Int.reduceGE, Int.reduceLE, Int.reduceEq, e1, e2, e3, b18, simprocAttr]
  first | done | rfl
 ·refine W_fn rfl rfl ?_
  simp only [go_sem, c_strings_Repeat, w1, w3, w5, m19, pre1_spec, t48, Int.reduceGT, Int.reduceLT, Int.reduceGE, Int.reduceLE, Int.reduceEq, e1, e2, e3, b19, simprocAttr]
  first | done | rfl
theorem kind_spec (H : Heap) : W n_name_kind [.str [108, 111, 103]] H = some (.bool true, H) := by
 have t1 := fun H => nright_spec [108, 111, 103] (by decide) (by decide) (by decide) H
 have t2 : ∀ H, W n_internal_stringslite_Index [.str [108, 111, 103], .str [46]] H = some (.int .i64 (-1), H) := fun H => W_internal_stringslite_Index rfl
 have t3 : ∀ H, W n_strings_Index [.str [108, 111, 103], .str [46]] H = some (.int .i64 (-1), H) := fun H => by
  refine W_fn rfl rfl ?_
  simp only [go_sem, c_strings_Index, t2, simprocAttr]
 have t4 : ∀ H, W n_strings_Contains [.str [108, 111, 103], .str [46]] H = some (.bool false, H) := fun H => by
  refine W_fn rfl rfl ?_
  simp only [go_sem, c_strings_Contains, t3, simprocAttr]
  first | done | rfl
 refine W_fn rfl rfl ?_
 simp only [go_sem, c_name_kind, t1, t4, simprocAttr]
theorem digs_len {n : Nat} (h : n < 100) : (digs n).length = if n < 10 then 1 else 2 := by
 unfold digs
 split <;> rfl
theorem file_spec (n : Nat) (h : n < 100) (H : Heap) : W n_name_File [.int .i64 (n : Nat), .str [108, 111, 103]] H = some (.tuple [.str (logN n), .bool true], H) := by
 have t1 := fun H => kind_spec H
 have t2 := fun H => fmtI_spec n h H
 have c1 : ¬ ((n : Int) < 0) := by omega
 have c2 : ¬ ((n : Int) > 1099511627776) := by omega
 have hl := digs_len h
 obtain ⟨k, hk, hk2⟩ : ∃ k : Nat, (digs n).length = k ∧ (k = 1 ∨ k = 2) := ⟨_, rfl, by rw [hl]; split <;> simp⟩
 have w1 : IntKind.i64.wrap (20 - (k : Int)) = ((20 - k : Nat) : Int) := by rw [wrap_id (by unfold I64; omega)]; omega
 have t3 := fun H => repeat_spec (20 - k) (by omega) H
 have s1 : ∀ a b : List UInt8, a.length + b.length ≤ 1000 → strBin .add a b = some (.str (a ++ b)) := fun a b hab => by
  show (if _ then _ else _) = _
  rw [if_pos (by simp only [maxBytes]; omega)]
 have a1 := s1 (List.replicate (20 - k) 48) (digs n) (by rw [List.length_replicate, hk]; omega)
 have a2 := s1 (List.replicate (20 - k) 48 ++ digs n) [46] (by rw [List.length_append, List.length_replicate, hk]; simp only [List.length_cons, List.length_nil]; omega)
 have a3 := s1 (List.replicate (20 - k) 48 ++ (digs n ++ [46])) [108, 111, 103] (by rw [List.length_append, List.length_append, List.length_replicate, hk]; simp only [List.length_cons, List.length_nil]; omega)
 have e : logN n = List.replicate (20 - k) 48 ++ digs n ++ [46] ++ [108, 111, 103] := by unfold logN; rw [hk, List.append_assoc (_ ++ _)]; rfl
 rw [e]
 generalize digs n = D at *
 generalize List.replicate (20 - k) (48 : UInt8) = Z at *
 refine W_fn rfl rfl ?_
 simp only [go_sem, c_name_File, c1, c2, t1, t2, hk, w1, t3, a1, a2, a3, simprocAttr]
theorem log_spec (n : Nat) (h : n < 100) (H : Heap) : W n_place_Log [.int .i64 (n : Nat)] H = some (.str (logN n), H) := by
 have t := fun H => file_spec n h H
 generalize logN n = S at *
 refine W_fn rfl rfl ?_
 simp only [go_sem, c_place_Log, t, simprocAttr]
theorem logN_ok (n : Nat) (h : n < 100) : (∀ b ∈ logN n, okC b = true) ∧ (logN n).length = 24 := by
 have key : (List.range 100).all (fun n => (logN n).all okC && (logN n).length == 24) = true := by decide +kernel
 have := List.all_eq_true.1 key n (List.mem_range.2 h)
 rw [Bool.and_eq_true] at this
 exact ⟨fun b hb => List.all_eq_true.1 this.1 b hb, by simpa using this.2⟩
theorem lright_spec (n : Nat) (h : n < 100) (H : Heap) : W n_name_Right [.str (logN n)] H = some (.bool true, H) :=
 nright_spec _ (logN_ok n h).1 (by rw [(logN_ok n h).2]; decide) (by rw [(logN_ok n h).2]; decide) H
def nextV (l : List Int) (a : Nat) (n : Int) : Int := if l.length ≤ a ∨ n < 1 then 0 else (withinQ (l.getD a 0) 0 1073741824).tmod n
def nextA (l : List Int) (a : Nat) (n : Int) : Nat := if l.length ≤ a ∨ n < 1 then a else a + 1
theorem nextA_le {l a n} (h : a ≤ l.length) : nextA l a n ≤ l.length := by unfold nextA; split <;> omega
theorem Old.same {H i B} (h : Old H i B) : H.set i B = H := by
 have h1 := h.g
 obtain ⟨h2, h3⟩ := List.getElem?_eq_some_iff.1 h1
 rw [← h3, List.set_getElem_self]
theorem Old.step {H i B} (h : Old H i B) (B') : Old (H.set i B') i B' := ⟨hx_oldt h.g B'⟩
theorem nextV_range {l a n} (h : 1 ≤ n) (hn : n ≤ 1073741824) : 0 ≤ nextV l a n ∧ nextV l a n < n := by
 unfold nextV
 split
 ·omega
 ·have h1 := withinQ_range (l.getD a 0) 0 1073741824 (by omega)
  exact ⟨Int.tmod_nonneg _ h1.1, Int.tmod_lt_of_pos _ (by omega)⟩
theorem within_spec (n lo hi : Int) (H : Heap) (h : lo ≤ hi) (h1 : -1000000000 ≤ lo) (h2 : hi ≤ 2000000000) : W n_book_Within [.int .i64 n, .int .i64 lo, .int .i64 hi] H = some (.int .i64 (withinQ n lo hi), H) := by
 refine W_fn rfl rfl ?_
 have q1 : n.tmod (hi - lo + 1) < hi - lo + 1 := Int.tmod_lt_of_pos n (by omega)
 have q2 : -(hi - lo + 1) < n.tmod (hi - lo + 1) := by
  have := Int.tmod_lt_of_pos (-n) (show 0 < hi - lo + 1 by omega)
  rw [Int.neg_tmod] at this; omega
 have w1 : IntKind.i64.wrap (hi - lo) = hi - lo := wrap_id (by unfold I64; omega)
 have w2 : IntKind.i64.wrap (hi - lo + 1) = hi - lo + 1 := wrap_id (by unfold I64; omega)
 have w0 : ¬ (hi - lo + 1 = 0) := by omega
 have w3 : IntKind.i64.wrap (lo + n.tmod (hi - lo + 1)) = lo + n.tmod (hi - lo + 1) := wrap_id (by unfold I64; omega)
 have w4 : IntKind.i64.wrap (n.tmod (hi - lo + 1) + hi) = n.tmod (hi - lo + 1) + hi := wrap_id (by unfold I64; omega)
 have w5 : IntKind.i64.wrap (n.tmod (hi - lo + 1) + hi - lo) = n.tmod (hi - lo + 1) + hi - lo := wrap_id (by unfold I64; omega)
 have w6 : IntKind.i64.wrap (n.tmod (hi - lo + 1) + hi - lo + 1) = n.tmod (hi - lo + 1) + hi - lo + 1 := wrap_id (by unfold I64; omega)
 have w7 : n.tmod (hi - lo + 1) < 0 → IntKind.i64.wrap (lo + (n.tmod (hi - lo + 1) + hi - lo + 1)) = lo + (n.tmod (hi - lo + 1) + hi - lo + 1) := fun _ => wrap_id (by unfold I64; omega)
 unfold withinQ
 by_cases c1 : n ≥ lo
 ·by_cases c2 : n ≤ hi
  ·simp only [go_sem, c_book_Within, c1, c2, simprocAttr]
  ·by_cases c3 : n.tmod (hi - lo + 1) < 0
   ·simp only [go_sem, c_book_Within, c1, c2, c3, w0, w1, w2, w3, w4, w5, w6, w7, simprocAttr]
   ·simp only [go_sem, c_book_Within, c1, c2, c3, w0, w1, w2, w3, w4, w5, w6, simprocAttr]
 ·by_cases c3 : n.tmod (hi - lo + 1) < 0
  ·simp only [go_sem, c_book_Within, c1, c3, w0, w1, w2, w3, w4, w5, w6, w7, simprocAttr]
  ·simp only [go_sem, c_book_Within, c1, c3, w0, w1, w2, w3, w4, w5, w6, simprocAttr]
def texts9 : List (List UInt8) := [[], [97], [107, 101, 121], [228, 184, 150], [116, 119, 111, 32, 119, 111, 114, 100, 115], [98, 255], [107, 50], [61], [97, 10, 98]]
def textAt (v : Int) : List UInt8 := texts9.getD v.toNat []
theorem textAt_le (v : Int) : (textAt v).length ≤ 9 := by
 unfold textAt
 rw [List.getD_eq_getElem?_getD]
 cases h : texts9[v.toNat]? with
 | none => simp
 | some t =>
  have := List.mem_of_getElem? h
  simp only [texts9, List.mem_cons, List.not_mem_nil, or_false] at this
  rcases this with rfl | rfl | rfl | rfl | rfl | rfl | rfl | rfl | rfl <;> decide
abbrev Rc := List UInt8 × List UInt8
def rcV (r : Rc) : AVal := .agg [.str r.1, .str r.2]
def recsT (l : List Int) : Nat → Nat → List Rc × Nat
 | 0, a => ([], a)
 | k + 1, a => ((textAt (nextV l a 9), textAt (nextV l (nextA l a 9) 9)) :: (recsT l k (nextA l (nextA l a 9) 9)).1, (recsT l k (nextA l (nextA l a 9) 9)).2)
theorem recsT_len (l) : ∀ k a, (recsT l k a).1.length = k
 | 0, _ => rfl
 | k + 1, a => by simp [recsT, recsT_len l k]
theorem recsT_le (l) : ∀ k a, a ≤ l.length → (recsT l k a).2 ≤ l.length
 | 0, _, h => h
 | k + 1, a, h => recsT_le l k _ (nextA_le (nextA_le h))
theorem recsT_small (l) : ∀ k a, ∀ r ∈ (recsT l k a).1, r.1.length ≤ 9 ∧ r.2.length ≤ 9
 | 0, _, r, h => by cases h
 | k + 1, a, r, h => by
  rcases List.mem_cons.1 h with rfl | h
  ·exact ⟨textAt_le _, textAt_le _⟩
  ·exact recsT_small l k _ r h
structure Ba where
 base : Int
 prod : Int
 epoch : Int
 seq : Int
 txn : Bool
 mark : Int
 recs : List Rc
def Ba.cs (b : Ba) : List AVal := [.int .i64 b.base, .int .i64 b.prod, .int .i64 b.epoch, .int .i64 b.seq, .bool b.txn, .int .i64 b.mark, .list 2 (b.recs.map rcV) .ro]
def Ba.V (b : Ba) : AVal := .agg b.cs
def recs4 (l : List Int) (a : Nat) : List Rc × Nat := recsT l (1 + nextV l a 4).toNat (nextA l a 4)
def tapeBatch (l : List Int) (base : Int) (a : Nat) : Ba × Nat :=
 let a1 := nextA l a 4
 if nextV l a 4 - 1 < 0 then (⟨base, nextV l a 4 - 1, -1, -1, false, 0, (recs4 l a1).1⟩, (recs4 l a1).2)
 else
  let a2 := nextA l a1 3
  let a3 := nextA l a2 4
  if nextV l a2 4 = 0 then (⟨base, nextV l a 4 - 1, nextV l a1 3, -1, true, 1 + nextV l a3 2, []⟩, nextA l a3 2)
  else
   let a4 := nextA l a3 6
   let a5 := nextA l a4 2
   let a6 := (recs4 l a5).2
   let a7 := nextA l a6 9
   if nextV l a6 9 = 0 then (⟨base, nextV l a 4 - 1, nextV l a1 3, 2147483647 - nextV l a7 3, decide (nextV l a4 2 = 0), 0, (recs4 l a5).1⟩, nextA l a7 3)
   else (⟨base, nextV l a 4 - 1, nextV l a1 3, nextV l a3 6, decide (nextV l a4 2 = 0), 0, (recs4 l a5).1⟩, a7)
theorem recs4_le {l a} (h : a ≤ l.length) : (recs4 l a).2 ≤ l.length := recsT_le l _ _ (nextA_le h)
theorem under_rc (n : Nat) : ∀ (r : List Rc), AVal.underL n (r.map rcV) = true
 | [] => rfl
 | x :: r => by simp [rcV, AVal.underL, AVal.under, under_rc n r]
def txt (s : List UInt8) : List Int := Vt.enc 9 (Num.zig s.length) ++ s.map fun b => (b.toNat : Int)
def rcB (r : Rc) : List Int := txt r.1 ++ txt r.2
def rcsB (r : List Rc) : List Int := r.flatMap rcB
theorem txt_len (s : List UInt8) : (txt s).length ≤ s.length + 10 := by
 have := Vt.enc_len' 9 (Num.zig s.length)
 simp [txt]; omega
theorem bytes_loop (L : List Rc) (hL : ∀ r ∈ L, r.1.length ≤ 64 ∧ r.2.length ≤ 64) (hn : L.length ≤ 16) (B : Box) (H : Heap) (r : List Rc) : ∀ (p : List Rc) (l : List Int) (fl : Fl) (N : Heap), L = p ++ r → (fl = .own ∨ fl = .full) → l.length + r.length * 148 ≤ 100000 →
  ∃ M, loopA W loopW (.ghost (.kill k_batch_bytes_0) l_batch_bytes_0) [(1, .ptr (pt H 0) 0), (4, bytes l fl), (42, .list 2 (L.map rcV) .ro), (43, .int .i64 (L.length : Nat)), (44, .int .i64 (p.length : Nat))] (hx H (B :: N)) =
   some (.exit 0, [(1, .ptr (pt H 0) 0), (4, bytes (l ++ rcsB r) (if r = [] then fl else .full))], hx H (B :: M)) := by
 induction r with
 | nil =>
  intro p l fl N hp hfl hk
  rw [List.append_nil] at hp
  subst hp
  refine ⟨N, ?_⟩
  have h1 : ¬ ((L.length : Int) < (L.length : Int)) := by omega
  refine loop_step l_batch_bytes_0.eq_1 k_batch_bytes_0.eq_1 (by kernel_rfl) ?_
  simp only [go_sem, h1, rcsB, List.flatMap_nil, List.append_nil, simprocAttr]
 | cons x r ih =>
  intro p l fl N hp hfl hk
  have hlen : p.length < L.length := by rw [hp]; simp
  have hx2 := hL x (by rw [hp]; simp)
  have h1 : ((p.length : Int) < (L.length : Int)) := by omega
  have e0 : (0 : Int) ≤ (p.length : Int) := by omega
  have e7 : ((p.length : Nat) : Int).toNat = p.length := by omega
  have e1 : (L.map rcV)[p.length]? = some (.agg [.str x.1, .str x.2]) := by rw [hp]; simp [rcV]
  have e6 : IntKind.i64.wrap ((p.length : Int) + 1) = ((p.length + 1 : Nat) : Int) := by rw [wrap_id (by unfold I64; omega)]; omega
  have hk' : l.length + (r.length * 148 + 148) ≤ 100000 := by
   have : (x :: r).length * 148 = r.length * 148 + 148 := by simp [Nat.add_mul]
   omega
  have l1 := txt_len x.1
  have l2 := txt_len x.2
  have t1 := fun H => text_spec l x.1 H (by omega)
  have t2 := fun H => text_spec (l ++ txt x.1) x.2 H (by simp; omega)
  have t1' : ∀ H, W n_varint_Text [bytes l .ro, .str x.1] H = some (bytes (l ++ txt x.1) .full, H) := fun H => by rw [t1, List.append_assoc]; rfl
  have t2' : ∀ H, W n_varint_Text [bytes (l ++ txt x.1) .ro, .str x.2] H = some (bytes (l ++ rcB x) .full, H) := fun H => by rw [t2]; simp [rcB, txt]
  obtain ⟨M, h2⟩ := ih (p ++ [x]) (l ++ rcB x) .full (N ++ [.cells [.str x.1, .str x.2]]) (by rw [hp]; simp) (.inr rfl) (by simp [rcB]; omega)
  refine ⟨M, ?_⟩
  simp only [List.length_append, List.length_cons, List.length_nil, Nat.zero_add] at h2
  have h3 : (if r = [] then Fl.full else Fl.full) = Fl.full := by split <;> rfl
  have e9 : l ++ rcsB (x :: r) = l ++ rcB x ++ rcsB r := by simp [rcsB]
  rw [h3] at h2
  simp only [List.append_assoc] at h2
  rw [e9, if_neg (by simp)]
  simp only [List.append_assoc]
  refine loop_step l_batch_bytes_0.eq_1 k_batch_bytes_0.eq_1 (by kernel_rfl) ?_
  rcases hfl with rfl | rfl
  ·simp only [go_sem, h1, e0, e7, e1, t1', t2', e6, simprocAttr]
   exact h2
  ·simp only [go_sem, h1, e0, e7, e1, t1', t2', e6, simprocAttr]
   exact h2
structure BOK (b : Ba) : Prop where
 base : I64 b.base
 prod : I64 b.prod
 epoch : I64 b.epoch
 seq : I64 b.seq
 mark : I64 b.mark
def SmallR (r : List Rc) : Prop := r.length ≤ 16 ∧ ∀ x ∈ r, x.1.length ≤ 64 ∧ x.2.length ≤ 64
def flag0 (b : Ba) : Int := IntKind.u8.wrap (IntKind.i64.wrap (2 * b.mark))
def flagI (b : Ba) : Int := if b.txn then IntKind.u8.wrap (flag0 b + 1) else flag0 b
def headI (b : Ba) : List Int := [flagI b] ++ bes b.prod 0 ++ [b.epoch / 256 % 256, b.epoch % 256] ++ bes b.seq 0 ++ [(b.recs.length : Int) % 256]
def inner (b : Ba) : List Int := headI b ++ rcsB b.recs
def sealedI (b : Ba) : List Int := le4 (crcN (toN (inner b)) : Nat) ++ inner b
def be4 (n : Int) : List Int := [n / 16777216 % 256, n / 65536 % 256, n / 256 % 256, n % 256]
def baBytes (b : Ba) : List Int := bes b.base 0 ++ be4 (sealedI b).length ++ sealedI b
theorem u8r (n : Int) : 0 ≤ IntKind.u8.wrap n ∧ IntKind.u8.wrap n < 256 := by rw [Num.wu8]; omega
theorem flagI_range (b : Ba) : 0 ≤ flagI b ∧ flagI b < 256 := by
 unfold flagI flag0; split <;> exact u8r _
theorem bes_bytes (n : Int) : ∀ x ∈ bes n 0, 0 ≤ x ∧ x < 256 := by
 intro x hx
 simp only [bes, List.drop_zero, List.mem_map] at hx
 obtain ⟨i, _, rfl⟩ := hx
 unfold be; omega
theorem bes_len (n : Int) : (bes n 0).length = 8 := by simp [bes]
theorem txt_bytes (s : List UInt8) (h : s.length ≤ 64) : ∀ x ∈ txt s, 0 ≤ x ∧ x < 256 := by
 intro x hx
 rcases List.mem_append.1 hx with hx | hx
 ·have hz := Num.zig_range (s.length : Int) (by omega)
  exact Vt.enc_bytes 9 _ hz.1 (Int.lt_trans hz.2 (by decide)) x hx
 ·obtain ⟨b, _, rfl⟩ := List.mem_map.1 hx
  have := b.toNat_lt
  omega
theorem rcsB_bytes {r : List Rc} (h : SmallR r) : ∀ x ∈ rcsB r, 0 ≤ x ∧ x < 256 := by
 intro x hx
 obtain ⟨y, hy, hx⟩ := List.mem_flatMap.1 hx
 rcases List.mem_append.1 hx with hx | hx
 ·exact txt_bytes _ (h.2 y hy).1 x hx
 ·exact txt_bytes _ (h.2 y hy).2 x hx
theorem rcsB_len : ∀ {r : List Rc}, (∀ x ∈ r, x.1.length ≤ 64 ∧ x.2.length ≤ 64) → (rcsB r).length ≤ r.length * 148
 | [], _ => by simp [rcsB]
 | x :: r, h => by
  have h1 := h x (by simp)
  have h2 := rcsB_len (r := r) (fun y hy => h y (by simp [hy]))
  have l1 := txt_len x.1
  have l2 := txt_len x.2
  have : rcsB (x :: r) = rcB x ++ rcsB r := by simp [rcsB]
  rw [this, List.length_append, List.length_cons, Nat.add_mul]
  simp [rcB]; omega
theorem headI_len (b) : (headI b).length = 20 := by simp [headI, bes_len]
theorem headI_bytes (b : Ba) : ∀ x ∈ headI b, 0 ≤ x ∧ x < 256 := by
 intro x hx
 unfold headI at hx
 simp only [List.mem_append, List.mem_cons, List.not_mem_nil, or_false] at hx
 rcases hx with (((rfl | hx) | rfl | rfl) | hx) | rfl
 ·exact flagI_range b
 ·exact bes_bytes _ x hx
 ·omega
 ·omega
 ·exact bes_bytes _ x hx
 ·omega
theorem inner_bytes {b : Ba} (h : SmallR b.recs) : ∀ x ∈ inner b, 0 ≤ x ∧ x < 256 := by
 intro x hx
 rcases List.mem_append.1 hx with hx | hx
 ·exact headI_bytes b x hx
 ·exact rcsB_bytes h x hx
theorem inner_len {b : Ba} (h : SmallR b.recs) : (inner b).length ≤ 2388 := by
 have := rcsB_len h.2
 have h2 := h.1
 rw [inner, List.length_append, headI_len]; omega
theorem bytes_spec (b : Ba) (h : BOK b) (hr : SmallR b.recs) (H : Heap) : W n_batch_bytes [b.V] H = some (bytes (baBytes b) .own, H) := by
 have hf := flagI_range b
 have hlen := rcsB_len hr.2
 have hn := hr.1
 obtain ⟨F, hF⟩ : ∃ F, flagI b = F := ⟨_, rfl⟩
 obtain ⟨l1, hl1⟩ : ∃ l1, [F] ++ bes b.prod 0 = l1 := ⟨_, rfl⟩
 obtain ⟨l2, hl2⟩ : ∃ l2, l1 ++ [b.epoch / 256 % 256, b.epoch % 256] = l2 := ⟨_, rfl⟩
 obtain ⟨l3, hl3⟩ : ∃ l3, l2 ++ bes b.seq 0 = l3 := ⟨_, rfl⟩
 obtain ⟨l4, hl4⟩ : ∃ l4, l3 ++ [(b.recs.length : Int) % 256] = l4 := ⟨_, rfl⟩
 have hh : l4 = headI b := by rw [← hl4, ← hl3, ← hl2, ← hl1, ← hF]; rfl
 have k1 : l1.length = 9 := by rw [← hl1]; simp [bes_len]
 have k2 : l2.length = 11 := by rw [← hl2]; simp [k1]
 have k3 : l3.length = 19 := by rw [← hl3]; simp [k2, bes_len]
 have t1 : ∀ H, W n_varint_Long [.list 1 [.int .u8 F] .ro, .int .i64 b.prod] H = some (bytes l1 .full, H) := fun H => by rw [← hl1]; exact long_spec [F] b.prod H h.prod (by simp)
 have t2 : ∀ H, W n_varint_Long [bytes l2 .ro, .int .i64 b.seq] H = some (bytes l3 .full, H) := fun H => by rw [← hl3]; exact long_spec l2 b.seq H h.seq (by rw [k2]; decide)
 obtain ⟨M, t3⟩ := bytes_loop b.recs hr.2 hr.1 (.cells b.cs) H b.recs [] l4 .own [] rfl (.inl rfl) (by rw [hh, headI_len]; omega)
 obtain ⟨fl, hfl, hfe⟩ : ∃ fl, (if b.recs = [] then Fl.own else Fl.full) = fl ∧ (fl = .own ∨ fl = .full) := ⟨_, rfl, by split <;> simp⟩
 rw [hfl, show l4 ++ rcsB b.recs = inner b by rw [hh]; rfl] at t3
 obtain ⟨S, hS⟩ : ∃ S, sealedI b = S := ⟨_, rfl⟩
 have t4 : ∀ H, W n_crc_Put [bytes (inner b) .ro] H = some (bytes S .own, H) := fun H => by rw [← hS]; exact crc_put_spec (inner b) H (inner_bytes hr) (by have := inner_len hr; omega)
 have kS : S.length ≤ 2392 := by rw [← hS, sealedI, List.length_append]; have := inner_len hr; simp [le4]; omega
 have t5 : ∀ H, W n_varint_Long [.list 1 [] .ro, .int .i64 b.base] H = some (bytes (bes b.base 0) .full, H) := fun H => long_spec [] b.base H h.base (by simp)
 have e1 : IntKind.u8.wrap (shr .i64 b.epoch 8) = b.epoch / 256 % 256 := Num.wu8 _
 have e2 : IntKind.u8.wrap b.epoch = b.epoch % 256 := Num.wu8 _
 have e3 : IntKind.u8.wrap (b.recs.length : Int) = (b.recs.length : Int) % 256 := Num.wu8 _
 have a2 : ints .u8 l1 ++ [.int .u8 (b.epoch / 256 % 256), .int .u8 (b.epoch % 256)] = ints .u8 l2 := by rw [← hl2]; simp
 have a4 : ints .u8 l3 ++ [.int .u8 ((b.recs.length : Int) % 256)] = ints .u8 l4 := by rw [← hl4]; simp
 have b2 : (l1.length + 2) * 1 ≤ maxBytes := by rw [k1]; decide
 have b4 : (l3.length + 1) * 1 ≤ maxBytes := by rw [k3]; decide
 have s1 : IntKind.u8.wrap (shr .i64 (S.length : Nat) 24) = (S.length : Int) / 16777216 % 256 := Num.wu8 _
 have s2 : IntKind.u8.wrap (shr .i64 (S.length : Nat) 16) = (S.length : Int) / 65536 % 256 := Num.wu8 _
 have s3 : IntKind.u8.wrap (shr .i64 (S.length : Nat) 8) = (S.length : Int) / 256 % 256 := Num.wu8 _
 have s4 : IntKind.u8.wrap (S.length : Nat) = (S.length : Int) % 256 := Num.wu8 _
 have t6 : ∀ H, W n_slices_Concat_byte_byte_ [.list 1 [bytes (bes b.base 0) .ro, .list 1 [.int .u8 ((S.length : Int) / 16777216 % 256), .int .u8 ((S.length : Int) / 65536 % 256), .int .u8 ((S.length : Int) / 256 % 256), .int .u8 ((S.length : Int) % 256)] .ro, bytes S .ro] .ro] H =
   some (bytes (baBytes b) .own, H) := fun H => by
  have := concat_spec [bes b.base 0, be4 S.length, S] (by simp [total, be4]; omega) (by simp [total, be4, bes_len]; omega) (by simp) H
  rw [show [bes b.base 0, be4 S.length, S].flatten = baBytes b by simp [baBytes, hS]] at this
  exact this
 have g0 : ((([] : List Rc).length : Nat) : Int) = 0 := rfl
 rw [g0] at t3
 unfold Ba.cs at t3
 refine W_fn rfl rfl ?_
 unfold Ba.V Ba.cs
 rcases hfe with rfl | rfl
 ·cases ht : b.txn
  ·rw [ht] at t3
   have f1 : IntKind.u8.wrap (IntKind.i64.wrap (2 * b.mark)) = F := by rw [← hF]; unfold flagI; rw [ht]; rfl
   simp only [go_sem, c_batch_bytes, f1, fs_int, t1, e1, e2, e3, apF, apO, a2, a4, b2, b4, t2, t3, t4, t5, t6, s1, s2, s3, s4, List.length_map, simprocAttr]
  ·rw [ht] at t3
   have f1 : IntKind.u8.wrap (IntKind.u8.wrap (IntKind.i64.wrap (2 * b.mark)) + 1) = F := by rw [← hF]; unfold flagI; rw [ht]; rfl
   simp only [go_sem, c_batch_bytes, f1, fs_int, t1, e1, e2, e3, apF, apO, a2, a4, b2, b4, t2, t3, t4, t5, t6, s1, s2, s3, s4, List.length_map, simprocAttr]
 ·cases ht : b.txn
  ·rw [ht] at t3
   have f1 : IntKind.u8.wrap (IntKind.i64.wrap (2 * b.mark)) = F := by rw [← hF]; unfold flagI; rw [ht]; rfl
   simp only [go_sem, c_batch_bytes, f1, fs_int, t1, e1, e2, e3, apF, apO, a2, a4, b2, b4, t2, t3, t4, t5, t6, s1, s2, s3, s4, List.length_map, simprocAttr]
  ·rw [ht] at t3
   have f1 : IntKind.u8.wrap (IntKind.u8.wrap (IntKind.i64.wrap (2 * b.mark)) + 1) = F := by rw [← hF]; unfold flagI; rw [ht]; rfl
   simp only [go_sem, c_batch_bytes, f1, fs_int, t1, e1, e2, e3, apF, apO, a2, a4, b2, b4, t2, t3, t4, t5, t6, s1, s2, s3, s4, List.length_map, simprocAttr]
def namedB (b : Ba) : Bool := decide (b.prod ≥ 0) && (decide (b.epoch ≥ 0) && decide (b.epoch ≤ 32767))
def seqR (n : Int) : Bool := decide (n ≥ 0) && decide (n ≤ 2147483647)
theorem named_spec (b : Ba) (H : Heap) : W n_batch_named [b.V] H = some (.bool (namedB b), H) := by
 refine W_fn rfl rfl ?_
 unfold Ba.V Ba.cs namedB
 by_cases c1 : b.prod ≥ 0
 ·by_cases c2 : b.epoch ≥ 0
  ·by_cases c3 : b.epoch ≤ 32767 <;> simp only [go_sem, c_batch_named, c1, c2, c3, simprocAttr]
  ·simp only [go_sem, c_batch_named, c1, c2, simprocAttr]
 ·simp only [go_sem, c_batch_named, c1, simprocAttr]
theorem seq_right_spec (n : Int) (H : Heap) : W n_seq_Right [.int .i64 n] H = some (.bool (seqR n), H) := by
 refine W_fn rfl rfl ?_
 unfold seqR
 by_cases c1 : n ≥ 0
 ·by_cases c2 : n ≤ 2147483647 <;> simp only [go_sem, c_seq_Right, c1, c2, simprocAttr]
 ·simp only [go_sem, c_seq_Right, c1, simprocAttr]
def bigR (r : Rc) : Bool := decide (r.1.length > 64) || decide (r.2.length > 64)
theorem data_loop (L : List Rc) (hn : L.length ≤ 16) (B : Heap) (H : Heap) (r : List Rc) : ∀ (p : List Rc) (N : Heap), L = p ++ r →
  ∃ M, loopA W loopW (.ghost (.kill k_batch_data_0) l_batch_data_0) [(48, .list 2 (L.map rcV) .ro), (49, .int .i64 (L.length : Nat)), (50, .int .i64 (p.length : Nat))] (hx H N) =
   if r.any bigR then some (.ret, [(2, .int .i64 13)], hx H M) else some (.exit 1, [], hx H M) := by
 induction r with
 | nil =>
  intro p N hp
  rw [List.append_nil] at hp
  subst hp
  refine ⟨N, ?_⟩
  have h1 : ¬ ((L.length : Int) < (L.length : Int)) := by omega
  rw [if_neg (by simp)]
  refine loop_step l_batch_data_0.eq_1 k_batch_data_0.eq_1 (by kernel_rfl) ?_
  simp only [go_sem, h1, simprocAttr]
 | cons x r ih =>
  intro p N hp
  have hlen : p.length < L.length := by rw [hp]; simp
  have h1 : ((p.length : Int) < (L.length : Int)) := by omega
  have e0 : (0 : Int) ≤ (p.length : Int) := by omega
  have e7 : ((p.length : Nat) : Int).toNat = p.length := by omega
  have e1 : (L.map rcV)[p.length]? = some (.agg [.str x.1, .str x.2]) := by rw [hp]; simp [rcV]
  have e6 : IntKind.i64.wrap ((p.length : Int) + 1) = ((p.length + 1 : Nat) : Int) := by rw [wrap_id (by unfold I64; omega)]; omega
  obtain ⟨M, h2⟩ := ih (p ++ [x]) (N ++ [.cells [.str x.1, .str x.2]]) (by rw [hp]; simp)
  simp only [List.length_append, List.length_cons, List.length_nil, Nat.zero_add] at h2
  by_cases c1 : (x.1.length : Int) > 64
  ·refine ⟨N ++ [.cells [.str x.1, .str x.2]], ?_⟩
   rw [if_pos (by simp [bigR]; omega)]
   refine loop_step l_batch_data_0.eq_1 k_batch_data_0.eq_1 (by kernel_rfl) ?_
   simp only [go_sem, h1, e0, e7, e1, c1, simprocAttr]
  ·by_cases c2 : (x.2.length : Int) > 64
   ·refine ⟨N ++ [.cells [.str x.1, .str x.2]], ?_⟩
    rw [if_pos (by simp [bigR]; omega)]
    refine loop_step l_batch_data_0.eq_1 k_batch_data_0.eq_1 (by kernel_rfl) ?_
    simp only [go_sem, h1, e0, e7, e1, c1, c2, simprocAttr]
   ·refine ⟨M, ?_⟩
    have hb : bigR x = false := by simp [bigR]; omega
    rw [List.any_cons, hb, Bool.false_or]
    obtain ⟨R, hR⟩ : ∃ R, (if r.any bigR = true then some (Out.ret, ([(2, .int .i64 13)] : Env), hx H M) else some (.exit 1, [], hx H M)) = some R := by split <;> exact ⟨_, rfl⟩
    rw [hR] at h2 ⊢
    refine loop_step l_batch_data_0.eq_1 k_batch_data_0.eq_1 (by kernel_rfl) ?_
    simp only [go_sem, h1, e0, e7, e1, c1, c2, e6, simprocAttr]
    exact h2
def noneB (b : Ba) : Bool := decide (b.prod = -1) && (decide (b.epoch = -1) && (decide (b.seq = -1) && !b.txn))
def dataE (b : Ba) : Int :=
 if (!noneB b && !(namedB b && seqR b.seq)) = true then 12
 else if b.recs.length = 0 then 12
 else if 16 < b.recs.length then 13
 else if b.recs.any bigR = true then 13 else 0
set_option maxHeartbeats 3200000 in
theorem data_spec (b : Ba) (H : Heap) : W n_batch_data [b.V] H = some (.int .i64 (dataE b), H) := by
 have t1 := fun H => named_spec b H
 have t2 := fun H => seq_right_spec b.seq H
 unfold Ba.V Ba.cs at t1 ⊢
 have tail : (!noneB b && !(namedB b && seqR b.seq)) = false → dataE b = if b.recs.length = 0 then 12 else if 16 < b.recs.length then 13 else if b.recs.any bigR = true then 13 else 0 := by
  intro h; unfold dataE; rw [if_neg (by rw [h]; decide)]
 have head : (!noneB b && !(namedB b && seqR b.seq)) = true → dataE b = 12 := by
  intro h; unfold dataE; rw [if_pos h]
 have g0 : ((([] : List Rc).length : Nat) : Int) = 0 := rfl
 by_cases c1 : b.prod = -1
 ·by_cases c2 : b.epoch = -1
  ·by_cases c3 : b.seq = -1
   ·cases ht : b.txn
    ·have hz : (!noneB b && !(namedB b && seqR b.seq)) = false := by unfold noneB; rw [ht]; simp [c1, c2, c3]
     rw [ht] at t1
     by_cases d1 : (b.recs.length : Int) = 0
     ·rw [tail hz, if_pos (by omega)]
      refine W_fn rfl rfl ?_
      simp only [go_sem, c_batch_data, List.length_map, eq_true c1, eq_true c2, eq_true c3, ht, d1, simprocAttr]
     ·by_cases d2 : (b.recs.length : Int) > 16
      ·rw [tail hz, if_neg (by omega), if_pos (by omega)]
       refine W_fn rfl rfl ?_
       simp only [go_sem, c_batch_data, List.length_map, eq_true c1, eq_true c2, eq_true c3, ht, d1, d2, simprocAttr]
      ·rw [tail hz, if_neg (by omega), if_neg (by omega)]
       obtain ⟨M, t3⟩ := data_loop b.recs (by omega) [] H b.recs [] [.cells b.cs] rfl
       rw [g0] at t3
       unfold Ba.cs at t3
       rw [ht] at t3
       cases ha : b.recs.any bigR
       ·rw [ha] at t3
        refine W_fn rfl rfl ?_
        simp only [go_sem, c_batch_data, List.length_map, eq_true c1, eq_true c2, eq_true c3, ht, d1, d2, t3, simprocAttr]
       ·rw [ha] at t3
        refine W_fn rfl rfl ?_
        simp only [go_sem, c_batch_data, List.length_map, eq_true c1, eq_true c2, eq_true c3, ht, d1, d2, t3, simprocAttr]
    ·have hno : noneB b = false := by unfold noneB; rw [ht]; simp
     rw [ht] at t1
     cases hna : namedB b
     ·have hz : (!noneB b && !(namedB b && seqR b.seq)) = true := by rw [hno, hna]; rfl
      rw [hna] at t1
      rw [head hz]
      refine W_fn rfl rfl ?_
      simp only [go_sem, c_batch_data, eq_true c1, eq_true c2, eq_true c3, ht, t1, simprocAttr]
     ·rw [hna] at t1
      cases hsq : seqR b.seq
      ·have hz : (!noneB b && !(namedB b && seqR b.seq)) = true := by rw [hno, hna, hsq]; rfl
       rw [hsq] at t2
       rw [head hz]
       refine W_fn rfl rfl ?_
       simp only [go_sem, c_batch_data, eq_true c1, eq_true c2, eq_true c3, ht, t1, t2, simprocAttr]
      ·have hz : (!noneB b && !(namedB b && seqR b.seq)) = false := by rw [hno, hna, hsq]; rfl
       rw [hsq] at t2
       by_cases d1 : (b.recs.length : Int) = 0
       ·rw [tail hz, if_pos (by omega)]
        refine W_fn rfl rfl ?_
        simp only [go_sem, c_batch_data, List.length_map, eq_true c1, eq_true c2, eq_true c3, ht, t1, t2, d1, simprocAttr]
       ·by_cases d2 : (b.recs.length : Int) > 16
        ·rw [tail hz, if_neg (by omega), if_pos (by omega)]
         refine W_fn rfl rfl ?_
         simp only [go_sem, c_batch_data, List.length_map, eq_true c1, eq_true c2, eq_true c3, ht, t1, t2, d1, d2, simprocAttr]
        ·rw [tail hz, if_neg (by omega), if_neg (by omega)]
         obtain ⟨M, t3⟩ := data_loop b.recs (by omega) [] H b.recs [] [.cells b.cs] rfl
         rw [g0] at t3
         unfold Ba.cs at t3
         rw [ht] at t3
         cases ha : b.recs.any bigR
         ·rw [ha] at t3
          refine W_fn rfl rfl ?_
          simp only [go_sem, c_batch_data, List.length_map, eq_true c1, eq_true c2, eq_true c3, ht, t1, t2, d1, d2, t3, simprocAttr]
         ·rw [ha] at t3
          refine W_fn rfl rfl ?_
          simp only [go_sem, c_batch_data, List.length_map, eq_true c1, eq_true c2, eq_true c3, ht, t1, t2, d1, d2, t3, simprocAttr]
   ·have hno : noneB b = false := by unfold noneB; simp [c3]
    cases hna : namedB b
    ·have hz : (!noneB b && !(namedB b && seqR b.seq)) = true := by rw [hno, hna]; rfl
     rw [hna] at t1
     rw [head hz]
     refine W_fn rfl rfl ?_
     simp only [go_sem, c_batch_data, eq_true c1, eq_true c2, c3, t1, simprocAttr]
    ·rw [hna] at t1
     cases hsq : seqR b.seq
     ·have hz : (!noneB b && !(namedB b && seqR b.seq)) = true := by rw [hno, hna, hsq]; rfl
      rw [hsq] at t2
      rw [head hz]
      refine W_fn rfl rfl ?_
      simp only [go_sem, c_batch_data, eq_true c1, eq_true c2, c3, t1, t2, simprocAttr]
     ·have hz : (!noneB b && !(namedB b && seqR b.seq)) = false := by rw [hno, hna, hsq]; rfl
      rw [hsq] at t2
      by_cases d1 : (b.recs.length : Int) = 0
      ·rw [tail hz, if_pos (by omega)]
       refine W_fn rfl rfl ?_
       simp only [go_sem, c_batch_data, List.length_map, eq_true c1, eq_true c2, c3, t1, t2, d1, simprocAttr]
      ·by_cases d2 : (b.recs.length : Int) > 16
       ·rw [tail hz, if_neg (by omega), if_pos (by omega)]
        refine W_fn rfl rfl ?_
        simp only [go_sem, c_batch_data, List.length_map, eq_true c1, eq_true c2, c3, t1, t2, d1, d2, simprocAttr]
       ·rw [tail hz, if_neg (by omega), if_neg (by omega)]
        obtain ⟨M, t3⟩ := data_loop b.recs (by omega) [] H b.recs [] [.cells b.cs] rfl
        rw [g0] at t3
        unfold Ba.cs at t3
        cases ha : b.recs.any bigR
        ·rw [ha] at t3
         refine W_fn rfl rfl ?_
         simp only [go_sem, c_batch_data, List.length_map, eq_true c1, eq_true c2, c3, t1, t2, d1, d2, t3, simprocAttr]
        ·rw [ha] at t3
         refine W_fn rfl rfl ?_
         simp only [go_sem, c_batch_data, List.length_map, eq_true c1, eq_true c2, c3, t1, t2, d1, d2, t3, simprocAttr]
  ·have hno : noneB b = false := by unfold noneB; simp [c2]
   cases hna : namedB b
   ·have hz : (!noneB b && !(namedB b && seqR b.seq)) = true := by rw [hno, hna]; rfl
    rw [hna] at t1
    rw [head hz]
    refine W_fn rfl rfl ?_
    simp only [go_sem, c_batch_data, eq_true c1, c2, t1, simprocAttr]
   ·rw [hna] at t1
    cases hsq : seqR b.seq
    ·have hz : (!noneB b && !(namedB b && seqR b.seq)) = true := by rw [hno, hna, hsq]; rfl
     rw [hsq] at t2
     rw [head hz]
     refine W_fn rfl rfl ?_
     simp only [go_sem, c_batch_data, eq_true c1, c2, t1, t2, simprocAttr]
    ·have hz : (!noneB b && !(namedB b && seqR b.seq)) = false := by rw [hno, hna, hsq]; rfl
     rw [hsq] at t2
     by_cases d1 : (b.recs.length : Int) = 0
     ·rw [tail hz, if_pos (by omega)]
      refine W_fn rfl rfl ?_
      simp only [go_sem, c_batch_data, List.length_map, eq_true c1, c2, t1, t2, d1, simprocAttr]
     ·by_cases d2 : (b.recs.length : Int) > 16
      ·rw [tail hz, if_neg (by omega), if_pos (by omega)]
       refine W_fn rfl rfl ?_
       simp only [go_sem, c_batch_data, List.length_map, eq_true c1, c2, t1, t2, d1, d2, simprocAttr]
      ·rw [tail hz, if_neg (by omega), if_neg (by omega)]
       obtain ⟨M, t3⟩ := data_loop b.recs (by omega) [] H b.recs [] [.cells b.cs] rfl
       rw [g0] at t3
       unfold Ba.cs at t3
       cases ha : b.recs.any bigR
       ·rw [ha] at t3
        refine W_fn rfl rfl ?_
        simp only [go_sem, c_batch_data, List.length_map, eq_true c1, c2, t1, t2, d1, d2, t3, simprocAttr]
       ·rw [ha] at t3
        refine W_fn rfl rfl ?_
        simp only [go_sem, c_batch_data, List.length_map, eq_true c1, c2, t1, t2, d1, d2, t3, simprocAttr]
 ·have hno : noneB b = false := by unfold noneB; simp [c1]
  cases hna : namedB b
  ·have hz : (!noneB b && !(namedB b && seqR b.seq)) = true := by rw [hno, hna]; rfl
   rw [hna] at t1
   rw [head hz]
   refine W_fn rfl rfl ?_
   simp only [go_sem, c_batch_data, c1, t1, simprocAttr]
  ·rw [hna] at t1
   cases hsq : seqR b.seq
   ·have hz : (!noneB b && !(namedB b && seqR b.seq)) = true := by rw [hno, hna, hsq]; rfl
    rw [hsq] at t2
    rw [head hz]
    refine W_fn rfl rfl ?_
    simp only [go_sem, c_batch_data, c1, t1, t2, simprocAttr]
   ·have hz : (!noneB b && !(namedB b && seqR b.seq)) = false := by rw [hno, hna, hsq]; rfl
    rw [hsq] at t2
    by_cases d1 : (b.recs.length : Int) = 0
    ·rw [tail hz, if_pos (by omega)]
     refine W_fn rfl rfl ?_
     simp only [go_sem, c_batch_data, List.length_map, c1, t1, t2, d1, simprocAttr]
    ·by_cases d2 : (b.recs.length : Int) > 16
     ·rw [tail hz, if_neg (by omega), if_pos (by omega)]
      refine W_fn rfl rfl ?_
      simp only [go_sem, c_batch_data, List.length_map, c1, t1, t2, d1, d2, simprocAttr]
     ·rw [tail hz, if_neg (by omega), if_neg (by omega)]
      obtain ⟨M, t3⟩ := data_loop b.recs (by omega) [] H b.recs [] [.cells b.cs] rfl
      rw [g0] at t3
      unfold Ba.cs at t3
      cases ha : b.recs.any bigR
      ·rw [ha] at t3
       refine W_fn rfl rfl ?_
       simp only [go_sem, c_batch_data, List.length_map, c1, t1, t2, d1, d2, t3, simprocAttr]
      ·rw [ha] at t3
       refine W_fn rfl rfl ?_
       simp only [go_sem, c_batch_data, List.length_map, c1, t1, t2, d1, d2, t3, simprocAttr]
theorem dataE_small {b : Ba} (h : dataE b = 0) : SmallR b.recs := by
 unfold dataE at h
 split at h
 ·cases h
 split at h
 ·cases h
 split at h
 ·cases h
 split at h
 ·cases h
 ·rename_i h1 h2 h3 h4
  refine ⟨by omega, fun x hx => ?_⟩
  have h5 : b.recs.any bigR = false := by cases hb : b.recs.any bigR; rfl; exact absurd hb h4
  rw [List.any_eq_false] at h5
  have := h5 x hx
  simp [bigR] at this
  omega
theorem baBytes_len {b : Ba} (h : SmallR b.recs) : (baBytes b).length ≤ 2404 := by
 have := inner_len h
 simp only [baBytes, sealedI, be4, le4, List.length_append, bes_len, List.length_cons, List.length_nil]
 omega
def markE (b : Ba) : Bool :=
 (decide (b.mark ≠ 1) && decide (b.mark ≠ 2)) || (!namedB b || (decide (b.seq ≠ -1) || (!b.txn || decide (0 < b.recs.length))))
def rightE (b : Ba) : Int :=
 if b.base < 0 ∨ b.base > 1099511627776 then 18
 else if b.mark = 0 then dataE b
 else if markE b = true then 12 else 0
theorem rightE_small {b : Ba} (h : rightE b = 0) : SmallR b.recs := by
 unfold rightE at h
 split at h
 ·cases h
 split at h
 ·exact dataE_small h
 split at h
 ·cases h
 ·rename_i h3
  have : b.recs.length = 0 := by
   simp [markE] at h3
   exact List.length_eq_zero_iff.2 h3.2.2.2.2
  have : b.recs = [] := List.length_eq_zero_iff.1 this
  rw [this]
  exact ⟨by simp, by simp⟩
theorem right_spec (b : Ba) (h : BOK b) (H : Heap) : W n_batch_Right [b.V] H = some (.int .i64 (rightE b), H) := by
 have td := fun H => data_spec b H
 have tn := fun H => named_spec b H
 have tb := fun hs H => bytes_spec b h hs H
 have tl := fun hs => baBytes_len (b := b) hs
 unfold Ba.V Ba.cs at td tn tb ⊢
 by_cases c1 : b.base < 0
 ·have hr : rightE b = 18 := by unfold rightE; rw [if_pos (.inl c1)]
  rw [hr]
  refine W_fn rfl rfl ?_
  simp only [go_sem, c_batch_Right, c1, simprocAttr]
 by_cases c2 : b.base > 1099511627776
 ·have hr : rightE b = 18 := by unfold rightE; rw [if_pos (.inr c2)]
  rw [hr]
  refine W_fn rfl rfl ?_
  simp only [go_sem, c_batch_Right, c1, c2, simprocAttr]
 by_cases c3 : b.mark = 0
 ·have hr : rightE b = dataE b := by unfold rightE; rw [if_neg (by omega), if_pos c3]
  rw [hr]
  by_cases c4 : dataE b = 0
  ·have hs := dataE_small c4
   have hl := tl hs
   have tb' := tb hs
   have c5 : ¬ ((baBytes b).length : Int) > 4096 := by omega
   rw [c4] at td ⊢
   refine W_fn rfl rfl ?_
   simp only [go_sem, c_batch_Right, c1, c2, eq_true c3, td, tb', c5, List.length_map, simprocAttr]
  ·refine W_fn rfl rfl ?_
   simp only [go_sem, c_batch_Right, c1, c2, eq_true c3, td, c4, simprocAttr]
 ·have hr : rightE b = if markE b = true then 12 else 0 := by unfold rightE; rw [if_neg (by omega), if_neg c3]
  rw [hr]
  have bad : markE b = true → (W n_batch_Right [b.V] H = some (.int .i64 12, H)) → W n_batch_Right [b.V] H = some (.int .i64 (if markE b = true then 12 else 0), H) := fun h1 h2 => by rw [if_pos h1]; exact h2
  have good : markE b = false → (W n_batch_Right [b.V] H = some (.int .i64 0, H)) → W n_batch_Right [b.V] H = some (.int .i64 (if markE b = true then 12 else 0), H) := fun h1 h2 => by rw [if_neg (by rw [h1]; decide)]; exact h2
  have rest : (b.mark = 1 ∨ b.mark = 2) → W n_batch_Right [b.V] H = some (.int .i64 (if markE b = true then 12 else 0), H) := by
   intro hm
   have m12 : (decide (b.mark ≠ 1) && decide (b.mark ≠ 2)) = false := by rcases hm with hm | hm <;> rw [hm] <;> rfl
   have em : markE b = (!namedB b || (decide (b.seq ≠ -1) || (!b.txn || decide (0 < b.recs.length)))) := by unfold markE; rw [m12, Bool.false_or]
   cases hn : namedB b with
   | false =>
    rw [hn] at tn
    refine bad (by rw [em, hn]; rfl) (W_fn rfl rfl ?_)
    unfold Ba.V Ba.cs
    rcases hm with hm | hm
    ·simp only [go_sem, c_batch_Right, c1, c2, c3, eq_true hm, tn, simprocAttr]
    ·have hm1 : ¬ b.mark = 1 := by omega
     simp only [go_sem, c_batch_Right, c1, c2, c3, hm1, eq_true hm, tn, simprocAttr]
   | true =>
    rw [hn] at tn
    by_cases c6 : b.seq = -1
    ·cases ht : b.txn with
     | false =>
      rw [ht] at tn
      refine bad (by rw [em, hn, ht]; simp) (W_fn rfl rfl ?_)
      unfold Ba.V Ba.cs
      rcases hm with hm | hm
      ·simp only [go_sem, c_batch_Right, c1, c2, c3, eq_true hm, tn, eq_true c6, ht, simprocAttr]
      ·have hm1 : ¬ b.mark = 1 := by omega
       simp only [go_sem, c_batch_Right, c1, c2, c3, hm1, eq_true hm, tn, eq_true c6, ht, simprocAttr]
     | true =>
      rw [ht] at tn tb
      by_cases c7 : (b.recs.length : Int) > 0
      ·refine bad (by rw [em, hn, ht]; simp; right; omega) (W_fn rfl rfl ?_)
       unfold Ba.V Ba.cs
       rcases hm with hm | hm
       ·simp only [go_sem, c_batch_Right, c1, c2, c3, eq_true hm, tn, eq_true c6, ht, c7, List.length_map, simprocAttr]
       ·have hm1 : ¬ b.mark = 1 := by omega
        simp only [go_sem, c_batch_Right, c1, c2, c3, hm1, eq_true hm, tn, eq_true c6, ht, c7, List.length_map, simprocAttr]
      ·have h0 : b.recs = [] := List.length_eq_zero_iff.1 (by omega)
       have hs : SmallR b.recs := by
        rw [h0]; exact ⟨by simp, by simp⟩
       have tb' := tb hs
       have hl := tl hs
       have c5 : ¬ ((baBytes b).length : Int) > 4096 := by omega
       refine good (by rw [em, hn, ht]; simp [c6, h0]) (W_fn rfl rfl ?_)
       unfold Ba.V Ba.cs
       rcases hm with hm | hm
       ·simp only [go_sem, c_batch_Right, c1, c2, c3, eq_true hm, tn, eq_true c6, ht, c7, tb', c5, List.length_map, simprocAttr]
       ·have hm1 : ¬ b.mark = 1 := by omega
        simp only [go_sem, c_batch_Right, c1, c2, c3, hm1, eq_true hm, tn, eq_true c6, ht, c7, tb', c5, List.length_map, simprocAttr]
    ·refine bad (by rw [em, hn]; simp [c6]) (W_fn rfl rfl ?_)
     unfold Ba.V Ba.cs
     rcases hm with hm | hm
     ·simp only [go_sem, c_batch_Right, c1, c2, c3, eq_true hm, tn, c6, simprocAttr]
     ·have hm1 : ¬ b.mark = 1 := by omega
      simp only [go_sem, c_batch_Right, c1, c2, c3, hm1, eq_true hm, tn, c6, simprocAttr]
  by_cases m1 : b.mark = 1
  ·exact rest (.inl m1)
  by_cases m2 : b.mark = 2
  ·exact rest (.inr m2)
  refine bad (by unfold markE; simp [m1, m2]) (W_fn rfl rfl ?_)
  unfold Ba.V Ba.cs
  simp only [go_sem, c_batch_Right, c1, c2, c3, m1, m2, simprocAttr]
theorem Bytes_spec (b : Ba) (h : BOK b) (H : Heap) :
  W n_batch_Bytes [b.V] H = some (.tuple [if rightE b = 0 then bytes (baBytes b) .own else .list 1 [] .full, .int .i64 (rightE b)], H) := by
 have tr := fun H => right_spec b h H
 have tb := fun hs H => bytes_spec b h hs H
 unfold Ba.V Ba.cs at tr tb ⊢
 by_cases c : rightE b = 0
 ·have tb' := tb (rightE_small c)
  rw [if_pos c]
  rw [c] at tr ⊢
  refine W_fn rfl rfl ?_
  simp only [go_sem, c_batch_Bytes, tr, tb', simprocAttr]
 ·rw [if_neg c]
  refine W_fn rfl rfl ?_
  simp only [go_sem, c_batch_Bytes, tr, c, simprocAttr]
def sizeE (b : Ba) : Int := if rightE b = 0 then ((baBytes b).length : Int) else 0
def addS (n k : Int) : Int := if seqR n = true then (n + k) % 2147483648 else -1
def lastS (n c : Int) : Int := if c < 1 ∨ c > 16 then -1 else addS n (c - 1)
def followsS (l f : Int) : Bool := if l = -1 then decide (f = 0) else seqR l && decide (addS l 1 = f)
abbrev La := Int × Int × Int
def laV (x : La) : AVal := .agg [.int .i64 x.1, .int .i64 x.2.1, .int .i64 x.2.2]
structure Pr where
 id : Int
 epoch : Int
 last : List La
 open_ : Int
def Pr.cs (p : Pr) : List AVal := [.int .i64 p.id, .int .i64 p.epoch, .list 3 (p.last.map laV) .ro, .int .i64 p.open_]
def Pr.V (p : Pr) : AVal := .agg p.cs
def dupIn (n c : Int) : List La → Option Int
 | [] => none
 | x :: l => if x.1 = n ∧ x.2.1 = lastS n c then some x.2.2 else dupIn n c l
def dupP (p : Pr) (b : Ba) : Option Int := if b.epoch = p.epoch ∧ b.mark = 0 then dupIn b.seq b.recs.length p.last else none
def checkP (p : Pr) (known : Bool) (b : Ba) : Int × Int :=
 if b.mark ≠ 0 then
  if known = false then (-1, 16) else if b.epoch < p.epoch then (-1, 14) else if p.open_ < 0 then (-1, 16) else (-1, 0)
 else if known = false then (-1, 0)
 else if b.epoch < p.epoch then (-1, 14)
 else if b.epoch > p.epoch then (if p.open_ ≥ 0 then (-1, 16) else if b.seq ≠ 0 then (-1, 15) else (-1, 0))
 else match dupP p b with
  | some v => (v, 0)
  | none => match p.last.getLast? with
   | some x => if followsS x.2.1 b.seq = false then (-1, 15) else if p.open_ ≥ 0 ∧ b.txn = false then (-1, 16) else (-1, 0)
   | none => if p.open_ ≥ 0 ∧ b.txn = false then (-1, 16) else (-1, 0)
def lastsP (p : Pr) (known : Bool) (b : Ba) : List La := if known = true ∧ p.epoch = b.epoch then p.last else []
def openP (p : Pr) (known : Bool) : Int := if known then p.open_ else -1
def newL (p : Pr) (known : Bool) (b : Ba) : List La := lastsP p known b ++ [(b.seq, lastS b.seq b.recs.length, b.base)]
def applyP (p : Pr) (known : Bool) (b : Ba) : Pr :=
 if b.mark ≠ 0 then ⟨b.prod, b.epoch, lastsP p known b, -1⟩
 else ⟨b.prod, b.epoch, (newL p known b).drop ((newL p known b).length - 5), if b.txn = true ∧ openP p known < 0 then b.base else openP p known⟩
theorem under_la (n : Nat) : ∀ (r : List La), AVal.underL n (r.map laV) = true
 | [] => rfl
 | x :: r => by simp [laV, AVal.underL, AVal.under, under_la n r]
def belowN (id : Int) : List Pr → Nat
 | [] => 0
 | p :: l => if p.id < id then belowN id l + 1 else 0
def atP (id : Int) (l : List Pr) : Option Pr := match l[belowN id l]? with
 | some p => if p.id = id then some p else none
 | none => none
theorem belowN_le (id : Int) : ∀ l, belowN id l ≤ l.length
 | [] => Nat.le_refl _
 | p :: l => by unfold belowN; split; exact Nat.succ_le_succ (belowN_le id l); exact Nat.zero_le _
def zeroPr : Pr := ⟨0, 0, [], 0⟩
theorem under_pr (n : Nat) (p : Pr) : AVal.underL n p.cs = true := by
 simp [Pr.cs, AVal.underL, AVal.under, under_la]
def tabCheck (L : List Pr) (b : Ba) : Int × Int :=
 if rightE b ≠ 0 then (-1, rightE b) else if b.prod < 0 then (-1, 0) else checkP ((atP b.prod L).getD zeroPr) (atP b.prod L).isSome b
structure TOK (L : List Pr) : Prop where
 len : L.length ≤ 100000
 last : ∀ p ∈ L, p.last.length ≤ 1000000
theorem atP_mem {id : Int} {L : List Pr} {p : Pr} (h : atP id L = some p) : p ∈ L ∧ L[belowN id L]? = some p := by
 unfold atP at h
 split at h
 ·rename_i q hq
  split at h
  ·cases h; exact ⟨List.mem_of_getElem? hq, hq⟩
  ·cases h
 ·cases h
def tabL (L : List Pr) (b : Ba) : List Pr :=
 if rightE b ≠ 0 ∨ b.prod < 0 then L
 else match atP b.prod L with
  | some p => L.set (belowN b.prod L) (applyP p true b)
  | none => L.take (belowN b.prod L) ++ [applyP zeroPr false b] ++ L.drop (belowN b.prod L)
def optLa : Option La → La
 | some x => x
 | none => (0, 0, 0)
structure TK (L : List Pr) (n : Nat) : Prop where
 len : L.length ≤ n
 last : ∀ p ∈ L, p.last.length ≤ 5
theorem TK.ok {L n} (h : TK L n) (hn : n ≤ 100000) : TOK L := ⟨Nat.le_trans h.len hn, fun p hp => by have := h.last p hp; omega⟩
theorem apply_last (p : Pr) (known : Bool) (b : Ba) (h : p.last.length ≤ 5) : (applyP p known b).last.length ≤ 5 := by
 unfold applyP
 split
 ·simp only [lastsP]; split
  ·exact h
  ·simp
 ·simp only [List.length_drop]; omega
theorem TK.next {L n} (h : TK L n) (b : Ba) : TK (tabL L b) (n + 1) := by
 unfold tabL
 split
 ·exact ⟨Nat.le_trans h.len (Nat.le_succ n), h.last⟩
 ·split
  ·rename_i p hp
   refine ⟨by simpa using Nat.le_trans h.len (Nat.le_succ n), fun q hq => ?_⟩
   rcases List.mem_or_eq_of_mem_set hq with hq | rfl
   ·exact h.last q hq
   ·exact apply_last p true b (h.last p (atP_mem hp).1)
  ·refine ⟨?_, fun q hq => ?_⟩
   ·have h1 := h.len
    have h2 := belowN_le b.prod L
    simp only [List.length_append, List.length_take, List.length_drop, List.length_cons, List.length_nil]
    omega
   ·simp only [List.append_assoc, List.mem_append, List.mem_cons, List.not_mem_nil, or_false] at hq
    rcases hq with hq | rfl | hq
    ·exact h.last q (List.mem_of_mem_take hq)
    ·exact apply_last zeroPr false b (by simp [zeroPr])
    ·exact h.last q (List.mem_of_mem_drop hq)
def foldL : List Ba → List Pr → List Pr
 | [], L => L
 | b :: l, L => foldL l (tabL L b)
def countE (b : Ba) : Int := if b.mark = 0 then (b.recs.length : Int) else 1
def endE (start : Int) (L : List Ba) : Int := match L.getLast? with
 | none => start
 | some b => b.base + countE b
structure Fit (b : Ba) : Prop where
 ok : BOK b
 right : rightE b = 0
theorem Fit.base {b : Ba} (h : Fit b) : 0 ≤ b.base ∧ b.base ≤ 1099511627776 := by
 have := h.right
 unfold rightE at this
 split at this
 ·cases this
 ·omega
theorem Fit.count {b : Ba} (h : Fit b) : 0 ≤ countE b ∧ countE b ≤ 16 := by
 have := (rightE_small h.right).1
 unfold countE
 split <;> omega
def sizeL : List Ba → Int
 | [] => 0
 | b :: l => sizeE b + sizeL l
theorem sizeE_range {b : Ba} : 0 ≤ sizeE b ∧ sizeE b ≤ 2404 := by
 unfold sizeE
 split
 ·rename_i h
  have := baBytes_len (rightE_small h)
  omega
 ·omega
theorem sizeL_app : ∀ (p r : List Ba), sizeL (p ++ r) = sizeL p + sizeL r
 | [], r => by simp [sizeL]
 | b :: p, r => by simp only [List.cons_append, sizeL, sizeL_app p r]; omega
theorem sizeL_range : ∀ (l : List Ba), 0 ≤ sizeL l ∧ sizeL l ≤ 2404 * l.length
 | [] => by simp [sizeL]
 | b :: l => by
  have h1 := sizeE_range (b := b)
  have h2 := sizeL_range l
  simp only [sizeL, List.length_cons]
  omega
def putOK (cap start : Int) (L : List Ba) (b : Ba) : Bool :=
 decide ((tabCheck (foldL L []) b).2 = 0) && (decide ((tabCheck (foldL L []) b).1 < 0) && (decide (sizeL L + sizeE b ≤ cap) && decide (endE start L + countE b ≤ 1099511627776)))
theorem endE_range (start : Int) (L : List Ba) (hL : ∀ b ∈ L, Fit b) (h0 : 0 ≤ start) (h1 : start ≤ 1099511627776) : 0 ≤ endE start L ∧ endE start L ≤ 1099511627792 := by
 unfold endE
 split
 ·omega
 ·rename_i b hb
  have hm := hL b (List.mem_of_getLast? hb)
  have := hm.base
  have := hm.count
  omega
theorem under_bas (n : Nat) : ∀ (l : List Ba), AVal.underL n (l.map Ba.V) = true
 | [] => rfl
 | x :: l => by simp [Ba.V, Ba.cs, AVal.underL, AVal.under, under_rc, under_bas n l]
def atEnd (start : Int) (L : List Ba) (b : Ba) : Ba := { b with base := endE start L }
def prodOK (cap start : Int) (L : List Ba) (b : Ba) : Bool :=
 decide (rightE (atEnd start L b) = 0) && (decide (b.mark = 0) && putOK cap start L (atEnd start L b))
def prodL (cap start : Int) (L : List Ba) (b : Ba) : List Ba := if prodOK cap start L b = true then L ++ [atEnd start L b] else L
def prodF (cap start : Int) (L : List Ba) (b : Ba) (fl : Fl) : Fl := if prodOK cap start L b = true then .own else fl
def markB (start : Int) (L : List Ba) (prod epoch mark : Int) : Ba := ⟨endE start L, prod, epoch, -1, true, mark, []⟩
def markOK (cap start : Int) (L : List Ba) (prod epoch mark : Int) : Bool := !decide (mark = 0) && putOK cap start L (markB start L prod epoch mark)
def markL (cap start : Int) (L : List Ba) (prod epoch mark : Int) : List Ba := if markOK cap start L prod epoch mark = true then L ++ [markB start L prod epoch mark] else L
def markF (cap start : Int) (L : List Ba) (prod epoch mark : Int) (fl : Fl) : Fl := if markOK cap start L prod epoch mark = true then .own else fl
theorem recs4_small (l a) : SmallR (recs4 l a).1 ∧ 0 < (recs4 l a).1.length ∧ (recs4 l a).1.any bigR = false := by
 have hr := nextV_range (l := l) (a := a) (n := 4) (by omega) (by omega)
 have hlen : (recs4 l a).1.length = (1 + nextV l a 4).toNat := recsT_len l _ _
 have hs := recsT_small l (1 + nextV l a 4).toNat (nextA l a 4)
 refine ⟨⟨by omega, fun x hx => ?_⟩, by omega, ?_⟩
 ·have := hs x hx; omega
 ·rw [List.any_eq_false]
  intro x hx
  have := hs x hx
  simp [bigR]; omega
structure TB (b : Ba) (base : Int) : Prop where
 ok : BOK b
 right : rightE b = 0
 base : b.base = base
theorem tapeBatch_right (l : List Int) (base : Int) (h0 : 0 ≤ base) (h1 : base ≤ 1099511627776) (a : Nat) : TB (tapeBatch l base a).1 base := by
 have data : ∀ b : Ba, b.base = base → b.mark = 0 → SmallR b.recs → 0 < b.recs.length → b.recs.any bigR = false → (noneB b || (namedB b && seqR b.seq)) = true → rightE b = 0 := by
  intro b e1 e2 e3 e4 e5 e6
  unfold rightE
  rw [if_neg (by omega), if_pos e2]
  unfold dataE
  rw [if_neg (by cases hn : noneB b <;> simp_all), if_neg (by omega), if_neg (by have := e3.1; omega), if_neg (by rw [e5]; decide)]
 have r1 := nextV_range (l := l) (a := a) (n := 4) (by omega) (by omega)
 have rr : ∀ a n, 1 ≤ n → n ≤ 1073741824 → 0 ≤ nextV l a n ∧ nextV l a n < n := fun a n hn hm => nextV_range hn hm
 unfold tapeBatch
 simp only
 split
 ·rename_i hp
  have hp1 : nextV l a 4 - 1 = -1 := by omega
  obtain ⟨s1, s2, s3⟩ := recs4_small l (nextA l a 4)
  refine ⟨⟨?_, ?_, ?_, ?_, ?_⟩, data _ rfl rfl s1 s2 s3 (by simp [noneB, hp1]), rfl⟩ <;> (unfold I64; simp only; omega)
 ·rename_i hp
  have q1 := rr (nextA l a 4) 3 (by omega) (by omega)
  split
  ·have q2 := rr (nextA l (nextA l (nextA l a 4) 3) 4) 2 (by omega) (by omega)
   refine ⟨⟨?_, ?_, ?_, ?_, ?_⟩, ?_, rfl⟩
   ·unfold I64; simp only; omega
   ·unfold I64; simp only; omega
   ·unfold I64; simp only; omega
   ·unfold I64; simp only; omega
   ·unfold I64; simp only; omega
   ·unfold rightE
    rw [if_neg (by simp only; omega), if_neg (by simp only; omega), if_neg]
    simp only [markE, namedB]
    have e1 : (decide (1 + nextV l (nextA l (nextA l (nextA l a 4) 3) 4) 2 ≠ 1) && decide (1 + nextV l (nextA l (nextA l (nextA l a 4) 3) 4) 2 ≠ 2)) = false := by
     by_cases h : 1 + nextV l (nextA l (nextA l (nextA l a 4) 3) 4) 2 = 1
     ·simp [h]
     ·have : 1 + nextV l (nextA l (nextA l (nextA l a 4) 3) 4) 2 = 2 := by omega
      simp [this]
    rw [e1]
    simp; omega
  ·have q3 := rr (nextA l (nextA l (nextA l a 4) 3) 4) 6 (by omega) (by omega)
   obtain ⟨s1, s2, s3⟩ := recs4_small l (nextA l (nextA l (nextA l (nextA l (nextA l a 4) 3) 4) 6) 2)
   split
   ·have q8 := rr (nextA l (recs4 l (nextA l (nextA l (nextA l (nextA l (nextA l a 4) 3) 4) 6) 2)).2 9) 3 (by omega) (by omega)
    refine ⟨⟨?_, ?_, ?_, ?_, ?_⟩, data _ rfl rfl s1 s2 s3 (by simp [namedB, seqR]; omega), rfl⟩ <;> (unfold I64; simp only; omega)
   ·refine ⟨⟨?_, ?_, ?_, ?_, ?_⟩, data _ rfl rfl s1 s2 s3 (by simp [namedB, seqR]; omega), rfl⟩ <;> (unfold I64; simp only; omega)
theorem tapeBatch_at (l : List Int) (base : Int) (a : Nat) (ha : a ≤ l.length) : (tapeBatch l base a).2 ≤ l.length := by
 unfold tapeBatch
 simp only
 split
 ·exact recs4_le (nextA_le ha)
 ·split
  ·exact nextA_le (nextA_le (nextA_le (nextA_le ha)))
  ·split
   ·exact nextA_le (nextA_le (recs4_le (nextA_le (nextA_le (nextA_le (nextA_le (nextA_le ha)))))))
   ·exact nextA_le (recs4_le (nextA_le (nextA_le (nextA_le (nextA_le (nextA_le ha))))))
theorem tapeBatch_recs (l : List Int) (base : Int) (a : Nat) : (tapeBatch l base a).1.recs.length ≤ 16 := by
 unfold tapeBatch
 simp only
 split
 ·exact (recs4_small l _).1.1
 ·split
  ·simp
  ·split
   ·exact (recs4_small l _).1.1
   ·exact (recs4_small l _).1.1
theorem i64_c {n : Int} (h : -9223372036854775808 ≤ n) (k : n ≤ 9223372036854775807) : I64 n := by unfold I64; omega
structure PrOK (p : Pr) : Prop where
 id : I64 p.id
 epoch : I64 p.epoch
 open_ : I64 p.open_
 last : ∀ x ∈ p.last, I64 x.1 ∧ I64 x.2.1 ∧ I64 x.2.2
theorem lastS_i64 (n c : Int) : I64 (lastS n c) := by
 unfold lastS
 split
 ·exact i64_c (by omega) (by omega)
 ·unfold addS
  split
  ·exact i64_c (by omega) (by omega)
  ·exact i64_c (by omega) (by omega)
theorem zeroPr_ok : PrOK zeroPr := ⟨i64_c (by decide) (by decide), i64_c (by decide) (by decide), i64_c (by decide) (by decide), by simp [zeroPr]⟩
theorem applyP_ok {p : Pr} (h : PrOK p) (known : Bool) {b : Ba} (hb : BOK b) : PrOK (applyP p known b) := by
 have hl : ∀ x ∈ lastsP p known b, I64 x.1 ∧ I64 x.2.1 ∧ I64 x.2.2 := by
  unfold lastsP
  split
  ·exact h.last
  ·simp
 have ho : I64 (openP p known) := by
  unfold openP
  split
  ·exact h.open_
  ·exact i64_c (by decide) (by decide)
 unfold applyP
 split
 ·exact ⟨hb.prod, hb.epoch, show I64 (-1) from i64_c (by decide) (by decide), hl⟩
 ·refine ⟨hb.prod, hb.epoch, ?_, ?_⟩
  ·simp only; split
   ·exact hb.base
   ·exact ho
  ·intro x hx
   have hx' := List.mem_of_mem_drop hx
   unfold newL at hx'
   rw [List.mem_append] at hx'
   rcases hx' with hx' | hx'
   ·exact hl x hx'
   ·simp only [List.mem_cons, List.not_mem_nil, or_false] at hx'
    rw [hx']
    exact ⟨hb.seq, lastS_i64 _ _, hb.base⟩
theorem tabL_ok {L : List Pr} (h : ∀ p ∈ L, PrOK p) {b : Ba} (hb : BOK b) : ∀ p ∈ tabL L b, PrOK p := by
 unfold tabL
 split
 ·exact h
 ·split
  ·rename_i p hp
   intro q hq
   rcases List.mem_or_eq_of_mem_set hq with hq | rfl
   ·exact h q hq
   ·exact applyP_ok (h p (atP_mem hp).1) true hb
  ·intro q hq
   simp only [List.append_assoc, List.mem_append, List.mem_cons, List.not_mem_nil, or_false] at hq
   rcases hq with hq | rfl | hq
   ·exact h q (List.mem_of_mem_take hq)
   ·exact applyP_ok zeroPr_ok false hb
   ·exact h q (List.mem_of_mem_drop hq)
theorem foldL_ok : ∀ (A : List Ba) (L : List Pr), (∀ b ∈ A, BOK b) → (∀ p ∈ L, PrOK p) → ∀ p ∈ foldL A L, PrOK p
 | [], _, _, h => h
 | b :: A, L, hA, h => foldL_ok A (tabL L b) (fun x hx => hA x (List.mem_cons_of_mem _ hx)) (tabL_ok h (hA b List.mem_cons_self))
theorem foldL_TK : ∀ (A : List Ba) (L : List Pr) (n : Nat), TK L n → TK (foldL A L) (n + A.length)
 | [], _, _, h => h
 | b :: A, L, n, h => by
  have := foldL_TK A (tabL L b) (n + 1) (h.next b)
  rw [show n + (b :: A).length = n + 1 + A.length by simp only [List.length_cons]; omega]
  exact this
def seqAsk (p : Pr) : Int := match p.last.getLast? with
 | some x => (x.2.1 + 1) % 2147483648
 | none => 0
def askData (l : List Int) (b : Ba) (p : Pr) (a : Nat) : Ba × Nat :=
 let b1 : Ba := { b with epoch := p.epoch, seq := seqAsk p, txn := decide (p.open_ ≥ 0) || b.txn }
 if p.last = [] then (b1, a)
 else if nextV l a 7 = 0 then ({ b1 with seq := (p.last.getD (nextV l (nextA l a 7) p.last.length).toNat (0, 0, 0)).1 }, nextA l (nextA l a 7) p.last.length)
 else (b1, nextA l a 7)
def askStep (l : List Int) (s : Ba × Nat) (p : Pr) : Ba × Nat :=
 if p.id ≠ s.1.prod then s
 else if s.1.mark ≠ 0 then ({ s.1 with epoch := p.epoch }, s.2)
 else askData l s.1 p s.2
def askB (l : List Int) (L : List Ba) (a : Nat) : Ba × Nat :=
 let s := tapeBatch l 0 a
 if s.1.prod < 0 then s
 else if nextV l s.2 8 = 0 then (s.1, nextA l s.2 8)
 else (foldL L []).foldl (askStep l) (s.1, nextA l s.2 8)
structure AskOK (l : List Int) (s : Ba × Nat) : Prop where
 bok : BOK s.1
 at_ : s.2 ≤ l.length
 recs : s.1.recs.length ≤ 16
theorem askData_ok {l b p a} (hl : l.length ≤ 140737488355328) (h : AskOK l (b, a)) (hp : PrOK p) (hn : p.last.length ≤ 5) : AskOK l (askData l b p a) := by
 have hs : I64 (seqAsk p) := by
  unfold seqAsk
  split
  ·exact i64_c (by omega) (by omega)
  ·exact i64_c (by omega) (by omega)
 have h1 := nextA_le (n := 7) h.at_
 unfold askData
 simp only
 split
 ·exact ⟨⟨h.bok.base, h.bok.prod, hp.epoch, hs, h.bok.mark⟩, h.at_, h.recs⟩
 ·rename_i hne
  split
  ·refine ⟨⟨h.bok.base, h.bok.prod, hp.epoch, ?_, h.bok.mark⟩, nextA_le h1, h.recs⟩
   simp only
   have hpos : 0 < p.last.length := List.length_pos_iff.2 hne
   have r := nextV_range (l := l) (a := nextA l a 7) (n := p.last.length) (by omega) (by omega)
   rw [List.getD_eq_getElem?_getD]
   have : (nextV l (nextA l a 7) p.last.length).toNat < p.last.length := by omega
   rw [List.getElem?_eq_getElem this]
   exact (hp.last _ (List.getElem_mem this)).1
  ·exact ⟨⟨h.bok.base, h.bok.prod, hp.epoch, hs, h.bok.mark⟩, h1, h.recs⟩
theorem askStep_ok {l s p} (hl : l.length ≤ 140737488355328) (h : AskOK l s) (hp : PrOK p) (hn : p.last.length ≤ 5) : AskOK l (askStep l s p) := by
 unfold askStep
 split
 ·exact h
 ·split
  ·exact ⟨⟨h.bok.base, h.bok.prod, hp.epoch, h.bok.seq, h.bok.mark⟩, h.at_, h.recs⟩
  ·exact askData_ok hl h hp hn
theorem askFold_ok {l} (hl : l.length ≤ 140737488355328) : ∀ (P : List Pr) (s : Ba × Nat), AskOK l s → (∀ p ∈ P, PrOK p ∧ p.last.length ≤ 5) → AskOK l (P.foldl (askStep l) s)
 | [], _, h, _ => h
 | p :: P, s, h, hP => askFold_ok hl P (askStep l s p) (askStep_ok hl h (hP p List.mem_cons_self).1 (hP p List.mem_cons_self).2) (fun q hq => hP q (List.mem_cons_of_mem _ hq))
end Go.Abs
namespace Go.Abs.Pq
open Go Go.RowKit
def rightQ (n : Int) : Bool := decide (0 ≤ n ∧ n ≤ 2147483647)
def addQ (n k : Int) : Int := if rightQ n = true then (n + k) % 2147483648 else -1
def lastQ (f c : Int) : Int := if 1 ≤ c ∧ c ≤ 16 then addQ f (c - 1) else -1
def followsQ (l f : Int) : Bool := if l = -1 then decide (f = 0) else rightQ l && decide (f = addQ l 1)
theorem right_spec (n : Int) (H : Heap) : W n_seq_Right [.int .i64 n] H = some (.bool (rightQ n), H) := by
 refine W_fn rfl rfl ?_
 unfold rightQ
 by_cases h1 : n ≥ 0 <;> by_cases h2 : n ≤ 2147483647 <;> simp only [go_sem, c_seq_Right, h1, h2, reduceCtorEq, ↓reduceIte, Nat.reduceAdd, Nat.reduceEqDiff, Nat.reduceLT, Int.reduceLE, Nat.reduceSub, Nat.reduceLeDiff, Nat.reduceMul, Int.reduceToNat, Int.reduceLT, Int.reduceEq, Int.reduceNeg, Nat.reduceBEq, Nat.reduceBNe]
theorem add_spec (n k : Int) (H : Heap) (h0 : 0 ≤ k) (h1 : k ≤ 1000000) : W n_seq_Add [.int .i64 n, .int .i64 k] H = some (.int .i64 (addQ n k), H) := by
 have hs := right_spec n
 refine W_fn rfl rfl ?_
 cases h : rightQ n with
 | false => rw [h] at hs; simp only [go_sem, c_seq_Add, hs, reduceCtorEq, ↓reduceIte, Nat.reduceAdd, Nat.reduceEqDiff, Nat.reduceLT, Int.reduceLE, Nat.reduceSub, Nat.reduceLeDiff, Nat.reduceMul, Int.reduceToNat, Int.reduceLT, Int.reduceEq, Int.reduceNeg, Nat.reduceBEq, Nat.reduceBNe]; simp [addQ, h]
 | true =>
  rw [h] at hs
  have hr : 0 ≤ n ∧ n ≤ 2147483647 := by simpa [rightQ] using h
  have e1 : IntKind.i64.wrap (n + k.tmod 2147483648) = n + k := by
   rw [Int.tmod_eq_emod_of_nonneg h0, wrap_id (by unfold I64; omega)]; omega
  have e2 : IntKind.i64.wrap ((n + k).tmod 2147483648 + 2147483648) = (n + k) % 2147483648 + 2147483648 := by
   rw [Int.tmod_eq_emod_of_nonneg (by omega), wrap_id (by unfold I64; omega)]
  have e3 : ((n + k) % 2147483648 + 2147483648).tmod 2147483648 = (n + k) % 2147483648 := by
   rw [Int.tmod_eq_emod_of_nonneg (by omega)]; omega
  simp only [go_sem, c_seq_Add, hs, e1, e2, e3, addQ, h, reduceCtorEq, ↓reduceIte, Nat.reduceAdd, Nat.reduceEqDiff, Nat.reduceLT, Int.reduceLE, Nat.reduceSub, Nat.reduceLeDiff, Nat.reduceMul, Int.reduceToNat, Int.reduceLT, Int.reduceEq, Int.reduceNeg, Nat.reduceBEq, Nat.reduceBNe]
theorem last_spec (f c : Int) (H : Heap) (hc : I64 c) : W n_seq_Last [.int .i64 f, .int .i64 c] H = some (.int .i64 (lastQ f c), H) := by
 refine W_fn rfl rfl ?_
 by_cases h1 : c < 1
 ·simp only [go_sem, c_seq_Last, h1, lastQ, show ¬ (1 ≤ c ∧ c ≤ 16) by omega, reduceCtorEq, ↓reduceIte, Nat.reduceAdd, Nat.reduceEqDiff, Nat.reduceLT, Int.reduceLE, Nat.reduceSub, Nat.reduceLeDiff, Nat.reduceMul, Int.reduceToNat, Int.reduceLT, Int.reduceEq, Int.reduceNeg, Nat.reduceBEq, Nat.reduceBNe]
 ·by_cases h2 : c > 16
  ·simp only [go_sem, c_seq_Last, h1, h2, lastQ, show ¬ (1 ≤ c ∧ c ≤ 16) by omega, reduceCtorEq, ↓reduceIte, Nat.reduceAdd, Nat.reduceEqDiff, Nat.reduceLT, Int.reduceLE, Nat.reduceSub, Nat.reduceLeDiff, Nat.reduceMul, Int.reduceToNat, Int.reduceLT, Int.reduceEq, Int.reduceNeg, Nat.reduceBEq, Nat.reduceBNe]
  ·have ha := fun H => add_spec f (c - 1) H (by omega) (by omega)
   have e1 : IntKind.i64.wrap (c - 1) = c - 1 := wrap_id (by unfold I64 at *; omega)
   simp only [go_sem, c_seq_Last, h1, h2, lastQ, show (1 ≤ c ∧ c ≤ 16) by omega, e1, ha, reduceCtorEq, ↓reduceIte, Nat.reduceAdd, Nat.reduceEqDiff, Nat.reduceLT, Int.reduceLE, Nat.reduceSub, Nat.reduceLeDiff, Nat.reduceMul, Int.reduceToNat, Int.reduceLT, Int.reduceEq, Int.reduceNeg, Nat.reduceBEq, Nat.reduceBNe]
structure Pr where
 id : Int
 ep : Int
 last : List (Int × Int × Int)
 op : Int
structure Ba where
 base : Int
 prod : Int
 ep : Int
 seq : Int
 txn : Bool
 mark : Int
 recs : List AVal
abbrev t3 (t : Int × Int × Int) : AVal := .agg [.int .i64 t.1, .int .i64 t.2.1, .int .i64 t.2.2]
abbrev lastV (l : List (Int × Int × Int)) (fl : Fl) : AVal := .list 3 (l.map t3) fl
abbrev Pr.v (p : Pr) : AVal := .agg [.int .i64 p.id, .int .i64 p.ep, lastV p.last .ro, .int .i64 p.op]
abbrev Ba.v (b : Ba) : AVal := .agg [.int .i64 b.base, .int .i64 b.prod, .int .i64 b.ep, .int .i64 b.seq, .bool b.txn, .int .i64 b.mark, .list 2 b.recs .ro]
def dupQ (p : Pr) (b : Ba) : List (Int × Int × Int) → Int × Bool
 | [] => (-1, false)
 | l :: ls => if b.mark = 0 ∧ b.ep = p.ep ∧ l.1 = b.seq ∧ l.2.1 = lastQ b.seq b.recs.length then (l.2.2, true) else dupQ p b ls
def checkQ (p : Pr) (known : Bool) (b : Ba) : Int × Int :=
 if b.mark ≠ 0 then (-1, if known = false then 16 else if b.ep < p.ep then 14 else if p.op < 0 then 16 else 0)
 else if known = false then (-1, 0)
 else if b.ep < p.ep then (-1, 14)
 else if b.ep > p.ep then (-1, if p.op ≥ 0 then 16 else if b.seq ≠ 0 then 15 else 0)
 else if (dupQ p b p.last).2 = true then ((dupQ p b p.last).1, 0)
 else if p.last ≠ [] ∧ followsQ (p.last.getLastD (0, 0, 0)).2.1 b.seq = false then (-1, 15)
 else if p.op ≥ 0 ∧ b.txn = false then (-1, 16)
 else (-1, 0)
def applyQ (p : Pr) (known : Bool) (b : Ba) : Pr :=
 let op := if known then p.op else -1
 let l := if known = true ∧ b.ep = p.ep then p.last else []
 if b.mark ≠ 0 then ⟨b.prod, b.ep, l, -1⟩
 else
  let l2 := l ++ [(b.seq, lastQ b.seq b.recs.length, b.base)]
  ⟨b.prod, b.ep, l2.drop (l2.length - 5), if b.txn = true ∧ op < 0 then b.base else op⟩
theorem apply_spec (p : Pr) (k : Bool) (b : Ba) (H : Heap) (hl : p.last.length < 1000000) (hr : b.recs.length < 1000000000) :
  W n_producer_Apply [p.v, .bool k, b.v] H = some ((applyQ p k b).v, H) := by
 have hlast := fun H => last_spec b.seq (b.recs.length : Int) H (by unfold I64; omega)
 have hcl : (p.last.map t3).length * 24 ≤ maxBytes := by simp [maxBytes]; omega
 have u1 : ∀ l : List (Int × Int × Int), AVal.underL 0 (l.map t3) = true := fun l => uL_map 0 t3 (fun _ => rfl) l
 by_cases c1 : b.mark = 0
 ·have key : ∀ (l : List (Int × Int × Int)), l.length ≤ p.last.length →
   ((l.map t3).length + 1) * 24 ≤ maxBytes ∧
   (l.map t3 ++ [AVal.agg [.int .i64 b.seq, .int .i64 (lastQ b.seq b.recs.length), .int .i64 b.base]]) = (l ++ [(b.seq, lastQ b.seq b.recs.length, b.base)]).map t3 ∧
   ((l ++ [(b.seq, lastQ b.seq b.recs.length, b.base)]).map t3).length = l.length + 1 ∧
   IntKind.i64.wrap (((l.length + 1 : Nat) : Int) - 5) = (l.length : Int) - 4 := by
   intro l hl'
   refine ⟨by simp [maxBytes]; omega, by simp, by simp, by rw [wrap_id (by unfold I64; omega)]; omega⟩
  have tail : ∀ (l : List (Int × Int × Int)), l.length ≤ p.last.length → 
   (0 : Int) ≤ mx 0 ((l.length : Int) - 4) ∧ mx 0 ((l.length : Int) - 4) ≤ ((l.length + 1 : Nat) : Int) ∧
   ((l ++ [(b.seq, lastQ b.seq b.recs.length, b.base)]).map t3).drop (mx 0 ((l.length : Int) - 4)).toNat = ((l ++ [(b.seq, lastQ b.seq b.recs.length, b.base)]).drop ((l ++ [(b.seq, lastQ b.seq b.recs.length, b.base)]).length - 5)).map t3 ∧
   (((l ++ [(b.seq, lastQ b.seq b.recs.length, b.base)]).drop ((l ++ [(b.seq, lastQ b.seq b.recs.length, b.base)]).length - 5)).map t3).length * 24 ≤ maxBytes := by
   intro l hl'
   have h : (mx 0 ((l.length : Int) - 4)).toNat = (l ++ [(b.seq, lastQ b.seq b.recs.length, b.base)]).length - 5 := by
    rw [List.length_append]; simp only [List.length_cons, List.length_nil]; unfold mx; split <;> omega
   refine ⟨by unfold mx; split <;> omega, by unfold mx; split <;> omega, by rw [h, List.map_drop], by simp [maxBytes]; omega⟩
  obtain ⟨k1, k2, k3, k4⟩ := key p.last (Nat.le_refl _)
  obtain ⟨t1, t2, t3', t4⟩ := tail p.last (Nat.le_refl _)
  have w1 : IntKind.i64.wrap (1 - 5) = -4 := by decide
  have w2 : mx 0 (-4) = 0 := by decide
  have w3 : (0 + 1) * 24 ≤ maxBytes := by decide
  have w4 : 1 * 24 ≤ maxBytes := by decide
  refine W_fn rfl rfl ?_
  cases k with
  | false =>
   by_cases c5 : b.txn = true
   ·simp only [go_sem, c_producer_Apply, eq_true c1, c5, applyQ, u1, hlast, apF, w1, w2, w3, w4, slL, W_slices_Clone_3_int64_3_int64_, Pr.v, reduceCtorEq, ↓reduceIte, Nat.reduceAdd, Nat.reduceEqDiff, Nat.reduceLT, Int.reduceLE, Nat.reduceSub, Nat.reduceLeDiff, Nat.reduceMul, Int.reduceToNat, Int.reduceLT, Int.reduceEq, Int.reduceNeg, Nat.reduceBEq, Nat.reduceBNe]; rfl
   ·simp only [go_sem, c_producer_Apply, eq_true c1, c5, applyQ, u1, hlast, apF, w1, w2, w3, w4, slL, W_slices_Clone_3_int64_3_int64_, Pr.v, reduceCtorEq, ↓reduceIte, Nat.reduceAdd, Nat.reduceEqDiff, Nat.reduceLT, Int.reduceLE, Nat.reduceSub, Nat.reduceLeDiff, Nat.reduceMul, Int.reduceToNat, Int.reduceLT, Int.reduceEq, Int.reduceNeg, Nat.reduceBEq, Nat.reduceBNe]; rfl
  | true =>
   by_cases c2 : b.ep = p.ep
   ·by_cases c5 : b.txn = true
    ·by_cases c6 : p.op < 0
     ·simp only [go_sem, c_producer_Apply, eq_true c1, eq_true c2, c5, c6, applyQ, u1, hlast, apO, k1, k2, k3, k4, t1, t2, t3', t4, hcl, slL, W_slices_Clone_3_int64_3_int64_, Pr.v, reduceCtorEq, ↓reduceIte, Nat.reduceAdd, Nat.reduceEqDiff, Nat.reduceLT, Int.reduceLE, Nat.reduceSub, Nat.reduceLeDiff, Nat.reduceMul, Int.reduceToNat, Int.reduceLT, Int.reduceEq, Int.reduceNeg, Nat.reduceBEq, Nat.reduceBNe]
     ·simp only [go_sem, c_producer_Apply, eq_true c1, eq_true c2, c5, c6, applyQ, u1, hlast, apO, k1, k2, k3, k4, t1, t2, t3', t4, hcl, slL, W_slices_Clone_3_int64_3_int64_, Pr.v, reduceCtorEq, ↓reduceIte, Nat.reduceAdd, Nat.reduceEqDiff, Nat.reduceLT, Int.reduceLE, Nat.reduceSub, Nat.reduceLeDiff, Nat.reduceMul, Int.reduceToNat, Int.reduceLT, Int.reduceEq, Int.reduceNeg, Nat.reduceBEq, Nat.reduceBNe]
    ·simp only [go_sem, c_producer_Apply, eq_true c1, eq_true c2, c5, applyQ, u1, hlast, apO, k1, k2, k3, k4, t1, t2, t3', t4, hcl, slL, W_slices_Clone_3_int64_3_int64_, Pr.v, reduceCtorEq, ↓reduceIte, Nat.reduceAdd, Nat.reduceEqDiff, Nat.reduceLT, Int.reduceLE, Nat.reduceSub, Nat.reduceLeDiff, Nat.reduceMul, Int.reduceToNat, Int.reduceLT, Int.reduceEq, Int.reduceNeg, Nat.reduceBEq, Nat.reduceBNe]
   ·by_cases c5 : b.txn = true
    ·by_cases c6 : p.op < 0
     ·simp only [go_sem, c_producer_Apply, eq_true c1, c2, c5, c6, applyQ, u1, hlast, apF, w1, w2, w3, w4, slL, W_slices_Clone_3_int64_3_int64_, Pr.v, reduceCtorEq, ↓reduceIte, Nat.reduceAdd, Nat.reduceEqDiff, Nat.reduceLT, Int.reduceLE, Nat.reduceSub, Nat.reduceLeDiff, Nat.reduceMul, Int.reduceToNat, Int.reduceLT, Int.reduceEq, Int.reduceNeg, Nat.reduceBEq, Nat.reduceBNe]; rfl
     ·simp only [go_sem, c_producer_Apply, eq_true c1, c2, c5, c6, applyQ, u1, hlast, apF, w1, w2, w3, w4, slL, W_slices_Clone_3_int64_3_int64_, Pr.v, reduceCtorEq, ↓reduceIte, Nat.reduceAdd, Nat.reduceEqDiff, Nat.reduceLT, Int.reduceLE, Nat.reduceSub, Nat.reduceLeDiff, Nat.reduceMul, Int.reduceToNat, Int.reduceLT, Int.reduceEq, Int.reduceNeg, Nat.reduceBEq, Nat.reduceBNe]; rfl
    ·simp only [go_sem, c_producer_Apply, eq_true c1, c2, c5, applyQ, u1, hlast, apF, w1, w2, w3, w4, slL, W_slices_Clone_3_int64_3_int64_, Pr.v, reduceCtorEq, ↓reduceIte, Nat.reduceAdd, Nat.reduceEqDiff, Nat.reduceLT, Int.reduceLE, Nat.reduceSub, Nat.reduceLeDiff, Nat.reduceMul, Int.reduceToNat, Int.reduceLT, Int.reduceEq, Int.reduceNeg, Nat.reduceBEq, Nat.reduceBNe]; rfl
 ·refine W_fn rfl rfl ?_
  cases k with
  | false => simp only [go_sem, c_producer_Apply, c1, applyQ, u1, Pr.v, reduceCtorEq, ↓reduceIte, Nat.reduceAdd, Nat.reduceEqDiff, Nat.reduceLT, Int.reduceLE, Nat.reduceSub, Nat.reduceLeDiff, Nat.reduceMul, Int.reduceToNat, Int.reduceLT, Int.reduceEq, Int.reduceNeg, Nat.reduceBEq, Nat.reduceBNe]; rfl
  | true =>
   by_cases c2 : b.ep = p.ep
   ·simp only [go_sem, c_producer_Apply, c1, eq_true c2, applyQ, u1, W_slices_Clone_3_int64_3_int64_, hcl, reduceCtorEq, ↓reduceIte, Nat.reduceAdd, Nat.reduceEqDiff, Nat.reduceLT, Int.reduceLE, Nat.reduceSub, Nat.reduceLeDiff, Nat.reduceMul, Int.reduceToNat, Int.reduceLT, Int.reduceEq, Int.reduceNeg, Nat.reduceBEq, Nat.reduceBNe]
   ·simp only [go_sem, c_producer_Apply, c1, c2, applyQ, u1, Pr.v, reduceCtorEq, ↓reduceIte, Nat.reduceAdd, Nat.reduceEqDiff, Nat.reduceLT, Int.reduceLE, Nat.reduceSub, Nat.reduceLeDiff, Nat.reduceMul, Int.reduceToNat, Int.reduceLT, Int.reduceEq, Int.reduceNeg, Nat.reduceBEq, Nat.reduceBNe]; rfl
end Go.Abs.Pq
namespace Go.Abs
open Go Go.RowKit
def toP (p : Pr) : Pq.Pr := ⟨p.id, p.epoch, p.last, p.open_⟩
def toB (b : Ba) : Pq.Ba := ⟨b.base, b.prod, b.epoch, b.seq, b.txn, b.mark, b.recs.map rcV⟩
theorem toP_v (p : Pr) : (toP p).v = p.V := rfl
theorem toB_v (b : Ba) : (toB b).v = b.V := rfl
theorem rightQ_eq (n : Int) : Pq.rightQ n = seqR n := by
 unfold Pq.rightQ seqR
 by_cases h : n ≥ 0 <;> by_cases k : n ≤ 2147483647 <;> simp [h, k]
 all_goals omega
theorem addQ_eq (n k : Int) : Pq.addQ n k = addS n k := by unfold Pq.addQ addS; rw [rightQ_eq]
theorem lastQ_eq (n c : Int) : Pq.lastQ n c = lastS n c := by
 unfold Pq.lastQ lastS
 rw [addQ_eq]
 by_cases h : 1 ≤ c ∧ c ≤ 16
 ·rw [if_pos h, if_neg (by omega)]
 ·rw [if_neg h, if_pos (by omega)]
theorem applyQ_eq (p : Pr) (k : Bool) (b : Ba) : Pq.applyQ (toP p) k (toB b) = toP (applyP p k b) := by
 have hl : (if k = true ∧ b.epoch = p.epoch then p.last else []) = lastsP p k b := by
  unfold lastsP
  by_cases h : k = true ∧ b.epoch = p.epoch
  ·rw [if_pos h, if_pos ⟨h.1, h.2.symm⟩]
  ·rw [if_neg h, if_neg (fun q => h ⟨q.1, q.2.symm⟩)]
 have hll : (b.recs.map rcV).length = b.recs.length := List.length_map _
 have h : Pq.applyQ (toP p) k (toB b) = (if b.mark ≠ 0 then (⟨b.prod, b.epoch, if k = true ∧ b.epoch = p.epoch then p.last else [], -1⟩ : Pq.Pr)
  else ⟨b.prod, b.epoch, ((if k = true ∧ b.epoch = p.epoch then p.last else []) ++ [(b.seq, Pq.lastQ b.seq (b.recs.map rcV).length, b.base)]).drop (((if k = true ∧ b.epoch = p.epoch then p.last else []) ++ [(b.seq, Pq.lastQ b.seq (b.recs.map rcV).length, b.base)]).length - 5), if b.txn = true ∧ openP p k < 0 then b.base else openP p k⟩) := rfl
 rw [h, hl, hll, lastQ_eq]
 unfold applyP
 by_cases c : b.mark ≠ 0
 ·rw [if_pos c, if_pos c]; rfl
 ·rw [if_neg c, if_neg c]; rfl
theorem papply_spec (p : Pr) (k : Bool) (b : Ba) (hl : p.last.length ≤ 1000) (hr : b.recs.length ≤ 1000) (H : Heap) :
  W n_producer_Apply [p.V, .bool k, b.V] H = some ((applyP p k b).V, H) := by
 have := Pq.apply_spec (toP p) k (toB b) H (by show p.last.length < _; omega) (by simp only [toB, List.length_map]; omega)
 rw [toP_v, toB_v, applyQ_eq, toP_v] at this
 exact this
theorem putOK_right {cap start L b} (h : putOK cap start L b = true) : rightE b = 0 := by
 unfold putOK at h
 rw [Bool.and_eq_true, decide_eq_true_eq] at h
 have h1 := h.1
 unfold tabCheck at h1
 by_cases c : rightE b = 0
 ·exact c
 ·rw [if_pos c] at h1; exact absurd h1 c
theorem Fit.all {L : List Ba} {b : Ba} (h : ∀ b ∈ L, Fit b) (hb : Fit b) : ∀ x ∈ L ++ [b], Fit x := by
 intro x hx
 rw [List.mem_append, List.mem_singleton] at hx
 rcases hx with hx | rfl
 ·exact h x hx
 ·exact hb
theorem prodL_fit {cap start L b} (hL : ∀ b ∈ L, Fit b) (h0 : 0 ≤ start) (h1 : start ≤ 1099511627776) (hb : BOK b) : ∀ x ∈ prodL cap start L b, Fit x := by
 unfold prodL
 split
 ·rename_i h
  refine Fit.all hL ⟨?_, ?_⟩
  ·have re := endE_range start L hL h0 h1
   exact ⟨by unfold I64 atEnd; simp only; omega, hb.prod, hb.epoch, hb.seq, hb.mark⟩
  ·unfold prodOK at h
   rw [Bool.and_eq_true, decide_eq_true_eq] at h
   exact h.1
 ·exact hL
theorem markL_fit {cap start L p e m} (hL : ∀ b ∈ L, Fit b) (h0 : 0 ≤ start) (h1 : start ≤ 1099511627776) (hp : I64 p) (he : I64 e) (hm : I64 m) : ∀ x ∈ markL cap start L p e m, Fit x := by
 unfold markL
 split
 ·rename_i h
  have re := endE_range start L hL h0 h1
  refine Fit.all hL ⟨⟨by unfold I64 markB; simp only; omega, hp, he, show I64 (-1) from i64_c (by decide) (by decide), hm⟩, ?_⟩
  unfold markOK at h
  rw [Bool.and_eq_true] at h
  exact putOK_right h.2
 ·exact hL
theorem prodF_ok {cap start L b fl} (h : fl = .own ∨ (fl = .full ∧ L = [])) : prodF cap start L b fl = .own ∨ (prodF cap start L b fl = .full ∧ prodL cap start L b = []) := by
 unfold prodF prodL
 split
 ·exact .inl rfl
 ·exact h
theorem markF_ok {cap start L p e m fl} (h : fl = .own ∨ (fl = .full ∧ L = [])) : markF cap start L p e m fl = .own ∨ (markF cap start L p e m fl = .full ∧ markL cap start L p e m = []) := by
 unfold markF markL
 split
 ·exact .inl rfl
 ·exact h
theorem prodL_len {cap start L b} : (prodL cap start L b).length ≤ L.length + 1 := by unfold prodL; split <;> simp
theorem markL_len {cap start L p e m} : (markL cap start L p e m).length ≤ L.length + 1 := by unfold markL; split <;> simp
structure RS where
 L : List Ba
 at_ : Nat
 fl : Fl
def rowStep (l : List Int) (cap start : Int) (s : RS) : RS :=
 let b := (askB l s.L s.at_).1
 if b.mark = 0 then ⟨prodL cap start s.L b, (askB l s.L s.at_).2, prodF cap start s.L b s.fl⟩
 else ⟨markL cap start s.L b.prod b.epoch b.mark, (askB l s.L s.at_).2, markF cap start s.L b.prod b.epoch b.mark s.fl⟩
structure RI (l : List Int) (most : Nat) (s : RS) : Prop where
 fit : ∀ b ∈ s.L, Fit b
 len : s.L.length ≤ most
 at_ : s.at_ ≤ l.length
 fl : s.fl = .own ∨ (s.fl = .full ∧ s.L = [])
theorem askB_ok {l L a} (hl : l.length ≤ 140737488355328) (ha : a ≤ l.length) (hL : ∀ b ∈ L, Fit b) : AskOK l (askB l L a) := by
 have hb := tapeBatch_right l 0 (by omega) (by omega) a
 have ha1 := tapeBatch_at l 0 a ha
 have hr1 := tapeBatch_recs l 0 a
 have hPr := foldL_ok L [] (fun b hb => (hL b hb).ok) (by simp)
 have hTK := foldL_TK L [] 0 ⟨by simp, by simp⟩
 unfold askB
 simp only
 split
 ·exact ⟨hb.ok, ha1, hr1⟩
 ·split
  ·exact ⟨hb.ok, nextA_le ha1, hr1⟩
  ·exact askFold_ok hl _ _ ⟨hb.ok, nextA_le ha1, hr1⟩ (fun p hp => ⟨hPr p hp, hTK.last p hp⟩)
theorem RI.step {l most s cap start} (hl : l.length ≤ 140737488355328) (h0 : 0 ≤ start) (h1 : start ≤ 1099511627776) (h : RI l most s) (hm : s.L.length < most) : RI l most (rowStep l cap start s) := by
 have ha := askB_ok hl h.at_ h.fit
 unfold rowStep
 simp only
 split
 ·exact ⟨prodL_fit h.fit h0 h1 ha.bok, Nat.le_trans prodL_len hm, ha.at_, prodF_ok h.fl⟩
 ·exact ⟨markL_fit h.fit h0 h1 ha.bok.prod ha.bok.epoch ha.bok.mark, Nat.le_trans markL_len hm, ha.at_, markF_ok h.fl⟩
end Go.Abs
