import Derived.Test.YtnogeclgmdkabaaBC
import Derived.Test.YtnogeclgmdkabaaN1
set_option linter.unusedVariables false
set_option linter.unusedSimpArgs false
namespace Go.Abs
open Go Go.RowKit
theorem W_clone (xs H) (h : xs.length * 1 ≤ maxBytes) : W n_slices_Clone_byte_byte_ [.list 1 xs .ro] H = some (.list 1 xs .own, H) := W_slices_Clone_byte_byte_ xs H h
theorem W_clip (xs : List AVal) (H : Heap) : W n_slices_Clip_byte_byte_ [.list 1 xs .ro] H = some (.list 1 xs .full, H) := by
 refine W_fn0 rfl rfl ?_
 simp only [go_sem, c_slices_Clip_byte_byte_, trim_same, sl_clip, simprocAttr]
theorem bits_spec (n : Int) (H : Heap) (h : I64 (n * 8)) : W n_varint_bitsOf [.int .i64 n] H = some (.int .i64 (n * 8), H) := by
 have e := wrap_id h
 refine W_fn0 rfl rfl ?_
 simp only [go_sem, trim_same, c_varint_bitsOf, e, simprocAttr]
def be (n : Int) (i : Nat) : Int := (n / 2 ^ (8 * (7 - i))) % 256
def bes (n : Int) (i : Nat) : List Int := ((List.range 8).drop i).map (be n)
theorem toB8 (n : Int) (hn : I64 n) (k : Nat) (hk : k ≤ 56) : IntKind.u8.wrap (shr .i64 n (k : Int)) = (n / 2 ^ k) % 256 ∧ IntKind.u8.wrap (shr .u64 (IntKind.u64.wrap n) (k : Int)) = (n / 2 ^ k) % 256 := by
 have e : min ((k : Int)).toNat IntKind.i64.bits = k := by show min _ 64 = _; omega
 have e' : min ((k : Int)).toNat IntKind.u64.bits = k := by show min _ 64 = _; omega
 rw [Num.wu8, Num.wu8, Num.wu64]
 unfold shr
 rw [e, e']
 refine ⟨rfl, ?_⟩
 have hp : (18446744073709551616 : Int) = 2 ^ k * 2 ^ (64 - k) := by rw [← Int.pow_add]; rw [show k + (64 - k) = 64 by omega]; rfl
 have hp2 : (2 : Int) ^ (64 - k) = 256 * 2 ^ (56 - k) := by rw [show (64 - k) = 8 + (56 - k) by omega, Int.pow_add]; rfl
 have hpos : (0 : Int) < 2 ^ k := Int.pow_pos (by decide)
 have h1 : n % 18446744073709551616 = n - 18446744073709551616 * (n / 18446744073709551616) := by omega
 rw [h1]
 have h2 : n - 18446744073709551616 * (n / 18446744073709551616) = n + 2 ^ k * (-(2 ^ (64 - k) * (n / 18446744073709551616))) := by
  rw [Int.mul_neg, ← Int.mul_assoc, ← hp]; omega
 rw [h2, Int.add_mul_ediv_left _ _ (by omega), hp2, Int.mul_assoc]
 omega
theorem long_loop (l0 : List Int) (n : Int) (hn : I64 n) (hl : l0.length + 8 ≤ 140737488355328) (d : Nat) : ∀ (i : Nat) (l : List Int) (H : Heap), i + d = 8 → l.length = l0.length + i →
  loopA W loopW (.ghost (.kill k_varint_Long_0) l_varint_Long_0) [(1, .int .i64 n), (5, bytes l .own), (9, .int .i64 (i : Int))] H = some (.exit 0, [(5, bytes (l ++ bes n i) .own)], H) := by
 induction d with
 | zero =>
  intro i l H hi hl'
  have : i = 8 := by omega
  subst this
  refine loop_step l_varint_Long_0.eq_1 k_varint_Long_0.eq_1 (by kernel_rfl) ?_
  have h1 : ¬ (((8 : Nat) : Int) < 8) := by omega
  simp only [go_sem, trim_same, h1, simprocAttr]
  simp [bes]
 | succ d ih =>
  intro i l H hi hl'
  have h1 : ((i : Int) < 8) := by omega
  have e1 : IntKind.i64.wrap (7 - (i : Int)) = 7 - (i : Int) := wrap_id (by unfold I64; omega)
  have e2 := bits_spec (7 - (i : Int)) H (by unfold I64; omega)
  have e3 : (7 - (i : Int)) * 8 = ((8 * (7 - i) : Nat) : Int) := by omega
  have e4 := (toB8 n hn (8 * (7 - i)) (by omega)).2
  rw [e3] at e2
  have e5 : (0 : Int) ≤ ((8 * (7 - i) : Nat) : Int) := by omega
  have e6 : IntKind.i64.wrap ((i : Int) + 1) = ((i + 1 : Nat) : Int) := by rw [wrap_id (by unfold I64; omega)]; omega
  have e7 : ints .u8 l ++ [.int .u8 (n / 2 ^ (8 * (7 - i)) % 256)] = ints .u8 (l ++ [be n i]) := by simp [be]
  have hb : ((ints .u8 l).length + 1) * 1 ≤ maxBytes := by simp [maxBytes]; omega
  have h2 := ih (i + 1) (l ++ [be n i]) H (by omega) (by simp; omega)
  refine loop_step l_varint_Long_0.eq_1 k_varint_Long_0.eq_1 (by kernel_rfl) ?_
  simp only [go_sem, trim_same, h1, e1, e2, e4, e5, e6, apO, hb, e7, simprocAttr]
  refine h2.trans ?_
  have : bes n i = be n i :: bes n (i + 1) := by
   unfold bes
   rw [List.drop_eq_getElem_cons (by simp; omega)]
   simp
  rw [this]; simp
theorem long_spec (l : List Int) (n : Int) (H : Heap) (hn : I64 n) (hl : l.length + 8 ≤ 140737488355328) : W n_varint_Long [bytes l .ro, .int .i64 n] H = some (bytes (l ++ bes n 0) .full, H) := by
 have h := long_loop l n hn hl 8 0 l H rfl (by simp)
 have hcl : (ints .u8 l).length * 1 ≤ maxBytes := by simp [maxBytes]; omega
 simp only [Int.natCast_zero] at h
 refine W_fn0 rfl rfl ?_
 simp only [go_sem, trim_same, c_varint_Long, W_clone, hcl, h, W_clip, simprocAttr]
theorem put_loop (f : Nat) : ∀ (l : List Int) (u : Int) (H : Heap), 0 ≤ u → u < 128 ^ (f + 1) → l.length + f + 1 ≤ 140737488355328 → ∃ p q, p ++ [q] = Vt.enc f u ∧ 0 ≤ q ∧ q < 128 ∧
  loopA W loopW (.ghost (.kill k_varint_Put_0) l_varint_Put_0) [(5, bytes l .own), (6, .int .u64 u)] H = some (.exit 0, [(5, bytes (l ++ p) .own), (6, .int .u64 q)], H) := by
 induction f with
 | zero =>
  intro l u H h0 h1 hl
  rw [Vt.pow128] at h1
  have : (128 : Int) ^ 0 = 1 := rfl
  refine ⟨[], u, rfl, h0, by omega, loop_step l_varint_Put_0.eq_1 k_varint_Put_0.eq_1 (by kernel_rfl) ?_⟩
  have hu : ¬ (u ≥ 128) := by omega
  simp only [go_sem, trim_same, hu, decide_false, reduceCtorEq, ne_eq, not_false_eq_true, Bool.false_eq_true, ↓reduceIte, Nat.reduceAdd, Nat.reduceEqDiff, Nat.reduceLT, List.append_nil, simprocAttr]
 | succ f ih =>
  intro l u H h0 h1 hl
  rw [Vt.pow128] at h1
  by_cases h : u ≥ 128
  ·obtain ⟨p, q, g1, g2, g3, g4⟩ := ih (l ++ [u % 128 + 128]) (u / 128) H (by omega) (by omega) (by simp; omega)
   refine ⟨(u % 128 + 128) :: p, q, by rw [Vt.enc, if_pos h, ← g1]; rfl, g2, g3, loop_step l_varint_Put_0.eq_1 k_varint_Put_0.eq_1 (by kernel_rfl) ?_⟩
   have e1 : bits .or .u8 (IntKind.u8.wrap u) 128 = u % 128 + 128 := by
    rw [Num.wu8, Num.or128_u8 _ (by omega) (by omega)]; omega
   have e2 : shr .u64 u 7 = u / 128 := rfl
   have e3 : (ints .u8 l).length = l.length := by simp
   have e4 : ints .u8 l ++ [.int .u8 (u % 128 + 128)] = ints .u8 (l ++ [u % 128 + 128]) := by simp
   have hb : ((ints .u8 l).length + 1) * 1 ≤ maxBytes := by simp [maxBytes]; omega
   simp only [go_sem, trim_same, h, decide_true, reduceCtorEq, ne_eq, not_false_eq_true, Bool.false_eq_true, ↓reduceIte, Nat.reduceAdd, Nat.reduceEqDiff, Nat.reduceLT, fs_int, e1, e2, s_shr, Int.reduceLE, apO, hb, e4, simprocAttr]
   exact g4.trans (by simp)
  ·refine ⟨[], u, by rw [Vt.enc, if_neg h]; rfl, h0, by omega, loop_step l_varint_Put_0.eq_1 k_varint_Put_0.eq_1 (by kernel_rfl) ?_⟩
   simp only [go_sem, trim_same, h, decide_false, reduceCtorEq, ne_eq, not_false_eq_true, Bool.false_eq_true, ↓reduceIte, Nat.reduceAdd, Nat.reduceEqDiff, Nat.reduceLT, List.append_nil, simprocAttr]
theorem zig_own' (n : Int) (h : I64 n) : bits .xor .u64 (shl .u64 (IntKind.u64.wrap n) 1) (IntKind.u64.wrap (shr .i64 n 63)) = Num.zig n := Num.zig_own n h
theorem put_spec (l : List Int) (n : Int) (H : Heap) (hn : I64 n) (hl : l.length + 10 ≤ 140737488355328) : W n_varint_Put [bytes l .ro, .int .i64 n] H = some (bytes (l ++ Vt.enc 9 (Num.zig n)) .full, H) := by
 have hz := Num.zig_range n hn
 obtain ⟨p, q, g1, g2, g3, g4⟩ := put_loop 9 l (Num.zig n) H hz.1 (Int.lt_trans hz.2 (by decide)) (by omega)
 have hp : p.length < 10 := by
  have := Vt.enc_len' 9 (Num.zig n); rw [← g1] at this; simp at this; omega
 have hb : ((ints .u8 (l ++ p)).length + 1) * 1 ≤ maxBytes := by simp [maxBytes]; omega
 have e1 : IntKind.u8.wrap q = q := by rw [Num.wu8]; omega
 have hcl : (ints .u8 l).length * 1 ≤ maxBytes := by simp [maxBytes]; omega
 refine W_fn0 rfl rfl ?_
 simp only [go_sem, trim_same, c_varint_Put, W_clone, hcl, W_clip, s_shl, s_shr, zig_own' n hn, g4, e1, fs_int, apO, hb, Int.reduceLE, reduceCtorEq, ne_eq, not_false_eq_true, Bool.false_eq_true, ↓reduceIte, Nat.reduceAdd, Nat.reduceEqDiff, Nat.reduceLT, Bool.not_false, Bool.and_self, simprocAttr]
 rw [← g1]; simp
theorem text_spec (l : List Int) (s : List UInt8) (H : Heap) (hl : l.length + s.length + 10 ≤ 140737488355328) : W n_varint_Text [bytes l .ro, .str s] H = some (bytes (l ++ Vt.enc 9 (Num.zig s.length) ++ s.map fun b => (b.toNat : Int)) .full, H) := by
 have h1 := put_spec l s.length H (by unfold I64; omega) (by omega)
 have h2 := Vt.enc_len' 9 (Num.zig s.length)
 have hb : ((ints .u8 (l ++ Vt.enc 9 (Num.zig s.length))).length + (encBytes s).length) * 1 ≤ maxBytes := by simp [maxBytes, encBytes]; omega
 refine W_fn0 rfl rfl ?_
 simp only [go_sem, trim_same, c_varint_Text, h1, apF, hb, W_clip, simprocAttr]
 simp [encBytes]
def stepN : Nat → Nat → Nat
 | 0, c => c
 | n + 1, c => stepN n (crcStep c)
theorem next_loop (d : Nat) : ∀ (i c : Nat) (H : Heap), i + d = 8 → c < 4294967296 →
  loopA W0 loopW (.ghost (.kill k_crc_Next_0) l_crc_Next_0) [(0, .int .u32 (c : Nat)), (10, .int .i64 (i : Nat))] H = some (.exit 0, [(0, .int .u32 (stepN d c : Nat))], H) := by
 induction d with
 | zero =>
  intro i c H hi hc
  have : i = 8 := by omega
  subst this
  refine loop_step l_crc_Next_0.eq_1 k_crc_Next_0.eq_1 (by kernel_rfl) ?_
  have h1 : ¬ (((8 : Nat) : Int) < 8) := by omega
  simp only [go_sem, h1, simprocAttr]
  rfl
 | succ d ih =>
  intro i c H hi hc
  have h1 : ((i : Int) < 8) := by omega
  have e1 := and32 c hc
  have e2 := shr32 c
  have hle : c &&& 1 ≤ 1 := Nat.and_le_right
  have e3 := mul32 (c &&& 1) hle
  have e4 := xor32 (c >>> 1) (2197175160 * (c &&& 1)) (by rw [Nat.shiftRight_eq_div_pow]; omega) (by omega)
  have e6 : IntKind.i64.wrap ((i : Int) + 1) = ((i + 1 : Nat) : Int) := by rw [wrap_id (by unfold I64; omega)]; omega
  have h2 := ih (i + 1) (crcStep c) H (by omega) (crcStep_lt hc)
  refine loop_step l_crc_Next_0.eq_1 k_crc_Next_0.eq_1 (by kernel_rfl) ?_
  simp only [go_sem, h1, e1, e2, e3, e4, e6, simprocAttr]
  exact h2
theorem next_spec0 (c b : Nat) (H : Heap) (hc : c < 4294967296) (hb : b < 256) : W0 n_crc_Next [.int .u32 (c : Nat), .int .u8 (b : Nat)] H = some (.int .u32 (crcNext c b : Nat), H) := by
 have h := next_loop 8 0 (c ^^^ b) H rfl (xor_lt32 hc (by omega))
 have e1 := wrap32 b (by omega)
 have e2 := xor32 c b hc (by omega)
 simp only [Int.natCast_zero] at h
 refine W0_fn rfl rfl ?_
 simp only [go_sem, trim_same, c_crc_Next, e1, e2, h, simprocAttr]
 rfl
theorem of_loop (l : List Int) (hb : ∀ x ∈ l, 0 ≤ x ∧ x < 256) (hl : l.length ≤ 140737488355328) (H : Heap) (r : List Int) : ∀ (p : List Int) (c : Nat), l = p ++ r → c < 4294967296 →
  loopA W0 loopW (.ghost (.kill k_crc_Of_0) l_crc_Of_0) [(3, .int .u32 (c : Nat)), (6, bytes l .ro), (7, .int .i64 (l.length : Nat)), (8, .int .i64 (p.length : Nat))] H =
   some (.exit 0, [(3, .int .u32 (((toN r).foldl crcNext c : Nat) : Int))], H) := by
 induction r with
 | nil =>
  intro p c hp hc
  have h1 : ¬ ((p.length : Int) < (l.length : Int)) := by rw [hp]; simp
  refine loop_step l_crc_Of_0.eq_1 k_crc_Of_0.eq_1 (by kernel_rfl) ?_
  simp only [go_sem, h1, simprocAttr]
  rfl
 | cons x r ih =>
  intro p c hp hc
  have hx := hb x (by rw [hp]; simp)
  have h1 : ((p.length : Int) < (l.length : Int)) := by rw [hp]; simp; omega
  have hlen : p.length < l.length := by omega
  obtain ⟨n, rfl⟩ : ∃ n : Nat, x = n := ⟨x.toNat, by omega⟩
  have e1 : (ints .u8 l)[p.length]? = some (.int .u8 (n : Int)) := by rw [hp]; simp
  have e6 : IntKind.i64.wrap ((p.length : Int) + 1) = ((p.length + 1 : Nat) : Int) := by rw [wrap_id (by unfold I64; omega)]; omega
  have h2 := ih (p ++ [(n : Int)]) (crcNext c n) (by rw [hp]; simp) (crcNext_lt hc (by omega))
  have e2 := next_spec0 c n H hc (by omega)
  have e0 : (0 : Int) ≤ (p.length : Int) := by omega
  have e7 : ((p.length : Nat) : Int).toNat = p.length := by omega
  simp only [List.length_append, List.length_cons, List.length_nil, Nat.zero_add] at h2
  refine loop_step l_crc_Of_0.eq_1 k_crc_Of_0.eq_1 (by kernel_rfl) ?_
  simp only [go_sem, h1, e0, e7, e1, e2, e6, simprocAttr]
  exact h2
theorem of_spec0 (l : List Int) (H : Heap) (hb : ∀ x ∈ l, 0 ≤ x ∧ x < 256) (hl : l.length ≤ 140737488355328) : W0 n_crc_Of [bytes l .ro] H = some (.int .u32 (crcN (toN l) : Nat), H) := by
 have h := of_loop l hb hl H l [] 4294967295 rfl (by decide)
 have hlt : (toN l).foldl crcNext 4294967295 < 4294967296 := crcFold_lt _ _ (by decide) (fun x hx => by
  obtain ⟨y, hy, rfl⟩ := List.mem_map.1 hx
  have := hb y hy
  omega)
 have e1 : bits .xor .u32 (if IntKind.u32.signed = true then -1 else IntKind.u32.max) (((toN l).foldl crcNext 4294967295 : Nat) : Int) = (crcN (toN l) : Nat) := by
  have := xor32 4294967295 ((toN l).foldl crcNext 4294967295) (by decide) hlt
  rw [Nat.xor_comm] at this
  exact this
 simp only [List.length_nil, Int.natCast_zero, Int.cast_ofNat_Int] at h
 refine W0_fn rfl rfl ?_
 simp only [go_sem, trim_same, c_crc_Of, List.length_map, h, e1, simprocAttr]
theorem crcSem_le {args H r} (h : crcSem args H = some r) : W0 n_crc_Of args H = some r := by
 unfold crcSem at h
 split at h
 ·rename_i xs
  obtain ⟨h1, h2⟩ := ite_some h
  obtain ⟨l, h3, rfl⟩ := Option.map_eq_some_iff.1 h2
  obtain ⟨zs, rfl, h4, rfl⟩ := nats8_inv h3
  exact of_spec0 zs _ h4 (by simpa [maxBytes] using h1)
 ·cases h
theorem of_spec (l : List Int) (H : Heap) (hb : ∀ x ∈ l, 0 ≤ x ∧ x < 256) (hl : l.length ≤ 140737488355328) : W n_crc_Of [bytes l .ro] H = some (.int .u32 (crcN (toN l) : Nat), H) := by
 refine W_crc_Of ?_
 show (if (ints .u8 l).length ≤ maxBytes then _ else none) = _
 rw [if_pos (by simpa [maxBytes] using hl), nats8_ints l hb]; rfl
theorem fz_full (H : Heap) : agh (.freeze 0) [(0, .list 1 [] .full)] H = some ([(0, .list 1 [] .full)], H) := rfl
theorem fz_uniq (H : Heap) : agh (.freeze 0) [(0, .list 1 [] .uniq)] H = some ([(0, .list 1 [] .own)], H) := rfl
theorem grow_spec (n : Int) (H : Heap) (h0 : 0 ≤ n) (h1 : n ≤ 140737488355328) : W n_slices_Grow_byte_byte_ [.list 1 [] .full, .int .i64 n] H = some (.list 1 [] (if n = 0 then .full else .own), H) := by
 have e1 : IntKind.i64.wrap n = n := wrap_id (by unfold I64; omega)
 have e2 : ¬ n < 0 := by omega
 have e0 : IntKind.i64.wrap 0 = 0 := rfl
 by_cases h : n = 0
 ·subst h
  refine W_fn0 rfl rfl ?_
  simp only [go_sem, trim_same, c_slices_Grow_byte_byte_, List.length_nil, Int.natCast_zero, e0, Int.sub_zero, gt_iff_lt, Int.lt_irrefl, fz_full, fz_uniq, simprocAttr]
 ·have e3 : n > 0 := by omega
  have e4 : 0 < n ∧ n * 1 ≤ maxBytes := ⟨e3, by show n * 1 ≤ 140737488355328; omega⟩
  have e5 : (0 : Int) ≤ 0 ∧ (0 : Int) ≤ ((List.replicate n.toNat (AVal.int .u8 0)).length : Int) := ⟨by omega, by omega⟩
  refine W_fn0 rfl rfl ?_
  simp only [go_sem, trim_same, c_slices_Grow_byte_byte_, List.length_nil, Int.natCast_zero, e0, e1, e2, Int.sub_zero, e3, e4, e5, h, fz_uniq, gt_iff_lt, List.take_zero, Int.toNat_zero, simprocAttr]
def rowsOf (ls : List (List Int)) : List AVal := ls.map fun l => bytes l .ro
def total (ls : List (List Int)) : Nat := ls.flatten.length
theorem total_cons (l ls) : total (l :: ls) = l.length + total ls := by simp [total]
theorem total_app (p r) : total (p ++ r) = total p + total r := by simp [total]
theorem concat_loop0 (ls : List (List Int)) (ht : total ls ≤ 140737488355328) (hn : ls.length ≤ 140737488355328) (X : AVal) (H : Heap) (r : List (List Int)) : ∀ (p : List (List Int)), ls = p ++ r →
  loopA W loopW (.ghost (.kill k_slices_Concat_byte_byte__0) l_slices_Concat_byte_byte__0) [(0, .list 1 (rowsOf ls) .ro), (3, .int .i64 (total p : Nat)), (9, .list 1 (rowsOf ls) .ro), (10, .int .i64 (ls.length : Nat)), (11, .int .i64 (p.length : Nat))] H =
   some (.exit 0, [(0, .list 1 (rowsOf ls) .ro), (3, .int .i64 (total ls : Nat))], H) := by
 induction r with
 | nil =>
  intro p hp
  rw [List.append_nil] at hp
  subst hp
  have h1 : ¬ ((ls.length : Int) < (ls.length : Int)) := by omega
  refine loop_step l_slices_Concat_byte_byte__0.eq_1 k_slices_Concat_byte_byte__0.eq_1 (by kernel_rfl) ?_
  simp only [go_sem, h1, simprocAttr]
 | cons x r ih =>
  intro p hp
  have hlen : p.length < ls.length := by rw [hp]; simp
  have h1 : ((p.length : Int) < (ls.length : Int)) := by omega
  have e0 : (0 : Int) ≤ (p.length : Int) := by omega
  have e7 : ((p.length : Nat) : Int).toNat = p.length := by omega
  have e1 : (rowsOf ls)[p.length]? = some (bytes x .ro) := by rw [hp]; simp [rowsOf]
  have e6 : IntKind.i64.wrap ((p.length : Int) + 1) = ((p.length + 1 : Nat) : Int) := by rw [wrap_id (by unfold I64; omega)]; omega
  have ht' : total p + (x.length + total r) ≤ 140737488355328 := by rw [hp, total_app, total_cons] at ht; exact ht
  have e8 : IntKind.i64.wrap ((total p : Int) + (x.length : Int)) = ((total p + x.length : Nat) : Int) := by rw [wrap_id (by unfold I64; omega)]; omega
  have e9 : ¬ (((total p + x.length : Nat) : Int) < 0) := by omega
  have h2 := ih (p ++ [x]) (by rw [hp]; simp)
  have e10 : total (p ++ [x]) = total p + x.length := by simp [total]
  rw [e10] at h2
  simp only [List.length_append, List.length_cons, List.length_nil, Nat.zero_add] at h2
  refine loop_step l_slices_Concat_byte_byte__0.eq_1 k_slices_Concat_byte_byte__0.eq_1 (by kernel_rfl) ?_
  simp only [go_sem, h1, e0, e7, e1, e8, e9, e6, List.length_map, simprocAttr]
  exact h2
theorem concat_loop1 (ls : List (List Int)) (ht : total ls ≤ 140737488355328) (hn : ls.length ≤ 140737488355328) (H : Heap) (r : List (List Int)) : ∀ (p : List (List Int)), ls = p ++ r →
  loopA W loopW (.ghost (.kill k_slices_Concat_byte_byte__1) l_slices_Concat_byte_byte__1) [(6, bytes p.flatten .own), (25, .list 1 (rowsOf ls) .ro), (26, .int .i64 (ls.length : Nat)), (27, .int .i64 (p.length : Nat))] H =
   some (.exit 2, [(6, bytes ls.flatten .own)], H) := by
 induction r with
 | nil =>
  intro p hp
  rw [List.append_nil] at hp
  subst hp
  have h1 : ¬ ((ls.length : Int) < (ls.length : Int)) := by omega
  refine loop_step l_slices_Concat_byte_byte__1.eq_1 k_slices_Concat_byte_byte__1.eq_1 (by kernel_rfl) ?_
  simp only [go_sem, h1, simprocAttr]
 | cons x r ih =>
  intro p hp
  have hlen : p.length < ls.length := by rw [hp]; simp
  have h1 : ((p.length : Int) < (ls.length : Int)) := by omega
  have e0 : (0 : Int) ≤ (p.length : Int) := by omega
  have e7 : ((p.length : Nat) : Int).toNat = p.length := by omega
  have e1 : (rowsOf ls)[p.length]? = some (bytes x .ro) := by rw [hp]; simp [rowsOf]
  have e6 : IntKind.i64.wrap ((p.length : Int) + 1) = ((p.length + 1 : Nat) : Int) := by rw [wrap_id (by unfold I64; omega)]; omega
  have ht' : p.flatten.length + (x.length + total r) ≤ 140737488355328 := by rw [hp, total_app, total_cons] at ht; exact ht
  have hb : ((ints .u8 p.flatten).length + (ints .u8 x).length) * 1 ≤ maxBytes := by simp only [List.length_map, maxBytes]; omega
  have e8 : ints .u8 p.flatten ++ ints .u8 x = ints .u8 (p ++ [x]).flatten := by simp
  have h2 := ih (p ++ [x]) (by rw [hp]; simp)
  simp only [List.length_append, List.length_cons, List.length_nil, Nat.zero_add] at h2
  refine loop_step l_slices_Concat_byte_byte__1.eq_1 k_slices_Concat_byte_byte__1.eq_1 (by kernel_rfl) ?_
  simp only [go_sem, h1, e0, e7, e1, e6, apO, hb, e8, simprocAttr]
  exact h2
theorem rows_len (ls) : (rowsOf ls).length = ls.length := by simp [rowsOf]
theorem concat_spec (ls : List (List Int)) (h0 : 0 < total ls) (ht : total ls ≤ 140737488355328) (hn : ls.length ≤ 140737488355328) (H : Heap) :
  W n_slices_Concat_byte_byte_ [.list 1 (rowsOf ls) .ro] H = some (bytes ls.flatten .own, H) := by
 have h1 := concat_loop0 ls ht hn .any H ls [] rfl
 have h2 : loopA W loopW (.ghost (.kill k_slices_Concat_byte_byte__1) l_slices_Concat_byte_byte__1) [(6, .list 1 [] .own), (25, .list 1 (rowsOf ls) .ro), (26, .int .i64 (ls.length : Nat)), (27, .int .i64 0)] H = some (.exit 2, [(6, bytes ls.flatten .own)], H) := concat_loop1 ls ht hn H ls [] rfl
 have h3 := grow_spec (total ls : Nat) H (by omega) (by omega)
 rw [if_neg (by omega)] at h3
 have e0 : total [] = 0 := rfl
 simp only [e0, List.length_nil, Int.natCast_zero, List.flatten_nil, List.map_nil] at h1
 refine W_fn0 rfl rfl ?_
 simp only [go_sem, trim_same, c_slices_Concat_byte_byte_, rows_len, h1, h2, h3, simprocAttr]
def le4 (c : Int) : List Int := [c % 256, c / 256 % 256, c / 65536 % 256, c / 16777216 % 256]
theorem crc_put_spec (l : List Int) (H : Heap) (hb : ∀ x ∈ l, 0 ≤ x ∧ x < 256) (hl : l.length + 4 ≤ 140737488355328) :
  W n_crc_Put [bytes l .ro] H = some (bytes (le4 (crcN (toN l) : Nat) ++ l) .own, H) := by
 have h1 := of_spec l H hb (by omega)
 have h2 : W n_slices_Concat_byte_byte_ [.list 1 [.list 1 [.int .u8 ((crcN (toN l) : Int) % 256), .int .u8 ((crcN (toN l) : Int) / 256 % 256), .int .u8 ((crcN (toN l) : Int) / 65536 % 256), .int .u8 ((crcN (toN l) : Int) / 16777216 % 256)] .ro, .list 1 (ints .u8 l) .ro] .ro] H =
   some (bytes (le4 (crcN (toN l) : Nat) ++ l) .own, H) := by
  have := concat_spec [le4 (crcN (toN l) : Nat), l] (by simp [total, le4]) (by simp [total, le4]; omega) (by simp) H
  rw [show [le4 (crcN (toN l) : Nat), l].flatten = le4 (crcN (toN l) : Nat) ++ l by simp] at this
  exact this
 have e1 : IntKind.u8.wrap (crcN (toN l) : Nat) = (crcN (toN l) : Int) % 256 := Num.wu8 _
 have e2 : IntKind.u8.wrap (shr .u32 (crcN (toN l) : Nat) 8) = (crcN (toN l) : Int) / 256 % 256 := Num.wu8 _
 have e3 : IntKind.u8.wrap (shr .u32 (crcN (toN l) : Nat) 16) = (crcN (toN l) : Int) / 65536 % 256 := Num.wu8 _
 have e4 : IntKind.u8.wrap (shr .u32 (crcN (toN l) : Nat) 24) = (crcN (toN l) : Int) / 16777216 % 256 := Num.wu8 _
 refine W_fn0 rfl rfl ?_
 simp only [go_sem, trim_same, c_crc_Put, h1, e1, e2, e3, e4, fs_int, h2, simprocAttr]
def tapeB (l : List Int) (a : Nat) : Box := .cells [.list 1 (ints .i64 l) .ro, .int .i64 (a : Nat)]
def nextV (l : List Int) (a : Nat) (n : Int) : Int := if l.length ≤ a ∨ n < 1 then 0 else (withinQ (l.getD a 0) 0 1073741824).tmod n
def nextA (l : List Int) (a : Nat) (n : Int) : Nat := if l.length ≤ a ∨ n < 1 then a else a + 1
theorem nextA_le {l a n} (h : a ≤ l.length) : nextA l a n ≤ l.length := by unfold nextA; split <;> omega
theorem Old.same {H i B} (h : Old H i B) : H.set i B = H := by
 have h1 := h.g
 obtain ⟨h2, h3⟩ := List.getElem?_eq_some_iff.1 h1
 rw [← h3, List.set_getElem_self]
theorem Old.step {H i B} (h : Old H i B) (B') : Old (H.set i B') i B' := ⟨hx_oldt h.g B'⟩
theorem nextV_range {l a n} (h : 1 ≤ n) (hn : n ≤ 1073741824) : 0 ≤ nextV l a n ∧ nextV l a n < n := by
 unfold nextV
 split
 ·omega
 ·have h1 := withinQ_range (l.getD a 0) 0 1073741824 (by omega)
  exact ⟨Int.tmod_nonneg _ h1.1, Int.tmod_lt_of_pos _ (by omega)⟩
theorem within_spec (n lo hi : Int) (H : Heap) (h : lo ≤ hi) (h1 : -1000000000 ≤ lo) (h2 : hi ≤ 2000000000) : W n_book_Within [.int .i64 n, .int .i64 lo, .int .i64 hi] H = some (.int .i64 (withinQ n lo hi), H) := by
 refine W_fn rfl rfl ?_
 have q1 : n.tmod (hi - lo + 1) < hi - lo + 1 := Int.tmod_lt_of_pos n (by omega)
 have q2 : -(hi - lo + 1) < n.tmod (hi - lo + 1) := by
  have := Int.tmod_lt_of_pos (-n) (show 0 < hi - lo + 1 by omega)
  rw [Int.neg_tmod] at this; omega
 have w1 : IntKind.i64.wrap (hi - lo) = hi - lo := wrap_id (by unfold I64; omega)
 have w2 : IntKind.i64.wrap (hi - lo + 1) = hi - lo + 1 := wrap_id (by unfold I64; omega)
 have w0 : ¬ (hi - lo + 1 = 0) := by omega
 have w3 : IntKind.i64.wrap (lo + n.tmod (hi - lo + 1)) = lo + n.tmod (hi - lo + 1) := wrap_id (by unfold I64; omega)
 have w4 : IntKind.i64.wrap (n.tmod (hi - lo + 1) + hi) = n.tmod (hi - lo + 1) + hi := wrap_id (by unfold I64; omega)
 have w5 : IntKind.i64.wrap (n.tmod (hi - lo + 1) + hi - lo) = n.tmod (hi - lo + 1) + hi - lo := wrap_id (by unfold I64; omega)
 have w6 : IntKind.i64.wrap (n.tmod (hi - lo + 1) + hi - lo + 1) = n.tmod (hi - lo + 1) + hi - lo + 1 := wrap_id (by unfold I64; omega)
 have w7 : n.tmod (hi - lo + 1) < 0 → IntKind.i64.wrap (lo + (n.tmod (hi - lo + 1) + hi - lo + 1)) = lo + (n.tmod (hi - lo + 1) + hi - lo + 1) := fun _ => wrap_id (by unfold I64; omega)
 unfold withinQ
 by_cases c1 : n ≥ lo
 ·by_cases c2 : n ≤ hi
  ·simp only [go_sem, c_book_Within, c1, c2, simprocAttr]
  ·by_cases c3 : n.tmod (hi - lo + 1) < 0
   ·simp only [go_sem, c_book_Within, c1, c2, c3, w0, w1, w2, w3, w4, w5, w6, w7, simprocAttr]
   ·simp only [go_sem, c_book_Within, c1, c2, c3, w0, w1, w2, w3, w4, w5, w6, simprocAttr]
 ·by_cases c3 : n.tmod (hi - lo + 1) < 0
  ·simp only [go_sem, c_book_Within, c1, c3, w0, w1, w2, w3, w4, w5, w6, w7, simprocAttr]
  ·simp only [go_sem, c_book_Within, c1, c3, w0, w1, w2, w3, w4, w5, w6, simprocAttr]
theorem next_spec (l : List Int) (hl : l.length ≤ 140737488355328) (a : Nat) (ha : a ≤ l.length) (n : Int) (i : Nat) (H : Heap) (hi : Old H i (tapeB l a)) :
  W n_keep_Tape_Next [.ptr i 0, .int .i64 n] H = some (.int .i64 (nextV l a n), H.set i (tapeB l (nextA l a n))) := by
 have hs := hi.same
 have gj := hi.get
 have gs := hi.set
 have gj' := hi.get'
 have gs' := hi.set'
 unfold tapeB at gj gs gj' gs' hs
 by_cases c1 : l.length ≤ a
 ·have c1' : (a : Int) ≥ (l.length : Int) := by omega
  have e1 : nextA l a n = a := by unfold nextA; rw [if_pos (.inl c1)]
  have e2 : nextV l a n = 0 := by unfold nextV; rw [if_pos (.inl c1)]
  rw [e1, e2]
  unfold tapeB
  rw [hs]
  refine W_fnS rfl rfl ?_
  simp only [go_sem, c_keep_Tape_Next, gj, List.length_map, c1', simprocAttr]
  rw [hx_nil]
 ·have c1' : ¬ (a : Int) ≥ (l.length : Int) := by omega
  by_cases c2 : n < 1
  ·have e1 : nextA l a n = a := by unfold nextA; rw [if_pos (.inr c2)]
   have e2 : nextV l a n = 0 := by unfold nextV; rw [if_pos (.inr c2)]
   rw [e1, e2]
   unfold tapeB
   rw [hs]
   refine W_fnS rfl rfl ?_
   simp only [go_sem, c_keep_Tape_Next, gj, List.length_map, c1', c2, simprocAttr]
   rw [hx_nil]
  ·have e1 : nextA l a n = a + 1 := by unfold nextA; rw [if_neg (by omega)]
   have e2 : nextV l a n = (withinQ (l.getD a 0) 0 1073741824).tmod n := by unfold nextV; rw [if_neg (by omega)]
   rw [e1, e2]
   have w1 : IntKind.i64.wrap ((a : Int) + 1) = ((a + 1 : Nat) : Int) := by rw [wrap_id (by unfold I64; omega)]; omega
   have w2 : IntKind.i64.wrap (((a + 1 : Nat) : Int) - 1) = (a : Int) := by rw [wrap_id (by unfold I64; omega)]; omega
   have g1 : (ints .i64 l)[a]? = some (.int .i64 (l.getD a 0)) := by
    have : a < l.length := by omega
    simp [this]
   have e0 : (0 : Int) ≤ (a : Int) := by omega
   have e7 : ((a : Nat) : Int).toNat = a := by omega
   have hw := fun H => within_spec (l.getD a 0) 0 1073741824 H (by omega) (by omega) (by omega)
   have n0 : ¬ n = 0 := by omega
   refine W_fnS rfl rfl ?_
   simp only [go_sem, c_keep_Tape_Next, gj, gs, gj', gs', List.length_map, c1', c2, w1, w2, g1, e0, e7, hw, n0, simprocAttr]
   rfl
def texts9 : List (List UInt8) := [[], [97], [107, 101, 121], [228, 184, 150], [116, 119, 111, 32, 119, 111, 114, 100, 115], [98, 255], [107, 50], [61], [97, 10, 98]]
def textAt (v : Int) : List UInt8 := texts9.getD v.toNat []
theorem textAt_le (v : Int) : (textAt v).length ≤ 9 := by
 unfold textAt
 rw [List.getD_eq_getElem?_getD]
 cases h : texts9[v.toNat]? with
 | none => simp
 | some t =>
  have := List.mem_of_getElem? h
  simp only [texts9, List.mem_cons, List.not_mem_nil, or_false] at this
  rcases this with rfl | rfl | rfl | rfl | rfl | rfl | rfl | rfl | rfl <;> decide
theorem text_at (v : Int) (h0 : 0 ≤ v) (h1 : v < 9) : (texts9.map AVal.str)[v.toNat]? = some (.str (textAt v)) := by
 have : v.toNat < texts9.length := by show v.toNat < 9; omega
 simp [textAt, this]
theorem tape_text_spec (l : List Int) (hl : l.length ≤ 140737488355328) (a : Nat) (ha : a ≤ l.length) (i : Nat) (H : Heap) (hi : Old H i (tapeB l a)) :
  W n_keep_Tape_Text [.ptr i 0] H = some (.str (textAt (nextV l a 9)), H.set i (tapeB l (nextA l a 9))) := by
 have h := next_spec l hl a ha 9 i H hi
 have hr := nextV_range (l := l) (a := a) (n := 9) (by omega) (by omega)
 have h1 := text_at (nextV l a 9) hr.1 hr.2
 simp only [texts9, List.map_cons, List.map_nil] at h1
 have e0 := hr.1
 refine W_fn0 rfl rfl ?_
 simp only [go_sem, trim_same, c_keep_Tape_Text, h, h1, e0, simprocAttr]
 simp [trim]
abbrev Rc := List UInt8 × List UInt8
def rcV (r : Rc) : AVal := .agg [.str r.1, .str r.2]
def recsT (l : List Int) : Nat → Nat → List Rc × Nat
 | 0, a => ([], a)
 | k + 1, a => ((textAt (nextV l a 9), textAt (nextV l (nextA l a 9) 9)) :: (recsT l k (nextA l (nextA l a 9) 9)).1, (recsT l k (nextA l (nextA l a 9) 9)).2)
theorem recsT_len (l) : ∀ k a, (recsT l k a).1.length = k
 | 0, _ => rfl
 | k + 1, a => by simp [recsT, recsT_len l k]
theorem recsT_le (l) : ∀ k a, a ≤ l.length → (recsT l k a).2 ≤ l.length
 | 0, _, h => h
 | k + 1, a, h => recsT_le l k _ (nextA_le (nextA_le h))
theorem recsT_small (l) : ∀ k a, ∀ r ∈ (recsT l k a).1, r.1.length ≤ 9 ∧ r.2.length ≤ 9
 | 0, _, r, h => by cases h
 | k + 1, a, r, h => by
  rcases List.mem_cons.1 h with rfl | h
  ·exact ⟨textAt_le _, textAt_le _⟩
  ·exact recsT_small l k _ r h
theorem recs_loop (l : List Int) (hl : l.length ≤ 140737488355328) (i : Nat) (k : Nat) : ∀ (a : Nat) (acc : List Rc) (H : Heap), a ≤ l.length → Old H i (tapeB l a) → acc.length + k ≤ 1000 →
  loopA W loopW (.ghost (.kill k_keep_Tape_Recs_0) l_keep_Tape_Recs_0) [(0, .ptr i 0), (5, .list 2 (acc.map rcV) .own), (6, .int .i64 (k : Nat))] H =
   some (.exit 0, [(5, .list 2 ((acc ++ (recsT l k a).1).map rcV) .own)], H.set i (tapeB l (recsT l k a).2)) := by
 induction k with
 | zero =>
  intro a acc H ha hi hk
  have h1 : ¬ (((0 : Nat) : Int) > 0) := by omega
  rw [show (recsT l 0 a).2 = a from rfl, hi.same, show (recsT l 0 a).1 = [] from rfl, List.append_nil]
  refine loop_step l_keep_Tape_Recs_0.eq_1 k_keep_Tape_Recs_0.eq_1 (by kernel_rfl) ?_
  simp only [go_sem, Int.natCast_zero, gt_iff_lt, Int.lt_irrefl, simprocAttr]
 | succ k ih =>
  intro a acc H ha hi hk
  have h1 : (((k + 1 : Nat) : Int) > 0) := by omega
  have t1 := tape_text_spec l hl a ha i H hi
  have t2 := tape_text_spec l hl (nextA l a 9) (nextA_le ha) i _ (hi.step (tapeB l (nextA l a 9)))
  have w1 : IntKind.i64.wrap (((k + 1 : Nat) : Int) - 1) = (k : Int) := by rw [wrap_id (by unfold I64; omega)]; omega
  have hb : ((acc.map rcV).length + 1) * 32 ≤ maxBytes := by simp only [List.length_map, maxBytes]; omega
  have h2 := ih (nextA l (nextA l a 9) 9) (acc ++ [(textAt (nextV l a 9), textAt (nextV l (nextA l a 9) 9))]) _ (nextA_le (nextA_le ha)) ((hi.step (tapeB l (nextA l a 9))).step (tapeB l (nextA l (nextA l a 9) 9))) (by simp; omega)
  have e8 : acc.map rcV ++ [.agg [.str (textAt (nextV l a 9)), .str (textAt (nextV l (nextA l a 9) 9))]] = (acc ++ [(textAt (nextV l a 9), textAt (nextV l (nextA l a 9) 9))]).map rcV := by simp [rcV]
  rw [List.append_assoc] at h2
  simp only [List.set_set] at h2 t2
  refine loop_step l_keep_Tape_Recs_0.eq_1 k_keep_Tape_Recs_0.eq_1 (by kernel_rfl) ?_
  simp only [go_sem, h1, t1, t2, w1, apO, hb, e8, simprocAttr]
  exact h2
theorem tape_recs_spec (l : List Int) (hl : l.length ≤ 140737488355328) (a : Nat) (ha : a ≤ l.length) (i : Nat) (H : Heap) (hi : Old H i (tapeB l a)) :
  W n_keep_Tape_Recs [.ptr i 0, .int .i64 4] H =
   some (.list 2 ((recsT l (1 + nextV l a 4).toNat (nextA l a 4)).1.map rcV) .own, H.set i (tapeB l (recsT l (1 + nextV l a 4).toNat (nextA l a 4)).2)) := by
 have h0 := next_spec l hl a ha 4 i H hi
 have hr := nextV_range (l := l) (a := a) (n := 4) (by omega) (by omega)
 obtain ⟨k, hk⟩ : ∃ k : Nat, 1 + nextV l a 4 = ((k + 1 : Nat) : Int) := ⟨(nextV l a 4).toNat, by omega⟩
 have w0 : IntKind.i64.wrap (1 + nextV l a 4) = ((k + 1 : Nat) : Int) := by rw [wrap_id (by unfold I64; omega)]; exact hk
 rw [hk, Int.toNat_natCast]
 have ha1 := nextA_le (n := 4) ha
 generalize nextA l a 4 = a1 at h0 ha1 ⊢
 have hi1 := hi.step (tapeB l a1)
 have h1 : (((k + 1 : Nat) : Int) > 0) := by omega
 have t1 := tape_text_spec l hl a1 ha1 i _ hi1
 have t2 := tape_text_spec l hl (nextA l a1 9) (nextA_le ha1) i _ (hi1.step (tapeB l (nextA l a1 9)))
 have w1 : IntKind.i64.wrap (((k + 1 : Nat) : Int) - 1) = (k : Int) := by rw [wrap_id (by unfold I64; omega)]; omega
 have hb : (0 + 1) * 32 ≤ maxBytes := by simp [maxBytes]
 have h2 := recs_loop l hl i k (nextA l (nextA l a1 9) 9) [(textAt (nextV l a1 9), textAt (nextV l (nextA l a1 9) 9))] _ (nextA_le (nextA_le ha1)) ((hi1.step (tapeB l (nextA l a1 9))).step (tapeB l (nextA l (nextA l a1 9) 9))) (by simp; omega)
 simp only [List.set_set] at h2 t2 t1
 have h3 : loopA W loopW (.ghost (.kill k_keep_Tape_Recs_0) l_keep_Tape_Recs_0) [(0, .ptr i 0), (5, .list 2 [] .full), (6, .int .i64 ((k + 1 : Nat) : Int))] (H.set i (tapeB l a1)) =
   some (.exit 0, [(5, .list 2 ((recsT l (k + 1) a1).1.map rcV) .own)], H.set i (tapeB l (recsT l (k + 1) a1).2)) := by
  refine loop_step l_keep_Tape_Recs_0.eq_1 k_keep_Tape_Recs_0.eq_1 (by kernel_rfl) ?_
  simp only [go_sem, h1, t1, t2, w1, apF, List.length_nil, hb, List.nil_append, List.set_set, simprocAttr]
  exact h2
 refine W_fn0 rfl rfl ?_
 simp only [go_sem, trim_same, c_keep_Tape_Recs, h0, w0, h3, simprocAttr]
 simp [trim]
structure Ba where
 base : Int
 prod : Int
 epoch : Int
 seq : Int
 txn : Bool
 mark : Int
 recs : List Rc
def Ba.cs (b : Ba) : List AVal := [.int .i64 b.base, .int .i64 b.prod, .int .i64 b.epoch, .int .i64 b.seq, .bool b.txn, .int .i64 b.mark, .list 2 (b.recs.map rcV) .ro]
def Ba.V (b : Ba) : AVal := .agg b.cs
theorem Old.lift {H i B} (h : Old H i B) (L : Heap) : Old (hx H L) i B := ⟨h.get L⟩
theorem next_hx (l : List Int) (hl : l.length ≤ 140737488355328) (a : Nat) (ha : a ≤ l.length) (n : Int) (i : Nat) (H : Heap) (hi : Old H i (tapeB l a)) (L : Heap) :
  W n_keep_Tape_Next [.ptr i 0, .int .i64 n] (hx H L) = some (.int .i64 (nextV l a n), hx (H.set i (tapeB l (nextA l a n))) L) := by
 rw [next_spec l hl a ha n i _ (hi.lift L), hi.set]
theorem recs_hx (l : List Int) (hl : l.length ≤ 140737488355328) (a : Nat) (ha : a ≤ l.length) (i : Nat) (H : Heap) (hi : Old H i (tapeB l a)) (L : Heap) :
  W n_keep_Tape_Recs [.ptr i 0, .int .i64 4] (hx H L) =
   some (.list 2 ((recsT l (1 + nextV l a 4).toNat (nextA l a 4)).1.map rcV) .own, hx (H.set i (tapeB l (recsT l (1 + nextV l a 4).toNat (nextA l a 4)).2)) L) := by
 rw [tape_recs_spec l hl a ha i _ (hi.lift L), hi.set]
def recs4 (l : List Int) (a : Nat) : List Rc × Nat := recsT l (1 + nextV l a 4).toNat (nextA l a 4)
def tapeBatch (l : List Int) (base : Int) (a : Nat) : Ba × Nat :=
 let a1 := nextA l a 4
 if nextV l a 4 - 1 < 0 then (⟨base, nextV l a 4 - 1, -1, -1, false, 0, (recs4 l a1).1⟩, (recs4 l a1).2)
 else
  let a2 := nextA l a1 3
  let a3 := nextA l a2 4
  if nextV l a2 4 = 0 then (⟨base, nextV l a 4 - 1, nextV l a1 3, -1, true, 1 + nextV l a3 2, []⟩, nextA l a3 2)
  else
   let a4 := nextA l a3 6
   let a5 := nextA l a4 2
   let a6 := (recs4 l a5).2
   let a7 := nextA l a6 9
   if nextV l a6 9 = 0 then (⟨base, nextV l a 4 - 1, nextV l a1 3, 2147483647 - nextV l a7 3, decide (nextV l a4 2 = 0), 0, (recs4 l a5).1⟩, nextA l a7 3)
   else (⟨base, nextV l a 4 - 1, nextV l a1 3, nextV l a3 6, decide (nextV l a4 2 = 0), 0, (recs4 l a5).1⟩, a7)
theorem recs4_le {l a} (h : a ≤ l.length) : (recs4 l a).2 ≤ l.length := recsT_le l _ _ (nextA_le h)
theorem under_rc (n : Nat) : ∀ (r : List Rc), AVal.underL n (r.map rcV) = true
 | [] => rfl
 | x :: r => by simp [rcV, AVal.underL, AVal.under, under_rc n r]
theorem under_i64 (n : Nat) : ∀ (r : List Int), AVal.underL n (ints .i64 r) = true
 | [] => rfl
 | x :: r => by simp only [List.map_cons, AVal.underL, AVal.under, under_i64 n r, Bool.and_self]
theorem tapeB_flat (l a) : (tapeB l a).flatB = true := by
 simp only [tapeB, Box.flatB, AVal.underL, AVal.under, under_i64, Bool.and_self]
theorem tape_batch_spec (l : List Int) (hl : l.length ≤ 140737488355328) (a : Nat) (ha : a ≤ l.length) (base : Int) (i : Nat) (H : Heap) (hi : Old H i (tapeB l a)) :
  W n_keep_Tape_Batch [.ptr i 0, .int .i64 base] H = some ((tapeBatch l base a).1.V, H.set i (tapeB l (tapeBatch l base a).2)) := by
 have r1 := nextV_range (l := l) (a := a) (n := 4) (by omega) (by omega)
 have t1 := next_hx l hl a ha 4 i H hi
 obtain ⟨p, hp⟩ : ∃ p, nextV l a 4 - 1 = p := ⟨_, rfl⟩
 have w1 : IntKind.i64.wrap (nextV l a 4 - 1) = p := by rw [wrap_id (by unfold I64; omega)]; exact hp
 unfold tapeBatch
 have ha1 := nextA_le (n := 4) ha
 have hi1 := hi.step (tapeB l (nextA l a 4))
 simp only [hp]
 generalize nextA l a 4 = a1 at *
 by_cases c1 : p < 0
 ·have t2 := recs_hx l hl a1 ha1 i _ hi1
  simp only [List.set_set] at t2
  simp only [c1, if_true]
  refine W_fnS rfl rfl ?_
  simp only [go_sem, c_keep_Tape_Batch, under_rc, tapeB_flat, t1, w1, c1, t2, simprocAttr]
  rfl
 ·have t2 := next_hx l hl a1 ha1 3 i _ hi1
  have ha2 := nextA_le (n := 3) ha1
  have hi2 := hi1.step (tapeB l (nextA l a1 3))
  simp only [c1, if_false]
  simp only [List.set_set] at t2 hi2
  generalize nextA l a1 3 = a2 at *
  have t3 := next_hx l hl a2 ha2 4 i _ hi2
  have ha3 := nextA_le (n := 4) ha2
  have hi3 := hi2.step (tapeB l (nextA l a2 4))
  simp only [List.set_set] at t3 hi3
  generalize nextA l a2 4 = a3 at *
  by_cases c2 : nextV l a2 4 = 0
  ·have t4 := next_hx l hl a3 ha3 2 i _ hi3
   simp only [List.set_set] at t4
   simp only [c2, if_true]
   have r4 := nextV_range (l := l) (a := a3) (n := 2) (by omega) (by omega)
   have w4 : IntKind.i64.wrap (1 + nextV l a3 2) = 1 + nextV l a3 2 := wrap_id (by unfold I64; omega)
   refine W_fnS rfl rfl ?_
   simp only [go_sem, c_keep_Tape_Batch, under_rc, tapeB_flat, t1, w1, c1, t2, t3, c2, t4, w4, simprocAttr]
   rfl
  ·simp only [c2, if_false]
   have t4 := next_hx l hl a3 ha3 6 i _ hi3
   have ha4 := nextA_le (n := 6) ha3
   have hi4 := hi3.step (tapeB l (nextA l a3 6))
   simp only [List.set_set] at t4 hi4
   generalize nextA l a3 6 = a4 at *
   have t5 := next_hx l hl a4 ha4 2 i _ hi4
   have ha5 := nextA_le (n := 2) ha4
   have hi5 := hi4.step (tapeB l (nextA l a4 2))
   simp only [List.set_set] at t5 hi5
   generalize nextA l a4 2 = a5 at *
   have t6 := recs_hx l hl a5 ha5 i _ hi5
   have ha6 : (recs4 l a5).2 ≤ l.length := recs4_le ha5
   have hi6 := hi5.step (tapeB l (recs4 l a5).2)
   rw [show recsT l (1 + nextV l a5 4).toNat (nextA l a5 4) = recs4 l a5 from rfl] at t6
   simp only [List.set_set] at t6 hi6
   generalize recs4 l a5 = R at *
   obtain ⟨R1, a6⟩ := R
   simp only at ha6 hi6 t6 ⊢
   have t7 := next_hx l hl a6 ha6 9 i _ hi6
   have ha7 := nextA_le (n := 9) ha6
   have hi7 := hi6.step (tapeB l (nextA l a6 9))
   simp only [List.set_set] at t7 hi7
   generalize nextA l a6 9 = a7 at *
   by_cases c3 : nextV l a6 9 = 0
   ·have t8 := next_hx l hl a7 ha7 3 i _ hi7
    simp only [List.set_set] at t8
    have r8 := nextV_range (l := l) (a := a7) (n := 3) (by omega) (by omega)
    have w8 : IntKind.i64.wrap (2147483647 - nextV l a7 3) = 2147483647 - nextV l a7 3 := wrap_id (by unfold I64; omega)
    simp only [c3, if_true]
    refine W_fnS rfl rfl ?_
    simp only [go_sem, c_keep_Tape_Batch, under_rc, tapeB_flat, t1, w1, c1, t2, t3, c2, t4, t5, t6, t7, c3, t8, w8, simprocAttr]
    rfl
   ·simp only [c3, if_false]
    refine W_fnS rfl rfl ?_
    simp only [go_sem, c_keep_Tape_Batch, under_rc, tapeB_flat, t1, w1, c1, t2, t3, c2, t4, t5, t6, t7, c3, simprocAttr]
    rfl
def txt (s : List UInt8) : List Int := Vt.enc 9 (Num.zig s.length) ++ s.map fun b => (b.toNat : Int)
def rcB (r : Rc) : List Int := txt r.1 ++ txt r.2
def rcsB (r : List Rc) : List Int := r.flatMap rcB
theorem txt_len (s : List UInt8) : (txt s).length ≤ s.length + 10 := by
 have := Vt.enc_len' 9 (Num.zig s.length)
 simp [txt]; omega
theorem bytes_loop (L : List Rc) (hL : ∀ r ∈ L, r.1.length ≤ 64 ∧ r.2.length ≤ 64) (hn : L.length ≤ 16) (B : Box) (H : Heap) (r : List Rc) : ∀ (p : List Rc) (l : List Int) (fl : Fl) (N : Heap), L = p ++ r → (fl = .own ∨ fl = .full) → l.length + r.length * 148 ≤ 100000 →
  ∃ M, loopA W loopW (.ghost (.kill k_batch_bytes_0) l_batch_bytes_0) [(1, .ptr (pt H 0) 0), (4, bytes l fl), (42, .list 2 (L.map rcV) .ro), (43, .int .i64 (L.length : Nat)), (44, .int .i64 (p.length : Nat))] (hx H (B :: N)) =
   some (.exit 0, [(1, .ptr (pt H 0) 0), (4, bytes (l ++ rcsB r) (if r = [] then fl else .full))], hx H (B :: M)) := by
 induction r with
 | nil =>
  intro p l fl N hp hfl hk
  rw [List.append_nil] at hp
  subst hp
  refine ⟨N, ?_⟩
  have h1 : ¬ ((L.length : Int) < (L.length : Int)) := by omega
  refine loop_step l_batch_bytes_0.eq_1 k_batch_bytes_0.eq_1 (by kernel_rfl) ?_
  simp only [go_sem, h1, rcsB, List.flatMap_nil, List.append_nil, simprocAttr]
 | cons x r ih =>
  intro p l fl N hp hfl hk
  have hlen : p.length < L.length := by rw [hp]; simp
  have hx2 := hL x (by rw [hp]; simp)
  have h1 : ((p.length : Int) < (L.length : Int)) := by omega
  have e0 : (0 : Int) ≤ (p.length : Int) := by omega
  have e7 : ((p.length : Nat) : Int).toNat = p.length := by omega
  have e1 : (L.map rcV)[p.length]? = some (.agg [.str x.1, .str x.2]) := by rw [hp]; simp [rcV]
  have e6 : IntKind.i64.wrap ((p.length : Int) + 1) = ((p.length + 1 : Nat) : Int) := by rw [wrap_id (by unfold I64; omega)]; omega
  have hk' : l.length + (r.length * 148 + 148) ≤ 100000 := by
   have : (x :: r).length * 148 = r.length * 148 + 148 := by simp [Nat.add_mul]
   omega
  have l1 := txt_len x.1
  have l2 := txt_len x.2
  have t1 := fun H => text_spec l x.1 H (by omega)
  have t2 := fun H => text_spec (l ++ txt x.1) x.2 H (by simp; omega)
  have t1' : ∀ H, W n_varint_Text [bytes l .ro, .str x.1] H = some (bytes (l ++ txt x.1) .full, H) := fun H => by rw [t1, List.append_assoc]; rfl
  have t2' : ∀ H, W n_varint_Text [bytes (l ++ txt x.1) .ro, .str x.2] H = some (bytes (l ++ rcB x) .full, H) := fun H => by rw [t2]; simp [rcB, txt]
  obtain ⟨M, h2⟩ := ih (p ++ [x]) (l ++ rcB x) .full (N ++ [.cells [.str x.1, .str x.2]]) (by rw [hp]; simp) (.inr rfl) (by simp [rcB]; omega)
  refine ⟨M, ?_⟩
  simp only [List.length_append, List.length_cons, List.length_nil, Nat.zero_add] at h2
  have h3 : (if r = [] then Fl.full else Fl.full) = Fl.full := by split <;> rfl
  have e9 : l ++ rcsB (x :: r) = l ++ rcB x ++ rcsB r := by simp [rcsB]
  rw [h3] at h2
  simp only [List.append_assoc] at h2
  rw [e9, if_neg (by simp)]
  simp only [List.append_assoc]
  refine loop_step l_batch_bytes_0.eq_1 k_batch_bytes_0.eq_1 (by kernel_rfl) ?_
  rcases hfl with rfl | rfl
  ·simp only [go_sem, h1, e0, e7, e1, t1', t2', e6, simprocAttr]
   exact h2
  ·simp only [go_sem, h1, e0, e7, e1, t1', t2', e6, simprocAttr]
   exact h2
structure BOK (b : Ba) : Prop where
 base : I64 b.base
 prod : I64 b.prod
 epoch : I64 b.epoch
 seq : I64 b.seq
 mark : I64 b.mark
def SmallR (r : List Rc) : Prop := r.length ≤ 16 ∧ ∀ x ∈ r, x.1.length ≤ 64 ∧ x.2.length ≤ 64
def flag0 (b : Ba) : Int := IntKind.u8.wrap (IntKind.i64.wrap (2 * b.mark))
def flagI (b : Ba) : Int := if b.txn then IntKind.u8.wrap (flag0 b + 1) else flag0 b
def headI (b : Ba) : List Int := [flagI b] ++ bes b.prod 0 ++ [b.epoch / 256 % 256, b.epoch % 256] ++ bes b.seq 0 ++ [(b.recs.length : Int) % 256]
def inner (b : Ba) : List Int := headI b ++ rcsB b.recs
def sealedI (b : Ba) : List Int := le4 (crcN (toN (inner b)) : Nat) ++ inner b
def be4 (n : Int) : List Int := [n / 16777216 % 256, n / 65536 % 256, n / 256 % 256, n % 256]
def baBytes (b : Ba) : List Int := bes b.base 0 ++ be4 (sealedI b).length ++ sealedI b
theorem u8r (n : Int) : 0 ≤ IntKind.u8.wrap n ∧ IntKind.u8.wrap n < 256 := by rw [Num.wu8]; omega
theorem flagI_range (b : Ba) : 0 ≤ flagI b ∧ flagI b < 256 := by
 unfold flagI flag0; split <;> exact u8r _
theorem bes_bytes (n : Int) : ∀ x ∈ bes n 0, 0 ≤ x ∧ x < 256 := by
 intro x hx
 simp only [bes, List.drop_zero, List.mem_map] at hx
 obtain ⟨i, _, rfl⟩ := hx
 unfold be; omega
theorem bes_len (n : Int) : (bes n 0).length = 8 := by simp [bes]
theorem txt_bytes (s : List UInt8) (h : s.length ≤ 64) : ∀ x ∈ txt s, 0 ≤ x ∧ x < 256 := by
 intro x hx
 rcases List.mem_append.1 hx with hx | hx
 ·have hz := Num.zig_range (s.length : Int) (by omega)
  exact Vt.enc_bytes 9 _ hz.1 (Int.lt_trans hz.2 (by decide)) x hx
 ·obtain ⟨b, _, rfl⟩ := List.mem_map.1 hx
  have := b.toNat_lt
  omega
theorem rcsB_bytes {r : List Rc} (h : SmallR r) : ∀ x ∈ rcsB r, 0 ≤ x ∧ x < 256 := by
 intro x hx
 obtain ⟨y, hy, hx⟩ := List.mem_flatMap.1 hx
 rcases List.mem_append.1 hx with hx | hx
 ·exact txt_bytes _ (h.2 y hy).1 x hx
 ·exact txt_bytes _ (h.2 y hy).2 x hx
theorem rcsB_len : ∀ {r : List Rc}, (∀ x ∈ r, x.1.length ≤ 64 ∧ x.2.length ≤ 64) → (rcsB r).length ≤ r.length * 148
 | [], _ => by simp [rcsB]
 | x :: r, h => by
  have h1 := h x (by simp)
  have h2 := rcsB_len (r := r) (fun y hy => h y (by simp [hy]))
  have l1 := txt_len x.1
  have l2 := txt_len x.2
  have : rcsB (x :: r) = rcB x ++ rcsB r := by simp [rcsB]
  rw [this, List.length_append, List.length_cons, Nat.add_mul]
  simp [rcB]; omega
theorem headI_len (b) : (headI b).length = 20 := by simp [headI, bes_len]
theorem headI_bytes (b : Ba) : ∀ x ∈ headI b, 0 ≤ x ∧ x < 256 := by
 intro x hx
 unfold headI at hx
 simp only [List.mem_append, List.mem_cons, List.not_mem_nil, or_false] at hx
 rcases hx with (((rfl | hx) | rfl | rfl) | hx) | rfl
 ·exact flagI_range b
 ·exact bes_bytes _ x hx
 ·omega
 ·omega
 ·exact bes_bytes _ x hx
 ·omega
theorem inner_bytes {b : Ba} (h : SmallR b.recs) : ∀ x ∈ inner b, 0 ≤ x ∧ x < 256 := by
 intro x hx
 rcases List.mem_append.1 hx with hx | hx
 ·exact headI_bytes b x hx
 ·exact rcsB_bytes h x hx
theorem inner_len {b : Ba} (h : SmallR b.recs) : (inner b).length ≤ 2388 := by
 have := rcsB_len h.2
 have h2 := h.1
 rw [inner, List.length_append, headI_len]; omega
theorem bytes_spec (b : Ba) (h : BOK b) (hr : SmallR b.recs) (H : Heap) : W n_batch_bytes [b.V] H = some (bytes (baBytes b) .own, H) := by
 have hf := flagI_range b
 have hlen := rcsB_len hr.2
 have hn := hr.1
 obtain ⟨F, hF⟩ : ∃ F, flagI b = F := ⟨_, rfl⟩
 obtain ⟨l1, hl1⟩ : ∃ l1, [F] ++ bes b.prod 0 = l1 := ⟨_, rfl⟩
 obtain ⟨l2, hl2⟩ : ∃ l2, l1 ++ [b.epoch / 256 % 256, b.epoch % 256] = l2 := ⟨_, rfl⟩
 obtain ⟨l3, hl3⟩ : ∃ l3, l2 ++ bes b.seq 0 = l3 := ⟨_, rfl⟩
 obtain ⟨l4, hl4⟩ : ∃ l4, l3 ++ [(b.recs.length : Int) % 256] = l4 := ⟨_, rfl⟩
 have hh : l4 = headI b := by rw [← hl4, ← hl3, ← hl2, ← hl1, ← hF]; rfl
 have k1 : l1.length = 9 := by rw [← hl1]; simp [bes_len]
 have k2 : l2.length = 11 := by rw [← hl2]; simp [k1]
 have k3 : l3.length = 19 := by rw [← hl3]; simp [k2, bes_len]
 have t1 : ∀ H, W n_varint_Long [.list 1 [.int .u8 F] .ro, .int .i64 b.prod] H = some (bytes l1 .full, H) := fun H => by rw [← hl1]; exact long_spec [F] b.prod H h.prod (by simp)
 have t2 : ∀ H, W n_varint_Long [bytes l2 .ro, .int .i64 b.seq] H = some (bytes l3 .full, H) := fun H => by rw [← hl3]; exact long_spec l2 b.seq H h.seq (by rw [k2]; decide)
 obtain ⟨M, t3⟩ := bytes_loop b.recs hr.2 hr.1 (.cells b.cs) H b.recs [] l4 .own [] rfl (.inl rfl) (by rw [hh, headI_len]; omega)
 obtain ⟨fl, hfl, hfe⟩ : ∃ fl, (if b.recs = [] then Fl.own else Fl.full) = fl ∧ (fl = .own ∨ fl = .full) := ⟨_, rfl, by split <;> simp⟩
 rw [hfl, show l4 ++ rcsB b.recs = inner b by rw [hh]; rfl] at t3
 obtain ⟨S, hS⟩ : ∃ S, sealedI b = S := ⟨_, rfl⟩
 have t4 : ∀ H, W n_crc_Put [bytes (inner b) .ro] H = some (bytes S .own, H) := fun H => by rw [← hS]; exact crc_put_spec (inner b) H (inner_bytes hr) (by have := inner_len hr; omega)
 have kS : S.length ≤ 2392 := by rw [← hS, sealedI, List.length_append]; have := inner_len hr; simp [le4]; omega
 have t5 : ∀ H, W n_varint_Long [.list 1 [] .ro, .int .i64 b.base] H = some (bytes (bes b.base 0) .full, H) := fun H => long_spec [] b.base H h.base (by simp)
 have e1 : IntKind.u8.wrap (shr .i64 b.epoch 8) = b.epoch / 256 % 256 := Num.wu8 _
 have e2 : IntKind.u8.wrap b.epoch = b.epoch % 256 := Num.wu8 _
 have e3 : IntKind.u8.wrap (b.recs.length : Int) = (b.recs.length : Int) % 256 := Num.wu8 _
 have a2 : ints .u8 l1 ++ [.int .u8 (b.epoch / 256 % 256), .int .u8 (b.epoch % 256)] = ints .u8 l2 := by rw [← hl2]; simp
 have a4 : ints .u8 l3 ++ [.int .u8 ((b.recs.length : Int) % 256)] = ints .u8 l4 := by rw [← hl4]; simp
 have b2 : (l1.length + 2) * 1 ≤ maxBytes := by rw [k1]; decide
 have b4 : (l3.length + 1) * 1 ≤ maxBytes := by rw [k3]; decide
 have s1 : IntKind.u8.wrap (shr .i64 (S.length : Nat) 24) = (S.length : Int) / 16777216 % 256 := Num.wu8 _
 have s2 : IntKind.u8.wrap (shr .i64 (S.length : Nat) 16) = (S.length : Int) / 65536 % 256 := Num.wu8 _
 have s3 : IntKind.u8.wrap (shr .i64 (S.length : Nat) 8) = (S.length : Int) / 256 % 256 := Num.wu8 _
 have s4 : IntKind.u8.wrap (S.length : Nat) = (S.length : Int) % 256 := Num.wu8 _
 have t6 : ∀ H, W n_slices_Concat_byte_byte_ [.list 1 [bytes (bes b.base 0) .ro, .list 1 [.int .u8 ((S.length : Int) / 16777216 % 256), .int .u8 ((S.length : Int) / 65536 % 256), .int .u8 ((S.length : Int) / 256 % 256), .int .u8 ((S.length : Int) % 256)] .ro, bytes S .ro] .ro] H =
   some (bytes (baBytes b) .own, H) := fun H => by
  have := concat_spec [bes b.base 0, be4 S.length, S] (by simp [total, be4]; omega) (by simp [total, be4, bes_len]; omega) (by simp) H
  rw [show [bes b.base 0, be4 S.length, S].flatten = baBytes b by simp [baBytes, hS]] at this
  exact this
 have g0 : ((([] : List Rc).length : Nat) : Int) = 0 := rfl
 rw [g0] at t3
 unfold Ba.cs at t3
 refine W_fn rfl rfl ?_
 unfold Ba.V Ba.cs
 rcases hfe with rfl | rfl
 ·cases ht : b.txn
  ·rw [ht] at t3
   have f1 : IntKind.u8.wrap (IntKind.i64.wrap (2 * b.mark)) = F := by rw [← hF]; unfold flagI; rw [ht]; rfl
   simp only [go_sem, c_batch_bytes, f1, fs_int, t1, e1, e2, e3, apF, apO, a2, a4, b2, b4, t2, t3, t4, t5, t6, s1, s2, s3, s4, List.length_map, simprocAttr]
  ·rw [ht] at t3
   have f1 : IntKind.u8.wrap (IntKind.u8.wrap (IntKind.i64.wrap (2 * b.mark)) + 1) = F := by rw [← hF]; unfold flagI; rw [ht]; rfl
   simp only [go_sem, c_batch_bytes, f1, fs_int, t1, e1, e2, e3, apF, apO, a2, a4, b2, b4, t2, t3, t4, t5, t6, s1, s2, s3, s4, List.length_map, simprocAttr]
 ·cases ht : b.txn
  ·rw [ht] at t3
   have f1 : IntKind.u8.wrap (IntKind.i64.wrap (2 * b.mark)) = F := by rw [← hF]; unfold flagI; rw [ht]; rfl
   simp only [go_sem, c_batch_bytes, f1, fs_int, t1, e1, e2, e3, apF, apO, a2, a4, b2, b4, t2, t3, t4, t5, t6, s1, s2, s3, s4, List.length_map, simprocAttr]
  ·rw [ht] at t3
   have f1 : IntKind.u8.wrap (IntKind.u8.wrap (IntKind.i64.wrap (2 * b.mark)) + 1) = F := by rw [← hF]; unfold flagI; rw [ht]; rfl
   simp only [go_sem, c_batch_bytes, f1, fs_int, t1, e1, e2, e3, apF, apO, a2, a4, b2, b4, t2, t3, t4, t5, t6, s1, s2, s3, s4, List.length_map, simprocAttr]
def namedB (b : Ba) : Bool := decide (b.prod ≥ 0) && (decide (b.epoch ≥ 0) && decide (b.epoch ≤ 32767))
def seqR (n : Int) : Bool := decide (n ≥ 0) && decide (n ≤ 2147483647)
theorem named_spec (b : Ba) (H : Heap) : W n_batch_named [b.V] H = some (.bool (namedB b), H) := by
 refine W_fn rfl rfl ?_
 unfold Ba.V Ba.cs namedB
 by_cases c1 : b.prod ≥ 0
 ·by_cases c2 : b.epoch ≥ 0
  ·by_cases c3 : b.epoch ≤ 32767 <;> simp only [go_sem, c_batch_named, c1, c2, c3, simprocAttr]
  ·simp only [go_sem, c_batch_named, c1, c2, simprocAttr]
 ·simp only [go_sem, c_batch_named, c1, simprocAttr]
theorem seq_right_spec (n : Int) (H : Heap) : W n_seq_Right [.int .i64 n] H = some (.bool (seqR n), H) := by
 refine W_fn rfl rfl ?_
 unfold seqR
 by_cases c1 : n ≥ 0
 ·by_cases c2 : n ≤ 2147483647 <;> simp only [go_sem, c_seq_Right, c1, c2, simprocAttr]
 ·simp only [go_sem, c_seq_Right, c1, simprocAttr]
def bigR (r : Rc) : Bool := decide (r.1.length > 64) || decide (r.2.length > 64)
theorem data_loop (L : List Rc) (hn : L.length ≤ 16) (B : Heap) (H : Heap) (r : List Rc) : ∀ (p : List Rc) (N : Heap), L = p ++ r →
  ∃ M, loopA W loopW (.ghost (.kill k_batch_data_0) l_batch_data_0) [(48, .list 2 (L.map rcV) .ro), (49, .int .i64 (L.length : Nat)), (50, .int .i64 (p.length : Nat))] (hx H N) =
   if r.any bigR then some (.ret, [(2, .int .i64 13)], hx H M) else some (.exit 1, [], hx H M) := by
 induction r with
 | nil =>
  intro p N hp
  rw [List.append_nil] at hp
  subst hp
  refine ⟨N, ?_⟩
  have h1 : ¬ ((L.length : Int) < (L.length : Int)) := by omega
  rw [if_neg (by simp)]
  refine loop_step l_batch_data_0.eq_1 k_batch_data_0.eq_1 (by kernel_rfl) ?_
  simp only [go_sem, h1, simprocAttr]
 | cons x r ih =>
  intro p N hp
  have hlen : p.length < L.length := by rw [hp]; simp
  have h1 : ((p.length : Int) < (L.length : Int)) := by omega
  have e0 : (0 : Int) ≤ (p.length : Int) := by omega
  have e7 : ((p.length : Nat) : Int).toNat = p.length := by omega
  have e1 : (L.map rcV)[p.length]? = some (.agg [.str x.1, .str x.2]) := by rw [hp]; simp [rcV]
  have e6 : IntKind.i64.wrap ((p.length : Int) + 1) = ((p.length + 1 : Nat) : Int) := by rw [wrap_id (by unfold I64; omega)]; omega
  obtain ⟨M, h2⟩ := ih (p ++ [x]) (N ++ [.cells [.str x.1, .str x.2]]) (by rw [hp]; simp)
  simp only [List.length_append, List.length_cons, List.length_nil, Nat.zero_add] at h2
  by_cases c1 : (x.1.length : Int) > 64
  ·refine ⟨N ++ [.cells [.str x.1, .str x.2]], ?_⟩
   rw [if_pos (by simp [bigR]; omega)]
   refine loop_step l_batch_data_0.eq_1 k_batch_data_0.eq_1 (by kernel_rfl) ?_
   simp only [go_sem, h1, e0, e7, e1, c1, simprocAttr]
  ·by_cases c2 : (x.2.length : Int) > 64
   ·refine ⟨N ++ [.cells [.str x.1, .str x.2]], ?_⟩
    rw [if_pos (by simp [bigR]; omega)]
    refine loop_step l_batch_data_0.eq_1 k_batch_data_0.eq_1 (by kernel_rfl) ?_
    simp only [go_sem, h1, e0, e7, e1, c1, c2, simprocAttr]
   ·refine ⟨M, ?_⟩
    have hb : bigR x = false := by simp [bigR]; omega
    rw [List.any_cons, hb, Bool.false_or]
    obtain ⟨R, hR⟩ : ∃ R, (if r.any bigR = true then some (Out.ret, ([(2, .int .i64 13)] : Env), hx H M) else some (.exit 1, [], hx H M)) = some R := by split <;> exact ⟨_, rfl⟩
    rw [hR] at h2 ⊢
    refine loop_step l_batch_data_0.eq_1 k_batch_data_0.eq_1 (by kernel_rfl) ?_
    simp only [go_sem, h1, e0, e7, e1, c1, c2, e6, simprocAttr]
    exact h2
def noneB (b : Ba) : Bool := decide (b.prod = -1) && (decide (b.epoch = -1) && (decide (b.seq = -1) && !b.txn))
def dataE (b : Ba) : Int :=
 if (!noneB b && !(namedB b && seqR b.seq)) = true then 12
 else if b.recs.length = 0 then 12
 else if 16 < b.recs.length then 13
 else if b.recs.any bigR = true then 13 else 0
set_option maxHeartbeats 3200000 in
theorem data_spec (b : Ba) (H : Heap) : W n_batch_data [b.V] H = some (.int .i64 (dataE b), H) := by
 have t1 := fun H => named_spec b H
 have t2 := fun H => seq_right_spec b.seq H
 unfold Ba.V Ba.cs at t1 ⊢
 have tail : (!noneB b && !(namedB b && seqR b.seq)) = false → dataE b = if b.recs.length = 0 then 12 else if 16 < b.recs.length then 13 else if b.recs.any bigR = true then 13 else 0 := by
  intro h; unfold dataE; rw [if_neg (by rw [h]; decide)]
 have head : (!noneB b && !(namedB b && seqR b.seq)) = true → dataE b = 12 := by
  intro h; unfold dataE; rw [if_pos h]
 have g0 : ((([] : List Rc).length : Nat) : Int) = 0 := rfl
 by_cases c1 : b.prod = -1
 ·by_cases c2 : b.epoch = -1
  ·by_cases c3 : b.seq = -1
   ·cases ht : b.txn
    ·have hz : (!noneB b && !(namedB b && seqR b.seq)) = false := by unfold noneB; rw [ht]; simp [c1, c2, c3]
     rw [ht] at t1
     by_cases d1 : (b.recs.length : Int) = 0
     ·rw [tail hz, if_pos (by omega)]
      refine W_fn rfl rfl ?_
      simp only [go_sem, c_batch_data, List.length_map, eq_true c1, eq_true c2, eq_true c3, ht, d1, simprocAttr]
     ·by_cases d2 : (b.recs.length : Int) > 16
      ·rw [tail hz, if_neg (by omega), if_pos (by omega)]
       refine W_fn rfl rfl ?_
       simp only [go_sem, c_batch_data, List.length_map, eq_true c1, eq_true c2, eq_true c3, ht, d1, d2, simprocAttr]
      ·rw [tail hz, if_neg (by omega), if_neg (by omega)]
       obtain ⟨M, t3⟩ := data_loop b.recs (by omega) [] H b.recs [] [.cells b.cs] rfl
       rw [g0] at t3
       unfold Ba.cs at t3
       rw [ht] at t3
       cases ha : b.recs.any bigR
       ·rw [ha] at t3
        refine W_fn rfl rfl ?_
        simp only [go_sem, c_batch_data, List.length_map, eq_true c1, eq_true c2, eq_true c3, ht, d1, d2, t3, simprocAttr]
       ·rw [ha] at t3
        refine W_fn rfl rfl ?_
        simp only [go_sem, c_batch_data, List.length_map, eq_true c1, eq_true c2, eq_true c3, ht, d1, d2, t3, simprocAttr]
    ·have hno : noneB b = false := by unfold noneB; rw [ht]; simp
     rw [ht] at t1
     cases hna : namedB b
     ·have hz : (!noneB b && !(namedB b && seqR b.seq)) = true := by rw [hno, hna]; rfl
      rw [hna] at t1
      rw [head hz]
      refine W_fn rfl rfl ?_
      simp only [go_sem, c_batch_data, eq_true c1, eq_true c2, eq_true c3, ht, t1, simprocAttr]
     ·rw [hna] at t1
      cases hsq : seqR b.seq
      ·have hz : (!noneB b && !(namedB b && seqR b.seq)) = true := by rw [hno, hna, hsq]; rfl
       rw [hsq] at t2
       rw [head hz]
       refine W_fn rfl rfl ?_
       simp only [go_sem, c_batch_data, eq_true c1, eq_true c2, eq_true c3, ht, t1, t2, simprocAttr]
      ·have hz : (!noneB b && !(namedB b && seqR b.seq)) = false := by rw [hno, hna, hsq]; rfl
       rw [hsq] at t2
       by_cases d1 : (b.recs.length : Int) = 0
       ·rw [tail hz, if_pos (by omega)]
        refine W_fn rfl rfl ?_
        simp only [go_sem, c_batch_data, List.length_map, eq_true c1, eq_true c2, eq_true c3, ht, t1, t2, d1, simprocAttr]
       ·by_cases d2 : (b.recs.length : Int) > 16
        ·rw [tail hz, if_neg (by omega), if_pos (by omega)]
         refine W_fn rfl rfl ?_
         simp only [go_sem, c_batch_data, List.length_map, eq_true c1, eq_true c2, eq_true c3, ht, t1, t2, d1, d2, simprocAttr]
        ·rw [tail hz, if_neg (by omega), if_neg (by omega)]
         obtain ⟨M, t3⟩ := data_loop b.recs (by omega) [] H b.recs [] [.cells b.cs] rfl
         rw [g0] at t3
         unfold Ba.cs at t3
         rw [ht] at t3
         cases ha : b.recs.any bigR
         ·rw [ha] at t3
          refine W_fn rfl rfl ?_
          simp only [go_sem, c_batch_data, List.length_map, eq_true c1, eq_true c2, eq_true c3, ht, t1, t2, d1, d2, t3, simprocAttr]
         ·rw [ha] at t3
          refine W_fn rfl rfl ?_
          simp only [go_sem, c_batch_data, List.length_map, eq_true c1, eq_true c2, eq_true c3, ht, t1, t2, d1, d2, t3, simprocAttr]
   ·have hno : noneB b = false := by unfold noneB; simp [c3]
    cases hna : namedB b
    ·have hz : (!noneB b && !(namedB b && seqR b.seq)) = true := by rw [hno, hna]; rfl
     rw [hna] at t1
     rw [head hz]
     refine W_fn rfl rfl ?_
     simp only [go_sem, c_batch_data, eq_true c1, eq_true c2, c3, t1, simprocAttr]
    ·rw [hna] at t1
     cases hsq : seqR b.seq
     ·have hz : (!noneB b && !(namedB b && seqR b.seq)) = true := by rw [hno, hna, hsq]; rfl
      rw [hsq] at t2
      rw [head hz]
      refine W_fn rfl rfl ?_
      simp only [go_sem, c_batch_data, eq_true c1, eq_true c2, c3, t1, t2, simprocAttr]
     ·have hz : (!noneB b && !(namedB b && seqR b.seq)) = false := by rw [hno, hna, hsq]; rfl
      rw [hsq] at t2
      by_cases d1 : (b.recs.length : Int) = 0
      ·rw [tail hz, if_pos (by omega)]
       refine W_fn rfl rfl ?_
       simp only [go_sem, c_batch_data, List.length_map, eq_true c1, eq_true c2, c3, t1, t2, d1, simprocAttr]
      ·by_cases d2 : (b.recs.length : Int) > 16
       ·rw [tail hz, if_neg (by omega), if_pos (by omega)]
        refine W_fn rfl rfl ?_
        simp only [go_sem, c_batch_data, List.length_map, eq_true c1, eq_true c2, c3, t1, t2, d1, d2, simprocAttr]
       ·rw [tail hz, if_neg (by omega), if_neg (by omega)]
        obtain ⟨M, t3⟩ := data_loop b.recs (by omega) [] H b.recs [] [.cells b.cs] rfl
        rw [g0] at t3
        unfold Ba.cs at t3
        cases ha : b.recs.any bigR
        ·rw [ha] at t3
         refine W_fn rfl rfl ?_
         simp only [go_sem, c_batch_data, List.length_map, eq_true c1, eq_true c2, c3, t1, t2, d1, d2, t3, simprocAttr]
        ·rw [ha] at t3
         refine W_fn rfl rfl ?_
         simp only [go_sem, c_batch_data, List.length_map, eq_true c1, eq_true c2, c3, t1, t2, d1, d2, t3, simprocAttr]
  ·have hno : noneB b = false := by unfold noneB; simp [c2]
   cases hna : namedB b
   ·have hz : (!noneB b && !(namedB b && seqR b.seq)) = true := by rw [hno, hna]; rfl
    rw [hna] at t1
    rw [head hz]
    refine W_fn rfl rfl ?_
    simp only [go_sem, c_batch_data, eq_true c1, c2, t1, simprocAttr]
   ·rw [hna] at t1
    cases hsq : seqR b.seq
    ·have hz : (!noneB b && !(namedB b && seqR b.seq)) = true := by rw [hno, hna, hsq]; rfl
     rw [hsq] at t2
     rw [head hz]
     refine W_fn rfl rfl ?_
     simp only [go_sem, c_batch_data, eq_true c1, c2, t1, t2, simprocAttr]
    ·have hz : (!noneB b && !(namedB b && seqR b.seq)) = false := by rw [hno, hna, hsq]; rfl
     rw [hsq] at t2
     by_cases d1 : (b.recs.length : Int) = 0
     ·rw [tail hz, if_pos (by omega)]
      refine W_fn rfl rfl ?_
      simp only [go_sem, c_batch_data, List.length_map, eq_true c1, c2, t1, t2, d1, simprocAttr]
     ·by_cases d2 : (b.recs.length : Int) > 16
      ·rw [tail hz, if_neg (by omega), if_pos (by omega)]
       refine W_fn rfl rfl ?_
       simp only [go_sem, c_batch_data, List.length_map, eq_true c1, c2, t1, t2, d1, d2, simprocAttr]
      ·rw [tail hz, if_neg (by omega), if_neg (by omega)]
       obtain ⟨M, t3⟩ := data_loop b.recs (by omega) [] H b.recs [] [.cells b.cs] rfl
       rw [g0] at t3
       unfold Ba.cs at t3
       cases ha : b.recs.any bigR
       ·rw [ha] at t3
        refine W_fn rfl rfl ?_
        simp only [go_sem, c_batch_data, List.length_map, eq_true c1, c2, t1, t2, d1, d2, t3, simprocAttr]
       ·rw [ha] at t3
        refine W_fn rfl rfl ?_
        simp only [go_sem, c_batch_data, List.length_map, eq_true c1, c2, t1, t2, d1, d2, t3, simprocAttr]
 ·have hno : noneB b = false := by unfold noneB; simp [c1]
  cases hna : namedB b
  ·have hz : (!noneB b && !(namedB b && seqR b.seq)) = true := by rw [hno, hna]; rfl
   rw [hna] at t1
   rw [head hz]
   refine W_fn rfl rfl ?_
   simp only [go_sem, c_batch_data, c1, t1, simprocAttr]
  ·rw [hna] at t1
   cases hsq : seqR b.seq
   ·have hz : (!noneB b && !(namedB b && seqR b.seq)) = true := by rw [hno, hna, hsq]; rfl
    rw [hsq] at t2
    rw [head hz]
    refine W_fn rfl rfl ?_
    simp only [go_sem, c_batch_data, c1, t1, t2, simprocAttr]
   ·have hz : (!noneB b && !(namedB b && seqR b.seq)) = false := by rw [hno, hna, hsq]; rfl
    rw [hsq] at t2
    by_cases d1 : (b.recs.length : Int) = 0
    ·rw [tail hz, if_pos (by omega)]
     refine W_fn rfl rfl ?_
     simp only [go_sem, c_batch_data, List.length_map, c1, t1, t2, d1, simprocAttr]
    ·by_cases d2 : (b.recs.length : Int) > 16
     ·rw [tail hz, if_neg (by omega), if_pos (by omega)]
      refine W_fn rfl rfl ?_
      simp only [go_sem, c_batch_data, List.length_map, c1, t1, t2, d1, d2, simprocAttr]
     ·rw [tail hz, if_neg (by omega), if_neg (by omega)]
      obtain ⟨M, t3⟩ := data_loop b.recs (by omega) [] H b.recs [] [.cells b.cs] rfl
      rw [g0] at t3
      unfold Ba.cs at t3
      cases ha : b.recs.any bigR
      ·rw [ha] at t3
       refine W_fn rfl rfl ?_
       simp only [go_sem, c_batch_data, List.length_map, c1, t1, t2, d1, d2, t3, simprocAttr]
      ·rw [ha] at t3
       refine W_fn rfl rfl ?_
       simp only [go_sem, c_batch_data, List.length_map, c1, t1, t2, d1, d2, t3, simprocAttr]
theorem slO (sz xs k) (l : Int) : evSlice sz true false false (.list sz xs .own) [.int k l] = gd (decide (0 ≤ l)) (gd (decide (l ≤ (xs.length : Int))) (some (.list sz (xs.drop l.toNat) .own))) := by
 unfold gd
 by_cases h0 : 0 ≤ l
 ·by_cases h1 : l ≤ (xs.length : Int)
  ·simp [evSlice, bounds, natOf, h0, h1]
  ·simp [evSlice, bounds, natOf, h0, h1]
 ·simp [evSlice, bounds, natOf, h0]
theorem dataE_small {b : Ba} (h : dataE b = 0) : SmallR b.recs := by
 unfold dataE at h
 split at h
 ·cases h
 split at h
 ·cases h
 split at h
 ·cases h
 split at h
 ·cases h
 ·rename_i h1 h2 h3 h4
  refine ⟨by omega, fun x hx => ?_⟩
  have h5 : b.recs.any bigR = false := by cases hb : b.recs.any bigR; rfl; exact absurd hb h4
  rw [List.any_eq_false] at h5
  have := h5 x hx
  simp [bigR] at this
  omega
theorem baBytes_len {b : Ba} (h : SmallR b.recs) : (baBytes b).length ≤ 2404 := by
 have := inner_len h
 simp only [baBytes, sealedI, be4, le4, List.length_append, bes_len, List.length_cons, List.length_nil]
 omega
def markE (b : Ba) : Bool :=
 (decide (b.mark ≠ 1) && decide (b.mark ≠ 2)) || (!namedB b || (decide (b.seq ≠ -1) || (!b.txn || decide (0 < b.recs.length))))
def rightE (b : Ba) : Int :=
 if b.base < 0 ∨ b.base > 1099511627776 then 18
 else if b.mark = 0 then dataE b
 else if markE b = true then 12 else 0
theorem rightE_small {b : Ba} (h : rightE b = 0) : SmallR b.recs := by
 unfold rightE at h
 split at h
 ·cases h
 split at h
 ·exact dataE_small h
 split at h
 ·cases h
 ·rename_i h3
  have : b.recs.length = 0 := by
   simp [markE] at h3
   exact List.length_eq_zero_iff.2 h3.2.2.2.2
  have : b.recs = [] := List.length_eq_zero_iff.1 this
  rw [this]
  exact ⟨by simp, by simp⟩
theorem right_spec (b : Ba) (h : BOK b) (H : Heap) : W n_batch_Right [b.V] H = some (.int .i64 (rightE b), H) := by
 have td := fun H => data_spec b H
 have tn := fun H => named_spec b H
 have tb := fun hs H => bytes_spec b h hs H
 have tl := fun hs => baBytes_len (b := b) hs
 unfold Ba.V Ba.cs at td tn tb ⊢
 by_cases c1 : b.base < 0
 ·have hr : rightE b = 18 := by unfold rightE; rw [if_pos (.inl c1)]
  rw [hr]
  refine W_fn rfl rfl ?_
  simp only [go_sem, c_batch_Right, c1, simprocAttr]
 by_cases c2 : b.base > 1099511627776
 ·have hr : rightE b = 18 := by unfold rightE; rw [if_pos (.inr c2)]
  rw [hr]
  refine W_fn rfl rfl ?_
  simp only [go_sem, c_batch_Right, c1, c2, simprocAttr]
 by_cases c3 : b.mark = 0
 ·have hr : rightE b = dataE b := by unfold rightE; rw [if_neg (by omega), if_pos c3]
  rw [hr]
  by_cases c4 : dataE b = 0
  ·have hs := dataE_small c4
   have hl := tl hs
   have tb' := tb hs
   have c5 : ¬ ((baBytes b).length : Int) > 4096 := by omega
   rw [c4] at td ⊢
   refine W_fn rfl rfl ?_
   simp only [go_sem, c_batch_Right, c1, c2, eq_true c3, td, tb', c5, List.length_map, simprocAttr]
  ·refine W_fn rfl rfl ?_
   simp only [go_sem, c_batch_Right, c1, c2, eq_true c3, td, c4, simprocAttr]
 ·have hr : rightE b = if markE b = true then 12 else 0 := by unfold rightE; rw [if_neg (by omega), if_neg c3]
  rw [hr]
  have bad : markE b = true → (W n_batch_Right [b.V] H = some (.int .i64 12, H)) → W n_batch_Right [b.V] H = some (.int .i64 (if markE b = true then 12 else 0), H) := fun h1 h2 => by rw [if_pos h1]; exact h2
  have good : markE b = false → (W n_batch_Right [b.V] H = some (.int .i64 0, H)) → W n_batch_Right [b.V] H = some (.int .i64 (if markE b = true then 12 else 0), H) := fun h1 h2 => by rw [if_neg (by rw [h1]; decide)]; exact h2
  have rest : (b.mark = 1 ∨ b.mark = 2) → W n_batch_Right [b.V] H = some (.int .i64 (if markE b = true then 12 else 0), H) := by
   intro hm
   have m12 : (decide (b.mark ≠ 1) && decide (b.mark ≠ 2)) = false := by rcases hm with hm | hm <;> rw [hm] <;> rfl
   have em : markE b = (!namedB b || (decide (b.seq ≠ -1) || (!b.txn || decide (0 < b.recs.length)))) := by unfold markE; rw [m12, Bool.false_or]
   cases hn : namedB b with
   | false =>
    rw [hn] at tn
    refine bad (by rw [em, hn]; rfl) (W_fn rfl rfl ?_)
    unfold Ba.V Ba.cs
    rcases hm with hm | hm
    ·simp only [go_sem, c_batch_Right, c1, c2, c3, eq_true hm, tn, simprocAttr]
    ·have hm1 : ¬ b.mark = 1 := by omega
     simp only [go_sem, c_batch_Right, c1, c2, c3, hm1, eq_true hm, tn, simprocAttr]
   | true =>
    rw [hn] at tn
    by_cases c6 : b.seq = -1
    ·cases ht : b.txn with
     | false =>
      rw [ht] at tn
      refine bad (by rw [em, hn, ht]; simp) (W_fn rfl rfl ?_)
      unfold Ba.V Ba.cs
      rcases hm with hm | hm
      ·simp only [go_sem, c_batch_Right, c1, c2, c3, eq_true hm, tn, eq_true c6, ht, simprocAttr]
      ·have hm1 : ¬ b.mark = 1 := by omega
       simp only [go_sem, c_batch_Right, c1, c2, c3, hm1, eq_true hm, tn, eq_true c6, ht, simprocAttr]
     | true =>
      rw [ht] at tn tb
      by_cases c7 : (b.recs.length : Int) > 0
      ·refine bad (by rw [em, hn, ht]; simp; right; omega) (W_fn rfl rfl ?_)
       unfold Ba.V Ba.cs
       rcases hm with hm | hm
       ·simp only [go_sem, c_batch_Right, c1, c2, c3, eq_true hm, tn, eq_true c6, ht, c7, List.length_map, simprocAttr]
       ·have hm1 : ¬ b.mark = 1 := by omega
        simp only [go_sem, c_batch_Right, c1, c2, c3, hm1, eq_true hm, tn, eq_true c6, ht, c7, List.length_map, simprocAttr]
      ·have h0 : b.recs = [] := List.length_eq_zero_iff.1 (by omega)
       have hs : SmallR b.recs := by
        rw [h0]; exact ⟨by simp, by simp⟩
       have tb' := tb hs
       have hl := tl hs
       have c5 : ¬ ((baBytes b).length : Int) > 4096 := by omega
       refine good (by rw [em, hn, ht]; simp [c6, h0]) (W_fn rfl rfl ?_)
       unfold Ba.V Ba.cs
       rcases hm with hm | hm
       ·simp only [go_sem, c_batch_Right, c1, c2, c3, eq_true hm, tn, eq_true c6, ht, c7, tb', c5, List.length_map, simprocAttr]
       ·have hm1 : ¬ b.mark = 1 := by omega
        simp only [go_sem, c_batch_Right, c1, c2, c3, hm1, eq_true hm, tn, eq_true c6, ht, c7, tb', c5, List.length_map, simprocAttr]
    ·refine bad (by rw [em, hn]; simp [c6]) (W_fn rfl rfl ?_)
     unfold Ba.V Ba.cs
     rcases hm with hm | hm
     ·simp only [go_sem, c_batch_Right, c1, c2, c3, eq_true hm, tn, c6, simprocAttr]
     ·have hm1 : ¬ b.mark = 1 := by omega
      simp only [go_sem, c_batch_Right, c1, c2, c3, hm1, eq_true hm, tn, c6, simprocAttr]
  by_cases m1 : b.mark = 1
  ·exact rest (.inl m1)
  by_cases m2 : b.mark = 2
  ·exact rest (.inr m2)
  refine bad (by unfold markE; simp [m1, m2]) (W_fn rfl rfl ?_)
  unfold Ba.V Ba.cs
  simp only [go_sem, c_batch_Right, c1, c2, c3, m1, m2, simprocAttr]
theorem Bytes_spec (b : Ba) (h : BOK b) (H : Heap) :
  W n_batch_Bytes [b.V] H = some (.tuple [if rightE b = 0 then bytes (baBytes b) .own else .list 1 [] .full, .int .i64 (rightE b)], H) := by
 have tr := fun H => right_spec b h H
 have tb := fun hs H => bytes_spec b h hs H
 unfold Ba.V Ba.cs at tr tb ⊢
 by_cases c : rightE b = 0
 ·have tb' := tb (rightE_small c)
  rw [if_pos c]
  rw [c] at tr ⊢
  refine W_fn rfl rfl ?_
  simp only [go_sem, c_batch_Bytes, tr, tb', simprocAttr]
 ·rw [if_neg c]
  refine W_fn rfl rfl ?_
  simp only [go_sem, c_batch_Bytes, tr, c, simprocAttr]
end Go.Abs
