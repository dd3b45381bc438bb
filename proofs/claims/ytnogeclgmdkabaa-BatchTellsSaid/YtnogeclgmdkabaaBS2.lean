import Derived.Test.YtnogeclgmdkabaaBS1
set_option linter.unusedVariables false
set_option linter.unusedSimpArgs false
namespace Go.Abs
open Go Go.RowKit
theorem ref_seq_spec (n : Int) (H : Heap) : W n_ref3_Seq [.int .i64 n] H = some (.bool (seqR n), H) := by
 refine W_fn rfl rfl ?_
 unfold seqR
 by_cases c1 : n ≥ 0
 ·by_cases c2 : n ≤ 2147483647 <;> simp only [go_sem, c_ref3_Seq, c1, c2, simprocAttr]
 ·simp only [go_sem, c_ref3_Seq, c1, simprocAttr]
theorem apV (sz bytes u xs ys) : evAppend sz bytes u (.list sz xs .uniq) ys = gd (decide ((xs.length + ys.length) * bytes ≤ maxBytes)) (some (.list sz (xs ++ ys) .uniq)) := by
 simp only [evAppend, gd, decide_eq_true_eq, true_and]
theorem apVF (sz bytes ys) : evAppend sz bytes true (.list sz [] .full) ys = gd (decide ((0 + ys.length) * bytes ≤ maxBytes)) (some (.list sz ys .uniq)) := by
 simp only [evAppend, gd, decide_eq_true_eq, true_and, List.length_nil, List.nil_append]; rfl
theorem fz_v (v : Nat) (sz : Nat) (Xs : List AVal) (e : Env) (H : Heap) (h1 : Env.get e v = .list sz Xs .uniq) :
  agh (.freeze v) e H = some (e.put v (.list sz Xs .own), H) := by
 simp only [agh, h1]
theorem fz_f (v : Nat) (sz : Nat) (Xs : List AVal) (e : Env) (H : Heap) (h1 : Env.get e v = .list sz Xs .full) :
  agh (.freeze v) e H = some (e, H) := by
 simp only [agh, h1]
theorem ref_long_loop (l0 : List Int) (n : Int) (hn : I64 n) (hl : l0.length + 8 ≤ 140737488355328) (d : Nat) : ∀ (i : Nat) (l : List Int) (H : Heap), i + d = 8 → l.length = l0.length + i →
  loopA W loopW (.ghost (.kill k_ref1_Long_0) l_ref1_Long_0) [(1, .int .i64 n), (5, bytes l .uniq), (6, .int .i64 (56 - 8 * (i : Int)))] H = some (.exit 0, [(5, bytes (l ++ bes n i) .uniq)], H) := by
 induction d with
 | zero =>
  intro i l H hi hl'
  have : i = 8 := by omega
  subst this
  refine loop_step l_ref1_Long_0.eq_1 k_ref1_Long_0.eq_1 (by kernel_rfl) ?_
  have h1 : ¬ ((56 : Int) - 8 * 8 ≥ 0) := by omega
  simp only [go_sem, trim_same, trim_same, h1, simprocAttr]
  simp [bes]
 | succ d ih =>
  intro i l H hi hl'
  have h1 : (56 - 8 * (i : Int) ≥ 0) := by omega
  have e1 : IntKind.u64.wrap (56 - 8 * (i : Int)) = ((8 * (7 - i) : Nat) : Int) := by rw [Num.wu64]; omega
  have e4 := (toB8 n hn (8 * (7 - i)) (by omega)).1
  have e5 : (0 : Int) ≤ ((8 * (7 - i) : Nat) : Int) := by omega
  have e6 : IntKind.i64.wrap (56 - 8 * (i : Int) - 8) = 56 - 8 * ((i + 1 : Nat) : Int) := by rw [wrap_id (by unfold I64; omega)]; omega
  have e7 : ints .u8 l ++ [.int .u8 (n / 2 ^ (8 * (7 - i)) % 256)] = ints .u8 (l ++ [be n i]) := by simp [be]
  have hb : ((ints .u8 l).length + 1) * 1 ≤ maxBytes := by simp [maxBytes]; omega
  have h2 := ih (i + 1) (l ++ [be n i]) H (by omega) (by simp; omega)
  refine loop_step l_ref1_Long_0.eq_1 k_ref1_Long_0.eq_1 (by kernel_rfl) ?_
  simp only [go_sem, trim_same, trim_same, h1, e1, e4, e5, e6, apV, hb, e7, simprocAttr]
  refine h2.trans ?_
  have : bes n i = be n i :: bes n (i + 1) := by
   unfold bes
   rw [List.drop_eq_getElem_cons (by simp; omega)]
   simp
  rw [this]; simp
theorem ref_long_spec (l : List Int) (n : Int) (H : Heap) (hn : I64 n) (hl : l.length + 8 ≤ 140737488355328) : W n_ref1_Long [bytes l .ro, .int .i64 n] H = some (bytes (l ++ bes n 0) .uniq, H) := by
 have h := ref_long_loop l n hn hl 8 0 l H rfl (by simp)
 have hb0 : (0 + (ints .u8 l).length) * 1 ≤ maxBytes := by simp [maxBytes]; omega
 simp only [Int.natCast_zero, Int.mul_zero, Int.sub_zero] at h
 refine W_fn0 rfl rfl ?_
 simp only [go_sem, trim_same, trim_same, c_ref1_Long, fs_nil, apVF, hb0, List.nil_append, h, simprocAttr]
theorem w64eq (n : Int) : IntKind.i64.wrap n = wrap64 n := by rw [IntKind.wrap_i64]; unfold wrap64; rfl
theorem ref_put_loop (f : Nat) : ∀ (l : List Int) (u : Int) (H : Heap), 0 ≤ u → u < 128 ^ (f + 1) → l.length + f + 1 ≤ 140737488355328 → ∃ p q, p ++ [q] = Vt.enc f u ∧ 0 ≤ q ∧ q < 128 ∧
  loopA W loopW (.ghost (.kill k_ref1_Put_0) l_ref1_Put_0) [(5, bytes l .own), (6, .int .u64 u)] H = some (.exit 0, [(5, bytes (l ++ p) .own), (6, .int .u64 q)], H) := by
 induction f with
 | zero =>
  intro l u H h0 h1 hl
  rw [Vt.pow128] at h1
  have : (128 : Int) ^ 0 = 1 := rfl
  refine ⟨[], u, rfl, h0, by omega, loop_step l_ref1_Put_0.eq_1 k_ref1_Put_0.eq_1 (by kernel_rfl) ?_⟩
  have hu : ¬ (u ≥ 128) := by omega
  simp only [go_sem, trim_same, hu, List.append_nil, simprocAttr]
 | succ f ih =>
  intro l u H h0 h1 hl
  rw [Vt.pow128] at h1
  by_cases h : u ≥ 128
  ·obtain ⟨p, q, g1, g2, g3, g4⟩ := ih (l ++ [u % 128 + 128]) (u / 128) H (by omega) (by omega) (by simp; omega)
   refine ⟨(u % 128 + 128) :: p, q, by rw [Vt.enc, if_pos h, ← g1]; rfl, g2, g3, loop_step l_ref1_Put_0.eq_1 k_ref1_Put_0.eq_1 (by kernel_rfl) ?_⟩
   have e1 : bits .or .u8 (IntKind.u8.wrap u) 128 = u % 128 + 128 := by
    rw [Num.wu8, Num.or128_u8 _ (by omega) (by omega)]; omega
   have e2 : shr .u64 u 7 = u / 128 := rfl
   have e4 : ints .u8 l ++ [.int .u8 (u % 128 + 128)] = ints .u8 (l ++ [u % 128 + 128]) := by simp
   have hb : ((ints .u8 l).length + 1) * 1 ≤ maxBytes := by simp [maxBytes]; omega
   simp only [go_sem, trim_same, h, e1, e2, apO, hb, e4, simprocAttr]
   exact g4.trans (by simp)
  ·refine ⟨[], u, by rw [Vt.enc, if_neg h]; rfl, h0, by omega, loop_step l_ref1_Put_0.eq_1 k_ref1_Put_0.eq_1 (by kernel_rfl) ?_⟩
   simp only [go_sem, trim_same, h, List.append_nil, simprocAttr]
theorem zig_ref' (n : Int) (h : I64 n) : bits .xor .u64 (IntKind.u64.wrap (shl .i64 n 1)) (IntKind.u64.wrap (shr .i64 n 63)) = Num.zig n := by
 rw [← Num.zig_ref n h, ← w64eq]; rfl
theorem ref_put_spec (l : List Int) (n : Int) (H : Heap) (fl : Fl) (hfl : fl = .ro ∨ fl = .full) (hn : I64 n) (hl : l.length + 10 ≤ 140737488355328) : W n_ref1_Put [bytes l .ro, .int .i64 n] H = some (bytes (l ++ Vt.enc 9 (Num.zig n)) .own, H) := by
 have hz := Num.zig_range n hn
 obtain ⟨p, q, g1, g2, g3, g4⟩ := ref_put_loop 9 l (Num.zig n) H hz.1 (Int.lt_trans hz.2 (by decide)) (by omega)
 have hp : p.length < 10 := by
  have := Vt.enc_len' 9 (Num.zig n); rw [← g1] at this; simp at this; omega
 have hb : ((ints .u8 (l ++ p)).length + 1) * 1 ≤ maxBytes := by simp [maxBytes]; omega
 have hb0 : (0 + (ints .u8 l).length) * 1 ≤ maxBytes := by simp [maxBytes]; omega
 have e1 : IntKind.u8.wrap q = q := by rw [Num.wu8]; omega
 refine W_fn0 rfl rfl ?_
 simp only [go_sem, trim_same, c_ref1_Put, zig_ref' n hn, g4, e1, fs_nil, apO, apF, hb, hb0, List.nil_append, simprocAttr]
 rw [← g1]; simp
theorem ref_text_spec (l : List Int) (s : List UInt8) (H : Heap) (hl : l.length + s.length + 10 ≤ 140737488355328) : W n_ref1_Text [bytes l .ro, .str s] H = some (bytes (l ++ Vt.enc 9 (Num.zig s.length) ++ s.map fun b => (b.toNat : Int)) .own, H) := by
 have h1 := ref_put_spec l s.length H .ro (.inl rfl) (by unfold I64; omega) (by omega)
 have h2 := Vt.enc_len' 9 (Num.zig s.length)
 have hb : ((ints .u8 (l ++ Vt.enc 9 (Num.zig s.length))).length + (encBytes s).length) * 1 ≤ maxBytes := by simp [maxBytes, encBytes]; omega
 refine W_fn0 rfl rfl ?_
 simp only [go_sem, trim_same, c_ref1_Text, h1, apO, hb, simprocAttr]
 simp [encBytes]
theorem ref_next_loop (d : Nat) : ∀ (i c : Nat) (H : Heap), i + d = 8 → c < 4294967296 →
  loopA W0 loopW (.ghost (.kill k_ref1_Next_0) l_ref1_Next_0) [(0, .int .u32 (c : Nat)), (5, .int .i64 (i : Nat))] H = some (.exit 0, [(0, .int .u32 (stepN d c : Nat))], H) := by
 induction d with
 | zero =>
  intro i c H hi hc
  have : i = 8 := by omega
  subst this
  refine loop_step l_ref1_Next_0.eq_1 k_ref1_Next_0.eq_1 (by kernel_rfl) ?_
  have h1 : ¬ (((8 : Nat) : Int) < 8) := by omega
  simp only [go_sem, h1, simprocAttr]
  rfl
 | succ d ih =>
  intro i c H hi hc
  have h1 : ((i : Int) < 8) := by omega
  have e1 := and32 c hc
  have e2 := shr32 c
  have hle : c &&& 1 ≤ 1 := Nat.and_le_right
  have hs : c >>> 1 < 4294967296 := by rw [Nat.shiftRight_eq_div_pow]; omega
  have e4 := xor32 (c >>> 1) 2197175160 hs (by decide)
  have e6 : IntKind.i64.wrap ((i : Int) + 1) = ((i + 1 : Nat) : Int) := by rw [wrap_id (by unfold I64; omega)]; omega
  have h2 := ih (i + 1) (crcStep c) H (by omega) (crcStep_lt hc)
  by_cases hb : c &&& 1 = 1
  ·have c1 : ((c &&& 1 : Nat) : Int) = 1 := by omega
   have e5 : crcStep c = c >>> 1 ^^^ 2197175160 := by unfold crcStep; rw [hb, Nat.mul_one]
   rw [e5] at h2
   refine loop_step l_ref1_Next_0.eq_1 k_ref1_Next_0.eq_1 (by kernel_rfl) ?_
   rw [show ((2197175160 : Nat) : Int) = 2197175160 from rfl] at e4
   simp only [go_sem, h1, e1, e2, c1, e4, e6, simprocAttr]
   show _ = some (Out.exit 0, [(0, AVal.int .u32 ((stepN d (crcStep c) : Nat) : Int))], H)
   rw [e5]
   exact h2
  ·have c1 : ¬ ((c &&& 1 : Nat) : Int) = 1 := by omega
   have e5 : crcStep c = c >>> 1 := by unfold crcStep; rw [show c &&& 1 = 0 by omega, Nat.mul_zero, Nat.xor_zero]
   rw [e5] at h2
   refine loop_step l_ref1_Next_0.eq_1 k_ref1_Next_0.eq_1 (by kernel_rfl) ?_
   simp only [go_sem, h1, e1, e2, c1, e6, simprocAttr]
   show _ = some (Out.exit 0, [(0, AVal.int .u32 ((stepN d (crcStep c) : Nat) : Int))], H)
   rw [e5]
   exact h2
theorem ref_next_spec0 (c b : Nat) (H : Heap) (hc : c < 4294967296) (hb : b < 256) : W0 n_ref1_Next [.int .u32 (c : Nat), .int .u8 (b : Nat)] H = some (.int .u32 (crcNext c b : Nat), H) := by
 have h := ref_next_loop 8 0 (c ^^^ b) H rfl (xor_lt32 hc (by omega))
 have e1 := wrap32 b (by omega)
 have e2 := xor32 c b hc (by omega)
 simp only [Int.natCast_zero] at h
 refine W0_fn rfl rfl ?_
 simp only [go_sem, trim_same, c_ref1_Next, e1, e2, h, simprocAttr]
 rfl
theorem ref_of_loop (l : List Int) (hb : ∀ x ∈ l, 0 ≤ x ∧ x < 256) (hl : l.length ≤ 140737488355328) (H : Heap) (r : List Int) : ∀ (p : List Int) (c : Nat), l = p ++ r → c < 4294967296 →
  loopA W0 loopW (.ghost (.kill k_ref1_Crc_0) l_ref1_Crc_0) [(0, bytes l .ro), (3, .int .u32 (c : Nat)), (4, .int .i64 (p.length : Nat))] H =
   some (.exit 0, [(3, .int .u32 (((toN r).foldl crcNext c : Nat) : Int))], H) := by
 induction r with
 | nil =>
  intro p c hp hc
  have h1 : ¬ ((p.length : Int) < (l.length : Int)) := by rw [hp]; simp
  refine loop_step l_ref1_Crc_0.eq_1 k_ref1_Crc_0.eq_1 (by kernel_rfl) ?_
  simp only [go_sem, h1, List.length_map, simprocAttr]
  rfl
 | cons x r ih =>
  intro p c hp hc
  have hx := hb x (by rw [hp]; simp)
  have h1 : ((p.length : Int) < (l.length : Int)) := by rw [hp]; simp; omega
  have hlen : p.length < l.length := by omega
  obtain ⟨n, rfl⟩ : ∃ n : Nat, x = n := ⟨x.toNat, by omega⟩
  have e1 : (ints .u8 l)[p.length]? = some (.int .u8 (n : Int)) := by rw [hp]; simp
  have e6 : IntKind.i64.wrap ((p.length : Int) + 1) = ((p.length + 1 : Nat) : Int) := by rw [wrap_id (by unfold I64; omega)]; omega
  have h2 := ih (p ++ [(n : Int)]) (crcNext c n) (by rw [hp]; simp) (crcNext_lt hc (by omega))
  have e2 := ref_next_spec0 c n H hc (by omega)
  have e0 : (0 : Int) ≤ (p.length : Int) := by omega
  have e7 : ((p.length : Nat) : Int).toNat = p.length := by omega
  simp only [List.length_append, List.length_cons, List.length_nil, Nat.zero_add] at h2
  refine loop_step l_ref1_Crc_0.eq_1 k_ref1_Crc_0.eq_1 (by kernel_rfl) ?_
  simp only [go_sem, h1, List.length_map, e0, e7, e1, e2, e6, simprocAttr]
  exact h2
theorem ref_crc_spec0 (l : List Int) (H : Heap) (hb : ∀ x ∈ l, 0 ≤ x ∧ x < 256) (hl : l.length ≤ 140737488355328) : W0 n_ref1_Crc [bytes l .ro] H = some (.int .u32 (crcN (toN l) : Nat), H) := by
 have h := ref_of_loop l hb hl H l [] 4294967295 rfl (by decide)
 have hlt : (toN l).foldl crcNext 4294967295 < 4294967296 := crcFold_lt _ _ (by decide) (fun x hx => by
  obtain ⟨y, hy, rfl⟩ := List.mem_map.1 hx
  have := hb y hy
  omega)
 have e1 : bits .xor .u32 (if IntKind.u32.signed = true then -1 else IntKind.u32.max) (((toN l).foldl crcNext 4294967295 : Nat) : Int) = (crcN (toN l) : Nat) := by
  have := xor32 4294967295 ((toN l).foldl crcNext 4294967295) (by decide) hlt
  rw [Nat.xor_comm] at this
  exact this
 simp only [List.length_nil, Int.natCast_zero, Int.cast_ofNat_Int] at h
 refine W0_fn rfl rfl ?_
 simp only [go_sem, trim_same, c_ref1_Crc, h, e1, simprocAttr]
theorem refCrc_le {args H r} (h : crcSem args H = some r) : W0 n_ref1_Crc args H = some r := by
 unfold crcSem at h
 split at h
 ·rename_i xs
  obtain ⟨h1, h2⟩ := ite_some h
  obtain ⟨l, h3, rfl⟩ := Option.map_eq_some_iff.1 h2
  obtain ⟨zs, rfl, h4, rfl⟩ := nats8_inv h3
  exact ref_crc_spec0 zs _ h4 (by simpa [maxBytes] using h1)
 ·cases h
theorem ref_crc_spec (l : List Int) (H : Heap) (hb : ∀ x ∈ l, 0 ≤ x ∧ x < 256) (hl : l.length ≤ 140737488355328) : W n_ref1_Crc [bytes l .ro] H = some (.int .u32 (crcN (toN l) : Nat), H) := by
 refine W_ref1_Crc ?_
 show (if (ints .u8 l).length ≤ maxBytes then _ else none) = _
 rw [if_pos (by simpa [maxBytes] using hl), nats8_ints l hb]; rfl
theorem ref_sealed_spec (l : List Int) (H : Heap) (hb : ∀ x ∈ l, 0 ≤ x ∧ x < 256) (hl : l.length + 4 ≤ 140737488355328) :
  W n_ref1_Sealed [bytes l .ro] H = some (bytes (le4 (crcN (toN l) : Nat) ++ l) .own, H) := by
 have h1 := ref_crc_spec l H hb (by omega)
 obtain ⟨c, hc⟩ : ∃ c : Int, (crcN (toN l) : Int) = c := ⟨_, rfl⟩
 rw [hc] at h1 ⊢
 have e1 : IntKind.u8.wrap c = c % 256 := Num.wu8 _
 have e2 : IntKind.u8.wrap (shr .u32 c 8) = c / 256 % 256 := Num.wu8 _
 have e3 : IntKind.u8.wrap (shr .u32 c 16) = c / 65536 % 256 := Num.wu8 _
 have e4 : IntKind.u8.wrap (shr .u32 c 24) = c / 16777216 % 256 := Num.wu8 _
 have b1 : (4 + l.length) * 1 ≤ maxBytes := by simp only [maxBytes]; omega
 refine W_fn0 rfl rfl ?_
 simp only [go_sem, trim_same, c_ref1_Sealed, h1, e1, e2, e3, e4, fs_int, apF, List.length_map, List.length_cons, List.length_nil, Nat.zero_add, b1, simprocAttr]
 simp [le4]
theorem ref_head_spec (b : Ba) (H : Heap) : W n_ref6_head [b.V] H = some (.bool (namedB b), H) := by
 refine W_fn rfl rfl ?_
 unfold Ba.V Ba.cs namedB
 by_cases c1 : b.prod ≥ 0
 ·by_cases c2 : b.epoch ≥ 0
  ·by_cases c3 : b.epoch ≤ 32767 <;> simp only [go_sem, c_ref6_head, c1, c2, c3, simprocAttr]
  ·simp only [go_sem, c_ref6_head, c1, c2, simprocAttr]
 ·simp only [go_sem, c_ref6_head, c1, simprocAttr]
theorem ref_count_spec (b : Ba) (H : Heap) : W n_ref6_Count [b.V] H = some (.int .i64 (if b.mark = 0 then (b.recs.length : Int) else 1), H) := by
 refine W_fn rfl rfl ?_
 unfold Ba.V Ba.cs
 by_cases c : b.mark = 0
 ·rw [if_pos c]; simp only [go_sem, c_ref6_Count, c, List.length_map, simprocAttr]
 ·rw [if_neg c]; simp only [go_sem, c_ref6_Count, c, simprocAttr]
theorem plain_loop (L : List Rc) (hn : L.length ≤ 16) (H : Heap) (r : List Rc) : ∀ (p : List Rc) (N : Heap), L = p ++ r →
  ∃ M, loopA W loopW (.ghost (.kill k_ref6_plain_0) l_ref6_plain_0) [(88, .list 2 (L.map rcV) .ro), (89, .int .i64 (L.length : Nat)), (90, .int .i64 (p.length : Nat))] (hx H N) =
   if r.any bigR then some (.ret, [(2, .int .i64 13)], hx H M) else some (.exit 0, [], hx H M) := by
 induction r with
 | nil =>
  intro p N hp
  rw [List.append_nil] at hp
  subst hp
  refine ⟨N, ?_⟩
  have h1 : ¬ ((L.length : Int) < (L.length : Int)) := by omega
  rw [if_neg (by simp)]
  refine loop_step l_ref6_plain_0.eq_1 k_ref6_plain_0.eq_1 (by kernel_rfl) ?_
  simp only [go_sem, h1, simprocAttr]
 | cons x r ih =>
  intro p N hp
  have hlen : p.length < L.length := by rw [hp]; simp
  have h1 : ((p.length : Int) < (L.length : Int)) := by omega
  have e0 : (0 : Int) ≤ (p.length : Int) := by omega
  have e7 : ((p.length : Nat) : Int).toNat = p.length := by omega
  have e1 : (L.map rcV)[p.length]? = some (.agg [.str x.1, .str x.2]) := by rw [hp]; simp [rcV]
  have e6 : IntKind.i64.wrap ((p.length : Int) + 1) = ((p.length + 1 : Nat) : Int) := by rw [wrap_id (by unfold I64; omega)]; omega
  obtain ⟨M, h2⟩ := ih (p ++ [x]) (N ++ [.cells [.str x.1, .str x.2]]) (by rw [hp]; simp)
  simp only [List.length_append, List.length_cons, List.length_nil, Nat.zero_add] at h2
  by_cases c1 : (x.1.length : Int) > 64
  ·refine ⟨N ++ [.cells [.str x.1, .str x.2]], ?_⟩
   rw [if_pos (by simp [bigR]; omega)]
   refine loop_step l_ref6_plain_0.eq_1 k_ref6_plain_0.eq_1 (by kernel_rfl) ?_
   simp only [go_sem, h1, e0, e7, e1, c1, simprocAttr]
  ·by_cases c2 : (x.2.length : Int) > 64
   ·refine ⟨N ++ [.cells [.str x.1, .str x.2]], ?_⟩
    rw [if_pos (by simp [bigR]; omega)]
    refine loop_step l_ref6_plain_0.eq_1 k_ref6_plain_0.eq_1 (by kernel_rfl) ?_
    simp only [go_sem, h1, e0, e7, e1, c1, c2, simprocAttr]
   ·refine ⟨M, ?_⟩
    have hb : bigR x = false := by simp [bigR]; omega
    rw [List.any_cons, hb, Bool.false_or]
    obtain ⟨R, hR⟩ : ∃ R, (if r.any bigR = true then some (Out.ret, ([(2, .int .i64 13)] : Env), hx H M) else some (.exit 0, [], hx H M)) = some R := by split <;> exact ⟨_, rfl⟩
    rw [hR] at h2 ⊢
    refine loop_step l_ref6_plain_0.eq_1 k_ref6_plain_0.eq_1 (by kernel_rfl) ?_
    simp only [go_sem, h1, e0, e7, e1, c1, c2, e6, simprocAttr]
    exact h2
set_option maxHeartbeats 3200000 in
theorem plain_data (b : Ba) (H : Heap) (c1 : ¬ b.base < 0) (c2 : ¬ b.base > 1099511627776) (c3 : b.mark = 0) : W n_ref6_plain [b.V] H = some (.int .i64 (dataE b), H) := by
 have t1 := fun H => ref_head_spec b H
 have t2 := fun H => ref_seq_spec b.seq H
 unfold Ba.V Ba.cs at t1 ⊢
 have tail : (!noneB b && !(namedB b && seqR b.seq)) = false → dataE b = if b.recs.length = 0 then 12 else if 16 < b.recs.length then 13 else if b.recs.any bigR = true then 13 else 0 := by
  intro h; unfold dataE; rw [if_neg (by rw [h]; decide)]
 have head : (!noneB b && !(namedB b && seqR b.seq)) = true → dataE b = 12 := by
  intro h; unfold dataE; rw [if_pos h]
 have g0 : ((([] : List Rc).length : Nat) : Int) = 0 := rfl
 by_cases n1 : b.prod = -1
 ·by_cases n2 : b.epoch = -1
  ·by_cases n3 : b.seq = -1
   ·cases ht : b.txn
    ·have hz : (!noneB b && !(namedB b && seqR b.seq)) = false := by unfold noneB; rw [ht]; simp [n1, n2, n3]
     rw [ht] at t1
     by_cases d1 : (b.recs.length : Int) = 0
     ·rw [tail hz, if_pos (by omega)]
      refine W_fn rfl rfl ?_
      simp only [go_sem, c_ref6_plain, List.length_map, c1, c2, eq_true c3, eq_true n1, eq_true n2, eq_true n3, ht, d1, simprocAttr]
     ·by_cases d2 : (b.recs.length : Int) > 16
      ·rw [tail hz, if_neg (by omega), if_pos (by omega)]
       refine W_fn rfl rfl ?_
       simp only [go_sem, c_ref6_plain, List.length_map, c1, c2, eq_true c3, eq_true n1, eq_true n2, eq_true n3, ht, d1, d2, simprocAttr]
      ·rw [tail hz, if_neg (by omega), if_neg (by omega)]
       obtain ⟨M, t3⟩ := plain_loop b.recs (by omega) H b.recs [] [.cells b.cs] rfl
       rw [g0] at t3
       unfold Ba.cs at t3
       rw [ht] at t3
       cases ha : b.recs.any bigR
       ·rw [ha] at t3
        refine W_fn rfl rfl ?_
        simp only [go_sem, c_ref6_plain, List.length_map, c1, c2, eq_true c3, eq_true n1, eq_true n2, eq_true n3, ht, d1, d2, t3, simprocAttr]
       ·rw [ha] at t3
        refine W_fn rfl rfl ?_
        simp only [go_sem, c_ref6_plain, List.length_map, c1, c2, eq_true c3, eq_true n1, eq_true n2, eq_true n3, ht, d1, d2, t3, simprocAttr]
    ·have hno : noneB b = false := by unfold noneB; rw [ht]; simp
     rw [ht] at t1
     cases hna : namedB b
     ·have hz : (!noneB b && !(namedB b && seqR b.seq)) = true := by rw [hno, hna]; rfl
      rw [hna] at t1
      rw [head hz]
      refine W_fn rfl rfl ?_
      simp only [go_sem, c_ref6_plain, c1, c2, eq_true c3, eq_true n1, eq_true n2, eq_true n3, ht, t1, simprocAttr]
     ·rw [hna] at t1
      cases hsq : seqR b.seq
      ·have hz : (!noneB b && !(namedB b && seqR b.seq)) = true := by rw [hno, hna, hsq]; rfl
       rw [hsq] at t2
       rw [head hz]
       refine W_fn rfl rfl ?_
       simp only [go_sem, c_ref6_plain, c1, c2, eq_true c3, eq_true n1, eq_true n2, eq_true n3, ht, t1, t2, simprocAttr]
      ·have hz : (!noneB b && !(namedB b && seqR b.seq)) = false := by rw [hno, hna, hsq]; rfl
       rw [hsq] at t2
       by_cases d1 : (b.recs.length : Int) = 0
       ·rw [tail hz, if_pos (by omega)]
        refine W_fn rfl rfl ?_
        simp only [go_sem, c_ref6_plain, List.length_map, c1, c2, eq_true c3, eq_true n1, eq_true n2, eq_true n3, ht, t1, t2, d1, simprocAttr]
       ·by_cases d2 : (b.recs.length : Int) > 16
        ·rw [tail hz, if_neg (by omega), if_pos (by omega)]
         refine W_fn rfl rfl ?_
         simp only [go_sem, c_ref6_plain, List.length_map, c1, c2, eq_true c3, eq_true n1, eq_true n2, eq_true n3, ht, t1, t2, d1, d2, simprocAttr]
        ·rw [tail hz, if_neg (by omega), if_neg (by omega)]
         obtain ⟨M, t3⟩ := plain_loop b.recs (by omega) H b.recs [] [.cells b.cs] rfl
         rw [g0] at t3
         unfold Ba.cs at t3
         rw [ht] at t3
         cases ha : b.recs.any bigR
         ·rw [ha] at t3
          refine W_fn rfl rfl ?_
          simp only [go_sem, c_ref6_plain, List.length_map, c1, c2, eq_true c3, eq_true n1, eq_true n2, eq_true n3, ht, t1, t2, d1, d2, t3, simprocAttr]
         ·rw [ha] at t3
          refine W_fn rfl rfl ?_
          simp only [go_sem, c_ref6_plain, List.length_map, c1, c2, eq_true c3, eq_true n1, eq_true n2, eq_true n3, ht, t1, t2, d1, d2, t3, simprocAttr]
   ·have hno : noneB b = false := by unfold noneB; simp [n3]
    cases hna : namedB b
    ·have hz : (!noneB b && !(namedB b && seqR b.seq)) = true := by rw [hno, hna]; rfl
     rw [hna] at t1
     rw [head hz]
     refine W_fn rfl rfl ?_
     simp only [go_sem, c_ref6_plain, c1, c2, eq_true c3, eq_true n1, eq_true n2, n3, t1, simprocAttr]
    ·rw [hna] at t1
     cases hsq : seqR b.seq
     ·have hz : (!noneB b && !(namedB b && seqR b.seq)) = true := by rw [hno, hna, hsq]; rfl
      rw [hsq] at t2
      rw [head hz]
      refine W_fn rfl rfl ?_
      simp only [go_sem, c_ref6_plain, c1, c2, eq_true c3, eq_true n1, eq_true n2, n3, t1, t2, simprocAttr]
     ·have hz : (!noneB b && !(namedB b && seqR b.seq)) = false := by rw [hno, hna, hsq]; rfl
      rw [hsq] at t2
      by_cases d1 : (b.recs.length : Int) = 0
      ·rw [tail hz, if_pos (by omega)]
       refine W_fn rfl rfl ?_
       simp only [go_sem, c_ref6_plain, List.length_map, c1, c2, eq_true c3, eq_true n1, eq_true n2, n3, t1, t2, d1, simprocAttr]
      ·by_cases d2 : (b.recs.length : Int) > 16
       ·rw [tail hz, if_neg (by omega), if_pos (by omega)]
        refine W_fn rfl rfl ?_
        simp only [go_sem, c_ref6_plain, List.length_map, c1, c2, eq_true c3, eq_true n1, eq_true n2, n3, t1, t2, d1, d2, simprocAttr]
       ·rw [tail hz, if_neg (by omega), if_neg (by omega)]
        obtain ⟨M, t3⟩ := plain_loop b.recs (by omega) H b.recs [] [.cells b.cs] rfl
        rw [g0] at t3
        unfold Ba.cs at t3
        cases ha : b.recs.any bigR
        ·rw [ha] at t3
         refine W_fn rfl rfl ?_
         simp only [go_sem, c_ref6_plain, List.length_map, c1, c2, eq_true c3, eq_true n1, eq_true n2, n3, t1, t2, d1, d2, t3, simprocAttr]
        ·rw [ha] at t3
         refine W_fn rfl rfl ?_
         simp only [go_sem, c_ref6_plain, List.length_map, c1, c2, eq_true c3, eq_true n1, eq_true n2, n3, t1, t2, d1, d2, t3, simprocAttr]
  ·have hno : noneB b = false := by unfold noneB; simp [n2]
   cases hna : namedB b
   ·have hz : (!noneB b && !(namedB b && seqR b.seq)) = true := by rw [hno, hna]; rfl
    rw [hna] at t1
    rw [head hz]
    refine W_fn rfl rfl ?_
    simp only [go_sem, c_ref6_plain, c1, c2, eq_true c3, eq_true n1, n2, t1, simprocAttr]
   ·rw [hna] at t1
    cases hsq : seqR b.seq
    ·have hz : (!noneB b && !(namedB b && seqR b.seq)) = true := by rw [hno, hna, hsq]; rfl
     rw [hsq] at t2
     rw [head hz]
     refine W_fn rfl rfl ?_
     simp only [go_sem, c_ref6_plain, c1, c2, eq_true c3, eq_true n1, n2, t1, t2, simprocAttr]
    ·have hz : (!noneB b && !(namedB b && seqR b.seq)) = false := by rw [hno, hna, hsq]; rfl
     rw [hsq] at t2
     by_cases d1 : (b.recs.length : Int) = 0
     ·rw [tail hz, if_pos (by omega)]
      refine W_fn rfl rfl ?_
      simp only [go_sem, c_ref6_plain, List.length_map, c1, c2, eq_true c3, eq_true n1, n2, t1, t2, d1, simprocAttr]
     ·by_cases d2 : (b.recs.length : Int) > 16
      ·rw [tail hz, if_neg (by omega), if_pos (by omega)]
       refine W_fn rfl rfl ?_
       simp only [go_sem, c_ref6_plain, List.length_map, c1, c2, eq_true c3, eq_true n1, n2, t1, t2, d1, d2, simprocAttr]
      ·rw [tail hz, if_neg (by omega), if_neg (by omega)]
       obtain ⟨M, t3⟩ := plain_loop b.recs (by omega) H b.recs [] [.cells b.cs] rfl
       rw [g0] at t3
       unfold Ba.cs at t3
       cases ha : b.recs.any bigR
       ·rw [ha] at t3
        refine W_fn rfl rfl ?_
        simp only [go_sem, c_ref6_plain, List.length_map, c1, c2, eq_true c3, eq_true n1, n2, t1, t2, d1, d2, t3, simprocAttr]
       ·rw [ha] at t3
        refine W_fn rfl rfl ?_
        simp only [go_sem, c_ref6_plain, List.length_map, c1, c2, eq_true c3, eq_true n1, n2, t1, t2, d1, d2, t3, simprocAttr]
 ·have hno : noneB b = false := by unfold noneB; simp [n1]
  cases hna : namedB b
  ·have hz : (!noneB b && !(namedB b && seqR b.seq)) = true := by rw [hno, hna]; rfl
   rw [hna] at t1
   rw [head hz]
   refine W_fn rfl rfl ?_
   simp only [go_sem, c_ref6_plain, c1, c2, eq_true c3, n1, t1, simprocAttr]
  ·rw [hna] at t1
   cases hsq : seqR b.seq
   ·have hz : (!noneB b && !(namedB b && seqR b.seq)) = true := by rw [hno, hna, hsq]; rfl
    rw [hsq] at t2
    rw [head hz]
    refine W_fn rfl rfl ?_
    simp only [go_sem, c_ref6_plain, c1, c2, eq_true c3, n1, t1, t2, simprocAttr]
   ·have hz : (!noneB b && !(namedB b && seqR b.seq)) = false := by rw [hno, hna, hsq]; rfl
    rw [hsq] at t2
    by_cases d1 : (b.recs.length : Int) = 0
    ·rw [tail hz, if_pos (by omega)]
     refine W_fn rfl rfl ?_
     simp only [go_sem, c_ref6_plain, List.length_map, c1, c2, eq_true c3, n1, t1, t2, d1, simprocAttr]
    ·by_cases d2 : (b.recs.length : Int) > 16
     ·rw [tail hz, if_neg (by omega), if_pos (by omega)]
      refine W_fn rfl rfl ?_
      simp only [go_sem, c_ref6_plain, List.length_map, c1, c2, eq_true c3, n1, t1, t2, d1, d2, simprocAttr]
     ·rw [tail hz, if_neg (by omega), if_neg (by omega)]
      obtain ⟨M, t3⟩ := plain_loop b.recs (by omega) H b.recs [] [.cells b.cs] rfl
      rw [g0] at t3
      unfold Ba.cs at t3
      cases ha : b.recs.any bigR
      ·rw [ha] at t3
       refine W_fn rfl rfl ?_
       simp only [go_sem, c_ref6_plain, List.length_map, c1, c2, eq_true c3, n1, t1, t2, d1, d2, t3, simprocAttr]
      ·rw [ha] at t3
       refine W_fn rfl rfl ?_
       simp only [go_sem, c_ref6_plain, List.length_map, c1, c2, eq_true c3, n1, t1, t2, d1, d2, t3, simprocAttr]
theorem plain_spec (b : Ba) (H : Heap) : W n_ref6_plain [b.V] H = some (.int .i64 (rightE b), H) := by
 have tn := fun H => ref_head_spec b H
 have td := plain_data b H
 by_cases c1 : b.base < 0
 ·have hr : rightE b = 18 := by unfold rightE; rw [if_pos (.inl c1)]
  rw [hr]
  unfold Ba.V Ba.cs
  refine W_fn rfl rfl ?_
  simp only [go_sem, c_ref6_plain, c1, simprocAttr]
 by_cases c2 : b.base > 1099511627776
 ·have hr : rightE b = 18 := by unfold rightE; rw [if_pos (.inr c2)]
  rw [hr]
  unfold Ba.V Ba.cs
  refine W_fn rfl rfl ?_
  simp only [go_sem, c_ref6_plain, c1, c2, simprocAttr]
 by_cases c3 : b.mark = 0
 ·have hr : rightE b = dataE b := by unfold rightE; rw [if_neg (by omega), if_pos c3]
  rw [hr]
  exact td c1 c2 c3
 ·have hr : rightE b = if markE b = true then 12 else 0 := by unfold rightE; rw [if_neg (by omega), if_neg c3]
  rw [hr]
  unfold Ba.V Ba.cs at tn
  have bad : markE b = true → (W n_ref6_plain [b.V] H = some (.int .i64 12, H)) → W n_ref6_plain [b.V] H = some (.int .i64 (if markE b = true then 12 else 0), H) := fun h1 h2 => by rw [if_pos h1]; exact h2
  have good : markE b = false → (W n_ref6_plain [b.V] H = some (.int .i64 0, H)) → W n_ref6_plain [b.V] H = some (.int .i64 (if markE b = true then 12 else 0), H) := fun h1 h2 => by rw [if_neg (by rw [h1]; decide)]; exact h2
  have rest : (b.mark = 1 ∨ b.mark = 2) → W n_ref6_plain [b.V] H = some (.int .i64 (if markE b = true then 12 else 0), H) := by
   intro hm
   have m12 : (decide (b.mark ≠ 1) && decide (b.mark ≠ 2)) = false := by rcases hm with hm | hm <;> rw [hm] <;> rfl
   have em : markE b = (!namedB b || (decide (b.seq ≠ -1) || (!b.txn || decide (0 < b.recs.length)))) := by unfold markE; rw [m12, Bool.false_or]
   cases hn : namedB b with
   | false =>
    rw [hn] at tn
    refine bad (by rw [em, hn]; rfl) (W_fn rfl rfl ?_)
    unfold Ba.V Ba.cs
    rcases hm with hm | hm
    ·simp only [go_sem, c_ref6_plain, c1, c2, c3, eq_true hm, tn, simprocAttr]
    ·have hm1 : ¬ b.mark = 1 := by omega
     simp only [go_sem, c_ref6_plain, c1, c2, c3, hm1, eq_true hm, tn, simprocAttr]
   | true =>
    rw [hn] at tn
    by_cases c6 : b.seq = -1
    ·cases ht : b.txn with
     | false =>
      rw [ht] at tn
      refine bad (by rw [em, hn, ht]; simp) (W_fn rfl rfl ?_)
      unfold Ba.V Ba.cs
      rcases hm with hm | hm
      ·simp only [go_sem, c_ref6_plain, c1, c2, c3, eq_true hm, tn, eq_true c6, ht, simprocAttr]
      ·have hm1 : ¬ b.mark = 1 := by omega
       simp only [go_sem, c_ref6_plain, c1, c2, c3, hm1, eq_true hm, tn, eq_true c6, ht, simprocAttr]
     | true =>
      rw [ht] at tn
      by_cases c7 : (b.recs.length : Int) > 0
      ·refine bad (by rw [em, hn, ht]; simp; right; omega) (W_fn rfl rfl ?_)
       unfold Ba.V Ba.cs
       rcases hm with hm | hm
       ·simp only [go_sem, c_ref6_plain, c1, c2, c3, eq_true hm, tn, eq_true c6, ht, c7, List.length_map, simprocAttr]
       ·have hm1 : ¬ b.mark = 1 := by omega
        simp only [go_sem, c_ref6_plain, c1, c2, c3, hm1, eq_true hm, tn, eq_true c6, ht, c7, List.length_map, simprocAttr]
      ·have h0 : b.recs = [] := List.length_eq_zero_iff.1 (by omega)
       refine good (by rw [em, hn, ht]; simp [c6, h0]) (W_fn rfl rfl ?_)
       unfold Ba.V Ba.cs
       rcases hm with hm | hm
       ·simp only [go_sem, c_ref6_plain, c1, c2, c3, eq_true hm, tn, eq_true c6, ht, c7, List.length_map, simprocAttr]
       ·have hm1 : ¬ b.mark = 1 := by omega
        simp only [go_sem, c_ref6_plain, c1, c2, c3, hm1, eq_true hm, tn, eq_true c6, ht, c7, List.length_map, simprocAttr]
    ·refine bad (by rw [em, hn]; simp [c6]) (W_fn rfl rfl ?_)
     unfold Ba.V Ba.cs
     rcases hm with hm | hm
     ·simp only [go_sem, c_ref6_plain, c1, c2, c3, eq_true hm, tn, c6, simprocAttr]
     ·have hm1 : ¬ b.mark = 1 := by omega
      simp only [go_sem, c_ref6_plain, c1, c2, c3, hm1, eq_true hm, tn, c6, simprocAttr]
  by_cases m1 : b.mark = 1
  ·exact rest (.inl m1)
  by_cases m2 : b.mark = 2
  ·exact rest (.inr m2)
  refine bad (by unfold markE; simp [m1, m2]) (W_fn rfl rfl ?_)
  unfold Ba.V Ba.cs
  simp only [go_sem, c_ref6_plain, c1, c2, c3, m1, m2, simprocAttr]
theorem write_loop (L : List Rc) (hL : ∀ r ∈ L, r.1.length ≤ 64 ∧ r.2.length ≤ 64) (hn : L.length ≤ 16) (B : Box) (H : Heap) (r : List Rc) : ∀ (p : List Rc) (l : List Int) (N : Heap), L = p ++ r → l.length + r.length * 148 ≤ 100000 →
  ∃ M, loopA W loopW (.ghost (.kill k_ref6_write_0) l_ref6_write_0) [(1, .ptr (pt H 0) 0), (4, bytes l .own), (43, .list 2 (L.map rcV) .ro), (44, .int .i64 (L.length : Nat)), (45, .int .i64 (p.length : Nat))] (hx H (B :: N)) =
   some (.exit 0, [(1, .ptr (pt H 0) 0), (4, bytes (l ++ rcsB r) .own)], hx H (B :: M)) := by
 induction r with
 | nil =>
  intro p l N hp hk
  rw [List.append_nil] at hp
  subst hp
  refine ⟨N, ?_⟩
  have h1 : ¬ ((L.length : Int) < (L.length : Int)) := by omega
  refine loop_step l_ref6_write_0.eq_1 k_ref6_write_0.eq_1 (by kernel_rfl) ?_
  simp only [go_sem, h1, rcsB, List.flatMap_nil, List.append_nil, simprocAttr]
 | cons x r ih =>
  intro p l N hp hk
  have hlen : p.length < L.length := by rw [hp]; simp
  have hx2 := hL x (by rw [hp]; simp)
  have h1 : ((p.length : Int) < (L.length : Int)) := by omega
  have e0 : (0 : Int) ≤ (p.length : Int) := by omega
  have e7 : ((p.length : Nat) : Int).toNat = p.length := by omega
  have e1 : (L.map rcV)[p.length]? = some (.agg [.str x.1, .str x.2]) := by rw [hp]; simp [rcV]
  have e6 : IntKind.i64.wrap ((p.length : Int) + 1) = ((p.length + 1 : Nat) : Int) := by rw [wrap_id (by unfold I64; omega)]; omega
  have hk' : l.length + (r.length * 148 + 148) ≤ 100000 := by
   have : (x :: r).length * 148 = r.length * 148 + 148 := by simp [Nat.add_mul]
   omega
  have l1 := txt_len x.1
  have l2 := txt_len x.2
  have t1 := fun H => ref_text_spec l x.1 H (by omega)
  have t2 := fun H => ref_text_spec (l ++ txt x.1) x.2 H (by simp; omega)
  have t1' : ∀ H, W n_ref1_Text [bytes l .ro, .str x.1] H = some (bytes (l ++ txt x.1) .own, H) := fun H => by rw [t1, List.append_assoc]; rfl
  have t2' : ∀ H, W n_ref1_Text [bytes (l ++ txt x.1) .ro, .str x.2] H = some (bytes (l ++ rcB x) .own, H) := fun H => by rw [t2]; simp [rcB, txt]
  obtain ⟨M, h2⟩ := ih (p ++ [x]) (l ++ rcB x) (N ++ [.cells [.str x.1, .str x.2]]) (by rw [hp]; simp) (by simp [rcB]; omega)
  refine ⟨M, ?_⟩
  simp only [List.length_append, List.length_cons, List.length_nil, Nat.zero_add] at h2
  have e9 : l ++ rcsB (x :: r) = l ++ rcB x ++ rcsB r := by simp [rcsB]
  simp only [List.append_assoc] at h2
  rw [e9]
  simp only [List.append_assoc]
  refine loop_step l_ref6_write_0.eq_1 k_ref6_write_0.eq_1 (by kernel_rfl) ?_
  simp only [go_sem, h1, e0, e7, e1, t1', t2', e6, simprocAttr]
  exact h2
theorem write_spec (b : Ba) (h : BOK b) (hr : SmallR b.recs) (H : Heap) : W n_ref6_write [b.V] H = some (bytes (baBytes b) .uniq, H) := by
 have hf := flagI_range b
 have hlen := rcsB_len hr.2
 have hn := hr.1
 obtain ⟨F, hF⟩ : ∃ F, flagI b = F := ⟨_, rfl⟩
 obtain ⟨l1, hl1⟩ : ∃ l1, [F] ++ bes b.prod 0 = l1 := ⟨_, rfl⟩
 obtain ⟨l2, hl2⟩ : ∃ l2, l1 ++ [b.epoch / 256 % 256, b.epoch % 256] = l2 := ⟨_, rfl⟩
 obtain ⟨l3, hl3⟩ : ∃ l3, l2 ++ bes b.seq 0 = l3 := ⟨_, rfl⟩
 obtain ⟨l4, hl4⟩ : ∃ l4, l3 ++ [(b.recs.length : Int) % 256] = l4 := ⟨_, rfl⟩
 have hh : l4 = headI b := by rw [← hl4, ← hl3, ← hl2, ← hl1, ← hF]; rfl
 have k1 : l1.length = 9 := by rw [← hl1]; simp [bes_len]
 have k2 : l2.length = 11 := by rw [← hl2]; simp [k1]
 have k3 : l3.length = 19 := by rw [← hl3]; simp [k2, bes_len]
 have t1 : ∀ H, W n_ref1_Long [.list 1 [.int .u8 F] .ro, .int .i64 b.prod] H = some (bytes l1 .uniq, H) := fun H => by rw [← hl1]; exact ref_long_spec [F] b.prod H h.prod (by simp)
 have t2 : ∀ H, W n_ref1_Long [bytes l2 .ro, .int .i64 b.seq] H = some (bytes l3 .uniq, H) := fun H => by rw [← hl3]; exact ref_long_spec l2 b.seq H h.seq (by rw [k2]; decide)
 obtain ⟨M, t3⟩ := write_loop b.recs hr.2 hr.1 (.cells b.cs) H b.recs [] l4 [] rfl (by rw [hh, headI_len]; omega)
 rw [show l4 ++ rcsB b.recs = inner b by rw [hh]; rfl] at t3
 obtain ⟨S, hS⟩ : ∃ S, sealedI b = S := ⟨_, rfl⟩
 have t4 : ∀ H, W n_ref1_Sealed [bytes (inner b) .ro] H = some (bytes S .own, H) := fun H => by rw [← hS]; exact ref_sealed_spec (inner b) H (inner_bytes hr) (by have := inner_len hr; omega)
 have kS : S.length ≤ 2392 := by rw [← hS, sealedI, List.length_append]; have := inner_len hr; simp [le4]; omega
 obtain ⟨X, hX⟩ : ∃ X, bes b.base 0 = X := ⟨_, rfl⟩
 have kX : X.length = 8 := by rw [← hX]; exact bes_len _
 have t5 : ∀ H, W n_ref1_Long [.list 1 [] .ro, .int .i64 b.base] H = some (bytes X .uniq, H) := fun H => by rw [← hX]; exact ref_long_spec [] b.base H h.base (by simp)
 obtain ⟨Y, hY⟩ : ∃ Y, X ++ [(S.length : Int) / 16777216 % 256, (S.length : Int) / 65536 % 256, (S.length : Int) / 256 % 256, (S.length : Int) % 256] = Y := ⟨_, rfl⟩
 have kY : Y.length = 12 := by rw [← hY]; simp [kX]
 have e1 : IntKind.u8.wrap (shr .i64 b.epoch 8) = b.epoch / 256 % 256 := Num.wu8 _
 have e2 : IntKind.u8.wrap b.epoch = b.epoch % 256 := Num.wu8 _
 have e3 : IntKind.u8.wrap (b.recs.length : Int) = (b.recs.length : Int) % 256 := Num.wu8 _
 have a2 : ints .u8 l1 ++ [.int .u8 (b.epoch / 256 % 256), .int .u8 (b.epoch % 256)] = ints .u8 l2 := by rw [← hl2]; simp
 have a4 : ints .u8 l3 ++ [.int .u8 ((b.recs.length : Int) % 256)] = ints .u8 l4 := by rw [← hl4]; simp
 have a5 : ints .u8 X ++ [.int .u8 ((S.length : Int) / 16777216 % 256), .int .u8 ((S.length : Int) / 65536 % 256), .int .u8 ((S.length : Int) / 256 % 256), .int .u8 ((S.length : Int) % 256)] = ints .u8 Y := by rw [← hY]; simp
 have a6 : ints .u8 Y ++ ints .u8 S = ints .u8 (baBytes b) := by rw [← List.map_append, ← hY, ← hX]; simp [baBytes, be4, hS]
 have b2 : (l1.length + 2) * 1 ≤ maxBytes := by rw [k1]; decide
 have b4 : (l3.length + 1) * 1 ≤ maxBytes := by rw [k3]; decide
 have b5 : (X.length + 4) * 1 ≤ maxBytes := by rw [kX]; decide
 have b6 : (Y.length + S.length) * 1 ≤ maxBytes := by rw [kY]; simp only [maxBytes]; omega
 have s1 : IntKind.u8.wrap (shr .i64 (S.length : Nat) 24) = (S.length : Int) / 16777216 % 256 := Num.wu8 _
 have s2 : IntKind.u8.wrap (shr .i64 (S.length : Nat) 16) = (S.length : Int) / 65536 % 256 := Num.wu8 _
 have s3 : IntKind.u8.wrap (shr .i64 (S.length : Nat) 8) = (S.length : Int) / 256 % 256 := Num.wu8 _
 have s4 : IntKind.u8.wrap (S.length : Nat) = (S.length : Int) % 256 := Num.wu8 _
 have fz1 := fz_v 4 1 (ints .u8 l1)
 have fz4 := fz_v 4 1 (ints .u8 l4)
 have g0 : ((([] : List Rc).length : Nat) : Int) = 0 := rfl
 rw [g0] at t3
 unfold Ba.cs at t3
 refine W_fn rfl rfl ?_
 unfold Ba.V Ba.cs
 cases ht : b.txn
 ·rw [ht] at t3
  have f1 : IntKind.u8.wrap (IntKind.i64.wrap (2 * b.mark)) = F := by rw [← hF]; unfold flagI; rw [ht]; rfl
  simp only [go_sem, c_ref6_write, f1, fs_int, t1, fz1, fz4, e1, e2, e3, apO, apV, a2, a4, b2, b4, t2, t3, t4, t5, a5, b5, a6, b6, s1, s2, s3, s4, List.length_map, simprocAttr]
 ·rw [ht] at t3
  have f1 : IntKind.u8.wrap (IntKind.u8.wrap (IntKind.i64.wrap (2 * b.mark)) + 1) = F := by rw [← hF]; unfold flagI; rw [ht]; rfl
  simp only [go_sem, c_ref6_write, f1, fs_int, t1, fz1, fz4, e1, e2, e3, apO, apV, a2, a4, b2, b4, t2, t3, t4, t5, a5, b5, a6, b6, s1, s2, s3, s4, List.length_map, simprocAttr]
theorem ref_right_spec (b : Ba) (h : BOK b) (H : Heap) : W n_ref6_Right [b.V] H = some (.int .i64 (rightE b), H) := by
 have tp := fun H => plain_spec b H
 have tw := fun hs H => write_spec b h hs H
 unfold Ba.V Ba.cs at *
 by_cases c : rightE b = 0
 ·have hs := rightE_small c
  have hl := baBytes_len hs
  have tw' := tw hs
  have c5 : ¬ ((baBytes b).length : Int) > 4096 := by omega
  rw [c] at tp ⊢
  refine W_fn rfl rfl ?_
  simp only [go_sem, c_ref6_Right, tp, tw', c5, List.length_map, simprocAttr]
 ·refine W_fn rfl rfl ?_
  simp only [go_sem, c_ref6_Right, tp, c, simprocAttr]
theorem ref_Bytes_spec (b : Ba) (h : BOK b) (H : Heap) :
  W n_ref6_Bytes [b.V] H = some (.tuple [if rightE b = 0 then bytes (baBytes b) .uniq else .list 1 [] .full, .int .i64 (rightE b)], H) := by
 have tr := fun H => ref_right_spec b h H
 have tb := fun hs H => write_spec b h hs H
 unfold Ba.V Ba.cs at tr tb ⊢
 by_cases c : rightE b = 0
 ·have tb' := tb (rightE_small c)
  rw [if_pos c]
  rw [c] at tr ⊢
  refine W_fn rfl rfl ?_
  simp only [go_sem, c_ref6_Bytes, tr, tb', simprocAttr]
 ·rw [if_neg c]
  refine W_fn rfl rfl ?_
  simp only [go_sem, c_ref6_Bytes, tr, c, simprocAttr]
def sizeE (b : Ba) : Int := if rightE b = 0 then ((baBytes b).length : Int) else 0
theorem ref_size_spec (b : Ba) (h : BOK b) (H : Heap) : W n_ref6_Size [b.V] H = some (.int .i64 (sizeE b), H) := by
 have tb := fun H => ref_Bytes_spec b h H
 unfold sizeE
 unfold Ba.V Ba.cs at tb ⊢
 by_cases c : rightE b = 0
 ·rw [if_pos c]
  rw [c, if_pos rfl] at tb
  refine W_fn rfl rfl ?_
  simp only [go_sem, c_ref6_Size, tb, fz_v 3 1 (ints .u8 (baBytes b)), List.length_map, simprocAttr]
 ·rw [if_neg c]
  simp only [if_neg c] at tb
  refine W_fn rfl rfl ?_
  simp only [go_sem, c_ref6_Size, tb, fz_f 3 1 List.nil, List.length_nil, Int.natCast_zero, simprocAttr]
theorem i64_c {n : Int} (h : -9223372036854775808 ≤ n) (k : n ≤ 9223372036854775807) : I64 n := by unfold I64; omega
theorem shl7 (i : Nat) (hi : i < 10) (c : Int) : shl .u64 c ((i : Int) * 7) = (c * 128 ^ i) % 18446744073709551616 := by
 unfold shl
 rw [Num.wu64]
 have e : min ((i : Int) * 7).toNat IntKind.u64.bits = 7 * i := by show min _ 64 = _; omega
 rw [e, show (2 : Int) ^ (7 * i) = 128 ^ i by rw [Int.pow_mul]; rfl]
theorem shr7 (i : Nat) (hi : i < 10) (c : Int) : shr .u64 c ((i : Int) * 7) = c / 128 ^ i := by
 unfold shr
 have e : min ((i : Int) * 7).toNat IntKind.u64.bits = 7 * i := by show min _ 64 = _; omega
 rw [e, show (2 : Int) ^ (7 * i) = 128 ^ i by rw [Int.pow_mul]; rfl]
theorem group (i : Nat) (hi : i < 10) (c : Int) (h0 : 0 ≤ c) (h1 : c < 128) : ((c * 128 ^ i) % 18446744073709551616 / 128 ^ i = c) ↔ ¬ (i = 9 ∧ c ≥ 2) := by
 match i, hi with
 | 0, _ => have e : (128 : Int) ^ 0 = 1 := rfl; rw [e]; omega
 | 1, _ => have e : (128 : Int) ^ 1 = 128 := rfl; rw [e]; omega
 | 2, _ => have e : (128 : Int) ^ 2 = 16384 := rfl; rw [e]; omega
 | 3, _ => have e : (128 : Int) ^ 3 = 2097152 := rfl; rw [e]; omega
 | 4, _ => have e : (128 : Int) ^ 4 = 268435456 := rfl; rw [e]; omega
 | 5, _ => have e : (128 : Int) ^ 5 = 34359738368 := rfl; rw [e]; omega
 | 6, _ => have e : (128 : Int) ^ 6 = 4398046511104 := rfl; rw [e]; omega
 | 7, _ => have e : (128 : Int) ^ 7 = 562949953421312 := rfl; rw [e]; omega
 | 8, _ => have e : (128 : Int) ^ 8 = 72057594037927936 := rfl; rw [e]; omega
 | 9, _ => have e : (128 : Int) ^ 9 = 9223372036854775808 := rfl; rw [e]; omega
theorem joins (i : Nat) (hi : i < 10) (u c : Int) (u0 : 0 ≤ u) (u1 : u < 128 ^ i) (h0 : 0 ≤ c) (h1 : c < 128) :
  bits .or .u64 u ((c * 128 ^ i) % 18446744073709551616) = (u + 128 ^ i * c) % 18446744073709551616 ∧ (i < 9 → (u + 128 ^ i * c) < 18446744073709551616) ∧ u < 18446744073709551616 := by
 have hp : (2 : Int) ^ (7 * i) = 128 ^ i := by rw [Int.pow_mul]; rfl
 have key : u < 18446744073709551616 ∧ ((c * 128 ^ i) % 18446744073709551616) % 128 ^ i = 0 ∧ (u + (c * 128 ^ i) % 18446744073709551616) = (u + 128 ^ i * c) % 18446744073709551616 ∧ (i < 9 → (u + 128 ^ i * c) < 18446744073709551616) := by
  clear hp
  match i, hi with
  | 0, _ => have e : (128 : Int) ^ 0 = 1 := rfl; rw [e] at u1 ⊢; omega
  | 1, _ => have e : (128 : Int) ^ 1 = 128 := rfl; rw [e] at u1 ⊢; omega
  | 2, _ => have e : (128 : Int) ^ 2 = 16384 := rfl; rw [e] at u1 ⊢; omega
  | 3, _ => have e : (128 : Int) ^ 3 = 2097152 := rfl; rw [e] at u1 ⊢; omega
  | 4, _ => have e : (128 : Int) ^ 4 = 268435456 := rfl; rw [e] at u1 ⊢; omega
  | 5, _ => have e : (128 : Int) ^ 5 = 34359738368 := rfl; rw [e] at u1 ⊢; omega
  | 6, _ => have e : (128 : Int) ^ 6 = 4398046511104 := rfl; rw [e] at u1 ⊢; omega
  | 7, _ => have e : (128 : Int) ^ 7 = 562949953421312 := rfl; rw [e] at u1 ⊢; omega
  | 8, _ => have e : (128 : Int) ^ 8 = 72057594037927936 := rfl; rw [e] at u1 ⊢; omega
  | 9, _ => have e : (128 : Int) ^ 9 = 9223372036854775808 := rfl; rw [e] at u1 ⊢; omega
 refine ⟨?_, key.2.2.2, key.1⟩
 rw [Num.or_u64 (7 * i) u _ u0 (by rw [hp]; exact u1) (by omega) (by rw [hp]; exact key.2.1) key.1 (by omega)]
 exact key.2.2.1
def told : Option (Int × Nat) → Int × Int
 | none => (0, 0)
 | some (u, n) => (Num.zag u, (n : Int))
theorem zag_own' (u : Int) (h0 : 0 ≤ u) (h1 : u < 18446744073709551616) : bits .xor .i64 (IntKind.i64.wrap (shr .u64 u 1)) (IntKind.i64.wrap (0 - IntKind.i64.wrap (bits .and .u64 u 1))) = Num.zag u := by
 rw [← Num.zag_own u h0 h1, show shr .u64 u 1 = u / 2 from rfl]
 simp only [w64eq, Int.zero_sub]
theorem get_loop (l : List Int) (hb : Bytes l) (hl : l.length < 140737488355328) (H : Heap) (r : List Int) : ∀ (p : List Int) (u : Int), l = p ++ r → p.length ≤ 10 → 0 ≤ u → u < 128 ^ p.length →
  loopA W loopW (.ghost (.kill k_varint_Get_0) l_varint_Get_0) [(0, bytes l .ro), (4, .int .u64 u), (10, .int .i64 (mn (l.length : Int) 10)), (11, .int .i64 (p.length : Int))] H =
   some (.ret, [(2, .int .i64 (told (Vt.dec r p.length u)).1), (3, .int .i64 (told (Vt.dec r p.length u)).2)], H) ∨
  (loopA W loopW (.ghost (.kill k_varint_Get_0) l_varint_Get_0) [(0, bytes l .ro), (4, .int .u64 u), (10, .int .i64 (mn (l.length : Int) 10)), (11, .int .i64 (p.length : Int))] H = some (.exit 0, [], H) ∧
   told (Vt.dec r p.length u) = (0, 0)) := by
 induction r with
 | nil =>
  intro p u hp h10 _ _
  have hlen : l.length = p.length := by rw [hp, List.append_nil]
  right
  refine ⟨loop_step l_varint_Get_0.eq_1 k_varint_Get_0.eq_1 (by kernel_rfl) ?_, rfl⟩
  have h1 : ¬ ((p.length : Int) < mn (l.length : Int) 10) := by unfold mn; split <;> omega
  simp only [go_sem, trim_same, h1, decide_false, reduceCtorEq, ne_eq, not_false_eq_true, Bool.false_eq_true, ↓reduceIte, Nat.reduceAdd, Nat.reduceEqDiff, Nat.reduceLT, simprocAttr]
 | cons c r ih =>
  intro p u hp h10 u0 u1
  have hlen : l.length = p.length + (r.length + 1) := by rw [hp, List.length_append, List.length_cons]
  have hc := hb c (by rw [hp]; simp)
  rw [Vt.dec]
  by_cases hi : p.length ≥ 10
  ·right
   rw [if_pos hi]
   refine ⟨loop_step l_varint_Get_0.eq_1 k_varint_Get_0.eq_1 (by kernel_rfl) ?_, rfl⟩
   have h1 : ¬ ((p.length : Int) < mn (l.length : Int) 10) := by unfold mn; split <;> omega
   simp only [go_sem, trim_same, h1, decide_false, reduceCtorEq, ne_eq, not_false_eq_true, Bool.false_eq_true, ↓reduceIte, Nat.reduceAdd, Nat.reduceEqDiff, Nat.reduceLT, simprocAttr]
  ·rw [if_neg hi]
   have h1 : (p.length : Int) < mn (l.length : Int) 10 := by unfold mn; split <;> omega
   have h2 : (0 : Int) ≤ (p.length : Int) := by omega
   have h3 := ints_at (k := .u8) hp rfl
   have e1 : IntKind.u64.wrap c = c := by rw [Num.wu64]; omega
   have e2 := Num.andNot128 c hc.1 hc.2
   have e3 : IntKind.i64.wrap ((p.length : Int) * 7) = (p.length : Int) * 7 := wrap_id (by unfold I64; omega)
   have e4 : (0 : Int) ≤ (p.length : Int) * 7 := by omega
   have e5 := shl7 p.length (by omega) (c % 128)
   have e6 := shr7 p.length (by omega) ((c % 128 * 128 ^ p.length) % 18446744073709551616)
   have hg := group p.length (by omega) (c % 128) (by omega) (by omega)
   have hj := joins p.length (by omega) u (c % 128) u0 u1 (by omega) (by omega)
   by_cases h9 : p.length = 9 ∧ c % 128 ≥ 2
   ·left
    rw [if_pos h9]
    refine loop_step l_varint_Get_0.eq_1 k_varint_Get_0.eq_1 (by kernel_rfl) ?_
    have h5 : ¬ ((c % 128 * 128 ^ p.length) % 18446744073709551616 / 128 ^ p.length = c % 128) := fun h => hg.1 h h9
    simp only [go_sem, trim_same, h1, h2, h3, e1, e2, e3, e4, e5, e6, h5, s_shl, s_shr, not_false_eq_true, decide_true, decide_false, reduceCtorEq, ne_eq, not_false_eq_true, Bool.false_eq_true, ↓reduceIte, Nat.reduceAdd, Nat.reduceEqDiff, Nat.reduceLT, told, simprocAttr]
   ·rw [if_neg h9]
    have h5 : (c % 128 * 128 ^ p.length) % 18446744073709551616 / 128 ^ p.length = c % 128 := hg.2 h9
    have h7 : 0 ≤ 128 ^ p.length * (c % 128) := Int.mul_nonneg (Int.le_of_lt (Vt.pow_pos _)) (by omega)
    have hu : (u + 128 ^ p.length * (c % 128)) % 18446744073709551616 = u + 128 ^ p.length * (c % 128) := by
     have : u + 128 ^ p.length * (c % 128) < 18446744073709551616 := by
      by_cases h : p.length < 9
      ·exact hj.2.1 h
      ·have h1 : p.length = 9 := by omega
       have e : (128 : Int) ^ p.length = 9223372036854775808 := by rw [h1]; rfl
       rw [e] at u1 ⊢
       omega
     omega
    have e7 : bits .or .u64 u ((c % 128 * 128 ^ p.length) % 18446744073709551616) = u + 128 ^ p.length * (c % 128) := by rw [hj.1, hu]
    by_cases h128 : c ≥ 128
    ·rw [if_pos h128]
     have e8 : IntKind.i64.wrap ((p.length : Int) + 1) = ((p ++ [c]).length : Int) := by
      rw [wrap_id (by unfold I64; omega)]; simp
     have hn := ih (p ++ [c]) (u + 128 ^ p.length * (c % 128)) (by rw [hp, List.append_assoc]; rfl) (by simp; omega) (by omega) (by
      rw [List.length_append, List.length_cons, List.length_nil, Nat.zero_add, Vt.pow128]
      have h4 : 128 ^ p.length * (c % 128) ≤ 128 ^ p.length * 127 := Int.mul_le_mul_of_nonneg_left (by omega) (Int.le_of_lt (Vt.pow_pos _))
      omega)
     have e9 : (p ++ [c]).length = p.length + 1 := by simp
     rw [e9] at hn e8
     have step : ∀ q, loopA W loopW (.ghost (.kill k_varint_Get_0) l_varint_Get_0) [(0, bytes l .ro), (4, .int .u64 (u + 128 ^ p.length * (c % 128))), (10, .int .i64 (mn (l.length : Int) 10)), (11, .int .i64 ((p.length + 1 : Nat) : Int))] H = some q →
       loopA W loopW (.ghost (.kill k_varint_Get_0) l_varint_Get_0) [(0, bytes l .ro), (4, .int .u64 u), (10, .int .i64 (mn (l.length : Int) 10)), (11, .int .i64 (p.length : Int))] H = some q := by
      intro q hq
      refine loop_step l_varint_Get_0.eq_1 k_varint_Get_0.eq_1 (by kernel_rfl) ?_
      simp only [go_sem, trim_same, h1, h2, h3, h5, e1, e2, e3, e4, e5, e6, e7, e8, h128, s_shl, s_shr, not_true_eq_false, not_false_eq_true, decide_true, decide_false, reduceCtorEq, ne_eq, not_false_eq_true, Bool.false_eq_true, ↓reduceIte, Nat.reduceAdd, Nat.reduceEqDiff, Nat.reduceLT, simprocAttr]
      exact hq
     rcases hn with hn | ⟨hn, ht⟩
     ·exact .inl (step _ hn)
     ·exact .inr ⟨step _ hn, ht⟩
    ·rw [if_neg h128]
     have ez := zag_own' (u + 128 ^ p.length * (c % 128)) (by omega) (by omega)
     have e8 : IntKind.i64.wrap ((p.length : Int) + 1) = (p.length : Int) + 1 := wrap_id (by unfold I64; omega)
     left
     refine loop_step l_varint_Get_0.eq_1 k_varint_Get_0.eq_1 (by kernel_rfl) ?_
     have hl1 : ((p.length + 1 : Nat) : Int) = (p.length : Int) + 1 := by omega
     by_cases h0 : c = 0
     ·have hd : decide (c = 0) = true := by simp [h0]
      by_cases hp0 : p.length > 0
      ·have h8 : (p.length : Int) > 0 := by omega
       rw [if_pos ⟨h0, hp0⟩]
       simp only [go_sem, trim_same, h1, h2, h3, h5, e1, e2, e3, e4, e5, e6, e7, e8, ez, h128, h8, hd, Int.reduceLE, s_shl, s_shr, not_true_eq_false, not_false_eq_true, decide_true, decide_false, reduceCtorEq, ne_eq, not_false_eq_true, Bool.false_eq_true, ↓reduceIte, Nat.reduceAdd, Nat.reduceEqDiff, Nat.reduceLT, told, simprocAttr]
      ·have h8 : ¬ ((p.length : Int) > 0) := by omega
       rw [if_neg (fun h => hp0 h.2)]
       simp only [go_sem, trim_same, h1, h2, h3, h5, e1, e2, e3, e4, e5, e6, e7, e8, ez, h128, h8, hd, hl1, Int.reduceLE, s_shl, s_shr, not_true_eq_false, not_false_eq_true, decide_true, decide_false, reduceCtorEq, ne_eq, not_false_eq_true, Bool.false_eq_true, ↓reduceIte, Nat.reduceAdd, Nat.reduceEqDiff, Nat.reduceLT, told, simprocAttr]
     ·rw [if_neg (fun h => h0 h.1)]
      simp only [go_sem, trim_same, h0, h1, h2, h3, h5, e1, e2, e3, e4, e5, e6, e7, e8, ez, h128, hl1, s_shl, s_shr, Int.reduceLE, not_true_eq_false, not_false_eq_true, decide_true, decide_false, reduceCtorEq, ne_eq, not_false_eq_true, Bool.false_eq_true, ↓reduceIte, Nat.reduceAdd, Nat.reduceEqDiff, Nat.reduceLT, told, simprocAttr]
theorem vget_spec (l : List Int) (H : Heap) (hb : Bytes l) (hl : l.length < 140737488355328) : W n_varint_Get [bytes l .ro] H = some (.tuple [.int .i64 (told (Vt.dec l 0 0)).1, .int .i64 (told (Vt.dec l 0 0)).2], H) := by
 refine W_fn0 rfl rfl ?_
 have e3 : (ints .u8 l).length = l.length := by simp
 rcases get_loop l hb hl H l [] 0 rfl (by simp) (by omega) (by decide) with h | ⟨h, ht⟩
 ·simp only [List.length_nil, Int.natCast_zero] at h
  simp only [go_sem, trim_same, c_varint_Get, e3, h, reduceCtorEq, ne_eq, not_false_eq_true, Bool.false_eq_true, ↓reduceIte, Nat.reduceAdd, Nat.reduceEqDiff, Nat.reduceLT, simprocAttr]
 ·simp only [List.length_nil, Int.natCast_zero] at h ht
  rw [ht]
  simp only [go_sem, trim_same, c_varint_Get, e3, h, reduceCtorEq, ne_eq, not_false_eq_true, Bool.false_eq_true, ↓reduceIte, Nat.reduceAdd, Nat.reduceEqDiff, Nat.reduceLT, simprocAttr]
def bk : List Int → Int → Int
 | [], x => x
 | c :: r, x => bk r (bits .or .u64 (shl .u64 x 8) (IntKind.u64.wrap c))
theorem back_loop (l : List Int) (hl : l.length = 8) (H : Heap) (r : List Int) : ∀ (p : List Int) (x : Int), l = p ++ r →
  loopA W loopW (.ghost (.kill k_varint_Back_0) l_varint_Back_0) [(4, .int .u64 x), (11, bytes l .ro), (12, .int .i64 8), (13, .int .i64 (p.length : Int))] H = some (.exit 0, [(4, .int .u64 (bk r x))], H) := by
 induction r with
 | nil =>
  intro p x hp
  have h0 : p.length = 8 := by rw [hp, List.append_nil] at hl; exact hl
  have h1 : ¬ ((p.length : Int) < 8) := by omega
  refine loop_step l_varint_Back_0.eq_1 k_varint_Back_0.eq_1 (by kernel_rfl) ?_
  simp only [go_sem, trim_same, h1, bk, simprocAttr]
 | cons c r ih =>
  intro p x hp
  have hlen : l.length = p.length + (r.length + 1) := by rw [hp, List.length_append, List.length_cons]
  have h1 : (p.length : Int) < 8 := by omega
  have h2 : (0 : Int) ≤ (p.length : Int) := by omega
  have h3 := ints_at (k := .u8) hp rfl
  have e8 : IntKind.i64.wrap ((p.length : Int) + 1) = ((p.length + 1 : Nat) : Int) := by rw [wrap_id (by unfold I64; omega)]; omega
  have hn := ih (p ++ [c]) (bits .or .u64 (shl .u64 x 8) (IntKind.u64.wrap c)) (by rw [hp, List.append_assoc]; rfl)
  rw [show (p ++ [c]).length = p.length + 1 by simp] at hn
  refine loop_step l_varint_Back_0.eq_1 k_varint_Back_0.eq_1 (by kernel_rfl) ?_
  simp only [go_sem, trim_same, h1, h2, h3, e8, simprocAttr]
  exact hn
def backV (l : List Int) : AVal := if l.length < 8 then .tuple [.int .i64 0, .bool false] else .tuple [.int .i64 (IntKind.i64.wrap (bk (l.take 8) 0)), .bool true]
theorem back_spec (l : List Int) (H : Heap) : W n_varint_Back [bytes l .ro] H = some (backV l, H) := by
 refine W_fn0 rfl rfl ?_
 have e3 : (ints .u8 l).length = l.length := by simp
 unfold backV
 by_cases h : l.length < 8
 ·rw [if_pos h]
  have h1 : (l.length : Int) < 8 := by omega
  simp only [go_sem, trim_same, c_varint_Back, e3, h1, simprocAttr]
 ·rw [if_neg h]
  have h1 : ¬ ((l.length : Int) < 8) := by omega
  have h2 : (8 : Int) ≤ (l.length : Int) := by omega
  have e4 : (ints .u8 l).take 8 = ints .u8 (l.take 8) := by simp [List.map_take]
  have h8 : (l.take 8).length = 8 := by rw [List.length_take]; omega
  have e5 : (ints .u8 (l.take 8)).length = 8 := by rw [List.length_map, h8]
  have hl := back_loop (l.take 8) h8 H (l.take 8) [] 0 rfl
  simp only [List.length_nil, Int.natCast_zero] at hl
  simp only [go_sem, trim_same, c_varint_Back, e3, h1, sl_hi, h2, e4, e5, Int.cast_ofNat_Int, hl, simprocAttr]
theorem bytes_app {l m : List Int} (h : Bytes l) (k : Bytes m) : Bytes (l ++ m) := fun x hx => (List.mem_append.1 hx).elim (h x) (k x)
theorem bytes_take {l : List Int} (n : Nat) (h : Bytes l) : Bytes (l.take n) := fun x hx => h x (List.mem_of_mem_take hx)
theorem bytes_drop {l : List Int} (n : Nat) (h : Bytes l) : Bytes (l.drop n) := fun x hx => h x (List.mem_of_mem_drop hx)
theorem dec_le (r : List Int) : ∀ (i : Nat) (u v : Int) (n : Nat), Vt.dec r i u = some (v, n) → i < n ∧ n ≤ i + r.length := by
 induction r with
 | nil => intro i u v n h; cases h
 | cons c r ih =>
  intro i u v n h
  rw [Vt.dec] at h
  rw [List.length_cons]
  split at h
  ·cases h
  ·split at h
   ·cases h
   ·split at h
    ·have := ih _ _ _ _ h; omega
    ·split at h
     ·cases h
     ·cases h; omega
theorem told_range (l : List Int) : 0 ≤ (told (Vt.dec l 0 0)).2 ∧ (told (Vt.dec l 0 0)).2 ≤ (l.length : Int) := by
 cases h : Vt.dec l 0 0 with
 | none => simp only [told]; omega
 | some x => obtain ⟨v, n⟩ := x; have := dec_le l 0 0 v n h; simp only [told]; omega
def cutS (l : List Int) (a : Int) : List UInt8 × Int :=
 let g := told (Vt.dec l 0 0)
 if g.2 = 0 then ([], 0) else if g.1 < 0 then ([], 0) else if g.1 > a ∨ g.1 > (l.length : Int) - g.2 then ([], 0) else (toS ((l.take (g.2 + g.1).toNat).drop g.2.toNat), g.2 + g.1)
theorem cut_spec (l : List Int) (a : Int) (H : Heap) (hb : Bytes l) (hl : l.length < 140737488355328) : W n_varint_Cut [bytes l .ro, .int .i64 a] H = some (.tuple [.str (cutS l a).1, .int .i64 (cutS l a).2], H) := by
 have hg := vget_spec l H hb hl
 have hr := told_range l
 have e3 : (ints .u8 l).length = l.length := by simp
 refine W_fn0 rfl rfl ?_
 unfold cutS
 generalize told (Vt.dec l 0 0) = g at *
 obtain ⟨n, k⟩ := g
 simp only at hg hr ⊢
 by_cases h1 : k = 0
 ·rw [if_pos h1]
  simp only [go_sem, trim_same, c_varint_Cut, hg, h1, e3, simprocAttr]
 ·rw [if_neg h1]
  by_cases h2 : n < 0
  ·rw [if_pos h2]
   simp only [go_sem, trim_same, c_varint_Cut, hg, h1, h2, e3, simprocAttr]
  ·rw [if_neg h2]
   have e1 : IntKind.i64.wrap ((l.length : Int) - k) = (l.length : Int) - k := wrap_id (by unfold I64; omega)
   by_cases h3 : n > a ∨ n > (l.length : Int) - k
   ·rw [if_pos h3]
    have h4 : n > mn a ((l.length : Int) - k) := by unfold mn; split <;> omega
    simp only [go_sem, trim_same, c_varint_Cut, hg, h1, h2, h4, e1, e3, simprocAttr]
   ·rw [if_neg h3]
    have h4 : ¬ (n > mn a ((l.length : Int) - k)) := by unfold mn; split <;> omega
    have e2 : IntKind.i64.wrap (k + n) = k + n := wrap_id (by unfold I64; omega)
    have h5 : 0 ≤ k := hr.1
    have h6 : k ≤ k + n := by omega
    have h7 : k + n ≤ (l.length : Int) := by omega
    have e4 : ((ints .u8 l).take (k + n).toNat).drop k.toNat = ints .u8 ((l.take (k + n).toNat).drop k.toNat) := by rw [← List.map_take, ← List.map_drop]
    simp only [go_sem, trim_same, c_varint_Cut, hg, h1, h2, h4, e1, e2, e3, sl_mid, h5, h6, h7, e4, simprocAttr]
theorem or_at (k : IntKind) (hk : k = .i64 ∨ k = .u64 ∨ k = .u32) (i : Nat) (x y : Int) (hx0 : 0 ≤ x) (hx : x < 2 ^ i) (hy0 : 0 ≤ y) (hy : y % 2 ^ i = 0) (hx1 : x < 4294967296) (hy1 : y < 4294967296) (hs : x + y < 4294967296) :
  bits .or k x y = x + y ∧ bits .or k y x = x + y := by
 obtain ⟨a, rfl⟩ := Int.eq_ofNat_of_zero_le hx0
 obtain ⟨b, rfl⟩ := Int.eq_ofNat_of_zero_le hy0
 have h1 : a < 2 ^ i := by exact_mod_cast hx
 have h2 : b % 2 ^ i = 0 := by exact_mod_cast hy
 have h3 := nat_join i b a h2 h1
 have ha : a < 4294967296 := by omega
 have hb : b < 4294967296 := by omega
 have key : ∀ n : Nat, 32 ≤ n → n ≤ 64 → (BitVec.ofInt n (a : Int) ||| BitVec.ofInt n (b : Int)).toNat = a + b ∧ (BitVec.ofInt n (b : Int) ||| BitVec.ofInt n (a : Int)).toNat = a + b := by
  intro n hn _
  have hp : 4294967296 ≤ 2 ^ n := by
   have := Nat.pow_le_pow_right (n := 2) (by decide) hn
   simpa using this
  have ea : (BitVec.ofInt n (a : Int)).toNat = a := by
   rw [BitVec.ofInt_natCast, BitVec.toNat_ofNat, Nat.mod_eq_of_lt (by omega)]
  have eb : (BitVec.ofInt n (b : Int)).toNat = b := by
   rw [BitVec.ofInt_natCast, BitVec.toNat_ofNat, Nat.mod_eq_of_lt (by omega)]
  rw [BitVec.toNat_or, BitVec.toNat_or, ea, eb, Nat.or_comm a b, h3]
  omega
 rcases hk with rfl | rfl | rfl
 ·obtain ⟨q1, q2⟩ := key 64 (by decide) (by decide)
  refine ⟨?_, ?_⟩
  ·show IntKind.i64.wrap _ = _
   rw [show IntKind.i64.bits = 64 from rfl, q1, wrap_id (by unfold I64; omega)]; omega
  ·show IntKind.i64.wrap _ = _
   rw [show IntKind.i64.bits = 64 from rfl, q2, wrap_id (by unfold I64; omega)]; omega
 ·obtain ⟨q1, q2⟩ := key 64 (by decide) (by decide)
  refine ⟨?_, ?_⟩
  ·show IntKind.u64.wrap _ = _
   rw [show IntKind.u64.bits = 64 from rfl, q1, Num.wu64]; omega
  ·show IntKind.u64.wrap _ = _
   rw [show IntKind.u64.bits = 64 from rfl, q2, Num.wu64]; omega
 ·obtain ⟨q1, q2⟩ := key 32 (by decide) (by decide)
  refine ⟨?_, ?_⟩
  ·show IntKind.u32.wrap _ = _
   rw [show IntKind.u32.bits = 32 from rfl, q1, IntKind.wrap_u32]; omega
  ·show IntKind.u32.wrap _ = _
   rw [show IntKind.u32.bits = 32 from rfl, q2, IntKind.wrap_u32]; omega
theorem shl_i64 (x : Int) (h0 : 0 ≤ x) (h1 : x < 16777216) : shl .i64 x 8 = x * 256 := by
 unfold shl
 rw [show (2 : Int) ^ (min (8 : Int).toNat IntKind.i64.bits) = 256 from by decide, wrap_id (by unfold I64; omega)]
theorem shl_u32 (c : Int) (h0 : 0 ≤ c) (h1 : c < 256) : shl .u32 c 8 = c * 256 ∧ shl .u32 c 16 = c * 65536 ∧ shl .u32 c 24 = c * 16777216 := by
 unfold shl
 rw [show (2 : Int) ^ (min (8 : Int).toNat IntKind.u32.bits) = 256 from by decide, show (2 : Int) ^ (min (16 : Int).toNat IntKind.u32.bits) = 65536 from by decide, show (2 : Int) ^ (min (24 : Int).toNat IntKind.u32.bits) = 16777216 from by decide, IntKind.wrap_u32, IntKind.wrap_u32, IntKind.wrap_u32]
 omega
theorem equal_loop (l m : List Int) (hm : l.length = m.length) (hn : l.length ≤ 100000000) (H : Heap) (r : List Int) : ∀ (s : List Int) (p q : List Int), l = p ++ r → m = q ++ s → p = q →
  loopA W loopW (.ghost (.kill k_slices_Equal_byte_byte__0) l_slices_Equal_byte_byte__0) [(0, bytes l .ro), (1, bytes m .ro), (12, .int .i64 (l.length : Nat)), (13, .int .i64 (p.length : Nat))] H =
   if r = s then some (.exit 0, [], H) else some (.ret, [(4, .bool false)], H) := by
 induction r with
 | nil =>
  intro s p q hp hq hpq
  have hs : s = [] := by
   subst hpq
   rw [hp, hq, List.append_nil, List.length_append] at hm
   exact List.eq_nil_of_length_eq_zero (by omega)
  rw [if_pos hs.symm]
  have h1 : ¬ ((p.length : Int) < (l.length : Int)) := by rw [hp]; simp
  refine loop_step l_slices_Equal_byte_byte__0.eq_1 k_slices_Equal_byte_byte__0.eq_1 (by kernel_rfl) ?_
  simp only [go_sem, h1, simprocAttr]
 | cons x r ih =>
  intro s p q hp hq hpq
  cases s with
  | nil =>
   subst hpq
   rw [hp, hq, List.append_nil, List.length_append] at hm
   simp at hm
  | cons y s =>
   have h1 : ((p.length : Int) < (l.length : Int)) := by rw [hp]; simp; omega
   have e0 : (0 : Int) ≤ (p.length : Int) := by omega
   have e7 : ((p.length : Nat) : Int).toNat = p.length := by omega
   have e1 : (ints .u8 l)[p.length]? = some (.int .u8 x) := by rw [hp]; simp
   have e2 : (ints .u8 m)[p.length]? = some (.int .u8 y) := by rw [hq, hpq]; simp
   have hlen : l.length = p.length + (r.length + 1) := by rw [hp]; simp
   have e6 : IntKind.i64.wrap ((p.length : Int) + 1) = ((p.length + 1 : Nat) : Int) := by rw [wrap_id (by unfold I64; omega)]; omega
   by_cases c : x = y
   ·subst c
    have h2 := ih s (p ++ [x]) (q ++ [x]) (by rw [hp]; simp) (by rw [hq]; simp) (by rw [hpq])
    simp only [List.length_append, List.length_cons, List.length_nil, Nat.zero_add] at h2
    have e9 : ((x :: r) = (x :: s)) = (r = s) := by simp
    simp only [e9]
    by_cases c2 : r = s
    ·simp only [c2, if_true] at h2 ⊢
     refine loop_step l_slices_Equal_byte_byte__0.eq_1 k_slices_Equal_byte_byte__0.eq_1 (by kernel_rfl) ?_
     simp only [go_sem, h1, e0, e7, e1, e2, e6, simprocAttr]
     exact h2
    ·simp only [c2, if_false] at h2 ⊢
     refine loop_step l_slices_Equal_byte_byte__0.eq_1 k_slices_Equal_byte_byte__0.eq_1 (by kernel_rfl) ?_
     simp only [go_sem, h1, e0, e7, e1, e2, e6, simprocAttr]
     exact h2
   ·rw [if_neg (by simp [c])]
    refine loop_step l_slices_Equal_byte_byte__0.eq_1 k_slices_Equal_byte_byte__0.eq_1 (by kernel_rfl) ?_
    simp only [go_sem, h1, e0, e7, e1, e2, c, simprocAttr]
theorem equal_spec (l m : List Int) (hn : l.length ≤ 100000000) (H : Heap) : W n_slices_Equal_byte_byte_ [bytes l .ro, bytes m .ro] H = some (.bool (decide (l = m)), H) := by
 by_cases c : l.length = m.length
 ·have h := equal_loop l m c hn H l m [] [] rfl rfl rfl
  simp only [List.length_nil, Int.natCast_zero] at h
  have c' : (l.length : Int) = (m.length : Int) := by omega
  by_cases d : l = m
  ·rw [if_pos d] at h
   rw [decide_eq_true d]
   refine W_fn0 rfl rfl ?_
   simp only [go_sem, trim_same, c_slices_Equal_byte_byte_, List.length_map, eq_true c', h, simprocAttr]
   first | done | rfl
  ·rw [if_neg d] at h
   rw [decide_eq_false d]
   refine W_fn0 rfl rfl ?_
   simp only [go_sem, trim_same, c_slices_Equal_byte_byte_, List.length_map, eq_true c', h, simprocAttr]
   first | done | rfl
 ·have d : ¬ l = m := fun h => c (by rw [h])
  have c' : ¬ (l.length : Int) = (m.length : Int) := by omega
  rw [decide_eq_false d]
  refine W_fn0 rfl rfl ?_
  simp only [go_sem, trim_same, c_slices_Equal_byte_byte_, List.length_map, c', simprocAttr]
def lg : List Int → Int → Int
 | [], x => x
 | c :: r, x => lg r (bits .or .i64 (shl .i64 x 8) (IntKind.i64.wrap c))
theorem long4_loop (l : List Int) (hl : l.length = 4) (H : Heap) (r : List Int) : ∀ (p : List Int) (x : Int), l = p ++ r →
  loopA W loopW (.ghost (.kill k_batch_long_0) l_batch_long_0) [(3, .int .i64 x), (10, bytes l .ro), (11, .int .i64 4), (12, .int .i64 (p.length : Nat))] H = some (.exit 0, [(3, .int .i64 (lg r x))], H) := by
 induction r with
 | nil =>
  intro p x hp
  have h1 : ¬ ((p.length : Int) < 4) := by rw [hp] at hl; simp at hl; omega
  refine loop_step l_batch_long_0.eq_1 k_batch_long_0.eq_1 (by kernel_rfl) ?_
  simp only [go_sem, h1, lg, simprocAttr]
 | cons c r ih =>
  intro p x hp
  have hlen : l.length = p.length + (r.length + 1) := by rw [hp]; simp
  have h1 : (p.length : Int) < 4 := by omega
  have e0 : (0 : Int) ≤ (p.length : Int) := by omega
  have e7 : ((p.length : Nat) : Int).toNat = p.length := by omega
  have e1 : (ints .u8 l)[p.length]? = some (.int .u8 c) := by rw [hp]; simp
  have e6 : IntKind.i64.wrap ((p.length : Int) + 1) = ((p.length + 1 : Nat) : Int) := by rw [wrap_id (by unfold I64; omega)]; omega
  have h2 := ih (p ++ [c]) (bits .or .i64 (shl .i64 x 8) (IntKind.i64.wrap c)) (by rw [hp]; simp)
  simp only [List.length_append, List.length_cons, List.length_nil, Nat.zero_add] at h2
  refine loop_step l_batch_long_0.eq_1 k_batch_long_0.eq_1 (by kernel_rfl) ?_
  simp only [go_sem, h1, e0, e7, e1, e6, simprocAttr]
  exact h2
def num4 (a b c d : Int) : Int := ((a * 256 + b) * 256 + c) * 256 + d
theorem lg_step (x c : Int) (h0 : 0 ≤ x) (h1 : x < 16777216) (c0 : 0 ≤ c) (c1 : c < 256) : bits .or .i64 (shl .i64 x 8) (IntKind.i64.wrap c) = x * 256 + c := by
 rw [shl_i64 x h0 h1, wrap_id (by unfold I64; omega), (or_at .i64 (.inl rfl) 8 c (x * 256) c0 (by show c < 256; omega) (by omega) (by show x * 256 % 256 = 0; omega) (by omega) (by omega) (by omega)).2]
 omega
theorem lg_num (a b c d : Int) (ha : 0 ≤ a ∧ a < 256) (hb : 0 ≤ b ∧ b < 256) (hc : 0 ≤ c ∧ c < 256) (hd : 0 ≤ d ∧ d < 256) : lg [a, b, c, d] 0 = num4 a b c d := by
 simp only [lg]
 rw [lg_step 0 a (by omega) (by omega) ha.1 ha.2, lg_step (0 * 256 + a) b (by omega) (by omega) hb.1 hb.2, lg_step _ c (by omega) (by omega) hc.1 hc.2, lg_step _ d (by omega) (by omega) hd.1 hd.2]
 unfold num4; omega
def longB (p : List Int) : Int := if p.length < 12 then 0 else 12 + num4 (p.getD 8 0) (p.getD 9 0) (p.getD 10 0) (p.getD 11 0)
theorem getD_byte {p : List Int} (hp : ∀ x ∈ p, 0 ≤ x ∧ x < 256) (i : Nat) : 0 ≤ p.getD i 0 ∧ p.getD i 0 < 256 := by
 rw [List.getD_eq_getElem?_getD]
 cases h : p[i]? with
 | none => simp
 | some x => exact hp x (List.mem_of_getElem? h)
theorem four (p : List Int) (h : 12 ≤ p.length) : (p.take 12).drop 8 = [p.getD 8 0, p.getD 9 0, p.getD 10 0, p.getD 11 0] := by
 match p, h with
 | a0 :: a1 :: a2 :: a3 :: a4 :: a5 :: a6 :: a7 :: a8 :: a9 :: a10 :: a11 :: r, _ => rfl
theorem num4_range (a b c d : Int) (ha : 0 ≤ a ∧ a < 256) (hb : 0 ≤ b ∧ b < 256) (hc : 0 ≤ c ∧ c < 256) (hd : 0 ≤ d ∧ d < 256) : 0 ≤ num4 a b c d ∧ num4 a b c d < 4294967296 := by unfold num4; omega
theorem longB_range {p : List Int} (hp : ∀ x ∈ p, 0 ≤ x ∧ x < 256) : 0 ≤ longB p ∧ longB p < 5000000000 := by
 unfold longB
 split
 ·omega
 ·have := num4_range _ _ _ _ (getD_byte hp 8) (getD_byte hp 9) (getD_byte hp 10) (getD_byte hp 11)
  omega
theorem blong_spec (p : List Int) (hp : ∀ x ∈ p, 0 ≤ x ∧ x < 256) (H : Heap) : W n_batch_long [bytes p .ro] H = some (.int .i64 (longB p), H) := by
 unfold longB
 by_cases c : p.length < 12
 ·rw [if_pos c]
  have c' : (p.length : Int) < 12 := by omega
  refine W_fn0 rfl rfl ?_
  simp only [go_sem, trim_same, c_batch_long, List.length_map, c', simprocAttr]
 ·rw [if_neg c]
  have c' : ¬ (p.length : Int) < 12 := by omega
  have h4 := four p (by omega)
  have r := num4_range _ _ _ _ (getD_byte hp 8) (getD_byte hp 9) (getD_byte hp 10) (getD_byte hp 11)
  have hv := lg_num _ _ _ _ (getD_byte hp 8) (getD_byte hp 9) (getD_byte hp 10) (getD_byte hp 11)
  have h := long4_loop [p.getD 8 0, p.getD 9 0, p.getD 10 0, p.getD 11 0] rfl H [p.getD 8 0, p.getD 9 0, p.getD 10 0, p.getD 11 0] [] 0 rfl
  rw [hv] at h
  have e4 : ((ints .u8 p).take 12).drop 8 = ints .u8 [p.getD 8 0, p.getD 9 0, p.getD 10 0, p.getD 11 0] := by rw [← List.map_take, ← List.map_drop, h4]
  have h12 : (12 : Int) ≤ (p.length : Int) := by omega
  have w1 : IntKind.i64.wrap (12 + num4 (p.getD 8 0) (p.getD 9 0) (p.getD 10 0) (p.getD 11 0)) = 12 + num4 (p.getD 8 0) (p.getD 9 0) (p.getD 10 0) (p.getD 11 0) := wrap_id (by unfold I64; omega)
  generalize num4 (p.getD 8 0) (p.getD 9 0) (p.getD 10 0) (p.getD 11 0) = n at *
  generalize p.getD 8 0 = x0 at *
  generalize p.getD 9 0 = x1 at *
  generalize p.getD 10 0 = x2 at *
  generalize p.getD 11 0 = x3 at *
  simp only [List.length_nil, Int.natCast_zero] at h
  simp only [List.map_cons, List.map_nil] at e4
  have h' : loopA W loopW (.ghost (.kill k_batch_long_0) l_batch_long_0) [(3, .int .i64 0), (10, .list 1 [.int .u8 x0, .int .u8 x1, .int .u8 x2, .int .u8 x3] .ro), (11, .int .i64 4), (12, .int .i64 0)] H = some (.exit 0, [(3, .int .i64 n)], H) := h
  refine W_fn0 rfl rfl ?_
  simp only [go_sem, trim_same, c_batch_long, List.length_map, c', sl_mid, h12, e4, h', w1, simprocAttr]
end Go.Abs
