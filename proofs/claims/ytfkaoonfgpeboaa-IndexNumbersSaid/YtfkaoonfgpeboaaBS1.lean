import Derived.Test.YtfkaoonfgpeboaaBC
import Derived.Test.YtfkaoonfgpeboaaN1
set_option linter.unusedVariables false
set_option linter.unusedSimpArgs false
namespace Go.Abs
open Go Go.RowKit
theorem W_clone (xs H) (h : xs.length * 1 ≤ maxBytes) : W n_slices_Clone_byte_byte_ [.list 1 xs .ro] H = some (.list 1 xs .own, H) := W_slices_Clone_byte_byte_ xs H h
theorem W_clip (xs : List AVal) (H : Heap) : W n_slices_Clip_byte_byte_ [.list 1 xs .ro] H = some (.list 1 xs .full, H) := by
 refine W_fn0 rfl rfl ?_
 simp only [go_sem, c_slices_Clip_byte_byte_, trim_same, sl_clip, simprocAttr]
theorem bits_spec (n : Int) (H : Heap) (h : I64 (n * 8)) : W n_varint_bitsOf [.int .i64 n] H = some (.int .i64 (n * 8), H) := by
 have e := wrap_id h
 refine W_fn0 rfl rfl ?_
 simp only [go_sem, trim_same, c_varint_bitsOf, e, simprocAttr]
def be (n : Int) (i : Nat) : Int := (n / 2 ^ (8 * (7 - i))) % 256
def bes (n : Int) (i : Nat) : List Int := ((List.range 8).drop i).map (be n)
theorem toB8 (n : Int) (hn : I64 n) (k : Nat) (hk : k ≤ 56) : IntKind.u8.wrap (shr .i64 n (k : Int)) = (n / 2 ^ k) % 256 ∧ IntKind.u8.wrap (shr .u64 (IntKind.u64.wrap n) (k : Int)) = (n / 2 ^ k) % 256 := by
 have e : min ((k : Int)).toNat IntKind.i64.bits = k := by show min _ 64 = _; omega
 have e' : min ((k : Int)).toNat IntKind.u64.bits = k := by show min _ 64 = _; omega
 rw [Num.wu8, Num.wu8, Num.wu64]
 unfold shr
 rw [e, e']
 refine ⟨rfl, ?_⟩
 have hp : (18446744073709551616 : Int) = 2 ^ k * 2 ^ (64 - k) := by rw [← Int.pow_add]; rw [show k + (64 - k) = 64 by omega]; rfl
 have hp2 : (2 : Int) ^ (64 - k) = 256 * 2 ^ (56 - k) := by rw [show (64 - k) = 8 + (56 - k) by omega, Int.pow_add]; rfl
 have hpos : (0 : Int) < 2 ^ k := Int.pow_pos (by decide)
 have h1 : n % 18446744073709551616 = n - 18446744073709551616 * (n / 18446744073709551616) := by omega
 rw [h1]
 have h2 : n - 18446744073709551616 * (n / 18446744073709551616) = n + 2 ^ k * (-(2 ^ (64 - k) * (n / 18446744073709551616))) := by
  rw [Int.mul_neg, ← Int.mul_assoc, ← hp]; omega
 rw [h2, Int.add_mul_ediv_left _ _ (by omega), hp2, Int.mul_assoc]
 omega
theorem long_loop (l0 : List Int) (n : Int) (hn : I64 n) (hl : l0.length + 8 ≤ 70368744177664) (d : Nat) : ∀ (i : Nat) (l : List Int) (H : Heap), i + d = 8 → l.length = l0.length + i →
  loopA W loopW (.ghost (.kill k_varint_Long_0) l_varint_Long_0) [(1, .int .i64 n), (5, bytes l .own), (9, .int .i64 (i : Int))] H = some (.exit 0, [(5, bytes (l ++ bes n i) .own)], H) := by
 induction d with
 | zero =>
  intro i l H hi hl'
  have : i = 8 := by omega
  subst this
  refine loop_step l_varint_Long_0.eq_1 k_varint_Long_0.eq_1 (by kernel_rfl) ?_
  have h1 : ¬ (((8 : Nat) : Int) < 8) := by omega
  simp only [go_sem, trim_same, h1, simprocAttr]
  simp [bes]
 | succ d ih =>
  intro i l H hi hl'
  have h1 : ((i : Int) < 8) := by omega
  have e1 : IntKind.i64.wrap (7 - (i : Int)) = 7 - (i : Int) := wrap_id (by unfold I64; omega)
  have e2 := bits_spec (7 - (i : Int)) H (by unfold I64; omega)
  have e3 : (7 - (i : Int)) * 8 = ((8 * (7 - i) : Nat) : Int) := by omega
  have e4 := (toB8 n hn (8 * (7 - i)) (by omega)).2
  rw [e3] at e2
  have e5 : (0 : Int) ≤ ((8 * (7 - i) : Nat) : Int) := by omega
  have e6 : IntKind.i64.wrap ((i : Int) + 1) = ((i + 1 : Nat) : Int) := by rw [wrap_id (by unfold I64; omega)]; omega
  have e7 : ints .u8 l ++ [.int .u8 (n / 2 ^ (8 * (7 - i)) % 256)] = ints .u8 (l ++ [be n i]) := by simp [be]
  have hb : ((ints .u8 l).length + 1) * 1 ≤ maxBytes := by simp [maxBytes]; omega
  have h2 := ih (i + 1) (l ++ [be n i]) H (by omega) (by simp; omega)
  refine loop_step l_varint_Long_0.eq_1 k_varint_Long_0.eq_1 (by kernel_rfl) ?_
  simp only [go_sem, trim_same, h1, e1, e2, e4, e5, e6, apO, hb, e7, simprocAttr]
  refine h2.trans ?_
  have : bes n i = be n i :: bes n (i + 1) := by
   unfold bes
   rw [List.drop_eq_getElem_cons (by simp; omega)]
   simp
  rw [this]; simp
theorem long_spec (l : List Int) (n : Int) (H : Heap) (hn : I64 n) (hl : l.length + 8 ≤ 70368744177664) : W n_varint_Long [bytes l .ro, .int .i64 n] H = some (bytes (l ++ bes n 0) .full, H) := by
 have h := long_loop l n hn hl 8 0 l H rfl (by simp)
 have hcl : (ints .u8 l).length * 1 ≤ maxBytes := by simp [maxBytes]; omega
 simp only [Int.natCast_zero] at h
 refine W_fn0 rfl rfl ?_
 simp only [go_sem, trim_same, c_varint_Long, W_clone, hcl, h, W_clip, simprocAttr]
theorem ref_long_loop (l0 : List Int) (n : Int) (hn : I64 n) (hl : l0.length + 8 ≤ 70368744177664) (d : Nat) : ∀ (i : Nat) (l : List Int) (H : Heap), i + d = 8 → l.length = l0.length + i →
  loopA W loopW (.ghost (.kill k_ref1_Long_0) l_ref1_Long_0) [(1, .int .i64 n), (5, bytes l .own), (6, .int .i64 (56 - 8 * (i : Int)))] H = some (.exit 0, [(5, bytes (l ++ bes n i) .own)], H) := by
 induction d with
 | zero =>
  intro i l H hi hl'
  have : i = 8 := by omega
  subst this
  refine loop_step l_ref1_Long_0.eq_1 k_ref1_Long_0.eq_1 (by kernel_rfl) ?_
  have h1 : ¬ ((56 : Int) - 8 * 8 ≥ 0) := by omega
  simp only [go_sem, trim_same, h1, simprocAttr]
  simp [bes]
 | succ d ih =>
  intro i l H hi hl'
  have h1 : (56 - 8 * (i : Int) ≥ 0) := by omega
  have e1 : IntKind.u64.wrap (56 - 8 * (i : Int)) = ((8 * (7 - i) : Nat) : Int) := by rw [Num.wu64]; omega
  have e4 := (toB8 n hn (8 * (7 - i)) (by omega)).1
  have e5 : (0 : Int) ≤ ((8 * (7 - i) : Nat) : Int) := by omega
  have e6 : IntKind.i64.wrap (56 - 8 * (i : Int) - 8) = 56 - 8 * ((i + 1 : Nat) : Int) := by rw [wrap_id (by unfold I64; omega)]; omega
  have e7 : ints .u8 l ++ [.int .u8 (n / 2 ^ (8 * (7 - i)) % 256)] = ints .u8 (l ++ [be n i]) := by simp [be]
  have hb : ((ints .u8 l).length + 1) * 1 ≤ maxBytes := by simp [maxBytes]; omega
  have h2 := ih (i + 1) (l ++ [be n i]) H (by omega) (by simp; omega)
  refine loop_step l_ref1_Long_0.eq_1 k_ref1_Long_0.eq_1 (by kernel_rfl) ?_
  simp only [go_sem, trim_same, h1, e1, e4, e5, e6, apO, hb, e7, simprocAttr]
  refine h2.trans ?_
  have : bes n i = be n i :: bes n (i + 1) := by
   unfold bes
   rw [List.drop_eq_getElem_cons (by simp; omega)]
   simp
  rw [this]; simp
theorem ref_long_spec (l : List Int) (n : Int) (H : Heap) (hn : I64 n) (hl : l.length + 8 ≤ 70368744177664) : W n_ref1_Long [bytes l .ro, .int .i64 n] H = some (bytes (l ++ bes n 0) .own, H) := by
 have h := ref_long_loop l n hn hl 8 0 l H rfl (by simp)
 have hb0 : (0 + (ints .u8 l).length) * 1 ≤ maxBytes := by simp [maxBytes]; omega
 simp only [Int.natCast_zero, Int.mul_zero, Int.sub_zero] at h
 refine W_fn0 rfl rfl ?_
 simp only [go_sem, trim_same, c_ref1_Long, fs_nil, apF, hb0, List.nil_append, h, simprocAttr]
def bk : List Int → Int → Int
 | [], x => x
 | c :: r, x => bk r (bits .or .u64 (shl .u64 x 8) (IntKind.u64.wrap c))
theorem back_loop (l : List Int) (hl : l.length = 8) (H : Heap) (r : List Int) : ∀ (p : List Int) (x : Int), l = p ++ r →
  loopA W loopW (.ghost (.kill k_varint_Back_0) l_varint_Back_0) [(4, .int .u64 x), (11, bytes l .ro), (12, .int .i64 8), (13, .int .i64 (p.length : Int))] H = some (.exit 0, [(4, .int .u64 (bk r x))], H) := by
 induction r with
 | nil =>
  intro p x hp
  have h0 : p.length = 8 := by rw [hp, List.append_nil] at hl; exact hl
  have h1 : ¬ ((p.length : Int) < 8) := by omega
  refine loop_step l_varint_Back_0.eq_1 k_varint_Back_0.eq_1 (by kernel_rfl) ?_
  simp only [go_sem, trim_same, h1, bk, simprocAttr]
 | cons c r ih =>
  intro p x hp
  have hlen : l.length = p.length + (r.length + 1) := by rw [hp, List.length_append, List.length_cons]
  have h1 : (p.length : Int) < 8 := by omega
  have h2 : (0 : Int) ≤ (p.length : Int) := by omega
  have h3 := ints_at (k := .u8) hp rfl
  have e8 : IntKind.i64.wrap ((p.length : Int) + 1) = ((p.length + 1 : Nat) : Int) := by rw [wrap_id (by unfold I64; omega)]; omega
  have hn := ih (p ++ [c]) (bits .or .u64 (shl .u64 x 8) (IntKind.u64.wrap c)) (by rw [hp, List.append_assoc]; rfl)
  rw [show (p ++ [c]).length = p.length + 1 by simp] at hn
  refine loop_step l_varint_Back_0.eq_1 k_varint_Back_0.eq_1 (by kernel_rfl) ?_
  simp only [go_sem, trim_same, h1, h2, h3, e8, simprocAttr]
  exact hn
def backV (l : List Int) : AVal := if l.length < 8 then .tuple [.int .i64 0, .bool false] else .tuple [.int .i64 (IntKind.i64.wrap (bk (l.take 8) 0)), .bool true]
theorem back_spec (l : List Int) (H : Heap) : W n_varint_Back [bytes l .ro] H = some (backV l, H) := by
 refine W_fn0 rfl rfl ?_
 have e3 : (ints .u8 l).length = l.length := by simp
 unfold backV
 by_cases h : l.length < 8
 ·rw [if_pos h]
  have h1 : (l.length : Int) < 8 := by omega
  simp only [go_sem, trim_same, c_varint_Back, e3, h1, simprocAttr]
 ·rw [if_neg h]
  have h1 : ¬ ((l.length : Int) < 8) := by omega
  have h2 : (8 : Int) ≤ (l.length : Int) := by omega
  have e4 : (ints .u8 l).take 8 = ints .u8 (l.take 8) := by simp [List.map_take]
  have h8 : (l.take 8).length = 8 := by rw [List.length_take]; omega
  have e5 : (ints .u8 (l.take 8)).length = 8 := by rw [List.length_map, h8]
  have hl := back_loop (l.take 8) h8 H (l.take 8) [] 0 rfl
  simp only [List.length_nil, Int.natCast_zero] at hl
  simp only [go_sem, trim_same, c_varint_Back, e3, h1, sl_hi, h2, e4, e5, Int.cast_ofNat_Int, hl, simprocAttr]
structure Ad where
 off : Int
 at_ : Int
 end_ : Int
 entry : Bool
structure Ix where
 base : Int
 every : Int
 l : List Ad
abbrev Ad.v (a : Ad) : AVal := .agg [.int .i64 a.off, .int .i64 a.at_, .int .i64 a.end_, .bool a.entry]
abbrev Ix.B (x : Ix) (fl : Fl) : Box := .cells [.int .i64 x.base, .int .i64 x.every, .list 4 (x.l.map Ad.v) fl]
def lastE : List Ad → Option Ad
 | [] => none
 | a :: l => match lastE l with
  | some b => some b
  | none => if a.entry then some a else none
theorem lastE_snoc (l : List Ad) (a : Ad) : lastE (l ++ [a]) = if a.entry then some a else lastE l := by
 induction l with
 | nil => simp [lastE]
 | cons b l ih =>
  rw [List.cons_append, lastE, ih, lastE]
  cases a.entry <;> simp
def lastV (o : Option Ad) : AVal := (o.getD ⟨0, 0, 0, false⟩).v
theorem Old.same {H i B} (h : Old H i B) : H.set i B = H := by
 have h1 := h.g
 obtain ⟨h2, h3⟩ := List.getElem?_eq_some_iff.1 h1
 rw [← h3, List.set_getElem_self]
theorem apV (sz bytes xs ys) : evAppend sz bytes true (.list sz xs .uniq) ys = gd (decide ((xs.length + ys.length) * bytes ≤ maxBytes)) (some (.list sz (xs ++ ys) .uniq)) := by
 unfold gd; by_cases h : (xs.length + ys.length) * bytes ≤ maxBytes <;> simp [evAppend, h]
abbrev Flag (x : Ix) (fl : Fl) : Prop := fl = .uniq
abbrev Ix.T (x : Ix) (k : Nat) : Box := .cells [.int .i64 x.base, .int .i64 x.every, .lbox k]
theorem ith {x : Ix} {i : Nat} {H : Heap} (hi : Old H i (x.B .uniq)) (e : Env) (N : Heap) (h0 : Env.get e 0 = .ptr i 0) :
  agh (.thawC 0 2) e (hx H N) = some (e, hx (H.set i (x.T (pt H N.length))) (N ++ [.arr 4 (x.l.map Ad.v)])) := by
 have g := hi.get N
 have s := hi.set N
 have hl : (hx H N).length = pt H N.length := hx_len H N
 simp only [agh, h0, g, Nat.zero_add, List.getElem?_cons_zero, List.getElem?_cons_succ, List.set_cons_zero, List.set_cons_succ, s, hl, hx_app]
theorem ibk {H : Heap} {i : Nat} {B : Box} (hi : Old H i B) (x : Ix) (Xs : List AVal) (e : Env) (N : Heap) (h0 : Env.get e 0 = .ptr i 0) :
  agh (.backC 0 2) e (hx (H.set i (x.T (pt H 0))) (.arr 4 Xs :: N)) = some (e, hx (H.set i (.cells [.int .i64 x.base, .int .i64 x.every, .list 4 Xs .uniq])) (.dead :: N)) := by
 have g := hi.get' (.arr 4 Xs :: N) (x.T (pt H 0))
 have s := fun B' => hi.set' (.arr 4 Xs :: N) (x.T (pt H 0)) B'
 have g2 : (hx (H.set i (x.T (pt H 0))) (.arr 4 Xs :: N))[pt H 0]? = some (.arr 4 Xs) := by rw [hx_getS]; rfl
 simp only [agh, h0, g, Nat.zero_add, List.getElem?_cons_zero, List.getElem?_cons_succ, List.set_cons_zero, List.set_cons_succ, g2, s, hx_setS]
abbrev zB : Box := .cells [.int .i64 0, .int .i64 0, .int .i64 0, .bool false]
abbrev Ad.B (a : Ad) : Box := .cells [.int .i64 a.off, .int .i64 a.at_, .int .i64 a.end_, .bool a.entry]
theorem last_loop (x : Ix) (hx1 : x.l.length < 1000000000) (i : Nat) (H : Heap) (hi : Old H i (x.B .uniq)) : ∀ (k : Nat) (r s : List Ad), r.length = k → x.l = r ++ s → lastE s = none →
  loopA W loopW (.ghost (.kill k_index_Index_last_0) l_index_Index_last_0) [(0, .ptr i 0), (2, .ptr (pt H 1) 0), (4, .int .i64 ((r.length : Int) - 1))] (hx (H.set i (x.T (pt H 0))) [.arr 4 (x.l.map Ad.v), zB]) =
   match lastE r with
   | some a => some (.ret, [(2, .ptr (pt H 1) 0), (3, .bool true)], hx H [.dead, a.B])
   | none => some (.exit 0, [(2, .ptr (pt H 1) 0)], hx H [.dead, zB]) := by
 have gi' := hi.get'
 have hb := ibk hi x (x.l.map Ad.v)
 rw [hi.same] at hb
 have hml : (x.l.map Ad.v).length = x.l.length := List.length_map ..
 intro k
 induction k with
 | zero =>
  intro r s hr hs hn
  have hr0 : r = [] := List.length_eq_zero_iff.1 hr
  have h1 : ¬ ((r.length : Int) - 1 ≥ 0) := by omega
  have h2 : lastE r = none := by rw [hr0]; rfl
  rw [h2]
  generalize x.l.map Ad.v = X at *
  refine loop_step l_index_Index_last_0.eq_1 k_index_Index_last_0.eq_1 (by kernel_rfl) ?_
  simp only [go_sem, h1, hb, simprocAttr]
 | succ k ih =>
  intro r s hr hs hn
  obtain ⟨r', a, rfl⟩ : ∃ r' a, r = r' ++ [a] := by
   rcases List.eq_nil_or_concat r with h | ⟨s, x, h⟩
   ·subst h; cases hr
   ·exact ⟨s, x, by simpa using h⟩
  have hr' : r'.length = k := by simpa using hr
  have hl : x.l.length = k + 1 + s.length := by rw [hs, List.length_append, hr]
  have e0 : (((r' ++ [a]).length : Nat) : Int) - 1 = (k : Nat) := by rw [hr]; omega
  have h1 : ((k : Nat) : Int) ≥ 0 := by omega
  have h0 : (0 : Int) ≤ ((k : Nat) : Int) := by omega
  have h4 : ((k : Nat) : Int) < ((x.l.length : Nat) : Int) := by omega
  have h3 : (x.l.map Ad.v)[((k : Nat) : Int).toNat]? = some a.v := by rw [hs, ← hr']; simp
  have e1 : IntKind.i64.wrap (((k : Nat) : Int) - 1) = (r'.length : Nat) - 1 := by rw [hr', wrap_id (by unfold I64; omega)]
  rw [lastE_snoc, e0]
  cases he : a.entry with
  | true =>
   rw [if_pos rfl]
   simp only [Ad.B, he]
   generalize x.l.map Ad.v = X at *
   refine loop_step l_index_Index_last_0.eq_1 k_index_Index_last_0.eq_1 (by kernel_rfl) ?_
   simp only [go_sem, h1, h0, h4, h3, gi', pt_set, hx_getS, hx_setS, hb, he, hml, simprocAttr]
  | false =>
   rw [if_neg (by decide)]
   have hN := ih r' (a :: s) hr' (by rw [hs]; simp) (by rw [lastE, hn, he]; rfl)
   obtain ⟨R, hR⟩ : ∃ R, (match lastE r' with
    | some a => some (Out.ret, ([(2, .ptr (pt H 1) 0), (3, .bool true)] : Env), hx H [Box.dead, a.B])
    | none => some (Out.exit 0, [(2, .ptr (pt H 1) 0)], hx H [.dead, zB])) = some R := by
    split <;> exact ⟨_, rfl⟩
   rw [hR] at hN ⊢
   generalize x.l.map Ad.v = X at *
   refine loop_step l_index_Index_last_0.eq_1 k_index_Index_last_0.eq_1 (by kernel_rfl) ?_
   simp only [go_sem, h1, h0, h4, h3, gi', pt_set, hx_getS, hx_setS, he, e1, hml, simprocAttr]
   exact hN
theorem last_spec (x : Ix) (fl : Fl) (hfl : Flag x fl) (hx1 : x.l.length < 1000000000) (i : Nat) (H : Heap) (hi : Old H i (x.B fl)) : W n_index_Index_last [.ptr i 0] H = some (.tuple [lastV (lastE x.l), .bool (lastE x.l).isSome], H) := by
 subst hfl
 have hN := last_loop x hx1 i H hi x.l.length x.l [] rfl (by simp) rfl
 have hth := ith hi
 have gi' := hi.get'
 have e1 : IntKind.i64.wrap ((x.l.length : Int) - 1) = (x.l.length : Int) - 1 := wrap_id (by unfold I64; omega)
 have e2 : (x.l.map Ad.v).length = x.l.length := by simp
 refine W_fn rfl rfl ?_
 cases h : lastE x.l with
 | none =>
  rw [h] at hN
  generalize x.l.map Ad.v = X at *
  simp only [go_sem, c_index_Index_last, hth, gi', pt_set, hx_getS, hx_setS, e1, e2, hN, simprocAttr]
  first | done | rfl
 | some a =>
  rw [h] at hN
  generalize x.l.map Ad.v = X at *
  simp only [go_sem, c_index_Index_last, hth, gi', pt_set, hx_getS, hx_setS, e1, e2, hN, simprocAttr]
  first | done | rfl
abbrev En := Int × Int
abbrev enV (e : En) : AVal := .agg [.int .i64 e.1, .int .i64 e.2]
def ents (l : List Ad) : List En := (l.filter (·.entry)).map fun a => (a.off, a.at_)
theorem ents_cons (a : Ad) (l) : ents (a :: l) = (if a.entry then [(a.off, a.at_)] else []) ++ ents l := by
 unfold ents; cases h : a.entry <;> simp [h]
theorem ents_app (a b : List Ad) : ents (a ++ b) = ents a ++ ents b := by simp [ents]
theorem ents_len (l : List Ad) : (ents l).length ≤ l.length := by unfold ents; rw [List.length_map]; exact List.length_filter_le _ _
theorem W_clipE (xs : List AVal) (H : Heap) : W n_slices_Clip_index_Entry_index_Entry_ [.list 2 xs .ro] H = some (.list 2 xs .full, H) := by
 refine W_fn rfl rfl ?_
 simp only [go_sem, c_slices_Clip_index_Entry_index_Entry_, sl_clip, simprocAttr]
theorem ents_loop (x : Ix) (hl : x.l.length < 1000000000) (i : Nat) (H : Heap) (hi : Old H i (x.B .uniq)) : ∀ (r s : List Ad) (N : Heap) (fe : Fl), x.l = s ++ r → (fe = .own ∨ fe = .full) →
  ∃ N' fe', (fe' = .own ∨ fe' = .full) ∧ loopA W loopW (.ghost (.kill k_index_Index_Entries_0) l_index_Index_Entries_0) [(0, .ptr i 0), (3, .list 2 ((ents s).map enV) fe), (9, .lbox (pt H 0)), (10, .int .i64 (x.l.length : Nat)), (11, .int .i64 (s.length : Nat))] (hx (H.set i (x.T (pt H 0))) (.arr 4 (x.l.map Ad.v) :: N)) =
   some (.exit 0, [(3, .list 2 ((ents x.l).map enV) fe')], hx H (.dead :: N')) := by
 have gi' := hi.get'
 have hb := ibk hi x (x.l.map Ad.v)
 rw [hi.same] at hb
 have hml : (x.l.map Ad.v).length = x.l.length := List.length_map ..
 intro r
 induction r with
 | nil =>
  intro s N fe hs hfe
  rw [List.append_nil] at hs
  refine ⟨N, fe, hfe, ?_⟩
  subst hs
  have h1 : ¬ ((x.l.length : Int) < (x.l.length : Int)) := by omega
  refine loop_step l_index_Index_Entries_0.eq_1 k_index_Index_Entries_0.eq_1 (by kernel_rfl) ?_
  rcases hfe with rfl | rfl <;> simp only [go_sem, h1, hb, simprocAttr]
 | cons a r ih =>
  intro s N fe hs hfe
  have hlen : x.l.length = s.length + (r.length + 1) := by rw [hs, List.length_append, List.length_cons]
  have hel := ents_len s
  have h1 : (s.length : Int) < (x.l.length : Int) := by omega
  have h2 : (0 : Int) ≤ (s.length : Int) := by omega
  have h3 : (x.l.map Ad.v)[((s.length : Nat) : Int).toNat]? = some a.v := by rw [hs]; simp
  have e1 : IntKind.i64.wrap ((s.length : Int) + 1) = ((s.length + 1 : Nat) : Int) := by rw [wrap_id (by unfold I64; omega)]; simp
  have a2 : (((ents s).map enV).length + 1) * 16 ≤ maxBytes := by simp [maxBytes]; omega
  have n1 : ∀ x : Box, (N ++ [x])[N.length]? = some x := fun x => by simp
  have n2 : ∀ x z : Box, (N ++ [x]).set N.length z = N ++ [z] := fun x z => by simp
  have key := ih (s ++ [a]) (N ++ [a.B])
  rw [List.length_append, List.length_singleton] at key
  clear ih
  cases he : a.entry with
  | true =>
   have a1 : (ents s).map enV ++ [AVal.agg [.int .i64 a.off, .int .i64 a.at_]] = (ents (s ++ [a])).map enV := by rw [ents_app, ents_cons, he]; simp [ents]
   obtain ⟨N', fe', hf, hN⟩ := key .own (by rw [hs]; simp) (.inl rfl)
   refine ⟨N', fe', hf, ?_⟩
   generalize x.l.map Ad.v = X at *
   generalize (ents (s ++ [a])).map enV = E2 at *
   generalize (ents s).map enV = E1 at *
   simp only [Ad.B, he] at hN
   refine loop_step l_index_Index_Entries_0.eq_1 k_index_Index_Entries_0.eq_1 (by kernel_rfl) ?_
   rcases hfe with rfl | rfl <;> (simp only [go_sem, h1, h2, h3, gi', pt_set, hx_getS, hx_setS, n1, n2, e1, he, a1, a2, apO, apF, hml, simprocAttr]; exact hN)
  | false =>
   have a1 : (ents (s ++ [a])) = (ents s) := by rw [ents_app, ents_cons, he]; simp [ents]
   obtain ⟨N', fe', hf, hN⟩ := key fe (by rw [hs]; simp) hfe
   refine ⟨N', fe', hf, ?_⟩
   rw [a1] at hN
   generalize x.l.map Ad.v = X at *
   simp only [Ad.B, he] at hN
   refine loop_step l_index_Index_Entries_0.eq_1 k_index_Index_Entries_0.eq_1 (by kernel_rfl) ?_
   rcases hfe with rfl | rfl <;> (simp only [go_sem, h1, h2, h3, gi', pt_set, hx_getS, hx_setS, n1, n2, e1, he, hml, simprocAttr]; exact hN)
theorem under_ents (l : List En) : AVal.underL 0 (l.map enV) = true := uL_map 0 enV (fun _ => rfl) l
theorem entries_spec (x : Ix) (fl : Fl) (hfl : Flag x fl) (hx1 : x.l.length < 1000000000) (i : Nat) (H : Heap) (hi : Old H i (x.B fl)) : W n_index_Index_Entries [.ptr i 0] H = some (.list 2 ((ents x.l).map enV) .full, H) := by
 subst hfl
 have hth := ith hi
 have gi' := hi.get'
 have e2 : (x.l.map Ad.v).length = x.l.length := by simp
 have u := under_ents (ents x.l)
 obtain ⟨N, fe', hf, hN⟩ := ents_loop x hx1 i H hi x.l [] [] .full rfl (.inr rfl)
 simp only [List.map_nil, List.length_nil, show ((0 : Nat) : Int) = 0 from rfl, show ents [] = [] from rfl] at hN
 generalize x.l.map Ad.v = X at *
 generalize (ents x.l).map enV = E at *
 refine W_fn rfl rfl ?_
 rcases hf with rfl | rfl
 all_goals
  simp only [go_sem, c_index_Index_Entries, hth, gi', pt_set, hx_getS, hx_setS, e2, hN, W_clipE, u, simprocAttr]
  first | done | rfl
end Go.Abs
