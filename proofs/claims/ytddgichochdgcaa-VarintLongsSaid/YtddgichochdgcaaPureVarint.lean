/- What the varint functions tell, for any row of bytes whose length is within the bounds that each law names: Put, Text and Long append what the reference appends, Get, Cut and Back read what it reads. -/
import Derived.Test.YtddgichochdgcaaPMx6
import Derived.Test.YtddgichochdgcaaPMx7
import Derived.Laws.BitsAllLaws
import Derived.Laws.BitsLemmas
import Derived.RowKit
import Derived.IntWalk
import Derived.Laws.Strings
namespace Num
open Go Go.RowKit
theorem w64 (n : Int) (h : -9223372036854775808 ≤ n ∧ n ≤ 9223372036854775807) : wrap64 n = n := by unfold wrap64; omega
theorem wu64 (n : Int) : IntKind.u64.wrap n = n % 18446744073709551616 := by simp [IntKind.wrap, IntKind.bits, IntKind.signed]
theorem wu8 (n : Int) : IntKind.u8.wrap n = n % 256 := IntKind.wrap_u8 n
/-- x with all bits turned. -/
theorem xor_ones64 (x : Nat) (hx : x < 18446744073709551616) : x ^^^ 18446744073709551615 = 18446744073709551615 - x := by
  have h := BitVec.toNat_not (x := BitVec.ofNat 64 x)
  have e : (~~~(BitVec.ofNat 64 x)) = BitVec.ofNat 64 x ^^^ BitVec.allOnes 64 := (BitVec.xor_allOnes).symm
  rw [e, BitVec.toNat_xor, BitVec.toNat_allOnes, BitVec.toNat_ofNat, Nat.mod_eq_of_lt (show x < 2 ^ 64 by simpa using hx)] at h
  simpa using h
theorem xor_neg1 (x : Int) (h : -9223372036854775808 ≤ x ∧ x ≤ 9223372036854775807) : bits .xor .i64 x (-1) = -x - 1 := by
  have e : bits .xor .i64 x (-1) = IntKind.i64.wrap (((BitVec.ofInt 64 x) ^^^ (BitVec.ofInt 64 (-1))).toNat : Int) := rfl
  have e1 : BitVec.ofInt 64 (-1) = BitVec.allOnes 64 := by decide
  rw [e, e1, BitVec.xor_allOnes, BitVec.toNat_not, BitVec.toNat_ofInt, IntKind.wrap_i64]
  have h64 : ((2 ^ 64 : Nat) : Int) = 18446744073709551616 := by decide
  have h65 : (2 ^ 64 : Nat) = 18446744073709551616 := by decide
  rw [h64, h65]
  omega
theorem xor_0 (x : Int) (h : -9223372036854775808 ≤ x ∧ x ≤ 9223372036854775807) : bits .xor .i64 x 0 = x := by
  have e : bits .xor .i64 x 0 = IntKind.i64.wrap (((BitVec.ofInt 64 x) ^^^ (BitVec.ofInt 64 0)).toNat : Int) := rfl
  have e1 : BitVec.ofInt 64 0 = 0#64 := by decide
  rw [e, e1, BitVec.xor_zero, BitVec.toNat_ofInt, IntKind.wrap_i64]
  have h64 : ((2 ^ 64 : Nat) : Int) = 18446744073709551616 := by decide
  rw [h64]
  omega
/-- A number's zigzag. -/
def zig (n : Int) : Int := if 0 ≤ n then 2 * n else -2 * n - 1
def zag (u : Int) : Int := if u % 2 = 0 then u / 2 else -(u / 2) - 1
theorem zag_zig (n : Int) : zag (zig n) = n := by unfold zag zig; split <;> split <;> omega
theorem zig_zag (u : Int) (h : 0 ≤ u) : zig (zag u) = u := by unfold zag zig; split <;> split <;> omega
theorem zig_range (n : Int) (h : -9223372036854775808 ≤ n ∧ n ≤ 9223372036854775807) : 0 ≤ zig n ∧ zig n < 18446744073709551616 := by unfold zig; split <;> omega
theorem zag_range (u : Int) (h : 0 ≤ u ∧ u < 18446744073709551616) : -9223372036854775808 ≤ zag u ∧ zag u ≤ 9223372036854775807 := by unfold zag; split <;> omega
theorem xor_u64_ones (x : Int) (h0 : 0 ≤ x) (h1 : x < 18446744073709551616) : bits .xor .u64 x 18446744073709551615 = 18446744073709551615 - x := by
  rw [u64_xor x 18446744073709551615 h0 h1 (by decide) (by decide)]
  have : (18446744073709551615 : Int).toNat = 18446744073709551615 := by decide
  rw [this, xor_ones64 _ (by omega)]; omega
theorem xor_u64_0 (x : Int) (h0 : 0 ≤ x) (h1 : x < 18446744073709551616) : bits .xor .u64 x 0 = x := by
  rw [u64_xor x 0 h0 h1 (by decide) (by decide)]
  simp; omega
/-- As both packages put it: the number times two, turned where it is below 0. -/
theorem zig_ref (n : Int) (h : -9223372036854775808 ≤ n ∧ n ≤ 9223372036854775807) : bits .xor .u64 (IntKind.u64.wrap (wrap64 (n * 2))) (IntKind.u64.wrap (n / 9223372036854775808)) = zig n := by
  unfold zig
  by_cases h0 : 0 ≤ n
  · rw [if_pos h0, show n / 9223372036854775808 = 0 by omega, show IntKind.u64.wrap 0 = 0 from rfl, wu64]
    rw [xor_u64_0 _ (by omega) (by omega)]; unfold wrap64; omega
  · rw [if_neg h0, show n / 9223372036854775808 = -1 by omega, show IntKind.u64.wrap (-1) = 18446744073709551615 by rw [wu64]; rfl, wu64]
    rw [xor_u64_ones _ (by omega) (by omega)]; unfold wrap64; omega
theorem zig_own (n : Int) (h : -9223372036854775808 ≤ n ∧ n ≤ 9223372036854775807) : bits .xor .u64 (IntKind.u64.wrap (IntKind.u64.wrap n * 2)) (IntKind.u64.wrap (n / 9223372036854775808)) = zig n := by
  rw [← zig_ref n h]
  congr 1
  simp only [wu64]; unfold wrap64; omega
theorem and1_u64 (u : Int) (h0 : 0 ≤ u) (h1 : u < 18446744073709551616) : bits .and .u64 u 1 = u % 2 := by
  rw [u64_and u 1 h0 h1 (by decide) (by decide)]
  have : (1 : Int).toNat = 1 := rfl
  rw [this, nat_mask1]; omega
theorem zag_own (u : Int) (h0 : 0 ≤ u) (h1 : u < 18446744073709551616) : bits .xor .i64 (wrap64 (u / 2)) (wrap64 (-(wrap64 (bits .and .u64 u 1)))) = zag u := by
  rw [and1_u64 u h0 h1, w64 (u / 2) (by omega), w64 (u % 2) (by omega), w64 (-(u % 2)) (by omega)]
  unfold zag
  by_cases h : u % 2 = 0
  · rw [if_pos h, h]; exact xor_0 _ (by omega)
  · rw [if_neg h, show u % 2 = 1 by omega]; exact xor_neg1 _ (by omega)
theorem and127_u8 (c : Int) (h0 : 0 ≤ c) (h1 : c < 256) : bits .and .u8 c 127 = c % 128 := by
  rw [u8_and c 127 h0 h1 (by decide) (by decide)]
  have : (127 : Int).toNat = 127 := rfl
  rw [this, nat_mask7]; omega
theorem nat_low7 : ∀ c : Nat, c < 256 → c &&& 18446744073709551487 = c % 128 := by decide +kernel
theorem andNot128 (c : Int) (h0 : 0 ≤ c) (h1 : c < 256) : bits .andNot .u64 c 128 = c % 128 := by
  rw [u64_andNot c 128 h0 (by omega) (by decide) (by decide)]
  have : (18446744073709551615 - (128 : Int).toNat) = 18446744073709551487 := by decide
  rw [this, nat_low7 _ (by omega)]; omega
theorem or128_u8 (c : Int) (h0 : 0 ≤ c) (h1 : c < 256) : bits .or .u8 c 128 = c % 128 + 128 := by
  have g : ∀ n : Nat, n < 256 → n ||| 128 = n % 128 + 128 := by decide +kernel
  rw [u8_or c 128 h0 h1 (by decide) (by decide)]
  have : (128 : Int).toNat = 128 := rfl
  rw [this, g _ (by omega)]; omega
theorem or_u64 (i : Nat) (x y : Int) (hx0 : 0 ≤ x) (hx : x < 2 ^ i) (hy0 : 0 ≤ y) (hy : y % 2 ^ i = 0) (hx1 : x < 18446744073709551616) (hy1 : y < 18446744073709551616) : bits .or .u64 x y = x + y := by
  rw [u64_or x y hx0 hx1 hy0 hy1]
  obtain ⟨a, rfl⟩ := Int.eq_ofNat_of_zero_le hx0
  obtain ⟨b, rfl⟩ := Int.eq_ofNat_of_zero_le hy0
  have h1 : a < 2 ^ i := by exact_mod_cast hx
  have h2 : b % 2 ^ i = 0 := by exact_mod_cast hy
  rw [Int.toNat_natCast, Int.toNat_natCast, Nat.or_comm, nat_join i b a h2 h1]
  omega
end Num
namespace Vt
/-- A row of seven-bit parts, the last of which stands below 128. -/
def enc : Nat → Int → List Int
  | 0, u => [u]
  | f + 1, u => if u ≥ 128 then (u % 128 + 128) :: enc f (u / 128) else [u]
def val : List Int → Int
  | [] => 0
  | c :: r => c % 128 + 128 * val r
theorem enc_ne (f : Nat) (u : Int) : enc f u ≠ [] := by
  cases f with
  | zero => simp [enc]
  | succ f => unfold enc; split <;> simp
theorem pow128 (f : Nat) : (128 : Int) ^ (f + 1) = 128 * 128 ^ f := by rw [Int.pow_succ, Int.mul_comm]
theorem pow_pos (f : Nat) : (0 : Int) < 128 ^ f := Int.pow_pos (by decide)
theorem val_enc (f : Nat) : ∀ u : Int, 0 ≤ u → u < 128 ^ (f + 1) → val (enc f u) = u := by
  induction f with
  | zero => intro u h0 h1; rw [pow128] at h1; simp only [enc, val]; have : (128 : Int) ^ 0 = 1 := rfl; omega
  | succ f ih =>
    intro u h0 h1
    rw [pow128] at h1
    unfold enc
    split
    · rw [val, ih (u / 128) (by omega) (by omega)]; omega
    · simp only [val]; omega
theorem enc_bytes (f : Nat) : ∀ u : Int, 0 ≤ u → u < 128 ^ (f + 1) → ∀ c ∈ enc f u, 0 ≤ c ∧ c < 256 := by
  induction f with
  | zero => intro u h0 h1 c hc; rw [pow128] at h1; have : (128 : Int) ^ 0 = 1 := rfl; simp only [enc, List.mem_singleton] at hc; omega
  | succ f ih =>
    intro u h0 h1 c hc
    rw [pow128] at h1
    unfold enc at hc
    split at hc
    · rcases List.mem_cons.1 hc with rfl | hc
      · omega
      · exact ih (u / 128) (by omega) (by omega) c hc
    · simp only [List.mem_singleton] at hc; omega
theorem enc_len (f : Nat) : ∀ (i : Nat) (u : Int), 0 ≤ u → u < 128 ^ (i + 1) → (enc f u).length ≤ i + 1 := by
  induction f with
  | zero => intro i u _ _; simp [enc]
  | succ f ih =>
    intro i u h0 h1
    unfold enc
    split
    · cases i with
      | zero => rw [pow128] at h1; have : (128 : Int) ^ 0 = 1 := rfl; omega
      | succ i =>
        rw [pow128] at h1
        have := ih i (u / 128) (by omega) (by omega)
        simp only [List.length_cons]; omega
    · simp
theorem enc_len' (f : Nat) (u : Int) : (enc f u).length ≤ f + 1 := by
  induction f generalizing u with
  | zero => simp [enc]
  | succ f ih => unfold enc; split
                 · have := ih (u / 128); simp only [List.length_cons]; omega
                 · simp
theorem val_nonneg (l : List Int) : 0 ≤ val l := by
  induction l with
  | nil => simp [val]
  | cons c r ih => simp only [val]; omega
theorem val_lt (l : List Int) : val l < 128 ^ l.length := by
  induction l with
  | nil => simp [val]
  | cons c r ih => simp only [val, List.length_cons]; rw [pow128]; omega
theorem val_append (l m : List Int) : val (l ++ m) = val l + 128 ^ l.length * val m := by
  induction l with
  | nil => simp [val]
  | cons c r ih =>
    simp only [List.cons_append, val, List.length_cons, ih]
    rw [pow128, Int.mul_add, ← Int.mul_assoc]; omega
theorem val_pos (c : Int) (h0 : 0 < c) (h1 : c < 128) (pre : List Int) : 128 ^ pre.length ≤ val (pre ++ [c]) := by
  rw [val_append]
  have h2 := val_nonneg pre
  have h3 : val [c] = c := by simp only [val]; omega
  rw [h3]
  have h4 := pow_pos pre.length
  have h5 : (128 : Int) ^ pre.length * 1 ≤ 128 ^ pre.length * c := Int.mul_le_mul_of_nonneg_left (by omega) (by omega)
  omega
/-- The row itself comes back, if its last part is not 0 (or stands alone). -/
theorem enc_val (f : Nat) : ∀ (pre : List Int) (c : Int), (∀ x ∈ pre, 128 ≤ x ∧ x < 256) → 0 ≤ c → c < 128 → (c ≠ 0 ∨ pre = []) → pre.length ≤ f → enc f (val (pre ++ [c])) = pre ++ [c] := by
  induction f with
  | zero =>
    intro pre c hp h0 h1 hc hl
    have : pre = [] := List.eq_nil_of_length_eq_zero (by omega)
    subst this
    simp only [enc, List.nil_append, val]; congr 1; omega
  | succ f ih =>
    intro pre c hp h0 h1 hc hl
    cases pre with
    | nil => simp only [List.nil_append, val, enc]; rw [if_neg (by omega)]; congr 1; omega
    | cons x r =>
      have hx := hp x (List.mem_cons_self ..)
      have hne : c ≠ 0 := by rcases hc with h | h; exact h; cases h
      have hpos : 1 ≤ val (r ++ [c]) := by
        have := val_pos c (by omega) h1 r
        have := pow_pos r.length
        omega
      simp only [List.cons_append, val, enc]
      rw [if_pos (by omega)]
      have e1 : (x % 128 + 128 * val (r ++ [c])) % 128 + 128 = x := by omega
      have e2 : (x % 128 + 128 * val (r ++ [c])) / 128 = val (r ++ [c]) := by omega
      rw [e1, e2, ih r c (fun y hy => hp y (List.mem_cons_of_mem _ hy)) h0 h1 (.inl hne) (by simpa using hl)]
/-- What a row looks like: all but the last stand at 128 and above. -/
theorem enc_shape (f : Nat) : ∀ u : Int, 0 ≤ u → u < 128 ^ (f + 1) → ∃ pre c, enc f u = pre ++ [c] ∧ (∀ x ∈ pre, 128 ≤ x ∧ x < 256) ∧ 0 ≤ c ∧ c < 128 ∧ (c ≠ 0 ∨ pre = []) := by
  induction f with
  | zero => intro u h0 h1; rw [pow128] at h1; have : (128 : Int) ^ 0 = 1 := rfl; exact ⟨[], u, rfl, fun x hx => by simp at hx, h0, by omega, .inr rfl⟩
  | succ f ih =>
    intro u h0 h1
    rw [pow128] at h1
    unfold enc
    split
    · obtain ⟨pre, c, he, hp, hc0, hc1, hz⟩ := ih (u / 128) (by omega) (by omega)
      refine ⟨(u % 128 + 128) :: pre, c, by rw [he]; rfl, fun x hx => ?_, hc0, hc1, .inl ?_⟩
      · rcases List.mem_cons.1 hx with rfl | hx
        · omega
        · exact hp x hx
      · rcases hz with h | h
        · exact h
        · subst h
          have hv := val_enc f (u / 128) (by omega) (by omega)
          rw [he] at hv
          simp only [List.nil_append, val] at hv
          omega
    · exact ⟨[], u, rfl, fun x hx => by simp at hx, h0, by omega, .inr rfl⟩
/-- The number at the front of a row, u so far behind i parts; how many parts it takes. -/
def dec : List Int → Nat → Int → Option (Int × Nat)
  | [], _, _ => none
  | c :: r, i, u => if i ≥ 10 then none else if i = 9 ∧ c % 128 ≥ 2 then none else if c ≥ 128 then dec r (i + 1) (u + 128 ^ i * (c % 128)) else if c = 0 ∧ i > 0 then none else some (u + 128 ^ i * (c % 128), i + 1)
theorem dec_cont (r : List Int) : ∀ (pre : List Int) (i : Nat) (u : Int), (∀ x ∈ pre, 128 ≤ x ∧ x < 256) → i + pre.length ≤ 9 → dec (pre ++ r) i u = dec r (i + pre.length) (u + 128 ^ i * val pre) := by
  intro pre
  induction pre with
  | nil => intro i u _ _; simp [val]
  | cons x p ih =>
    intro i u hp hl
    have hx := hp x (List.mem_cons_self ..)
    simp only [List.length_cons] at hl
    rw [List.cons_append, dec, if_neg (by omega), if_neg (by omega), if_pos (by omega), ih (i + 1) _ (fun y hy => hp y (List.mem_cons_of_mem _ hy)) (by omega)]
    have e : i + 1 + p.length = i + (x :: p).length := by simp only [List.length_cons]; omega
    rw [e]
    congr 1
    simp only [val]
    rw [pow128, Int.mul_add, Int.add_assoc]
    congr 2
    rw [Int.mul_comm 128, Int.mul_assoc]
/-- What is put is got, whatever stands behind it. -/
theorem dec_enc (u : Int) (h0 : 0 ≤ u) (h1 : u < 18446744073709551616) (r : List Int) : dec (enc 9 u ++ r) 0 0 = some (u, (enc 9 u).length) := by
  have hp : u < 128 ^ (9 + 1) := Int.lt_trans h1 (by decide)
  obtain ⟨pre, c, he, hpre, hc0, hc1, hz⟩ := enc_shape 9 u h0 hp
  have hv := val_enc 9 u h0 hp
  have hl := enc_len 9 9 u h0 hp
  rw [he] at hv hl ⊢
  rw [List.length_append, List.length_singleton] at hl
  rw [List.append_assoc, dec_cont _ pre 0 0 hpre (by omega), List.singleton_append, dec]
  have hvc : val [c] = c := by simp only [val]; omega
  rw [val_append, hvc] at hv
  have hvp := val_nonneg pre
  have hpp := pow_pos pre.length
  rw [if_neg (by omega), if_neg, if_neg (by omega), if_neg]
  · rw [show c % 128 = c by omega, List.length_append, List.length_singleton]
    have : (128 : Int) ^ 0 = 1 := rfl
    rw [this, Int.one_mul, Int.zero_add, Nat.zero_add, hv]
  · rintro ⟨rfl, hi⟩
    rcases hz with h | h
    · exact h rfl
    · subst h; simp at hi
  · rintro ⟨hi, hc⟩
    rw [Nat.zero_add] at hi
    rw [hi] at hv
    have : (128 : Int) ^ 9 = 9223372036854775808 := by decide
    rw [this] at hv
    omega
/-- A row whose parts all go on has no number. -/
theorem dec_none (pre : List Int) : ∀ (i : Nat) (u : Int), (∀ x ∈ pre, 128 ≤ x ∧ x < 256) → dec pre i u = none := by
  induction pre with
  | nil => intro i u _; rfl
  | cons x p ih =>
    intro i u hp
    have hx := hp x (List.mem_cons_self ..)
    rw [dec]
    split
    · rfl
    · split
      · rfl
      · rw [if_pos (by omega)]; exact ih _ _ (fun y hy => hp y (List.mem_cons_of_mem _ hy))
theorem val_single (c : Int) (h0 : 0 ≤ c) (h1 : c < 128) : val [c] = c := by simp only [val]; omega
theorem pow_mono {i j : Nat} (h : i ≤ j) : (128 : Int) ^ i ≤ 128 ^ j := by
  have h2 : 128 ^ i ≤ 128 ^ j := Nat.pow_le_pow_right (by decide) h
  exact_mod_cast h2
theorem enc_short (pre : List Int) (h : pre ≠ []) : enc 9 (val (pre ++ [0])) ≠ pre ++ [0] := by
  intro he
  cases hl : pre.length with
  | zero => exact h (List.eq_nil_of_length_eq_zero hl)
  | succ i =>
    have e : val (pre ++ [0]) = val pre := by rw [val_append]; simp [val]
    have h1 := val_lt pre
    rw [hl] at h1
    have h2 := enc_len 9 i (val pre) (val_nonneg pre) h1
    rw [e] at he
    rw [he, List.length_append, List.length_singleton] at h2
    omega
/-- The last part, told by what is put again. -/
theorem dec_last (pre : List Int) (c : Int) (r : List Int) (hp : ∀ x ∈ pre, 128 ≤ x ∧ x < 256) (hl : pre.length ≤ 9) (h0 : 0 ≤ c) (h1 : c < 128) (u : Int) (hu : u = (val pre + 128 ^ pre.length * c) % 18446744073709551616) :
    (enc 9 u = pre ++ [c] → dec (c :: r) pre.length (val pre) = some (u, pre.length + 1)) ∧ (enc 9 u ≠ pre ++ [c] → dec (c :: r) pre.length (val pre) = none) := by
  have hv : val (pre ++ [c]) = val pre + 128 ^ pre.length * c := by rw [val_append, val_single c h0 h1]
  rw [← hv] at hu
  have hn := val_nonneg (pre ++ [c])
  have hc : c % 128 = c := by omega
  have hz : c = 0 → pre.length > 0 → enc 9 u ≠ pre ++ [c] ∧ u = val pre := by
    intro hc0 hpl
    subst hc0
    have e : val (pre ++ [0]) = val pre := by rw [val_append]; simp [val]
    have h3 : val pre < 18446744073709551616 := by
      have h4 := val_lt pre
      have h5 : (128 : Int) ^ pre.length ≤ 128 ^ 9 := pow_mono hl
      have h6 : (128 : Int) ^ 9 = 9223372036854775808 := by decide
      omega
    have h4 := val_nonneg pre
    have hu' : u = val (pre ++ [0]) := by rw [hu, e]; omega
    refine ⟨?_, by rw [hu', e]⟩
    rw [hu']
    exact enc_short pre (fun h => by rw [h] at hpl; simp at hpl)
  rw [dec, if_neg (by omega), if_neg (by omega : ¬ c ≥ 128), hc]
  by_cases h9 : pre.length = 9 ∧ c ≥ 2
  · rw [if_pos h9]
    refine ⟨fun he => ?_, fun _ => rfl⟩
    have hu2 : 0 ≤ u ∧ u < 18446744073709551616 := by omega
    have h3 := val_enc 9 u hu2.1 (Int.lt_trans hu2.2 (by decide))
    rw [he, hv] at h3
    rw [h9.1] at h3
    have h6 : (128 : Int) ^ 9 = 9223372036854775808 := by decide
    have h7 := val_nonneg pre
    rw [h6] at h3
    omega
  · rw [if_neg h9]
    have hsmall : val (pre ++ [c]) < 18446744073709551616 := by
      rw [hv]
      have h4 := val_lt pre
      have h6 : (128 : Int) ^ 9 = 9223372036854775808 := by decide
      by_cases h8 : pre.length = 9
      · rw [h8] at h4 ⊢; rw [h6] at h4 ⊢; omega
      · have h5 : (128 : Int) ^ (pre.length + 1) ≤ 128 ^ 9 := pow_mono (by omega)
        rw [pow128, h6] at h5
        have h7 : (128 : Int) ^ pre.length * c ≤ 128 ^ pre.length * 127 := Int.mul_le_mul_of_nonneg_left (by omega) (Int.le_of_lt (pow_pos _))
        omega
    have hu' : u = val (pre ++ [c]) := by omega
    by_cases hc0 : c = 0 ∧ pre.length > 0
    · rw [if_pos hc0]
      exact ⟨fun he => absurd he (hz hc0.1 hc0.2).1, fun _ => rfl⟩
    · rw [if_neg hc0]
      refine ⟨fun _ => by rw [hu', hv], fun he => absurd ?_ he⟩
      rw [hu']
      refine enc_val 9 pre c hp h0 h1 ?_ hl
      by_cases h : c = 0
      · right; exact List.eq_nil_of_length_eq_zero (by omega)
      · left; exact h
end Vt
namespace Go.Proofs.Ytddgichochdgcaa.VarPure
open Go Go.RowKit Go.Proofs.Ytddgichochdgcaa.PM Go.Proofs.YtddgichochdgcaaV.PrintWords Go.Proofs.YtddgichochdgcaaV.PrintLast Go.Proofs.YtddgichochdgcaaV.PrintMore
set_option linter.unusedVariables false
def Bytes (l : List Int) : Prop := ∀ x ∈ l, 0 ≤ x ∧ x < 256
def I64 (n : Int) : Prop := -9223372036854775808 ≤ n ∧ n ≤ 9223372036854775807
theorem rd_at (l : List Int) (i : Nat) (h : i < l.length) : rd l (i : Int) = l[i] := by
  unfold rd
  rw [Int.toNat_natCast, List.getD_eq_getElem?_getD, List.getElem?_eq_getElem h]; rfl
theorem rd_app (p : List Int) (c : Int) (r : List Int) : rd (p ++ c :: r) (p.length : Int) = c := by
  unfold rd
  rw [Int.toNat_natCast, List.getD_eq_getElem?_getD, List.getElem?_append_right (Nat.le_refl _), Nat.sub_self]; rfl
theorem put_own (f : Nat) : ∀ (k : Nat) (l : List Int) (u : Int), 0 ≤ u → u < 128 ^ (f + 1) → f < k → l.length + f + 1 < 140737488355328 → varint_Put.l0 k l u = some (l ++ Vt.enc f u) := by
  induction f with
  | zero =>
    intro k l u h0 h1 hk hl
    obtain ⟨k, rfl⟩ : ∃ m, k = m + 1 := ⟨k - 1, by omega⟩
    rw [Vt.pow128] at h1
    have : (128 : Int) ^ 0 = 1 := rfl
    rw [varint_Put.l0, if_neg (by omega), if_pos (by omega), show u % 256 = u by omega]; rfl
  | succ f ih =>
    intro k l u h0 h1 hk hl
    obtain ⟨k, rfl⟩ : ∃ m, k = m + 1 := ⟨k - 1, by omega⟩
    rw [Vt.pow128] at h1
    rw [varint_Put.l0, Vt.enc]
    by_cases h : u ≥ 128
    · rw [if_pos h, if_pos (by omega), if_pos h, Num.or128_u8 _ (by omega) (by omega), show u % 256 % 128 = u % 128 by omega, ih k _ _ (by omega) (by omega) (by omega) (by simp only [List.length_append, List.length_cons, List.length_nil]; omega), List.append_assoc]; rfl
    · rw [if_neg h, if_pos (by omega), if_neg h, show u % 256 = u by omega]
theorem put_ref (f : Nat) : ∀ (k : Nat) (l : List Int) (u : Int), 0 ≤ u → u < 128 ^ (f + 1) → f < k → l.length + f + 1 < 140737488355328 → bordereauref1_Put.l0 k l u = some (l ++ Vt.enc f u) := by
  induction f with
  | zero =>
    intro k l u h0 h1 hk hl
    obtain ⟨k, rfl⟩ : ∃ m, k = m + 1 := ⟨k - 1, by omega⟩
    rw [Vt.pow128] at h1
    have : (128 : Int) ^ 0 = 1 := rfl
    rw [bordereauref1_Put.l0, if_neg (by omega), if_pos (by omega), show u % 256 = u by omega]; rfl
  | succ f ih =>
    intro k l u h0 h1 hk hl
    obtain ⟨k, rfl⟩ : ∃ m, k = m + 1 := ⟨k - 1, by omega⟩
    rw [Vt.pow128] at h1
    rw [bordereauref1_Put.l0, Vt.enc]
    by_cases h : u ≥ 128
    · rw [if_pos h, if_pos (by omega), if_pos h, Num.or128_u8 _ (by omega) (by omega), show u % 256 % 128 = u % 128 by omega, ih k _ _ (by omega) (by omega) (by omega) (by simp only [List.length_append, List.length_cons, List.length_nil]; omega), List.append_assoc]; rfl
    · rw [if_neg h, if_pos (by omega), if_neg h, show u % 256 = u by omega]
def E (n : Int) : List Int := Vt.enc 9 (Num.zig n)
theorem E_len (n : Int) : (E n).length ≤ 10 := Vt.enc_len' 9 _
theorem E_bytes (n : Int) (h : I64 n) : Bytes (E n) := by
  have hz := Num.zig_range n h
  exact Vt.enc_bytes 9 _ hz.1 (Int.lt_trans hz.2 (by decide))
theorem put_spec (k : Nat) (l : List Int) (n : Int) (h : I64 n) (hk : 9 < k) (hl : l.length + 10 < 140737488355328) : varint_Put.f k l n = some (l ++ E n) := by
  have hz := Num.zig_range n h
  unfold varint_Put.f slices_Clone_byte_byte.f
  rw [if_pos (by omega), Option.bind_some, Num.zig_own n h, put_own 9 k l _ hz.1 (Int.lt_trans hz.2 (by decide)) hk (by omega)]; rfl
theorem ref_put_spec (k : Nat) (l : List Int) (n : Int) (h : I64 n) (hk : 9 < k) (hl : l.length + 10 < 140737488355328) : bordereauref1_Put.f k l n = some (l ++ E n) := by
  have hz := Num.zig_range n h
  unfold bordereauref1_Put.f
  rw [Option.bind_some, if_pos (by simp only [List.length_nil]; omega), Num.zig_ref n h, List.nil_append, put_ref 9 k l _ hz.1 (Int.lt_trans hz.2 (by decide)) hk (by omega)]; rfl
theorem shl7 (i : Nat) (hi : i < 10) (c : Int) : shl .u64 c (wrap64 ((i : Int) * 7)) = (c * 128 ^ i) % 18446744073709551616 := by
  unfold shl
  rw [Num.wu64, Num.w64 _ (by omega)]
  have e : min ((i : Int) * 7).toNat IntKind.u64.bits = 7 * i := by show min _ 64 = _; omega
  rw [e, show (2 : Int) ^ (7 * i) = 128 ^ i by rw [Int.pow_mul]; rfl]
theorem shr7 (i : Nat) (hi : i < 10) (c : Int) : shr .u64 c (wrap64 ((i : Int) * 7)) = c / 128 ^ i := by
  unfold shr
  rw [Num.w64 _ (by omega)]
  have e : min ((i : Int) * 7).toNat IntKind.u64.bits = 7 * i := by show min _ 64 = _; omega
  rw [e, show (2 : Int) ^ (7 * i) = 128 ^ i by rw [Int.pow_mul]; rfl]
/-- Back and forth: what is left of a group of seven bits at its place. -/
theorem group (i : Nat) (hi : i < 10) (c : Int) (h0 : 0 ≤ c) (h1 : c < 128) : ((c * 128 ^ i) % 18446744073709551616 / 128 ^ i = c) ↔ ¬ (i = 9 ∧ c ≥ 2) := by
  match i, hi with
  | 0, _ => have e : (128 : Int) ^ 0 = 1 := rfl; rw [e]; omega
  | 1, _ => have e : (128 : Int) ^ 1 = 128 := rfl; rw [e]; omega
  | 2, _ => have e : (128 : Int) ^ 2 = 16384 := rfl; rw [e]; omega
  | 3, _ => have e : (128 : Int) ^ 3 = 2097152 := rfl; rw [e]; omega
  | 4, _ => have e : (128 : Int) ^ 4 = 268435456 := rfl; rw [e]; omega
  | 5, _ => have e : (128 : Int) ^ 5 = 34359738368 := rfl; rw [e]; omega
  | 6, _ => have e : (128 : Int) ^ 6 = 4398046511104 := rfl; rw [e]; omega
  | 7, _ => have e : (128 : Int) ^ 7 = 562949953421312 := rfl; rw [e]; omega
  | 8, _ => have e : (128 : Int) ^ 8 = 72057594037927936 := rfl; rw [e]; omega
  | 9, _ => have e : (128 : Int) ^ 9 = 9223372036854775808 := rfl; rw [e]; omega
/-- A group of seven bits is put above what there is. -/
theorem joins (i : Nat) (hi : i < 10) (u c : Int) (u0 : 0 ≤ u) (u1 : u < 128 ^ i) (h0 : 0 ≤ c) (h1 : c < 128) :
    bits .or .u64 u ((c * 128 ^ i) % 18446744073709551616) = (u + 128 ^ i * c) % 18446744073709551616 ∧ (i < 9 → (u + 128 ^ i * c) < 18446744073709551616) ∧ u < 18446744073709551616 := by
  have hp : (2 : Int) ^ (7 * i) = 128 ^ i := by rw [Int.pow_mul]; rfl
  have key : u < 18446744073709551616 ∧ ((c * 128 ^ i) % 18446744073709551616) % 128 ^ i = 0 ∧ (u + (c * 128 ^ i) % 18446744073709551616) = (u + 128 ^ i * c) % 18446744073709551616 ∧ (i < 9 → (u + 128 ^ i * c) < 18446744073709551616) := by
    clear hp
    match i, hi with
    | 0, _ => have e : (128 : Int) ^ 0 = 1 := rfl; rw [e] at u1 ⊢; omega
    | 1, _ => have e : (128 : Int) ^ 1 = 128 := rfl; rw [e] at u1 ⊢; omega
    | 2, _ => have e : (128 : Int) ^ 2 = 16384 := rfl; rw [e] at u1 ⊢; omega
    | 3, _ => have e : (128 : Int) ^ 3 = 2097152 := rfl; rw [e] at u1 ⊢; omega
    | 4, _ => have e : (128 : Int) ^ 4 = 268435456 := rfl; rw [e] at u1 ⊢; omega
    | 5, _ => have e : (128 : Int) ^ 5 = 34359738368 := rfl; rw [e] at u1 ⊢; omega
    | 6, _ => have e : (128 : Int) ^ 6 = 4398046511104 := rfl; rw [e] at u1 ⊢; omega
    | 7, _ => have e : (128 : Int) ^ 7 = 562949953421312 := rfl; rw [e] at u1 ⊢; omega
    | 8, _ => have e : (128 : Int) ^ 8 = 72057594037927936 := rfl; rw [e] at u1 ⊢; omega
    | 9, _ => have e : (128 : Int) ^ 9 = 9223372036854775808 := rfl; rw [e] at u1 ⊢; omega
  refine ⟨?_, key.2.2.2, key.1⟩
  rw [Num.or_u64 (7 * i) u _ u0 (by rw [hp]; exact u1) (by omega) (by rw [hp]; exact key.2.1) key.1 (by omega)]
  exact key.2.2.1
/-- What Get tells of what dec tells. -/
def told : Option (Int × Nat) → Int × Int
  | none => (0, 0)
  | some (u, n) => (Num.zag u, (n : Int))
theorem get_loop (l : List Int) (hb : Bytes l) (hl : l.length < 9223372036854775807) (r : List Int) : ∀ (p : List Int) (u : Int) (k : Nat), l = p ++ r → p.length ≤ 10 → 0 ≤ u → u < 128 ^ p.length → 11 < k + p.length → varint_Get.l0 k l u (mn (l.length : Int) 10) (p.length : Int) = some (told (Vt.dec r p.length u)) := by
  induction r with
  | nil =>
    intro p u k hp h10 _ _ hk
    obtain ⟨k, rfl⟩ : ∃ m, k = m + 1 := ⟨k - 1, by omega⟩
    have hlen : l.length = p.length := by rw [hp, List.append_nil]
    rw [varint_Get.l0, if_neg (by unfold mn; split <;> omega)]; rfl
  | cons c r ih =>
    intro p u k hp h10 u0 u1 hk
    obtain ⟨k, rfl⟩ : ∃ m, k = m + 1 := ⟨k - 1, by omega⟩
    have hlen : l.length = p.length + (r.length + 1) := by rw [hp, List.length_append, List.length_cons]
    have hc := hb c (by rw [hp]; simp)
    rw [Vt.dec, varint_Get.l0]
    by_cases hi : p.length ≥ 10
    · rw [if_pos hi, if_neg (by unfold mn; split <;> omega)]; rfl
    · have hrd : rd l (p.length : Int) = c := by rw [hp]; exact rd_app p c r
      rw [if_neg hi, if_pos (by unfold mn; split <;> omega), if_pos (by omega), if_pos (by omega), if_pos (by rw [Num.w64 _ (by omega)]; omega), hrd, show IntKind.u64.wrap c = c by rw [Num.wu64]; omega, Num.andNot128 c hc.1 hc.2, shl7 _ (by omega), shr7 _ (by omega)]
      have hg := group p.length (by omega) (c % 128) (by omega) (by omega)
      have hj := joins p.length (by omega) u (c % 128) u0 u1 (by omega) (by omega)
      by_cases h9 : p.length = 9 ∧ c % 128 ≥ 2
      · rw [if_neg (fun h => hg.1 h h9), if_pos h9]; rfl
      · rw [if_pos (hg.2 h9), if_neg h9, hj.1]
        have hu : (u + 128 ^ p.length * (c % 128)) % 18446744073709551616 = u + 128 ^ p.length * (c % 128) := by
          have : u + 128 ^ p.length * (c % 128) < 18446744073709551616 := by
            by_cases h : p.length < 9
            · exact hj.2.1 h
            · have h1 : p.length = 9 := by omega
              have e : (128 : Int) ^ p.length = 9223372036854775808 := by rw [h1]; rfl
              rw [e] at u1 ⊢
              omega
          have h3 : 0 ≤ 128 ^ p.length * (c % 128) := Int.mul_nonneg (Int.le_of_lt (Vt.pow_pos _)) (by omega)
          omega
        rw [hu]
        have h3 : 0 ≤ 128 ^ p.length * (c % 128) := Int.mul_nonneg (Int.le_of_lt (Vt.pow_pos _)) (by omega)
        by_cases h128 : c ≥ 128
        · rw [if_pos h128, if_pos h128, Num.w64 _ (by omega)]
          have := ih (p ++ [c]) (u + 128 ^ p.length * (c % 128)) k (by rw [hp, List.append_assoc]; rfl) (by simp only [List.length_append, List.length_cons, List.length_nil]; omega) (by omega) ?_ (by simp only [List.length_append, List.length_cons, List.length_nil]; omega)
          · rw [List.length_append, List.length_cons, List.length_nil] at this
            exact this
          · rw [List.length_append, List.length_cons, List.length_nil, Nat.zero_add, Vt.pow128]
            have h4 : 128 ^ p.length * (c % 128) ≤ 128 ^ p.length * 127 := Int.mul_le_mul_of_nonneg_left (by omega) (Int.le_of_lt (Vt.pow_pos _))
            omega
        · have hz := Num.zag_own (u + 128 ^ p.length * (c % 128)) (by omega) (by omega)
          rw [if_neg h128, if_neg h128, hz, Num.w64 _ (by omega)]
          by_cases h0 : c = 0
          · rw [if_pos h0]
            by_cases hp0 : p.length > 0
            · rw [if_pos (by omega), if_pos ⟨h0, hp0⟩]; rfl
            · rw [if_neg (by omega), if_neg (fun h => hp0 h.2)]; rfl
          · rw [if_neg h0, if_neg (fun h => h0 h.1)]; rfl
theorem get_spec (k : Nat) (l : List Int) (hb : Bytes l) (hl : l.length < 9223372036854775807) (hk : 11 < k) : varint_Get.f k l = some (told (Vt.dec l 0 0)) :=
  get_loop l hb hl l [] 0 k rfl (by decide) (by decide) (by decide) (by simpa using hk)
theorem str_inj (l m : List Int) (hl : Bytes l) (hm : Bytes m) (h : (strOfNums l).toList = (strOfNums m).toList) : l = m := by
  have key : ∀ (l m : List Int), Bytes l → Bytes m → (l.map fun n => UInt8.ofNat n.toNat) = (m.map fun n => UInt8.ofNat n.toNat) → l = m := by
    intro l
    induction l with
    | nil => intro m _ _ h; cases m with
             | nil => rfl
             | cons y m => simp at h
    | cons x l ih =>
      intro m hl hm h
      cases m with
      | nil => simp at h
      | cons y m =>
        simp only [List.map_cons, List.cons.injEq] at h
        have hx := hl x (by simp)
        have hy := hm y (by simp)
        have e := congrArg UInt8.toNat h.1
        simp only [UInt8.toNat_ofNat'] at e
        rw [ih m (fun z hz => hl z (List.mem_cons_of_mem _ hz)) (fun z hz => hm z (List.mem_cons_of_mem _ hz)) h.2]
        congr 1
        omega
  refine key l m hl hm ?_
  have e : ∀ l, (strOfNums l).toList = l.map fun n => UInt8.ofNat n.toNat := by
    intro l
    rw [← strOfNums_data, ByteArray.toList_eq]
  rw [← e, ← e, h]
theorem bytes_app {l m : List Int} (h : Bytes l) (k : Bytes m) : Bytes (l ++ m) := fun x hx => (List.mem_append.1 hx).elim (h x) (k x)
theorem bytes_take {l : List Int} (n : Nat) (h : Bytes l) : Bytes (l.take n) := fun x hx => h x (List.mem_of_mem_take hx)
theorem bytes_drop {l : List Int} (n : Nat) (h : Bytes l) : Bytes (l.drop n) := fun x hx => h x (List.mem_of_mem_drop hx)

/-- The reference's Get: the same. -/
theorem ref_get_loop (l : List Int) (hb : Bytes l) (hl : l.length < 9223372036854775807) (r : List Int) : ∀ (p : List Int) (u : Int) (k : Nat), l = p ++ r → (∀ x ∈ p, 128 ≤ x ∧ x < 256) → p.length ≤ 10 → (p.length ≤ 9 → u = Vt.val p) → 42 < k + 2 * p.length → bordereauref1_Get.l0 k l u (p.length : Int) = some (told (Vt.dec r p.length (Vt.val p))) := by
  induction r with
  | nil =>
    intro p u k hp hc h10 hu hk
    obtain ⟨k, rfl⟩ : ∃ m, k = m + 2 := ⟨k - 2, by omega⟩
    have hlen : l.length = p.length := by rw [hp, List.append_nil]
    rw [bordereauref1_Get.l0, if_neg (by omega), bordereauref1_Get.j1, if_neg (by decide)]; rfl
  | cons c r ih =>
    intro p u k hp hpc h10 hu hk
    obtain ⟨k, rfl⟩ : ∃ m, k = m + 2 := ⟨k - 2, by omega⟩
    have hlen : l.length = p.length + (r.length + 1) := by rw [hp, List.length_append, List.length_cons]
    have hc := hb c (by rw [hp]; simp)
    rw [bordereauref1_Get.l0, if_pos (by omega), bordereauref1_Get.j1]
    by_cases hi : p.length ≥ 10
    · rw [if_neg (by simp; omega), Vt.dec, if_pos hi]; rfl
    · have hrd : rd l (p.length : Int) = c := by rw [hp]; exact rd_app p c r
      have hsh : IntKind.u64.wrap (wrap64 (7 * (p.length : Int))) = wrap64 ((p.length : Int) * 7) := by rw [Num.wu64, Num.w64 _ (by omega), Num.w64 _ (by omega)]; omega
      rw [if_pos (by simp; omega), if_pos (by omega), if_pos (by omega), hsh, if_pos (by rw [Num.w64 _ (by omega)]; omega), hrd, Num.and127_u8 c hc.1 hc.2, show IntKind.u64.wrap (c % 128) = c % 128 by rw [Num.wu64]; omega, shl7 _ (by omega), hu (by omega)]
      have hv0 := Vt.val_nonneg p
      have hv1 := Vt.val_lt p
      have hj := joins p.length (by omega) (Vt.val p) (c % 128) hv0 hv1 (by omega) (by omega)
      rw [hj.1]
      by_cases h128 : c < 128
      · have e128 : c % 128 = c := by omega
        rw [if_pos h128, e128]
        have hr : 0 ≤ (Vt.val p + 128 ^ p.length * c) % 18446744073709551616 ∧ (Vt.val p + 128 ^ p.length * c) % 18446744073709551616 < 18446744073709551616 := by omega
        have hz := Num.zag_own _ hr.1 hr.2
        have hzr := Num.zag_range _ hr
        rw [hz, ref_put_spec k [] _ hzr (by omega) (by simp), Option.bind_some, Num.w64 _ (by omega), if_pos (by omega), if_pos (by omega)]
        have htk : l.take ((p.length : Int) + 1).toNat = p ++ [c] := by
          rw [show ((p.length : Int) + 1).toNat = p.length + 1 by omega, hp, List.take_append, List.take_of_length_le (by omega), Nat.add_sub_cancel_left]; rfl
        have hE : ([] : List Int) ++ E (Num.zag ((Vt.val p + 128 ^ p.length * c) % 18446744073709551616)) = Vt.enc 9 ((Vt.val p + 128 ^ p.length * c) % 18446744073709551616) := by
          unfold E; rw [Num.zig_zag _ hr.1]; rfl
        rw [htk, hE]
        have hd := Vt.dec_last p c r hpc (by omega) hc.1 h128 _ rfl
        have hbp : Bytes (p ++ [c]) := bytes_app (fun x hx => ⟨by have := hpc x hx; omega, (hpc x hx).2⟩) (fun x hx => by rw [List.mem_singleton] at hx; omega)
        have hbe : Bytes (Vt.enc 9 ((Vt.val p + 128 ^ p.length * c) % 18446744073709551616)) := Vt.enc_bytes 9 _ hr.1 (Int.lt_trans hr.2 (by decide))
        by_cases he : Vt.enc 9 ((Vt.val p + 128 ^ p.length * c) % 18446744073709551616) = p ++ [c]
        · rw [if_pos (by rw [he]), hd.1 he]; rfl
        · rw [if_neg (fun h => he (str_inj _ _ hbe hbp h)), hd.2 he]; rfl
      · rw [if_neg h128, Num.w64 _ (by omega)]
        have hnx := ih (p ++ [c]) ((Vt.val p + 128 ^ p.length * (c % 128)) % 18446744073709551616) k (by rw [hp, List.append_assoc]; rfl) (fun x hx => (List.mem_append.1 hx).elim (hpc x) (fun h => by rw [List.mem_singleton] at h; omega)) (by simp only [List.length_append, List.length_cons, List.length_nil]; omega) ?_ (by simp only [List.length_append, List.length_cons, List.length_nil]; omega)
        · rw [List.length_append, List.length_cons, List.length_nil] at hnx
          have hval : Vt.val (p ++ [c]) = Vt.val p + 128 ^ p.length * (c % 128) := by rw [Vt.val_append]; simp only [Vt.val]; congr 1; congr 1; omega
          rw [hval] at hnx
          rw [Vt.dec, if_neg hi]
          by_cases h9 : p.length = 9 ∧ c % 128 ≥ 2
          · rw [if_pos h9]
            refine hnx.trans ?_
            rw [h9.1]
            cases r with
            | nil => rfl
            | cons y r => rw [Vt.dec, if_pos (by decide)]
          · rw [if_neg h9, if_pos (by omega)]
            exact hnx
        · intro h
          rw [List.length_append, List.length_cons, List.length_nil] at h
          have hval : Vt.val (p ++ [c]) = Vt.val p + 128 ^ p.length * (c % 128) := by rw [Vt.val_append]; simp only [Vt.val]; congr 1; congr 1; omega
          rw [hval]
          have := hj.2.1 (by omega)
          have h3 : 0 ≤ 128 ^ p.length * (c % 128) := Int.mul_nonneg (Int.le_of_lt (Vt.pow_pos _)) (by omega)
          omega
theorem ref_get_spec (k : Nat) (l : List Int) (hb : Bytes l) (hl : l.length < 9223372036854775807) (hk : 42 < k) : bordereauref1_Get.f k l = some (told (Vt.dec l 0 0)) :=
  ref_get_loop l hb hl l [] 0 k rfl (fun _ h => by simp at h) (by decide) (fun _ => rfl) (by simpa using hk)
theorem dec_le (r : List Int) : ∀ (i : Nat) (u v : Int) (n : Nat), Vt.dec r i u = some (v, n) → i < n ∧ n ≤ i + r.length := by
  induction r with
  | nil => intro i u v n h; cases h
  | cons c r ih =>
    intro i u v n h
    rw [Vt.dec] at h
    rw [List.length_cons]
    split at h
    · cases h
    · split at h
      · cases h
      · split at h
        · have := ih _ _ _ _ h; omega
        · split at h
          · cases h
          · cases h; omega
theorem told_range (l : List Int) : 0 ≤ (told (Vt.dec l 0 0)).2 ∧ (told (Vt.dec l 0 0)).2 ≤ (l.length : Int) := by
  cases h : Vt.dec l 0 0 with
  | none => simp only [told]; omega
  | some x => obtain ⟨v, n⟩ := x; have := dec_le l 0 0 v n h; simp only [told]; omega
/-- What Cut tells. -/
def cutS (l : List Int) (a : Int) : ByteArray × Int :=
  let g := told (Vt.dec l 0 0)
  if g.2 = 0 then ((⟨#[]⟩ : ByteArray), 0) else if g.1 < 0 then ((⟨#[]⟩ : ByteArray), 0) else if g.1 > a ∨ g.1 > (l.length : Int) - g.2 then ((⟨#[]⟩ : ByteArray), 0) else (strOfNums ((l.take (g.2 + g.1).toNat).drop g.2.toNat), g.2 + g.1)
theorem cut_spec (k : Nat) (l : List Int) (a : Int) (hb : Bytes l) (hl : l.length < 9223372036854775807) (hk : 11 < k) : varint_Cut.f k l a = some (cutS l a) := by
  unfold varint_Cut.f
  have hr := told_range l
  rw [get_spec k l hb hl hk, Option.bind_some]
  unfold cutS
  generalize told (Vt.dec l 0 0) = g at *
  simp only []
  by_cases h1 : g.2 = 0
  · rw [if_pos h1, if_pos h1]
  · by_cases h2 : g.1 < 0
    · rw [if_neg h1, if_neg h1, if_pos h2, if_pos h2]
    · by_cases h3 : g.1 > a ∨ g.1 > (l.length : Int) - g.2
      · rw [if_neg h1, if_neg h1, if_neg h2, if_neg h2, if_pos h3, if_pos]
        rw [Num.w64 _ (by omega)]; unfold mn; split <;> omega
      · rw [if_neg h1, if_neg h1, if_neg h2, if_neg h2, if_neg h3, if_neg, if_pos hr.1, Num.w64 (g.2 + g.1) (by omega), if_pos (by omega), if_pos (by omega)]
        rw [Num.w64 _ (by omega)]; unfold mn; split <;> omega
theorem ref_cut_spec (k : Nat) (l : List Int) (a : Int) (hb : Bytes l) (hl : l.length < 9223372036854775807) (hk : 42 < k) : bordereauref1_Cut.f k l a = some (cutS l a) := by
  unfold bordereauref1_Cut.f
  have hr := told_range l
  rw [ref_get_spec k l hb hl hk, Option.bind_some]
  unfold cutS
  generalize told (Vt.dec l 0 0) = g at *
  simp only []
  by_cases h1 : g.2 = 0
  · rw [if_pos h1, if_pos h1]
  · by_cases h2 : g.1 < 0
    · rw [if_neg h1, if_neg h1, if_pos h2, if_pos h2]
    · rw [if_neg h1, if_neg h1, if_neg h2, if_neg h2]
      by_cases h3 : g.1 > a
      · rw [if_pos h3, if_pos (.inl h3)]
      · rw [if_neg h3, Num.w64 ((l.length : Int) - g.2) (by omega)]
        by_cases h4 : g.1 > (l.length : Int) - g.2
        · rw [if_pos h4, if_pos (.inr h4)]
        · rw [if_neg h4, if_neg (show ¬(g.1 > a ∨ g.1 > (l.length : Int) - g.2) by omega), if_pos hr.1, Num.w64 (g.2 + g.1) (by omega), if_pos (by omega), if_pos (by omega)]
theorem back_same (l : List Int) (h8 : 8 ≤ l.length) (hl : l.length < 9223372036854775807) (d : Nat) : ∀ (k : Nat) (i : Nat) (x : Int), i + d = 8 → d < k → ∃ y, varint_Back.l0 k x (l.take 8) ((l.take 8).length : Int) (i : Int) = some (wrap64 y, true) ∧ bordereauref1_Back.l0 k l x (i : Int) = some (wrap64 y, true) := by
  have hlen : (l.take 8).length = 8 := by rw [List.length_take]; omega
  induction d with
  | zero =>
    intro k i x hi hk
    obtain ⟨k, rfl⟩ : ∃ m, k = m + 1 := ⟨k - 1, by omega⟩
    refine ⟨x, ?_, ?_⟩
    · rw [varint_Back.l0, if_neg (by omega)]
    · rw [bordereauref1_Back.l0, if_neg (by omega)]
  | succ d ih =>
    intro k i x hi hk
    obtain ⟨k, rfl⟩ : ∃ m, k = m + 1 := ⟨k - 1, by omega⟩
    have e : rd (l.take 8) (i : Int) = rd l (i : Int) := by rw [rd_at _ _ (by omega), rd_at _ _ (by omega), List.getElem_take]
    obtain ⟨y, h1, h2⟩ := ih k (i + 1) (Go.bits .or .u64 (IntKind.u64.wrap (x * 256)) (IntKind.u64.wrap (rd l (i : Int)))) (by omega) (by omega)
    refine ⟨y, ?_, ?_⟩
    · rw [varint_Back.l0, if_pos (by omega), if_pos (by omega), if_pos (by omega), e, Num.w64 _ (by omega)]
      exact h1
    · rw [bordereauref1_Back.l0, if_pos (by omega), if_pos (by omega), if_pos (by omega), Num.w64 _ (by omega)]
      exact h2
theorem back_spec (k : Nat) (l : List Int) (hl : l.length < 9223372036854775807) (hk : 8 < k) : ∃ y, varint_Back.f k l = some y ∧ bordereauref1_Back.f k l = some y := by
  unfold varint_Back.f bordereauref1_Back.f
  by_cases h : (l.length : Int) < 8
  · rw [if_pos h, if_pos h]; exact ⟨_, rfl, rfl⟩
  · rw [if_neg h, if_neg h, if_pos (by omega), Option.bind_some]
    obtain ⟨y, h1, h2⟩ := back_same l (by omega) hl 8 k 0 0 rfl hk
    exact ⟨_, h1, h2⟩
theorem reads_spec (k : Nat) (l : List Int) (a : Int) (hb : Bytes l) (hl : l.length < 9223372036854775807) (hk : 42 < k) : bordereaulaw2_reads.f k l a = some true := by
  unfold bordereaulaw2_reads.f
  obtain ⟨y, h1, h2⟩ := back_spec k l hl (by omega)
  rw [get_spec k l hb hl (by omega), Option.bind_some, ref_get_spec k l hb hl hk, Option.bind_some, cut_spec k l a hb hl (by omega), Option.bind_some, ref_cut_spec k l a hb hl hk, Option.bind_some, h1, Option.bind_some, h2, Option.bind_some, if_pos rfl, if_pos rfl, if_pos rfl, if_pos rfl, if_pos rfl, beq_self_eq_true]

theorem shr_u64 (n : Int) (s : Nat) (hs : s ≤ 64) : shr .u64 (IntKind.u64.wrap n) (s : Int) % 256 = (n % 18446744073709551616) / 2 ^ s % 256 := by
  unfold shr
  rw [Num.wu64, Int.toNat_natCast, show min s IntKind.u64.bits = s from Nat.min_eq_left hs]
theorem shr_i64 (n : Int) (s : Nat) (hs : s ≤ 64) : shr .i64 n (s : Int) % 256 = n / 2 ^ s % 256 := by
  unfold shr
  rw [Int.toNat_natCast, show min s IntKind.i64.bits = s from Nat.min_eq_left hs]
def byteAt (n : Int) (j : Nat) : Int := n / 2 ^ (8 * (7 - j)) % 256
theorem byte_wrap (n : Int) (j : Nat) (hj : j < 8) : (n % 18446744073709551616) / 2 ^ (8 * (7 - j)) % 256 = byteAt n j := by
  unfold byteAt
  match j, hj with
  | 0, _ => have e : (2 : Int) ^ (8 * (7 - 0)) = 72057594037927936 := rfl; rw [e]; omega
  | 1, _ => have e : (2 : Int) ^ (8 * (7 - 1)) = 281474976710656 := rfl; rw [e]; omega
  | 2, _ => have e : (2 : Int) ^ (8 * (7 - 2)) = 1099511627776 := rfl; rw [e]; omega
  | 3, _ => have e : (2 : Int) ^ (8 * (7 - 3)) = 4294967296 := rfl; rw [e]; omega
  | 4, _ => have e : (2 : Int) ^ (8 * (7 - 4)) = 16777216 := rfl; rw [e]; omega
  | 5, _ => have e : (2 : Int) ^ (8 * (7 - 5)) = 65536 := rfl; rw [e]; omega
  | 6, _ => have e : (2 : Int) ^ (8 * (7 - 6)) = 256 := rfl; rw [e]; omega
  | 7, _ => have e : (2 : Int) ^ (8 * (7 - 7)) = 1 := rfl; rw [e]; omega
/-- The bytes of a long from the j-th on. -/
def longFrom (n : Int) : Nat → Nat → List Int
  | 0, _ => []
  | d + 1, j => byteAt n j :: longFrom n d (j + 1)
theorem long_loop (n : Int) (d : Nat) : ∀ (k j : Nat) (l : List Int), j + d = 8 → d < k → l.length + d < 140737488355328 → varint_Long.l0 k n l (j : Int) = some (l ++ longFrom n d j) ∧ bordereauref1_Long.l0 k n l (56 - 8 * (j : Int)) = some (l ++ longFrom n d j) := by
  induction d with
  | zero =>
    intro k j l hj hk _
    obtain ⟨k, rfl⟩ : ∃ m, k = m + 1 := ⟨k - 1, by omega⟩
    constructor
    · rw [varint_Long.l0, if_neg (by omega)]; simp [longFrom]
    · rw [bordereauref1_Long.l0, if_neg (by omega)]; simp [longFrom]
  | succ d ih =>
    intro k j l hj hk hl
    obtain ⟨k, rfl⟩ : ∃ m, k = m + 1 := ⟨k - 1, by omega⟩
    have hb := byte_wrap n j (by omega)
    have hn := ih k (j + 1) (l ++ [byteAt n j]) (by omega) (by omega) (by simp only [List.length_append, List.length_cons, List.length_nil]; omega)
    rw [List.append_assoc] at hn
    constructor
    · have e : (wrap64 (wrap64 (7 - (j : Int)) * 8)) = ((8 * (7 - j) : Nat) : Int) := by rw [Num.w64 (7 - (j : Int)) (by omega), Num.w64 _ (by omega)]; omega
      rw [varint_Long.l0, if_pos (by omega), varint_bitsOf.f, Option.bind_some, e, if_pos (by omega), if_pos (by omega), shr_u64 n _ (by omega), hb, Num.w64 _ (by omega)]
      exact hn.1
    · have e : IntKind.u64.wrap (56 - 8 * (j : Int)) = ((8 * (7 - j) : Nat) : Int) := by rw [Num.wu64]; omega
      rw [bordereauref1_Long.l0, if_pos (by omega), e, if_pos (by omega), if_pos (by omega), shr_i64 n _ (by omega), Num.w64 _ (by omega)]
      have h2 := hn.2
      rw [show 56 - 8 * (((j + 1 : Nat)) : Int) = 56 - 8 * (j : Int) - 8 by omega] at h2
      exact h2
theorem long_spec (k : Nat) (l : List Int) (n : Int) (hk : 8 < k) (hl : l.length + 8 < 140737488355328) : varint_Long.f k l n = some (l ++ longFrom n 8 0) := by
  unfold varint_Long.f slices_Clone_byte_byte.f
  rw [if_pos (by omega), Option.bind_some]
  exact (long_loop n 8 k 0 l rfl hk (by omega)).1
theorem ref_long_spec (k : Nat) (l : List Int) (n : Int) (hk : 8 < k) (hl : l.length + 8 < 140737488355328) : bordereauref1_Long.f k l n = some (l ++ longFrom n 8 0) := by
  unfold bordereauref1_Long.f
  rw [Option.bind_some, if_pos (by simp only [List.length_nil]; omega), List.nil_append]
  exact (long_loop n 8 k 0 l rfl hk (by omega)).2
def textS (s : ByteArray) : List Int := E (s.size : Int) ++ bytesOf s
theorem text_spec (k : Nat) (l : List Int) (s : ByteArray) (hk : 9 < k) (hl : l.length + 10 + s.size < 140737488355328) : varint_Text.f k l s = some (l ++ textS s) := by
  unfold varint_Text.f
  have := E_len (s.size : Int)
  rw [put_spec k l _ ⟨by omega, by omega⟩ hk (by omega), Option.bind_some, if_pos (by rw [List.length_append]; omega), List.append_assoc]; rfl
theorem ref_text_spec (k : Nat) (l : List Int) (s : ByteArray) (hk : 9 < k) (hl : l.length + 10 + s.size < 140737488355328) : bordereauref1_Text.f k l s = some (l ++ textS s) := by
  unfold bordereauref1_Text.f
  have := E_len (s.size : Int)
  rw [ref_put_spec k l _ ⟨by omega, by omega⟩ hk (by omega), Option.bind_some, if_pos (by rw [List.length_append]; omega), List.append_assoc]; rfl
theorem puts_spec (k : Nat) (l : List Int) (n : Int) (s : ByteArray) (h : I64 n) (hk : 9 < k) (hl : l.length + 10 + s.size < 140737488355328) : bordereaulaw2_puts.f k l n s = some true := by
  unfold bordereaulaw2_puts.f
  rw [put_spec k l n h hk (by omega), Option.bind_some, ref_put_spec k l n h hk (by omega), Option.bind_some, if_pos rfl, text_spec k l s hk hl, Option.bind_some, ref_text_spec k l s hk hl, Option.bind_some, if_pos rfl, long_spec k l n (by omega) (by omega), Option.bind_some, ref_long_spec k l n (by omega) (by omega), Option.bind_some, beq_self_eq_true]
theorem within_spec (k : Nat) (a n : Int) (ha : I64 a) (h0 : 0 ≤ n) (h1 : n < 4611686018427387904) (hk : 0 < k) : ∃ r, bordereaubook_Within.f k a 0 n = some r ∧ 0 ≤ r ∧ r ≤ n := by
  obtain ⟨k, rfl⟩ : ∃ m, k = m + 1 := ⟨k - 1, by omega⟩
  have e1 : wrap64 (wrap64 (n - 0) + 1) = n + 1 := by rw [Num.w64 (n - 0) (by omega), Num.w64 _ (by omega)]; omega
  unfold I64 at ha
  unfold bordereaubook_Within.f
  have step : ∀ b, (b = true → 0 ≤ a ∧ a ≤ n) → ∃ r, bordereaubook_Within.j0 (k + 1) a 0 n b = some r ∧ 0 ≤ r ∧ r ≤ n := by
    intro b hb
    rw [bordereaubook_Within.j0]
    by_cases h : b = true
    · rw [if_pos h]; exact ⟨a, rfl, hb h⟩
    · have t1 := Int.tmod_lt_of_pos a (show 0 < n + 1 by omega)
      have t2 : -(n + 1) < Int.tmod a (n + 1) := by
        rw [← Int.neg_lt_neg_iff, Int.neg_neg, ← Int.neg_tmod]
        exact Int.tmod_lt_of_pos (-a) (by omega)
      rw [if_neg h, e1, if_neg (by omega)]
      by_cases h2 : Int.tmod a (n + 1) < 0
      · rw [if_pos h2]
        refine ⟨_, rfl, ?_⟩
        rw [Num.w64 (Int.tmod a (n + 1) + n) (by omega), Num.w64 (Int.tmod a (n + 1) + n - 0) (by omega), Num.w64 (Int.tmod a (n + 1) + n - 0 + 1) (by omega), Num.w64 _ (by omega)]
        omega
      · rw [if_neg h2]
        refine ⟨_, rfl, ?_⟩
        rw [Num.w64 _ (by omega)]
        omega
  by_cases h : a ≥ 0
  · rw [if_pos h]; exact step _ (fun hb => ⟨h, of_decide_eq_true hb⟩)
  · rw [if_neg h]; exact step _ (fun hb => by cases hb)
theorem known_true (k : Nat) (hk : 42 < k) : bordereaulaw2_known.f k = some true := by
  have h : bordereaulaw2_known.f 43 = some true := by decide +kernel
  have := more_rounds bordereaulaw2_known.mono 43 (k - 43) true h
  rwa [show 43 + (k - 43) = k by omega] at this
theorem bytesOf_bytes (s : ByteArray) : Bytes (bytesOf s) := by
  intro x hx
  obtain ⟨b, _, rfl⟩ := List.mem_map.1 hx
  have := b.toNat_lt
  omega
theorem i64_lit (n : Int) (h : (Lit.int .i64 n).wf = true) : I64 n := by
  have h2 : (decide (IntKind.i64.min ≤ n) && decide (n ≤ IntKind.i64.max)) = true := h
  rw [Bool.and_eq_true, decide_eq_true_iff, decide_eq_true_iff] at h2
  exact h2
theorem u8_lit (n : Int) (h : (Lit.int .u8 n).wf = true) : 0 ≤ n ∧ n < 256 := by
  have h2 : (decide (IntKind.u8.min ≤ n) && decide (n ≤ IntKind.u8.max)) = true := h
  rw [Bool.and_eq_true, decide_eq_true_iff, decide_eq_true_iff] at h2
  have e1 : IntKind.u8.min = 0 := rfl
  have e2 : IntKind.u8.max = 255 := rfl
  omega
theorem shr_in (n s : Int) (h : I64 n) : I64 (shr .i64 n s) := by
  unfold shr I64 at *
  generalize min s.toNat IntKind.i64.bits = m
  have hp : (0 : Int) < 2 ^ m := Int.pow_pos (by decide)
  have h1 : n / 2 ^ m ≤ 9223372036854775807 := by
    by_cases h0 : 0 ≤ n
    · exact Int.le_trans (Int.ediv_le_self _ h0) h.2
    · have : n / 2 ^ m < 0 := Int.ediv_neg_of_neg_of_pos (by omega) hp
      omega
  have h2 : -9223372036854775808 ≤ n / 2 ^ m := by
    rw [Int.le_ediv_iff_mul_le hp]
    generalize (2 : Int) ^ m = q at *
    omega
  exact ⟨h2, h1⟩
theorem tells_j0 (l : List Int) (n : Int) (s : ByteArray) (a c : Int) (hb : Bytes l) (hl : l.length ≤ 140737488351232) (hn : I64 n) (hs : s.size ≤ 200) (ha : I64 a) : bordereaulaw2_VarintTells.j0 100 l n s a c = some true := by
  have hE := E_len n
  have hT : (textS s).length ≤ 210 := by
    have := E_len (s.size : Int)
    unfold textS; rw [List.length_append, bytesOf_length]; omega
  have hbt : Bytes ((E n ++ textS s) ++ l) := bytes_app (bytes_app (E_bytes n hn) (bytes_app (E_bytes _ ⟨by omega, by omega⟩) (bytesOf_bytes s))) hb
  have hlen : ((E n ++ textS s) ++ l).length ≤ 140737488351452 := by simp only [List.length_append] at *; omega
  rw [bordereaulaw2_VarintTells.j0, ref_put_spec _ _ _ hn (by decide) (by simp only [List.length_nil]; omega), Option.bind_some, List.nil_append, ref_text_spec _ _ _ (by decide) (by omega), Option.bind_some, if_pos (by simp only [List.length_append] at *; omega), Option.bind_some]
  generalize (E n ++ textS s) ++ l = y at *
  obtain ⟨r, hr, r0, r1⟩ := within_spec 99 a (y.length : Int) ha (by omega) (by omega) (by decide)
  have hsh : 0 ≤ IntKind.u64.wrap (bits .and .i64 n 63) := by rw [Num.wu64]; omega
  rw [hr, Option.bind_some, puts_spec _ _ _ _ hn (by decide) (by omega), Option.bind_some, if_pos rfl, if_pos hsh, puts_spec _ _ _ _ (shr_in n _ hn) (by decide) (by omega), Option.bind_some, if_pos rfl, reads_spec _ _ _ hb (by omega) (by decide), Option.bind_some, if_pos rfl, reads_spec _ _ _ hbt (by omega) (by decide), Option.bind_some, if_pos rfl, if_pos r0, if_pos r1, reads_spec _ _ _ (bytes_take _ hbt) (by rw [List.length_take]; omega) (by decide), Option.bind_some, if_pos rfl, reads_spec _ _ _ (bytes_drop _ hbt) (by rw [List.length_drop]; omega) (by decide), Option.bind_some, if_pos rfl, known_true _ (by decide), Option.bind_some]
theorem tells : bordereaulaw2_VarintTells.Pure := by
  intro l0 a1 a2 a3 a4 _ hl hb h1 _ h3 _
  have hbb : Bytes l0 := fun x hx => u8_lit x (hb x hx)
  refine ⟨100, ?_⟩
  unfold bordereaulaw2_VarintTells.f
  split
  · rename_i h
    rw [if_pos (by decide), if_pos (by omega)]
    exact tells_j0 l0 a1 _ a3 a4 hbb (by omega) (i64_lit _ h1) (by rw [ByteArray.size_extract]; omega) (i64_lit _ h3)
  · exact tells_j0 l0 a1 _ a3 a4 hbb (by omega) (i64_lit _ h1) (by omega) (i64_lit _ h3)
theorem get_enc (k : Nat) (n : Int) (r : List Int) (hn : I64 n) (hr : Bytes r) (hl : r.length + 10 < 9223372036854775807) (hk : 11 < k) : varint_Get.f k (E n ++ r) = some (n, ((E n).length : Int)) := by
  have hz := Num.zig_range n hn
  have := E_len n
  rw [get_spec k _ (bytes_app (E_bytes n hn) hr) (by rw [List.length_append]; omega) hk]
  unfold E
  rw [Vt.dec_enc _ hz.1 hz.2]
  show some (Num.zag (Num.zig n), _) = _
  rw [Num.zag_zig]
theorem E_one (n : Int) (hn : I64 n) : ((E n).length = 1) ↔ (-64 ≤ n ∧ n < 64) := by
  have hz := Num.zig_range n hn
  unfold E
  rw [show (9 : Nat) = 8 + 1 from rfl, Vt.enc]
  by_cases h : Num.zig n ≥ 128
  · rw [if_pos h, List.length_cons]
    have : Vt.enc 8 (Num.zig n / 128) ≠ [] := Vt.enc_ne _ _
    have : 0 < (Vt.enc 8 (Num.zig n / 128)).length := List.length_pos_iff.2 this
    unfold Num.zig at h
    split at h <;> omega
  · rw [if_neg h]
    unfold Num.zig at h
    have : ([Num.zig n] : List Int).length = 1 := rfl
    split at h <;> omega
theorem E_pos (n : Int) : 0 < (E n).length := List.length_pos_iff.2 (Vt.enc_ne _ _)
/-- Numbers in a row. -/
def rowOf (l : List Int) : List Int := l.flatMap E
theorem rowOf_cons (n : Int) (l : List Int) : rowOf (n :: l) = E n ++ rowOf l := by simp [rowOf]
theorem rowOf_app (l m : List Int) : rowOf (l ++ m) = rowOf l ++ rowOf m := by simp [rowOf]
theorem rowOf_len (l : List Int) : (rowOf l).length ≤ 10 * l.length := by
  induction l with
  | nil => simp [rowOf]
  | cons n l ih => rw [rowOf_cons, List.length_append, List.length_cons]; have := E_len n; omega
theorem rowOf_bytes (l : List Int) (h : ∀ x ∈ l, I64 x) : Bytes (rowOf l) := by
  intro x hx
  obtain ⟨n, hn, hx⟩ := List.mem_flatMap.1 hx
  exact E_bytes n (h n hn) x hx
theorem take_snoc (l : List Int) (i : Nat) (h : i < l.length) : l.take (i + 1) = l.take i ++ [l[i]] := by
  rw [List.take_add_one, List.getElem?_eq_getElem h]; rfl
theorem prefix_get (k : Nat) (n : Int) (r : List Int) (c : Nat) (hn : I64 n) (hr : Bytes r) (hl : r.length + 10 < 9223372036854775807) (hk : 11 < k) : varint_Get.f k ((E n ++ r).take c) = some (n, ((E n).length : Int)) ∨ varint_Get.f k ((E n ++ r).take c) = some (0, 0) := by
  by_cases hc : (E n).length ≤ c
  · refine .inl ?_
    rw [List.take_append, List.take_of_length_le hc]
    exact get_enc k n _ hn (bytes_take _ hr) (by rw [List.length_take]; omega) hk
  · refine .inr ?_
    have hz := Num.zig_range n hn
    obtain ⟨p, d, he, hp, _, _, _⟩ := Vt.enc_shape 9 (Num.zig n) hz.1 (Int.lt_trans hz.2 (by decide))
    have hE : E n = p ++ [d] := he
    have e : (E n ++ r).take c = p.take c := by
      rw [List.take_append_of_le_length (by omega), hE, List.take_append_of_le_length]
      have : (E n).length = p.length + 1 := by rw [hE, List.length_append]; rfl
      omega
    have hpc : ∀ x ∈ p.take c, 128 ≤ x ∧ x < 256 := fun x hx => hp x (List.mem_of_mem_take hx)
    rw [e, get_spec k _ (fun x hx => ⟨by have := hpc x hx; omega, (hpc x hx).2⟩) (by have := E_len n; rw [hE, List.length_append] at this; rw [List.length_take]; omega) hk, Vt.dec_none _ _ _ hpc]; rfl
theorem rows_put (l : List Int) (a : Int) (h : ∀ x ∈ l, I64 x) (hl : l.length < 9223372036854775807) (m : Nat) (hm : m ≤ l.length) (hm20 : m ≤ 20) (res : Option Bool) (hres : ∀ k, 70 < k → bordereaulaw2_VarintRows.l1 k l a (rowOf (l.take m)) (m : Int) 0 0 = res) (d : Nat) : ∀ (k i : Nat), i + d = m → d + 71 < k → bordereaulaw2_VarintRows.l0 k l a (rowOf (l.take i)) (m : Int) (i : Int) = res := by
  induction d with
  | zero =>
    intro k i hi hk
    obtain ⟨k, rfl⟩ : ∃ m, k = m + 1 := ⟨k - 1, by omega⟩
    rw [bordereaulaw2_VarintRows.l0, if_neg (by omega), show i = m by omega]
    exact hres k (by omega)
  | succ d ih =>
    intro k i hi hk
    obtain ⟨k, rfl⟩ : ∃ m, k = m + 1 := ⟨k - 1, by omega⟩
    have hle := rowOf_len (l.take i)
    rw [List.length_take] at hle
    rw [bordereaulaw2_VarintRows.l0, if_pos (by omega), if_pos (by omega), if_pos (by omega), rd_at l i (by omega), put_spec k _ _ (h _ (List.getElem_mem _)) (by omega) (by omega), Option.bind_some, Num.w64 _ (by omega)]
    have hn := ih k (i + 1) (by omega) (by omega)
    rw [take_snoc l i (by omega), rowOf_app, show rowOf [l[i]] = E l[i] by rw [rowOf_cons]; simp [rowOf]] at hn
    exact hn
theorem rows_end (l : List Int) (a : Int) (h : ∀ x ∈ l, I64 x) (ha : I64 a) (hl : l.length < 9223372036854775807) (m : Nat) (hm : m ≤ l.length) (hm20 : m ≤ 20) (k : Nat) (hk : 45 < k) : bordereaulaw2_VarintRows.l1 k l a (rowOf (l.take m)) (m : Int) ((rowOf (l.take m)).length : Int) (m : Int) = some true := by
  obtain ⟨k, rfl⟩ : ∃ m, k = m + 1 := ⟨k - 1, by omega⟩
  have hle := rowOf_len (l.take m)
  rw [List.length_take] at hle
  obtain ⟨c, hc, c0, c1⟩ := within_spec k a ((rowOf (l.take m)).length : Int) ha (by omega) (by omega) (by omega)
  have hkn := known_true k (by omega)
  rw [bordereaulaw2_VarintRows.l1, if_neg (by omega), hc, Option.bind_some, if_pos c0, if_pos c1]
  have key : ∃ g : Int × Int, varint_Get.f k ((rowOf (l.take m)).take c.toNat) = some g ∧ (g = (0, 0) ∨ (0 < m ∧ g.1 = rd l 0)) := by
    cases m with
    | zero =>
      refine ⟨(0, 0), ?_, .inl rfl⟩
      rw [show rowOf (l.take 0) = [] by simp [rowOf], List.take_nil, get_spec k [] (fun _ h => by simp at h) (by simp) (by omega)]; rfl
    | succ m =>
      obtain ⟨x, r, hxr⟩ : ∃ x r, l = x :: r := by
        cases l with
        | nil => simp at hm
        | cons x r => exact ⟨x, r, rfl⟩
      have hx : I64 x := h x (by rw [hxr]; simp)
      have e : rowOf (l.take (m + 1)) = E x ++ rowOf (r.take m) := by rw [hxr, List.take_succ_cons, rowOf_cons]
      have hrb : Bytes (rowOf (r.take m)) := rowOf_bytes _ (fun y hy => h y (by rw [hxr]; exact List.mem_cons_of_mem _ (List.mem_of_mem_take hy)))
      have hrl := rowOf_len (r.take m)
      rw [List.length_take] at hrl
      rw [e]
      rcases prefix_get k x (rowOf (r.take m)) c.toNat hx hrb (by omega) (by omega) with h1 | h1
      · exact ⟨_, h1, .inr ⟨by omega, by rw [hxr]; rfl⟩⟩
      · exact ⟨_, h1, .inl rfl⟩
  obtain ⟨g, hg, hcase⟩ := key
  rw [hg, Option.bind_some, if_pos rfl]
  rcases hcase with rfl | ⟨hm0, hg1⟩
  · rw [if_pos rfl, if_pos rfl, hkn, Option.bind_some]
  · rw [hkn, Option.bind_some, if_pos (show (m : Int) > 0 by omega), if_pos (show (0 : Int) < (l.length : Int) by omega), if_pos hg1]
    split
    · split <;> rfl
    · rfl
theorem rows_get (l : List Int) (a : Int) (h : ∀ x ∈ l, I64 x) (ha : I64 a) (hl : l.length < 9223372036854775807) (m : Nat) (hm : m ≤ l.length) (hm20 : m ≤ 20) (d : Nat) : ∀ (k i : Nat), i + d = m → d + 46 < k → bordereaulaw2_VarintRows.l1 k l a (rowOf (l.take m)) (m : Int) ((rowOf (l.take i)).length : Int) (i : Int) = some true := by
  induction d with
  | zero =>
    intro k i hi hk
    obtain rfl : i = m := by omega
    exact rows_end l a h ha hl i hm hm20 k (by omega)
  | succ d ih =>
    intro k i hi hk
    obtain ⟨k, rfl⟩ : ∃ m, k = m + 1 := ⟨k - 1, by omega⟩
    have hle := rowOf_len (l.take m)
    rw [List.length_take] at hle
    have hxi := h l[i] (List.getElem_mem _)
    have hsp : rowOf (l.take m) = rowOf (l.take i) ++ (E l[i] ++ rowOf ((l.take m).drop (i + 1))) := by
      have e : l.take m = l.take i ++ (l[i] :: (l.take m).drop (i + 1)) := by
        have e1 := (List.take_append_drop i (l.take m)).symm
        rw [List.take_take, Nat.min_eq_left (by omega), List.drop_eq_getElem_cons (by rw [List.length_take]; omega), List.getElem_take] at e1
        exact e1
      have e2 := congrArg rowOf e
      rwa [rowOf_app, rowOf_cons] at e2
    have hlen : (rowOf (l.take m)).length = (rowOf (l.take i)).length + ((E l[i]).length + (rowOf ((l.take m).drop (i + 1))).length) := by
      have := congrArg List.length hsp
      rwa [List.length_append, List.length_append] at this
    have hdrop : (rowOf (l.take m)).drop ((rowOf (l.take i)).length : Int).toNat = E l[i] ++ rowOf ((l.take m).drop (i + 1)) := by
      rw [Int.toNat_natCast, hsp, List.drop_left]
    have hb : Bytes (rowOf ((l.take m).drop (i + 1))) := rowOf_bytes _ (fun y hy => h y (List.mem_of_mem_take (List.mem_of_mem_drop hy)))
    rw [bordereaulaw2_VarintRows.l1, if_pos (by omega), if_pos (by omega), if_pos (by omega), hdrop, get_enc k _ _ hxi hb (by omega) (by omega), Option.bind_some, if_pos (by omega), if_pos (by omega), rd_at l i (by omega)]
    simp only []
    have hp := E_pos l[i]
    have h1 := E_one l[i] hxi
    have hnx := ih k (i + 1) (by omega) (by omega)
    have el : (rowOf (l.take (i + 1))).length = (rowOf (l.take i)).length + (E l[i]).length := by
      rw [take_snoc l i (by omega), rowOf_app, List.length_append, show rowOf [l[i]] = E l[i] by rw [rowOf_cons]; simp [rowOf]]
    rw [el, Int.natCast_add, Int.natCast_add] at hnx
    rw [if_pos trivial, if_neg (by omega), Num.w64 _ (by omega), Num.w64 _ (by omega)]
    by_cases h64 : l[i] ≥ -64
    · rw [if_pos h64]
      by_cases h2 : l[i] < 64
      · rw [decide_eq_true h2, show (((E l[i]).length : Int) == 1) = true from beq_iff_eq.2 (by have := h1.2 ⟨by omega, h2⟩; omega), if_neg (by decide)]
        exact hnx
      · rw [decide_eq_false h2, show (((E l[i]).length : Int) == 1) = false from beq_eq_false_iff_ne.2 (by intro hq; have := h1.1 (by omega); omega), if_neg (by decide)]
        exact hnx
    · rw [if_neg h64, show (((E l[i]).length : Int) == 1) = false from beq_eq_false_iff_ne.2 (by intro hq; have := h1.1 (by omega); omega), if_neg (by decide)]
      exact hnx
theorem rows : bordereaulaw2_VarintRows.Pure := by
  intro l0 a1 _ hl hb h1
  have h : ∀ x ∈ l0, I64 x := fun x hx => i64_lit x (hb x hx)
  refine ⟨100, ?_⟩
  unfold bordereaulaw2_VarintRows.f
  obtain ⟨m, hm, hm1, hm2⟩ : ∃ m : Nat, mn (l0.length : Int) 20 = (m : Int) ∧ m ≤ l0.length ∧ m ≤ 20 := by
    unfold mn
    split
    · exact ⟨20, rfl, by omega, by omega⟩
    · exact ⟨l0.length, rfl, by omega, by omega⟩
  rw [hm]
  have hz := rows_put l0 a1 h (by omega) m hm1 hm2 (some true) (fun k hk => by
    have := rows_get l0 a1 h (i64_lit a1 h1) (by omega) m hm1 hm2 m k 0 (by omega) (by omega)
    rw [show rowOf (l0.take 0) = [] by simp [rowOf]] at this
    exact this) m 100 0 (by omega) (by omega)
  rw [show rowOf (l0.take 0) = [] by simp [rowOf]] at hz
  exact hz
theorem str_bytesOf (s : ByteArray) : strOfNums (bytesOf s) = s := by
  have h : (bytesOf s).map (fun n => UInt8.ofNat n.toNat) = s.data.toList := by
    unfold bytesOf
    rw [List.map_map]
    have : ((fun n : Int => UInt8.ofNat n.toNat) ∘ fun b : UInt8 => (b.toNat : Int)) = id := by
      funext b
      show UInt8.ofNat ((b.toNat : Int)).toNat = b
      rw [Int.toNat_natCast]; exact UInt8.ofNat_toNat
    rw [this, List.map_id]
  unfold strOfNums
  rw [h]
theorem E_get (n : Int) (r : List Int) (hn : I64 n) : told (Vt.dec (E n ++ r) 0 0) = (n, ((E n).length : Int)) := by
  have hz := Num.zig_range n hn
  unfold E
  rw [Vt.dec_enc _ hz.1 hz.2]
  show (Num.zag (Num.zig n), _) = _
  rw [Num.zag_zig]
theorem cut_text (s : ByteArray) (r : List Int) (a : Int) (hs : s.size < 1000) (ha : (s.size : Int) ≤ a) : cutS (textS s ++ r) a = (s, ((E (s.size : Int)).length : Int) + (s.size : Int)) := by
  unfold cutS textS
  rw [List.append_assoc, E_get _ _ ⟨by omega, by omega⟩]
  have hp := E_pos (s.size : Int)
  simp only []
  rw [if_neg (by omega), if_neg (by omega), if_neg (by simp only [List.length_append, bytesOf_length]; omega)]
  have e : List.drop (((E (s.size : Int)).length : Int)).toNat (List.take (((E (s.size : Int)).length : Int) + (s.size : Int)).toNat (E (s.size : Int) ++ (bytesOf s ++ r))) = bytesOf s := by
    rw [show (((E (s.size : Int)).length : Int) + (s.size : Int)).toNat = (E (s.size : Int)).length + s.size by omega, Int.toNat_natCast, ← List.append_assoc, List.take_append_of_le_length (by rw [List.length_append, bytesOf_length]; omega), List.take_of_length_le (by rw [List.length_append, bytesOf_length]; omega), List.drop_left]
  rw [e, str_bytesOf]
theorem cut_short (s : ByteArray) (a : Int) (hs : s.size < 1000) (ha : a < (s.size : Int)) : (cutS (textS s) a).2 = 0 := by
  unfold cutS textS
  rw [E_get _ _ ⟨by omega, by omega⟩]
  have hp := E_pos (s.size : Int)
  simp only []
  rw [if_neg (by omega), if_neg (by omega), if_pos (.inl (by omega))]
theorem or_low (x y : Int) (hx0 : 0 ≤ x) (hx : x < 256) (hy0 : 0 ≤ y) (hy : y % 256 = 0) (hy1 : y < 18446744073709551616) : bits .or .u64 y x = y + x := by
  have h := Num.or_u64 8 x y hx0 hx hy0 hy (by omega) hy1
  rw [u64_or _ _ hx0 (by omega) hy0 hy1] at h
  rw [u64_or _ _ hy0 hy1 hx0 (by omega), Nat.or_comm]
  omega
theorem long_at (n : Int) (i : Nat) (hi : i < 8) : rd (longFrom n 8 0) (i : Int) = byteAt n i := by
  match i, hi with
  | 0, _ => rfl
  | 1, _ => rfl
  | 2, _ => rfl
  | 3, _ => rfl
  | 4, _ => rfl
  | 5, _ => rfl
  | 6, _ => rfl
  | 7, _ => rfl
theorem goes_on (n N : Int) (hN : N = n % 18446744073709551616) (i : Nat) (hi : i < 8) : 0 ≤ N / 2 ^ (8 * (8 - i)) ∧ N / 2 ^ (8 * (8 - i)) * 256 < 18446744073709551616 ∧ N / 2 ^ (8 * (8 - i)) * 256 + byteAt n i = N / 2 ^ (8 * (8 - (i + 1))) ∧ 0 ≤ byteAt n i ∧ byteAt n i < 256 := by
  have hb : N / 2 ^ (8 * (7 - i)) % 256 = byteAt n i := by rw [hN]; exact byte_wrap n i hi
  have h0 : 0 ≤ N ∧ N < 18446744073709551616 := by omega
  rw [← hb]
  clear hb hN
  match i, hi with
  | 0, _ => have e : (2 : Int) ^ (8 * (8 - 0)) = 18446744073709551616 := rfl; have e2 : (2 : Int) ^ (8 * (8 - (0 + 1))) = 72057594037927936 := rfl; rw [e, e2]; omega
  | 1, _ => have e : (2 : Int) ^ (8 * (8 - 1)) = 72057594037927936 := rfl; have e2 : (2 : Int) ^ (8 * (8 - (1 + 1))) = 281474976710656 := rfl; rw [e, e2]; omega
  | 2, _ => have e : (2 : Int) ^ (8 * (8 - 2)) = 281474976710656 := rfl; have e2 : (2 : Int) ^ (8 * (8 - (2 + 1))) = 1099511627776 := rfl; rw [e, e2]; omega
  | 3, _ => have e : (2 : Int) ^ (8 * (8 - 3)) = 1099511627776 := rfl; have e2 : (2 : Int) ^ (8 * (8 - (3 + 1))) = 4294967296 := rfl; rw [e, e2]; omega
  | 4, _ => have e : (2 : Int) ^ (8 * (8 - 4)) = 4294967296 := rfl; have e2 : (2 : Int) ^ (8 * (8 - (4 + 1))) = 16777216 := rfl; rw [e, e2]; omega
  | 5, _ => have e : (2 : Int) ^ (8 * (8 - 5)) = 16777216 := rfl; have e2 : (2 : Int) ^ (8 * (8 - (5 + 1))) = 65536 := rfl; rw [e, e2]; omega
  | 6, _ => have e : (2 : Int) ^ (8 * (8 - 6)) = 65536 := rfl; have e2 : (2 : Int) ^ (8 * (8 - (6 + 1))) = 256 := rfl; rw [e, e2]; omega
  | 7, _ => have e : (2 : Int) ^ (8 * (8 - 7)) = 256 := rfl; have e2 : (2 : Int) ^ (8 * (8 - (7 + 1))) = 1 := rfl; rw [e, e2]; omega
theorem back_loop (n : Int) (d : Nat) : ∀ (k i : Nat) (x : Int), i + d = 8 → d < k → x = (n % 18446744073709551616) / 2 ^ (8 * (8 - i)) → varint_Back.l0 k x (longFrom n 8 0) 8 (i : Int) = some (wrap64 (n % 18446744073709551616), true) := by
  induction d with
  | zero =>
    intro k i x hi hk hx
    obtain ⟨k, rfl⟩ : ∃ m, k = m + 1 := ⟨k - 1, by omega⟩
    rw [varint_Back.l0, if_neg (by omega), hx, show 8 * (8 - i) = 0 by omega, Int.pow_zero, Int.ediv_one]
  | succ d ih =>
    intro k i x hi hk hx
    obtain ⟨k, rfl⟩ : ∃ m, k = m + 1 := ⟨k - 1, by omega⟩
    have hlen : (longFrom n 8 0).length = 8 := rfl
    obtain ⟨g0, g1, g2, g3, g4⟩ := goes_on n _ rfl i (by omega)
    rw [← hx] at g0 g1 g2
    rw [varint_Back.l0, if_pos (by omega), if_pos (by omega), if_pos (by omega), long_at n i (by omega), Num.w64 _ (by omega)]
    have e : Go.bits .or .u64 (IntKind.u64.wrap (x * 256)) (IntKind.u64.wrap (byteAt n i)) = x * 256 + byteAt n i := by
      rw [Num.wu64, Num.wu64, show (x * 256) % 18446744073709551616 = x * 256 by omega, show byteAt n i % 18446744073709551616 = byteAt n i by omega]
      exact or_low _ _ g3 g4 (by omega) (by omega) g1
    rw [e]
    exact ih k (i + 1) _ (by omega) (by omega) g2
theorem back_long (k : Nat) (n : Int) (r : List Int) (hn : I64 n) (hk : 8 < k) : varint_Back.f k (longFrom n 8 0 ++ r) = some (n, true) := by
  have hlen : (longFrom n 8 0).length = 8 := rfl
  unfold varint_Back.f
  rw [if_neg (by rw [List.length_append]; omega), if_pos (by rw [List.length_append]; omega), List.take_append_of_le_length (by omega), List.take_of_length_le (by omega), Option.bind_some, hlen]
  have h := back_loop n 8 k 0 0 rfl hk (by
    have e : (2 : Int) ^ (8 * (8 - 0)) = 18446744073709551616 := rfl
    rw [e]; omega)
  refine h.trans ?_
  have : wrap64 (n % 18446744073709551616) = n := by unfold I64 at hn; unfold wrap64; omega
  rw [this]
theorem back_j0 (k : Nat) (n : Int) (s : ByteArray) (l : List Int) (hn : I64 n) (hs : s.size ≤ 100) (hb : Bytes l) (hl : l.length ≤ 140737488351232) (hk : 60 < k) : bordereaulaw2_VarintBack.j0 k n s l = some true := by
  obtain ⟨k, rfl⟩ : ∃ m, k = m + 1 := ⟨k - 1, by omega⟩
  have hE := E_len n
  have hp := E_pos n
  have hEb := E_bytes n hn
  have hT : (textS s).length ≤ 110 := by
    have := E_len (s.size : Int)
    unfold textS; rw [List.length_append, bytesOf_length]; omega
  have hTb : Bytes (textS s) := bytes_app (E_bytes _ ⟨by omega, by omega⟩) (bytesOf_bytes s)
  have hL : (longFrom n 8 0).length = 8 := rfl
  have hg : varint_Get.f k ((E n).take ((E n).length - 1)) = some (0, 0) := by
    have hz := Num.zig_range n hn
    obtain ⟨p, d, he, hpp, _, _, _⟩ := Vt.enc_shape 9 (Num.zig n) hz.1 (Int.lt_trans hz.2 (by decide))
    have hEe : E n = p ++ [d] := he
    have e : (E n).take ((E n).length - 1) = p := by rw [hEe, List.length_append]; simp
    rw [e, get_spec k p (fun x hx => ⟨by have := hpp x hx; omega, (hpp x hx).2⟩) (by rw [hEe, List.length_append] at hE; omega) (by omega), Vt.dec_none _ _ _ hpp]; rfl
  have hct := cut_text s l (s.size : Int) (by omega) (Int.le_refl _)
  have hcs := cut_short s (wrap64 ((s.size : Int) - 1)) (by omega) (by rw [Num.w64 _ (by omega)]; omega)
  have hEs := E_pos (s.size : Int)
  rw [bordereaulaw2_VarintBack.j0, put_spec k [] n hn (by omega) (by simp), Option.bind_some, List.nil_append, Option.bind_some, if_pos (by simp only [List.length_nil]; omega), List.nil_append, Option.bind_some, if_pos (by omega),
    get_spec k _ (bytes_app hEb hb) (by rw [List.length_append]; omega) (by omega), Option.bind_some, text_spec k [] s (by omega) (by simp only [List.length_nil]; omega), Option.bind_some, List.nil_append, if_pos (by omega),
    cut_spec k _ _ (bytes_app hTb hb) (by rw [List.length_append]; omega) (by omega), Option.bind_some, Option.bind_some, cut_spec k _ _ hTb (by omega) (by omega), Option.bind_some, long_spec k [] n (by omega) (by simp), Option.bind_some, List.nil_append, if_pos (by omega), back_long k n l hn (by omega), Option.bind_some, if_neg (by omega), Num.w64 _ (by omega), if_pos (by omega), if_pos (by omega), show (((E n).length : Int) - 1).toNat = (E n).length - 1 by omega, hg, Option.bind_some, E_get n l hn, hct]
  simp only []
  rw [if_pos trivial, if_pos trivial, if_pos (by omega), if_pos trivial, if_pos (by omega), if_pos hcs, if_pos trivial, if_pos trivial, if_pos trivial, known_true k (by omega), Option.bind_some]
theorem back : bordereaulaw2_VarintBack.Pure := by
  intro a0 a1 l2 h0 _ _ hl hb
  have hB : Bytes l2 := fun x hx => u8_lit x (hb x hx)
  refine ⟨100, ?_⟩
  unfold bordereaulaw2_VarintBack.f
  split
  · rename_i h
    rw [if_pos (by decide), if_pos (by omega)]
    exact back_j0 100 a0 _ l2 (i64_lit _ h0) (by rw [ByteArray.size_extract]; omega) hB (by omega) (by decide)
  · exact back_j0 100 a0 _ l2 (i64_lit _ h0) (by omega) hB (by omega) (by decide)
/-- The number that bytes are, the greatest first. -/
def num : List Int → Int
  | [] => 0
  | c :: r => c * 256 ^ r.length + num r
theorem num_range (l : List Int) (h : Bytes l) : 0 ≤ num l ∧ num l < 256 ^ l.length := by
  induction l with
  | nil => exact ⟨Int.le_refl _, by decide⟩
  | cons c r ih =>
    have hc := h c (by simp)
    obtain ⟨h0, h1⟩ := ih (fun x hx => h x (List.mem_cons_of_mem _ hx))
    have hP : (256 : Int) ^ (c :: r).length = 256 ^ r.length * 256 := by rw [List.length_cons, Int.pow_succ]
    rw [hP]
    simp only [num]
    generalize (256 : Int) ^ r.length = P at *
    have a1 : 0 ≤ c * P := Int.mul_nonneg hc.1 (by omega)
    have a2 : c * P ≤ 255 * P := Int.mul_le_mul_of_nonneg_right (by omega) (by omega)
    omega
theorem less_num (l : List Int) : ∀ m : List Int, l.length = m.length → Bytes l → Bytes m → Op.bytesLess (strOfNums l).toList (strOfNums m).toList = decide (num l < num m) := by
  have e : ∀ l, (strOfNums l).toList = l.map fun n => UInt8.ofNat n.toNat := by
    intro l
    rw [← strOfNums_data, ByteArray.toList_eq]
  induction l with
  | nil => intro m hm _ _; cases m with
           | nil => rw [e]; rfl
           | cons y m => simp at hm
  | cons x l ih =>
    intro m hm hl hb
    cases m with
    | nil => simp at hm
    | cons y m =>
      have hx := hl x (by simp)
      have hy := hb y (by simp)
      have hl' : Bytes l := fun z hz => hl z (List.mem_cons_of_mem _ hz)
      have hm' : Bytes m := fun z hz => hb z (List.mem_cons_of_mem _ hz)
      have hlen : l.length = m.length := by simpa using hm
      have := ih m hlen hl' hm'
      rw [e, e] at this ⊢
      rw [List.map_cons, List.map_cons, Op.bytesLess, this]
      obtain ⟨a0, a1⟩ := num_range l hl'
      obtain ⟨b0, b1⟩ := num_range m hm'
      have n1 : num (x :: l) = x * 256 ^ m.length + num l := by rw [← hlen]; rfl
      have n2 : num (y :: m) = y * 256 ^ m.length + num m := rfl
      rw [n1, n2]
      rw [hlen] at a1
      clear n1 n2
      generalize (256 : Int) ^ m.length = P at *
      have hlt : (UInt8.ofNat x.toNat < UInt8.ofNat y.toNat) ↔ x < y := by
        rw [UInt8.lt_iff_toNat_lt]
        simp only [UInt8.toNat_ofNat']
        omega
      have heq : (UInt8.ofNat x.toNat = UInt8.ofNat y.toNat) ↔ x = y := by
        constructor
        · intro h
          have := congrArg UInt8.toNat h
          simp only [UInt8.toNat_ofNat'] at this
          omega
        · rintro rfl; rfl
      rcases Int.lt_trichotomy x y with h | h | h
      · have h2 : (x + 1) * P ≤ y * P := Int.mul_le_mul_of_nonneg_right (by omega) (by omega)
        rw [Int.add_mul] at h2
        rw [decide_eq_true (hlt.2 h), Bool.true_or, eq_comm, decide_eq_true_iff]
        omega
      · subst h
        have n1 : ¬ (UInt8.ofNat x.toNat < UInt8.ofNat x.toNat) := fun h => by have := hlt.1 h; omega
        rw [decide_eq_false n1, Bool.false_or, beq_self_eq_true, Bool.true_and]
        congr 1
        apply propext
        omega
      · have h2 : (y + 1) * P ≤ x * P := Int.mul_le_mul_of_nonneg_right (by omega) (by omega)
        rw [Int.add_mul] at h2
        have n1 : ¬ (UInt8.ofNat x.toNat < UInt8.ofNat y.toNat) := fun h' => by have := hlt.1 h'; omega
        have n2 : ¬ (UInt8.ofNat x.toNat = UInt8.ofNat y.toNat) := fun h' => by have := heq.1 h'; omega
        rw [decide_eq_false n1, Bool.false_or, show (UInt8.ofNat x.toNat == UInt8.ofNat y.toNat) = false from beq_eq_false_iff_ne.2 n2, Bool.false_and, eq_comm, decide_eq_false_iff_not]
        omega
theorem long_bytes (n : Int) : Bytes (longFrom n 8 0) := by
  intro x hx
  have hb : ∀ j, 0 ≤ byteAt n j ∧ byteAt n j < 256 := fun j => by unfold byteAt; omega
  simp only [longFrom, List.mem_cons, List.not_mem_nil, or_false] at hx
  rcases hx with rfl | rfl | rfl | rfl | rfl | rfl | rfl | rfl <;> exact hb _
theorem num_long (n : Int) (h0 : 0 ≤ n) (h1 : n < 4611686018427387904) : num (longFrom n 8 0) = n := by
  have e : num (longFrom n 8 0) = byteAt n 0 * 256 ^ 7 + (byteAt n 1 * 256 ^ 6 + (byteAt n 2 * 256 ^ 5 + (byteAt n 3 * 256 ^ 4 + (byteAt n 4 * 256 ^ 3 + (byteAt n 5 * 256 ^ 2 + (byteAt n 6 * 256 ^ 1 + (byteAt n 7 * 256 ^ 0 + 0))))))) := by
    simp only [longFrom, num, List.length_cons, List.length_nil]
  have p7 : (256 : Int) ^ 7 = 72057594037927936 := rfl
  have p6 : (256 : Int) ^ 6 = 281474976710656 := rfl
  have p5 : (256 : Int) ^ 5 = 1099511627776 := rfl
  have p4 : (256 : Int) ^ 4 = 4294967296 := rfl
  have p3 : (256 : Int) ^ 3 = 16777216 := rfl
  have p2 : (256 : Int) ^ 2 = 65536 := rfl
  have p1 : (256 : Int) ^ 1 = 256 := rfl
  have p0 : (256 : Int) ^ 0 = 1 := rfl
  rw [p7, p6, p5, p4, p3, p2, p1, p0] at e
  have b0 : byteAt n 0 = n / 72057594037927936 % 256 := rfl
  have b1 : byteAt n 1 = n / 281474976710656 % 256 := rfl
  have b2 : byteAt n 2 = n / 1099511627776 % 256 := rfl
  have b3 : byteAt n 3 = n / 4294967296 % 256 := rfl
  have b4 : byteAt n 4 = n / 16777216 % 256 := rfl
  have b5 : byteAt n 5 = n / 65536 % 256 := rfl
  have b6 : byteAt n 6 = n / 256 % 256 := rfl
  have b7 : byteAt n 7 = n / 1 % 256 := rfl
  rw [e, b0, b1, b2, b3, b4, b5, b6, b7]
  omega
theorem and62 (x : Int) : 0 ≤ bits .and .i64 x 4611686018427387903 ∧ bits .and .i64 x 4611686018427387903 < 4611686018427387904 := by
  have e : bits .and .i64 x 4611686018427387903 = IntKind.i64.wrap (((BitVec.ofInt 64 x) &&& (BitVec.ofInt 64 4611686018427387903)).toNat : Int) := rfl
  have e2 : (BitVec.ofInt 64 4611686018427387903).toNat = 2 ^ 62 - 1 := by decide
  rw [e, BitVec.toNat_and, e2, Nat.and_two_pow_sub_one_eq_mod]
  have h := Nat.mod_lt (BitVec.ofInt 64 x).toNat (show 0 < 2 ^ 62 by decide)
  have h2 : (2 : Nat) ^ 62 = 4611686018427387904 := by decide
  rw [h2] at h ⊢
  generalize (BitVec.ofInt 64 x).toNat % 4611686018427387904 = z at *
  have hw : IntKind.i64.wrap (z : Int) = (z : Int) := by
    rw [IntKind.wrap_i64]; omega
  rw [hw]; omega
theorem long_len (n : Int) : (longFrom n 8 0).length = 8 := rfl
theorem longs : bordereaulaw2_VarintLongs.Pure := by
  intro a0 a1 l2 _ _ _ hl hb
  have hB : Bytes l2 := fun x hx => u8_lit x (hb x hx)
  refine ⟨100, ?_⟩
  unfold bordereaulaw2_VarintLongs.f
  obtain ⟨x0, x1⟩ := and62 a0
  obtain ⟨y0, y1⟩ := and62 a1
  generalize bits .and .i64 a0 4611686018427387903 = x at *
  generalize bits .and .i64 a1 4611686018427387903 = y at *
  have hL : (longFrom x 8 0).length = 8 := long_len x
  have hM : (longFrom y 8 0).length = 8 := long_len y
  have hlt := less_num (longFrom x 8 0) (longFrom y 8 0) (hL.trans hM.symm) (long_bytes x) (long_bytes y)
  rw [num_long x x0 x1, num_long y y0 y1] at hlt
  rw [long_spec 100 [] x (by decide) (by simp), Option.bind_some, List.nil_append, long_spec 100 [] y (by decide) (by simp), Option.bind_some, List.nil_append, if_pos (by omega), back_long 100 x l2 ⟨by omega, by omega⟩ (by decide), Option.bind_some, if_pos (by omega), hlt, if_pos (by simp)]
  simp only []
  rw [if_pos trivial, if_pos trivial, known_true 100 (by decide), Option.bind_some]
end Go.Proofs.Ytddgichochdgcaa.VarPure
