/- What the functions of layers 1, 2 and 6 tell, for any batch that is right: bytes are read as what they were written from. -/
import Derived.Test.YtknclghaofmnhaaPBRx0
import Derived.Test.YtknclghaofmnhaaPBRx1
import Derived.Test.YtknclghaofmnhaaPBRx2
import Derived.Test.YtknclghaofmnhaaPBRx3
import Derived.Test.YtknclghaofmnhaaPBRx4
import Derived.Test.YtknclghaofmnhaaPBRx5
import Derived.Test.YtknclghaofmnhaaPBRx6
import Derived.Test.YtknclghaofmnhaaPBRx7
import Derived.Test.YtknclghaofmnhaaPBRx8
import Derived.Test.YtknclghaofmnhaaPBRx9
import Derived.Test.YtknclghaofmnhaaPBRx10
import Derived.Test.YtknclghaofmnhaaPBRx11
import Derived.Laws.BitsAllLaws
import Derived.Laws.BitsLemmas
import Derived.RowKit
import Derived.IntWalk
import Derived.Laws.Strings
import Derived.OpenShut
namespace Num
open Go Go.RowKit
theorem w64 (n : Int) (h : -9223372036854775808 ≤ n ∧ n ≤ 9223372036854775807) : wrap64 n = n := by unfold wrap64; omega
theorem wu64 (n : Int) : IntKind.u64.wrap n = n % 18446744073709551616 := by simp [IntKind.wrap, IntKind.bits, IntKind.signed]
theorem wu8 (n : Int) : IntKind.u8.wrap n = n % 256 := IntKind.wrap_u8 n
/-- x with all bits turned. -/
theorem xor_ones64 (x : Nat) (hx : x < 18446744073709551616) : x ^^^ 18446744073709551615 = 18446744073709551615 - x := by
  have h := BitVec.toNat_not (x := BitVec.ofNat 64 x)
  have e : (~~~(BitVec.ofNat 64 x)) = BitVec.ofNat 64 x ^^^ BitVec.allOnes 64 := (BitVec.xor_allOnes).symm
  rw [e, BitVec.toNat_xor, BitVec.toNat_allOnes, BitVec.toNat_ofNat, Nat.mod_eq_of_lt (show x < 2 ^ 64 by simpa using hx)] at h
  simpa using h
theorem xor_neg1 (x : Int) (h : -9223372036854775808 ≤ x ∧ x ≤ 9223372036854775807) : bits .xor .i64 x (-1) = -x - 1 := by
  have e : bits .xor .i64 x (-1) = IntKind.i64.wrap (((BitVec.ofInt 64 x) ^^^ (BitVec.ofInt 64 (-1))).toNat : Int) := rfl
  have e1 : BitVec.ofInt 64 (-1) = BitVec.allOnes 64 := by decide
  rw [e, e1, BitVec.xor_allOnes, BitVec.toNat_not, BitVec.toNat_ofInt, IntKind.wrap_i64]
  have h64 : ((2 ^ 64 : Nat) : Int) = 18446744073709551616 := by decide
  have h65 : (2 ^ 64 : Nat) = 18446744073709551616 := by decide
  rw [h64, h65]
  omega
theorem xor_0 (x : Int) (h : -9223372036854775808 ≤ x ∧ x ≤ 9223372036854775807) : bits .xor .i64 x 0 = x := by
  have e : bits .xor .i64 x 0 = IntKind.i64.wrap (((BitVec.ofInt 64 x) ^^^ (BitVec.ofInt 64 0)).toNat : Int) := rfl
  have e1 : BitVec.ofInt 64 0 = 0#64 := by decide
  rw [e, e1, BitVec.xor_zero, BitVec.toNat_ofInt, IntKind.wrap_i64]
  have h64 : ((2 ^ 64 : Nat) : Int) = 18446744073709551616 := by decide
  rw [h64]
  omega
/-- A number's zigzag. -/
def zig (n : Int) : Int := if 0 ≤ n then 2 * n else -2 * n - 1
def zag (u : Int) : Int := if u % 2 = 0 then u / 2 else -(u / 2) - 1
theorem zag_zig (n : Int) : zag (zig n) = n := by unfold zag zig; split <;> split <;> omega
theorem zig_zag (u : Int) (h : 0 ≤ u) : zig (zag u) = u := by unfold zag zig; split <;> split <;> omega
theorem zig_range (n : Int) (h : -9223372036854775808 ≤ n ∧ n ≤ 9223372036854775807) : 0 ≤ zig n ∧ zig n < 18446744073709551616 := by unfold zig; split <;> omega
theorem zag_range (u : Int) (h : 0 ≤ u ∧ u < 18446744073709551616) : -9223372036854775808 ≤ zag u ∧ zag u ≤ 9223372036854775807 := by unfold zag; split <;> omega
theorem xor_u64_ones (x : Int) (h0 : 0 ≤ x) (h1 : x < 18446744073709551616) : bits .xor .u64 x 18446744073709551615 = 18446744073709551615 - x := by
  rw [u64_xor x 18446744073709551615 h0 h1 (by decide) (by decide)]
  have : (18446744073709551615 : Int).toNat = 18446744073709551615 := by decide
  rw [this, xor_ones64 _ (by omega)]; omega
theorem xor_u64_0 (x : Int) (h0 : 0 ≤ x) (h1 : x < 18446744073709551616) : bits .xor .u64 x 0 = x := by
  rw [u64_xor x 0 h0 h1 (by decide) (by decide)]
  simp; omega
/-- As both packages put it: the number times two, turned where it is below 0. -/
theorem zig_ref (n : Int) (h : -9223372036854775808 ≤ n ∧ n ≤ 9223372036854775807) : bits .xor .u64 (IntKind.u64.wrap (wrap64 (n * 2))) (IntKind.u64.wrap (n / 9223372036854775808)) = zig n := by
  unfold zig
  by_cases h0 : 0 ≤ n
  · rw [if_pos h0, show n / 9223372036854775808 = 0 by omega, show IntKind.u64.wrap 0 = 0 from rfl, wu64]
    rw [xor_u64_0 _ (by omega) (by omega)]; unfold wrap64; omega
  · rw [if_neg h0, show n / 9223372036854775808 = -1 by omega, show IntKind.u64.wrap (-1) = 18446744073709551615 by rw [wu64]; rfl, wu64]
    rw [xor_u64_ones _ (by omega) (by omega)]; unfold wrap64; omega
theorem zig_own (n : Int) (h : -9223372036854775808 ≤ n ∧ n ≤ 9223372036854775807) : bits .xor .u64 (IntKind.u64.wrap (IntKind.u64.wrap n * 2)) (IntKind.u64.wrap (n / 9223372036854775808)) = zig n := by
  rw [← zig_ref n h]
  congr 1
  simp only [wu64]; unfold wrap64; omega
theorem and1_u64 (u : Int) (h0 : 0 ≤ u) (h1 : u < 18446744073709551616) : bits .and .u64 u 1 = u % 2 := by
  rw [u64_and u 1 h0 h1 (by decide) (by decide)]
  have : (1 : Int).toNat = 1 := rfl
  rw [this, nat_mask1]; omega
theorem zag_own (u : Int) (h0 : 0 ≤ u) (h1 : u < 18446744073709551616) : bits .xor .i64 (wrap64 (u / 2)) (wrap64 (-(wrap64 (bits .and .u64 u 1)))) = zag u := by
  rw [and1_u64 u h0 h1, w64 (u / 2) (by omega), w64 (u % 2) (by omega), w64 (-(u % 2)) (by omega)]
  unfold zag
  by_cases h : u % 2 = 0
  · rw [if_pos h, h]; exact xor_0 _ (by omega)
  · rw [if_neg h, show u % 2 = 1 by omega]; exact xor_neg1 _ (by omega)
theorem and127_u8 (c : Int) (h0 : 0 ≤ c) (h1 : c < 256) : bits .and .u8 c 127 = c % 128 := by
  rw [u8_and c 127 h0 h1 (by decide) (by decide)]
  have : (127 : Int).toNat = 127 := rfl
  rw [this, nat_mask7]; omega
theorem nat_low7 : ∀ c : Nat, c < 256 → c &&& 18446744073709551487 = c % 128 := by decide +kernel
theorem andNot128 (c : Int) (h0 : 0 ≤ c) (h1 : c < 256) : bits .andNot .u64 c 128 = c % 128 := by
  rw [u64_andNot c 128 h0 (by omega) (by decide) (by decide)]
  have : (18446744073709551615 - (128 : Int).toNat) = 18446744073709551487 := by decide
  rw [this, nat_low7 _ (by omega)]; omega
theorem or128_u8 (c : Int) (h0 : 0 ≤ c) (h1 : c < 256) : bits .or .u8 c 128 = c % 128 + 128 := by
  have g : ∀ n : Nat, n < 256 → n ||| 128 = n % 128 + 128 := by decide +kernel
  rw [u8_or c 128 h0 h1 (by decide) (by decide)]
  have : (128 : Int).toNat = 128 := rfl
  rw [this, g _ (by omega)]; omega
theorem or_u64 (i : Nat) (x y : Int) (hx0 : 0 ≤ x) (hx : x < 2 ^ i) (hy0 : 0 ≤ y) (hy : y % 2 ^ i = 0) (hx1 : x < 18446744073709551616) (hy1 : y < 18446744073709551616) : bits .or .u64 x y = x + y := by
  rw [u64_or x y hx0 hx1 hy0 hy1]
  obtain ⟨a, rfl⟩ := Int.eq_ofNat_of_zero_le hx0
  obtain ⟨b, rfl⟩ := Int.eq_ofNat_of_zero_le hy0
  have h1 : a < 2 ^ i := by exact_mod_cast hx
  have h2 : b % 2 ^ i = 0 := by exact_mod_cast hy
  rw [Int.toNat_natCast, Int.toNat_natCast, Nat.or_comm, nat_join i b a h2 h1]
  omega
end Num

namespace Vt
/-- A row of seven-bit parts, the last of which stands below 128. -/
def enc : Nat → Int → List Int
  | 0, u => [u]
  | f + 1, u => if u ≥ 128 then (u % 128 + 128) :: enc f (u / 128) else [u]
def val : List Int → Int
  | [] => 0
  | c :: r => c % 128 + 128 * val r
theorem enc_ne (f : Nat) (u : Int) : enc f u ≠ [] := by
  cases f with
  | zero => simp [enc]
  | succ f => unfold enc; split <;> simp
theorem pow128 (f : Nat) : (128 : Int) ^ (f + 1) = 128 * 128 ^ f := by rw [Int.pow_succ, Int.mul_comm]
theorem pow_pos (f : Nat) : (0 : Int) < 128 ^ f := Int.pow_pos (by decide)
theorem val_enc (f : Nat) : ∀ u : Int, 0 ≤ u → u < 128 ^ (f + 1) → val (enc f u) = u := by
  induction f with
  | zero => intro u h0 h1; rw [pow128] at h1; simp only [enc, val]; have : (128 : Int) ^ 0 = 1 := rfl; omega
  | succ f ih =>
    intro u h0 h1
    rw [pow128] at h1
    unfold enc
    split
    · rw [val, ih (u / 128) (by omega) (by omega)]; omega
    · simp only [val]; omega
theorem enc_bytes (f : Nat) : ∀ u : Int, 0 ≤ u → u < 128 ^ (f + 1) → ∀ c ∈ enc f u, 0 ≤ c ∧ c < 256 := by
  induction f with
  | zero => intro u h0 h1 c hc; rw [pow128] at h1; have : (128 : Int) ^ 0 = 1 := rfl; simp only [enc, List.mem_singleton] at hc; omega
  | succ f ih =>
    intro u h0 h1 c hc
    rw [pow128] at h1
    unfold enc at hc
    split at hc
    · rcases List.mem_cons.1 hc with rfl | hc
      · omega
      · exact ih (u / 128) (by omega) (by omega) c hc
    · simp only [List.mem_singleton] at hc; omega
theorem enc_len (f : Nat) : ∀ (i : Nat) (u : Int), 0 ≤ u → u < 128 ^ (i + 1) → (enc f u).length ≤ i + 1 := by
  induction f with
  | zero => intro i u _ _; simp [enc]
  | succ f ih =>
    intro i u h0 h1
    unfold enc
    split
    · cases i with
      | zero => rw [pow128] at h1; have : (128 : Int) ^ 0 = 1 := rfl; omega
      | succ i =>
        rw [pow128] at h1
        have := ih i (u / 128) (by omega) (by omega)
        simp only [List.length_cons]; omega
    · simp
theorem enc_len' (f : Nat) (u : Int) : (enc f u).length ≤ f + 1 := by
  induction f generalizing u with
  | zero => simp [enc]
  | succ f ih => unfold enc; split
                 · have := ih (u / 128); simp only [List.length_cons]; omega
                 · simp
theorem val_nonneg (l : List Int) : 0 ≤ val l := by
  induction l with
  | nil => simp [val]
  | cons c r ih => simp only [val]; omega
theorem val_lt (l : List Int) : val l < 128 ^ l.length := by
  induction l with
  | nil => simp [val]
  | cons c r ih => simp only [val, List.length_cons]; rw [pow128]; omega
theorem val_append (l m : List Int) : val (l ++ m) = val l + 128 ^ l.length * val m := by
  induction l with
  | nil => simp [val]
  | cons c r ih =>
    simp only [List.cons_append, val, List.length_cons, ih]
    rw [pow128, Int.mul_add, ← Int.mul_assoc]; omega
theorem val_pos (c : Int) (h0 : 0 < c) (h1 : c < 128) (pre : List Int) : 128 ^ pre.length ≤ val (pre ++ [c]) := by
  rw [val_append]
  have h2 := val_nonneg pre
  have h3 : val [c] = c := by simp only [val]; omega
  rw [h3]
  have h4 := pow_pos pre.length
  have h5 : (128 : Int) ^ pre.length * 1 ≤ 128 ^ pre.length * c := Int.mul_le_mul_of_nonneg_left (by omega) (by omega)
  omega
/-- The row itself comes back, if its last part is not 0 (or stands alone). -/
theorem enc_val (f : Nat) : ∀ (pre : List Int) (c : Int), (∀ x ∈ pre, 128 ≤ x ∧ x < 256) → 0 ≤ c → c < 128 → (c ≠ 0 ∨ pre = []) → pre.length ≤ f → enc f (val (pre ++ [c])) = pre ++ [c] := by
  induction f with
  | zero =>
    intro pre c hp h0 h1 hc hl
    have : pre = [] := List.eq_nil_of_length_eq_zero (by omega)
    subst this
    simp only [enc, List.nil_append, val]; congr 1; omega
  | succ f ih =>
    intro pre c hp h0 h1 hc hl
    cases pre with
    | nil => simp only [List.nil_append, val, enc]; rw [if_neg (by omega)]; congr 1; omega
    | cons x r =>
      have hx := hp x (List.mem_cons_self ..)
      have hne : c ≠ 0 := by rcases hc with h | h; exact h; cases h
      have hpos : 1 ≤ val (r ++ [c]) := by
        have := val_pos c (by omega) h1 r
        have := pow_pos r.length
        omega
      simp only [List.cons_append, val, enc]
      rw [if_pos (by omega)]
      have e1 : (x % 128 + 128 * val (r ++ [c])) % 128 + 128 = x := by omega
      have e2 : (x % 128 + 128 * val (r ++ [c])) / 128 = val (r ++ [c]) := by omega
      rw [e1, e2, ih r c (fun y hy => hp y (List.mem_cons_of_mem _ hy)) h0 h1 (.inl hne) (by simpa using hl)]
/-- What a row looks like: all but the last stand at 128 and above. -/
theorem enc_shape (f : Nat) : ∀ u : Int, 0 ≤ u → u < 128 ^ (f + 1) → ∃ pre c, enc f u = pre ++ [c] ∧ (∀ x ∈ pre, 128 ≤ x ∧ x < 256) ∧ 0 ≤ c ∧ c < 128 ∧ (c ≠ 0 ∨ pre = []) := by
  induction f with
  | zero => intro u h0 h1; rw [pow128] at h1; have : (128 : Int) ^ 0 = 1 := rfl; exact ⟨[], u, rfl, fun x hx => by simp at hx, h0, by omega, .inr rfl⟩
  | succ f ih =>
    intro u h0 h1
    rw [pow128] at h1
    unfold enc
    split
    · obtain ⟨pre, c, he, hp, hc0, hc1, hz⟩ := ih (u / 128) (by omega) (by omega)
      refine ⟨(u % 128 + 128) :: pre, c, by rw [he]; rfl, fun x hx => ?_, hc0, hc1, .inl ?_⟩
      · rcases List.mem_cons.1 hx with rfl | hx
        · omega
        · exact hp x hx
      · rcases hz with h | h
        · exact h
        · subst h
          have hv := val_enc f (u / 128) (by omega) (by omega)
          rw [he] at hv
          simp only [List.nil_append, val] at hv
          omega
    · exact ⟨[], u, rfl, fun x hx => by simp at hx, h0, by omega, .inr rfl⟩
/-- The number at the front of a row, u so far behind i parts; how many parts it takes. -/
def dec : List Int → Nat → Int → Option (Int × Nat)
  | [], _, _ => none
  | c :: r, i, u => if i ≥ 10 then none else if i = 9 ∧ c % 128 ≥ 2 then none else if c ≥ 128 then dec r (i + 1) (u + 128 ^ i * (c % 128)) else if c = 0 ∧ i > 0 then none else some (u + 128 ^ i * (c % 128), i + 1)
theorem dec_cont (r : List Int) : ∀ (pre : List Int) (i : Nat) (u : Int), (∀ x ∈ pre, 128 ≤ x ∧ x < 256) → i + pre.length ≤ 9 → dec (pre ++ r) i u = dec r (i + pre.length) (u + 128 ^ i * val pre) := by
  intro pre
  induction pre with
  | nil => intro i u _ _; simp [val]
  | cons x p ih =>
    intro i u hp hl
    have hx := hp x (List.mem_cons_self ..)
    simp only [List.length_cons] at hl
    rw [List.cons_append, dec, if_neg (by omega), if_neg (by omega), if_pos (by omega), ih (i + 1) _ (fun y hy => hp y (List.mem_cons_of_mem _ hy)) (by omega)]
    have e : i + 1 + p.length = i + (x :: p).length := by simp only [List.length_cons]; omega
    rw [e]
    congr 1
    simp only [val]
    rw [pow128, Int.mul_add, Int.add_assoc]
    congr 2
    rw [Int.mul_comm 128, Int.mul_assoc]
/-- What is put is got, whatever stands behind it. -/
theorem dec_enc (u : Int) (h0 : 0 ≤ u) (h1 : u < 18446744073709551616) (r : List Int) : dec (enc 9 u ++ r) 0 0 = some (u, (enc 9 u).length) := by
  have hp : u < 128 ^ (9 + 1) := Int.lt_trans h1 (by decide)
  obtain ⟨pre, c, he, hpre, hc0, hc1, hz⟩ := enc_shape 9 u h0 hp
  have hv := val_enc 9 u h0 hp
  have hl := enc_len 9 9 u h0 hp
  rw [he] at hv hl ⊢
  rw [List.length_append, List.length_singleton] at hl
  rw [List.append_assoc, dec_cont _ pre 0 0 hpre (by omega), List.singleton_append, dec]
  have hvc : val [c] = c := by simp only [val]; omega
  rw [val_append, hvc] at hv
  have hvp := val_nonneg pre
  have hpp := pow_pos pre.length
  rw [if_neg (by omega), if_neg, if_neg (by omega), if_neg]
  · rw [show c % 128 = c by omega, List.length_append, List.length_singleton]
    have : (128 : Int) ^ 0 = 1 := rfl
    rw [this, Int.one_mul, Int.zero_add, Nat.zero_add, hv]
  · rintro ⟨rfl, hi⟩
    rcases hz with h | h
    · exact h rfl
    · subst h; simp at hi
  · rintro ⟨hi, hc⟩
    rw [Nat.zero_add] at hi
    rw [hi] at hv
    have : (128 : Int) ^ 9 = 9223372036854775808 := by decide
    rw [this] at hv
    omega
/-- A row whose parts all go on has no number. -/
theorem dec_none (pre : List Int) : ∀ (i : Nat) (u : Int), (∀ x ∈ pre, 128 ≤ x ∧ x < 256) → dec pre i u = none := by
  induction pre with
  | nil => intro i u _; rfl
  | cons x p ih =>
    intro i u hp
    have hx := hp x (List.mem_cons_self ..)
    rw [dec]
    split
    · rfl
    · split
      · rfl
      · rw [if_pos (by omega)]; exact ih _ _ (fun y hy => hp y (List.mem_cons_of_mem _ hy))
theorem val_single (c : Int) (h0 : 0 ≤ c) (h1 : c < 128) : val [c] = c := by simp only [val]; omega
theorem pow_mono {i j : Nat} (h : i ≤ j) : (128 : Int) ^ i ≤ 128 ^ j := by
  have h2 : 128 ^ i ≤ 128 ^ j := Nat.pow_le_pow_right (by decide) h
  exact_mod_cast h2
theorem enc_short (pre : List Int) (h : pre ≠ []) : enc 9 (val (pre ++ [0])) ≠ pre ++ [0] := by
  intro he
  cases hl : pre.length with
  | zero => exact h (List.eq_nil_of_length_eq_zero hl)
  | succ i =>
    have e : val (pre ++ [0]) = val pre := by rw [val_append]; simp [val]
    have h1 := val_lt pre
    rw [hl] at h1
    have h2 := enc_len 9 i (val pre) (val_nonneg pre) h1
    rw [e] at he
    rw [he, List.length_append, List.length_singleton] at h2
    omega
/-- The last part, told by what is put again. -/
theorem dec_last (pre : List Int) (c : Int) (r : List Int) (hp : ∀ x ∈ pre, 128 ≤ x ∧ x < 256) (hl : pre.length ≤ 9) (h0 : 0 ≤ c) (h1 : c < 128) (u : Int) (hu : u = (val pre + 128 ^ pre.length * c) % 18446744073709551616) :
    (enc 9 u = pre ++ [c] → dec (c :: r) pre.length (val pre) = some (u, pre.length + 1)) ∧ (enc 9 u ≠ pre ++ [c] → dec (c :: r) pre.length (val pre) = none) := by
  have hv : val (pre ++ [c]) = val pre + 128 ^ pre.length * c := by rw [val_append, val_single c h0 h1]
  rw [← hv] at hu
  have hn := val_nonneg (pre ++ [c])
  have hc : c % 128 = c := by omega
  have hz : c = 0 → pre.length > 0 → enc 9 u ≠ pre ++ [c] ∧ u = val pre := by
    intro hc0 hpl
    subst hc0
    have e : val (pre ++ [0]) = val pre := by rw [val_append]; simp [val]
    have h3 : val pre < 18446744073709551616 := by
      have h4 := val_lt pre
      have h5 : (128 : Int) ^ pre.length ≤ 128 ^ 9 := pow_mono hl
      have h6 : (128 : Int) ^ 9 = 9223372036854775808 := by decide
      omega
    have h4 := val_nonneg pre
    have hu' : u = val (pre ++ [0]) := by rw [hu, e]; omega
    refine ⟨?_, by rw [hu', e]⟩
    rw [hu']
    exact enc_short pre (fun h => by rw [h] at hpl; simp at hpl)
  rw [dec, if_neg (by omega), if_neg (by omega : ¬ c ≥ 128), hc]
  by_cases h9 : pre.length = 9 ∧ c ≥ 2
  · rw [if_pos h9]
    refine ⟨fun he => ?_, fun _ => rfl⟩
    have hu2 : 0 ≤ u ∧ u < 18446744073709551616 := by omega
    have h3 := val_enc 9 u hu2.1 (Int.lt_trans hu2.2 (by decide))
    rw [he, hv] at h3
    rw [h9.1] at h3
    have h6 : (128 : Int) ^ 9 = 9223372036854775808 := by decide
    have h7 := val_nonneg pre
    rw [h6] at h3
    omega
  · rw [if_neg h9]
    have hsmall : val (pre ++ [c]) < 18446744073709551616 := by
      rw [hv]
      have h4 := val_lt pre
      have h6 : (128 : Int) ^ 9 = 9223372036854775808 := by decide
      by_cases h8 : pre.length = 9
      · rw [h8] at h4 ⊢; rw [h6] at h4 ⊢; omega
      · have h5 : (128 : Int) ^ (pre.length + 1) ≤ 128 ^ 9 := pow_mono (by omega)
        rw [pow128, h6] at h5
        have h7 : (128 : Int) ^ pre.length * c ≤ 128 ^ pre.length * 127 := Int.mul_le_mul_of_nonneg_left (by omega) (Int.le_of_lt (pow_pos _))
        omega
    have hu' : u = val (pre ++ [c]) := by omega
    by_cases hc0 : c = 0 ∧ pre.length > 0
    · rw [if_pos hc0]
      exact ⟨fun he => absurd he (hz hc0.1 hc0.2).1, fun _ => rfl⟩
    · rw [if_neg hc0]
      refine ⟨fun _ => by rw [hu', hv], fun he => absurd ?_ he⟩
      rw [hu']
      refine enc_val 9 pre c hp h0 h1 ?_ hl
      by_cases h : c = 0
      · right; exact List.eq_nil_of_length_eq_zero (by omega)
      · left; exact h
end Vt

namespace CrcT
def step (c : BitVec 32) : BitVec 32 := (c >>> 1) ^^^ (if c.getLsbD 0 then 2197175160#32 else 0#32)
theorem step_xor (a b : BitVec 32) : step (a ^^^ b) = step a ^^^ step b := by
  unfold step
  rw [BitVec.ushiftRight_xor_distrib, BitVec.getLsbD_xor]
  cases a.getLsbD 0 <;> cases b.getLsbD 0 <;> simp
  · rw [BitVec.xor_assoc]
  · rw [BitVec.xor_assoc, BitVec.xor_assoc]; congr 1; rw [BitVec.xor_comm]
  · have h : ∀ x y z : BitVec 32, x ^^^ y = x ^^^ z ^^^ (y ^^^ z) := by
      intro x y z
      rw [BitVec.xor_assoc, ← BitVec.xor_assoc z, BitVec.xor_comm z y, BitVec.xor_assoc y, BitVec.xor_self, BitVec.xor_zero]
    exact h _ _ _
theorem step_zero : step 0#32 = 0#32 := by decide
theorem top (c : BitVec 32) : (step c).getLsbD 31 = c.getLsbD 0 := by
  unfold step
  rw [BitVec.getLsbD_xor, BitVec.getLsbD_ushiftRight]
  have h1 : c.getLsbD (1 + 31) = false := BitVec.getLsbD_of_ge _ _ (by decide)
  rw [h1]
  cases c.getLsbD 0
  · rw [if_neg (by decide)]; decide
  · rw [if_pos rfl]; decide
theorem step_ker (c : BitVec 32) (h : step c = 0#32) : c = 0#32 := by
  have h0 : c.getLsbD 0 = false := by rw [← top c, h]; decide
  have h1 : c >>> 1 = 0#32 := by
    have := h
    unfold step at this
    rw [h0, if_neg (by decide), BitVec.xor_zero] at this
    exact this
  apply BitVec.eq_of_getLsbD_eq
  intro i hi
  rw [BitVec.getLsbD_zero]
  match i with
  | 0 => exact h0
  | i + 1 =>
    have := congrArg (fun x => x.getLsbD i) h1
    simp only [BitVec.getLsbD_ushiftRight, BitVec.getLsbD_zero] at this
    rw [Nat.add_comm] at this
    exact this
def T (c : BitVec 32) : BitVec 32 := step (step (step (step (step (step (step (step c)))))))
theorem T_xor (a b : BitVec 32) : T (a ^^^ b) = T a ^^^ T b := by simp only [T, step_xor]
theorem T_ker (c : BitVec 32) (h : T c = 0#32) : c = 0#32 := step_ker _ (step_ker _ (step_ker _ (step_ker _ (step_ker _ (step_ker _ (step_ker _ (step_ker _ h)))))))
theorem T_zero : T 0#32 = 0#32 := by decide
theorem step_shift (x : BitVec 32) (n : Nat) (hn : n < 32) (h : x.toNat < 2 ^ (31 - n)) : step (x <<< (n + 1)) = x <<< n := by
  unfold step
  have h0 : (x <<< (n + 1)).getLsbD 0 = false := by rw [BitVec.getLsbD_shiftLeft]; simp
  rw [h0, if_neg (by decide), BitVec.xor_zero]
  apply BitVec.eq_of_toNat_eq
  have e : 2 ^ 32 = 2 ^ (31 - n) * 2 ^ (n + 1) := by rw [← Nat.pow_add]; congr 1; omega
  have hl : x.toNat * 2 ^ (n + 1) < 2 ^ 32 := by rw [e]; exact Nat.mul_lt_mul_of_pos_right h (Nat.two_pow_pos _)
  have hl2 : x.toNat * 2 ^ n < 2 ^ 32 := Nat.lt_of_le_of_lt (Nat.mul_le_mul_left _ (Nat.pow_le_pow_right (by decide) (by omega))) hl
  rw [BitVec.toNat_ushiftRight, BitVec.toNat_shiftLeft, BitVec.toNat_shiftLeft, Nat.shiftLeft_eq, Nat.shiftLeft_eq, Nat.shiftRight_eq_div_pow, Nat.mod_eq_of_lt hl, Nat.mod_eq_of_lt hl2, Nat.pow_succ, ← Nat.mul_assoc, Nat.pow_one, Nat.mul_div_cancel _ (by decide)]
theorem T_shift (x : BitVec 32) (h : x.toNat < 2 ^ 24) : T (x <<< 8) = x := by
  have g : ∀ n, n < 8 → x.toNat < 2 ^ (31 - n) := fun n hn => Nat.lt_of_lt_of_le h (Nat.pow_le_pow_right (by decide) (by omega))
  unfold T
  rw [step_shift x 7 (by decide) (g 7 (by decide)), step_shift x 6 (by decide) (g 6 (by decide)), step_shift x 5 (by decide) (g 5 (by decide)), step_shift x 4 (by decide) (g 4 (by decide)), step_shift x 3 (by decide) (g 3 (by decide)), step_shift x 2 (by decide) (g 2 (by decide)), step_shift x 1 (by decide) (g 1 (by decide)), step_shift x 0 (by decide) (g 0 (by decide))]
  exact BitVec.shiftLeft_zero x
theorem xz (a b : BitVec 32) : a ^^^ b = 0#32 ↔ a = b := by
  constructor
  · intro h
    have := congrArg (fun x => x ^^^ b) h
    simpa [BitVec.xor_assoc] using this
  · rintro rfl; exact BitVec.xor_self
/-- Four bytes in a row that differ from another four by t0, t1, t2, t3. -/
theorem four (t0 t1 t2 t3 : BitVec 32) (_h0 : t0.toNat < 256) (h1 : t1.toNat < 256) (h2 : t2.toNat < 256) (h3 : t3.toNat < 256) :
    T (T (T (T t0 ^^^ t1) ^^^ t2) ^^^ t3) = T (T (T (T (t0 ^^^ ((t1 ^^^ ((t2 ^^^ (t3 <<< 8)) <<< 8)) <<< 8))))) := by
  have s3 : (t3 <<< 8).toNat = t3.toNat * 256 := by rw [BitVec.toNat_shiftLeft, Nat.shiftLeft_eq, Nat.mod_eq_of_lt (by omega)]
  have u2 : (t2 ^^^ (t3 <<< 8)).toNat < 2 ^ 16 := by
    rw [BitVec.toNat_xor]; exact Nat.xor_lt_two_pow (by omega) (by omega)
  have s2 : ((t2 ^^^ (t3 <<< 8)) <<< 8).toNat = (t2 ^^^ (t3 <<< 8)).toNat * 256 := by rw [BitVec.toNat_shiftLeft, Nat.shiftLeft_eq, Nat.mod_eq_of_lt (by omega)]
  have u1 : (t1 ^^^ ((t2 ^^^ (t3 <<< 8)) <<< 8)).toNat < 2 ^ 24 := by
    rw [BitVec.toNat_xor]; exact Nat.xor_lt_two_pow (by omega) (by omega)
  rw [T_xor t0, T_shift _ u1, ← BitVec.xor_assoc, T_xor (T t0 ^^^ t1), T_shift _ (by omega), ← BitVec.xor_assoc, T_xor (T (T t0 ^^^ t1) ^^^ t2), T_shift _ (by omega)]
end CrcT
namespace Go.Proofs.Ytknclghaofmnhaa.VB
open Go Go.RowKit Go.Proofs.Ytknclghaofmnhaa.PBR Go.Proofs.YtknclghaofmnhaaV.PrintWords Go.Proofs.YtknclghaofmnhaaV.PrintLast Go.Proofs.YtknclghaofmnhaaV.PrintMore
set_option linter.unusedVariables false
def Bytes (l : List Int) : Prop := ∀ x ∈ l, 0 ≤ x ∧ x < 256
def I64 (n : Int) : Prop := -9223372036854775808 ≤ n ∧ n ≤ 9223372036854775807
theorem rd_at (l : List Int) (i : Nat) (h : i < l.length) : rd l (i : Int) = l[i] := by
  unfold rd
  rw [Int.toNat_natCast, List.getD_eq_getElem?_getD, List.getElem?_eq_getElem h]; rfl
theorem rd_app (p : List Int) (c : Int) (r : List Int) : rd (p ++ c :: r) (p.length : Int) = c := by
  unfold rd
  rw [Int.toNat_natCast, List.getD_eq_getElem?_getD, List.getElem?_append_right (Nat.le_refl _), Nat.sub_self]; rfl
theorem put_own (f : Nat) : ∀ (k : Nat) (l : List Int) (u : Int), 0 ≤ u → u < 128 ^ (f + 1) → f < k → l.length + f + 1 < 140737488355328 → varint_Put.l0 k l u = some (l ++ Vt.enc f u) := by
  induction f with
  | zero =>
    intro k l u h0 h1 hk hl
    obtain ⟨k, rfl⟩ : ∃ m, k = m + 1 := ⟨k - 1, by omega⟩
    rw [Vt.pow128] at h1
    have : (128 : Int) ^ 0 = 1 := rfl
    rw [varint_Put.l0, if_neg (by omega), if_pos (by omega), show u % 256 = u by omega]; rfl
  | succ f ih =>
    intro k l u h0 h1 hk hl
    obtain ⟨k, rfl⟩ : ∃ m, k = m + 1 := ⟨k - 1, by omega⟩
    rw [Vt.pow128] at h1
    rw [varint_Put.l0, Vt.enc]
    by_cases h : u ≥ 128
    · rw [if_pos h, if_pos (by omega), if_pos h, Num.or128_u8 _ (by omega) (by omega), show u % 256 % 128 = u % 128 by omega, ih k _ _ (by omega) (by omega) (by omega) (by simp only [List.length_append, List.length_cons, List.length_nil]; omega), List.append_assoc]; rfl
    · rw [if_neg h, if_pos (by omega), if_neg h, show u % 256 = u by omega]
def E (n : Int) : List Int := Vt.enc 9 (Num.zig n)
theorem E_len (n : Int) : (E n).length ≤ 10 := Vt.enc_len' 9 _
theorem E_bytes (n : Int) (h : I64 n) : Bytes (E n) := by
  have hz := Num.zig_range n h
  exact Vt.enc_bytes 9 _ hz.1 (Int.lt_trans hz.2 (by decide))
theorem put_spec (k : Nat) (l : List Int) (n : Int) (h : I64 n) (hk : 9 < k) (hl : l.length + 10 < 140737488355328) : varint_Put.f k l n = some (l ++ E n) := by
  have hz := Num.zig_range n h
  unfold varint_Put.f slices_Clone_byte_byte.f
  rw [if_pos (by omega), Option.bind_some, Num.zig_own n h, put_own 9 k l _ hz.1 (Int.lt_trans hz.2 (by decide)) hk (by omega)]; rfl
theorem shl7 (i : Nat) (hi : i < 10) (c : Int) : shl .u64 c (wrap64 ((i : Int) * 7)) = (c * 128 ^ i) % 18446744073709551616 := by
  unfold shl
  rw [Num.wu64, Num.w64 _ (by omega)]
  have e : min ((i : Int) * 7).toNat IntKind.u64.bits = 7 * i := by show min _ 64 = _; omega
  rw [e, show (2 : Int) ^ (7 * i) = 128 ^ i by rw [Int.pow_mul]; rfl]
theorem shr7 (i : Nat) (hi : i < 10) (c : Int) : shr .u64 c (wrap64 ((i : Int) * 7)) = c / 128 ^ i := by
  unfold shr
  rw [Num.w64 _ (by omega)]
  have e : min ((i : Int) * 7).toNat IntKind.u64.bits = 7 * i := by show min _ 64 = _; omega
  rw [e, show (2 : Int) ^ (7 * i) = 128 ^ i by rw [Int.pow_mul]; rfl]
/-- Back and forth: what is left of a group of seven bits at its place. -/
theorem group (i : Nat) (hi : i < 10) (c : Int) (h0 : 0 ≤ c) (h1 : c < 128) : ((c * 128 ^ i) % 18446744073709551616 / 128 ^ i = c) ↔ ¬ (i = 9 ∧ c ≥ 2) := by
  match i, hi with
  | 0, _ => have e : (128 : Int) ^ 0 = 1 := rfl; rw [e]; omega
  | 1, _ => have e : (128 : Int) ^ 1 = 128 := rfl; rw [e]; omega
  | 2, _ => have e : (128 : Int) ^ 2 = 16384 := rfl; rw [e]; omega
  | 3, _ => have e : (128 : Int) ^ 3 = 2097152 := rfl; rw [e]; omega
  | 4, _ => have e : (128 : Int) ^ 4 = 268435456 := rfl; rw [e]; omega
  | 5, _ => have e : (128 : Int) ^ 5 = 34359738368 := rfl; rw [e]; omega
  | 6, _ => have e : (128 : Int) ^ 6 = 4398046511104 := rfl; rw [e]; omega
  | 7, _ => have e : (128 : Int) ^ 7 = 562949953421312 := rfl; rw [e]; omega
  | 8, _ => have e : (128 : Int) ^ 8 = 72057594037927936 := rfl; rw [e]; omega
  | 9, _ => have e : (128 : Int) ^ 9 = 9223372036854775808 := rfl; rw [e]; omega
/-- A group of seven bits is put above what there is. -/
theorem joins (i : Nat) (hi : i < 10) (u c : Int) (u0 : 0 ≤ u) (u1 : u < 128 ^ i) (h0 : 0 ≤ c) (h1 : c < 128) :
    bits .or .u64 u ((c * 128 ^ i) % 18446744073709551616) = (u + 128 ^ i * c) % 18446744073709551616 ∧ (i < 9 → (u + 128 ^ i * c) < 18446744073709551616) ∧ u < 18446744073709551616 := by
  have hp : (2 : Int) ^ (7 * i) = 128 ^ i := by rw [Int.pow_mul]; rfl
  have key : u < 18446744073709551616 ∧ ((c * 128 ^ i) % 18446744073709551616) % 128 ^ i = 0 ∧ (u + (c * 128 ^ i) % 18446744073709551616) = (u + 128 ^ i * c) % 18446744073709551616 ∧ (i < 9 → (u + 128 ^ i * c) < 18446744073709551616) := by
    clear hp
    match i, hi with
    | 0, _ => have e : (128 : Int) ^ 0 = 1 := rfl; rw [e] at u1 ⊢; omega
    | 1, _ => have e : (128 : Int) ^ 1 = 128 := rfl; rw [e] at u1 ⊢; omega
    | 2, _ => have e : (128 : Int) ^ 2 = 16384 := rfl; rw [e] at u1 ⊢; omega
    | 3, _ => have e : (128 : Int) ^ 3 = 2097152 := rfl; rw [e] at u1 ⊢; omega
    | 4, _ => have e : (128 : Int) ^ 4 = 268435456 := rfl; rw [e] at u1 ⊢; omega
    | 5, _ => have e : (128 : Int) ^ 5 = 34359738368 := rfl; rw [e] at u1 ⊢; omega
    | 6, _ => have e : (128 : Int) ^ 6 = 4398046511104 := rfl; rw [e] at u1 ⊢; omega
    | 7, _ => have e : (128 : Int) ^ 7 = 562949953421312 := rfl; rw [e] at u1 ⊢; omega
    | 8, _ => have e : (128 : Int) ^ 8 = 72057594037927936 := rfl; rw [e] at u1 ⊢; omega
    | 9, _ => have e : (128 : Int) ^ 9 = 9223372036854775808 := rfl; rw [e] at u1 ⊢; omega
  refine ⟨?_, key.2.2.2, key.1⟩
  rw [Num.or_u64 (7 * i) u _ u0 (by rw [hp]; exact u1) (by omega) (by rw [hp]; exact key.2.1) key.1 (by omega)]
  exact key.2.2.1
/-- What Get tells of what dec tells. -/
def told : Option (Int × Nat) → Int × Int
  | none => (0, 0)
  | some (u, n) => (Num.zag u, (n : Int))
theorem get_loop (l : List Int) (hb : Bytes l) (hl : l.length < 9223372036854775807) (r : List Int) : ∀ (p : List Int) (u : Int) (k : Nat), l = p ++ r → p.length ≤ 10 → 0 ≤ u → u < 128 ^ p.length → 11 < k + p.length → varint_Get.l0 k l u (mn (l.length : Int) 10) (p.length : Int) = some (told (Vt.dec r p.length u)) := by
  induction r with
  | nil =>
    intro p u k hp h10 _ _ hk
    obtain ⟨k, rfl⟩ : ∃ m, k = m + 1 := ⟨k - 1, by omega⟩
    have hlen : l.length = p.length := by rw [hp, List.append_nil]
    rw [varint_Get.l0, if_neg (by unfold mn; split <;> omega)]; rfl
  | cons c r ih =>
    intro p u k hp h10 u0 u1 hk
    obtain ⟨k, rfl⟩ : ∃ m, k = m + 1 := ⟨k - 1, by omega⟩
    have hlen : l.length = p.length + (r.length + 1) := by rw [hp, List.length_append, List.length_cons]
    have hc := hb c (by rw [hp]; simp)
    rw [Vt.dec, varint_Get.l0]
    by_cases hi : p.length ≥ 10
    · rw [if_pos hi, if_neg (by unfold mn; split <;> omega)]; rfl
    · have hrd : rd l (p.length : Int) = c := by rw [hp]; exact rd_app p c r
      rw [if_neg hi, if_pos (by unfold mn; split <;> omega), if_pos (by omega), if_pos (by omega), if_pos (by rw [Num.w64 _ (by omega)]; omega), hrd, show IntKind.u64.wrap c = c by rw [Num.wu64]; omega, Num.andNot128 c hc.1 hc.2, shl7 _ (by omega), shr7 _ (by omega)]
      have hg := group p.length (by omega) (c % 128) (by omega) (by omega)
      have hj := joins p.length (by omega) u (c % 128) u0 u1 (by omega) (by omega)
      by_cases h9 : p.length = 9 ∧ c % 128 ≥ 2
      · rw [if_neg (fun h => hg.1 h h9), if_pos h9]; rfl
      · rw [if_pos (hg.2 h9), if_neg h9, hj.1]
        have hu : (u + 128 ^ p.length * (c % 128)) % 18446744073709551616 = u + 128 ^ p.length * (c % 128) := by
          have : u + 128 ^ p.length * (c % 128) < 18446744073709551616 := by
            by_cases h : p.length < 9
            · exact hj.2.1 h
            · have h1 : p.length = 9 := by omega
              have e : (128 : Int) ^ p.length = 9223372036854775808 := by rw [h1]; rfl
              rw [e] at u1 ⊢
              omega
          have h3 : 0 ≤ 128 ^ p.length * (c % 128) := Int.mul_nonneg (Int.le_of_lt (Vt.pow_pos _)) (by omega)
          omega
        rw [hu]
        have h3 : 0 ≤ 128 ^ p.length * (c % 128) := Int.mul_nonneg (Int.le_of_lt (Vt.pow_pos _)) (by omega)
        by_cases h128 : c ≥ 128
        · rw [if_pos h128, if_pos h128, Num.w64 _ (by omega)]
          have := ih (p ++ [c]) (u + 128 ^ p.length * (c % 128)) k (by rw [hp, List.append_assoc]; rfl) (by simp only [List.length_append, List.length_cons, List.length_nil]; omega) (by omega) ?_ (by simp only [List.length_append, List.length_cons, List.length_nil]; omega)
          · rw [List.length_append, List.length_cons, List.length_nil] at this
            exact this
          · rw [List.length_append, List.length_cons, List.length_nil, Nat.zero_add, Vt.pow128]
            have h4 : 128 ^ p.length * (c % 128) ≤ 128 ^ p.length * 127 := Int.mul_le_mul_of_nonneg_left (by omega) (Int.le_of_lt (Vt.pow_pos _))
            omega
        · have hz := Num.zag_own (u + 128 ^ p.length * (c % 128)) (by omega) (by omega)
          rw [if_neg h128, if_neg h128, hz, Num.w64 _ (by omega)]
          by_cases h0 : c = 0
          · rw [if_pos h0]
            by_cases hp0 : p.length > 0
            · rw [if_pos (by omega), if_pos ⟨h0, hp0⟩]; rfl
            · rw [if_neg (by omega), if_neg (fun h => hp0 h.2)]; rfl
          · rw [if_neg h0, if_neg (fun h => h0 h.1)]; rfl
theorem get_spec (k : Nat) (l : List Int) (hb : Bytes l) (hl : l.length < 9223372036854775807) (hk : 11 < k) : varint_Get.f k l = some (told (Vt.dec l 0 0)) :=
  get_loop l hb hl l [] 0 k rfl (by decide) (by decide) (by decide) (by simpa using hk)
theorem str_inj (l m : List Int) (hl : Bytes l) (hm : Bytes m) (h : (strOfNums l).toList = (strOfNums m).toList) : l = m := by
  have key : ∀ (l m : List Int), Bytes l → Bytes m → (l.map fun n => UInt8.ofNat n.toNat) = (m.map fun n => UInt8.ofNat n.toNat) → l = m := by
    intro l
    induction l with
    | nil => intro m _ _ h; cases m with
             | nil => rfl
             | cons y m => simp at h
    | cons x l ih =>
      intro m hl hm h
      cases m with
      | nil => simp at h
      | cons y m =>
        simp only [List.map_cons, List.cons.injEq] at h
        have hx := hl x (by simp)
        have hy := hm y (by simp)
        have e := congrArg UInt8.toNat h.1
        simp only [UInt8.toNat_ofNat'] at e
        rw [ih m (fun z hz => hl z (List.mem_cons_of_mem _ hz)) (fun z hz => hm z (List.mem_cons_of_mem _ hz)) h.2]
        congr 1
        omega
  refine key l m hl hm ?_
  have e : ∀ l, (strOfNums l).toList = l.map fun n => UInt8.ofNat n.toNat := by
    intro l
    rw [← strOfNums_data, ByteArray.toList_eq]
  rw [← e, ← e, h]
theorem bytes_app {l m : List Int} (h : Bytes l) (k : Bytes m) : Bytes (l ++ m) := fun x hx => (List.mem_append.1 hx).elim (h x) (k x)
theorem bytes_take {l : List Int} (n : Nat) (h : Bytes l) : Bytes (l.take n) := fun x hx => h x (List.mem_of_mem_take hx)
theorem bytes_drop {l : List Int} (n : Nat) (h : Bytes l) : Bytes (l.drop n) := fun x hx => h x (List.mem_of_mem_drop hx)

theorem dec_le (r : List Int) : ∀ (i : Nat) (u v : Int) (n : Nat), Vt.dec r i u = some (v, n) → i < n ∧ n ≤ i + r.length := by
  induction r with
  | nil => intro i u v n h; cases h
  | cons c r ih =>
    intro i u v n h
    rw [Vt.dec] at h
    rw [List.length_cons]
    split at h
    · cases h
    · split at h
      · cases h
      · split at h
        · have := ih _ _ _ _ h; omega
        · split at h
          · cases h
          · cases h; omega
theorem told_range (l : List Int) : 0 ≤ (told (Vt.dec l 0 0)).2 ∧ (told (Vt.dec l 0 0)).2 ≤ (l.length : Int) := by
  cases h : Vt.dec l 0 0 with
  | none => simp only [told]; omega
  | some x => obtain ⟨v, n⟩ := x; have := dec_le l 0 0 v n h; simp only [told]; omega
/-- What Cut tells. -/
def cutS (l : List Int) (a : Int) : ByteArray × Int :=
  let g := told (Vt.dec l 0 0)
  if g.2 = 0 then ((⟨#[]⟩ : ByteArray), 0) else if g.1 < 0 then ((⟨#[]⟩ : ByteArray), 0) else if g.1 > a ∨ g.1 > (l.length : Int) - g.2 then ((⟨#[]⟩ : ByteArray), 0) else (strOfNums ((l.take (g.2 + g.1).toNat).drop g.2.toNat), g.2 + g.1)
theorem cut_spec (k : Nat) (l : List Int) (a : Int) (hb : Bytes l) (hl : l.length < 9223372036854775807) (hk : 11 < k) : varint_Cut.f k l a = some (cutS l a) := by
  unfold varint_Cut.f
  have hr := told_range l
  rw [get_spec k l hb hl hk, Option.bind_some]
  unfold cutS
  generalize told (Vt.dec l 0 0) = g at *
  simp only []
  by_cases h1 : g.2 = 0
  · rw [if_pos h1, if_pos h1]
  · by_cases h2 : g.1 < 0
    · rw [if_neg h1, if_neg h1, if_pos h2, if_pos h2]
    · by_cases h3 : g.1 > a ∨ g.1 > (l.length : Int) - g.2
      · rw [if_neg h1, if_neg h1, if_neg h2, if_neg h2, if_pos h3, if_pos]
        rw [Num.w64 _ (by omega)]; unfold mn; split <;> omega
      · rw [if_neg h1, if_neg h1, if_neg h2, if_neg h2, if_neg h3, if_neg, if_pos hr.1, Num.w64 (g.2 + g.1) (by omega), if_pos (by omega), if_pos (by omega)]
        rw [Num.w64 _ (by omega)]; unfold mn; split <;> omega
theorem shr_u64 (n : Int) (s : Nat) (hs : s ≤ 64) : shr .u64 (IntKind.u64.wrap n) (s : Int) % 256 = (n % 18446744073709551616) / 2 ^ s % 256 := by
  unfold shr
  rw [Num.wu64, Int.toNat_natCast, show min s IntKind.u64.bits = s from Nat.min_eq_left hs]
def byteAt (n : Int) (j : Nat) : Int := n / 2 ^ (8 * (7 - j)) % 256
theorem byte_wrap (n : Int) (j : Nat) (hj : j < 8) : (n % 18446744073709551616) / 2 ^ (8 * (7 - j)) % 256 = byteAt n j := by
  unfold byteAt
  match j, hj with
  | 0, _ => have e : (2 : Int) ^ (8 * (7 - 0)) = 72057594037927936 := rfl; rw [e]; omega
  | 1, _ => have e : (2 : Int) ^ (8 * (7 - 1)) = 281474976710656 := rfl; rw [e]; omega
  | 2, _ => have e : (2 : Int) ^ (8 * (7 - 2)) = 1099511627776 := rfl; rw [e]; omega
  | 3, _ => have e : (2 : Int) ^ (8 * (7 - 3)) = 4294967296 := rfl; rw [e]; omega
  | 4, _ => have e : (2 : Int) ^ (8 * (7 - 4)) = 16777216 := rfl; rw [e]; omega
  | 5, _ => have e : (2 : Int) ^ (8 * (7 - 5)) = 65536 := rfl; rw [e]; omega
  | 6, _ => have e : (2 : Int) ^ (8 * (7 - 6)) = 256 := rfl; rw [e]; omega
  | 7, _ => have e : (2 : Int) ^ (8 * (7 - 7)) = 1 := rfl; rw [e]; omega
/-- The bytes of a long from the j-th on. -/
def longFrom (n : Int) : Nat → Nat → List Int
  | 0, _ => []
  | d + 1, j => byteAt n j :: longFrom n d (j + 1)
theorem long_own (n : Int) (d : Nat) : ∀ (k j : Nat) (l : List Int), j + d = 8 → d < k → l.length + d < 140737488355328 → varint_Long.l0 k n l (j : Int) = some (l ++ longFrom n d j) := by
  induction d with
  | zero =>
    intro k j l hj hk _
    obtain ⟨k, rfl⟩ : ∃ m, k = m + 1 := ⟨k - 1, by omega⟩
    rw [varint_Long.l0, if_neg (by omega)]; simp [longFrom]
  | succ d ih =>
    intro k j l hj hk hl
    obtain ⟨k, rfl⟩ : ∃ m, k = m + 1 := ⟨k - 1, by omega⟩
    have hb := byte_wrap n j (by omega)
    have hn := ih k (j + 1) (l ++ [byteAt n j]) (by omega) (by omega) (by simp only [List.length_append, List.length_cons, List.length_nil]; omega)
    rw [List.append_assoc] at hn
    have e : (wrap64 (wrap64 (7 - (j : Int)) * 8)) = ((8 * (7 - j) : Nat) : Int) := by rw [Num.w64 (7 - (j : Int)) (by omega), Num.w64 _ (by omega)]; omega
    rw [varint_Long.l0, if_pos (by omega), varint_bitsOf.f, Option.bind_some, e, if_pos (by omega), if_pos (by omega), shr_u64 n _ (by omega), hb, Num.w64 _ (by omega)]
    exact hn
theorem long_spec (k : Nat) (l : List Int) (n : Int) (hk : 8 < k) (hl : l.length + 8 < 140737488355328) : varint_Long.f k l n = some (l ++ longFrom n 8 0) := by
  unfold varint_Long.f slices_Clone_byte_byte.f
  rw [if_pos (by omega), Option.bind_some]
  exact long_own n 8 k 0 l rfl hk (by omega)
def textS (s : ByteArray) : List Int := E (s.size : Int) ++ bytesOf s
theorem text_spec (k : Nat) (l : List Int) (s : ByteArray) (hk : 9 < k) (hl : l.length + 10 + s.size < 140737488355328) : varint_Text.f k l s = some (l ++ textS s) := by
  unfold varint_Text.f
  have := E_len (s.size : Int)
  rw [put_spec k l _ ⟨by omega, by omega⟩ hk (by omega), Option.bind_some, if_pos (by rw [List.length_append]; omega), List.append_assoc]; rfl
theorem within_spec (k : Nat) (a n : Int) (ha : I64 a) (h0 : 0 ≤ n) (h1 : n < 4611686018427387904) (hk : 0 < k) : ∃ r, bordereaubook_Within.f k a 0 n = some r ∧ 0 ≤ r ∧ r ≤ n := by
  obtain ⟨k, rfl⟩ : ∃ m, k = m + 1 := ⟨k - 1, by omega⟩
  have e1 : wrap64 (wrap64 (n - 0) + 1) = n + 1 := by rw [Num.w64 (n - 0) (by omega), Num.w64 _ (by omega)]; omega
  unfold I64 at ha
  unfold bordereaubook_Within.f
  have step : ∀ b, (b = true → 0 ≤ a ∧ a ≤ n) → ∃ r, bordereaubook_Within.j0 (k + 1) a 0 n b = some r ∧ 0 ≤ r ∧ r ≤ n := by
    intro b hb
    rw [bordereaubook_Within.j0]
    by_cases h : b = true
    · rw [if_pos h]; exact ⟨a, rfl, hb h⟩
    · have t1 := Int.tmod_lt_of_pos a (show 0 < n + 1 by omega)
      have t2 : -(n + 1) < Int.tmod a (n + 1) := by
        rw [← Int.neg_lt_neg_iff, Int.neg_neg, ← Int.neg_tmod]
        exact Int.tmod_lt_of_pos (-a) (by omega)
      rw [if_neg h, e1, if_neg (by omega)]
      by_cases h2 : Int.tmod a (n + 1) < 0
      · rw [if_pos h2]
        refine ⟨_, rfl, ?_⟩
        rw [Num.w64 (Int.tmod a (n + 1) + n) (by omega), Num.w64 (Int.tmod a (n + 1) + n - 0) (by omega), Num.w64 (Int.tmod a (n + 1) + n - 0 + 1) (by omega), Num.w64 _ (by omega)]
        omega
      · rw [if_neg h2]
        refine ⟨_, rfl, ?_⟩
        rw [Num.w64 _ (by omega)]
        omega
  by_cases h : a ≥ 0
  · rw [if_pos h]; exact step _ (fun hb => ⟨h, of_decide_eq_true hb⟩)
  · rw [if_neg h]; exact step _ (fun hb => by cases hb)
theorem bytesOf_bytes (s : ByteArray) : Bytes (bytesOf s) := by
  intro x hx
  obtain ⟨b, _, rfl⟩ := List.mem_map.1 hx
  have := b.toNat_lt
  omega
theorem i64_lit (n : Int) (h : (Lit.int .i64 n).wf = true) : I64 n := by
  have h2 : (decide (IntKind.i64.min ≤ n) && decide (n ≤ IntKind.i64.max)) = true := h
  rw [Bool.and_eq_true, decide_eq_true_iff, decide_eq_true_iff] at h2
  exact h2
theorem u8_lit (n : Int) (h : (Lit.int .u8 n).wf = true) : 0 ≤ n ∧ n < 256 := by
  have h2 : (decide (IntKind.u8.min ≤ n) && decide (n ≤ IntKind.u8.max)) = true := h
  rw [Bool.and_eq_true, decide_eq_true_iff, decide_eq_true_iff] at h2
  have e1 : IntKind.u8.min = 0 := rfl
  have e2 : IntKind.u8.max = 255 := rfl
  omega
theorem E_pos (n : Int) : 0 < (E n).length := List.length_pos_iff.2 (Vt.enc_ne _ _)
theorem str_bytesOf (s : ByteArray) : strOfNums (bytesOf s) = s := by
  have h : (bytesOf s).map (fun n => UInt8.ofNat n.toNat) = s.data.toList := by
    unfold bytesOf
    rw [List.map_map]
    have : ((fun n : Int => UInt8.ofNat n.toNat) ∘ fun b : UInt8 => (b.toNat : Int)) = id := by
      funext b
      show UInt8.ofNat ((b.toNat : Int)).toNat = b
      rw [Int.toNat_natCast]; exact UInt8.ofNat_toNat
    rw [this, List.map_id]
  unfold strOfNums
  rw [h]
theorem E_get (n : Int) (r : List Int) (hn : I64 n) : told (Vt.dec (E n ++ r) 0 0) = (n, ((E n).length : Int)) := by
  have hz := Num.zig_range n hn
  unfold E
  rw [Vt.dec_enc _ hz.1 hz.2]
  show (Num.zag (Num.zig n), _) = _
  rw [Num.zag_zig]
theorem cut_text (s : ByteArray) (r : List Int) (a : Int) (hs : s.size < 1000) (ha : (s.size : Int) ≤ a) : cutS (textS s ++ r) a = (s, ((E (s.size : Int)).length : Int) + (s.size : Int)) := by
  unfold cutS textS
  rw [List.append_assoc, E_get _ _ ⟨by omega, by omega⟩]
  have hp := E_pos (s.size : Int)
  simp only []
  rw [if_neg (by omega), if_neg (by omega), if_neg (by simp only [List.length_append, bytesOf_length]; omega)]
  have e : List.drop (((E (s.size : Int)).length : Int)).toNat (List.take (((E (s.size : Int)).length : Int) + (s.size : Int)).toNat (E (s.size : Int) ++ (bytesOf s ++ r))) = bytesOf s := by
    rw [show (((E (s.size : Int)).length : Int) + (s.size : Int)).toNat = (E (s.size : Int)).length + s.size by omega, Int.toNat_natCast, ← List.append_assoc, List.take_append_of_le_length (by rw [List.length_append, bytesOf_length]; omega), List.take_of_length_le (by rw [List.length_append, bytesOf_length]; omega), List.drop_left]
  rw [e, str_bytesOf]
theorem cut_short (s : ByteArray) (a : Int) (hs : s.size < 1000) (ha : a < (s.size : Int)) : (cutS (textS s) a).2 = 0 := by
  unfold cutS textS
  rw [E_get _ _ ⟨by omega, by omega⟩]
  have hp := E_pos (s.size : Int)
  simp only []
  rw [if_neg (by omega), if_neg (by omega), if_pos (.inl (by omega))]
theorem or_low (x y : Int) (hx0 : 0 ≤ x) (hx : x < 256) (hy0 : 0 ≤ y) (hy : y % 256 = 0) (hy1 : y < 18446744073709551616) : bits .or .u64 y x = y + x := by
  have h := Num.or_u64 8 x y hx0 hx hy0 hy (by omega) hy1
  rw [u64_or _ _ hx0 (by omega) hy0 hy1] at h
  rw [u64_or _ _ hy0 hy1 hx0 (by omega), Nat.or_comm]
  omega
theorem long_at (n : Int) (i : Nat) (hi : i < 8) : rd (longFrom n 8 0) (i : Int) = byteAt n i := by
  match i, hi with
  | 0, _ => rfl
  | 1, _ => rfl
  | 2, _ => rfl
  | 3, _ => rfl
  | 4, _ => rfl
  | 5, _ => rfl
  | 6, _ => rfl
  | 7, _ => rfl
theorem goes_on (n N : Int) (hN : N = n % 18446744073709551616) (i : Nat) (hi : i < 8) : 0 ≤ N / 2 ^ (8 * (8 - i)) ∧ N / 2 ^ (8 * (8 - i)) * 256 < 18446744073709551616 ∧ N / 2 ^ (8 * (8 - i)) * 256 + byteAt n i = N / 2 ^ (8 * (8 - (i + 1))) ∧ 0 ≤ byteAt n i ∧ byteAt n i < 256 := by
  have hb : N / 2 ^ (8 * (7 - i)) % 256 = byteAt n i := by rw [hN]; exact byte_wrap n i hi
  have h0 : 0 ≤ N ∧ N < 18446744073709551616 := by omega
  rw [← hb]
  clear hb hN
  match i, hi with
  | 0, _ => have e : (2 : Int) ^ (8 * (8 - 0)) = 18446744073709551616 := rfl; have e2 : (2 : Int) ^ (8 * (8 - (0 + 1))) = 72057594037927936 := rfl; rw [e, e2]; omega
  | 1, _ => have e : (2 : Int) ^ (8 * (8 - 1)) = 72057594037927936 := rfl; have e2 : (2 : Int) ^ (8 * (8 - (1 + 1))) = 281474976710656 := rfl; rw [e, e2]; omega
  | 2, _ => have e : (2 : Int) ^ (8 * (8 - 2)) = 281474976710656 := rfl; have e2 : (2 : Int) ^ (8 * (8 - (2 + 1))) = 1099511627776 := rfl; rw [e, e2]; omega
  | 3, _ => have e : (2 : Int) ^ (8 * (8 - 3)) = 1099511627776 := rfl; have e2 : (2 : Int) ^ (8 * (8 - (3 + 1))) = 4294967296 := rfl; rw [e, e2]; omega
  | 4, _ => have e : (2 : Int) ^ (8 * (8 - 4)) = 4294967296 := rfl; have e2 : (2 : Int) ^ (8 * (8 - (4 + 1))) = 16777216 := rfl; rw [e, e2]; omega
  | 5, _ => have e : (2 : Int) ^ (8 * (8 - 5)) = 16777216 := rfl; have e2 : (2 : Int) ^ (8 * (8 - (5 + 1))) = 65536 := rfl; rw [e, e2]; omega
  | 6, _ => have e : (2 : Int) ^ (8 * (8 - 6)) = 65536 := rfl; have e2 : (2 : Int) ^ (8 * (8 - (6 + 1))) = 256 := rfl; rw [e, e2]; omega
  | 7, _ => have e : (2 : Int) ^ (8 * (8 - 7)) = 256 := rfl; have e2 : (2 : Int) ^ (8 * (8 - (7 + 1))) = 1 := rfl; rw [e, e2]; omega
theorem back_loop (n : Int) (d : Nat) : ∀ (k i : Nat) (x : Int), i + d = 8 → d < k → x = (n % 18446744073709551616) / 2 ^ (8 * (8 - i)) → varint_Back.l0 k x (longFrom n 8 0) 8 (i : Int) = some (wrap64 (n % 18446744073709551616), true) := by
  induction d with
  | zero =>
    intro k i x hi hk hx
    obtain ⟨k, rfl⟩ : ∃ m, k = m + 1 := ⟨k - 1, by omega⟩
    rw [varint_Back.l0, if_neg (by omega), hx, show 8 * (8 - i) = 0 by omega, Int.pow_zero, Int.ediv_one]
  | succ d ih =>
    intro k i x hi hk hx
    obtain ⟨k, rfl⟩ : ∃ m, k = m + 1 := ⟨k - 1, by omega⟩
    have hlen : (longFrom n 8 0).length = 8 := rfl
    obtain ⟨g0, g1, g2, g3, g4⟩ := goes_on n _ rfl i (by omega)
    rw [← hx] at g0 g1 g2
    rw [varint_Back.l0, if_pos (by omega), if_pos (by omega), if_pos (by omega), long_at n i (by omega), Num.w64 _ (by omega)]
    have e : Go.bits .or .u64 (IntKind.u64.wrap (x * 256)) (IntKind.u64.wrap (byteAt n i)) = x * 256 + byteAt n i := by
      rw [Num.wu64, Num.wu64, show (x * 256) % 18446744073709551616 = x * 256 by omega, show byteAt n i % 18446744073709551616 = byteAt n i by omega]
      exact or_low _ _ g3 g4 (by omega) (by omega) g1
    rw [e]
    exact ih k (i + 1) _ (by omega) (by omega) g2
theorem back_long (k : Nat) (n : Int) (r : List Int) (hn : I64 n) (hk : 8 < k) : varint_Back.f k (longFrom n 8 0 ++ r) = some (n, true) := by
  have hlen : (longFrom n 8 0).length = 8 := rfl
  unfold varint_Back.f
  rw [if_neg (by rw [List.length_append]; omega), if_pos (by rw [List.length_append]; omega), List.take_append_of_le_length (by omega), List.take_of_length_le (by omega), Option.bind_some, hlen]
  have h := back_loop n 8 k 0 0 rfl hk (by
    have e : (2 : Int) ^ (8 * (8 - 0)) = 18446744073709551616 := rfl
    rw [e]; omega)
  refine h.trans ?_
  have : wrap64 (n % 18446744073709551616) = n := by unfold I64 at hn; unfold wrap64; omega
  rw [this]
end Go.Proofs.Ytknclghaofmnhaa.VB
namespace Go.Proofs.Ytknclghaofmnhaa.CB
open Go Go.RowKit Go.Proofs.Ytknclghaofmnhaa.PBR Go.Proofs.YtknclghaofmnhaaV.PrintWords Go.Proofs.YtknclghaofmnhaaV.PrintLast Go.Proofs.YtknclghaofmnhaaV.PrintMore
set_option linter.unusedVariables false
theorem w64 (n : Int) (h : -9223372036854775808 ≤ n ∧ n ≤ 9223372036854775807) : wrap64 n = n := by unfold wrap64; omega
def I (c : BitVec 32) : Int := (c.toNat : Int)
theorem I_range (c : BitVec 32) : 0 ≤ I c ∧ I c < 4294967296 := by have := c.isLt; unfold I; omega
theorem I_of (a : Int) (h0 : 0 ≤ a) (h1 : a < 4294967296) : I (BitVec.ofInt 32 a) = a := by
  unfold I; rw [BitVec.toNat_ofInt]; have : ((2 ^ 32 : Nat) : Int) = 4294967296 := by decide
  rw [this]; omega
theorem I_xor (a b : BitVec 32) : bits .xor .u32 (I a) (I b) = I (a ^^^ b) := by
  obtain ⟨h0, h1⟩ := I_range a
  obtain ⟨h2, h3⟩ := I_range b
  rw [u32_xor _ _ h0 h1 h2 h3]
  unfold I
  rw [Int.toNat_natCast, Int.toNat_natCast, BitVec.toNat_xor]
theorem I_low (c : BitVec 32) : bits .and .u32 (I c) 1 = if c.getLsbD 0 then 1 else 0 := by
  obtain ⟨h0, h1⟩ := I_range c
  rw [u32_and _ 1 h0 h1 (by decide) (by decide)]
  have e : (1 : Int).toNat = 1 := rfl
  rw [e, nat_mask1]
  have e2 : c.getLsbD 0 = decide (c.toNat % 2 = 1) := by
    rw [BitVec.getLsbD, Nat.testBit_zero]
  rw [e2]
  unfold I
  rw [Int.toNat_natCast]
  have := Nat.mod_two_eq_zero_or_one c.toNat
  rcases this with h | h <;> rw [h] <;> rfl
theorem I_half (c : BitVec 32) : I c / (2 : Int) = I (c >>> 1) := by
  unfold I
  rw [BitVec.toNat_ushiftRight, Nat.shiftRight_eq_div_pow]
  rfl
theorem step_own (c : BitVec 32) : bits .xor .u32 (I c / 2) ((2197175160 * (bits .and .u32 (I c) 1)) % 4294967296) = I (CrcT.step c) := by
  rw [I_low, I_half]
  unfold CrcT.step
  have e1 : I 2197175160#32 = 2197175160 := by decide
  have e0 : I 0#32 = 0 := by decide
  cases c.getLsbD 0
  · rw [if_neg (by decide), if_neg (by decide), ← I_xor, e0]; rfl
  · rw [if_pos rfl, if_pos rfl, ← I_xor, e1]; rfl
def steps : Nat → BitVec 32 → BitVec 32
  | 0, c => c
  | n + 1, c => steps n (CrcT.step c)
theorem own_loop (d : Nat) : ∀ (k : Nat) (c : BitVec 32) (i : Int), 0 ≤ i → i + d = 8 → d < k → crc_Next.l0 k (I c) i = some (I (steps d c)) := by
  induction d with
  | zero =>
    intro k c i h0 hi hk
    obtain ⟨k, rfl⟩ : ∃ m, k = m + 1 := ⟨k - 1, by omega⟩
    rw [crc_Next.l0, if_neg (by omega)]; rfl
  | succ d ih =>
    intro k c i h0 hi hk
    obtain ⟨k, rfl⟩ : ∃ m, k = m + 1 := ⟨k - 1, by omega⟩
    rw [crc_Next.l0, if_pos (by omega), step_own, w64 _ (by omega), ih k _ (i + 1) (by omega) (by omega) (by omega)]; rfl
theorem steps8 (c : BitVec 32) : steps 8 c = CrcT.T c := rfl
def bv (b : Int) : BitVec 32 := BitVec.ofInt 32 b
theorem next_own (k : Nat) (c : BitVec 32) (b : Int) (h0 : 0 ≤ b) (h1 : b < 256) (hk : 8 < k) : crc_Next.f k (I c) b = some (I (CrcT.T (c ^^^ bv b))) := by
  unfold crc_Next.f
  rw [show b % 4294967296 = I (bv b) by rw [bv, I_of b h0 (by omega)]; omega, I_xor, own_loop 8 k _ 0 (by decide) rfl hk, steps8]
/-- The state behind a row of bytes. -/
def run (c : BitVec 32) (l : List Int) : BitVec 32 := l.foldl (fun c b => CrcT.T (c ^^^ bv b)) c
def Bytes (l : List Int) : Prop := ∀ x ∈ l, 0 ≤ x ∧ x < 256
def sumS (l : List Int) : Int := I (~~~ (run 4294967295#32 l))
theorem I_not (c : BitVec 32) : bits .xor .u32 IntKind.u32.max (I c) = I (~~~ c) := by
  have e : IntKind.u32.max = I 4294967295#32 := by decide
  rw [e, I_xor]
  have e2 : (4294967295#32 : BitVec 32) = BitVec.allOnes 32 := by decide
  rw [e2, BitVec.allOnes_xor]
theorem rd_at (l : List Int) (i : Nat) (h : i < l.length) : rd l (i : Int) = l[i] := by
  unfold rd
  rw [Int.toNat_natCast, List.getD_eq_getElem?_getD, List.getElem?_eq_getElem h]; rfl
theorem run_drop (c : BitVec 32) (l : List Int) (i : Nat) (h : i < l.length) : run c (l.drop i) = run (CrcT.T (c ^^^ bv l[i])) (l.drop (i + 1)) := by
  rw [List.drop_eq_getElem_cons h]; rfl
theorem of_loop (l : List Int) (hb : Bytes l) (hn : l.length < 9223372036854775807) (d : Nat) : ∀ (k : Nat) (c : BitVec 32) (i : Nat), i + d = l.length → d + 9 < k → crc_Of.l0 k (I c) l (l.length : Int) (i : Int) = some (I (~~~ (run c (l.drop i)))) := by
  induction d with
  | zero =>
    intro k c i hi hk
    obtain ⟨k, rfl⟩ : ∃ m, k = m + 1 := ⟨k - 1, by omega⟩
    rw [crc_Of.l0, if_neg (by omega), I_not, List.drop_eq_nil_of_le (by omega)]; rfl
  | succ d ih =>
    intro k c i hi hk
    obtain ⟨k, rfl⟩ : ∃ m, k = m + 1 := ⟨k - 1, by omega⟩
    have hx := hb l[i] (List.getElem_mem _)
    rw [crc_Of.l0, if_pos (by omega), if_pos (by omega), if_pos (by omega), rd_at l i (by omega), next_own k c _ hx.1 hx.2 (by omega), Option.bind_some, w64 _ (by omega)]
    have := ih k (CrcT.T (c ^^^ bv l[i])) (i + 1) (by omega) (by omega)
    rw [Int.natCast_add] at this
    rw [run_drop c l i (by omega)]
    exact this
theorem of_spec (l : List Int) (hb : Bytes l) (hn : l.length < 9223372036854775807) (k : Nat) (hk : l.length + 9 < k) : crc_Of.f k l = some (sumS l) := by
  unfold crc_Of.f
  have := of_loop l hb hn l.length k 4294967295#32 0 (by omega) hk
  exact this
def le4 (s : Int) : List Int := [s % 256, (s / 256) % 256, (s / 65536) % 256, (s / 16777216) % 256]
def sealS (l : List Int) : List Int := le4 (sumS l) ++ l
theorem le4_bytes (s : Int) : Bytes (le4 s) := by
  intro x hx
  simp only [le4, List.mem_cons, List.not_mem_nil, or_false] at hx
  omega
theorem seal_bytes (l : List Int) (hb : Bytes l) : Bytes (sealS l) := by
  intro x hx
  rcases List.mem_append.1 hx with h | h
  · exact le4_bytes _ x h
  · exact hb x h
theorem seal_len (l : List Int) : (sealS l).length = l.length + 4 := by simp only [sealS, List.length_append, le4, List.length_cons, List.length_nil]; omega
theorem put_spec (l : List Int) (hb : Bytes l) (hn : l.length + 4 < 140737488355328) (k : Nat) (hk : l.length + 9 < k) : crc_Put.f k l = some (sealS l) := by
  unfold crc_Put.f
  rw [of_spec l hb (by omega) k hk, Option.bind_some]
  unfold slices_Concat_byte_byte_2.f
  rw [if_pos (by simp only [List.length_cons, List.length_nil]; omega), Option.bind_some]; rfl
/-- The number that four bytes are. -/
def word (l : List Int) : Int := rd l 0 + rd l 1 * 256 + rd l 2 * 65536 + rd l 3 * 16777216
theorem or_u32 (i : Nat) (x y : Int) (hx0 : 0 ≤ x) (hx : x < 2 ^ i) (hy0 : 0 ≤ y) (hy : y % 2 ^ i = 0) (hx1 : x < 4294967296) (hy1 : y < 4294967296) : bits .or .u32 x y = x + y := by
  rw [u32_or x y hx0 hx1 hy0 hy1]
  obtain ⟨a, rfl⟩ := Int.eq_ofNat_of_zero_le hx0
  obtain ⟨b, rfl⟩ := Int.eq_ofNat_of_zero_le hy0
  have h1 : a < 2 ^ i := by exact_mod_cast hx
  have h2 : b % 2 ^ i = 0 := by exact_mod_cast hy
  rw [Int.toNat_natCast, Int.toNat_natCast, Nat.or_comm, nat_join i b a h2 h1]
  omega
theorem word_spec (a b c d : Int) (ha : 0 ≤ a ∧ a < 256) (hb : 0 ≤ b ∧ b < 256) (hc : 0 ≤ c ∧ c < 256) (hd : 0 ≤ d ∧ d < 256) :
    bits .or .u32 (bits .or .u32 (bits .or .u32 (a % 4294967296) (((b % 4294967296) * 256) % 4294967296)) (((c % 4294967296) * 65536) % 4294967296)) (((d % 4294967296) * 16777216) % 4294967296) = a + b * 256 + c * 65536 + d * 16777216 := by
  have e1 : a % 4294967296 = a := by omega
  have e2 : ((b % 4294967296) * 256) % 4294967296 = b * 256 := by omega
  have e3 : ((c % 4294967296) * 65536) % 4294967296 = c * 65536 := by omega
  have e4 : ((d % 4294967296) * 16777216) % 4294967296 = d * 16777216 := by omega
  rw [e1, e2, e3, e4]
  have p8 : (2 : Int) ^ 8 = 256 := by decide
  have p16 : (2 : Int) ^ 16 = 65536 := by decide
  have p24 : (2 : Int) ^ 24 = 16777216 := by decide
  rw [or_u32 8 a (b * 256) ha.1 (by omega) (by omega) (by omega) (by omega) (by omega), or_u32 16 (a + b * 256) (c * 65536) (by omega) (by omega) (by omega) (by omega) (by omega) (by omega), or_u32 24 (a + b * 256 + c * 65536) (d * 16777216) (by omega) (by omega) (by omega) (by omega) (by omega) (by omega)]
theorem cut4 (l : List Int) (h : 4 ≤ l.length) : ∃ a b c d r, l = a :: b :: c :: d :: r := by
  match l, h with
  | a :: b :: c :: d :: r, _ => exact ⟨a, b, c, d, r, rfl⟩
/-- What Check and Unseal tell. -/
def checkS (l : List Int) : List Int × Bool := if l.length < 4 then ([], false) else if sumS (l.drop 4) = word l then (l.drop 4, true) else ([], false)
theorem bytes_drop (l : List Int) (n : Nat) (hb : Bytes l) : Bytes (l.drop n) := fun x hx => hb x (List.mem_of_mem_drop hx)
theorem check_spec (l : List Int) (hb : Bytes l) (hn : l.length + 4 < 140737488355328) (k : Nat) (hk : l.length + 9 < k) : crc_Check.f k l = some (checkS l) := by
  unfold crc_Check.f checkS
  by_cases h : l.length < 4
  · rw [if_pos (by omega), if_pos h]
  · rw [if_neg (by omega), if_pos (by omega), if_pos (by omega), if_pos (by omega), if_pos (by omega), if_pos (by omega), if_neg h, of_spec (l.drop 4) (bytes_drop l 4 hb) (by rw [List.length_drop]; omega) k (by rw [List.length_drop]; omega), Option.bind_some]
    obtain ⟨a, b, c, d, r, rfl⟩ := cut4 l (by omega)
    have e0 : rd (a :: b :: c :: d :: r) 0 = a := rfl
    have e1 : rd (a :: b :: c :: d :: r) 1 = b := rfl
    have e2 : rd (a :: b :: c :: d :: r) 2 = c := rfl
    have e3 : rd (a :: b :: c :: d :: r) 3 = d := rfl
    have hw : word (a :: b :: c :: d :: r) = a + b * 256 + c * 65536 + d * 16777216 := rfl
    rw [e0, e1, e2, e3, word_spec a b c d (hb a (by simp)) (hb b (by simp)) (hb c (by simp)) (hb d (by simp)), hw]
    split
    · unfold slices_Clone_byte_byte.f
      rw [if_pos (by rw [List.length_drop]; omega), Option.bind_some]
    · rfl
theorem bytes_set (l : List Int) (n : Nat) (x : Int) (hb : Bytes l) (hx : 0 ≤ x ∧ x < 256) : Bytes (l.set n x) := by
  intro y hy
  rcases List.mem_or_eq_of_mem_set hy with h | h
  · exact hb y h
  · rw [h]; exact hx
theorem bytes_take (l : List Int) (n : Nat) (hb : Bytes l) : Bytes (l.take n) := fun x hx => hb x (List.mem_of_mem_take hx)
theorem bits_u8 (op : BinOp) (x y : Int) : 0 ≤ bits op .u8 x y ∧ bits op .u8 x y < 256 := by
  have := bounds_u8 (wf_bits op .u8 x y)
  omega
theorem bits_u32 (op : BinOp) (x y : Int) : 0 ≤ bits op .u32 x y ∧ bits op .u32 x y < 4294967296 := by
  have := bounds_u32 (wf_bits op .u32 x y)
  omega
theorem lits (l : List Int) (h : ∀ x ∈ l, (Lit.int .u8 x).wf = true) : Bytes l := fun x hx => by have := bounds_u8 (h x hx); omega
theorem sumS_range (l : List Int) : 0 ≤ sumS l ∧ sumS l < 4294967296 := I_range _
theorem run_app (c : BitVec 32) (l m : List Int) : run c (l ++ m) = run (run c l) m := List.foldl_append
theorem word_seal (s : Int) (r : List Int) (h : 0 ≤ s ∧ s < 4294967296) : word (le4 s ++ r) = s := by
  have h0 : rd (le4 s ++ r) 0 = s % 256 := rfl
  have h1 : rd (le4 s ++ r) 1 = (s / 256) % 256 := rfl
  have h2 : rd (le4 s ++ r) 2 = (s / 65536) % 256 := rfl
  have h3 : rd (le4 s ++ r) 3 = (s / 16777216) % 256 := rfl
  unfold word
  rw [h0, h1, h2, h3]; omega
theorem check_seal (s : Int) (r : List Int) (h : 0 ≤ s ∧ s < 4294967296) : checkS (le4 s ++ r) = if sumS r = s then (r, true) else ([], false) := by
  have hd : (le4 s ++ r).drop 4 = r := rfl
  unfold checkS
  rw [if_neg (by simp only [List.length_append, le4, List.length_cons, List.length_nil]; omega), hd, word_seal s r h]
theorem I_inj (a b : BitVec 32) (h : I a = I b) : a = b := by
  unfold I at h
  exact BitVec.eq_of_toNat_eq (by omega)
theorem I_not2 (c : BitVec 32) : bits .xor .u32 IntKind.u32.max (I (~~~c)) = I c := by rw [I_not, BitVec.not_not]
theorem bytes_app {l m : List Int} (h : Bytes l) (k : Bytes m) : Bytes (l ++ m) := fun x hx => (List.mem_append.1 hx).elim (h x) (k x)
end Go.Proofs.Ytknclghaofmnhaa.CB
namespace Go.Proofs.Ytknclghaofmnhaa.BB
open Go Go.Proofs.Ytknclghaofmnhaa Go.RowKit Go.Proofs.Ytknclghaofmnhaa.PBR Go.Proofs.YtknclghaofmnhaaV.PrintWords Go.Proofs.YtknclghaofmnhaaV.PrintLast Go.Proofs.YtknclghaofmnhaaV.PrintMore
set_option linter.unusedVariables false
def recB (r : S71) : List Int := VB.textS r.f0 ++ VB.textS r.f1
def recsB (l : List S71) : List Int := l.flatMap recB
theorem recsB_cons (r : S71) (l : List S71) : recsB (r :: l) = recB r ++ recsB l := by simp [recsB]
theorem recsB_app (l m : List S71) : recsB (l ++ m) = recsB l ++ recsB m := by simp [recsB]
def flag (t : Bool) (m : Int) : Int := 2 * m + (if t then 1 else 0)
def lng (n : Int) : List Int := VB.longFrom n 8 0
theorem lng_len (n : Int) : (lng n).length = 8 := rfl
theorem lng_bytes (n : Int) : VB.Bytes (lng n) := by
  intro x hx
  have hb : ∀ j, 0 ≤ VB.byteAt n j ∧ VB.byteAt n j < 256 := fun j => by unfold VB.byteAt; omega
  simp only [lng, VB.longFrom, List.mem_cons, List.not_mem_nil, or_false] at hx
  rcases hx with rfl | rfl | rfl | rfl | rfl | rfl | rfl | rfl <;> exact hb _
def headB (p e s : Int) (t : Bool) (m n : Int) : List Int := [flag t m] ++ lng p ++ [e / 256 % 256, e % 256] ++ lng s ++ [n % 256]
theorem head_len (p e s : Int) (t : Bool) (m n : Int) : (headB p e s t m n).length = 20 := by simp only [headB, List.length_append, lng_len, List.length_cons, List.length_nil]
def inner (p e s : Int) (t : Bool) (m : Int) (l : List S71) : List Int := headB p e s t m (l.length : Int) ++ recsB l
def be4 (n : Int) : List Int := [n / 16777216 % 256, n / 65536 % 256, n / 256 % 256, n % 256]
theorem be4_bytes (n : Int) : VB.Bytes (be4 n) := by
  intro x hx
  simp only [be4, List.mem_cons, List.not_mem_nil, or_false] at hx
  omega
def outS (b : Int) (x : List Int) : List Int := lng b ++ be4 ((CB.sealS x).length : Int) ++ CB.sealS x
theorem outS_len (b : Int) (x : List Int) : (outS b x).length = x.length + 16 := by
  unfold outS
  rw [List.length_append, List.length_append, lng_len, CB.seal_len]
  show 8 + 4 + _ = _
  omega
/-- A batch that is right. -/
structure Fit (p e s : Int) (t : Bool) (m : Int) (l : List S71) : Prop where
  m0 : 0 ≤ m ∧ m ≤ 2
  p0 : VB.I64 p
  s0 : VB.I64 s
  e0 : -1 ≤ e ∧ e ≤ 32767
  len : l.length ≤ 16
  small : ∀ r ∈ l, r.f0.size ≤ 64 ∧ r.f1.size ≤ 64
  right : (m = 0 ∧ 1 ≤ l.length ∧ (p = -1 ∧ e = -1 ∧ s = -1 ∧ t = false ∨ 0 ≤ p ∧ 0 ≤ e ∧ 0 ≤ s ∧ s ≤ 2147483647)) ∨ (m ≠ 0 ∧ 0 ≤ p ∧ 0 ≤ e ∧ s = -1 ∧ t = true ∧ l = [])
  most : (recsB l).length ≤ 4060
theorem flag_range {t : Bool} {m : Int} (h : 0 ≤ m ∧ m ≤ 2) : 0 ≤ flag t m ∧ flag t m ≤ 5 := by unfold flag; split <;> omega
theorem textS_bytes (s : ByteArray) (h : s.size ≤ 64) : VB.Bytes (VB.textS s) := VB.bytes_app (VB.E_bytes _ ⟨by omega, by omega⟩) (VB.bytesOf_bytes s)
theorem recsB_bytes (l : List S71) (h : ∀ r ∈ l, r.f0.size ≤ 64 ∧ r.f1.size ≤ 64) : VB.Bytes (recsB l) := by
  intro x hx
  obtain ⟨r, hr, hx⟩ := List.mem_flatMap.1 hx
  exact VB.bytes_app (textS_bytes _ (h r hr).1) (textS_bytes _ (h r hr).2) x hx
theorem head_bytes (p e s : Int) (t : Bool) (m n : Int) (h : 0 ≤ m ∧ m ≤ 2) : VB.Bytes (headB p e s t m n) := by
  have hf := flag_range (t := t) h
  unfold headB
  refine VB.bytes_app (VB.bytes_app (VB.bytes_app (VB.bytes_app ?_ (lng_bytes p)) ?_) (lng_bytes s)) ?_
  · intro x hx; rw [List.mem_singleton] at hx; omega
  · intro x hx; simp only [List.mem_cons, List.not_mem_nil, or_false] at hx; omega
  · intro x hx; rw [List.mem_singleton] at hx; omega
theorem inner_bytes {p e s : Int} {t : Bool} {m : Int} {l : List S71} (h : Fit p e s t m l) : VB.Bytes (inner p e s t m l) := VB.bytes_app (head_bytes p e s t m _ h.m0) (recsB_bytes l h.small)
theorem inner_len (p e s : Int) (t : Bool) (m : Int) (l : List S71) : (inner p e s t m l).length = 20 + (recsB l).length := by unfold inner; rw [List.length_append, head_len]
theorem rd_rec (d : List S71) (r : S71) (rest : List S71) (i : Int) (h : i = (d.length : Int)) : rd_T71 (d ++ r :: rest) i = r := by
  rw [h]; unfold rd_T71
  rw [Int.toNat_natCast, List.getD_eq_getElem?_getD, List.getElem?_append_right (Nat.le_refl _), Nat.sub_self]; rfl
theorem textS_len (s : ByteArray) : s.size ≤ (VB.textS s).length ∧ (VB.textS s).length ≤ 10 + s.size := by
  have := VB.E_len (s.size : Int)
  unfold VB.textS; rw [List.length_append, bytesOf_length]; omega
theorem bytes_loop (acc : List Int) (b p e s : Int) (t : Bool) (m : Int) (l l' : List S71) (hacc : VB.Bytes acc) (hs : ∀ r ∈ l, r.f0.size ≤ 64 ∧ r.f1.size ≤ 64) (hl : (acc ++ recsB l).length ≤ 5000) (h16 : l.length ≤ 16) (rest : List S71) :
    ∀ (d : List S71) (k : Nat), l = d ++ rest → rest.length + 5200 < k → batch_bytes.l0 k (acc ++ recsB d) l (l.length : Int) (d.length : Int) b p e s t m l' = some (outS b (acc ++ recsB l)) := by
  induction rest with
  | nil =>
    intro d k hd hk
    obtain ⟨k, rfl⟩ : ∃ m, k = m + 1 := ⟨k - 1, by omega⟩
    rw [List.append_nil] at hd
    subst hd
    have hB : VB.Bytes (acc ++ recsB l) := VB.bytes_app hacc (recsB_bytes l hs)
    have hsl := CB.seal_len (acc ++ recsB l)
    rw [batch_bytes.l0, if_neg (by omega), CB.put_spec _ hB (by omega) k (by omega), Option.bind_some, VB.long_spec k [] b (by omega) (by simp), Option.bind_some, List.nil_append]
    unfold slices_Concat_byte_byte_3.f
    have h8 : (VB.longFrom b 8 0).length = 8 := rfl
    rw [if_pos (by rw [h8, hsl]; simp only [List.length_cons, List.length_nil]; omega), Option.bind_some]
    rfl
  | cons r rest ih =>
    intro d k hd hk
    obtain ⟨k, rfl⟩ : ∃ m, k = m + 1 := ⟨k - 1, by simp only [List.length_cons] at hk; omega⟩
    have hlen : l.length = d.length + (rest.length + 1) := by rw [hd, List.length_append, List.length_cons]
    have hr := hs r (by rw [hd]; simp)
    have hrd : rd_T71 l (d.length : Int) = r := by rw [hd]; exact rd_rec d r rest _ rfl
    have hpre : (acc ++ recsB d).length + (recB r).length ≤ 5000 := by
      have : recsB l = recsB d ++ (recB r ++ recsB rest) := by rw [hd, recsB_app, recsB_cons]
      rw [this] at hl
      simp only [List.length_append] at *
      omega
    have hrb : (recB r).length = (VB.textS r.f0).length + (VB.textS r.f1).length := by unfold recB; rw [List.length_append]
    have t0 := textS_len r.f0
    have t1 := textS_len r.f1
    simp only [List.length_cons] at hk
    rw [batch_bytes.l0, if_pos (by omega), if_pos (by omega), if_pos (by omega), hrd, VB.text_spec k _ _ (by omega) (by omega), Option.bind_some, VB.text_spec k _ _ (by omega) (by rw [List.length_append]; omega), Option.bind_some, Num.w64 _ (by omega)]
    have hn := ih (d ++ [r]) k (by rw [hd, List.append_assoc]; rfl) (by omega)
    rw [recsB_app, recsB_cons, show recsB [] = [] from rfl, List.append_nil, List.length_append] at hn
    unfold recB at hn
    rw [← List.append_assoc, ← List.append_assoc] at hn
    exact hn
theorem bytes_spec {p e s : Int} {t : Bool} {m : Int} {l : List S71} (h : Fit p e s t m l) (b : Int) (k : Nat) (hk : 5300 < k) : batch_bytes.f k b p e s t m l = some (outS b (inner p e s t m l)) := by
  have hm := h.m0
  have hmost := h.most
  have hfl : ∀ c : Int, c = flag t m → batch_bytes.j0 k c b p e s t m l = some (outS b (inner p e s t m l)) := by
    rintro c rfl
    obtain ⟨k, rfl⟩ : ∃ m, k = m + 1 := ⟨k - 1, by omega⟩
    have h8 : (VB.longFrom p 8 0).length = 8 := rfl
    have h9 : (VB.longFrom s 8 0).length = 8 := rfl
    rw [batch_bytes.j0, VB.long_spec k _ p (by omega) (by simp), Option.bind_some, Option.bind_some, if_pos (by rw [List.length_append, h8]; simp only [List.length_cons, List.length_nil]; omega), VB.long_spec k _ s (by omega) (by rw [List.length_append, List.length_append, h8]; simp only [List.length_cons, List.length_nil]; omega), Option.bind_some, if_pos (by rw [List.length_append, List.length_append, List.length_append, h8, h9]; simp only [List.length_cons, List.length_nil]; omega)]
    have hl := bytes_loop (headB p e s t m (l.length : Int)) b p e s t m l l (head_bytes p e s t m _ hm) h.small (by rw [List.length_append, head_len]; omega) h.len l [] k rfl (by have := h.len; omega)
    exact hl
  unfold batch_bytes.f
  cases t
  · rw [if_neg (by decide)]
    exact hfl _ (by unfold flag; rw [Num.w64 _ (by omega)]; simp; omega)
  · rw [if_pos rfl]
    exact hfl _ (by unfold flag; rw [Num.w64 _ (by omega)]; simp; omega)
theorem data_loop (l : List S71) (hs : ∀ r ∈ l, r.f0.size ≤ 64 ∧ r.f1.size ≤ 64) (hl : l.length ≤ 16) (rest : List S71) : ∀ (d : List S71) (k : Nat), l = d ++ rest → rest.length < k → batch_data.l0 k l (l.length : Int) (d.length : Int) = some 0 := by
  induction rest with
  | nil =>
    intro d k hd hk
    obtain ⟨k, rfl⟩ : ∃ m, k = m + 1 := ⟨k - 1, by omega⟩
    rw [List.append_nil] at hd
    subst hd
    rw [batch_data.l0, if_neg (by omega)]
  | cons r rest ih =>
    intro d k hd hk
    obtain ⟨k, rfl⟩ : ∃ m, k = m + 1 := ⟨k - 1, by omega⟩
    have hlen : l.length = d.length + (rest.length + 1) := by rw [hd, List.length_append, List.length_cons]
    have hr := hs r (by rw [hd]; simp)
    have hrd : rd_T71 l (d.length : Int) = r := by rw [hd]; exact rd_rec d r rest _ rfl
    simp only [List.length_cons] at hk
    rw [batch_data.l0, if_pos (by omega), if_pos (by omega), if_pos (by omega), hrd, if_neg (by omega), if_neg (by omega), Num.w64 _ (by omega)]
    have hn := ih (d ++ [r]) k (by rw [hd, List.append_assoc]; rfl) (by omega)
    rw [List.length_append] at hn
    exact hn
theorem data_spec {p e s : Int} {t : Bool} {l : List S71} (h : Fit p e s t 0 l) (b : Int) (k : Nat) (hk : 40 < k) : batch_data.f k b p e s t 0 l = some 0 := by
  obtain ⟨k, rfl⟩ : ∃ m, k = m + 3 := ⟨k - 3, by omega⟩
  have hl := h.len
  have hlo := data_loop l h.small hl l [] (k + 1) rfl (by omega)
  have hj1 : ∀ b p e s t m, 1 ≤ l.length → batch_data.j1 (k + 2) false b p e s t m l = some 0 := by
    intro b p e s t m h1
    rw [batch_data.j1, if_neg (by decide), if_neg (by omega), if_neg (by omega)]
    exact hlo
  rcases h.right with ⟨_, h1, h2⟩ | ⟨h1, _⟩
  · rcases h2 with ⟨rfl, rfl, rfl, rfl⟩ | ⟨hp, he, hs0, hs1⟩
    · unfold batch_data.f
      rw [if_pos rfl, if_pos rfl, if_pos rfl, batch_data.j0, if_pos (by rfl)]
      exact hj1 _ _ _ _ _ _ h1
    · have hx : ∀ x, x = false → batch_data.j0 (k + 3) x b p e s t 0 l = some 0 := by
        rintro x rfl
        have he1 := h.e0
        rw [batch_data.j0, if_neg (by decide)]
        unfold batch_named.f seq_Right.f
        rw [if_pos (by omega), if_pos (by omega), Option.bind_some, if_pos (decide_eq_true (by omega)), if_pos (by omega), Option.bind_some, decide_eq_true hs1]
        exact hj1 _ _ _ _ _ _ h1
      unfold batch_data.f
      rw [if_neg (by omega)]
      exact hx _ rfl
  · exact absurd rfl h1
theorem right_spec {p e s : Int} {t : Bool} {m : Int} {l : List S71} (h : Fit p e s t m l) (b : Int) (hb : 0 ≤ b ∧ b ≤ 1099511627776) (k : Nat) (hk : 5400 < k) : batch_Right.f k b p e s t m l = some 0 := by
  obtain ⟨k, rfl⟩ : ∃ m, k = m + 3 := ⟨k - 3, by omega⟩
  have hm := h.m0
  have hmost := h.most
  have hol := outS_len b (inner p e s t m l)
  rw [inner_len] at hol
  have hle : ¬ (((outS b (inner p e s t m l)).length : Int) > 4096) := by omega
  unfold batch_Right.f
  rw [if_neg (by omega), decide_eq_false (by omega), batch_Right.j0, if_neg (by decide)]
  rcases h.right with ⟨rfl, h1, h2⟩ | ⟨hm0, hp, he, rfl, rfl, rfl⟩
  · rw [if_pos rfl, data_spec h b (k + 2) (by omega), Option.bind_some, if_pos rfl, bytes_spec h b (k + 2) (by omega), Option.bind_some, if_neg hle]
  · have he1 := h.e0
    have hj : batch_Right.j1 (k + 2) (decide ((([] : List S71).length : Int) > 0)) b p e (-1) true m [] = some 0 := by
      rw [decide_eq_false (by simp), batch_Right.j1, if_neg (by decide), bytes_spec h b (k + 1) (by omega), Option.bind_some, if_neg hle]
    rw [if_neg hm0]
    unfold batch_named.f
    rcases (show m = 1 ∨ m = 2 by omega) with rfl | rfl
    · rw [if_pos rfl, if_pos (by omega), if_pos (by omega), Option.bind_some, if_pos (decide_eq_true (by omega)), if_pos rfl, if_pos rfl]
      exact hj
    · rw [if_neg (by decide), if_pos rfl, if_pos (by omega), if_pos (by omega), Option.bind_some, if_pos (decide_eq_true (by omega)), if_pos rfl, if_pos rfl]
      exact hj
theorem Bytes_spec {p e s : Int} {t : Bool} {m : Int} {l : List S71} (h : Fit p e s t m l) (b : Int) (hb : 0 ≤ b ∧ b ≤ 1099511627776) (k : Nat) (hk : 5400 < k) : batch_Bytes.f k b p e s t m l = some (outS b (inner p e s t m l), 0) := by
  unfold batch_Bytes.f
  rw [right_spec h b hb k hk, Option.bind_some, if_pos rfl, bytes_spec h b k (by omega), Option.bind_some]
theorem equal_loop (l : List Int) (hl : l.length < 9223372036854775807) (d : Nat) : ∀ (k i : Nat), i + d = l.length → d < k → slices_Equal_byte_byte.l0 k l l (l.length : Int) (i : Int) = some true := by
  induction d with
  | zero =>
    intro k i hi hk
    obtain ⟨k, rfl⟩ : ∃ m, k = m + 1 := ⟨k - 1, by omega⟩
    rw [slices_Equal_byte_byte.l0, if_neg (by omega)]
  | succ d ih =>
    intro k i hi hk
    obtain ⟨k, rfl⟩ : ∃ m, k = m + 1 := ⟨k - 1, by omega⟩
    rw [slices_Equal_byte_byte.l0, if_pos (by omega), if_pos (by omega), if_pos (by omega), if_pos (by omega), if_pos rfl, Num.w64 _ (by omega)]
    exact ih k (i + 1) (by omega) (by omega)
theorem equal_spec (l : List Int) (hl : l.length < 9223372036854775807) (k : Nat) (hk : l.length < k) : slices_Equal_byte_byte.f k l l = some true := by
  unfold slices_Equal_byte_byte.f
  rw [if_pos rfl]
  exact equal_loop l hl l.length k 0 (by omega) hk
/-- A number above a byte. -/
theorem or_i64 (x y : Int) (hx0 : 0 ≤ x) (hx : x < 4611686018427387904) (h256 : x % 256 = 0) (hy0 : 0 ≤ y) (hy : y < 256) : bits .or .i64 x y = x + y := by
  obtain ⟨a, rfl⟩ := Int.eq_ofNat_of_zero_le hx0
  obtain ⟨b, rfl⟩ := Int.eq_ofNat_of_zero_le hy0
  have e : bits .or .i64 (a : Int) (b : Int) = IntKind.i64.wrap (((BitVec.ofInt 64 (a : Int)) ||| (BitVec.ofInt 64 (b : Int))).toNat : Int) := rfl
  have ea : (BitVec.ofInt 64 (a : Int)).toNat = a := by rw [BitVec.toNat_ofInt]; have : ((2 ^ 64 : Nat) : Int) = 18446744073709551616 := by decide
                                                        rw [this]; omega
  have eb : (BitVec.ofInt 64 (b : Int)).toNat = b := by rw [BitVec.toNat_ofInt]; have : ((2 ^ 64 : Nat) : Int) = 18446744073709551616 := by decide
                                                        rw [this]; omega
  have h1 : a % 2 ^ 8 = 0 := by omega
  have h2 : b < 2 ^ 8 := by omega
  rw [e, BitVec.toNat_or, ea, eb, nat_join 8 a b h1 h2, IntKind.wrap_i64]
  omega
theorem long_loop4 (n : Int) (h0 : 0 ≤ n) (h1 : n < 4294967296) (k : Nat) (hk : 5 < k) : batch_long.l0 k 0 (be4 n) ((be4 n).length : Int) 0 = some (12 + n) := by
  obtain ⟨k, rfl⟩ : ∃ m, k = m + 5 := ⟨k - 5, by omega⟩
  have hl : (be4 n).length = 4 := rfl
  have r0 : rd (be4 n) 0 = n / 16777216 % 256 := rfl
  have r1 : rd (be4 n) 1 = n / 65536 % 256 := rfl
  have r2 : rd (be4 n) 2 = n / 256 % 256 := rfl
  have r3 : rd (be4 n) 3 = n % 256 := rfl
  have q0 : bits .or .i64 (wrap64 (0 * 256)) (wrap64 (n / 16777216 % 256)) = n / 16777216 := by rw [Num.w64 _ (by omega), Num.w64 _ (by omega), or_i64 _ _ (by omega) (by omega) (by omega) (by omega) (by omega)]; omega
  have q1 : bits .or .i64 (wrap64 (n / 16777216 * 256)) (wrap64 (n / 65536 % 256)) = n / 65536 := by rw [Num.w64 _ (by omega), Num.w64 _ (by omega), or_i64 _ _ (by omega) (by omega) (by omega) (by omega) (by omega)]; omega
  have q2 : bits .or .i64 (wrap64 (n / 65536 * 256)) (wrap64 (n / 256 % 256)) = n / 256 := by rw [Num.w64 _ (by omega), Num.w64 _ (by omega), or_i64 _ _ (by omega) (by omega) (by omega) (by omega) (by omega)]; omega
  have q3 : bits .or .i64 (wrap64 (n / 256 * 256)) (wrap64 (n % 256)) = n := by rw [Num.w64 _ (by omega), Num.w64 _ (by omega), or_i64 _ _ (by omega) (by omega) (by omega) (by omega) (by omega)]; omega
  have w1 : wrap64 (0 + 1) = 1 := by rw [Num.w64 _ (by decide)]; rfl
  have w2 : wrap64 (1 + 1) = 2 := by rw [Num.w64 _ (by decide)]; rfl
  have w3 : wrap64 (2 + 1) = 3 := by rw [Num.w64 _ (by decide)]; rfl
  have w4 : wrap64 (3 + 1) = 4 := by rw [Num.w64 _ (by decide)]; rfl
  rw [batch_long.l0, if_pos (by omega), if_pos (by omega), if_pos (by omega), r0, q0, w1, batch_long.l0, if_pos (by omega), if_pos (by omega), if_pos (by omega), r1, q1, w2, batch_long.l0, if_pos (by omega), if_pos (by omega), if_pos (by omega), r2, q2, w3, batch_long.l0, if_pos (by omega), if_pos (by omega), if_pos (by omega), r3, q3, w4, batch_long.l0, if_neg (by omega), Num.w64 _ (by omega)]
theorem outS_cut (b : Int) (x r : List Int) : ((outS b x ++ r).take 12).drop 8 = be4 ((CB.sealS x).length : Int) := by
  unfold outS
  have h : lng b ++ be4 ((CB.sealS x).length : Int) ++ CB.sealS x ++ r = (lng b ++ be4 ((CB.sealS x).length : Int)) ++ (CB.sealS x ++ r) := by rw [List.append_assoc]
  have ql : (lng b ++ be4 ((CB.sealS x).length : Int)).length = 12 := by rw [List.length_append, lng_len]; rfl
  rw [h, ← ql, List.take_left, show (8 : Nat) = (lng b).length from (lng_len b).symm, List.drop_left]
theorem long_read (b : Int) (x r : List Int) (hx : x.length ≤ 4080) (k : Nat) (hk : 5 < k) : batch_long.f k (outS b x ++ r) = some ((x.length : Int) + 16) := by
  have hl := outS_len b x
  have hs := CB.seal_len x
  unfold batch_long.f
  rw [if_neg (by rw [List.length_append]; omega), if_pos (by decide), if_pos (by rw [List.length_append]; omega), outS_cut, Option.bind_some, long_loop4 _ (by omega) (by omega) k hk]
  congr 1
  omega

theorem flag_back {t : Bool} {m : Int} (h : 0 ≤ m ∧ m ≤ 2) : (bits .and .u8 (flag t m) 1 == 1) = t ∧ wrap64 (flag t m / 2) = m := by
  rcases (show m = 0 ∨ m = 1 ∨ m = 2 by omega) with rfl | rfl | rfl <;> cases t <;> exact ⟨by decide, by rw [Num.w64 _ (by decide)]; decide⟩
theorem epoch_back {e : Int} (h : -1 ≤ e ∧ e ≤ 32767) : bits .or .i64 (wrap64 ((wrap64 (e / 256 % 256)) * 256)) (wrap64 (e % 256)) = e % 65536 := by
  rw [Num.w64 (e / 256 % 256) (by omega), Num.w64 _ (by omega), Num.w64 _ (by omega), or_i64 _ _ (by omega) (by omega) (by omega) (by omega) (by omega)]
  omega
theorem body_loop (x : List Int) (n : Int) (b p e s : Int) (t : Bool) (m : Int) (l : List S71) (hn : n = (l.length : Int)) (hx : x.length ≤ 5000) (hxb : VB.Bytes x) (h16 : l.length ≤ 16) (hs : ∀ r ∈ l, r.f0.size ≤ 64 ∧ r.f1.size ≤ 64) (rest : List S71) :
    ∀ (d : List S71) (pre : List Int) (k : Nat), l = d ++ rest → x = pre ++ recsB rest → rest.length + 60 < k → batch_body.l0 k x (pre.length : Int) n (d.length : Int) b p e s t m d = some (b, p, e, s, t, m, l) := by
  induction rest with
  | nil =>
    intro d pre k hd hp hk
    obtain ⟨k, rfl⟩ : ∃ m, k = m + 1 := ⟨k - 1, by omega⟩
    rw [List.append_nil] at hd
    subst hd
    rw [batch_body.l0, if_neg (by omega)]
  | cons r rest ih =>
    intro d pre k hd hp hk
    obtain ⟨k, rfl⟩ : ∃ m, k = m + 1 := ⟨k - 1, by omega⟩
    have hlen : l.length = d.length + (rest.length + 1) := by rw [hd, List.length_append, List.length_cons]
    have hr := hs r (by rw [hd]; simp)
    have t0 := textS_len r.f0
    have t1 := textS_len r.f1
    rw [recsB_cons, recB, List.append_assoc] at hp
    have hxl : x.length = pre.length + ((VB.textS r.f0).length + ((VB.textS r.f1).length + (recsB rest).length)) := by rw [hp]; simp only [List.length_append]
    have d0 : x.drop ((pre.length : Int)).toNat = VB.textS r.f0 ++ (VB.textS r.f1 ++ recsB rest) := by rw [Int.toNat_natCast, hp, List.drop_left]
    have e0 : ((VB.E (r.f0.size : Int)).length : Int) + (r.f0.size : Int) = ((VB.textS r.f0).length : Int) := by unfold VB.textS; rw [List.length_append, bytesOf_length]; omega
    have e1 : ((VB.E (r.f1.size : Int)).length : Int) + (r.f1.size : Int) = ((VB.textS r.f1).length : Int) := by unfold VB.textS; rw [List.length_append, bytesOf_length]; omega
    have hw : wrap64 ((pre.length : Int) + ((VB.textS r.f0).length : Int)) = ((pre ++ VB.textS r.f0).length : Int) := by rw [Num.w64 _ (by omega), List.length_append]; omega
    have d1 : x.drop (((pre ++ VB.textS r.f0).length : Int)).toNat = VB.textS r.f1 ++ recsB rest := by rw [Int.toNat_natCast, hp, ← List.append_assoc, List.drop_left]
    have hw2 : wrap64 ((pre.length : Int) + wrap64 (((VB.textS r.f0).length : Int) + ((VB.textS r.f1).length : Int))) = ((pre ++ VB.textS r.f0 ++ VB.textS r.f1).length : Int) := by rw [Num.w64 (((VB.textS r.f0).length : Int) + _) (by omega), Num.w64 _ (by omega), List.length_append, List.length_append]; omega
    have b0 := VB.bytes_drop (((pre.length : Int)).toNat) hxb
    have b1 := VB.bytes_drop ((((pre ++ VB.textS r.f0).length : Int)).toNat) hxb
    simp only [List.length_cons] at hk
    rw [batch_body.l0, if_pos (by omega), if_pos (by omega), if_pos (by omega), VB.cut_spec k _ 64 b0 (by rw [List.length_drop]; omega) (by omega), Option.bind_some, d0, VB.cut_text r.f0 _ 64 (by omega) (by omega)]
    simp only []
    rw [e0, hw, if_pos (by omega), if_pos (by rw [List.length_append]; omega), VB.cut_spec k _ 64 b1 (by rw [List.length_drop]; omega) (by omega), Option.bind_some, d1, VB.cut_text r.f1 _ 64 (by omega) (by omega)]
    simp only []
    rw [e1, if_pos (by omega), hw2, Num.w64 ((d.length : Int) + 1) (by omega)]
    have hnx := ih (d ++ [r]) (pre ++ VB.textS r.f0 ++ VB.textS r.f1) k (by rw [hd, List.append_assoc]; rfl) (by rw [hp]; simp only [List.append_assoc]) (by omega)
    have el : ((d ++ [r]).length : Int) = (d.length : Int) + 1 := by rw [List.length_append]; rfl
    rw [el] at hnx
    exact hnx
theorem inner_eq (p e s : Int) (t : Bool) (m : Int) (l : List S71) : inner p e s t m l = headB p e s t m (l.length : Int) ++ recsB l := rfl
theorem body_start (x : List Int) (n : Int) (b p e s : Int) (t : Bool) (m : Int) (l : List S71) (hn : n = (l.length : Int)) (hx : x.length ≤ 5000) (hxb : VB.Bytes x) (h16 : l.length ≤ 16) (hs : ∀ r ∈ l, r.f0.size ≤ 64 ∧ r.f1.size ≤ 64) (pre : List Int) (a : Int) (k : Nat) (ha : a = (pre.length : Int)) (hp : x = pre ++ recsB l) (hk : l.length + 60 < k) :
    batch_body.l0 k x a n 0 b p e s t m [] = some (b, p, e, s, t, m, l) := by
  rw [ha]
  exact body_loop x n b p e s t m l hn hx hxb h16 hs l [] pre k (List.nil_append l).symm hp hk
theorem body_spec {p e s : Int} {t : Bool} {m : Int} {l : List S71} (h : Fit p e s t m l) (b : Int) (k : Nat) (hk : 100 < k) : batch_body.f k b (inner p e s t m l) = some (b, p, e, s, t, m, l) := by
  obtain ⟨k, rfl⟩ : ∃ m, k = m + 1 := ⟨k - 1, by omega⟩
  have hil := inner_len p e s t m l
  have hmost := h.most
  have h16 := h.len
  have hk2 : l.length + 60 < k := by omega
  have g0 : (0 : Int) < ((inner p e s t m l).length : Int) := by omega
  have g9 : (9 : Int) < ((inner p e s t m l).length : Int) := by omega
  have g10 : (10 : Int) < ((inner p e s t m l).length : Int) := by omega
  have g19 : (19 : Int) < ((inner p e s t m l).length : Int) := by omega
  have g1 : (1 : Int) ≤ ((inner p e s t m l).length : Int) := by omega
  have g11 : (11 : Int) ≤ ((inner p e s t m l).length : Int) := by omega
  have hk8 : 8 < k + 1 := by omega
  have hx5 : (inner p e s t m l).length ≤ 5000 := by omega
  have hnn : wrap64 ((l.length : Int) % 256) = (l.length : Int) := by rw [Num.w64 _ (by omega)]; omega
  have he := h.e0
  have heA : e % 65536 = 65535 → -1 = e := by omega
  have heB : ¬ e % 65536 = 65535 → e % 65536 = e := by omega
  have q0 : inner p e s t m l = [] ++ flag t m :: (lng p ++ (e / 256 % 256 :: e % 256 :: (lng s ++ ((l.length : Int) % 256 :: recsB l)))) := by simp only [inner, headB, List.append_assoc, List.cons_append, List.nil_append]
  have q9 : inner p e s t m l = (flag t m :: lng p) ++ (e / 256 % 256) :: (e % 256 :: (lng s ++ ((l.length : Int) % 256 :: recsB l))) := by simp only [inner, headB, List.append_assoc, List.cons_append, List.nil_append]
  have q10 : inner p e s t m l = (flag t m :: (lng p ++ [e / 256 % 256])) ++ (e % 256) :: (lng s ++ ((l.length : Int) % 256 :: recsB l)) := by simp only [inner, headB, List.append_assoc, List.cons_append, List.nil_append]
  have q19 : inner p e s t m l = (flag t m :: (lng p ++ (e / 256 % 256 :: e % 256 :: lng s))) ++ ((l.length : Int) % 256) :: recsB l := by simp only [inner, headB, List.append_assoc, List.cons_append, List.nil_append]
  have r0 : rd (inner p e s t m l) 0 = flag t m := by rw [q0]; exact VB.rd_app [] _ _
  have r9 : rd (inner p e s t m l) 9 = e / 256 % 256 := by
    rw [q9, show (9 : Int) = ((flag t m :: lng p).length : Int) by rw [List.length_cons, lng_len]; rfl]; exact VB.rd_app _ _ _
  have r10 : rd (inner p e s t m l) 10 = e % 256 := by
    rw [q10, show (10 : Int) = ((flag t m :: (lng p ++ [e / 256 % 256])).length : Int) by rw [List.length_cons, List.length_append, lng_len]; rfl]; exact VB.rd_app _ _ _
  have r19 : rd (inner p e s t m l) 19 = (l.length : Int) % 256 := by
    rw [q19, show (19 : Int) = ((flag t m :: (lng p ++ (e / 256 % 256 :: e % 256 :: lng s))).length : Int) by rw [List.length_cons, List.length_append, List.length_cons, List.length_cons, lng_len, lng_len]; rfl]; exact VB.rd_app _ _ _
  have d1 : (inner p e s t m l).drop 1 = VB.longFrom p 8 0 ++ (e / 256 % 256 :: e % 256 :: (lng s ++ ((l.length : Int) % 256 :: recsB l))) := by
    rw [q0, List.nil_append, List.drop_succ_cons, List.drop_zero, lng]
  have d11 : (inner p e s t m l).drop 11 = VB.longFrom s 8 0 ++ ((l.length : Int) % 256 :: recsB l) := by
    have q : inner p e s t m l = (flag t m :: (lng p ++ [e / 256 % 256, e % 256])) ++ (lng s ++ ((l.length : Int) % 256 :: recsB l)) := by simp only [inner, headB, List.append_assoc, List.cons_append, List.nil_append]
    have ql : (flag t m :: (lng p ++ [e / 256 % 256, e % 256])).length = 11 := by rw [List.length_cons, List.length_append, lng_len]; rfl
    rw [q, ← ql, List.drop_left, lng]
  have fb := flag_back (t := t) h.m0
  have eb := epoch_back h.e0
  have hj : ∀ e', e' = e → batch_body.j0 (k + 1) (inner p e s t m l) b p e' s t m = some (b, p, e, s, t, m, l) := by
    rintro e' rfl
    rw [batch_body.j0, if_pos g19, r19, hnn]
    exact body_start (inner p e' s t m l) (l.length : Int) b p e' s t m l rfl hx5 (inner_bytes h) h16 h.small (headB p e' s t m (l.length : Int)) 20 k (by rw [head_len]; rfl) (inner_eq p e' s t m l) hk2
  unfold batch_body.f
  rw [if_pos g0, if_pos g9, if_pos g10, if_pos g1, d1, VB.back_long _ p _ h.p0 hk8, Option.bind_some, if_pos g11, d11, VB.back_long _ s _ h.s0 hk8, Option.bind_some, r0, r9, r10, eb, fb.1, fb.2]
  by_cases h1 : e % 65536 = 65535
  · rw [if_pos h1]
    exact hj _ (heA h1)
  · rw [if_neg h1]
    exact hj _ (heB h1)
theorem read_spec {p e s : Int} {t : Bool} {m : Int} {l : List S71} (h : Fit p e s t m l) (b : Int) (hb : 0 ≤ b ∧ b ≤ 1099511627776) (r : List Int) (hr : VB.Bytes r) (hrl : r.length < 70368744177664) (k : Nat) (hk : 5500 < k) :
    batch_Read.f k (outS b (inner p e s t m l) ++ r) = some (b, p, e, s, t, m, l, ((outS b (inner p e s t m l)).length : Int), 0) := by
  obtain ⟨k, rfl⟩ : ∃ m, k = m + 1 := ⟨k - 1, by omega⟩
  have hil := inner_len p e s t m l
  have hmost := h.most
  have hol := outS_len b (inner p e s t m l)
  have hib := inner_bytes h
  have hsl := CB.seal_len (inner p e s t m l)
  have htk : (outS b (inner p e s t m l) ++ r).take (((inner p e s t m l).length : Int) + 16).toNat = outS b (inner p e s t m l) := by
    rw [show (((inner p e s t m l).length : Int) + 16).toNat = (outS b (inner p e s t m l)).length by omega, List.take_left]
  have hdr : (outS b (inner p e s t m l)).drop 12 = CB.sealS (inner p e s t m l) := by
    have ql : (lng b ++ be4 ((CB.sealS (inner p e s t m l)).length : Int)).length = 12 := by rw [List.length_append, lng_len]; rfl
    unfold outS
    rw [← ql, List.drop_left]
  have hck : CB.checkS (CB.sealS (inner p e s t m l)) = (inner p e s t m l, true) := by unfold CB.sealS; rw [CB.check_seal _ _ (CB.sumS_range _), if_pos rfl]
  have r0 : rd (inner p e s t m l) 0 = flag t m := by
    have q0 : inner p e s t m l = [] ++ flag t m :: (lng p ++ (e / 256 % 256 :: e % 256 :: (lng s ++ ((l.length : Int) % 256 :: recsB l)))) := by simp only [inner, headB, List.append_assoc, List.cons_append, List.nil_append]
    rw [q0]; exact VB.rd_app [] _ _
  have hf := flag_range (t := t) h.m0
  have hbk : outS b (inner p e s t m l) ++ r = VB.longFrom b 8 0 ++ (be4 ((CB.sealS (inner p e s t m l)).length : Int) ++ CB.sealS (inner p e s t m l) ++ r) := by unfold outS lng; simp only [List.append_assoc]
  unfold batch_Read.f
  rw [long_read b _ r (by omega) _ (by omega), Option.bind_some, if_neg (by omega), if_neg (by omega), if_neg (by rw [List.length_append]; omega), if_pos (by omega), if_pos (by rw [List.length_append]; omega), htk, hdr, CB.check_spec _ (CB.seal_bytes _ hib) (by omega) _ (by omega), Option.bind_some, hck]
  simp only []
  rw [if_pos trivial, if_pos (by omega), r0, decide_eq_false (by omega), batch_Read.j0, if_neg (by decide)]
  have hbb : varint_Back.f k (outS b (inner p e s t m l) ++ r) = some (b, true) := by rw [hbk]; exact VB.back_long k b _ ⟨by omega, by omega⟩ (by omega)
  rw [hbb, Option.bind_some, body_spec h b k (by omega), Option.bind_some]
  simp only []
  rw [Bytes_spec h b hb k (by omega), Option.bind_some]
  simp only []
  rw [if_pos trivial, if_pos (by omega), if_pos (by rw [List.length_append]; omega), htk, equal_spec _ (by omega) k (by omega), Option.bind_some, if_pos rfl, hol, Int.natCast_add]
  rfl
theorem rebase_spec {p e s : Int} {t : Bool} {m : Int} {l : List S71} (h : Fit p e s t m l) (b n : Int) (hb : 0 ≤ b ∧ b ≤ 1099511627776) (hn : 0 ≤ n ∧ n ≤ 1099511627776) (k : Nat) (hk : 5500 < k) :
    batch_Rebase.f k (outS b (inner p e s t m l)) n = some (outS n (inner p e s t m l), true) := by
  have hr := read_spec h b hb [] (fun _ h => by simp at h) (by decide) k hk
  rw [List.append_nil] at hr
  unfold batch_Rebase.f
  rw [hr, Option.bind_some]
  simp only []
  rw [if_pos trivial, if_pos trivial, if_neg (by omega), if_neg (by omega), bytes_spec h n k (by omega), Option.bind_some]
instance : DecidableEq S71 := fun a b => decidable_of_iff (a.f0.data = b.f0.data ∧ a.f1.data = b.f1.data) (by
  obtain ⟨⟨a0⟩, ⟨a1⟩⟩ := a
  obtain ⟨⟨b0⟩, ⟨b1⟩⟩ := b
  simp)
theorem recs_loop (l m : List S71) (hl : l.length = m.length) (hb : l.length < 9223372036854775807) (rest : List S71) : ∀ (d rest2 d2 : List S71) (k : Nat), l = d ++ rest → m = d2 ++ rest2 → d.length = d2.length → rest.length < k → bordereauref6_Recs.l0 k l m (l.length : Int) (d.length : Int) = some (decide (rest = rest2)) := by
  induction rest with
  | nil =>
    intro d rest2 d2 k hd hd2 hdd hk
    obtain ⟨k, rfl⟩ : ∃ m, k = m + 1 := ⟨k - 1, by omega⟩
    have h1 : l.length = d.length := by rw [hd, List.append_nil]
    have h2 : m.length = d2.length + rest2.length := by rw [hd2, List.length_append]
    obtain rfl : rest2 = [] := List.eq_nil_of_length_eq_zero (by omega)
    rw [bordereauref6_Recs.l0, if_neg (by omega)]; rfl
  | cons r rest ih =>
    intro d rest2 d2 k hd hd2 hdd hk
    obtain ⟨k, rfl⟩ : ∃ m, k = m + 1 := ⟨k - 1, by omega⟩
    have h1 : l.length = d.length + (rest.length + 1) := by rw [hd, List.length_append, List.length_cons]
    have h2 : m.length = d2.length + rest2.length := by rw [hd2, List.length_append]
    cases rest2 with
    | nil => simp at h2; omega
    | cons r2 rest2 =>
      simp only [List.length_cons] at hk h2
      have e1 : rd_T71 l (d.length : Int) = r := by rw [hd]; exact rd_rec d r rest _ rfl
      have e2 : rd_T71 m (d.length : Int) = r2 := by rw [hd2]; exact rd_rec d2 r2 rest2 _ (by rw [hdd])
      have hn := ih (d ++ [r]) rest2 (d2 ++ [r2]) k (by rw [hd, List.append_assoc]; rfl) (by rw [hd2, List.append_assoc]; rfl) (by rw [List.length_append, List.length_append, hdd]; rfl) (by omega)
      have el : ((d ++ [r]).length : Int) = (d.length : Int) + 1 := by rw [List.length_append]; rfl
      rw [el] at hn
      have key : ((!((r.f0.toList == r2.f0.toList)) || (!((r.f1.toList == r2.f1.toList)))) = true) ↔ ¬ r = r2 := by
        have hb : ∀ x y : ByteArray, x.toList = y.toList ↔ x = y := fun x y => ⟨fun h => by
          have := congrArg List.toArray h
          rw [ByteArray.toList_eq, ByteArray.toList_eq] at this
          cases x; cases y
          simpa using this, fun h => by rw [h]⟩
        obtain ⟨x0, x1⟩ := r
        obtain ⟨y0, y1⟩ := r2
        simp only [Bool.or_eq_true, Bool.not_eq_true', beq_eq_false_iff_ne, ne_eq, hb, S71.mk.injEq]
        by_cases h : x0 = y0 <;> simp [h]
      rw [bordereauref6_Recs.l0, if_pos (by omega), if_pos (by omega), if_pos (by omega), if_pos (by omega), e1, e2]
      by_cases hr : r = r2
      · rw [if_neg (fun h => key.1 h hr), Num.w64 _ (by omega), hn]
        congr 1
        subst hr
        simp
      · rw [if_pos (key.2 hr), decide_eq_false (fun h => hr (List.cons.inj h).1)]
theorem recs_spec (l m : List S71) (hb : l.length < 1000) (k : Nat) (hk : 1000 < k) : bordereauref6_Recs.f k l m = some (decide (l = m)) := by
  unfold bordereauref6_Recs.f
  by_cases h : l.length = m.length
  · rw [if_pos (by omega)]
    exact recs_loop l m h (by omega) l [] m [] k rfl rfl rfl (by omega)
  · rw [if_neg (by omega), decide_eq_false (fun e => h (by rw [e]))]
theorem same_spec (b p e s : Int) (t : Bool) (m : Int) (l : List S71) (b' p' e' s' : Int) (t' : Bool) (m' : Int) (l' : List S71) (hl : l.length ≤ 16) (k : Nat) (hk : 1000 < k) :
    bordereauref6_Same.f k b p e s t m l b' p' e' s' t' m' l' = some (decide (b = b' ∧ p = p' ∧ e = e' ∧ s = s' ∧ t = t' ∧ m = m' ∧ l = l')) := by
  unfold bordereauref6_Same.f
  by_cases h0 : b = b'
  · rw [if_pos h0]
    by_cases h1 : p = p'
    · rw [if_pos h1]
      by_cases h2 : e = e'
      · rw [if_pos h2]
        by_cases h3 : s = s'
        · rw [if_pos h3]
          by_cases h4 : t = t'
          · rw [if_pos (by rw [h4]; exact beq_self_eq_true _)]
            by_cases h5 : m = m'
            · rw [if_pos h5, recs_spec l l' (by omega) k hk, Option.bind_some]
              congr 1
              subst h0 h1 h2 h3 h4 h5
              simp
            · rw [if_neg h5, decide_eq_false (fun h => h5 h.2.2.2.2.2.1)]
          · rw [if_neg (fun h => h4 (beq_iff_eq.1 h)), decide_eq_false (fun h => h4 h.2.2.2.2.1)]
        · rw [if_neg h3, decide_eq_false (fun h => h3 h.2.2.2.1)]
      · rw [if_neg h2, decide_eq_false (fun h => h2 h.2.2.1)]
    · rw [if_neg h1, decide_eq_false (fun h => h1 h.2.1)]
  · rw [if_neg h0, decide_eq_false (fun h => h0 h.1)]
/-! ### The tape -/
theorem next_spec (l : List Int) (hl : ∀ x ∈ l, VB.I64 x) (hlen : l.length < 4611686018427387904) (at_ n : Int) (h0 : 0 ≤ at_) (h1 : at_ ≤ (l.length : Int)) (hn : 1 ≤ n ∧ n ≤ 1000) (k : Nat) (hk : 0 < k) :
    ∃ r a, bordereaukeep_Tape_Next.f k l at_ n = some (r, a) ∧ 0 ≤ r ∧ r < n ∧ 0 ≤ a ∧ a ≤ (l.length : Int) := by
  unfold bordereaukeep_Tape_Next.f
  by_cases h : at_ ≥ (l.length : Int)
  · rw [if_pos h]; exact ⟨0, at_, rfl, by omega, by omega, h0, h1⟩
  · have hw : wrap64 (at_ + 1) = at_ + 1 := Num.w64 _ (by omega)
    have hw2 : wrap64 (at_ + 1 - 1) = at_ := by rw [Num.w64 _ (by omega)]; omega
    rw [if_neg h, if_neg (by omega), hw, hw2, if_pos h0, if_pos (by omega)]
    obtain ⟨i, rfl⟩ := Int.eq_ofNat_of_zero_le h0
    rw [VB.rd_at l i (by omega)]
    obtain ⟨r, hr, r0, r1⟩ := VB.within_spec k l[i] 1073741824 (hl _ (List.getElem_mem _)) (by decide) (by decide) hk
    rw [hr, Option.bind_some, if_neg (by omega)]
    exact ⟨_, _, rfl, Int.tmod_nonneg _ r0, Int.tmod_lt_of_pos _ (by omega), by omega, by omega⟩
theorem text_spec (l : List Int) (hl : ∀ x ∈ l, VB.I64 x) (hlen : l.length < 4611686018427387904) (at_ : Int) (h0 : 0 ≤ at_) (h1 : at_ ≤ (l.length : Int)) (k : Nat) (hk : 0 < k) :
    ∃ s a, bordereaukeep_Tape_Text.f k l at_ = some (s, a) ∧ s.size ≤ 9 ∧ 0 ≤ a ∧ a ≤ (l.length : Int) := by
  unfold bordereaukeep_Tape_Text.f
  obtain ⟨r, a, hr, r0, r1, a0, a1⟩ := next_spec l hl hlen at_ 9 h0 h1 ⟨by decide, by decide⟩ k hk
  rw [Option.bind_some, hr, Option.bind_some]
  simp only []
  rw [if_pos r0, if_pos (by simp only [List.length_cons, List.length_nil]; omega)]
  refine ⟨_, a, rfl, ?_, a0, a1⟩
  obtain ⟨i, rfl⟩ := Int.eq_ofNat_of_zero_le r0
  match i, r1 with
  | 0, _ => decide
  | 1, _ => decide
  | 2, _ => decide
  | 3, _ => decide
  | 4, _ => decide
  | 5, _ => decide
  | 6, _ => decide
  | 7, _ => decide
  | 8, _ => decide
theorem recsT_loop (l : List Int) (hl : ∀ x ∈ l, VB.I64 x) (hlen : l.length < 4611686018427387904) (n : Nat) : ∀ (k : Nat) (x : List S71) (at_ : Int), 0 ≤ at_ → at_ ≤ (l.length : Int) → n + x.length ≤ 100 → n + 1 < k → (∀ r ∈ x, r.f0.size ≤ 9 ∧ r.f1.size ≤ 9) →
    ∃ y a, bordereaukeep_Tape_Recs.l0 k x (n : Int) l at_ = some (y, a) ∧ y.length = x.length + n ∧ (∀ r ∈ y, r.f0.size ≤ 9 ∧ r.f1.size ≤ 9) ∧ 0 ≤ a ∧ a ≤ (l.length : Int) := by
  induction n with
  | zero =>
    intro k x at_ h0 h1 _ hk hx
    obtain ⟨k, rfl⟩ : ∃ m, k = m + 1 := ⟨k - 1, by omega⟩
    rw [bordereaukeep_Tape_Recs.l0, if_neg (by decide)]
    exact ⟨x, at_, rfl, rfl, hx, h0, h1⟩
  | succ n ih =>
    intro k x at_ h0 h1 h100 hk hx
    obtain ⟨k, rfl⟩ : ∃ m, k = m + 1 := ⟨k - 1, by omega⟩
    obtain ⟨s, a, hs, s9, a0, a1⟩ := text_spec l hl hlen at_ h0 h1 k (by omega)
    obtain ⟨u, c, hu, u9, c0, c1⟩ := text_spec l hl hlen a a0 a1 k (by omega)
    rw [bordereaukeep_Tape_Recs.l0, if_pos (by omega), hs, Option.bind_some]
    simp only []
    rw [hu, Option.bind_some, if_pos (by omega), show wrap64 (((n + 1 : Nat) : Int) - 1) = (n : Int) by rw [Num.w64 _ (by omega)]; omega]
    obtain ⟨y, z, hy, h2, h3, h4⟩ := ih k (x ++ [⟨s, u⟩]) c c0 c1 (by rw [List.length_append]; simp only [List.length_cons, List.length_nil]; omega) (by omega) (by
      intro r hr
      rcases List.mem_append.1 hr with h | h
      · exact hx r h
      · rw [List.mem_singleton] at h; subst h; exact ⟨s9, u9⟩)
    refine ⟨y, z, hy, ?_, h3, h4⟩
    rw [h2, List.length_append]; simp only [List.length_cons, List.length_nil]; omega
theorem recsT_spec (l : List Int) (hl : ∀ x ∈ l, VB.I64 x) (hlen : l.length < 4611686018427387904) (at_ : Int) (h0 : 0 ≤ at_) (h1 : at_ ≤ (l.length : Int)) (k : Nat) (hk : 20 < k) :
    ∃ y a, bordereaukeep_Tape_Recs.f k l at_ 4 = some (y, a) ∧ 1 ≤ y.length ∧ y.length ≤ 4 ∧ (∀ r ∈ y, r.f0.size ≤ 9 ∧ r.f1.size ≤ 9) ∧ 0 ≤ a ∧ a ≤ (l.length : Int) := by
  unfold bordereaukeep_Tape_Recs.f
  obtain ⟨r, a, hr, r0, r1, a0, a1⟩ := next_spec l hl hlen at_ 4 h0 h1 ⟨by decide, by decide⟩ k (by omega)
  rw [hr, Option.bind_some]
  simp only []
  obtain ⟨i, rfl⟩ := Int.eq_ofNat_of_zero_le r0
  obtain ⟨y, z, hy, h2, h3, h4⟩ := recsT_loop l hl hlen (1 + i) k [] a a0 a1 (by simp only [List.length_nil]; omega) (by omega) (fun _ h => by simp at h)
  refine ⟨y, z, ?_, by rw [h2]; simp only [List.length_nil]; omega, by rw [h2]; simp only [List.length_nil]; omega, h3, h4⟩
  rw [show wrap64 (1 + (i : Int)) = ((1 + i : Nat) : Int) by rw [Num.w64 _ (by omega)]; omega]
  exact hy
theorem recsB_small (l : List S71) (h : ∀ r ∈ l, r.f0.size ≤ 9 ∧ r.f1.size ≤ 9) : (recsB l).length ≤ 38 * l.length := by
  induction l with
  | nil => simp [recsB]
  | cons r l ih =>
    have := h r (by simp)
    have t0 := textS_len r.f0
    have t1 := textS_len r.f1
    have := ih (fun x hx => h x (List.mem_cons_of_mem _ hx))
    rw [recsB_cons, List.length_append, recB, List.length_append, List.length_cons]
    omega
theorem tape_spec (l : List Int) (hl : ∀ x ∈ l, VB.I64 x) (hlen : l.length < 4611686018427387904) (b : Int) (k : Nat) (hk : 20 < k) :
    ∃ p e s t m r, bordereaukeep_Tape_Batch_boxed.f k l 0 b = some (b, p, e, s, t, m, r) ∧ Fit p e s t m r := by
  have key : ∃ p e s t m r a, bordereaukeep_Tape_Batch.f k l 0 b = some (b, p, e, s, t, m, r, a) ∧ Fit p e s t m r := by
    unfold bordereaukeep_Tape_Batch.f
    obtain ⟨r1, a1, q1, r10, r11, a10, a11⟩ := next_spec l hl hlen 0 4 (by decide) (by omega) ⟨by decide, by decide⟩ k (by omega)
    rw [q1, Option.bind_some]
    simp only []
    have w1 : wrap64 (r1 - 1) = r1 - 1 := Num.w64 _ (by omega)
    rw [w1]
    by_cases h : r1 - 1 < 0
    · obtain ⟨y, a, hy, y1, y4, y9, _⟩ := recsT_spec l hl hlen a1 a10 a11 k hk
      have hs := recsB_small y y9
      rw [if_pos h, hy, Option.bind_some]
      refine ⟨_, _, _, _, _, _, _, rfl, ⟨by decide, ⟨by omega, by omega⟩, ⟨by decide, by decide⟩, by decide, by simp only []; omega, fun r hr => ⟨by have := (y9 r hr).1; omega, by have := (y9 r hr).2; omega⟩, .inl ⟨rfl, y1, .inl ⟨by omega, rfl, rfl, rfl⟩⟩, by simp only []; omega⟩⟩
    · obtain ⟨r2, a2, q2, r20, r21, a20, a21⟩ := next_spec l hl hlen a1 3 a10 a11 ⟨by decide, by decide⟩ k (by omega)
      obtain ⟨r3, a3, q3, r30, r31, a30, a31⟩ := next_spec l hl hlen a2 4 a20 a21 ⟨by decide, by decide⟩ k (by omega)
      rw [if_neg h, q2, Option.bind_some]
      simp only []
      rw [q3, Option.bind_some]
      simp only []
      by_cases h3 : r3 = 0
      · obtain ⟨r4, a4, q4, r40, r41, a40, a41⟩ := next_spec l hl hlen a3 2 a30 a31 ⟨by decide, by decide⟩ k (by omega)
        have w4 : wrap64 (1 + r4) = 1 + r4 := Num.w64 _ (by omega)
        rw [if_pos h3, q4, Option.bind_some]
        simp only []
        rw [w4]
        exact ⟨_, _, _, _, _, _, _, rfl, ⟨by omega, ⟨by omega, by omega⟩, ⟨by decide, by decide⟩, by omega, by simp, fun _ h => by simp at h, .inr ⟨by omega, by omega, by omega, rfl, rfl, rfl⟩, by simp [recsB]⟩⟩
      · obtain ⟨r4, a4, q4, r40, r41, a40, a41⟩ := next_spec l hl hlen a3 6 a30 a31 ⟨by decide, by decide⟩ k (by omega)
        obtain ⟨r5, a5, q5, r50, r51, a50, a51⟩ := next_spec l hl hlen a4 2 a40 a41 ⟨by decide, by decide⟩ k (by omega)
        obtain ⟨y, a, hy, y1, y4, y9, ya0, ya1⟩ := recsT_spec l hl hlen a5 a50 a51 k hk
        obtain ⟨r6, a6, q6, r60, r61, a60, a61⟩ := next_spec l hl hlen a 9 ya0 ya1 ⟨by decide, by decide⟩ k (by omega)
        have hs := recsB_small y y9
        have fit : ∀ s t, 0 ≤ s → s ≤ 2147483647 → Fit (r1 - 1) r2 s t 0 y := fun s t s0 s1 => ⟨by decide, ⟨by omega, by omega⟩, ⟨by omega, by omega⟩, by omega, by omega, fun r hr => ⟨by have := (y9 r hr).1; omega, by have := (y9 r hr).2; omega⟩, .inl ⟨rfl, y1, .inr ⟨by omega, by omega, s0, s1⟩⟩, by omega⟩
        rw [if_neg h3, q4, Option.bind_some]
        simp only []
        rw [q5, Option.bind_some]
        simp only []
        rw [hy, Option.bind_some]
        simp only []
        rw [q6, Option.bind_some]
        simp only []
        by_cases h6 : r6 = 0
        · obtain ⟨r7, a7, q7, r70, r71, a70, a71⟩ := next_spec l hl hlen a6 3 a60 a61 ⟨by decide, by decide⟩ k (by omega)
          have w7 : wrap64 (2147483647 - r7) = 2147483647 - r7 := Num.w64 _ (by omega)
          rw [if_pos h6, q7, Option.bind_some]
          simp only []
          rw [w7]
          exact ⟨_, _, _, _, _, _, _, rfl, fit _ _ (by omega) (by omega)⟩
        · rw [if_neg h6]
          exact ⟨_, _, _, _, _, _, _, rfl, fit _ _ (by omega) (by omega)⟩
  obtain ⟨p, e, s, t, m, r, a, h, hf⟩ := key
  refine ⟨p, e, s, t, m, r, ?_, hf⟩
  unfold bordereaukeep_Tape_Batch_boxed.f
  rw [h]; rfl
theorem outS_bytes {p e s : Int} {t : Bool} {m : Int} {l : List S71} (h : Fit p e s t m l) (b : Int) : VB.Bytes (outS b (inner p e s t m l)) := by
  unfold outS
  exact VB.bytes_app (VB.bytes_app (lng_bytes b) (be4_bytes _)) (CB.seal_bytes _ (inner_bytes h))
/-- Two batches that are right have the same bytes where they are the same, and nowhere else. -/
theorem bytes_inj {p e s : Int} {t : Bool} {m : Int} {l : List S71} {p' e' s' : Int} {t' : Bool} {m' : Int} {l' : List S71} (h : Fit p e s t m l) (h' : Fit p' e' s' t' m' l') (b b' : Int) (hb : 0 ≤ b ∧ b ≤ 1099511627776) (hb' : 0 ≤ b' ∧ b' ≤ 1099511627776) :
    (strOfNums (outS b (inner p e s t m l))).toList = (strOfNums (outS b' (inner p' e' s' t' m' l'))).toList ↔ b = b' ∧ p = p' ∧ e = e' ∧ s = s' ∧ t = t' ∧ m = m' ∧ l = l' := by
  constructor
  · intro hs
    have he := VB.str_inj _ _ (outS_bytes h b) (outS_bytes h' b') hs
    have r1 := read_spec h b hb [] (fun _ h => by simp at h) (by decide) 6000 (by decide)
    have r2 := read_spec h' b' hb' [] (fun _ h => by simp at h) (by decide) 6000 (by decide)
    rw [he] at r1
    have r3 := Option.some.inj (r1.symm.trans r2)
    simp only [Prod.mk.injEq] at r3
    exact ⟨r3.1, r3.2.1, r3.2.2.1, r3.2.2.2.1, r3.2.2.2.2.1, r3.2.2.2.2.2.1, r3.2.2.2.2.2.2.1⟩
  · intro he
    obtain ⟨rfl, rfl, rfl, rfl, rfl, rfl, rfl⟩ := he
    rfl
theorem and40 (x : Int) : 0 ≤ bits .and .i64 x 1099511627775 ∧ bits .and .i64 x 1099511627775 ≤ 1099511627776 := by
  have e : bits .and .i64 x 1099511627775 = IntKind.i64.wrap (((BitVec.ofInt 64 x) &&& (BitVec.ofInt 64 1099511627775)).toNat : Int) := rfl
  have e2 : (BitVec.ofInt 64 1099511627775).toNat = 2 ^ 40 - 1 := by decide
  rw [e, BitVec.toNat_and, e2, Nat.and_two_pow_sub_one_eq_mod]
  have h := Nat.mod_lt (BitVec.ofInt 64 x).toNat (show 0 < 2 ^ 40 by decide)
  have h2 : (2 : Nat) ^ 40 = 1099511627776 := by decide
  rw [h2] at h ⊢
  generalize (BitVec.ofInt 64 x).toNat % 1099511627776 = z at *
  have hw : IntKind.i64.wrap (z : Int) = (z : Int) := by
    rw [IntKind.wrap_i64]; omega
  rw [hw]; omega
theorem known_true (k : Nat) (hk : 200 < k) : bordereaulaw6_known.f k = some true := by
  have h : bordereaulaw6_known.f 200 = some true := by decide +kernel
  have := more_rounds bordereaulaw6_known.mono 200 (k - 200) true h
  rwa [show 200 + (k - 200) = k by omega] at this
theorem rebased : bordereaulaw6_BatchRebased.Pure := by
  intro l0 l1 a2 _ hl0 hb0 _ hl1 hb1 _
  have h0 : ∀ x ∈ l0, VB.I64 x := fun x hx => VB.i64_lit x (hb0 x hx)
  have h1 : ∀ x ∈ l1, VB.I64 x := fun x hx => VB.i64_lit x (hb1 x hx)
  obtain ⟨p, e, s, t, m, l, hq, hf⟩ := tape_spec l0 h0 (by omega) 5 6000 (by decide)
  obtain ⟨p', e', s', t', m', l', hq', hf'⟩ := tape_spec l1 h1 (by omega) 5 6000 (by decide)
  have hn := and40 a2
  refine ⟨6000, ?_⟩
  unfold bordereaulaw6_BatchRebased.f
  generalize bits .and .i64 a2 1099511627775 = n at *
  have h5 : (0 : Int) ≤ 5 ∧ (5 : Int) ≤ 1099511627776 := by decide
  have hr := read_spec hf n hn [] (fun _ h => by simp at h) (by decide) 6000 (by decide)
  rw [List.append_nil] at hr
  have hi := bytes_inj hf hf' 5 5 h5 h5
  rw [hq, Option.bind_some, hq', Option.bind_some]
  simp only []
  rw [Bytes_spec hf 5 h5 6000 (by decide), Option.bind_some, Bytes_spec hf' 5 h5 6000 (by decide), Option.bind_some]
  simp only []
  rw [rebase_spec hf 5 n h5 hn 6000 (by decide), Option.bind_some]
  simp only []
  rw [hr, Option.bind_some]
  simp only []
  rw [if_pos trivial, if_pos trivial, if_pos trivial, if_pos trivial, same_spec _ _ _ _ _ _ _ _ _ _ _ _ _ _ hf.len 6000 (by decide), Option.bind_some, if_pos (by simp), if_pos (by rw [outS_len, outS_len]), same_spec _ _ _ _ _ _ _ _ _ _ _ _ _ _ hf.len 6000 (by decide), Option.bind_some]
  rw [if_pos, known_true 6000 (by decide), Option.bind_some]
  by_cases h : (5 : Int) = 5 ∧ p = p' ∧ e = e' ∧ s = s' ∧ t = t' ∧ m = m' ∧ l = l'
  · rw [decide_eq_true h, beq_iff_eq.2 (hi.2 h)]; rfl
  · rw [decide_eq_false h, beq_eq_false_iff_ne.2 (fun h' => h (hi.1 h'))]; rfl
end Go.Proofs.Ytknclghaofmnhaa.BB
