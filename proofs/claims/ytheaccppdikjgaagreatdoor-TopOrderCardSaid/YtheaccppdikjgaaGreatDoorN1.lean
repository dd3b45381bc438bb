import Derived.Laws.BitsAllLaws
import Derived.Laws.BitsLemmas
import Derived.RowKit
import Derived.Laws.Entries
import Derived.IntWalk
namespace Num
open Go Go.RowKit
theorem w64 (n : Int) (h : -9223372036854775808 ≤ n ∧ n ≤ 9223372036854775807) : wrap64 n = n := by unfold wrap64; omega
theorem wu64 (n : Int) : IntKind.u64.wrap n = n % 18446744073709551616 := by simp [IntKind.wrap, IntKind.bits, IntKind.signed]
theorem wu8 (n : Int) : IntKind.u8.wrap n = n % 256 := IntKind.wrap_u8 n
theorem xor_ones64 (x : Nat) (hx : x < 18446744073709551616) : x ^^^ 18446744073709551615 = 18446744073709551615 - x := by
  have h := BitVec.toNat_not (x := BitVec.ofNat 64 x)
  have e : (~~~(BitVec.ofNat 64 x)) = BitVec.ofNat 64 x ^^^ BitVec.allOnes 64 := (BitVec.xor_allOnes).symm
  rw [e, BitVec.toNat_xor, BitVec.toNat_allOnes, BitVec.toNat_ofNat, Nat.mod_eq_of_lt (show x < 2 ^ 64 by simpa using hx)] at h
  simpa using h
theorem xor_neg1 (x : Int) (h : -9223372036854775808 ≤ x ∧ x ≤ 9223372036854775807) : bits .xor .i64 x (-1) = -x - 1 := by
  have e : bits .xor .i64 x (-1) = IntKind.i64.wrap (((BitVec.ofInt 64 x) ^^^ (BitVec.ofInt 64 (-1))).toNat : Int) := rfl
  have e1 : BitVec.ofInt 64 (-1) = BitVec.allOnes 64 := by decide
  rw [e, e1, BitVec.xor_allOnes, BitVec.toNat_not, BitVec.toNat_ofInt, IntKind.wrap_i64]
  have h64 : ((2 ^ 64 : Nat) : Int) = 18446744073709551616 := by decide
  have h65 : (2 ^ 64 : Nat) = 18446744073709551616 := by decide
  rw [h64, h65]
  omega
theorem xor_0 (x : Int) (h : -9223372036854775808 ≤ x ∧ x ≤ 9223372036854775807) : bits .xor .i64 x 0 = x := by
  have e : bits .xor .i64 x 0 = IntKind.i64.wrap (((BitVec.ofInt 64 x) ^^^ (BitVec.ofInt 64 0)).toNat : Int) := rfl
  have e1 : BitVec.ofInt 64 0 = 0#64 := by decide
  rw [e, e1, BitVec.xor_zero, BitVec.toNat_ofInt, IntKind.wrap_i64]
  have h64 : ((2 ^ 64 : Nat) : Int) = 18446744073709551616 := by decide
  rw [h64]
  omega
def zig (n : Int) : Int := if 0 ≤ n then 2 * n else -2 * n - 1
def zag (u : Int) : Int := if u % 2 = 0 then u / 2 else -(u / 2) - 1
theorem zag_zig (n : Int) : zag (zig n) = n := by unfold zag zig; split <;> split <;> omega
theorem zig_zag (u : Int) (h : 0 ≤ u) : zig (zag u) = u := by unfold zag zig; split <;> split <;> omega
theorem zig_range (n : Int) (h : -9223372036854775808 ≤ n ∧ n ≤ 9223372036854775807) : 0 ≤ zig n ∧ zig n < 18446744073709551616 := by unfold zig; split <;> omega
theorem zag_range (u : Int) (h : 0 ≤ u ∧ u < 18446744073709551616) : -9223372036854775808 ≤ zag u ∧ zag u ≤ 9223372036854775807 := by unfold zag; split <;> omega
theorem xor_u64_ones (x : Int) (h0 : 0 ≤ x) (h1 : x < 18446744073709551616) : bits .xor .u64 x 18446744073709551615 = 18446744073709551615 - x := by
  rw [u64_xor x 18446744073709551615 h0 h1 (by decide) (by decide)]
  have : (18446744073709551615 : Int).toNat = 18446744073709551615 := by decide
  rw [this, xor_ones64 _ (by omega)]; omega
theorem xor_u64_0 (x : Int) (h0 : 0 ≤ x) (h1 : x < 18446744073709551616) : bits .xor .u64 x 0 = x := by
  rw [u64_xor x 0 h0 h1 (by decide) (by decide)]
  simp; omega
theorem zig_ref (n : Int) (h : -9223372036854775808 ≤ n ∧ n ≤ 9223372036854775807) : bits .xor .u64 (IntKind.u64.wrap (wrap64 (n * 2))) (IntKind.u64.wrap (n / 9223372036854775808)) = zig n := by
  unfold zig
  by_cases h0 : 0 ≤ n
  · rw [if_pos h0, show n / 9223372036854775808 = 0 by omega, show IntKind.u64.wrap 0 = 0 from rfl, wu64]
    rw [xor_u64_0 _ (by omega) (by omega)]; unfold wrap64; omega
  · rw [if_neg h0, show n / 9223372036854775808 = -1 by omega, show IntKind.u64.wrap (-1) = 18446744073709551615 by rw [wu64]; rfl, wu64]
    rw [xor_u64_ones _ (by omega) (by omega)]; unfold wrap64; omega
theorem zig_own (n : Int) (h : -9223372036854775808 ≤ n ∧ n ≤ 9223372036854775807) : bits .xor .u64 (IntKind.u64.wrap (IntKind.u64.wrap n * 2)) (IntKind.u64.wrap (n / 9223372036854775808)) = zig n := by
  rw [← zig_ref n h]
  congr 1
  simp only [wu64]; unfold wrap64; omega
theorem and1_u64 (u : Int) (h0 : 0 ≤ u) (h1 : u < 18446744073709551616) : bits .and .u64 u 1 = u % 2 := by
  rw [u64_and u 1 h0 h1 (by decide) (by decide)]
  have : (1 : Int).toNat = 1 := rfl
  rw [this, nat_mask1]; omega
theorem zag_own (u : Int) (h0 : 0 ≤ u) (h1 : u < 18446744073709551616) : bits .xor .i64 (wrap64 (u / 2)) (wrap64 (-(wrap64 (bits .and .u64 u 1)))) = zag u := by
  rw [and1_u64 u h0 h1, w64 (u / 2) (by omega), w64 (u % 2) (by omega), w64 (-(u % 2)) (by omega)]
  unfold zag
  by_cases h : u % 2 = 0
  · rw [if_pos h, h]; exact xor_0 _ (by omega)
  · rw [if_neg h, show u % 2 = 1 by omega]; exact xor_neg1 _ (by omega)
theorem and127_u8 (c : Int) (h0 : 0 ≤ c) (h1 : c < 256) : bits .and .u8 c 127 = c % 128 := by
  rw [u8_and c 127 h0 h1 (by decide) (by decide)]
  have : (127 : Int).toNat = 127 := rfl
  rw [this, nat_mask7]; omega
theorem nat_low7 : ∀ c : Nat, c < 256 → c &&& 18446744073709551487 = c % 128 := by decide +kernel
theorem andNot128 (c : Int) (h0 : 0 ≤ c) (h1 : c < 256) : bits .andNot .u64 c 128 = c % 128 := by
  rw [u64_andNot c 128 h0 (by omega) (by decide) (by decide)]
  have : (18446744073709551615 - (128 : Int).toNat) = 18446744073709551487 := by decide
  rw [this, nat_low7 _ (by omega)]; omega
theorem or128_u8 (c : Int) (h0 : 0 ≤ c) (h1 : c < 256) : bits .or .u8 c 128 = c % 128 + 128 := by
  have g : ∀ n : Nat, n < 256 → n ||| 128 = n % 128 + 128 := by decide +kernel
  rw [u8_or c 128 h0 h1 (by decide) (by decide)]
  have : (128 : Int).toNat = 128 := rfl
  rw [this, g _ (by omega)]; omega
theorem or_u64 (i : Nat) (x y : Int) (hx0 : 0 ≤ x) (hx : x < 2 ^ i) (hy0 : 0 ≤ y) (hy : y % 2 ^ i = 0) (hx1 : x < 18446744073709551616) (hy1 : y < 18446744073709551616) : bits .or .u64 x y = x + y := by
  rw [u64_or x y hx0 hx1 hy0 hy1]
  obtain ⟨a, rfl⟩ := Int.eq_ofNat_of_zero_le hx0
  obtain ⟨b, rfl⟩ := Int.eq_ofNat_of_zero_le hy0
  have h1 : a < 2 ^ i := by exact_mod_cast hx
  have h2 : b % 2 ^ i = 0 := by exact_mod_cast hy
  rw [Int.toNat_natCast, Int.toNat_natCast, Nat.or_comm, nat_join i b a h2 h1]
  omega
end Num
namespace Vt
def enc : Nat → Int → List Int
  | 0, u => [u]
  | f + 1, u => if u ≥ 128 then (u % 128 + 128) :: enc f (u / 128) else [u]
def val : List Int → Int
  | [] => 0
  | c :: r => c % 128 + 128 * val r
theorem enc_ne (f : Nat) (u : Int) : enc f u ≠ [] := by
  cases f with
  | zero => simp [enc]
  | succ f => unfold enc; split <;> simp
theorem pow128 (f : Nat) : (128 : Int) ^ (f + 1) = 128 * 128 ^ f := by rw [Int.pow_succ, Int.mul_comm]
theorem pow_pos (f : Nat) : (0 : Int) < 128 ^ f := Int.pow_pos (by decide)
theorem val_enc (f : Nat) : ∀ u : Int, 0 ≤ u → u < 128 ^ (f + 1) → val (enc f u) = u := by
  induction f with
  | zero => intro u h0 h1; rw [pow128] at h1; simp only [enc, val]; have : (128 : Int) ^ 0 = 1 := rfl; omega
  | succ f ih =>
    intro u h0 h1
    rw [pow128] at h1
    unfold enc
    split
    · rw [val, ih (u / 128) (by omega) (by omega)]; omega
    · simp only [val]; omega
theorem enc_bytes (f : Nat) : ∀ u : Int, 0 ≤ u → u < 128 ^ (f + 1) → ∀ c ∈ enc f u, 0 ≤ c ∧ c < 256 := by
  induction f with
  | zero => intro u h0 h1 c hc; rw [pow128] at h1; have : (128 : Int) ^ 0 = 1 := rfl; simp only [enc, List.mem_singleton] at hc; omega
  | succ f ih =>
    intro u h0 h1 c hc
    rw [pow128] at h1
    unfold enc at hc
    split at hc
    · rcases List.mem_cons.1 hc with rfl | hc
      · omega
      · exact ih (u / 128) (by omega) (by omega) c hc
    · simp only [List.mem_singleton] at hc; omega
theorem enc_len (f : Nat) : ∀ (i : Nat) (u : Int), 0 ≤ u → u < 128 ^ (i + 1) → (enc f u).length ≤ i + 1 := by
  induction f with
  | zero => intro i u _ _; simp [enc]
  | succ f ih =>
    intro i u h0 h1
    unfold enc
    split
    · cases i with
      | zero => rw [pow128] at h1; have : (128 : Int) ^ 0 = 1 := rfl; omega
      | succ i =>
        rw [pow128] at h1
        have := ih i (u / 128) (by omega) (by omega)
        simp only [List.length_cons]; omega
    · simp
theorem enc_len' (f : Nat) (u : Int) : (enc f u).length ≤ f + 1 := by
  induction f generalizing u with
  | zero => simp [enc]
  | succ f ih => unfold enc; split
                 · have := ih (u / 128); simp only [List.length_cons]; omega
                 · simp
theorem val_nonneg (l : List Int) : 0 ≤ val l := by
  induction l with
  | nil => simp [val]
  | cons c r ih => simp only [val]; omega
theorem val_lt (l : List Int) : val l < 128 ^ l.length := by
  induction l with
  | nil => simp [val]
  | cons c r ih => simp only [val, List.length_cons]; rw [pow128]; omega
theorem val_append (l m : List Int) : val (l ++ m) = val l + 128 ^ l.length * val m := by
  induction l with
  | nil => simp [val]
  | cons c r ih =>
    simp only [List.cons_append, val, List.length_cons, ih]
    rw [pow128, Int.mul_add, ← Int.mul_assoc]; omega
theorem val_pos (c : Int) (h0 : 0 < c) (h1 : c < 128) (pre : List Int) : 128 ^ pre.length ≤ val (pre ++ [c]) := by
  rw [val_append]
  have h2 := val_nonneg pre
  have h3 : val [c] = c := by simp only [val]; omega
  rw [h3]
  have h4 := pow_pos pre.length
  have h5 : (128 : Int) ^ pre.length * 1 ≤ 128 ^ pre.length * c := Int.mul_le_mul_of_nonneg_left (by omega) (by omega)
  omega
theorem enc_val (f : Nat) : ∀ (pre : List Int) (c : Int), (∀ x ∈ pre, 128 ≤ x ∧ x < 256) → 0 ≤ c → c < 128 → (c ≠ 0 ∨ pre = []) → pre.length ≤ f → enc f (val (pre ++ [c])) = pre ++ [c] := by
  induction f with
  | zero =>
    intro pre c hp h0 h1 hc hl
    have : pre = [] := List.eq_nil_of_length_eq_zero (by omega)
    subst this
    simp only [enc, List.nil_append, val]; congr 1; omega
  | succ f ih =>
    intro pre c hp h0 h1 hc hl
    cases pre with
    | nil => simp only [List.nil_append, val, enc]; rw [if_neg (by omega)]; congr 1; omega
    | cons x r =>
      have hx := hp x (List.mem_cons_self ..)
      have hne : c ≠ 0 := by rcases hc with h | h; exact h; cases h
      have hpos : 1 ≤ val (r ++ [c]) := by
        have := val_pos c (by omega) h1 r
        have := pow_pos r.length
        omega
      simp only [List.cons_append, val, enc]
      rw [if_pos (by omega)]
      have e1 : (x % 128 + 128 * val (r ++ [c])) % 128 + 128 = x := by omega
      have e2 : (x % 128 + 128 * val (r ++ [c])) / 128 = val (r ++ [c]) := by omega
      rw [e1, e2, ih r c (fun y hy => hp y (List.mem_cons_of_mem _ hy)) h0 h1 (.inl hne) (by simpa using hl)]
theorem enc_shape (f : Nat) : ∀ u : Int, 0 ≤ u → u < 128 ^ (f + 1) → ∃ pre c, enc f u = pre ++ [c] ∧ (∀ x ∈ pre, 128 ≤ x ∧ x < 256) ∧ 0 ≤ c ∧ c < 128 ∧ (c ≠ 0 ∨ pre = []) := by
  induction f with
  | zero => intro u h0 h1; rw [pow128] at h1; have : (128 : Int) ^ 0 = 1 := rfl; exact ⟨[], u, rfl, fun x hx => by simp at hx, h0, by omega, .inr rfl⟩
  | succ f ih =>
    intro u h0 h1
    rw [pow128] at h1
    unfold enc
    split
    · obtain ⟨pre, c, he, hp, hc0, hc1, hz⟩ := ih (u / 128) (by omega) (by omega)
      refine ⟨(u % 128 + 128) :: pre, c, by rw [he]; rfl, fun x hx => ?_, hc0, hc1, .inl ?_⟩
      · rcases List.mem_cons.1 hx with rfl | hx
        · omega
        · exact hp x hx
      · rcases hz with h | h
        · exact h
        · subst h
          have hv := val_enc f (u / 128) (by omega) (by omega)
          rw [he] at hv
          simp only [List.nil_append, val] at hv
          omega
    · exact ⟨[], u, rfl, fun x hx => by simp at hx, h0, by omega, .inr rfl⟩
def dec : List Int → Nat → Int → Option (Int × Nat)
  | [], _, _ => none
  | c :: r, i, u => if i ≥ 10 then none else if i = 9 ∧ c % 128 ≥ 2 then none else if c ≥ 128 then dec r (i + 1) (u + 128 ^ i * (c % 128)) else if c = 0 ∧ i > 0 then none else some (u + 128 ^ i * (c % 128), i + 1)
theorem dec_cont (r : List Int) : ∀ (pre : List Int) (i : Nat) (u : Int), (∀ x ∈ pre, 128 ≤ x ∧ x < 256) → i + pre.length ≤ 9 → dec (pre ++ r) i u = dec r (i + pre.length) (u + 128 ^ i * val pre) := by
  intro pre
  induction pre with
  | nil => intro i u _ _; simp [val]
  | cons x p ih =>
    intro i u hp hl
    have hx := hp x (List.mem_cons_self ..)
    simp only [List.length_cons] at hl
    rw [List.cons_append, dec, if_neg (by omega), if_neg (by omega), if_pos (by omega), ih (i + 1) _ (fun y hy => hp y (List.mem_cons_of_mem _ hy)) (by omega)]
    have e : i + 1 + p.length = i + (x :: p).length := by simp only [List.length_cons]; omega
    rw [e]
    congr 1
    simp only [val]
    rw [pow128, Int.mul_add, Int.add_assoc]
    congr 2
    rw [Int.mul_comm 128, Int.mul_assoc]
theorem dec_enc (u : Int) (h0 : 0 ≤ u) (h1 : u < 18446744073709551616) (r : List Int) : dec (enc 9 u ++ r) 0 0 = some (u, (enc 9 u).length) := by
  have hp : u < 128 ^ (9 + 1) := Int.lt_trans h1 (by decide)
  obtain ⟨pre, c, he, hpre, hc0, hc1, hz⟩ := enc_shape 9 u h0 hp
  have hv := val_enc 9 u h0 hp
  have hl := enc_len 9 9 u h0 hp
  rw [he] at hv hl ⊢
  rw [List.length_append, List.length_singleton] at hl
  rw [List.append_assoc, dec_cont _ pre 0 0 hpre (by omega), List.singleton_append, dec]
  have hvc : val [c] = c := by simp only [val]; omega
  rw [val_append, hvc] at hv
  have hvp := val_nonneg pre
  have hpp := pow_pos pre.length
  rw [if_neg (by omega), if_neg, if_neg (by omega), if_neg]
  · rw [show c % 128 = c by omega, List.length_append, List.length_singleton]
    have : (128 : Int) ^ 0 = 1 := rfl
    rw [this, Int.one_mul, Int.zero_add, Nat.zero_add, hv]
  · rintro ⟨rfl, hi⟩
    rcases hz with h | h
    · exact h rfl
    · subst h; simp at hi
  · rintro ⟨hi, hc⟩
    rw [Nat.zero_add] at hi
    rw [hi] at hv
    have : (128 : Int) ^ 9 = 9223372036854775808 := by decide
    rw [this] at hv
    omega
theorem dec_none (pre : List Int) : ∀ (i : Nat) (u : Int), (∀ x ∈ pre, 128 ≤ x ∧ x < 256) → dec pre i u = none := by
  induction pre with
  | nil => intro i u _; rfl
  | cons x p ih =>
    intro i u hp
    have hx := hp x (List.mem_cons_self ..)
    rw [dec]
    split
    · rfl
    · split
      · rfl
      · rw [if_pos (by omega)]; exact ih _ _ (fun y hy => hp y (List.mem_cons_of_mem _ hy))
theorem val_single (c : Int) (h0 : 0 ≤ c) (h1 : c < 128) : val [c] = c := by simp only [val]; omega
theorem pow_mono {i j : Nat} (h : i ≤ j) : (128 : Int) ^ i ≤ 128 ^ j := by
  have h2 : 128 ^ i ≤ 128 ^ j := Nat.pow_le_pow_right (by decide) h
  exact_mod_cast h2
theorem enc_short (pre : List Int) (h : pre ≠ []) : enc 9 (val (pre ++ [0])) ≠ pre ++ [0] := by
  intro he
  cases hl : pre.length with
  | zero => exact h (List.eq_nil_of_length_eq_zero hl)
  | succ i =>
    have e : val (pre ++ [0]) = val pre := by rw [val_append]; simp [val]
    have h1 := val_lt pre
    rw [hl] at h1
    have h2 := enc_len 9 i (val pre) (val_nonneg pre) h1
    rw [e] at he
    rw [he, List.length_append, List.length_singleton] at h2
    omega
theorem dec_last (pre : List Int) (c : Int) (r : List Int) (hp : ∀ x ∈ pre, 128 ≤ x ∧ x < 256) (hl : pre.length ≤ 9) (h0 : 0 ≤ c) (h1 : c < 128) (u : Int) (hu : u = (val pre + 128 ^ pre.length * c) % 18446744073709551616) :
    (enc 9 u = pre ++ [c] → dec (c :: r) pre.length (val pre) = some (u, pre.length + 1)) ∧ (enc 9 u ≠ pre ++ [c] → dec (c :: r) pre.length (val pre) = none) := by
  have hv : val (pre ++ [c]) = val pre + 128 ^ pre.length * c := by rw [val_append, val_single c h0 h1]
  rw [← hv] at hu
  have hn := val_nonneg (pre ++ [c])
  have hc : c % 128 = c := by omega
  have hz : c = 0 → pre.length > 0 → enc 9 u ≠ pre ++ [c] ∧ u = val pre := by
    intro hc0 hpl
    subst hc0
    have e : val (pre ++ [0]) = val pre := by rw [val_append]; simp [val]
    have h3 : val pre < 18446744073709551616 := by
      have h4 := val_lt pre
      have h5 : (128 : Int) ^ pre.length ≤ 128 ^ 9 := pow_mono hl
      have h6 : (128 : Int) ^ 9 = 9223372036854775808 := by decide
      omega
    have h4 := val_nonneg pre
    have hu' : u = val (pre ++ [0]) := by rw [hu, e]; omega
    refine ⟨?_, by rw [hu', e]⟩
    rw [hu']
    exact enc_short pre (fun h => by rw [h] at hpl; simp at hpl)
  rw [dec, if_neg (by omega), if_neg (by omega : ¬ c ≥ 128), hc]
  by_cases h9 : pre.length = 9 ∧ c ≥ 2
  · rw [if_pos h9]
    refine ⟨fun he => ?_, fun _ => rfl⟩
    have hu2 : 0 ≤ u ∧ u < 18446744073709551616 := by omega
    have h3 := val_enc 9 u hu2.1 (Int.lt_trans hu2.2 (by decide))
    rw [he, hv] at h3
    rw [h9.1] at h3
    have h6 : (128 : Int) ^ 9 = 9223372036854775808 := by decide
    have h7 := val_nonneg pre
    rw [h6] at h3
    omega
  · rw [if_neg h9]
    have hsmall : val (pre ++ [c]) < 18446744073709551616 := by
      rw [hv]
      have h4 := val_lt pre
      have h6 : (128 : Int) ^ 9 = 9223372036854775808 := by decide
      by_cases h8 : pre.length = 9
      · rw [h8] at h4 ⊢; rw [h6] at h4 ⊢; omega
      · have h5 : (128 : Int) ^ (pre.length + 1) ≤ 128 ^ 9 := pow_mono (by omega)
        rw [pow128, h6] at h5
        have h7 : (128 : Int) ^ pre.length * c ≤ 128 ^ pre.length * 127 := Int.mul_le_mul_of_nonneg_left (by omega) (Int.le_of_lt (pow_pos _))
        omega
    have hu' : u = val (pre ++ [c]) := by omega
    by_cases hc0 : c = 0 ∧ pre.length > 0
    · rw [if_pos hc0]
      exact ⟨fun he => absurd he (hz hc0.1 hc0.2).1, fun _ => rfl⟩
    · rw [if_neg hc0]
      refine ⟨fun _ => by rw [hu', hv], fun he => absurd ?_ he⟩
      rw [hu']
      refine enc_val 9 pre c hp h0 h1 ?_ hl
      by_cases h : c = 0
      · right; exact List.eq_nil_of_length_eq_zero (by omega)
      · left; exact h
end Vt
