import Derived.Test.YtknclghaofmnhaaII9
namespace Go.Abs
open Go Go.RowKit
set_option linter.unusedVariables false
set_option linter.unusedSimpArgs false

theorem or_comm64 (a b : Int) : bits .or .u64 a b = bits .or .u64 b a := by
  show IntKind.u64.wrap _ = IntKind.u64.wrap _
  rw [BitVec.or_comm]
theorem bk_step (x c : Int) (h0 : 0 ≤ x) (h1 : x < 72057594037927936) (c0 : 0 ≤ c) (c1 : c < 256) : bits .or .u64 (shl .u64 x 8) (IntKind.u64.wrap c) = x * 256 + c := by
  have e1 : shl .u64 x 8 = x * 256 := by
    unfold shl
    rw [Num.wu64]
    have : (2 : Int) ^ (min (8 : Int).toNat IntKind.u64.bits) = 256 := by decide
    rw [this]; omega
  have e2 : IntKind.u64.wrap c = c := by rw [Num.wu64]; omega
  rw [e1, e2, or_comm64, Num.or_u64 8 c (x * 256) c0 (by show c < 256; omega) (by omega) (by show x * 256 % 256 = 0; omega) (by omega) (by omega)]
  omega
theorem bk_bes (n : Int) : ∀ (d i : Nat), i + d = 8 → bk (bes n i) ((n / 2 ^ (8 * d)) % 2 ^ (8 * i)) = n % 18446744073709551616 := by
  intro d
  induction d with
  | zero =>
    intro i hi
    have : i = 8 := by omega
    subst this
    have : bes n 8 = [] := by simp [bes]
    rw [this, bk]
    simp
  | succ d ih =>
    intro i hi
    have hb : bes n i = be n i :: bes n (i + 1) := by
      unfold bes
      rw [List.drop_eq_getElem_cons (by simp; omega)]
      simp
    have hbe : be n i = (n / 2 ^ (8 * d)) % 256 := by unfold be; rw [show 7 - i = d by omega]
    have hp : (2 : Int) ^ (8 * (d + 1)) = 2 ^ (8 * d) * 256 := by rw [show 8 * (d + 1) = 8 * d + 8 by omega, Int.pow_add]; rfl
    have hp2 : (2 : Int) ^ (8 * (i + 1)) = 2 ^ (8 * i) * 256 := by rw [show 8 * (i + 1) = 8 * i + 8 by omega, Int.pow_add]; rfl
    have hpos : (0 : Int) < 2 ^ (8 * d) := Int.pow_pos (by decide)
    have hposi : (0 : Int) < 2 ^ (8 * i) := Int.pow_pos (by decide)
    have hle : (2 : Int) ^ (8 * i) ≤ 72057594037927936 := by
      have : (2 : Int) ^ (8 * i) ≤ 2 ^ 56 := by
        have h := Nat.pow_le_pow_right (n := 2) (by decide) (show 8 * i ≤ 56 by omega)
        have h2 : ((2 ^ (8 * i) : Nat) : Int) ≤ ((2 ^ 56 : Nat) : Int) := by omega
        simpa using h2
      exact this
    have hx0 := Int.emod_nonneg (n / 2 ^ (8 * (d + 1))) (by omega : (2 : Int) ^ (8 * i) ≠ 0)
    have hx1 := Int.emod_lt_of_pos (n / 2 ^ (8 * (d + 1))) hposi
    rw [hb, bk, hbe, bk_step _ _ hx0 (by omega) (by omega) (by omega)]
    have key : n / 2 ^ (8 * (d + 1)) % 2 ^ (8 * i) * 256 + n / 2 ^ (8 * d) % 256 = n / 2 ^ (8 * d) % 2 ^ (8 * (i + 1)) := by
      rw [hp, ← Int.ediv_ediv_of_nonneg (Int.le_of_lt hpos), hp2]
      generalize n / 2 ^ (8 * d) = m
      generalize (2 : Int) ^ (8 * i) = P at hposi
      have a1 : m = (m / 256 % P * 256 + m % 256) + P * 256 * (m / 256 / P) := by
        have b1 := Int.emod_add_mul_ediv m 256
        have b2 := Int.emod_add_mul_ediv (m / 256) P
        have b3 : P * 256 * (m / 256 / P) = (P * (m / 256 / P)) * 256 := by rw [Int.mul_assoc, Int.mul_comm 256, ← Int.mul_assoc]
        rw [b3]; omega
      have c1 := Int.emod_nonneg (m / 256) (by omega : P ≠ 0)
      have c2 := Int.emod_lt_of_pos (m / 256) hposi
      have a2 : m % (P * 256) = (m / 256 % P * 256 + m % 256) % (P * 256) := by
        conv => lhs; rw [a1]
        rw [Int.add_mul_emod_self_left]
      rw [a2, Int.emod_eq_of_lt (a := m / 256 % P * 256 + m % 256) (by omega) (by omega)]
    rw [key]
    exact ih (i + 1) (by omega)
theorem bk_bes0 (n : Int) (hn : I64 n) : IntKind.i64.wrap (bk (bes n 0) 0) = n := by
  have h := bk_bes n 8 0 rfl
  have e : n / 2 ^ (8 * 8) % 2 ^ (8 * 0) = 0 := by show n / 18446744073709551616 % 1 = 0; omega
  rw [e] at h
  rw [h, IntKind.wrap_i64]
  unfold I64 at hn
  omega
theorem backV_bes (n : Int) (hn : I64 n) (r : List Int) : backV (bes n 0 ++ r) = .tuple [.int .i64 n, .bool true] := by
  unfold backV
  have hl := bes_len n
  rw [if_neg (by rw [List.length_append]; omega), List.take_append_of_le_length (by omega), List.take_of_length_le (by omega), bk_bes0 n hn]
end Go.Abs
