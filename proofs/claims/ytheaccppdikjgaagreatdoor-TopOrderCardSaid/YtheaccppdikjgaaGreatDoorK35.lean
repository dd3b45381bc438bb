import Derived.Test.YtheaccppdikjgaaGreatDoorK34
namespace Go.Abs
open Go Go.RowKit
set_option linter.unusedVariables false
set_option linter.unusedSimpArgs false
theorem and_low (a : Int) (k : Nat) (hk : k < 63) : bits .and .i64 a (2 ^ k - 1) = a % 2 ^ k := by
  have hp : (2 : Nat) ^ k < 2 ^ 63 := Nat.pow_lt_pow_right (by decide) hk
  have hp0 : 0 < (2 : Nat) ^ k := Nat.pow_pos (by decide)
  have hm : ((2 : Int) ^ k - 1) = ((2 ^ k - 1 : Nat) : Int) := by
    rw [Int.natCast_sub (by omega)]; simp
  have e1 : (BitVec.ofInt 64 a &&& BitVec.ofInt 64 ((2 : Int) ^ k - 1)).toNat = (a % 18446744073709551616).toNat % 2 ^ k := by
    rw [BitVec.toNat_and, BitVec.toNat_ofInt, BitVec.toNat_ofInt, hm]
    have : (((2 ^ k - 1 : Nat) : Int) % ((2 ^ 64 : Nat) : Int)).toNat = 2 ^ k - 1 := by omega
    rw [this, Nat.and_two_pow_sub_one_eq_mod]
    rfl
  show IntKind.i64.wrap ((BitVec.ofInt 64 a &&& BitVec.ofInt 64 ((2 : Int) ^ k - 1)).toNat : Int) = _
  rw [e1]
  have h2 : (((a % 18446744073709551616).toNat % 2 ^ k : Nat) : Int) = a % 2 ^ k := by
    rw [Int.natCast_emod, Int.toNat_of_nonneg (by omega)]
    have : ((2 ^ k : Nat) : Int) = (2 : Int) ^ k := by simp
    rw [this]
    apply Int.emod_emod_of_dvd
    have h3 : (18446744073709551616 : Int) = 2 ^ k * 2 ^ (64 - k) := by
      rw [← Int.pow_add, show k + (64 - k) = 64 by omega]; rfl
    exact ⟨_, h3⟩
  rw [h2]
  have h3 : 0 ≤ a % 2 ^ k := Int.emod_nonneg _ (by have : ((2 ^ k : Nat) : Int) = (2 : Int) ^ k := by simp
                                                   omega)
  have h4 : a % 2 ^ k < 2 ^ k := Int.emod_lt_of_pos _ (Int.pow_pos (by decide))
  have h5 : (2 : Int) ^ k < 9223372036854775808 := by have : ((2 ^ k : Nat) : Int) = (2 : Int) ^ k := by simp
                                                      omega
  exact wrap_id (by unfold I64; omega)
theorem and_seq (a : Int) : bits .and .i64 a 2147483647 = a % 2147483648 := and_low a 31 (by decide)
theorem and_16 (a : Int) : bits .and .i64 a 65535 = a % 65536 := and_low a 16 (by decide)
theorem and_40 (a : Int) : bits .and .i64 a 1099511627775 = a % 1099511627776 := and_low a 40 (by decide)
theorem and_7 (a : Int) : bits .and .i64 a 127 = a % 128 := and_low a 7 (by decide)
theorem and_6 (a : Int) : bits .and .i64 a 63 = a % 64 := and_low a 6 (by decide)
theorem and_5 (a : Int) : bits .and .i64 a 31 = a % 32 := and_low a 5 (by decide)
theorem and_4 (a : Int) : bits .and .i64 a 15 = a % 16 := and_low a 4 (by decide)
theorem and_3 (a : Int) : bits .and .i64 a 7 = a % 8 := and_low a 3 (by decide)
theorem and_2 (a : Int) : bits .and .i64 a 3 = a % 4 := and_low a 2 (by decide)
theorem and_1 (a : Int) : bits .and .i64 a 1 = a % 2 := and_low a 1 (by decide)
def withinQ (n lo hi : Int) : Int :=
  if n ≥ lo ∧ n ≤ hi then n else if n.tmod (hi - lo + 1) < 0 then lo + (n.tmod (hi - lo + 1) + hi - lo + 1) else lo + n.tmod (hi - lo + 1)
theorem withinQ_range (n lo hi : Int) (h : lo ≤ hi) : lo ≤ withinQ n lo hi ∧ withinQ n lo hi ≤ hi := by
  unfold withinQ
  split
  · omega
  · have h1 : n.tmod (hi - lo + 1) < hi - lo + 1 := Int.tmod_lt_of_pos n (by omega)
    have h2 : -(hi - lo + 1) < n.tmod (hi - lo + 1) := by
      have := Int.tmod_lt_of_pos (-n) (show 0 < hi - lo + 1 by omega)
      rw [Int.neg_tmod] at this; omega
    split <;> omega
theorem e_mk1 (c : CallF) (sz z bytes) (l : Int) (H) : ev c (.mkslice sz z bytes) [.int .i64 l, .int .i64 l] H = gd (decide (0 ≤ l)) (gd (decide (l * (bytes : Int) ≤ 140737488355328)) (some (.list sz (List.replicate l.toNat z) .full, H))) := by
  simp only [ev, gd]
  by_cases h1 : 0 ≤ l <;> by_cases h2 : l * (bytes : Int) ≤ 140737488355328 <;> simp [h1, h2, maxBytes]
theorem e_nilC (c : CallF) (i o H) : ev c .nilCheck [.ptr i o] H = some (.ptr i o, H) := rfl
theorem e_nilR (c : CallF) (cs H) : ev c .nilCheck [.rptr cs] H = some (.rptr cs, H) := rfl
theorem b_pn (i o) : evBin .eql .ptr (.ptr i o) .nilp = some (.bool false) := rfl
theorem b_np (i o) : evBin .eql .ptr .nilp (.ptr i o) = some (.bool false) := rfl
theorem b_nn : evBin .eql .ptr .nilp .nilp = some (.bool true) := rfl
theorem b_pnN (i o) : evBin .neq .ptr (.ptr i o) .nilp = some (.bool true) := rfl
theorem b_npN (i o) : evBin .neq .ptr .nilp (.ptr i o) = some (.bool true) := rfl
theorem b_nnN : evBin .neq .ptr .nilp .nilp = some (.bool false) := rfl
attribute [go_sem] e_nilC e_nilR b_pn b_np b_nn b_pnN b_npN b_nnN
attribute [go_sem] e_mk1
end Go.Abs
