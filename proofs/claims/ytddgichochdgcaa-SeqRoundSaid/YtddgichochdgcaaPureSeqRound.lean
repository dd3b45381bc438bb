/- Whatever the three numbers are, SeqRound answers true: a seq that goes on by steps and back comes home, a gap is the steps between; no condition. -/
import Derived.Test.YtddgichochdgcaaPRx1
namespace Go.Proofs.Ytddgichochdgcaa.PureSeqRound
open Go.RowKit Go.Proofs.Ytddgichochdgcaa.PR Go.Proofs.YtddgichochdgcaaV.PrintWords Go.Proofs.YtddgichochdgcaaV.PrintLast
theorem tm (a : Int) (m : Int) : Int.tmod a m = if 0 ≤ a then a % m else -((-a) % m) := by
  split
  · exact Int.tmod_eq_emod_of_nonneg (by omega)
  · rw [← Int.tmod_eq_emod_of_nonneg (by omega : 0 ≤ -a), Int.neg_tmod, Int.neg_neg]
theorem w64 (n : Int) (h : -9223372036854775808 ≤ n ∧ n ≤ 9223372036854775807) : wrap64 n = n := by unfold wrap64; omega
theorem tmM (a : Int) : ∃ r, Int.tmod a 2147483648 = r ∧ r % 2147483648 = a % 2147483648 ∧ -2147483648 < r ∧ r < 2147483648 ∧ (0 ≤ a → r = a % 2147483648) := by
  refine ⟨_, rfl, ?_⟩
  rw [tm]; split <;> omega
theorem add_core (x k : Int) (h0 : 0 ≤ x) (h1 : x ≤ 2147483647) :
   Int.tmod (wrap64 ((Int.tmod (wrap64 (x + (Int.tmod k 2147483648))) 2147483648) + 2147483648)) 2147483648 = (x + k) % 2147483648 := by
  obtain ⟨r, e, h⟩ := tmM k
  rw [e, w64 (x + r) (by omega)]
  obtain ⟨s, e, h'⟩ := tmM (x + r)
  rw [e, w64 _ (by omega)]
  obtain ⟨t, e, h''⟩ := tmM (s + 2147483648)
  rw [e]; omega
theorem gap_core (a b : Int) (h0 : 0 ≤ a) (h1 : a ≤ 2147483647) (h2 : 0 ≤ b) (h3 : b ≤ 2147483647) :
  Int.tmod (wrap64 ((wrap64 (b - a)) + 2147483648)) 2147483648 = (b - a) % 2147483648 := by
  rw [w64 (b - a) (by omega), w64 _ (by omega)]
  obtain ⟨t, e, h''⟩ := tmM (b - a + 2147483648)
  rw [e]; omega
theorem and_mask (x : Int) (i : Nat) (hi : i ≤ 62) : Go.bits .and .i64 x ((2 ^ i - 1 : Nat) : Int) = x % ((2 ^ i : Nat) : Int) := by
  have hp : 2 ^ i ≤ 2 ^ 62 := Nat.pow_le_pow_right (by decide) hi
  have hpos : 0 < 2 ^ i := Nat.two_pow_pos i
  have hd : ((2 ^ i : Nat) : Int) ∣ 18446744073709551616 := by
    have : (18446744073709551616 : Int) = ((2 ^ 64 : Nat) : Int) := by decide
    rw [this]; exact_mod_cast Nat.pow_dvd_pow 2 (by omega)
  have e1 : (BitVec.ofInt 64 x).toNat &&& (2 ^ i - 1) = (x % ((2 ^ i : Nat) : Int)).toNat := by
    rw [Nat.and_two_pow_sub_one_eq_mod, BitVec.toNat_ofInt]
    apply Int.natCast_inj.1
    have h64 : ((2 ^ 64 : Nat) : Int) = 18446744073709551616 := by decide
    rw [h64, Int.natCast_emod, Int.toNat_of_nonneg (Int.emod_nonneg _ (by decide)), Int.toNat_of_nonneg (Int.emod_nonneg _ (by omega)), Int.emod_emod_of_dvd _ hd]
  have h0 : 0 ≤ x % ((2 ^ i : Nat) : Int) := Int.emod_nonneg _ (by omega)
  have h1 : x % ((2 ^ i : Nat) : Int) < ((2 ^ i : Nat) : Int) := Int.emod_lt_of_pos _ (by exact_mod_cast hpos)
  have h62 : ((2 ^ i : Nat) : Int) ≤ 4611686018427387904 := by
    have : ((2 ^ i : Nat) : Int) ≤ ((2 ^ 62 : Nat) : Int) := by exact_mod_cast hp
    simpa using this
  show IntKind.i64.wrap ((BitVec.ofInt 64 x &&& BitVec.ofInt 64 ((2 ^ i - 1 : Nat) : Int)).toNat : Int) = _
  rw [BitVec.toNat_and, BitVec.ofInt_natCast, BitVec.toNat_ofNat, Nat.mod_eq_of_lt (by omega), e1, Int.toNat_of_nonneg h0, IntKind.wrap_i64]
  omega
theorem and31 (x : Int) : Go.bits .and .i64 x 2147483647 = x % 2147483648 := and_mask x 31 (by decide)
theorem and24 (x : Int) : Go.bits .and .i64 x 16777215 = x % 16777216 := and_mask x 24 (by decide)
theorem and4 (x : Int) : Go.bits .and .i64 x 15 = x % 16 := and_mask x 4 (by decide)
theorem right_in (x : Int) (h0 : 0 ≤ x) (h1 : x ≤ 2147483647) : seq_Right.f x = some true := by
  unfold seq_Right.f; rw [if_pos h0, decide_eq_true h1]
theorem add_in (x k : Int) (h0 : 0 ≤ x) (h1 : x ≤ 2147483647) : seq_Add.f x k = some ((x + k) % 2147483648) := by
  unfold seq_Add.f; rw [right_in x h0 h1, Option.bind_some, if_pos rfl, add_core x k h0 h1]
theorem gap_in (a b : Int) (h0 : 0 ≤ a) (h1 : a ≤ 2147483647) (h2 : 0 ≤ b) (h3 : b ≤ 2147483647) : seq_Gap.f a b = some ((b - a) % 2147483648) := by
  unfold seq_Gap.f; rw [right_in a h0 h1, Option.bind_some, if_pos rfl, right_in b h2 h3, Option.bind_some, if_pos rfl, gap_core a b h0 h1 h2 h3]
theorem follows_in (a b : Int) (h0 : 0 ≤ a) (h1 : a ≤ 2147483647) : seq_Follows.f a b = some (b == (a + 1) % 2147483648) := by
  unfold seq_Follows.f; rw [if_neg (by omega), right_in a h0 h1, Option.bind_some, if_pos rfl, add_in a 1 h0 h1, Option.bind_some]
theorem last_in (a n : Int) (h0 : 0 ≤ a) (h1 : a ≤ 2147483647) (h2 : 1 ≤ n) (h3 : n ≤ 16) : seq_Last.f a n = some ((a + (n - 1)) % 2147483648) := by
  unfold seq_Last.f; rw [if_neg (by omega), if_neg (by omega), w64 _ (by omega), add_in a _ h0 h1, Option.bind_some]
theorem last_low (a n : Int) (h : n < 1) : seq_Last.f a n = some (-1) := by
  unfold seq_Last.f; rw [if_pos h]
theorem last_high (a n : Int) (h : 16 < n) : seq_Last.f a n = some (-1) := by
  unfold seq_Last.f; rw [if_neg (by omega), if_pos h]
theorem right_low : seq_Right.f (-1) = some false := by unfold seq_Right.f; rw [if_neg (by decide)]
theorem known_true : bordereaulaw5_known.f = some true := by
  unfold bordereaulaw5_known.f
  rw [add_in _ _ (by decide) (by decide), Option.bind_some, if_pos (by decide), last_in _ _ (by decide) (by decide) (by decide) (by decide), Option.bind_some, if_pos (by decide)]
  have f1 : seq_Follows.f (-1) 0 = some true := by unfold seq_Follows.f; rw [if_pos rfl]; rfl
  have f2 : seq_Follows.f (-1) 1 = some false := by unfold seq_Follows.f; rw [if_pos rfl]; rfl
  rw [f1, Option.bind_some, if_pos rfl, f2, Option.bind_some, if_neg (by decide), follows_in _ _ (by decide) (by decide), Option.bind_some, if_pos (by decide), gap_in _ _ (by decide) (by decide) (by decide) (by decide), Option.bind_some, if_pos (by decide)]
  have g1 : seq_Gap.f (-1) 0 = some (-1) := by unfold seq_Gap.f; rw [right_low, Option.bind_some, if_neg (by decide)]
  have a1 : seq_Add.f (-1) 1 = some (-1) := by unfold seq_Add.f; rw [right_low, Option.bind_some, if_neg (by decide)]
  rw [g1, Option.bind_some, if_pos rfl, a1, Option.bind_some, if_pos rfl, add_in _ _ (by decide) (by decide), Option.bind_some, if_pos (by decide), right_low, Option.bind_some]
  rfl
end Go.Proofs.Ytddgichochdgcaa.PureSeqRound
namespace Go.Proofs.Ytddgichochdgcaa.Pure
open Go.RowKit Go.Proofs.Ytddgichochdgcaa.PR Go.Proofs.YtddgichochdgcaaV.PrintWords Go.Proofs.YtddgichochdgcaaV.PrintLast Go.Proofs.Ytddgichochdgcaa.PureSeqRound
theorem SeqRound : bordereaulaw5_SeqRound.Pure := by
  intro a0 a1 a2 _ _ _
  unfold bordereaulaw5_SeqRound.f
  rw [and31, and31, and24, known_true]
  obtain ⟨x, hx⟩ : ∃ x, a0 % 2147483648 = x := ⟨_, rfl⟩
  obtain ⟨y, hy⟩ : ∃ y, a1 % 2147483648 = y := ⟨_, rfl⟩
  obtain ⟨n, hn⟩ : ∃ n, a2 % 16777216 = n := ⟨_, rfl⟩
  rw [hx, hy, hn]
  have x0 : 0 ≤ x := by omega
  have x1 : x ≤ 2147483647 := by omega
  have y0 : 0 ≤ y := by omega
  have y1 : y ≤ 2147483647 := by omega
  have n0 : 0 ≤ n := by omega
  have n1 : n < 16777216 := by omega
  clear hx hy hn
  rw [add_in x n x0 x1, Option.bind_some, right_in _ (by omega) (by omega), Option.bind_some, if_pos rfl, w64 (-n) (by omega), add_in _ _ (by omega) (by omega), Option.bind_some, if_pos (by omega),
    gap_in _ _ x0 x1 (by omega) (by omega), Option.bind_some, if_pos (by omega), gap_in x y x0 x1 y0 y1, Option.bind_some, add_in _ _ x0 x1, Option.bind_some, if_pos (by omega), add_in _ _ x0 x1, Option.bind_some,
    follows_in _ _ x0 x1, Option.bind_some, if_pos (by simp), Option.bind_some, gap_in y x y0 y1 x0 x1, Option.bind_some]
  have e : ((wrap64 ((y - x) % 2147483648 + (x - y) % 2147483648) == 0) == (x == y)) = true := by
    rw [w64 _ (by omega)]
    by_cases h : x = y
    · subst h; simp
    · have h1 : ((y - x) % 2147483648 + (x - y) % 2147483648 == 0) = false := beq_eq_false_iff_ne.mpr (by omega)
      have h2 : (x == y) = false := beq_eq_false_iff_ne.mpr h
      rw [h1, h2]; rfl
  rw [if_pos e, add_in _ _ (by omega) (by omega), Option.bind_some, w64 (n + 7) (by omega), add_in _ _ x0 x1, Option.bind_some, if_pos (by omega)]
end Go.Proofs.Ytddgichochdgcaa.Pure
