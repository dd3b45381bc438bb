/- For any row of bytes, place and turn CrcTurns answers true; no condition. -/
import Derived.Test.YtddgichochdgcaaPTx2
import Derived.Laws.BitsAllLaws
import Derived.IntWalk
import Derived.Laws.Strings
import Derived.OpenShut
namespace CrcT
def step (c : BitVec 32) : BitVec 32 := (c >>> 1) ^^^ (if c.getLsbD 0 then 2197175160#32 else 0#32)
theorem step_xor (a b : BitVec 32) : step (a ^^^ b) = step a ^^^ step b := by
  unfold step
  rw [BitVec.ushiftRight_xor_distrib, BitVec.getLsbD_xor]
  cases a.getLsbD 0 <;> cases b.getLsbD 0 <;> simp
  · rw [BitVec.xor_assoc]
  · rw [BitVec.xor_assoc, BitVec.xor_assoc]; congr 1; rw [BitVec.xor_comm]
  · have h : ∀ x y z : BitVec 32, x ^^^ y = x ^^^ z ^^^ (y ^^^ z) := by
      intro x y z
      rw [BitVec.xor_assoc, ← BitVec.xor_assoc z, BitVec.xor_comm z y, BitVec.xor_assoc y, BitVec.xor_self, BitVec.xor_zero]
    exact h _ _ _
theorem step_zero : step 0#32 = 0#32 := by decide
theorem top (c : BitVec 32) : (step c).getLsbD 31 = c.getLsbD 0 := by
  unfold step
  rw [BitVec.getLsbD_xor, BitVec.getLsbD_ushiftRight]
  have h1 : c.getLsbD (1 + 31) = false := BitVec.getLsbD_of_ge _ _ (by decide)
  rw [h1]
  cases c.getLsbD 0
  · rw [if_neg (by decide)]; decide
  · rw [if_pos rfl]; decide
theorem step_ker (c : BitVec 32) (h : step c = 0#32) : c = 0#32 := by
  have h0 : c.getLsbD 0 = false := by rw [← top c, h]; decide
  have h1 : c >>> 1 = 0#32 := by
    have := h
    unfold step at this
    rw [h0, if_neg (by decide), BitVec.xor_zero] at this
    exact this
  apply BitVec.eq_of_getLsbD_eq
  intro i hi
  rw [BitVec.getLsbD_zero]
  match i with
  | 0 => exact h0
  | i + 1 =>
    have := congrArg (fun x => x.getLsbD i) h1
    simp only [BitVec.getLsbD_ushiftRight, BitVec.getLsbD_zero] at this
    rw [Nat.add_comm] at this
    exact this
def T (c : BitVec 32) : BitVec 32 := step (step (step (step (step (step (step (step c)))))))
theorem T_xor (a b : BitVec 32) : T (a ^^^ b) = T a ^^^ T b := by simp only [T, step_xor]
theorem T_ker (c : BitVec 32) (h : T c = 0#32) : c = 0#32 := step_ker _ (step_ker _ (step_ker _ (step_ker _ (step_ker _ (step_ker _ (step_ker _ (step_ker _ h)))))))
theorem T_zero : T 0#32 = 0#32 := by decide
theorem step_shift (x : BitVec 32) (n : Nat) (hn : n < 32) (h : x.toNat < 2 ^ (31 - n)) : step (x <<< (n + 1)) = x <<< n := by
  unfold step
  have h0 : (x <<< (n + 1)).getLsbD 0 = false := by rw [BitVec.getLsbD_shiftLeft]; simp
  rw [h0, if_neg (by decide), BitVec.xor_zero]
  apply BitVec.eq_of_toNat_eq
  have e : 2 ^ 32 = 2 ^ (31 - n) * 2 ^ (n + 1) := by rw [← Nat.pow_add]; congr 1; omega
  have hl : x.toNat * 2 ^ (n + 1) < 2 ^ 32 := by rw [e]; exact Nat.mul_lt_mul_of_pos_right h (Nat.two_pow_pos _)
  have hl2 : x.toNat * 2 ^ n < 2 ^ 32 := Nat.lt_of_le_of_lt (Nat.mul_le_mul_left _ (Nat.pow_le_pow_right (by decide) (by omega))) hl
  rw [BitVec.toNat_ushiftRight, BitVec.toNat_shiftLeft, BitVec.toNat_shiftLeft, Nat.shiftLeft_eq, Nat.shiftLeft_eq, Nat.shiftRight_eq_div_pow, Nat.mod_eq_of_lt hl, Nat.mod_eq_of_lt hl2, Nat.pow_succ, ← Nat.mul_assoc, Nat.pow_one, Nat.mul_div_cancel _ (by decide)]
theorem T_shift (x : BitVec 32) (h : x.toNat < 2 ^ 24) : T (x <<< 8) = x := by
  have g : ∀ n, n < 8 → x.toNat < 2 ^ (31 - n) := fun n hn => Nat.lt_of_lt_of_le h (Nat.pow_le_pow_right (by decide) (by omega))
  unfold T
  rw [step_shift x 7 (by decide) (g 7 (by decide)), step_shift x 6 (by decide) (g 6 (by decide)), step_shift x 5 (by decide) (g 5 (by decide)), step_shift x 4 (by decide) (g 4 (by decide)), step_shift x 3 (by decide) (g 3 (by decide)), step_shift x 2 (by decide) (g 2 (by decide)), step_shift x 1 (by decide) (g 1 (by decide)), step_shift x 0 (by decide) (g 0 (by decide))]
  exact BitVec.shiftLeft_zero x
theorem xz (a b : BitVec 32) : a ^^^ b = 0#32 ↔ a = b := by
  constructor
  · intro h
    have := congrArg (fun x => x ^^^ b) h
    simpa [BitVec.xor_assoc] using this
  · rintro rfl; exact BitVec.xor_self
/-- Four bytes in a row that differ from another four by t0, t1, t2, t3. -/
theorem four (t0 t1 t2 t3 : BitVec 32) (_h0 : t0.toNat < 256) (h1 : t1.toNat < 256) (h2 : t2.toNat < 256) (h3 : t3.toNat < 256) :
    T (T (T (T t0 ^^^ t1) ^^^ t2) ^^^ t3) = T (T (T (T (t0 ^^^ ((t1 ^^^ ((t2 ^^^ (t3 <<< 8)) <<< 8)) <<< 8))))) := by
  have s3 : (t3 <<< 8).toNat = t3.toNat * 256 := by rw [BitVec.toNat_shiftLeft, Nat.shiftLeft_eq, Nat.mod_eq_of_lt (by omega)]
  have u2 : (t2 ^^^ (t3 <<< 8)).toNat < 2 ^ 16 := by
    rw [BitVec.toNat_xor]; exact Nat.xor_lt_two_pow (by omega) (by omega)
  have s2 : ((t2 ^^^ (t3 <<< 8)) <<< 8).toNat = (t2 ^^^ (t3 <<< 8)).toNat * 256 := by rw [BitVec.toNat_shiftLeft, Nat.shiftLeft_eq, Nat.mod_eq_of_lt (by omega)]
  have u1 : (t1 ^^^ ((t2 ^^^ (t3 <<< 8)) <<< 8)).toNat < 2 ^ 24 := by
    rw [BitVec.toNat_xor]; exact Nat.xor_lt_two_pow (by omega) (by omega)
  rw [T_xor t0, T_shift _ u1, ← BitVec.xor_assoc, T_xor (T t0 ^^^ t1), T_shift _ (by omega), ← BitVec.xor_assoc, T_xor (T (T t0 ^^^ t1) ^^^ t2), T_shift _ (by omega)]
end CrcT
namespace Go.Proofs.Ytddgichochdgcaa.CrcPureT
open Go Go.RowKit Go.Proofs.Ytddgichochdgcaa.PT Go.Proofs.YtddgichochdgcaaV.PrintWords Go.Proofs.YtddgichochdgcaaV.PrintLast Go.Proofs.YtddgichochdgcaaV.PrintMore
set_option linter.unusedVariables false
theorem w64 (n : Int) (h : -9223372036854775808 ≤ n ∧ n ≤ 9223372036854775807) : wrap64 n = n := by unfold wrap64; omega
def I (c : BitVec 32) : Int := (c.toNat : Int)
theorem I_range (c : BitVec 32) : 0 ≤ I c ∧ I c < 4294967296 := by have := c.isLt; unfold I; omega
theorem I_of (a : Int) (h0 : 0 ≤ a) (h1 : a < 4294967296) : I (BitVec.ofInt 32 a) = a := by
  unfold I; rw [BitVec.toNat_ofInt]; have : ((2 ^ 32 : Nat) : Int) = 4294967296 := by decide
  rw [this]; omega
theorem I_xor (a b : BitVec 32) : bits .xor .u32 (I a) (I b) = I (a ^^^ b) := by
  obtain ⟨h0, h1⟩ := I_range a
  obtain ⟨h2, h3⟩ := I_range b
  rw [u32_xor _ _ h0 h1 h2 h3]
  unfold I
  rw [Int.toNat_natCast, Int.toNat_natCast, BitVec.toNat_xor]
theorem I_low (c : BitVec 32) : bits .and .u32 (I c) 1 = if c.getLsbD 0 then 1 else 0 := by
  obtain ⟨h0, h1⟩ := I_range c
  rw [u32_and _ 1 h0 h1 (by decide) (by decide)]
  have e : (1 : Int).toNat = 1 := rfl
  rw [e, nat_mask1]
  have e2 : c.getLsbD 0 = decide (c.toNat % 2 = 1) := by
    rw [BitVec.getLsbD, Nat.testBit_zero]
  rw [e2]
  unfold I
  rw [Int.toNat_natCast]
  have := Nat.mod_two_eq_zero_or_one c.toNat
  rcases this with h | h <;> rw [h] <;> rfl
theorem I_half (c : BitVec 32) : I c / (2 : Int) = I (c >>> 1) := by
  unfold I
  rw [BitVec.toNat_ushiftRight, Nat.shiftRight_eq_div_pow]
  rfl
theorem step_own (c : BitVec 32) : bits .xor .u32 (I c / 2) ((2197175160 * (bits .and .u32 (I c) 1)) % 4294967296) = I (CrcT.step c) := by
  rw [I_low, I_half]
  unfold CrcT.step
  have e1 : I 2197175160#32 = 2197175160 := by decide
  have e0 : I 0#32 = 0 := by decide
  cases c.getLsbD 0
  · rw [if_neg (by decide), if_neg (by decide), ← I_xor, e0]; rfl
  · rw [if_pos rfl, if_pos rfl, ← I_xor, e1]; rfl
def steps : Nat → BitVec 32 → BitVec 32
  | 0, c => c
  | n + 1, c => steps n (CrcT.step c)
theorem own_loop (d : Nat) : ∀ (k : Nat) (c : BitVec 32) (i : Int), 0 ≤ i → i + d = 8 → d < k → crc_Next.l0 k (I c) i = some (I (steps d c)) := by
  induction d with
  | zero =>
    intro k c i h0 hi hk
    obtain ⟨k, rfl⟩ : ∃ m, k = m + 1 := ⟨k - 1, by omega⟩
    rw [crc_Next.l0, if_neg (by omega)]; rfl
  | succ d ih =>
    intro k c i h0 hi hk
    obtain ⟨k, rfl⟩ : ∃ m, k = m + 1 := ⟨k - 1, by omega⟩
    rw [crc_Next.l0, if_pos (by omega), step_own, w64 _ (by omega), ih k _ (i + 1) (by omega) (by omega) (by omega)]; rfl
theorem steps8 (c : BitVec 32) : steps 8 c = CrcT.T c := rfl
def bv (b : Int) : BitVec 32 := BitVec.ofInt 32 b
theorem next_own (k : Nat) (c : BitVec 32) (b : Int) (h0 : 0 ≤ b) (h1 : b < 256) (hk : 8 < k) : crc_Next.f k (I c) b = some (I (CrcT.T (c ^^^ bv b))) := by
  unfold crc_Next.f
  rw [show b % 4294967296 = I (bv b) by rw [bv, I_of b h0 (by omega)]; omega, I_xor, own_loop 8 k _ 0 (by decide) rfl hk, steps8]
/-- The state behind a row of bytes. -/
def run (c : BitVec 32) (l : List Int) : BitVec 32 := l.foldl (fun c b => CrcT.T (c ^^^ bv b)) c
def Bytes (l : List Int) : Prop := ∀ x ∈ l, 0 ≤ x ∧ x < 256
def sumS (l : List Int) : Int := I (~~~ (run 4294967295#32 l))
theorem I_not (c : BitVec 32) : bits .xor .u32 IntKind.u32.max (I c) = I (~~~ c) := by
  have e : IntKind.u32.max = I 4294967295#32 := by decide
  rw [e, I_xor]
  have e2 : (4294967295#32 : BitVec 32) = BitVec.allOnes 32 := by decide
  rw [e2, BitVec.allOnes_xor]
theorem rd_at (l : List Int) (i : Nat) (h : i < l.length) : rd l (i : Int) = l[i] := by
  unfold rd
  rw [Int.toNat_natCast, List.getD_eq_getElem?_getD, List.getElem?_eq_getElem h]; rfl
theorem run_drop (c : BitVec 32) (l : List Int) (i : Nat) (h : i < l.length) : run c (l.drop i) = run (CrcT.T (c ^^^ bv l[i])) (l.drop (i + 1)) := by
  rw [List.drop_eq_getElem_cons h]; rfl
theorem of_loop (l : List Int) (hb : Bytes l) (hn : l.length < 9223372036854775807) (d : Nat) : ∀ (k : Nat) (c : BitVec 32) (i : Nat), i + d = l.length → d + 9 < k → crc_Of.l0 k (I c) l (l.length : Int) (i : Int) = some (I (~~~ (run c (l.drop i)))) := by
  induction d with
  | zero =>
    intro k c i hi hk
    obtain ⟨k, rfl⟩ : ∃ m, k = m + 1 := ⟨k - 1, by omega⟩
    rw [crc_Of.l0, if_neg (by omega), I_not, List.drop_eq_nil_of_le (by omega)]; rfl
  | succ d ih =>
    intro k c i hi hk
    obtain ⟨k, rfl⟩ : ∃ m, k = m + 1 := ⟨k - 1, by omega⟩
    have hx := hb l[i] (List.getElem_mem _)
    rw [crc_Of.l0, if_pos (by omega), if_pos (by omega), if_pos (by omega), rd_at l i (by omega), next_own k c _ hx.1 hx.2 (by omega), Option.bind_some, w64 _ (by omega)]
    have := ih k (CrcT.T (c ^^^ bv l[i])) (i + 1) (by omega) (by omega)
    rw [Int.natCast_add] at this
    rw [run_drop c l i (by omega)]
    exact this
theorem of_spec (l : List Int) (hb : Bytes l) (hn : l.length < 9223372036854775807) (k : Nat) (hk : l.length + 9 < k) : crc_Of.f k l = some (sumS l) := by
  unfold crc_Of.f
  have := of_loop l hb hn l.length k 4294967295#32 0 (by omega) hk
  exact this
def le4 (s : Int) : List Int := [s % 256, (s / 256) % 256, (s / 65536) % 256, (s / 16777216) % 256]
def sealS (l : List Int) : List Int := le4 (sumS l) ++ l
theorem le4_bytes (s : Int) : Bytes (le4 s) := by
  intro x hx
  simp only [le4, List.mem_cons, List.not_mem_nil, or_false] at hx
  omega
theorem seal_bytes (l : List Int) (hb : Bytes l) : Bytes (sealS l) := by
  intro x hx
  rcases List.mem_append.1 hx with h | h
  · exact le4_bytes _ x h
  · exact hb x h
theorem seal_len (l : List Int) : (sealS l).length = l.length + 4 := by simp only [sealS, List.length_append, le4, List.length_cons, List.length_nil]; omega
theorem put_spec (l : List Int) (hb : Bytes l) (hn : l.length + 4 < 140737488355328) (k : Nat) (hk : l.length + 9 < k) : crc_Put.f k l = some (sealS l) := by
  unfold crc_Put.f
  rw [of_spec l hb (by omega) k hk, Option.bind_some]
  unfold slices_Concat_byte_byte_2.f
  rw [if_pos (by simp only [List.length_cons, List.length_nil]; omega), Option.bind_some]; rfl
/-- The number that four bytes are. -/
def word (l : List Int) : Int := rd l 0 + rd l 1 * 256 + rd l 2 * 65536 + rd l 3 * 16777216
theorem or_u32 (i : Nat) (x y : Int) (hx0 : 0 ≤ x) (hx : x < 2 ^ i) (hy0 : 0 ≤ y) (hy : y % 2 ^ i = 0) (hx1 : x < 4294967296) (hy1 : y < 4294967296) : bits .or .u32 x y = x + y := by
  rw [u32_or x y hx0 hx1 hy0 hy1]
  obtain ⟨a, rfl⟩ := Int.eq_ofNat_of_zero_le hx0
  obtain ⟨b, rfl⟩ := Int.eq_ofNat_of_zero_le hy0
  have h1 : a < 2 ^ i := by exact_mod_cast hx
  have h2 : b % 2 ^ i = 0 := by exact_mod_cast hy
  rw [Int.toNat_natCast, Int.toNat_natCast, Nat.or_comm, nat_join i b a h2 h1]
  omega
theorem word_spec (a b c d : Int) (ha : 0 ≤ a ∧ a < 256) (hb : 0 ≤ b ∧ b < 256) (hc : 0 ≤ c ∧ c < 256) (hd : 0 ≤ d ∧ d < 256) :
    bits .or .u32 (bits .or .u32 (bits .or .u32 (a % 4294967296) (((b % 4294967296) * 256) % 4294967296)) (((c % 4294967296) * 65536) % 4294967296)) (((d % 4294967296) * 16777216) % 4294967296) = a + b * 256 + c * 65536 + d * 16777216 := by
  have e1 : a % 4294967296 = a := by omega
  have e2 : ((b % 4294967296) * 256) % 4294967296 = b * 256 := by omega
  have e3 : ((c % 4294967296) * 65536) % 4294967296 = c * 65536 := by omega
  have e4 : ((d % 4294967296) * 16777216) % 4294967296 = d * 16777216 := by omega
  rw [e1, e2, e3, e4]
  have p8 : (2 : Int) ^ 8 = 256 := by decide
  have p16 : (2 : Int) ^ 16 = 65536 := by decide
  have p24 : (2 : Int) ^ 24 = 16777216 := by decide
  rw [or_u32 8 a (b * 256) ha.1 (by omega) (by omega) (by omega) (by omega) (by omega), or_u32 16 (a + b * 256) (c * 65536) (by omega) (by omega) (by omega) (by omega) (by omega) (by omega), or_u32 24 (a + b * 256 + c * 65536) (d * 16777216) (by omega) (by omega) (by omega) (by omega) (by omega) (by omega)]
theorem cut4 (l : List Int) (h : 4 ≤ l.length) : ∃ a b c d r, l = a :: b :: c :: d :: r := by
  match l, h with
  | a :: b :: c :: d :: r, _ => exact ⟨a, b, c, d, r, rfl⟩
/-- What Check and Unseal tell. -/
def checkS (l : List Int) : List Int × Bool := if l.length < 4 then ([], false) else if sumS (l.drop 4) = word l then (l.drop 4, true) else ([], false)
theorem bytes_drop (l : List Int) (n : Nat) (hb : Bytes l) : Bytes (l.drop n) := fun x hx => hb x (List.mem_of_mem_drop hx)
theorem check_spec (l : List Int) (hb : Bytes l) (hn : l.length + 4 < 140737488355328) (k : Nat) (hk : l.length + 9 < k) : crc_Check.f k l = some (checkS l) := by
  unfold crc_Check.f checkS
  by_cases h : l.length < 4
  · rw [if_pos (by omega), if_pos h]
  · rw [if_neg (by omega), if_pos (by omega), if_pos (by omega), if_pos (by omega), if_pos (by omega), if_pos (by omega), if_neg h, of_spec (l.drop 4) (bytes_drop l 4 hb) (by rw [List.length_drop]; omega) k (by rw [List.length_drop]; omega), Option.bind_some]
    obtain ⟨a, b, c, d, r, rfl⟩ := cut4 l (by omega)
    have e0 : rd (a :: b :: c :: d :: r) 0 = a := rfl
    have e1 : rd (a :: b :: c :: d :: r) 1 = b := rfl
    have e2 : rd (a :: b :: c :: d :: r) 2 = c := rfl
    have e3 : rd (a :: b :: c :: d :: r) 3 = d := rfl
    have hw : word (a :: b :: c :: d :: r) = a + b * 256 + c * 65536 + d * 16777216 := rfl
    rw [e0, e1, e2, e3, word_spec a b c d (hb a (by simp)) (hb b (by simp)) (hb c (by simp)) (hb d (by simp)), hw]
    split
    · unfold slices_Clone_byte_byte.f
      rw [if_pos (by rw [List.length_drop]; omega), Option.bind_some]
    · rfl
theorem bytes_set (l : List Int) (n : Nat) (x : Int) (hb : Bytes l) (hx : 0 ≤ x ∧ x < 256) : Bytes (l.set n x) := by
  intro y hy
  rcases List.mem_or_eq_of_mem_set hy with h | h
  · exact hb y h
  · rw [h]; exact hx
theorem bytes_take (l : List Int) (n : Nat) (hb : Bytes l) : Bytes (l.take n) := fun x hx => hb x (List.mem_of_mem_take hx)
theorem bits_u8 (op : BinOp) (x y : Int) : 0 ≤ bits op .u8 x y ∧ bits op .u8 x y < 256 := by
  have := bounds_u8 (wf_bits op .u8 x y)
  omega
theorem bits_u32 (op : BinOp) (x y : Int) : 0 ≤ bits op .u32 x y ∧ bits op .u32 x y < 4294967296 := by
  have := bounds_u32 (wf_bits op .u32 x y)
  omega
theorem lits (l : List Int) (h : ∀ x ∈ l, (Lit.int .u8 x).wf = true) : Bytes l := fun x hx => by have := bounds_u8 (h x hx); omega
theorem known_true (k : Nat) (hk : 42 < k) : bordereaulaw1_known.f k = some true := by
  have h : bordereaulaw1_known.f 43 = some true := by decide +kernel
  have := more_rounds bordereaulaw1_known.mono 43 (k - 43) true h
  rwa [show 43 + (k - 43) = k by omega] at this
theorem sumS_range (l : List Int) : 0 ≤ sumS l ∧ sumS l < 4294967296 := I_range _
theorem run_app (c : BitVec 32) (l m : List Int) : run c (l ++ m) = run (run c l) m := List.foldl_append
theorem word_seal (s : Int) (r : List Int) (h : 0 ≤ s ∧ s < 4294967296) : word (le4 s ++ r) = s := by
  have h0 : rd (le4 s ++ r) 0 = s % 256 := rfl
  have h1 : rd (le4 s ++ r) 1 = (s / 256) % 256 := rfl
  have h2 : rd (le4 s ++ r) 2 = (s / 65536) % 256 := rfl
  have h3 : rd (le4 s ++ r) 3 = (s / 16777216) % 256 := rfl
  unfold word
  rw [h0, h1, h2, h3]; omega
theorem check_seal (s : Int) (r : List Int) (h : 0 ≤ s ∧ s < 4294967296) : checkS (le4 s ++ r) = if sumS r = s then (r, true) else ([], false) := by
  have hd : (le4 s ++ r).drop 4 = r := rfl
  unfold checkS
  rw [if_neg (by simp only [List.length_append, le4, List.length_cons, List.length_nil]; omega), hd, word_seal s r h]
theorem I_inj (a b : BitVec 32) (h : I a = I b) : a = b := by
  unfold I at h
  exact BitVec.eq_of_toNat_eq (by omega)
theorem I_not2 (c : BitVec 32) : bits .xor .u32 IntKind.u32.max (I (~~~c)) = I c := by rw [I_not, BitVec.not_not]
theorem bytes_app {l m : List Int} (h : Bytes l) (k : Bytes m) : Bytes (l ++ m) := fun x hx => (List.mem_append.1 hx).elim (h x) (k x)
def iter : Nat → BitVec 32 → BitVec 32
  | 0, d => d
  | n + 1, d => iter n (CrcT.T d)
theorem iter_zero (n : Nat) : iter n 0#32 = 0#32 := by
  induction n with
  | zero => rfl
  | succ n ih => rw [iter, CrcT.T_zero, ih]
theorem iter_ker (n : Nat) : ∀ d, iter n d = 0#32 → d = 0#32 := by
  induction n with
  | zero => intro d h; exact h
  | succ n ih => intro d h; exact CrcT.T_ker d (ih _ h)
theorem swap3 (a b c : BitVec 32) : a ^^^ b ^^^ c = a ^^^ c ^^^ b := by rw [BitVec.xor_assoc, BitVec.xor_comm b c, ← BitVec.xor_assoc]
theorem run_xor (l : List Int) : ∀ (c d : BitVec 32), run (c ^^^ d) l = run c l ^^^ iter l.length d := by
  induction l with
  | nil => intro c d; rfl
  | cons b l ih =>
    intro c d
    show run (CrcT.T (c ^^^ d ^^^ bv b)) l = run (CrcT.T (c ^^^ bv b)) l ^^^ iter l.length (CrcT.T d)
    rw [swap3, CrcT.T_xor, ih]
theorem bv_I (c : BitVec 32) : bv (I c) = c := by
  unfold bv I
  apply BitVec.eq_of_toNat_eq
  have := c.isLt
  rw [BitVec.toNat_ofInt]
  have e : ((2 ^ 32 : Nat) : Int) = 4294967296 := by decide
  rw [e]; omega
theorem bv_xor (x t : Int) (hx : 0 ≤ x ∧ x < 256) (ht : 0 ≤ t ∧ t < 256) : bv (bits .xor .u8 x t) = bv x ^^^ bv t := by
  have h1 : bits .xor .u8 x t = bits .xor .u32 x t := by
    rw [u8_xor _ _ hx.1 (by omega) ht.1 (by omega), u32_xor _ _ hx.1 (by omega) ht.1 (by omega)]
  have e1 : I (bv x) = x := I_of x hx.1 (by omega)
  have e2 : I (bv t) = t := I_of t ht.1 (by omega)
  have h2 := I_xor (bv x) (bv t)
  rw [e1, e2] at h2
  rw [h1, h2, bv_I]
theorem four_run (c : BitVec 32) (b0 b1 b2 b3 t0 t1 t2 t3 : Int) (h0 : 0 ≤ b0 ∧ b0 < 256) (h1 : 0 ≤ b1 ∧ b1 < 256) (h2 : 0 ≤ b2 ∧ b2 < 256) (h3 : 0 ≤ b3 ∧ b3 < 256)
    (k0 : 0 ≤ t0 ∧ t0 < 256) (k1 : 0 ≤ t1 ∧ t1 < 256) (k2 : 0 ≤ t2 ∧ t2 < 256) (k3 : 0 ≤ t3 ∧ t3 < 256) :
    run c [bits .xor .u8 b0 t0, bits .xor .u8 b1 t1, bits .xor .u8 b2 t2, bits .xor .u8 b3 t3] =
      run c [b0, b1, b2, b3] ^^^ CrcT.T (CrcT.T (CrcT.T (CrcT.T (bv t0) ^^^ bv t1) ^^^ bv t2) ^^^ bv t3) := by
  have go : ∀ (c d : BitVec 32) (b t : Int), 0 ≤ b ∧ b < 256 → 0 ≤ t ∧ t < 256 → CrcT.T (c ^^^ d ^^^ bv (bits .xor .u8 b t)) = CrcT.T (c ^^^ bv b) ^^^ CrcT.T (d ^^^ bv t) := by
    intro c d b t hb ht
    rw [bv_xor b t hb ht, ← CrcT.T_xor]
    congr 1
    rw [BitVec.xor_assoc, BitVec.xor_assoc, ← BitVec.xor_assoc d, BitVec.xor_comm d (bv b), BitVec.xor_assoc]
  have g0 := go c 0#32 b0 t0 h0 k0
  rw [BitVec.xor_zero, BitVec.zero_xor] at g0
  show CrcT.T (CrcT.T (CrcT.T (CrcT.T (c ^^^ bv (bits .xor .u8 b0 t0)) ^^^ bv (bits .xor .u8 b1 t1)) ^^^ bv (bits .xor .u8 b2 t2)) ^^^ bv (bits .xor .u8 b3 t3)) =
    CrcT.T (CrcT.T (CrcT.T (CrcT.T (c ^^^ bv b0) ^^^ bv b1) ^^^ bv b2) ^^^ bv b3) ^^^ _
  rw [g0, go _ _ b1 t1 h1 k1, go _ _ b2 t2 h2 k2, go _ _ b3 t3 h3 k3]
theorem bv_nat (t : Int) (h : 0 ≤ t ∧ t < 256) : (bv t).toNat = t.toNat ∧ (bv t).toNat < 256 := by
  have := I_of t h.1 (by omega)
  unfold I at this
  have e : (bv t).toNat = t.toNat := by unfold bv; omega
  omega
theorem low_zero (t u : BitVec 32) (ht : t.toNat < 256) (hu : u.toNat < 2 ^ 24) (h : t ^^^ (u <<< 8) = 0#32) : t = 0#32 ∧ u = 0#32 := by
  have h1 := (CrcT.xz _ _).1 h
  have h2 : (u <<< 8).toNat = u.toNat * 256 := by rw [BitVec.toNat_shiftLeft, Nat.shiftLeft_eq, Nat.mod_eq_of_lt (by omega)]
  have h3 : t.toNat = u.toNat * 256 := by rw [h1, h2]
  constructor
  · exact BitVec.eq_of_toNat_eq (by show t.toNat = 0; omega)
  · exact BitVec.eq_of_toNat_eq (by show u.toNat = 0; omega)
theorem four_zero (t0 t1 t2 t3 : BitVec 32) (h0 : t0.toNat < 256) (h1 : t1.toNat < 256) (h2 : t2.toNat < 256) (h3 : t3.toNat < 256) (h : CrcT.T (CrcT.T (CrcT.T (CrcT.T t0 ^^^ t1) ^^^ t2) ^^^ t3) = 0#32) : t0 = 0#32 ∧ t1 = 0#32 ∧ t2 = 0#32 ∧ t3 = 0#32 := by
  rw [CrcT.four t0 t1 t2 t3 h0 h1 h2 h3] at h
  have h := CrcT.T_ker _ (CrcT.T_ker _ (CrcT.T_ker _ (CrcT.T_ker _ h)))
  have s3 : (t3 <<< 8).toNat = t3.toNat * 256 := by rw [BitVec.toNat_shiftLeft, Nat.shiftLeft_eq, Nat.mod_eq_of_lt (by omega)]
  have u2 : (t2 ^^^ (t3 <<< 8)).toNat < 2 ^ 16 := by
    rw [BitVec.toNat_xor]; exact Nat.xor_lt_two_pow (by omega) (by omega)
  have s2 : ((t2 ^^^ (t3 <<< 8)) <<< 8).toNat = (t2 ^^^ (t3 <<< 8)).toNat * 256 := by rw [BitVec.toNat_shiftLeft, Nat.shiftLeft_eq, Nat.mod_eq_of_lt (by omega)]
  have u1 : (t1 ^^^ ((t2 ^^^ (t3 <<< 8)) <<< 8)).toNat < 2 ^ 24 := by
    rw [BitVec.toNat_xor]; exact Nat.xor_lt_two_pow (by omega) (by omega)
  obtain ⟨e0, h⟩ := low_zero _ _ h0 u1 h
  obtain ⟨e1, h⟩ := low_zero _ _ h1 (by omega) h
  obtain ⟨e2, h⟩ := low_zero _ _ h2 (by omega) h
  exact ⟨e0, e1, e2, h⟩
def tb (t : Int) (i : Nat) : Int := t / 2 ^ (8 * i) % 256
/-- A row with 32 bits side by side turned. -/
def turned (p : List Int) (b0 b1 b2 b3 : Int) (q : List Int) (t : Int) : List Int := p ++ ([bits .xor .u8 b0 (tb t 0), bits .xor .u8 b1 (tb t 1), bits .xor .u8 b2 (tb t 2), bits .xor .u8 b3 (tb t 3)] ++ q)
theorem tb_range (t : Int) (i : Nat) : 0 ≤ tb t i ∧ tb t i < 256 := by unfold tb; omega
theorem tb_zero (t : Int) (h0 : 0 ≤ t) (h1 : t < 4294967296) (e0 : tb t 0 = 0) (e1 : tb t 1 = 0) (e2 : tb t 2 = 0) (e3 : tb t 3 = 0) : t = 0 := by
  unfold tb at *
  have p0 : (2 : Int) ^ (8 * 0) = 1 := rfl
  have p1 : (2 : Int) ^ (8 * 1) = 256 := rfl
  have p2 : (2 : Int) ^ (8 * 2) = 65536 := rfl
  have p3 : (2 : Int) ^ (8 * 3) = 16777216 := rfl
  rw [p0] at e0; rw [p1] at e1; rw [p2] at e2; rw [p3] at e3
  omega
theorem turned_sum (p : List Int) (b0 b1 b2 b3 : Int) (q : List Int) (t : Int) (h0 : 0 ≤ b0 ∧ b0 < 256) (h1 : 0 ≤ b1 ∧ b1 < 256) (h2 : 0 ≤ b2 ∧ b2 < 256) (h3 : 0 ≤ b3 ∧ b3 < 256) (t0 : 0 ≤ t) (t1 : t < 4294967296) :
    sumS (turned p b0 b1 b2 b3 q t) = sumS (p ++ ([b0, b1, b2, b3] ++ q)) ↔ t = 0 := by
  have hr : ∀ c, run c (turned p b0 b1 b2 b3 q t) = run c (p ++ ([b0, b1, b2, b3] ++ q)) ^^^ iter q.length (CrcT.T (CrcT.T (CrcT.T (CrcT.T (bv (tb t 0)) ^^^ bv (tb t 1)) ^^^ bv (tb t 2)) ^^^ bv (tb t 3))) := by
    intro c
    unfold turned
    rw [run_app, run_app, run_app, run_app, four_run _ b0 b1 b2 b3 _ _ _ _ h0 h1 h2 h3 (tb_range t 0) (tb_range t 1) (tb_range t 2) (tb_range t 3), run_xor]
  unfold sumS
  rw [hr]
  constructor
  · intro h
    have h := I_inj _ _ h
    have h := BitVec.not_inj.1 h
    have h : iter q.length (CrcT.T (CrcT.T (CrcT.T (CrcT.T (bv (tb t 0)) ^^^ bv (tb t 1)) ^^^ bv (tb t 2)) ^^^ bv (tb t 3))) = 0#32 := by
      generalize run 4294967295#32 (p ++ ([b0, b1, b2, b3] ++ q)) = x at h
      generalize iter q.length _ = y at h ⊢
      have := congrArg (fun z => x ^^^ z) h
      simpa [← BitVec.xor_assoc] using this
    have h := iter_ker _ _ h
    obtain ⟨e0, e1, e2, e3⟩ := four_zero _ _ _ _ (bv_nat _ (tb_range t 0)).2 (bv_nat _ (tb_range t 1)).2 (bv_nat _ (tb_range t 2)).2 (bv_nat _ (tb_range t 3)).2 h
    have z : ∀ x : Int, 0 ≤ x ∧ x < 256 → bv x = 0#32 → x = 0 := by
      intro x hx he
      have := (bv_nat x hx).1
      rw [he] at this
      have e : (0#32).toNat = 0 := rfl
      omega
    exact tb_zero t t0 t1 (z _ (tb_range t 0) e0) (z _ (tb_range t 1) e1) (z _ (tb_range t 2) e2) (z _ (tb_range t 3) e3)
  · rintro rfl
    have e : ∀ i, bv (tb 0 i) = 0#32 := by intro i; unfold tb; rw [Int.zero_ediv]; rfl
    simp only [e, BitVec.xor_zero, CrcT.T_zero, iter_zero]
theorem rd_mid (P : List Int) (c : Int) (r : List Int) (i : Int) (h : i = (P.length : Int)) : rd (P ++ c :: r) i = c := by
  rw [h]
  unfold rd
  rw [Int.toNat_natCast, List.getD_eq_getElem?_getD, List.getElem?_append_right (Nat.le_refl _), Nat.sub_self]; rfl
theorem set_mid (P : List Int) (c v : Int) (r : List Int) (i : Int) (h : i = (P.length : Int)) : (P ++ c :: r).set i.toNat v = (P ++ [v]) ++ r := by
  rw [h, Int.toNat_natCast, List.set_append_right _ _ (Nat.le_refl _), Nat.sub_self, List.append_assoc]; rfl
theorem shr_tb (t : Int) (i : Nat) (hi : i < 4) : shr .u32 t (IntKind.u64.wrap (wrap64 (8 * (i : Int)))) % 256 = tb t i := by
  have e : IntKind.u64.wrap (wrap64 (8 * (i : Int))) = ((8 * i : Nat) : Int) := by
    have hw : IntKind.u64.wrap (wrap64 (8 * (i : Int))) = (wrap64 (8 * (i : Int))) % 18446744073709551616 := by simp [IntKind.wrap, IntKind.bits, IntKind.signed]
    rw [hw, w64 _ (by omega)]; omega
  unfold shr tb
  rw [e, Int.toNat_natCast, show min (8 * i) IntKind.u32.bits = 8 * i from Nat.min_eq_left (by show 8 * i ≤ 32; omega)]
theorem turn_loop0 (t : Int) (t0 : 0 ≤ t) (t1 : t < 4294967296) (x p : List Int) (c0 c1 c2 c3 : Int) (q : List Int) (e : x = p ++ ([c0, c1, c2, c3] ++ q)) (hb : Bytes x) (hl : x.length < 140737488351310) (k : Nat) (hk : x.length + 200 < k) :
    bordereaulaw1_CrcTurns.l0 k t x (p.length : Int) (sealS x) 0 = some true := by
  obtain ⟨k, rfl⟩ : ∃ m, k = m + 5 := ⟨k - 5, by omega⟩
  have hxl : x.length = p.length + (q.length + 4) := by rw [e]; simp only [List.length_append, List.length_cons, List.length_nil]; omega
  have hc0 := hb c0 (by rw [e]; simp)
  have hc1 := hb c1 (by rw [e]; simp)
  have hc2 := hb c2 (by rw [e]; simp)
  have hc3 := hb c3 (by rw [e]; simp)
  have hu : ∀ z : Int, 0 ≤ IntKind.u64.wrap z := fun z => (bounds_u64 (wf_wrap .u64 z)).1
  have hs : sealS x = (le4 (sumS x) ++ p) ++ c0 :: c1 :: c2 :: c3 :: q := by
    unfold sealS
    rw [List.append_assoc]
    congr 1
  have hP : (le4 (sumS x) ++ p).length = p.length + 4 := by rw [List.length_append]; show 4 + p.length = _; omega
  have hi : ∀ i : Int, 0 ≤ i → i < 4 → wrap64 (wrap64 (4 + (p.length : Int)) + i) = (p.length : Int) + 4 + i := by intro i h0 h4; rw [w64 (4 + (p.length : Int)) (by omega), w64 _ (by omega)]; omega
  have s0 := shr_tb t 0 (by decide)
  have s1 := shr_tb t 1 (by decide)
  have s2 := shr_tb t 2 (by decide)
  have s3 := shr_tb t 3 (by decide)
  rw [hs]
  generalize hPd : le4 (sumS x) ++ p = P at *
  rw [bordereaulaw1_CrcTurns.l0, if_pos (by decide), hi 0 (by decide) (by decide), if_pos (by omega), if_pos (by simp only [List.length_append, List.length_cons]; omega), if_pos (hu _), rd_mid P c0 _ _ (by omega), set_mid P c0 _ _ _ (by omega)]
  have e0 : shr .u32 t (IntKind.u64.wrap (wrap64 (8 * (0 : Int)))) % 256 = tb t 0 := s0
  rw [e0, show wrap64 ((0 : Int) + 1) = 1 by rw [w64 _ (by decide)]; rfl]
  rw [bordereaulaw1_CrcTurns.l0, if_pos (by decide), hi 1 (by decide) (by decide), if_pos (by omega), if_pos (by simp only [List.length_append, List.length_cons, List.length_nil]; omega), if_pos (hu _), rd_mid (P ++ [_]) c1 _ _ (by simp only [List.length_append, List.length_cons, List.length_nil]; omega), set_mid (P ++ [_]) c1 _ _ _ (by simp only [List.length_append, List.length_cons, List.length_nil]; omega)]
  have e1 : shr .u32 t (IntKind.u64.wrap (wrap64 (8 * (1 : Int)))) % 256 = tb t 1 := s1
  rw [e1, show wrap64 ((1 : Int) + 1) = 2 by rw [w64 _ (by decide)]; rfl]
  rw [bordereaulaw1_CrcTurns.l0, if_pos (by decide), hi 2 (by decide) (by decide), if_pos (by omega), if_pos (by simp only [List.length_append, List.length_cons, List.length_nil]; omega), if_pos (hu _), rd_mid (P ++ [_] ++ [_]) c2 _ _ (by simp only [List.length_append, List.length_cons, List.length_nil]; omega), set_mid (P ++ [_] ++ [_]) c2 _ _ _ (by simp only [List.length_append, List.length_cons, List.length_nil]; omega)]
  have e2 : shr .u32 t (IntKind.u64.wrap (wrap64 (8 * (2 : Int)))) % 256 = tb t 2 := s2
  rw [e2, show wrap64 ((2 : Int) + 1) = 3 by rw [w64 _ (by decide)]; rfl]
  rw [bordereaulaw1_CrcTurns.l0, if_pos (by decide), hi 3 (by decide) (by decide), if_pos (by omega), if_pos (by simp only [List.length_append, List.length_cons, List.length_nil]; omega), if_pos (hu _), rd_mid (P ++ [_] ++ [_] ++ [_]) c3 _ _ (by simp only [List.length_append, List.length_cons, List.length_nil]; omega), set_mid (P ++ [_] ++ [_] ++ [_]) c3 _ _ _ (by simp only [List.length_append, List.length_cons, List.length_nil]; omega)]
  have e3 : shr .u32 t (IntKind.u64.wrap (wrap64 (8 * (3 : Int)))) % 256 = tb t 3 := s3
  rw [e3, show wrap64 ((3 : Int) + 1) = 4 by rw [w64 _ (by decide)]; rfl]
  have hfin : P ++ [bits .xor .u8 c0 (tb t 0)] ++ [bits .xor .u8 c1 (tb t 1)] ++ [bits .xor .u8 c2 (tb t 2)] ++ [bits .xor .u8 c3 (tb t 3)] ++ q = le4 (sumS x) ++ turned p c0 c1 c2 c3 q t := by
    rw [← hPd]; simp only [turned, List.append_assoc, List.cons_append, List.nil_append]
  have htb : Bytes (turned p c0 c1 c2 c3 q t) := by
    unfold turned
    refine bytes_app (fun y hy => hb y (by rw [e]; simp [hy])) (bytes_app ?_ (fun y hy => hb y (by rw [e]; simp [hy])))
    intro y hy
    simp only [List.mem_cons, List.not_mem_nil, or_false] at hy
    rcases hy with rfl | rfl | rfl | rfl <;> exact bits_u8 _ _ _
  have htl : (turned p c0 c1 c2 c3 q t).length = x.length := by unfold turned; simp only [List.length_append, List.length_cons, List.length_nil]; omega
  have hfl : (le4 (sumS x) ++ turned p c0 c1 c2 c3 q t).length = x.length + 4 := by rw [List.length_append, htl]; show 4 + _ = _; omega
  have hts := turned_sum p c0 c1 c2 c3 q t hc0 hc1 hc2 hc3 t0 t1
  rw [← e] at hts
  rw [bordereaulaw1_CrcTurns.l0, if_neg (by decide), hfin, check_spec _ (bytes_app (le4_bytes _) htb) (by omega) _ (by omega), Option.bind_some, check_seal _ _ (sumS_range x)]
  have hd : (le4 (sumS x) ++ turned p c0 c1 c2 c3 q t).drop 4 = turned p c0 c1 c2 c3 q t := rfl
  rw [hd, of_spec _ htb (by omega) _ (by omega), of_spec x hb (by omega) _ (by omega)]
  by_cases ht : t = 0
  · rw [if_pos (hts.2 ht), if_pos (by rw [ht]; rfl), if_pos (by omega), Option.bind_some, Option.bind_some, if_pos (by rw [hts.2 ht, ht]; simp), known_true _ (by omega), Option.bind_some]
  · have hne : ¬ sumS (turned p c0 c1 c2 c3 q t) = sumS x := fun h => ht (hts.1 h)
    have f1 : (t == 0) = false := beq_eq_false_iff_ne.2 ht
    have f2 : (sumS (turned p c0 c1 c2 c3 q t) == sumS x) = false := beq_eq_false_iff_ne.2 hne
    rw [if_neg hne, f1, if_pos (by rfl), if_pos (by omega), Option.bind_some, Option.bind_some, f2, if_pos (by rfl), known_true _ (by omega), Option.bind_some]
theorem turn_loop100 (t : Int) (t0 : 0 ≤ t) (t1 : t < 4294967296) (x p : List Int) (c0 c1 c2 c3 : Int) (q : List Int) (e : x = p ++ ([c0, c1, c2, c3] ++ q)) (hb : Bytes x) (hl : x.length < 140737488351310) (k : Nat) (hk : x.length + 200 < k) :
    bordereaulaw1_CrcTurns.l100 k t x (p.length : Int) (sealS x) 0 = some true := by
  obtain ⟨k, rfl⟩ : ∃ m, k = m + 5 := ⟨k - 5, by omega⟩
  have hxl : x.length = p.length + (q.length + 4) := by rw [e]; simp only [List.length_append, List.length_cons, List.length_nil]; omega
  have hc0 := hb c0 (by rw [e]; simp)
  have hc1 := hb c1 (by rw [e]; simp)
  have hc2 := hb c2 (by rw [e]; simp)
  have hc3 := hb c3 (by rw [e]; simp)
  have hu : ∀ z : Int, 0 ≤ IntKind.u64.wrap z := fun z => (bounds_u64 (wf_wrap .u64 z)).1
  have hs : sealS x = (le4 (sumS x) ++ p) ++ c0 :: c1 :: c2 :: c3 :: q := by
    unfold sealS
    rw [List.append_assoc]
    congr 1
  have hP : (le4 (sumS x) ++ p).length = p.length + 4 := by rw [List.length_append]; show 4 + p.length = _; omega
  have hi : ∀ i : Int, 0 ≤ i → i < 4 → wrap64 (wrap64 (4 + (p.length : Int)) + i) = (p.length : Int) + 4 + i := by intro i h0 h4; rw [w64 (4 + (p.length : Int)) (by omega), w64 _ (by omega)]; omega
  have s0 := shr_tb t 0 (by decide)
  have s1 := shr_tb t 1 (by decide)
  have s2 := shr_tb t 2 (by decide)
  have s3 := shr_tb t 3 (by decide)
  rw [hs]
  generalize hPd : le4 (sumS x) ++ p = P at *
  rw [bordereaulaw1_CrcTurns.l100, if_pos (by decide), hi 0 (by decide) (by decide), if_pos (by omega), if_pos (by simp only [List.length_append, List.length_cons]; omega), if_pos (hu _), rd_mid P c0 _ _ (by omega), set_mid P c0 _ _ _ (by omega)]
  have e0 : shr .u32 t (IntKind.u64.wrap (wrap64 (8 * (0 : Int)))) % 256 = tb t 0 := s0
  rw [e0, show wrap64 ((0 : Int) + 1) = 1 by rw [w64 _ (by decide)]; rfl]
  rw [bordereaulaw1_CrcTurns.l100, if_pos (by decide), hi 1 (by decide) (by decide), if_pos (by omega), if_pos (by simp only [List.length_append, List.length_cons, List.length_nil]; omega), if_pos (hu _), rd_mid (P ++ [_]) c1 _ _ (by simp only [List.length_append, List.length_cons, List.length_nil]; omega), set_mid (P ++ [_]) c1 _ _ _ (by simp only [List.length_append, List.length_cons, List.length_nil]; omega)]
  have e1 : shr .u32 t (IntKind.u64.wrap (wrap64 (8 * (1 : Int)))) % 256 = tb t 1 := s1
  rw [e1, show wrap64 ((1 : Int) + 1) = 2 by rw [w64 _ (by decide)]; rfl]
  rw [bordereaulaw1_CrcTurns.l100, if_pos (by decide), hi 2 (by decide) (by decide), if_pos (by omega), if_pos (by simp only [List.length_append, List.length_cons, List.length_nil]; omega), if_pos (hu _), rd_mid (P ++ [_] ++ [_]) c2 _ _ (by simp only [List.length_append, List.length_cons, List.length_nil]; omega), set_mid (P ++ [_] ++ [_]) c2 _ _ _ (by simp only [List.length_append, List.length_cons, List.length_nil]; omega)]
  have e2 : shr .u32 t (IntKind.u64.wrap (wrap64 (8 * (2 : Int)))) % 256 = tb t 2 := s2
  rw [e2, show wrap64 ((2 : Int) + 1) = 3 by rw [w64 _ (by decide)]; rfl]
  rw [bordereaulaw1_CrcTurns.l100, if_pos (by decide), hi 3 (by decide) (by decide), if_pos (by omega), if_pos (by simp only [List.length_append, List.length_cons, List.length_nil]; omega), if_pos (hu _), rd_mid (P ++ [_] ++ [_] ++ [_]) c3 _ _ (by simp only [List.length_append, List.length_cons, List.length_nil]; omega), set_mid (P ++ [_] ++ [_] ++ [_]) c3 _ _ _ (by simp only [List.length_append, List.length_cons, List.length_nil]; omega)]
  have e3 : shr .u32 t (IntKind.u64.wrap (wrap64 (8 * (3 : Int)))) % 256 = tb t 3 := s3
  rw [e3, show wrap64 ((3 : Int) + 1) = 4 by rw [w64 _ (by decide)]; rfl]
  have hfin : P ++ [bits .xor .u8 c0 (tb t 0)] ++ [bits .xor .u8 c1 (tb t 1)] ++ [bits .xor .u8 c2 (tb t 2)] ++ [bits .xor .u8 c3 (tb t 3)] ++ q = le4 (sumS x) ++ turned p c0 c1 c2 c3 q t := by
    rw [← hPd]; simp only [turned, List.append_assoc, List.cons_append, List.nil_append]
  have htb : Bytes (turned p c0 c1 c2 c3 q t) := by
    unfold turned
    refine bytes_app (fun y hy => hb y (by rw [e]; simp [hy])) (bytes_app ?_ (fun y hy => hb y (by rw [e]; simp [hy])))
    intro y hy
    simp only [List.mem_cons, List.not_mem_nil, or_false] at hy
    rcases hy with rfl | rfl | rfl | rfl <;> exact bits_u8 _ _ _
  have htl : (turned p c0 c1 c2 c3 q t).length = x.length := by unfold turned; simp only [List.length_append, List.length_cons, List.length_nil]; omega
  have hfl : (le4 (sumS x) ++ turned p c0 c1 c2 c3 q t).length = x.length + 4 := by rw [List.length_append, htl]; show 4 + _ = _; omega
  have hts := turned_sum p c0 c1 c2 c3 q t hc0 hc1 hc2 hc3 t0 t1
  rw [← e] at hts
  rw [bordereaulaw1_CrcTurns.l100, if_neg (by decide), hfin, check_spec _ (bytes_app (le4_bytes _) htb) (by omega) _ (by omega), Option.bind_some, check_seal _ _ (sumS_range x)]
  have hd : (le4 (sumS x) ++ turned p c0 c1 c2 c3 q t).drop 4 = turned p c0 c1 c2 c3 q t := rfl
  rw [hd, of_spec _ htb (by omega) _ (by omega), of_spec x hb (by omega) _ (by omega)]
  by_cases ht : t = 0
  · rw [if_pos (hts.2 ht), if_pos (by rw [ht]; rfl), if_pos (by omega), Option.bind_some, Option.bind_some, if_pos (by rw [hts.2 ht, ht]; simp), known_true _ (by omega), Option.bind_some]
  · have hne : ¬ sumS (turned p c0 c1 c2 c3 q t) = sumS x := fun h => ht (hts.1 h)
    have f1 : (t == 0) = false := beq_eq_false_iff_ne.2 ht
    have f2 : (sumS (turned p c0 c1 c2 c3 q t) == sumS x) = false := beq_eq_false_iff_ne.2 hne
    rw [if_neg hne, f1, if_pos (by rfl), if_pos (by omega), Option.bind_some, Option.bind_some, f2, if_pos (by rfl), known_true _ (by omega), Option.bind_some]
theorem turns : bordereaulaw1_CrcTurns.Pure := by
  intro l0 a1 a2 _ hl hb h1 h2
  have hB := lits l0 hb
  have b1 := bounds_i64 h1
  have b2 := bounds_u32 h2
  have key : ∀ (l : List Int), Bytes l → l.length < 140737488351300 → ∃ (K : Int) (p : List Int) (c0 c1 c2 c3 : Int) (q : List Int), (l ++ [1, 2, 3, 4] : List Int) = p ++ ([c0, c1, c2, c3] ++ q) ∧ K = (p.length : Int) ∧ wrap64 (((l ++ [1, 2, 3, 4] : List Int).length : Int) - 3) = (l.length : Int) + 1 ∧ Int.tmod (wrap64 ((wrap64 ((Int.tmod a1 ((l.length : Int) + 1)) + ((l ++ [1, 2, 3, 4] : List Int).length : Int))) - 3)) ((l.length : Int) + 1) = K := by
    intro l hB hl
    have hlen : (l ++ [1, 2, 3, 4] : List Int).length = l.length + 4 := by rw [List.length_append]; rfl
    have t1 := Int.tmod_lt_of_pos a1 (show 0 < (l.length : Int) + 1 by omega)
    have t2 : -((l.length : Int) + 1) < Int.tmod a1 ((l.length : Int) + 1) := by
      rw [← Int.neg_lt_neg_iff, Int.neg_neg, ← Int.neg_tmod]
      exact Int.tmod_lt_of_pos (-a1) (by omega)
    have hw1 : wrap64 ((Int.tmod a1 ((l.length : Int) + 1)) + ((l ++ [1, 2, 3, 4] : List Int).length : Int)) = Int.tmod a1 ((l.length : Int) + 1) + ((l.length : Int) + 4) := by rw [hlen, w64 _ (by omega)]; omega
    have hw2 : wrap64 (Int.tmod a1 ((l.length : Int) + 1) + ((l.length : Int) + 4) - 3) = Int.tmod a1 ((l.length : Int) + 1) + ((l.length : Int) + 1) := by rw [w64 _ (by omega)]; omega
    have m0 : 0 ≤ Int.tmod (Int.tmod a1 ((l.length : Int) + 1) + ((l.length : Int) + 1)) ((l.length : Int) + 1) := Int.tmod_nonneg _ (by omega)
    have m1 := Int.tmod_lt_of_pos (Int.tmod a1 ((l.length : Int) + 1) + ((l.length : Int) + 1)) (show 0 < (l.length : Int) + 1 by omega)
    rw [hw1, hw2, hlen]
    generalize Int.tmod (Int.tmod a1 ((l.length : Int) + 1) + ((l.length : Int) + 1)) ((l.length : Int) + 1) = K at *
    obtain ⟨n, rfl⟩ := Int.eq_ofNat_of_zero_le m0
    obtain ⟨c0, c1, c2, c3, q, hq⟩ := cut4 ((l ++ [1, 2, 3, 4] : List Int).drop n) (by rw [List.length_drop, hlen]; omega)
    refine ⟨_, (l ++ [1, 2, 3, 4] : List Int).take n, c0, c1, c2, c3, q, ?_, ?_, ?_, rfl⟩
    · have := (List.take_append_drop n (l ++ [1, 2, 3, 4] : List Int)).symm
      rw [hq] at this
      exact this
    · rw [List.length_take, hlen]; omega
    · rw [w64 _ (by omega)]; omega
  refine ⟨l0.length + 400, ?_⟩
  unfold bordereaulaw1_CrcTurns.f
  have b4 : Bytes ([1, 2, 3, 4] : List Int) := by
    intro x hx
    simp only [List.mem_cons, List.not_mem_nil, or_false] at hx
    omega
  split
  · rename_i h200
    have hB2 : Bytes (l0.take 200) := bytes_take l0 200 hB
    have l200 : (l0.take 200).length = 200 := by rw [List.length_take]; omega
    obtain ⟨K, p, c0, c1, c2, c3, q, e, hK, hw, hm⟩ := key (l0.take 200) hB2 (by omega)
    have hbx : Bytes (l0.take 200 ++ [1, 2, 3, 4]) := bytes_app hB2 b4
    have hxl : (l0.take 200 ++ [1, 2, 3, 4] : List Int).length = 204 := by rw [List.length_append, l200]; rfl
    rw [if_pos (by omega), Option.bind_some, Option.bind_some, if_pos (by simp only [List.length_nil]; omega), List.nil_append, Option.bind_some, Option.bind_some, if_pos (by rw [l200]; decide), Option.bind_some, hw, if_neg (by omega), put_spec _ hbx (by omega) _ (by omega), Option.bind_some, if_pos (by rw [w64 _ (by omega), seal_len]; omega), hm, hK]
    exact turn_loop0 a2 b2.1 (by omega) _ p c0 c1 c2 c3 q e hbx (by omega) _ (by omega)
  · rename_i h200
    obtain ⟨K, p, c0, c1, c2, c3, q, e, hK, hw, hm⟩ := key l0 hB (by omega)
    have hbx : Bytes (l0 ++ [1, 2, 3, 4]) := bytes_app hB b4
    have hxl : (l0 ++ [1, 2, 3, 4] : List Int).length = l0.length + 4 := by rw [List.length_append]; rfl
    rw [Option.bind_some, if_pos (by simp only [List.length_nil]; omega), List.nil_append, Option.bind_some, Option.bind_some, if_pos (by show l0.length + 4 < _; omega), Option.bind_some, hw, if_neg (by omega), put_spec _ hbx (by omega) _ (by omega), Option.bind_some, if_pos (by rw [w64 _ (by omega), seal_len]; omega), hm, hK]
    exact turn_loop100 a2 b2.1 (by omega) _ p c0 c1 c2 c3 q e hbx (by omega) _ (by omega)
end Go.Proofs.Ytddgichochdgcaa.CrcPureT
