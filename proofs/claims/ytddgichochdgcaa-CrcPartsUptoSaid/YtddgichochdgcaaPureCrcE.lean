/- For two rows of at most 1,048,576 bytes CrcParts answers true. -/
import Derived.Test.YtddgichochdgcaaPEx2
import Derived.Laws.BitsAllLaws
import Derived.IntWalk
import Derived.Laws.Strings
import Derived.OpenShut
namespace CrcT
def step (c : BitVec 32) : BitVec 32 := (c >>> 1) ^^^ (if c.getLsbD 0 then 2197175160#32 else 0#32)
theorem step_xor (a b : BitVec 32) : step (a ^^^ b) = step a ^^^ step b := by
  unfold step
  rw [BitVec.ushiftRight_xor_distrib, BitVec.getLsbD_xor]
  cases a.getLsbD 0 <;> cases b.getLsbD 0 <;> simp
  · rw [BitVec.xor_assoc]
  · rw [BitVec.xor_assoc, BitVec.xor_assoc]; congr 1; rw [BitVec.xor_comm]
  · have h : ∀ x y z : BitVec 32, x ^^^ y = x ^^^ z ^^^ (y ^^^ z) := by
      intro x y z
      rw [BitVec.xor_assoc, ← BitVec.xor_assoc z, BitVec.xor_comm z y, BitVec.xor_assoc y, BitVec.xor_self, BitVec.xor_zero]
    exact h _ _ _
theorem step_zero : step 0#32 = 0#32 := by decide
theorem top (c : BitVec 32) : (step c).getLsbD 31 = c.getLsbD 0 := by
  unfold step
  rw [BitVec.getLsbD_xor, BitVec.getLsbD_ushiftRight]
  have h1 : c.getLsbD (1 + 31) = false := BitVec.getLsbD_of_ge _ _ (by decide)
  rw [h1]
  cases c.getLsbD 0
  · rw [if_neg (by decide)]; decide
  · rw [if_pos rfl]; decide
theorem step_ker (c : BitVec 32) (h : step c = 0#32) : c = 0#32 := by
  have h0 : c.getLsbD 0 = false := by rw [← top c, h]; decide
  have h1 : c >>> 1 = 0#32 := by
    have := h
    unfold step at this
    rw [h0, if_neg (by decide), BitVec.xor_zero] at this
    exact this
  apply BitVec.eq_of_getLsbD_eq
  intro i hi
  rw [BitVec.getLsbD_zero]
  match i with
  | 0 => exact h0
  | i + 1 =>
    have := congrArg (fun x => x.getLsbD i) h1
    simp only [BitVec.getLsbD_ushiftRight, BitVec.getLsbD_zero] at this
    rw [Nat.add_comm] at this
    exact this
def T (c : BitVec 32) : BitVec 32 := step (step (step (step (step (step (step (step c)))))))
theorem T_xor (a b : BitVec 32) : T (a ^^^ b) = T a ^^^ T b := by simp only [T, step_xor]
theorem T_ker (c : BitVec 32) (h : T c = 0#32) : c = 0#32 := step_ker _ (step_ker _ (step_ker _ (step_ker _ (step_ker _ (step_ker _ (step_ker _ (step_ker _ h)))))))
theorem T_zero : T 0#32 = 0#32 := by decide
theorem step_shift (x : BitVec 32) (n : Nat) (hn : n < 32) (h : x.toNat < 2 ^ (31 - n)) : step (x <<< (n + 1)) = x <<< n := by
  unfold step
  have h0 : (x <<< (n + 1)).getLsbD 0 = false := by rw [BitVec.getLsbD_shiftLeft]; simp
  rw [h0, if_neg (by decide), BitVec.xor_zero]
  apply BitVec.eq_of_toNat_eq
  have e : 2 ^ 32 = 2 ^ (31 - n) * 2 ^ (n + 1) := by rw [← Nat.pow_add]; congr 1; omega
  have hl : x.toNat * 2 ^ (n + 1) < 2 ^ 32 := by rw [e]; exact Nat.mul_lt_mul_of_pos_right h (Nat.two_pow_pos _)
  have hl2 : x.toNat * 2 ^ n < 2 ^ 32 := Nat.lt_of_le_of_lt (Nat.mul_le_mul_left _ (Nat.pow_le_pow_right (by decide) (by omega))) hl
  rw [BitVec.toNat_ushiftRight, BitVec.toNat_shiftLeft, BitVec.toNat_shiftLeft, Nat.shiftLeft_eq, Nat.shiftLeft_eq, Nat.shiftRight_eq_div_pow, Nat.mod_eq_of_lt hl, Nat.mod_eq_of_lt hl2, Nat.pow_succ, ← Nat.mul_assoc, Nat.pow_one, Nat.mul_div_cancel _ (by decide)]
theorem T_shift (x : BitVec 32) (h : x.toNat < 2 ^ 24) : T (x <<< 8) = x := by
  have g : ∀ n, n < 8 → x.toNat < 2 ^ (31 - n) := fun n hn => Nat.lt_of_lt_of_le h (Nat.pow_le_pow_right (by decide) (by omega))
  unfold T
  rw [step_shift x 7 (by decide) (g 7 (by decide)), step_shift x 6 (by decide) (g 6 (by decide)), step_shift x 5 (by decide) (g 5 (by decide)), step_shift x 4 (by decide) (g 4 (by decide)), step_shift x 3 (by decide) (g 3 (by decide)), step_shift x 2 (by decide) (g 2 (by decide)), step_shift x 1 (by decide) (g 1 (by decide)), step_shift x 0 (by decide) (g 0 (by decide))]
  exact BitVec.shiftLeft_zero x
theorem xz (a b : BitVec 32) : a ^^^ b = 0#32 ↔ a = b := by
  constructor
  · intro h
    have := congrArg (fun x => x ^^^ b) h
    simpa [BitVec.xor_assoc] using this
  · rintro rfl; exact BitVec.xor_self
/-- Four bytes in a row that differ from another four by t0, t1, t2, t3. -/
theorem four (t0 t1 t2 t3 : BitVec 32) (_h0 : t0.toNat < 256) (h1 : t1.toNat < 256) (h2 : t2.toNat < 256) (h3 : t3.toNat < 256) :
    T (T (T (T t0 ^^^ t1) ^^^ t2) ^^^ t3) = T (T (T (T (t0 ^^^ ((t1 ^^^ ((t2 ^^^ (t3 <<< 8)) <<< 8)) <<< 8))))) := by
  have s3 : (t3 <<< 8).toNat = t3.toNat * 256 := by rw [BitVec.toNat_shiftLeft, Nat.shiftLeft_eq, Nat.mod_eq_of_lt (by omega)]
  have u2 : (t2 ^^^ (t3 <<< 8)).toNat < 2 ^ 16 := by
    rw [BitVec.toNat_xor]; exact Nat.xor_lt_two_pow (by omega) (by omega)
  have s2 : ((t2 ^^^ (t3 <<< 8)) <<< 8).toNat = (t2 ^^^ (t3 <<< 8)).toNat * 256 := by rw [BitVec.toNat_shiftLeft, Nat.shiftLeft_eq, Nat.mod_eq_of_lt (by omega)]
  have u1 : (t1 ^^^ ((t2 ^^^ (t3 <<< 8)) <<< 8)).toNat < 2 ^ 24 := by
    rw [BitVec.toNat_xor]; exact Nat.xor_lt_two_pow (by omega) (by omega)
  rw [T_xor t0, T_shift _ u1, ← BitVec.xor_assoc, T_xor (T t0 ^^^ t1), T_shift _ (by omega), ← BitVec.xor_assoc, T_xor (T (T t0 ^^^ t1) ^^^ t2), T_shift _ (by omega)]
end CrcT
namespace Go.Proofs.Ytddgichochdgcaa.CrcPureE
open Go Go.RowKit Go.Proofs.Ytddgichochdgcaa.PE Go.Proofs.YtddgichochdgcaaV.PrintWords Go.Proofs.YtddgichochdgcaaV.PrintLast Go.Proofs.YtddgichochdgcaaV.PrintMore
set_option linter.unusedVariables false
theorem w64 (n : Int) (h : -9223372036854775808 ≤ n ∧ n ≤ 9223372036854775807) : wrap64 n = n := by unfold wrap64; omega
def I (c : BitVec 32) : Int := (c.toNat : Int)
theorem I_range (c : BitVec 32) : 0 ≤ I c ∧ I c < 4294967296 := by have := c.isLt; unfold I; omega
theorem I_of (a : Int) (h0 : 0 ≤ a) (h1 : a < 4294967296) : I (BitVec.ofInt 32 a) = a := by
  unfold I; rw [BitVec.toNat_ofInt]; have : ((2 ^ 32 : Nat) : Int) = 4294967296 := by decide
  rw [this]; omega
theorem I_xor (a b : BitVec 32) : bits .xor .u32 (I a) (I b) = I (a ^^^ b) := by
  obtain ⟨h0, h1⟩ := I_range a
  obtain ⟨h2, h3⟩ := I_range b
  rw [u32_xor _ _ h0 h1 h2 h3]
  unfold I
  rw [Int.toNat_natCast, Int.toNat_natCast, BitVec.toNat_xor]
theorem I_low (c : BitVec 32) : bits .and .u32 (I c) 1 = if c.getLsbD 0 then 1 else 0 := by
  obtain ⟨h0, h1⟩ := I_range c
  rw [u32_and _ 1 h0 h1 (by decide) (by decide)]
  have e : (1 : Int).toNat = 1 := rfl
  rw [e, nat_mask1]
  have e2 : c.getLsbD 0 = decide (c.toNat % 2 = 1) := by
    rw [BitVec.getLsbD, Nat.testBit_zero]
  rw [e2]
  unfold I
  rw [Int.toNat_natCast]
  have := Nat.mod_two_eq_zero_or_one c.toNat
  rcases this with h | h <;> rw [h] <;> rfl
theorem I_half (c : BitVec 32) : I c / (2 : Int) = I (c >>> 1) := by
  unfold I
  rw [BitVec.toNat_ushiftRight, Nat.shiftRight_eq_div_pow]
  rfl
theorem step_own (c : BitVec 32) : bits .xor .u32 (I c / 2) ((2197175160 * (bits .and .u32 (I c) 1)) % 4294967296) = I (CrcT.step c) := by
  rw [I_low, I_half]
  unfold CrcT.step
  have e1 : I 2197175160#32 = 2197175160 := by decide
  have e0 : I 0#32 = 0 := by decide
  cases c.getLsbD 0
  · rw [if_neg (by decide), if_neg (by decide), ← I_xor, e0]; rfl
  · rw [if_pos rfl, if_pos rfl, ← I_xor, e1]; rfl
def steps : Nat → BitVec 32 → BitVec 32
  | 0, c => c
  | n + 1, c => steps n (CrcT.step c)
theorem own_loop (d : Nat) : ∀ (k : Nat) (c : BitVec 32) (i : Int), 0 ≤ i → i + d = 8 → d < k → crc_Next.l0 k (I c) i = some (I (steps d c)) := by
  induction d with
  | zero =>
    intro k c i h0 hi hk
    obtain ⟨k, rfl⟩ : ∃ m, k = m + 1 := ⟨k - 1, by omega⟩
    rw [crc_Next.l0, if_neg (by omega)]; rfl
  | succ d ih =>
    intro k c i h0 hi hk
    obtain ⟨k, rfl⟩ : ∃ m, k = m + 1 := ⟨k - 1, by omega⟩
    rw [crc_Next.l0, if_pos (by omega), step_own, w64 _ (by omega), ih k _ (i + 1) (by omega) (by omega) (by omega)]; rfl
theorem steps8 (c : BitVec 32) : steps 8 c = CrcT.T c := rfl
def bv (b : Int) : BitVec 32 := BitVec.ofInt 32 b
theorem next_own (k : Nat) (c : BitVec 32) (b : Int) (h0 : 0 ≤ b) (h1 : b < 256) (hk : 8 < k) : crc_Next.f k (I c) b = some (I (CrcT.T (c ^^^ bv b))) := by
  unfold crc_Next.f
  rw [show b % 4294967296 = I (bv b) by rw [bv, I_of b h0 (by omega)]; omega, I_xor, own_loop 8 k _ 0 (by decide) rfl hk, steps8]
/-- The state behind a row of bytes. -/
def run (c : BitVec 32) (l : List Int) : BitVec 32 := l.foldl (fun c b => CrcT.T (c ^^^ bv b)) c
def Bytes (l : List Int) : Prop := ∀ x ∈ l, 0 ≤ x ∧ x < 256
def sumS (l : List Int) : Int := I (~~~ (run 4294967295#32 l))
theorem I_not (c : BitVec 32) : bits .xor .u32 IntKind.u32.max (I c) = I (~~~ c) := by
  have e : IntKind.u32.max = I 4294967295#32 := by decide
  rw [e, I_xor]
  have e2 : (4294967295#32 : BitVec 32) = BitVec.allOnes 32 := by decide
  rw [e2, BitVec.allOnes_xor]
theorem rd_at (l : List Int) (i : Nat) (h : i < l.length) : rd l (i : Int) = l[i] := by
  unfold rd
  rw [Int.toNat_natCast, List.getD_eq_getElem?_getD, List.getElem?_eq_getElem h]; rfl
theorem run_drop (c : BitVec 32) (l : List Int) (i : Nat) (h : i < l.length) : run c (l.drop i) = run (CrcT.T (c ^^^ bv l[i])) (l.drop (i + 1)) := by
  rw [List.drop_eq_getElem_cons h]; rfl
theorem of_loop (l : List Int) (hb : Bytes l) (hn : l.length < 9223372036854775807) (d : Nat) : ∀ (k : Nat) (c : BitVec 32) (i : Nat), i + d = l.length → d + 9 < k → crc_Of.l0 k (I c) l (l.length : Int) (i : Int) = some (I (~~~ (run c (l.drop i)))) := by
  induction d with
  | zero =>
    intro k c i hi hk
    obtain ⟨k, rfl⟩ : ∃ m, k = m + 1 := ⟨k - 1, by omega⟩
    rw [crc_Of.l0, if_neg (by omega), I_not, List.drop_eq_nil_of_le (by omega)]; rfl
  | succ d ih =>
    intro k c i hi hk
    obtain ⟨k, rfl⟩ : ∃ m, k = m + 1 := ⟨k - 1, by omega⟩
    have hx := hb l[i] (List.getElem_mem _)
    rw [crc_Of.l0, if_pos (by omega), if_pos (by omega), if_pos (by omega), rd_at l i (by omega), next_own k c _ hx.1 hx.2 (by omega), Option.bind_some, w64 _ (by omega)]
    have := ih k (CrcT.T (c ^^^ bv l[i])) (i + 1) (by omega) (by omega)
    rw [Int.natCast_add] at this
    rw [run_drop c l i (by omega)]
    exact this
theorem of_spec (l : List Int) (hb : Bytes l) (hn : l.length < 9223372036854775807) (k : Nat) (hk : l.length + 9 < k) : crc_Of.f k l = some (sumS l) := by
  unfold crc_Of.f
  have := of_loop l hb hn l.length k 4294967295#32 0 (by omega) hk
  exact this
def le4 (s : Int) : List Int := [s % 256, (s / 256) % 256, (s / 65536) % 256, (s / 16777216) % 256]
def sealS (l : List Int) : List Int := le4 (sumS l) ++ l
theorem le4_bytes (s : Int) : Bytes (le4 s) := by
  intro x hx
  simp only [le4, List.mem_cons, List.not_mem_nil, or_false] at hx
  omega
theorem seal_bytes (l : List Int) (hb : Bytes l) : Bytes (sealS l) := by
  intro x hx
  rcases List.mem_append.1 hx with h | h
  · exact le4_bytes _ x h
  · exact hb x h
theorem seal_len (l : List Int) : (sealS l).length = l.length + 4 := by simp only [sealS, List.length_append, le4, List.length_cons, List.length_nil]; omega
theorem put_spec (l : List Int) (hb : Bytes l) (hn : l.length + 4 < 140737488355328) (k : Nat) (hk : l.length + 9 < k) : crc_Put.f k l = some (sealS l) := by
  unfold crc_Put.f
  rw [of_spec l hb (by omega) k hk, Option.bind_some]
  unfold slices_Concat_byte_byte_2.f
  rw [if_pos (by simp only [List.length_cons, List.length_nil]; omega), Option.bind_some]; rfl
/-- The number that four bytes are. -/
def word (l : List Int) : Int := rd l 0 + rd l 1 * 256 + rd l 2 * 65536 + rd l 3 * 16777216
theorem or_u32 (i : Nat) (x y : Int) (hx0 : 0 ≤ x) (hx : x < 2 ^ i) (hy0 : 0 ≤ y) (hy : y % 2 ^ i = 0) (hx1 : x < 4294967296) (hy1 : y < 4294967296) : bits .or .u32 x y = x + y := by
  rw [u32_or x y hx0 hx1 hy0 hy1]
  obtain ⟨a, rfl⟩ := Int.eq_ofNat_of_zero_le hx0
  obtain ⟨b, rfl⟩ := Int.eq_ofNat_of_zero_le hy0
  have h1 : a < 2 ^ i := by exact_mod_cast hx
  have h2 : b % 2 ^ i = 0 := by exact_mod_cast hy
  rw [Int.toNat_natCast, Int.toNat_natCast, Nat.or_comm, nat_join i b a h2 h1]
  omega
theorem word_spec (a b c d : Int) (ha : 0 ≤ a ∧ a < 256) (hb : 0 ≤ b ∧ b < 256) (hc : 0 ≤ c ∧ c < 256) (hd : 0 ≤ d ∧ d < 256) :
    bits .or .u32 (bits .or .u32 (bits .or .u32 (a % 4294967296) (((b % 4294967296) * 256) % 4294967296)) (((c % 4294967296) * 65536) % 4294967296)) (((d % 4294967296) * 16777216) % 4294967296) = a + b * 256 + c * 65536 + d * 16777216 := by
  have e1 : a % 4294967296 = a := by omega
  have e2 : ((b % 4294967296) * 256) % 4294967296 = b * 256 := by omega
  have e3 : ((c % 4294967296) * 65536) % 4294967296 = c * 65536 := by omega
  have e4 : ((d % 4294967296) * 16777216) % 4294967296 = d * 16777216 := by omega
  rw [e1, e2, e3, e4]
  have p8 : (2 : Int) ^ 8 = 256 := by decide
  have p16 : (2 : Int) ^ 16 = 65536 := by decide
  have p24 : (2 : Int) ^ 24 = 16777216 := by decide
  rw [or_u32 8 a (b * 256) ha.1 (by omega) (by omega) (by omega) (by omega) (by omega), or_u32 16 (a + b * 256) (c * 65536) (by omega) (by omega) (by omega) (by omega) (by omega) (by omega), or_u32 24 (a + b * 256 + c * 65536) (d * 16777216) (by omega) (by omega) (by omega) (by omega) (by omega) (by omega)]
theorem cut4 (l : List Int) (h : 4 ≤ l.length) : ∃ a b c d r, l = a :: b :: c :: d :: r := by
  match l, h with
  | a :: b :: c :: d :: r, _ => exact ⟨a, b, c, d, r, rfl⟩
/-- What Check and Unseal tell. -/
def checkS (l : List Int) : List Int × Bool := if l.length < 4 then ([], false) else if sumS (l.drop 4) = word l then (l.drop 4, true) else ([], false)
theorem bytes_drop (l : List Int) (n : Nat) (hb : Bytes l) : Bytes (l.drop n) := fun x hx => hb x (List.mem_of_mem_drop hx)
theorem check_spec (l : List Int) (hb : Bytes l) (hn : l.length + 4 < 140737488355328) (k : Nat) (hk : l.length + 9 < k) : crc_Check.f k l = some (checkS l) := by
  unfold crc_Check.f checkS
  by_cases h : l.length < 4
  · rw [if_pos (by omega), if_pos h]
  · rw [if_neg (by omega), if_pos (by omega), if_pos (by omega), if_pos (by omega), if_pos (by omega), if_pos (by omega), if_neg h, of_spec (l.drop 4) (bytes_drop l 4 hb) (by rw [List.length_drop]; omega) k (by rw [List.length_drop]; omega), Option.bind_some]
    obtain ⟨a, b, c, d, r, rfl⟩ := cut4 l (by omega)
    have e0 : rd (a :: b :: c :: d :: r) 0 = a := rfl
    have e1 : rd (a :: b :: c :: d :: r) 1 = b := rfl
    have e2 : rd (a :: b :: c :: d :: r) 2 = c := rfl
    have e3 : rd (a :: b :: c :: d :: r) 3 = d := rfl
    have hw : word (a :: b :: c :: d :: r) = a + b * 256 + c * 65536 + d * 16777216 := rfl
    rw [e0, e1, e2, e3, word_spec a b c d (hb a (by simp)) (hb b (by simp)) (hb c (by simp)) (hb d (by simp)), hw]
    split
    · unfold slices_Clone_byte_byte.f
      rw [if_pos (by rw [List.length_drop]; omega), Option.bind_some]
    · rfl
theorem bytes_set (l : List Int) (n : Nat) (x : Int) (hb : Bytes l) (hx : 0 ≤ x ∧ x < 256) : Bytes (l.set n x) := by
  intro y hy
  rcases List.mem_or_eq_of_mem_set hy with h | h
  · exact hb y h
  · rw [h]; exact hx
theorem bytes_take (l : List Int) (n : Nat) (hb : Bytes l) : Bytes (l.take n) := fun x hx => hb x (List.mem_of_mem_take hx)
theorem bits_u8 (op : BinOp) (x y : Int) : 0 ≤ bits op .u8 x y ∧ bits op .u8 x y < 256 := by
  have := bounds_u8 (wf_bits op .u8 x y)
  omega
theorem bits_u32 (op : BinOp) (x y : Int) : 0 ≤ bits op .u32 x y ∧ bits op .u32 x y < 4294967296 := by
  have := bounds_u32 (wf_bits op .u32 x y)
  omega
theorem lits (l : List Int) (h : ∀ x ∈ l, (Lit.int .u8 x).wf = true) : Bytes l := fun x hx => by have := bounds_u8 (h x hx); omega
theorem known_true (k : Nat) (hk : 42 < k) : bordereaulaw1_known.f k = some true := by
  have h : bordereaulaw1_known.f 43 = some true := by decide +kernel
  have := more_rounds bordereaulaw1_known.mono 43 (k - 43) true h
  rwa [show 43 + (k - 43) = k by omega] at this
theorem sumS_range (l : List Int) : 0 ≤ sumS l ∧ sumS l < 4294967296 := I_range _
theorem run_app (c : BitVec 32) (l m : List Int) : run c (l ++ m) = run (run c l) m := List.foldl_append
theorem word_seal (s : Int) (r : List Int) (h : 0 ≤ s ∧ s < 4294967296) : word (le4 s ++ r) = s := by
  have h0 : rd (le4 s ++ r) 0 = s % 256 := rfl
  have h1 : rd (le4 s ++ r) 1 = (s / 256) % 256 := rfl
  have h2 : rd (le4 s ++ r) 2 = (s / 65536) % 256 := rfl
  have h3 : rd (le4 s ++ r) 3 = (s / 16777216) % 256 := rfl
  unfold word
  rw [h0, h1, h2, h3]; omega
theorem check_seal (s : Int) (r : List Int) (h : 0 ≤ s ∧ s < 4294967296) : checkS (le4 s ++ r) = if sumS r = s then (r, true) else ([], false) := by
  have hd : (le4 s ++ r).drop 4 = r := rfl
  unfold checkS
  rw [if_neg (by simp only [List.length_append, le4, List.length_cons, List.length_nil]; omega), hd, word_seal s r h]
theorem I_inj (a b : BitVec 32) (h : I a = I b) : a = b := by
  unfold I at h
  exact BitVec.eq_of_toNat_eq (by omega)
theorem I_not2 (c : BitVec 32) : bits .xor .u32 IntKind.u32.max (I (~~~c)) = I c := by rw [I_not, BitVec.not_not]
theorem bytes_app {l m : List Int} (h : Bytes l) (k : Bytes m) : Bytes (l ++ m) := fun x hx => (List.mem_append.1 hx).elim (h x) (k x)
theorem parts_end (k : Nat) (a b : List Int) (ha : Bytes a) (hb : Bytes b) (la : a.length ≤ 1048576) (lb : b.length ≤ 1048576) (hk : 2097400 < k) : bordereaulaw1_CrcParts.l0 k a b (I (run 4294967295#32 (a ++ b))) b (b.length : Int) (b.length : Int) = some true := by
  obtain ⟨k, rfl⟩ : ∃ m, k = m + 1 := ⟨k - 1, by omega⟩
  have hs := seal_len a
  have hsb := seal_bytes a ha
  have h1 : Bytes [1] := fun x hx => by rw [List.mem_singleton] at hx; omega
  have l1 : ([1] : List Int).length = 1 := rfl
  have hc1 : checkS (sealS a) = (a, true) := by unfold sealS; rw [check_seal _ _ (sumS_range a), if_pos rfl]
  have hc2 : checkS (sealS a ++ [1]) = if sumS (a ++ [1]) = sumS a then (a ++ [1], true) else ([], false) := by unfold sealS; rw [List.append_assoc, check_seal _ _ (sumS_range a)]
  rw [bordereaulaw1_CrcParts.l0, if_neg (by omega), put_spec a ha (by omega) k (by omega), Option.bind_some, check_spec _ hsb (by omega) k (by omega), Option.bind_some, Option.bind_some, if_pos (by simp only [List.length_nil]; omega), List.nil_append, Option.bind_some, if_pos (by omega),
    check_spec _ (bytes_app hsb h1) (by rw [List.length_append]; omega) k (by rw [List.length_append]; omega), Option.bind_some, Option.bind_some, if_pos (by simp only [List.length_nil]; omega), List.nil_append, Option.bind_some, if_pos (by omega),
    of_spec _ (bytes_app ha hb) (by rw [List.length_append]; omega) k (by rw [List.length_append]; omega), Option.bind_some, I_not, if_pos (by rfl), if_pos (by rw [w64 _ (by omega)]; omega), hc1, hc2, if_pos rfl, if_pos rfl]
  by_cases h : sumS (a ++ [1]) = sumS a
  · rw [if_pos h, if_pos rfl, Option.bind_some, if_pos (by simp only [List.length_nil]; omega), List.nil_append, Option.bind_some, if_pos (by omega), of_spec _ (bytes_app ha h1) (by rw [List.length_append]; omega) k (by rw [List.length_append]; omega), Option.bind_some, of_spec a ha (by omega) k (by omega), Option.bind_some, if_pos h, known_true k (by omega), Option.bind_some]
  · rw [if_neg h, if_neg (by decide), known_true k (by omega), Option.bind_some]
theorem parts_loop (a b : List Int) (ha : Bytes a) (hb : Bytes b) (la : a.length ≤ 1048576) (lb : b.length ≤ 1048576) (d : Nat) : ∀ (k i : Nat), i + d = b.length → d + 2097500 < k → bordereaulaw1_CrcParts.l0 k a b (I (run 4294967295#32 (a ++ b.take i))) b (b.length : Int) (i : Int) = some true := by
  induction d with
  | zero =>
    intro k i hi hk
    obtain rfl : i = b.length := by omega
    rw [List.take_of_length_le (Nat.le_refl _)]
    exact parts_end k a b ha hb la lb (by omega)
  | succ d ih =>
    intro k i hi hk
    obtain ⟨k, rfl⟩ : ∃ m, k = m + 1 := ⟨k - 1, by omega⟩
    have hx := hb b[i] (List.getElem_mem _)
    rw [bordereaulaw1_CrcParts.l0, if_pos (by omega), if_pos (by omega), if_pos (by omega), rd_at b i (by omega), next_own k _ _ hx.1 hx.2 (by omega), Option.bind_some, w64 _ (by omega)]
    have hn := ih k (i + 1) (by omega) (by omega)
    have e : b.take (i + 1) = b.take i ++ [b[i]] := by rw [List.take_add_one, List.getElem?_eq_getElem (by omega)]; rfl
    rw [e, ← List.append_assoc, run_app _ (a ++ b.take i)] at hn
    exact hn
/-- What CrcParts answers for rows of at most 1,048,576 bytes. -/
theorem parts (a b : List Int) (ha : Bytes a) (hb : Bytes b) (la : a.length ≤ 1048576) (lb : b.length ≤ 1048576) : ∃ k, bordereaulaw1_CrcParts.f k a b = some true := by
  refine ⟨4200000, ?_⟩
  unfold bordereaulaw1_CrcParts.f
  rw [of_spec a ha (by omega) _ (by omega), Option.bind_some]
  unfold sumS
  rw [I_not2]
  have h := parts_loop a b ha hb la lb b.length 4200000 0 (by omega) (by omega)
  rw [List.take_zero, List.append_nil] at h
  exact h
end Go.Proofs.Ytddgichochdgcaa.CrcPureE
