import Derived.Test.YtheaccppdikjgaaGreatDoorK37
namespace Go.Abs
open Go Go.RowKit
set_option linter.unusedVariables false
set_option linter.unusedSimpArgs false
def crcStep (c : Nat) : Nat := (c >>> 1) ^^^ (2197175160 * (c &&& 1))
def crcNext (c b : Nat) : Nat := crcStep (crcStep (crcStep (crcStep (crcStep (crcStep (crcStep (crcStep (c ^^^ b))))))))
def crcN (l : List Nat) : Nat := (l.foldl crcNext 4294967295) ^^^ 4294967295
theorem xor_lt32 {a b : Nat} (ha : a < 4294967296) (hb : b < 4294967296) : a ^^^ b < 4294967296 := Nat.xor_lt_two_pow (n := 32) ha hb
theorem crcStep_lt {c : Nat} (h : c < 4294967296) : crcStep c < 4294967296 := by
 unfold crcStep
 apply xor_lt32
 ·rw [Nat.shiftRight_eq_div_pow]; omega
 ·have : c &&& 1 ≤ 1 := Nat.and_le_right
  omega
theorem crcNext_lt {c b : Nat} (h : c < 4294967296) (hb : b < 256) : crcNext c b < 4294967296 := by
 unfold crcNext
 repeat (first | apply crcStep_lt | exact xor_lt32 h (by omega))
theorem crcFold_lt : ∀ (l : List Nat) (c : Nat), c < 4294967296 → (∀ x ∈ l, x < 256) → l.foldl crcNext c < 4294967296
 | [], c, h, _ => h
 | x :: l, c, h, hl => crcFold_lt l _ (crcNext_lt h (hl x (by simp))) (fun y hy => hl y (by simp [hy]))
theorem crcN_lt (l : List Nat) (hl : ∀ x ∈ l, x < 256) : crcN l < 4294967296 := xor_lt32 (crcFold_lt l _ (by decide) hl) (by decide)
def nats8 : List AVal → Option (List Nat)
 | [] => some []
 | .int .u8 n :: xs => if 0 ≤ n ∧ n < 256 then (nats8 xs).map (n.toNat :: ·) else none
 | _ => none
def crcSem : List AVal → Heap → Option (AVal × Heap)
 | [.list 1 xs .ro], H => if xs.length ≤ maxBytes then (nats8 xs).map fun l => (.int .u32 (crcN l : Nat), H) else none
 | _, _ => none
def toN (l : List Int) : List Nat := l.map Int.toNat
theorem nats8_ints : ∀ (l : List Int), (∀ x ∈ l, 0 ≤ x ∧ x < 256) → nats8 (ints .u8 l) = some (toN l)
 | [], _ => rfl
 | x :: l, h => by
  have h1 := h x (by simp)
  show (if 0 ≤ x ∧ x < 256 then (nats8 (ints .u8 l)).map (x.toNat :: ·) else none) = _
  rw [if_pos h1, nats8_ints l (fun y hy => h y (by simp [hy]))]; rfl
theorem nats8_inv : ∀ {xs : List AVal} {l : List Nat}, nats8 xs = some l → ∃ zs : List Int, xs = ints .u8 zs ∧ (∀ x ∈ zs, 0 ≤ x ∧ x < 256) ∧ l = toN zs
 | [], l, h => by simp only [nats8, Option.some.injEq] at h; subst h; exact ⟨[], rfl, by simp, rfl⟩
 | x :: xs, l, h => by
  unfold nats8 at h
  split at h
  ·rename_i h1; cases h1
  ·rename_i n ys h1
   simp only [List.cons.injEq] at h1
   obtain ⟨rfl, rfl⟩ := h1
   obtain ⟨h2, h3⟩ := ite_some h
   obtain ⟨m, h4, rfl⟩ := Option.map_eq_some_iff.1 h3
   obtain ⟨zs, rfl, h5, rfl⟩ := nats8_inv h4
   exact ⟨n :: zs, rfl, by
    intro y hy
    rcases List.mem_cons.1 hy with rfl | hy
    ·exact h2
    ·exact h5 y hy, rfl⟩
  ·cases h
theorem ofInt32 (c : Nat) (h : c < 4294967296) : (BitVec.ofInt 32 (c : Int)).toNat = c := by
 rw [BitVec.toNat_ofInt]
 show ((c : Int) % 4294967296).toNat = c
 omega
theorem wrap32 (c : Nat) (h : c < 4294967296) : IntKind.u32.wrap (c : Int) = c := by
 have : IntKind.u32.wrap (c : Int) = (c : Int) % 4294967296 := by simp [IntKind.wrap, IntKind.bits, IntKind.signed]
 rw [this]; omega
theorem xor32 (a b : Nat) (ha : a < 4294967296) (hb : b < 4294967296) : bits .xor .u32 (a : Int) (b : Int) = ((a ^^^ b : Nat) : Int) := by
 show IntKind.u32.wrap (((BitVec.ofInt 32 (a : Int) ^^^ BitVec.ofInt 32 (b : Int)).toNat : Nat) : Int) = _
 rw [BitVec.toNat_xor, ofInt32 a ha, ofInt32 b hb]
 exact wrap32 _ (xor_lt32 ha hb)
theorem and32 (a : Nat) (ha : a < 4294967296) : bits .and .u32 (a : Int) 1 = ((a &&& 1 : Nat) : Int) := by
 have : bits .and .u32 (a : Int) 1 = bits .and .u32 (a : Int) ((1 : Nat) : Int) := rfl
 rw [this]
 show IntKind.u32.wrap (((BitVec.ofInt 32 (a : Int) &&& BitVec.ofInt 32 ((1 : Nat) : Int)).toNat : Nat) : Int) = _
 rw [BitVec.toNat_and, ofInt32 a ha, ofInt32 1 (by decide)]
 have : a &&& 1 ≤ 1 := Nat.and_le_right
 exact wrap32 _ (by omega)
theorem shr32 (a : Nat) : shr .u32 (a : Int) 1 = ((a >>> 1 : Nat) : Int) := by
 rw [Nat.shiftRight_eq_div_pow]
 show (a : Int) / 2 ^ 1 = _
 simp
theorem mul32 (a : Nat) (h : a ≤ 1) : IntKind.u32.wrap (2197175160 * (a : Int)) = ((2197175160 * a : Nat) : Int) := by
 have : (2197175160 * (a : Int)) = ((2197175160 * a : Nat) : Int) := by simp
 rw [this]; exact wrap32 _ (by omega)
end Go.Abs
