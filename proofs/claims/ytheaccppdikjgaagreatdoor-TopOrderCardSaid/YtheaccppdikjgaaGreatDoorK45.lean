import Derived.Test.YtheaccppdikjgaaGreatDoorK43
import Derived.Lib.Bytealg
namespace Go.Abs
open Go Go.RowKit
set_option linter.unusedVariables false
set_option linter.unusedSimpArgs false
def idxSem : List AVal → Heap → Option (AVal × Heap)
 | [.str s, .str [c]], H => some (.int .i64 (Lib.indexByte s c), H)
 | _, _ => none
theorem str_inv {G w} {s : List UInt8} {x : Value} (h : Rv G w (.str s) x) : ∃ b : ByteArray, x = .string b ∧ b.data.toList = s := by
 generalize hX : AVal.str s = X at h
 cases h <;> first | (cases hX; done) | skip
 cases hX
 exact ⟨_, rfl, rfl⟩
theorem idx_ok {P : Program} {f : FuncId} (hE : Enterable P f) (hC : ∀ (s : ByteArray) (c : UInt8) (w : World), Calls P f #[.string s, .string ⟨#[c]⟩] w fun e w' => e = .returned (.int .i64 (Lib.indexByte s.data.toList c)) ∧ w' = w) : FnOK P f idxSem := by
 intro G H args argv w V H' hl h hs
 unfold idxSem at hs
 split at hs
 ·rename_i H0 s c
  simp only [Option.some.injEq, Prod.mk.injEq] at hs
  obtain ⟨rfl, rfl⟩ := hs
  match argv, hl with
  | [x, y], _ =>
   obtain ⟨a, rfl, rfl⟩ := str_inv (show Rv G w (.str s) x from h.fly 0 _ _ rfl)
   obtain ⟨b, rfl, hb⟩ := str_inv (show Rv G w (.str [c]) y from h.fly 1 _ _ rfl)
   obtain rfl : b = ⟨#[c]⟩ := by
    apply ByteArray.ext; apply Array.ext'; exact hb
   refine ⟨hE, (hC a c w).mono ?_⟩
   rintro e w1 ⟨rfl, rfl⟩
   exact ⟨_, G, rfl, h.pure (.int .i64 _) rfl⟩
 ·cases hs
end Go.Abs
