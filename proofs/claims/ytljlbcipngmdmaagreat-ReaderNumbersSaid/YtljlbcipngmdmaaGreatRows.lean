/-
  No cell of these rows narrows 'for every input' (looked for: loops, veiled, ifaces, maps, wideKeys, modest, calm, conditions, laid).
  DERIVED. THE GIVEN ROWS OF THIS SEAT. 3 by the template 'for every input the law returns true; each argument reads behind the call as it read before'; 0 by the template 'total and deterministic' (their statements: YtljlbcipngmdmaaGreatTotals.lean).
  GIVEN WITH THE SEED: the statements are not yours to turn. If you find one false, say at which input.
  Laid BY PROGRAM, IN A SANDBOX (cutbox-rows.mjs): the forced cells as the released guide's own fill.sh prints them over the translation 09ba543f100a767e… (all of the seat's roots in one cut). By AI agents, Wed Nov 11 2026. No macro, syntax, notation, axiom, sorry.
-/
import Derived.Test.YtljlbcipngmdmaaGreatChecked
import GoSem.Claim
import GoSem.ClaimJoined
import GoSem.ClaimMapViews
import Derived.JoinedTies
import Derived.KernelRfl
namespace Go.Proofs.YtljlbcipngmdmaaGreat
/- THE CELL 'sum', in the pinned program and in every row, IS THE sha256 OF THE DUMP (.gsa) THAT YtljlbcipngmdmaaGreatProg.lean LOADS. Nothing in Lean hashes anything: it is a label: what it is worth is what the hold of that sum in a sandbox is worth. -/
noncomputable def Tryz.pinned : Pinned := { name := "ytljlbcipngmdmaagreat", sum := "09ba543f100a767ec61fef2da7c56dbfb7cd6f946d1e5ecd10a767969782cc66", checked := Tryz.checked }
namespace Rows
def none {H : Type} : Left H := { results := [], args := [] }

/-- 'bordereaulaw20.ReaderNumbers': WHATEVER THE INPUT: true; the input reads as it did. -/
def readerNumbersSpec : ChangeSpec := { name := "readerNumbers", fn := fun _ => fun
  | [] => { results := [.lit (.bool true)], args := [] }
  | _ => none }
def readerNumbersRow : OpenClaim := { program := "ytljlbcipngmdmaagreat", sum := "09ba543f100a767ec61fef2da7c56dbfb7cd6f946d1e5ecd10a767969782cc66", func := "bordereau/bordereaulaw20.ReaderNumbers", spec := "readerNumbers", unfollowed := true, recurses := true, apart := false }
def ReaderNumbersSaid : Prop := readerNumbersRow.holds Tryz.pinned (OpenSpec.ofChange readerNumbersSpec)

/-- ITS FALSE NEIGHBOUR: 'it returns false'. Refute it at one input. -/
def readerNumbersWrong : ChangeSpec := { name := "readerNumbers", fn := fun _ => fun
  | [] => { results := [.lit (.bool false)], args := [] }
  | _ => none }
def ReaderNumbersWrongFalsely : Prop := readerNumbersRow.holds Tryz.pinned (OpenSpec.ofChange readerNumbersWrong)

/-- 'bordereaulaw20.ReaderTells': WHATEVER THE INPUT: true; the input reads as it did. -/
def readerTellsSpec : ChangeSpec := { name := "readerTells", fn := fun _ => fun
  | [d1, d2, d3, d4, d5, d6] => { results := [.lit (.bool true)], args := [d1, d2, d3, d4, d5, d6] }
  | _ => none }
def readerTellsRow : OpenClaim := { program := "ytljlbcipngmdmaagreat", sum := "09ba543f100a767ec61fef2da7c56dbfb7cd6f946d1e5ecd10a767969782cc66", func := "bordereau/bordereaulaw20.ReaderTells", spec := "readerTells", unfollowed := true, recurses := true, apart := false }
def ReaderTellsSaid : Prop := readerTellsRow.holds Tryz.pinned (OpenSpec.ofChange readerTellsSpec)

/-- ITS FALSE NEIGHBOUR: 'it returns false'. Refute it at one input. -/
def readerTellsWrong : ChangeSpec := { name := "readerTells", fn := fun _ => fun
  | [d1, d2, d3, d4, d5, d6] => { results := [.lit (.bool false)], args := [d1, d2, d3, d4, d5, d6] }
  | _ => none }
def ReaderTellsWrongFalsely : Prop := readerTellsRow.holds Tryz.pinned (OpenSpec.ofChange readerTellsWrong)

/-- 'bordereaulaw20.ReaderGoes': WHATEVER THE INPUT: true; the input reads as it did. -/
def readerGoesSpec : ChangeSpec := { name := "readerGoes", fn := fun _ => fun
  | [d1, d2, d3] => { results := [.lit (.bool true)], args := [d1, d2, d3] }
  | _ => none }
def readerGoesRow : OpenClaim := { program := "ytljlbcipngmdmaagreat", sum := "09ba543f100a767ec61fef2da7c56dbfb7cd6f946d1e5ecd10a767969782cc66", func := "bordereau/bordereaulaw20.ReaderGoes", spec := "readerGoes", unfollowed := true, recurses := true, apart := false }
def ReaderGoesSaid : Prop := readerGoesRow.holds Tryz.pinned (OpenSpec.ofChange readerGoesSpec)

/-- ITS FALSE NEIGHBOUR: 'it returns false'. Refute it at one input. -/
def readerGoesWrong : ChangeSpec := { name := "readerGoes", fn := fun _ => fun
  | [d1, d2, d3] => { results := [.lit (.bool false)], args := [d1, d2, d3] }
  | _ => none }
def ReaderGoesWrongFalsely : Prop := readerGoesRow.holds Tryz.pinned (OpenSpec.ofChange readerGoesWrong)

/- THE SECOND FORM. 'bulk': how many values and letters a reading holds, each counted each time it is reached (what is shared counts as often as it is met; a slice's spare places count too). A statement '..UptoSaid' is the law's where the arguments, and the package variables that the reading takes, are together of bulk at most 1048576: NARROWER than '..Said'. Prove '..Said' where nothing that the law and all that it calls make is longer than what came in: it says more and counts as full. Else prove '..UptoSaid'. A law counts once. -/
mutual
def uptoBulk {H : Type} : DataW H → Nat
  | .lit (.string bytes) => bytes.length + 1
  | .lit _ => 1
  | .nil => 1
  | .ptr d => uptoBulk d + 1
  | .slice elems spare => uptoBulkAll elems + uptoBulkAll spare + 1
  | .agg parts => uptoBulkAll parts + 1
  | .iface _ d => uptoBulk d + 1
  | .map entries => uptoBulkEntries entries + 1
  | .held _ => 1
def uptoBulkAll {H : Type} : List (DataW H) → Nat
  | [] => 0
  | d :: r => uptoBulk d + uptoBulkAll r
def uptoBulkEntries {H : Type} : List (Lit × DataW H) → Nat
  | [] => 0
  | x :: r => uptoBulkEntry x + uptoBulkEntries r
def uptoBulkEntry {H : Type} : Lit × DataW H → Nat
  | (.string bytes, d) => bytes.length + uptoBulk d + 1
  | (_, d) => uptoBulk d + 1
 end
def uptoSmall : (H : Type) → List (DataW H) → Bool := fun _ ds => decide (uptoBulkAll ds ≤ 1048576)
def OpenSpec.upto (s : _root_.Go.ChangeSpec) : _root_.Go.OpenSpec := { _root_.Go.OpenSpec.ofChange s with cond := some uptoSmall }

/-- 'bordereaulaw20.ReaderNumbers', WHERE WHAT IT READS IS OF BULK AT MOST 1048576: true; the input reads as it did. -/
def readerNumbersUptoRow : OpenClaim := { program := "ytljlbcipngmdmaagreat", sum := "09ba543f100a767ec61fef2da7c56dbfb7cd6f946d1e5ecd10a767969782cc66", func := "bordereau/bordereaulaw20.ReaderNumbers", spec := "readerNumbers", unfollowed := true, recurses := true, apart := false, narrowed := true }
def ReaderNumbersUptoSaid : Prop := readerNumbersUptoRow.holds Tryz.pinned (OpenSpec.upto readerNumbersSpec)

/-- 'bordereaulaw20.ReaderTells', WHERE WHAT IT READS IS OF BULK AT MOST 1048576: true; the input reads as it did. -/
def readerTellsUptoRow : OpenClaim := { program := "ytljlbcipngmdmaagreat", sum := "09ba543f100a767ec61fef2da7c56dbfb7cd6f946d1e5ecd10a767969782cc66", func := "bordereau/bordereaulaw20.ReaderTells", spec := "readerTells", unfollowed := true, recurses := true, apart := false, narrowed := true }
def ReaderTellsUptoSaid : Prop := readerTellsUptoRow.holds Tryz.pinned (OpenSpec.upto readerTellsSpec)

/-- 'bordereaulaw20.ReaderGoes', WHERE WHAT IT READS IS OF BULK AT MOST 1048576: true; the input reads as it did. -/
def readerGoesUptoRow : OpenClaim := { program := "ytljlbcipngmdmaagreat", sum := "09ba543f100a767ec61fef2da7c56dbfb7cd6f946d1e5ecd10a767969782cc66", func := "bordereau/bordereaulaw20.ReaderGoes", spec := "readerGoes", unfollowed := true, recurses := true, apart := false, narrowed := true }
def ReaderGoesUptoSaid : Prop := readerGoesUptoRow.holds Tryz.pinned (OpenSpec.upto readerGoesSpec)

end Rows
end Go.Proofs.YtljlbcipngmdmaaGreat
