/-
  No cell of these rows narrows 'for every input' (looked for: loops, veiled, ifaces, maps, wideKeys, modest, calm, conditions, laid).
  DERIVED. THE GIVEN ROWS OF THIS SEAT. 4 by the template 'for every input the law returns true; each argument reads behind the call as it read before'; 0 by the template 'total and deterministic' (their statements: YtfefcopajgdjiaaTotals.lean).
  GIVEN WITH THE SEED: the statements are not yours to turn. If you find one false, say at which input.
  Laid BY PROGRAM, IN A SANDBOX (cutbox-rows.mjs): the forced cells as the released guide's own fill.sh prints them over the translation ccdafd6e617a4049… (all of the seat's roots in one cut). By AI agents, Wed Nov 11 2026. No macro, syntax, notation, axiom, sorry.
-/
import Derived.Test.YtfefcopajgdjiaaChecked
import GoSem.Claim
import GoSem.ClaimJoined
import GoSem.ClaimMapViews
import Derived.JoinedTies
import Derived.KernelRfl
namespace Go.Proofs.Ytfefcopajgdjiaa
/- THE CELL 'sum', in the pinned program and in every row, IS THE sha256 OF THE DUMP (.gsa) THAT YtfefcopajgdjiaaProg.lean LOADS. Nothing in Lean hashes anything: it is a label: what it is worth is what the hold of that sum in a sandbox is worth. -/
noncomputable def Try.pinned : Pinned := { name := "ytfefcopajgdjiaa", sum := "ccdafd6e617a40495dedd8b8054ca8a37992481bca0ef64d6b26510916feec37", checked := Try.checked }
namespace Rows
def none {H : Type} : Left H := { results := [], args := [] }

/-- 'bordereaulaw9.SegmentNumbers': WHATEVER THE INPUT: true; the input reads as it did. -/
def segmentNumbersSpec : ChangeSpec := { name := "segmentNumbers", fn := fun _ => fun
  | [] => { results := [.lit (.bool true)], args := [] }
  | _ => none }
def segmentNumbersRow : OpenClaim := { program := "ytfefcopajgdjiaa", sum := "ccdafd6e617a40495dedd8b8054ca8a37992481bca0ef64d6b26510916feec37", func := "bordereau/bordereaulaw9.SegmentNumbers", spec := "segmentNumbers", apart := false }
def SegmentNumbersSaid : Prop := segmentNumbersRow.holds Try.pinned (OpenSpec.ofChange segmentNumbersSpec)

/-- ITS FALSE NEIGHBOUR: 'it returns false'. Refute it at one input. -/
def segmentNumbersWrong : ChangeSpec := { name := "segmentNumbers", fn := fun _ => fun
  | [] => { results := [.lit (.bool false)], args := [] }
  | _ => none }
def SegmentNumbersWrongFalsely : Prop := segmentNumbersRow.holds Try.pinned (OpenSpec.ofChange segmentNumbersWrong)

/-- 'bordereaulaw9.SegmentTells': WHATEVER THE INPUT: true; the input reads as it did. -/
def segmentTellsSpec : ChangeSpec := { name := "segmentTells", fn := fun _ => fun
  | [d1, d2, d3, d4, d5, d6, d7, d8] => { results := [.lit (.bool true)], args := [d1, d2, d3, d4, d5, d6, d7, d8] }
  | _ => none }
def segmentTellsRow : OpenClaim := { program := "ytfefcopajgdjiaa", sum := "ccdafd6e617a40495dedd8b8054ca8a37992481bca0ef64d6b26510916feec37", func := "bordereau/bordereaulaw9.SegmentTells", spec := "segmentTells", apart := false }
def SegmentTellsSaid : Prop := segmentTellsRow.holds Try.pinned (OpenSpec.ofChange segmentTellsSpec)

/-- ITS FALSE NEIGHBOUR: 'it returns false'. Refute it at one input. -/
def segmentTellsWrong : ChangeSpec := { name := "segmentTells", fn := fun _ => fun
  | [d1, d2, d3, d4, d5, d6, d7, d8] => { results := [.lit (.bool false)], args := [d1, d2, d3, d4, d5, d6, d7, d8] }
  | _ => none }
def SegmentTellsWrongFalsely : Prop := segmentTellsRow.holds Try.pinned (OpenSpec.ofChange segmentTellsWrong)

/-- 'bordereaulaw9.SegmentBegins': WHATEVER THE INPUT: true; the input reads as it did. -/
def segmentBeginsSpec : ChangeSpec := { name := "segmentBegins", fn := fun _ => fun
  | [d1, d2, d3, d4] => { results := [.lit (.bool true)], args := [d1, d2, d3, d4] }
  | _ => none }
def segmentBeginsRow : OpenClaim := { program := "ytfefcopajgdjiaa", sum := "ccdafd6e617a40495dedd8b8054ca8a37992481bca0ef64d6b26510916feec37", func := "bordereau/bordereaulaw9.SegmentBegins", spec := "segmentBegins", apart := false }
def SegmentBeginsSaid : Prop := segmentBeginsRow.holds Try.pinned (OpenSpec.ofChange segmentBeginsSpec)

/-- ITS FALSE NEIGHBOUR: 'it returns false'. Refute it at one input. -/
def segmentBeginsWrong : ChangeSpec := { name := "segmentBegins", fn := fun _ => fun
  | [d1, d2, d3, d4] => { results := [.lit (.bool false)], args := [d1, d2, d3, d4] }
  | _ => none }
def SegmentBeginsWrongFalsely : Prop := segmentBeginsRow.holds Try.pinned (OpenSpec.ofChange segmentBeginsWrong)

/-- 'bordereaulaw9.SegmentCuts': WHATEVER THE INPUT: true; the input reads as it did. -/
def segmentCutsSpec : ChangeSpec := { name := "segmentCuts", fn := fun _ => fun
  | [d1, d2, d3, d4] => { results := [.lit (.bool true)], args := [d1, d2, d3, d4] }
  | _ => none }
def segmentCutsRow : OpenClaim := { program := "ytfefcopajgdjiaa", sum := "ccdafd6e617a40495dedd8b8054ca8a37992481bca0ef64d6b26510916feec37", func := "bordereau/bordereaulaw9.SegmentCuts", spec := "segmentCuts", apart := false }
def SegmentCutsSaid : Prop := segmentCutsRow.holds Try.pinned (OpenSpec.ofChange segmentCutsSpec)

/-- ITS FALSE NEIGHBOUR: 'it returns false'. Refute it at one input. -/
def segmentCutsWrong : ChangeSpec := { name := "segmentCuts", fn := fun _ => fun
  | [d1, d2, d3, d4] => { results := [.lit (.bool false)], args := [d1, d2, d3, d4] }
  | _ => none }
def SegmentCutsWrongFalsely : Prop := segmentCutsRow.holds Try.pinned (OpenSpec.ofChange segmentCutsWrong)

/- THE SECOND FORM. 'bulk': how many values and letters a reading holds, each counted each time it is reached (what is shared counts as often as it is met; a slice's spare places count too). A statement '..UptoSaid' is the law's where the arguments, and the package variables that the reading takes, are together of bulk at most 1048576: NARROWER than '..Said'. Prove '..Said' where nothing that the law and all that it calls make is longer than what came in: it says more and counts as full. Else prove '..UptoSaid'. A law counts once. -/
mutual
def uptoBulk {H : Type} : DataW H → Nat
  | .lit (.string bytes) => bytes.length + 1
  | .lit _ => 1
  | .nil => 1
  | .ptr d => uptoBulk d + 1
  | .slice elems spare => uptoBulkAll elems + uptoBulkAll spare + 1
  | .agg parts => uptoBulkAll parts + 1
  | .iface _ d => uptoBulk d + 1
  | .map entries => uptoBulkEntries entries + 1
  | .held _ => 1
def uptoBulkAll {H : Type} : List (DataW H) → Nat
  | [] => 0
  | d :: r => uptoBulk d + uptoBulkAll r
def uptoBulkEntries {H : Type} : List (Lit × DataW H) → Nat
  | [] => 0
  | x :: r => uptoBulkEntry x + uptoBulkEntries r
def uptoBulkEntry {H : Type} : Lit × DataW H → Nat
  | (.string bytes, d) => bytes.length + uptoBulk d + 1
  | (_, d) => uptoBulk d + 1
 end
def uptoSmall : (H : Type) → List (DataW H) → Bool := fun _ ds => decide (uptoBulkAll ds ≤ 1048576)
def OpenSpec.upto (s : _root_.Go.ChangeSpec) : _root_.Go.OpenSpec := { _root_.Go.OpenSpec.ofChange s with cond := some uptoSmall }

/-- 'bordereaulaw9.SegmentNumbers', WHERE WHAT IT READS IS OF BULK AT MOST 1048576: true; the input reads as it did. -/
def segmentNumbersUptoRow : OpenClaim := { program := "ytfefcopajgdjiaa", sum := "ccdafd6e617a40495dedd8b8054ca8a37992481bca0ef64d6b26510916feec37", func := "bordereau/bordereaulaw9.SegmentNumbers", spec := "segmentNumbers", apart := false, narrowed := true }
def SegmentNumbersUptoSaid : Prop := segmentNumbersUptoRow.holds Try.pinned (OpenSpec.upto segmentNumbersSpec)

/-- 'bordereaulaw9.SegmentTells', WHERE WHAT IT READS IS OF BULK AT MOST 1048576: true; the input reads as it did. -/
def segmentTellsUptoRow : OpenClaim := { program := "ytfefcopajgdjiaa", sum := "ccdafd6e617a40495dedd8b8054ca8a37992481bca0ef64d6b26510916feec37", func := "bordereau/bordereaulaw9.SegmentTells", spec := "segmentTells", apart := false, narrowed := true }
def SegmentTellsUptoSaid : Prop := segmentTellsUptoRow.holds Try.pinned (OpenSpec.upto segmentTellsSpec)

/-- 'bordereaulaw9.SegmentBegins', WHERE WHAT IT READS IS OF BULK AT MOST 1048576: true; the input reads as it did. -/
def segmentBeginsUptoRow : OpenClaim := { program := "ytfefcopajgdjiaa", sum := "ccdafd6e617a40495dedd8b8054ca8a37992481bca0ef64d6b26510916feec37", func := "bordereau/bordereaulaw9.SegmentBegins", spec := "segmentBegins", apart := false, narrowed := true }
def SegmentBeginsUptoSaid : Prop := segmentBeginsUptoRow.holds Try.pinned (OpenSpec.upto segmentBeginsSpec)

/-- 'bordereaulaw9.SegmentCuts', WHERE WHAT IT READS IS OF BULK AT MOST 1048576: true; the input reads as it did. -/
def segmentCutsUptoRow : OpenClaim := { program := "ytfefcopajgdjiaa", sum := "ccdafd6e617a40495dedd8b8054ca8a37992481bca0ef64d6b26510916feec37", func := "bordereau/bordereaulaw9.SegmentCuts", spec := "segmentCuts", apart := false, narrowed := true }
def SegmentCutsUptoSaid : Prop := segmentCutsUptoRow.holds Try.pinned (OpenSpec.upto segmentCutsSpec)

end Rows
end Go.Proofs.Ytfefcopajgdjiaa
