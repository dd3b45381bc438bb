/-
  No cell of these rows narrows 'for every input' (looked for: loops, veiled, ifaces, maps, wideKeys, modest, calm, conditions, laid).
  DERIVED. THE GIVEN ROWS OF THIS SEAT. 5 by the template 'for every input the law returns true; each argument reads behind the call as it read before'; 0 by the template 'total and deterministic' (their statements: YtdgcjfgfbaeheaaTotals.lean).
  GIVEN WITH THE SEED: the statements are not yours to turn. If you find one false, say at which input.
  Laid BY PROGRAM, IN A SANDBOX (cutbox-rows.mjs): the forced cells as the released guide's own fill.sh prints them over the translation 17faf927a4dad350… (all of the seat's roots in one cut). By AI agents, Wed Nov 11 2026. No macro, syntax, notation, axiom, sorry.
-/
import Derived.Test.YtdgcjfgfbaeheaaChecked
import GoSem.Claim
import GoSem.ClaimJoined
import GoSem.ClaimMapViews
import Derived.JoinedTies
import Derived.KernelRfl
namespace Go.Proofs.Ytdgcjfgfbaeheaa
/- THE CELL 'sum', in the pinned program and in every row, IS THE sha256 OF THE DUMP (.gsa) THAT YtdgcjfgfbaeheaaProg.lean LOADS. Nothing in Lean hashes anything: it is a label: what it is worth is what the hold of that sum in a sandbox is worth. -/
noncomputable def Try.pinned : Pinned := { name := "ytdgcjfgfbaeheaa", sum := "17faf927a4dad350296591e7ed810fc26d0fd056d27eda6a56d7550a164ee18f", checked := Try.checked }
namespace Rows
def none {H : Type} : Left H := { results := [], args := [] }

/-- 'bordereaulaw13.AbortsWithin': WHATEVER THE INPUT: true; the input reads as it did. -/
def abortsWithinSpec : ChangeSpec := { name := "abortsWithin", fn := fun _ => fun
  | [d1, d2, d3, d4, d5] => { results := [.lit (.bool true)], args := [d1, d2, d3, d4, d5] }
  | _ => none }
def abortsWithinRow : OpenClaim := { program := "ytdgcjfgfbaeheaa", sum := "17faf927a4dad350296591e7ed810fc26d0fd056d27eda6a56d7550a164ee18f", func := "bordereau/bordereaulaw13.AbortsWithin", spec := "abortsWithin", unfollowed := true, recurses := true, apart := false }
def AbortsWithinSaid : Prop := abortsWithinRow.holds Try.pinned (OpenSpec.ofChange abortsWithinSpec)

/-- ITS FALSE NEIGHBOUR: 'it returns false'. Refute it at one input. -/
def abortsWithinWrong : ChangeSpec := { name := "abortsWithin", fn := fun _ => fun
  | [d1, d2, d3, d4, d5] => { results := [.lit (.bool false)], args := [d1, d2, d3, d4, d5] }
  | _ => none }
def AbortsWithinWrongFalsely : Prop := abortsWithinRow.holds Try.pinned (OpenSpec.ofChange abortsWithinWrong)

/-- 'bordereaulaw13.AbortsCut': WHATEVER THE INPUT: true; the input reads as it did. -/
def abortsCutSpec : ChangeSpec := { name := "abortsCut", fn := fun _ => fun
  | [d1, d2] => { results := [.lit (.bool true)], args := [d1, d2] }
  | _ => none }
def abortsCutRow : OpenClaim := { program := "ytdgcjfgfbaeheaa", sum := "17faf927a4dad350296591e7ed810fc26d0fd056d27eda6a56d7550a164ee18f", func := "bordereau/bordereaulaw13.AbortsCut", spec := "abortsCut", unfollowed := true, recurses := true, apart := false }
def AbortsCutSaid : Prop := abortsCutRow.holds Try.pinned (OpenSpec.ofChange abortsCutSpec)

/-- ITS FALSE NEIGHBOUR: 'it returns false'. Refute it at one input. -/
def abortsCutWrong : ChangeSpec := { name := "abortsCut", fn := fun _ => fun
  | [d1, d2] => { results := [.lit (.bool false)], args := [d1, d2] }
  | _ => none }
def AbortsCutWrongFalsely : Prop := abortsCutRow.holds Try.pinned (OpenSpec.ofChange abortsCutWrong)

/-- 'bordereaulaw13.AbortsNumbers': WHATEVER THE INPUT: true; the input reads as it did. -/
def abortsNumbersSpec : ChangeSpec := { name := "abortsNumbers", fn := fun _ => fun
  | [] => { results := [.lit (.bool true)], args := [] }
  | _ => none }
def abortsNumbersRow : OpenClaim := { program := "ytdgcjfgfbaeheaa", sum := "17faf927a4dad350296591e7ed810fc26d0fd056d27eda6a56d7550a164ee18f", func := "bordereau/bordereaulaw13.AbortsNumbers", spec := "abortsNumbers", unfollowed := true, recurses := true, apart := false }
def AbortsNumbersSaid : Prop := abortsNumbersRow.holds Try.pinned (OpenSpec.ofChange abortsNumbersSpec)

/-- ITS FALSE NEIGHBOUR: 'it returns false'. Refute it at one input. -/
def abortsNumbersWrong : ChangeSpec := { name := "abortsNumbers", fn := fun _ => fun
  | [] => { results := [.lit (.bool false)], args := [] }
  | _ => none }
def AbortsNumbersWrongFalsely : Prop := abortsNumbersRow.holds Try.pinned (OpenSpec.ofChange abortsNumbersWrong)

/-- 'bordereaulaw13.AbortsTells': WHATEVER THE INPUT: true; the input reads as it did. -/
def abortsTellsSpec : ChangeSpec := { name := "abortsTells", fn := fun _ => fun
  | [d1, d2, d3, d4, d5, d6] => { results := [.lit (.bool true)], args := [d1, d2, d3, d4, d5, d6] }
  | _ => none }
def abortsTellsRow : OpenClaim := { program := "ytdgcjfgfbaeheaa", sum := "17faf927a4dad350296591e7ed810fc26d0fd056d27eda6a56d7550a164ee18f", func := "bordereau/bordereaulaw13.AbortsTells", spec := "abortsTells", unfollowed := true, recurses := true, apart := false }
def AbortsTellsSaid : Prop := abortsTellsRow.holds Try.pinned (OpenSpec.ofChange abortsTellsSpec)

/-- ITS FALSE NEIGHBOUR: 'it returns false'. Refute it at one input. -/
def abortsTellsWrong : ChangeSpec := { name := "abortsTells", fn := fun _ => fun
  | [d1, d2, d3, d4, d5, d6] => { results := [.lit (.bool false)], args := [d1, d2, d3, d4, d5, d6] }
  | _ => none }
def AbortsTellsWrongFalsely : Prop := abortsTellsRow.holds Try.pinned (OpenSpec.ofChange abortsTellsWrong)

/-- 'bordereaulaw14.FoldTells': WHATEVER THE INPUT: true; the input reads as it did. -/
def foldTellsSpec : ChangeSpec := { name := "foldTells", fn := fun _ => fun
  | [d1, d2, d3, d4, d5, d6] => { results := [.lit (.bool true)], args := [d1, d2, d3, d4, d5, d6] }
  | _ => none }
def foldTellsRow : OpenClaim := { program := "ytdgcjfgfbaeheaa", sum := "17faf927a4dad350296591e7ed810fc26d0fd056d27eda6a56d7550a164ee18f", func := "bordereau/bordereaulaw14.FoldTells", spec := "foldTells", unfollowed := true, recurses := true, apart := false }
def FoldTellsSaid : Prop := foldTellsRow.holds Try.pinned (OpenSpec.ofChange foldTellsSpec)

/-- ITS FALSE NEIGHBOUR: 'it returns false'. Refute it at one input. -/
def foldTellsWrong : ChangeSpec := { name := "foldTells", fn := fun _ => fun
  | [d1, d2, d3, d4, d5, d6] => { results := [.lit (.bool false)], args := [d1, d2, d3, d4, d5, d6] }
  | _ => none }
def FoldTellsWrongFalsely : Prop := foldTellsRow.holds Try.pinned (OpenSpec.ofChange foldTellsWrong)

/- THE SECOND FORM. 'bulk': how many values and letters a reading holds, each counted each time it is reached (what is shared counts as often as it is met; a slice's spare places count too). A statement '..UptoSaid' is the law's where the arguments, and the package variables that the reading takes, are together of bulk at most 1048576: NARROWER than '..Said'. Prove '..Said' where nothing that the law and all that it calls make is longer than what came in: it says more and counts as full. Else prove '..UptoSaid'. A law counts once. -/
mutual
def uptoBulk {H : Type} : DataW H → Nat
  | .lit (.string bytes) => bytes.length + 1
  | .lit _ => 1
  | .nil => 1
  | .ptr d => uptoBulk d + 1
  | .slice elems spare => uptoBulkAll elems + uptoBulkAll spare + 1
  | .agg parts => uptoBulkAll parts + 1
  | .iface _ d => uptoBulk d + 1
  | .map entries => uptoBulkEntries entries + 1
  | .held _ => 1
def uptoBulkAll {H : Type} : List (DataW H) → Nat
  | [] => 0
  | d :: r => uptoBulk d + uptoBulkAll r
def uptoBulkEntries {H : Type} : List (Lit × DataW H) → Nat
  | [] => 0
  | x :: r => uptoBulkEntry x + uptoBulkEntries r
def uptoBulkEntry {H : Type} : Lit × DataW H → Nat
  | (.string bytes, d) => bytes.length + uptoBulk d + 1
  | (_, d) => uptoBulk d + 1
 end
def uptoSmall : (H : Type) → List (DataW H) → Bool := fun _ ds => decide (uptoBulkAll ds ≤ 1048576)
def OpenSpec.upto (s : _root_.Go.ChangeSpec) : _root_.Go.OpenSpec := { _root_.Go.OpenSpec.ofChange s with cond := some uptoSmall }

/-- 'bordereaulaw13.AbortsWithin', WHERE WHAT IT READS IS OF BULK AT MOST 1048576: true; the input reads as it did. -/
def abortsWithinUptoRow : OpenClaim := { program := "ytdgcjfgfbaeheaa", sum := "17faf927a4dad350296591e7ed810fc26d0fd056d27eda6a56d7550a164ee18f", func := "bordereau/bordereaulaw13.AbortsWithin", spec := "abortsWithin", unfollowed := true, recurses := true, apart := false, narrowed := true }
def AbortsWithinUptoSaid : Prop := abortsWithinUptoRow.holds Try.pinned (OpenSpec.upto abortsWithinSpec)

/-- 'bordereaulaw13.AbortsCut', WHERE WHAT IT READS IS OF BULK AT MOST 1048576: true; the input reads as it did. -/
def abortsCutUptoRow : OpenClaim := { program := "ytdgcjfgfbaeheaa", sum := "17faf927a4dad350296591e7ed810fc26d0fd056d27eda6a56d7550a164ee18f", func := "bordereau/bordereaulaw13.AbortsCut", spec := "abortsCut", unfollowed := true, recurses := true, apart := false, narrowed := true }
def AbortsCutUptoSaid : Prop := abortsCutUptoRow.holds Try.pinned (OpenSpec.upto abortsCutSpec)

/-- 'bordereaulaw13.AbortsNumbers', WHERE WHAT IT READS IS OF BULK AT MOST 1048576: true; the input reads as it did. -/
def abortsNumbersUptoRow : OpenClaim := { program := "ytdgcjfgfbaeheaa", sum := "17faf927a4dad350296591e7ed810fc26d0fd056d27eda6a56d7550a164ee18f", func := "bordereau/bordereaulaw13.AbortsNumbers", spec := "abortsNumbers", unfollowed := true, recurses := true, apart := false, narrowed := true }
def AbortsNumbersUptoSaid : Prop := abortsNumbersUptoRow.holds Try.pinned (OpenSpec.upto abortsNumbersSpec)

/-- 'bordereaulaw13.AbortsTells', WHERE WHAT IT READS IS OF BULK AT MOST 1048576: true; the input reads as it did. -/
def abortsTellsUptoRow : OpenClaim := { program := "ytdgcjfgfbaeheaa", sum := "17faf927a4dad350296591e7ed810fc26d0fd056d27eda6a56d7550a164ee18f", func := "bordereau/bordereaulaw13.AbortsTells", spec := "abortsTells", unfollowed := true, recurses := true, apart := false, narrowed := true }
def AbortsTellsUptoSaid : Prop := abortsTellsUptoRow.holds Try.pinned (OpenSpec.upto abortsTellsSpec)

/-- 'bordereaulaw14.FoldTells', WHERE WHAT IT READS IS OF BULK AT MOST 1048576: true; the input reads as it did. -/
def foldTellsUptoRow : OpenClaim := { program := "ytdgcjfgfbaeheaa", sum := "17faf927a4dad350296591e7ed810fc26d0fd056d27eda6a56d7550a164ee18f", func := "bordereau/bordereaulaw14.FoldTells", spec := "foldTells", unfollowed := true, recurses := true, apart := false, narrowed := true }
def FoldTellsUptoSaid : Prop := foldTellsUptoRow.holds Try.pinned (OpenSpec.upto foldTellsSpec)

end Rows
end Go.Proofs.Ytdgcjfgfbaeheaa
