/-
  No cell of these rows narrows 'for every input' (looked for: loops, veiled, ifaces, maps, wideKeys, modest, calm, conditions, laid).
  DERIVED. THE GIVEN ROWS OF THIS SEAT. 3 by the template 'for every input the law returns true; each argument reads behind the call as it read before'; 0 by the template 'total and deterministic' (their statements: YtegpgelddogoiaaTotals.lean).
  GIVEN WITH THE SEED: the statements are not yours to turn. If you find one false, say at which input.
  Laid BY PROGRAM, IN A SANDBOX (cutbox-rows.mjs): the forced cells as the released guide's own fill.sh prints them over the translation a9cc28ae204cfb8e… (all of the seat's roots in one cut). By AI agents, Wed Nov 11 2026. No macro, syntax, notation, axiom, sorry.
-/
import Derived.Test.YtegpgelddogoiaaChecked
import GoSem.Claim
import GoSem.ClaimJoined
import GoSem.ClaimMapViews
import Derived.JoinedTies
import Derived.KernelRfl
namespace Go.Proofs.Ytegpgelddogoiaa
/- THE CELL 'sum', in the pinned program and in every row, IS THE sha256 OF THE DUMP (.gsa) THAT YtegpgelddogoiaaProg.lean LOADS. Nothing in Lean hashes anything: it is a label: what it is worth is what the hold of that sum in a sandbox is worth. -/
noncomputable def Try.pinned : Pinned := { name := "ytegpgelddogoiaa", sum := "a9cc28ae204cfb8e72796587616981ba942181d70c12b66d22f912630e06849a", checked := Try.checked }
namespace Rows
def none {H : Type} : Left H := { results := [], args := [] }

/-- 'bordereaulaw14.FoldStable': WHATEVER THE INPUT: true; the input reads as it did. -/
def foldStableSpec : ChangeSpec := { name := "foldStable", fn := fun _ => fun
  | [d1, d2] => { results := [.lit (.bool true)], args := [d1, d2] }
  | _ => none }
def foldStableRow : OpenClaim := { program := "ytegpgelddogoiaa", sum := "a9cc28ae204cfb8e72796587616981ba942181d70c12b66d22f912630e06849a", func := "bordereau/bordereaulaw14.FoldStable", spec := "foldStable", apart := false }
def FoldStableSaid : Prop := foldStableRow.holds Try.pinned (OpenSpec.ofChange foldStableSpec)

/-- ITS FALSE NEIGHBOUR: 'it returns false'. Refute it at one input. -/
def foldStableWrong : ChangeSpec := { name := "foldStable", fn := fun _ => fun
  | [d1, d2] => { results := [.lit (.bool false)], args := [d1, d2] }
  | _ => none }
def FoldStableWrongFalsely : Prop := foldStableRow.holds Try.pinned (OpenSpec.ofChange foldStableWrong)

/-- 'bordereaulaw14.FoldBegins': WHATEVER THE INPUT: true; the input reads as it did. -/
def foldBeginsSpec : ChangeSpec := { name := "foldBegins", fn := fun _ => fun
  | [d1, d2] => { results := [.lit (.bool true)], args := [d1, d2] }
  | _ => none }
def foldBeginsRow : OpenClaim := { program := "ytegpgelddogoiaa", sum := "a9cc28ae204cfb8e72796587616981ba942181d70c12b66d22f912630e06849a", func := "bordereau/bordereaulaw14.FoldBegins", spec := "foldBegins", apart := false }
def FoldBeginsSaid : Prop := foldBeginsRow.holds Try.pinned (OpenSpec.ofChange foldBeginsSpec)

/-- ITS FALSE NEIGHBOUR: 'it returns false'. Refute it at one input. -/
def foldBeginsWrong : ChangeSpec := { name := "foldBegins", fn := fun _ => fun
  | [d1, d2] => { results := [.lit (.bool false)], args := [d1, d2] }
  | _ => none }
def FoldBeginsWrongFalsely : Prop := foldBeginsRow.holds Try.pinned (OpenSpec.ofChange foldBeginsWrong)

/-- 'bordereaulaw14.FoldParts': WHATEVER THE INPUT: true; the input reads as it did. -/
def foldPartsSpec : ChangeSpec := { name := "foldParts", fn := fun _ => fun
  | [d1, d2, d3, d4, d5] => { results := [.lit (.bool true)], args := [d1, d2, d3, d4, d5] }
  | _ => none }
def foldPartsRow : OpenClaim := { program := "ytegpgelddogoiaa", sum := "a9cc28ae204cfb8e72796587616981ba942181d70c12b66d22f912630e06849a", func := "bordereau/bordereaulaw14.FoldParts", spec := "foldParts", apart := false }
def FoldPartsSaid : Prop := foldPartsRow.holds Try.pinned (OpenSpec.ofChange foldPartsSpec)

/-- ITS FALSE NEIGHBOUR: 'it returns false'. Refute it at one input. -/
def foldPartsWrong : ChangeSpec := { name := "foldParts", fn := fun _ => fun
  | [d1, d2, d3, d4, d5] => { results := [.lit (.bool false)], args := [d1, d2, d3, d4, d5] }
  | _ => none }
def FoldPartsWrongFalsely : Prop := foldPartsRow.holds Try.pinned (OpenSpec.ofChange foldPartsWrong)

/- THE SECOND FORM. 'bulk': how many values and letters a reading holds, each counted each time it is reached (what is shared counts as often as it is met; a slice's spare places count too). A statement '..UptoSaid' is the law's where the arguments, and the package variables that the reading takes, are together of bulk at most 1048576: NARROWER than '..Said'. Prove '..Said' where nothing that the law and all that it calls make is longer than what came in: it says more and counts as full. Else prove '..UptoSaid'. A law counts once. -/
mutual
def uptoBulk {H : Type} : DataW H → Nat
  | .lit (.string bytes) => bytes.length + 1
  | .lit _ => 1
  | .nil => 1
  | .ptr d => uptoBulk d + 1
  | .slice elems spare => uptoBulkAll elems + uptoBulkAll spare + 1
  | .agg parts => uptoBulkAll parts + 1
  | .iface _ d => uptoBulk d + 1
  | .map entries => uptoBulkEntries entries + 1
  | .held _ => 1
def uptoBulkAll {H : Type} : List (DataW H) → Nat
  | [] => 0
  | d :: r => uptoBulk d + uptoBulkAll r
def uptoBulkEntries {H : Type} : List (Lit × DataW H) → Nat
  | [] => 0
  | x :: r => uptoBulkEntry x + uptoBulkEntries r
def uptoBulkEntry {H : Type} : Lit × DataW H → Nat
  | (.string bytes, d) => bytes.length + uptoBulk d + 1
  | (_, d) => uptoBulk d + 1
 end
def uptoSmall : (H : Type) → List (DataW H) → Bool := fun _ ds => decide (uptoBulkAll ds ≤ 1048576)
def OpenSpec.upto (s : _root_.Go.ChangeSpec) : _root_.Go.OpenSpec := { _root_.Go.OpenSpec.ofChange s with cond := some uptoSmall }

/-- 'bordereaulaw14.FoldStable', WHERE WHAT IT READS IS OF BULK AT MOST 1048576: true; the input reads as it did. -/
def foldStableUptoRow : OpenClaim := { program := "ytegpgelddogoiaa", sum := "a9cc28ae204cfb8e72796587616981ba942181d70c12b66d22f912630e06849a", func := "bordereau/bordereaulaw14.FoldStable", spec := "foldStable", apart := false, narrowed := true }
def FoldStableUptoSaid : Prop := foldStableUptoRow.holds Try.pinned (OpenSpec.upto foldStableSpec)

/-- 'bordereaulaw14.FoldBegins', WHERE WHAT IT READS IS OF BULK AT MOST 1048576: true; the input reads as it did. -/
def foldBeginsUptoRow : OpenClaim := { program := "ytegpgelddogoiaa", sum := "a9cc28ae204cfb8e72796587616981ba942181d70c12b66d22f912630e06849a", func := "bordereau/bordereaulaw14.FoldBegins", spec := "foldBegins", apart := false, narrowed := true }
def FoldBeginsUptoSaid : Prop := foldBeginsUptoRow.holds Try.pinned (OpenSpec.upto foldBeginsSpec)

/-- 'bordereaulaw14.FoldParts', WHERE WHAT IT READS IS OF BULK AT MOST 1048576: true; the input reads as it did. -/
def foldPartsUptoRow : OpenClaim := { program := "ytegpgelddogoiaa", sum := "a9cc28ae204cfb8e72796587616981ba942181d70c12b66d22f912630e06849a", func := "bordereau/bordereaulaw14.FoldParts", spec := "foldParts", apart := false, narrowed := true }
def FoldPartsUptoSaid : Prop := foldPartsUptoRow.holds Try.pinned (OpenSpec.upto foldPartsSpec)

end Rows
end Go.Proofs.Ytegpgelddogoiaa
