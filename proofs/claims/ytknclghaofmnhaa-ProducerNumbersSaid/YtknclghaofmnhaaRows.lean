/-
  No cell of these rows narrows 'for every input' (looked for: loops, veiled, ifaces, maps, wideKeys, modest, calm, conditions, laid).
  DERIVED. THE GIVEN ROWS OF THIS SEAT. 14 by the template 'for every input the law returns true; each argument reads behind the call as it read before'; 0 by the template 'total and deterministic' (their statements: YtknclghaofmnhaaTotals.lean).
  GIVEN WITH THE SEED: the statements are not yours to turn. If you find one false, say at which input.
  Laid BY PROGRAM, IN A SANDBOX (cutbox-rows.mjs): the forced cells as the released guide's own fill.sh prints them over the translation 37ffd4f724d67092… (all of the seat's roots in one cut). By AI agents, Wed Nov 11 2026. No macro, syntax, notation, axiom, sorry.
-/
import Derived.Test.YtknclghaofmnhaaChecked
import GoSem.Claim
import GoSem.ClaimJoined
import GoSem.ClaimMapViews
import Derived.JoinedTies
import Derived.KernelRfl
namespace Go.Proofs.Ytknclghaofmnhaa
/- THE CELL 'sum', in the pinned program and in every row, IS THE sha256 OF THE DUMP (.gsa) THAT YtknclghaofmnhaaProg.lean LOADS. Nothing in Lean hashes anything: it is a label: what it is worth is what the hold of that sum in a sandbox is worth. -/
noncomputable def Try.pinned : Pinned := { name := "ytknclghaofmnhaa", sum := "37ffd4f724d67092bfb9c4a098edc27e6c58661628b90d8f98c96b3e02cb70be", checked := Try.checked }
namespace Rows
def none {H : Type} : Left H := { results := [], args := [] }

/-- 'bordereaulaw8.IndexPlays': WHATEVER THE INPUT: true; the input reads as it did. -/
def indexPlaysSpec : ChangeSpec := { name := "indexPlays", fn := fun _ => fun
  | [d1, d2, d3, d4] => { results := [.lit (.bool true)], args := [d1, d2, d3, d4] }
  | _ => none }
def indexPlaysRow : OpenClaim := { program := "ytknclghaofmnhaa", sum := "37ffd4f724d67092bfb9c4a098edc27e6c58661628b90d8f98c96b3e02cb70be", func := "bordereau/bordereaulaw8.IndexPlays", spec := "indexPlays", unfollowed := true, recurses := true, apart := false }
def IndexPlaysSaid : Prop := indexPlaysRow.holds Try.pinned (OpenSpec.ofChange indexPlaysSpec)

/-- ITS FALSE NEIGHBOUR: 'it returns false'. Refute it at one input. -/
def indexPlaysWrong : ChangeSpec := { name := "indexPlays", fn := fun _ => fun
  | [d1, d2, d3, d4] => { results := [.lit (.bool false)], args := [d1, d2, d3, d4] }
  | _ => none }
def IndexPlaysWrongFalsely : Prop := indexPlaysRow.holds Try.pinned (OpenSpec.ofChange indexPlaysWrong)

/-- 'bordereaulaw8.IndexFinds': WHATEVER THE INPUT: true; the input reads as it did. -/
def indexFindsSpec : ChangeSpec := { name := "indexFinds", fn := fun _ => fun
  | [d1, d2, d3] => { results := [.lit (.bool true)], args := [d1, d2, d3] }
  | _ => none }
def indexFindsRow : OpenClaim := { program := "ytknclghaofmnhaa", sum := "37ffd4f724d67092bfb9c4a098edc27e6c58661628b90d8f98c96b3e02cb70be", func := "bordereau/bordereaulaw8.IndexFinds", spec := "indexFinds", unfollowed := true, recurses := true, apart := false }
def IndexFindsSaid : Prop := indexFindsRow.holds Try.pinned (OpenSpec.ofChange indexFindsSpec)

/-- ITS FALSE NEIGHBOUR: 'it returns false'. Refute it at one input. -/
def indexFindsWrong : ChangeSpec := { name := "indexFinds", fn := fun _ => fun
  | [d1, d2, d3] => { results := [.lit (.bool false)], args := [d1, d2, d3] }
  | _ => none }
def IndexFindsWrongFalsely : Prop := indexFindsRow.holds Try.pinned (OpenSpec.ofChange indexFindsWrong)

/-- 'bordereaulaw8.IndexAgain': WHATEVER THE INPUT: true; the input reads as it did. -/
def indexAgainSpec : ChangeSpec := { name := "indexAgain", fn := fun _ => fun
  | [d1, d2, d3] => { results := [.lit (.bool true)], args := [d1, d2, d3] }
  | _ => none }
def indexAgainRow : OpenClaim := { program := "ytknclghaofmnhaa", sum := "37ffd4f724d67092bfb9c4a098edc27e6c58661628b90d8f98c96b3e02cb70be", func := "bordereau/bordereaulaw8.IndexAgain", spec := "indexAgain", unfollowed := true, recurses := true, apart := false }
def IndexAgainSaid : Prop := indexAgainRow.holds Try.pinned (OpenSpec.ofChange indexAgainSpec)

/-- ITS FALSE NEIGHBOUR: 'it returns false'. Refute it at one input. -/
def indexAgainWrong : ChangeSpec := { name := "indexAgain", fn := fun _ => fun
  | [d1, d2, d3] => { results := [.lit (.bool false)], args := [d1, d2, d3] }
  | _ => none }
def IndexAgainWrongFalsely : Prop := indexAgainRow.holds Try.pinned (OpenSpec.ofChange indexAgainWrong)

/-- 'bordereaulaw8.IndexOrder': WHATEVER THE INPUT: true; the input reads as it did. -/
def indexOrderSpec : ChangeSpec := { name := "indexOrder", fn := fun _ => fun
  | [d1, d2, d3, d4] => { results := [.lit (.bool true)], args := [d1, d2, d3, d4] }
  | _ => none }
def indexOrderRow : OpenClaim := { program := "ytknclghaofmnhaa", sum := "37ffd4f724d67092bfb9c4a098edc27e6c58661628b90d8f98c96b3e02cb70be", func := "bordereau/bordereaulaw8.IndexOrder", spec := "indexOrder", unfollowed := true, recurses := true, apart := false }
def IndexOrderSaid : Prop := indexOrderRow.holds Try.pinned (OpenSpec.ofChange indexOrderSpec)

/-- ITS FALSE NEIGHBOUR: 'it returns false'. Refute it at one input. -/
def indexOrderWrong : ChangeSpec := { name := "indexOrder", fn := fun _ => fun
  | [d1, d2, d3, d4] => { results := [.lit (.bool false)], args := [d1, d2, d3, d4] }
  | _ => none }
def IndexOrderWrongFalsely : Prop := indexOrderRow.holds Try.pinned (OpenSpec.ofChange indexOrderWrong)

/-- 'bordereaulaw10.ProducerNumbers': WHATEVER THE INPUT: true; the input reads as it did. -/
def producerNumbersSpec : ChangeSpec := { name := "producerNumbers", fn := fun _ => fun
  | [] => { results := [.lit (.bool true)], args := [] }
  | _ => none }
def producerNumbersRow : OpenClaim := { program := "ytknclghaofmnhaa", sum := "37ffd4f724d67092bfb9c4a098edc27e6c58661628b90d8f98c96b3e02cb70be", func := "bordereau/bordereaulaw10.ProducerNumbers", spec := "producerNumbers", apart := false }
def ProducerNumbersSaid : Prop := producerNumbersRow.holds Try.pinned (OpenSpec.ofChange producerNumbersSpec)

/-- ITS FALSE NEIGHBOUR: 'it returns false'. Refute it at one input. -/
def producerNumbersWrong : ChangeSpec := { name := "producerNumbers", fn := fun _ => fun
  | [] => { results := [.lit (.bool false)], args := [] }
  | _ => none }
def ProducerNumbersWrongFalsely : Prop := producerNumbersRow.holds Try.pinned (OpenSpec.ofChange producerNumbersWrong)

/-- 'bordereaulaw10.ProducerOnce': WHATEVER THE INPUT: true; the input reads as it did. -/
def producerOnceSpec : ChangeSpec := { name := "producerOnce", fn := fun _ => fun
  | [d1, d2] => { results := [.lit (.bool true)], args := [d1, d2] }
  | _ => none }
def producerOnceRow : OpenClaim := { program := "ytknclghaofmnhaa", sum := "37ffd4f724d67092bfb9c4a098edc27e6c58661628b90d8f98c96b3e02cb70be", func := "bordereau/bordereaulaw10.ProducerOnce", spec := "producerOnce", apart := false }
def ProducerOnceSaid : Prop := producerOnceRow.holds Try.pinned (OpenSpec.ofChange producerOnceSpec)

/-- ITS FALSE NEIGHBOUR: 'it returns false'. Refute it at one input. -/
def producerOnceWrong : ChangeSpec := { name := "producerOnce", fn := fun _ => fun
  | [d1, d2] => { results := [.lit (.bool false)], args := [d1, d2] }
  | _ => none }
def ProducerOnceWrongFalsely : Prop := producerOnceRow.holds Try.pinned (OpenSpec.ofChange producerOnceWrong)

/-- 'bordereaulaw10.ProducerMarkers': WHATEVER THE INPUT: true; the input reads as it did. -/
def producerMarkersSpec : ChangeSpec := { name := "producerMarkers", fn := fun _ => fun
  | [d1, d2, d3] => { results := [.lit (.bool true)], args := [d1, d2, d3] }
  | _ => none }
def producerMarkersRow : OpenClaim := { program := "ytknclghaofmnhaa", sum := "37ffd4f724d67092bfb9c4a098edc27e6c58661628b90d8f98c96b3e02cb70be", func := "bordereau/bordereaulaw10.ProducerMarkers", spec := "producerMarkers", apart := false }
def ProducerMarkersSaid : Prop := producerMarkersRow.holds Try.pinned (OpenSpec.ofChange producerMarkersSpec)

/-- ITS FALSE NEIGHBOUR: 'it returns false'. Refute it at one input. -/
def producerMarkersWrong : ChangeSpec := { name := "producerMarkers", fn := fun _ => fun
  | [d1, d2, d3] => { results := [.lit (.bool false)], args := [d1, d2, d3] }
  | _ => none }
def ProducerMarkersWrongFalsely : Prop := producerMarkersRow.holds Try.pinned (OpenSpec.ofChange producerMarkersWrong)

/-- 'bordereaulaw10.ProducerEpochs': WHATEVER THE INPUT: true; the input reads as it did. -/
def producerEpochsSpec : ChangeSpec := { name := "producerEpochs", fn := fun _ => fun
  | [d1, d2, d3] => { results := [.lit (.bool true)], args := [d1, d2, d3] }
  | _ => none }
def producerEpochsRow : OpenClaim := { program := "ytknclghaofmnhaa", sum := "37ffd4f724d67092bfb9c4a098edc27e6c58661628b90d8f98c96b3e02cb70be", func := "bordereau/bordereaulaw10.ProducerEpochs", spec := "producerEpochs", apart := false }
def ProducerEpochsSaid : Prop := producerEpochsRow.holds Try.pinned (OpenSpec.ofChange producerEpochsSpec)

/-- ITS FALSE NEIGHBOUR: 'it returns false'. Refute it at one input. -/
def producerEpochsWrong : ChangeSpec := { name := "producerEpochs", fn := fun _ => fun
  | [d1, d2, d3] => { results := [.lit (.bool false)], args := [d1, d2, d3] }
  | _ => none }
def ProducerEpochsWrongFalsely : Prop := producerEpochsRow.holds Try.pinned (OpenSpec.ofChange producerEpochsWrong)

/-- 'bordereaulaw8.IndexNumbers': WHATEVER THE INPUT: true; the input reads as it did. -/
def indexNumbersSpec : ChangeSpec := { name := "indexNumbers", fn := fun _ => fun
  | [] => { results := [.lit (.bool true)], args := [] }
  | _ => none }
def indexNumbersRow : OpenClaim := { program := "ytknclghaofmnhaa", sum := "37ffd4f724d67092bfb9c4a098edc27e6c58661628b90d8f98c96b3e02cb70be", func := "bordereau/bordereaulaw8.IndexNumbers", spec := "indexNumbers", unfollowed := true, recurses := true, apart := false }
def IndexNumbersSaid : Prop := indexNumbersRow.holds Try.pinned (OpenSpec.ofChange indexNumbersSpec)

/-- ITS FALSE NEIGHBOUR: 'it returns false'. Refute it at one input. -/
def indexNumbersWrong : ChangeSpec := { name := "indexNumbers", fn := fun _ => fun
  | [] => { results := [.lit (.bool false)], args := [] }
  | _ => none }
def IndexNumbersWrongFalsely : Prop := indexNumbersRow.holds Try.pinned (OpenSpec.ofChange indexNumbersWrong)

/-- 'bordereaulaw6.BatchNumbers': WHATEVER THE INPUT: true; the input reads as it did. -/
def batchNumbersSpec : ChangeSpec := { name := "batchNumbers", fn := fun _ => fun
  | [] => { results := [.lit (.bool true)], args := [] }
  | _ => none }
def batchNumbersRow : OpenClaim := { program := "ytknclghaofmnhaa", sum := "37ffd4f724d67092bfb9c4a098edc27e6c58661628b90d8f98c96b3e02cb70be", func := "bordereau/bordereaulaw6.BatchNumbers", spec := "batchNumbers", apart := false }
def BatchNumbersSaid : Prop := batchNumbersRow.holds Try.pinned (OpenSpec.ofChange batchNumbersSpec)

/-- ITS FALSE NEIGHBOUR: 'it returns false'. Refute it at one input. -/
def batchNumbersWrong : ChangeSpec := { name := "batchNumbers", fn := fun _ => fun
  | [] => { results := [.lit (.bool false)], args := [] }
  | _ => none }
def BatchNumbersWrongFalsely : Prop := batchNumbersRow.holds Try.pinned (OpenSpec.ofChange batchNumbersWrong)

/-- 'bordereaulaw6.BatchTells': WHATEVER THE INPUT: true; the input reads as it did. -/
def batchTellsSpec : ChangeSpec := { name := "batchTells", fn := fun _ => fun
  | [d1, d2, d3, d4, d5, d6, d7] => { results := [.lit (.bool true)], args := [d1, d2, d3, d4, d5, d6, d7] }
  | _ => none }
def batchTellsRow : OpenClaim := { program := "ytknclghaofmnhaa", sum := "37ffd4f724d67092bfb9c4a098edc27e6c58661628b90d8f98c96b3e02cb70be", func := "bordereau/bordereaulaw6.BatchTells", spec := "batchTells", apart := false }
def BatchTellsSaid : Prop := batchTellsRow.holds Try.pinned (OpenSpec.ofChange batchTellsSpec)

/-- ITS FALSE NEIGHBOUR: 'it returns false'. Refute it at one input. -/
def batchTellsWrong : ChangeSpec := { name := "batchTells", fn := fun _ => fun
  | [d1, d2, d3, d4, d5, d6, d7] => { results := [.lit (.bool false)], args := [d1, d2, d3, d4, d5, d6, d7] }
  | _ => none }
def BatchTellsWrongFalsely : Prop := batchTellsRow.holds Try.pinned (OpenSpec.ofChange batchTellsWrong)

/-- 'bordereaulaw6.BatchRebased': WHATEVER THE INPUT: true; the input reads as it did. -/
def batchRebasedSpec : ChangeSpec := { name := "batchRebased", fn := fun _ => fun
  | [d1, d2, d3] => { results := [.lit (.bool true)], args := [d1, d2, d3] }
  | _ => none }
def batchRebasedRow : OpenClaim := { program := "ytknclghaofmnhaa", sum := "37ffd4f724d67092bfb9c4a098edc27e6c58661628b90d8f98c96b3e02cb70be", func := "bordereau/bordereaulaw6.BatchRebased", spec := "batchRebased", apart := false }
def BatchRebasedSaid : Prop := batchRebasedRow.holds Try.pinned (OpenSpec.ofChange batchRebasedSpec)

/-- ITS FALSE NEIGHBOUR: 'it returns false'. Refute it at one input. -/
def batchRebasedWrong : ChangeSpec := { name := "batchRebased", fn := fun _ => fun
  | [d1, d2, d3] => { results := [.lit (.bool false)], args := [d1, d2, d3] }
  | _ => none }
def BatchRebasedWrongFalsely : Prop := batchRebasedRow.holds Try.pinned (OpenSpec.ofChange batchRebasedWrong)

/-- 'bordereaulaw6.BatchRows': WHATEVER THE INPUT: true; the input reads as it did. -/
def batchRowsSpec : ChangeSpec := { name := "batchRows", fn := fun _ => fun
  | [d1, d2] => { results := [.lit (.bool true)], args := [d1, d2] }
  | _ => none }
def batchRowsRow : OpenClaim := { program := "ytknclghaofmnhaa", sum := "37ffd4f724d67092bfb9c4a098edc27e6c58661628b90d8f98c96b3e02cb70be", func := "bordereau/bordereaulaw6.BatchRows", spec := "batchRows", apart := false }
def BatchRowsSaid : Prop := batchRowsRow.holds Try.pinned (OpenSpec.ofChange batchRowsSpec)

/-- ITS FALSE NEIGHBOUR: 'it returns false'. Refute it at one input. -/
def batchRowsWrong : ChangeSpec := { name := "batchRows", fn := fun _ => fun
  | [d1, d2] => { results := [.lit (.bool false)], args := [d1, d2] }
  | _ => none }
def BatchRowsWrongFalsely : Prop := batchRowsRow.holds Try.pinned (OpenSpec.ofChange batchRowsWrong)

/-- 'bordereaulaw6.BatchBases': WHATEVER THE INPUT: true; the input reads as it did. -/
def batchBasesSpec : ChangeSpec := { name := "batchBases", fn := fun _ => fun
  | [d1, d2, d3] => { results := [.lit (.bool true)], args := [d1, d2, d3] }
  | _ => none }
def batchBasesRow : OpenClaim := { program := "ytknclghaofmnhaa", sum := "37ffd4f724d67092bfb9c4a098edc27e6c58661628b90d8f98c96b3e02cb70be", func := "bordereau/bordereaulaw6.BatchBases", spec := "batchBases", apart := false }
def BatchBasesSaid : Prop := batchBasesRow.holds Try.pinned (OpenSpec.ofChange batchBasesSpec)

/-- ITS FALSE NEIGHBOUR: 'it returns false'. Refute it at one input. -/
def batchBasesWrong : ChangeSpec := { name := "batchBases", fn := fun _ => fun
  | [d1, d2, d3] => { results := [.lit (.bool false)], args := [d1, d2, d3] }
  | _ => none }
def BatchBasesWrongFalsely : Prop := batchBasesRow.holds Try.pinned (OpenSpec.ofChange batchBasesWrong)

/- THE SECOND FORM. 'bulk': how many values and letters a reading holds, each counted each time it is reached (what is shared counts as often as it is met; a slice's spare places count too). A statement '..UptoSaid' is the law's where the arguments, and the package variables that the reading takes, are together of bulk at most 1048576: NARROWER than '..Said'. Prove '..Said' where nothing that the law and all that it calls make is longer than what came in: it says more and counts as full. Else prove '..UptoSaid'. A law counts once. -/
mutual
def uptoBulk {H : Type} : DataW H → Nat
  | .lit (.string bytes) => bytes.length + 1
  | .lit _ => 1
  | .nil => 1
  | .ptr d => uptoBulk d + 1
  | .slice elems spare => uptoBulkAll elems + uptoBulkAll spare + 1
  | .agg parts => uptoBulkAll parts + 1
  | .iface _ d => uptoBulk d + 1
  | .map entries => uptoBulkEntries entries + 1
  | .held _ => 1
def uptoBulkAll {H : Type} : List (DataW H) → Nat
  | [] => 0
  | d :: r => uptoBulk d + uptoBulkAll r
def uptoBulkEntries {H : Type} : List (Lit × DataW H) → Nat
  | [] => 0
  | x :: r => uptoBulkEntry x + uptoBulkEntries r
def uptoBulkEntry {H : Type} : Lit × DataW H → Nat
  | (.string bytes, d) => bytes.length + uptoBulk d + 1
  | (_, d) => uptoBulk d + 1
 end
def uptoSmall : (H : Type) → List (DataW H) → Bool := fun _ ds => decide (uptoBulkAll ds ≤ 1048576)
def OpenSpec.upto (s : _root_.Go.ChangeSpec) : _root_.Go.OpenSpec := { _root_.Go.OpenSpec.ofChange s with cond := some uptoSmall }

/-- 'bordereaulaw8.IndexPlays', WHERE WHAT IT READS IS OF BULK AT MOST 1048576: true; the input reads as it did. -/
def indexPlaysUptoRow : OpenClaim := { program := "ytknclghaofmnhaa", sum := "37ffd4f724d67092bfb9c4a098edc27e6c58661628b90d8f98c96b3e02cb70be", func := "bordereau/bordereaulaw8.IndexPlays", spec := "indexPlays", unfollowed := true, recurses := true, apart := false, narrowed := true }
def IndexPlaysUptoSaid : Prop := indexPlaysUptoRow.holds Try.pinned (OpenSpec.upto indexPlaysSpec)

/-- 'bordereaulaw8.IndexFinds', WHERE WHAT IT READS IS OF BULK AT MOST 1048576: true; the input reads as it did. -/
def indexFindsUptoRow : OpenClaim := { program := "ytknclghaofmnhaa", sum := "37ffd4f724d67092bfb9c4a098edc27e6c58661628b90d8f98c96b3e02cb70be", func := "bordereau/bordereaulaw8.IndexFinds", spec := "indexFinds", unfollowed := true, recurses := true, apart := false, narrowed := true }
def IndexFindsUptoSaid : Prop := indexFindsUptoRow.holds Try.pinned (OpenSpec.upto indexFindsSpec)

/-- 'bordereaulaw8.IndexAgain', WHERE WHAT IT READS IS OF BULK AT MOST 1048576: true; the input reads as it did. -/
def indexAgainUptoRow : OpenClaim := { program := "ytknclghaofmnhaa", sum := "37ffd4f724d67092bfb9c4a098edc27e6c58661628b90d8f98c96b3e02cb70be", func := "bordereau/bordereaulaw8.IndexAgain", spec := "indexAgain", unfollowed := true, recurses := true, apart := false, narrowed := true }
def IndexAgainUptoSaid : Prop := indexAgainUptoRow.holds Try.pinned (OpenSpec.upto indexAgainSpec)

/-- 'bordereaulaw8.IndexOrder', WHERE WHAT IT READS IS OF BULK AT MOST 1048576: true; the input reads as it did. -/
def indexOrderUptoRow : OpenClaim := { program := "ytknclghaofmnhaa", sum := "37ffd4f724d67092bfb9c4a098edc27e6c58661628b90d8f98c96b3e02cb70be", func := "bordereau/bordereaulaw8.IndexOrder", spec := "indexOrder", unfollowed := true, recurses := true, apart := false, narrowed := true }
def IndexOrderUptoSaid : Prop := indexOrderUptoRow.holds Try.pinned (OpenSpec.upto indexOrderSpec)

/-- 'bordereaulaw10.ProducerNumbers', WHERE WHAT IT READS IS OF BULK AT MOST 1048576: true; the input reads as it did. -/
def producerNumbersUptoRow : OpenClaim := { program := "ytknclghaofmnhaa", sum := "37ffd4f724d67092bfb9c4a098edc27e6c58661628b90d8f98c96b3e02cb70be", func := "bordereau/bordereaulaw10.ProducerNumbers", spec := "producerNumbers", apart := false, narrowed := true }
def ProducerNumbersUptoSaid : Prop := producerNumbersUptoRow.holds Try.pinned (OpenSpec.upto producerNumbersSpec)

/-- 'bordereaulaw10.ProducerOnce', WHERE WHAT IT READS IS OF BULK AT MOST 1048576: true; the input reads as it did. -/
def producerOnceUptoRow : OpenClaim := { program := "ytknclghaofmnhaa", sum := "37ffd4f724d67092bfb9c4a098edc27e6c58661628b90d8f98c96b3e02cb70be", func := "bordereau/bordereaulaw10.ProducerOnce", spec := "producerOnce", apart := false, narrowed := true }
def ProducerOnceUptoSaid : Prop := producerOnceUptoRow.holds Try.pinned (OpenSpec.upto producerOnceSpec)

/-- 'bordereaulaw10.ProducerMarkers', WHERE WHAT IT READS IS OF BULK AT MOST 1048576: true; the input reads as it did. -/
def producerMarkersUptoRow : OpenClaim := { program := "ytknclghaofmnhaa", sum := "37ffd4f724d67092bfb9c4a098edc27e6c58661628b90d8f98c96b3e02cb70be", func := "bordereau/bordereaulaw10.ProducerMarkers", spec := "producerMarkers", apart := false, narrowed := true }
def ProducerMarkersUptoSaid : Prop := producerMarkersUptoRow.holds Try.pinned (OpenSpec.upto producerMarkersSpec)

/-- 'bordereaulaw10.ProducerEpochs', WHERE WHAT IT READS IS OF BULK AT MOST 1048576: true; the input reads as it did. -/
def producerEpochsUptoRow : OpenClaim := { program := "ytknclghaofmnhaa", sum := "37ffd4f724d67092bfb9c4a098edc27e6c58661628b90d8f98c96b3e02cb70be", func := "bordereau/bordereaulaw10.ProducerEpochs", spec := "producerEpochs", apart := false, narrowed := true }
def ProducerEpochsUptoSaid : Prop := producerEpochsUptoRow.holds Try.pinned (OpenSpec.upto producerEpochsSpec)

/-- 'bordereaulaw8.IndexNumbers', WHERE WHAT IT READS IS OF BULK AT MOST 1048576: true; the input reads as it did. -/
def indexNumbersUptoRow : OpenClaim := { program := "ytknclghaofmnhaa", sum := "37ffd4f724d67092bfb9c4a098edc27e6c58661628b90d8f98c96b3e02cb70be", func := "bordereau/bordereaulaw8.IndexNumbers", spec := "indexNumbers", unfollowed := true, recurses := true, apart := false, narrowed := true }
def IndexNumbersUptoSaid : Prop := indexNumbersUptoRow.holds Try.pinned (OpenSpec.upto indexNumbersSpec)

/-- 'bordereaulaw6.BatchNumbers', WHERE WHAT IT READS IS OF BULK AT MOST 1048576: true; the input reads as it did. -/
def batchNumbersUptoRow : OpenClaim := { program := "ytknclghaofmnhaa", sum := "37ffd4f724d67092bfb9c4a098edc27e6c58661628b90d8f98c96b3e02cb70be", func := "bordereau/bordereaulaw6.BatchNumbers", spec := "batchNumbers", apart := false, narrowed := true }
def BatchNumbersUptoSaid : Prop := batchNumbersUptoRow.holds Try.pinned (OpenSpec.upto batchNumbersSpec)

/-- 'bordereaulaw6.BatchTells', WHERE WHAT IT READS IS OF BULK AT MOST 1048576: true; the input reads as it did. -/
def batchTellsUptoRow : OpenClaim := { program := "ytknclghaofmnhaa", sum := "37ffd4f724d67092bfb9c4a098edc27e6c58661628b90d8f98c96b3e02cb70be", func := "bordereau/bordereaulaw6.BatchTells", spec := "batchTells", apart := false, narrowed := true }
def BatchTellsUptoSaid : Prop := batchTellsUptoRow.holds Try.pinned (OpenSpec.upto batchTellsSpec)

/-- 'bordereaulaw6.BatchRebased', WHERE WHAT IT READS IS OF BULK AT MOST 1048576: true; the input reads as it did. -/
def batchRebasedUptoRow : OpenClaim := { program := "ytknclghaofmnhaa", sum := "37ffd4f724d67092bfb9c4a098edc27e6c58661628b90d8f98c96b3e02cb70be", func := "bordereau/bordereaulaw6.BatchRebased", spec := "batchRebased", apart := false, narrowed := true }
def BatchRebasedUptoSaid : Prop := batchRebasedUptoRow.holds Try.pinned (OpenSpec.upto batchRebasedSpec)

/-- 'bordereaulaw6.BatchRows', WHERE WHAT IT READS IS OF BULK AT MOST 1048576: true; the input reads as it did. -/
def batchRowsUptoRow : OpenClaim := { program := "ytknclghaofmnhaa", sum := "37ffd4f724d67092bfb9c4a098edc27e6c58661628b90d8f98c96b3e02cb70be", func := "bordereau/bordereaulaw6.BatchRows", spec := "batchRows", apart := false, narrowed := true }
def BatchRowsUptoSaid : Prop := batchRowsUptoRow.holds Try.pinned (OpenSpec.upto batchRowsSpec)

/-- 'bordereaulaw6.BatchBases', WHERE WHAT IT READS IS OF BULK AT MOST 1048576: true; the input reads as it did. -/
def batchBasesUptoRow : OpenClaim := { program := "ytknclghaofmnhaa", sum := "37ffd4f724d67092bfb9c4a098edc27e6c58661628b90d8f98c96b3e02cb70be", func := "bordereau/bordereaulaw6.BatchBases", spec := "batchBases", apart := false, narrowed := true }
def BatchBasesUptoSaid : Prop := batchBasesUptoRow.holds Try.pinned (OpenSpec.upto batchBasesSpec)

end Rows
end Go.Proofs.Ytknclghaofmnhaa
