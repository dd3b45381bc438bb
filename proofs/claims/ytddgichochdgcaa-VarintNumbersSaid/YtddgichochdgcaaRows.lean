/-
  No cell of these rows narrows 'for every input' (looked for: loops, veiled, ifaces, maps, wideKeys, modest, calm, conditions, laid).
  DERIVED. THE GIVEN ROWS OF THIS SEAT. 11 by the template 'for every input the law returns true; each argument reads behind the call as it read before'; 0 by the template 'total and deterministic' (their statements: YtddgichochdgcaaTotals.lean).
  GIVEN WITH THE SEED: the statements are not yours to turn. If you find one false, say at which input.
  Laid BY PROGRAM, IN A SANDBOX (cutbox-rows.mjs): the forced cells as the released guide's own fill.sh prints them over the translation 20667d631c93e5a0… (all of the seat's roots in one cut). By AI agents, Wed Nov 11 2026. No macro, syntax, notation, axiom, sorry.
-/
import Derived.Test.YtddgichochdgcaaChecked
import GoSem.Claim
import GoSem.ClaimJoined
import GoSem.ClaimMapViews
import Derived.JoinedTies
import Derived.KernelRfl
namespace Go.Proofs.Ytddgichochdgcaa
/- THE CELL 'sum', in the pinned program and in every row, IS THE sha256 OF THE DUMP (.gsa) THAT YtddgichochdgcaaProg.lean LOADS. Nothing in Lean hashes anything: it is a label: what it is worth is what the hold of that sum in a sandbox is worth. -/
noncomputable def Try.pinned : Pinned := { name := "ytddgichochdgcaa", sum := "20667d631c93e5a07c098d30a916a49b77056b2df4e735f5259fe7380b87bd78", checked := Try.checked }
namespace Rows
def none {H : Type} : Left H := { results := [], args := [] }

/-- 'bordereaulaw5.SeqRound': WHATEVER THE INPUT: true; the input reads as it did. -/
def seqRoundSpec : ChangeSpec := { name := "seqRound", fn := fun _ => fun
  | [d1, d2, d3] => { results := [.lit (.bool true)], args := [d1, d2, d3] }
  | _ => none }
def seqRoundRow : OpenClaim := { program := "ytddgichochdgcaa", sum := "20667d631c93e5a07c098d30a916a49b77056b2df4e735f5259fe7380b87bd78", func := "bordereau/bordereaulaw5.SeqRound", spec := "seqRound", apart := false }
def SeqRoundSaid : Prop := seqRoundRow.holds Try.pinned (OpenSpec.ofChange seqRoundSpec)

/-- ITS FALSE NEIGHBOUR: 'it returns false'. Refute it at one input. -/
def seqRoundWrong : ChangeSpec := { name := "seqRound", fn := fun _ => fun
  | [d1, d2, d3] => { results := [.lit (.bool false)], args := [d1, d2, d3] }
  | _ => none }
def SeqRoundWrongFalsely : Prop := seqRoundRow.holds Try.pinned (OpenSpec.ofChange seqRoundWrong)

/-- 'bordereaulaw5.SeqLast': WHATEVER THE INPUT: true; the input reads as it did. -/
def seqLastSpec : ChangeSpec := { name := "seqLast", fn := fun _ => fun
  | [d1, d2, d3] => { results := [.lit (.bool true)], args := [d1, d2, d3] }
  | _ => none }
def seqLastRow : OpenClaim := { program := "ytddgichochdgcaa", sum := "20667d631c93e5a07c098d30a916a49b77056b2df4e735f5259fe7380b87bd78", func := "bordereau/bordereaulaw5.SeqLast", spec := "seqLast", apart := false }
def SeqLastSaid : Prop := seqLastRow.holds Try.pinned (OpenSpec.ofChange seqLastSpec)

/-- ITS FALSE NEIGHBOUR: 'it returns false'. Refute it at one input. -/
def seqLastWrong : ChangeSpec := { name := "seqLast", fn := fun _ => fun
  | [d1, d2, d3] => { results := [.lit (.bool false)], args := [d1, d2, d3] }
  | _ => none }
def SeqLastWrongFalsely : Prop := seqLastRow.holds Try.pinned (OpenSpec.ofChange seqLastWrong)

/-- 'bordereaulaw1.CrcNumbers': WHATEVER THE INPUT: true; the input reads as it did. -/
def crcNumbersSpec : ChangeSpec := { name := "crcNumbers", fn := fun _ => fun
  | [] => { results := [.lit (.bool true)], args := [] }
  | _ => none }
def crcNumbersRow : OpenClaim := { program := "ytddgichochdgcaa", sum := "20667d631c93e5a07c098d30a916a49b77056b2df4e735f5259fe7380b87bd78", func := "bordereau/bordereaulaw1.CrcNumbers", spec := "crcNumbers", apart := false }
def CrcNumbersSaid : Prop := crcNumbersRow.holds Try.pinned (OpenSpec.ofChange crcNumbersSpec)

/-- ITS FALSE NEIGHBOUR: 'it returns false'. Refute it at one input. -/
def crcNumbersWrong : ChangeSpec := { name := "crcNumbers", fn := fun _ => fun
  | [] => { results := [.lit (.bool false)], args := [] }
  | _ => none }
def CrcNumbersWrongFalsely : Prop := crcNumbersRow.holds Try.pinned (OpenSpec.ofChange crcNumbersWrong)

/-- 'bordereaulaw1.CrcTells': WHATEVER THE INPUT: true; the input reads as it did. -/
def crcTellsSpec : ChangeSpec := { name := "crcTells", fn := fun _ => fun
  | [d1, d2, d3, d4, d5] => { results := [.lit (.bool true)], args := [d1, d2, d3, d4, d5] }
  | _ => none }
def crcTellsRow : OpenClaim := { program := "ytddgichochdgcaa", sum := "20667d631c93e5a07c098d30a916a49b77056b2df4e735f5259fe7380b87bd78", func := "bordereau/bordereaulaw1.CrcTells", spec := "crcTells", apart := false }
def CrcTellsSaid : Prop := crcTellsRow.holds Try.pinned (OpenSpec.ofChange crcTellsSpec)

/-- ITS FALSE NEIGHBOUR: 'it returns false'. Refute it at one input. -/
def crcTellsWrong : ChangeSpec := { name := "crcTells", fn := fun _ => fun
  | [d1, d2, d3, d4, d5] => { results := [.lit (.bool false)], args := [d1, d2, d3, d4, d5] }
  | _ => none }
def CrcTellsWrongFalsely : Prop := crcTellsRow.holds Try.pinned (OpenSpec.ofChange crcTellsWrong)

/-- 'bordereaulaw1.CrcTurns': WHATEVER THE INPUT: true; the input reads as it did. -/
def crcTurnsSpec : ChangeSpec := { name := "crcTurns", fn := fun _ => fun
  | [d1, d2, d3] => { results := [.lit (.bool true)], args := [d1, d2, d3] }
  | _ => none }
def crcTurnsRow : OpenClaim := { program := "ytddgichochdgcaa", sum := "20667d631c93e5a07c098d30a916a49b77056b2df4e735f5259fe7380b87bd78", func := "bordereau/bordereaulaw1.CrcTurns", spec := "crcTurns", apart := false }
def CrcTurnsSaid : Prop := crcTurnsRow.holds Try.pinned (OpenSpec.ofChange crcTurnsSpec)

/-- ITS FALSE NEIGHBOUR: 'it returns false'. Refute it at one input. -/
def crcTurnsWrong : ChangeSpec := { name := "crcTurns", fn := fun _ => fun
  | [d1, d2, d3] => { results := [.lit (.bool false)], args := [d1, d2, d3] }
  | _ => none }
def CrcTurnsWrongFalsely : Prop := crcTurnsRow.holds Try.pinned (OpenSpec.ofChange crcTurnsWrong)

/-- 'bordereaulaw1.CrcParts': WHATEVER THE INPUT: true; the input reads as it did. -/
def crcPartsSpec : ChangeSpec := { name := "crcParts", fn := fun _ => fun
  | [d1, d2] => { results := [.lit (.bool true)], args := [d1, d2] }
  | _ => none }
def crcPartsRow : OpenClaim := { program := "ytddgichochdgcaa", sum := "20667d631c93e5a07c098d30a916a49b77056b2df4e735f5259fe7380b87bd78", func := "bordereau/bordereaulaw1.CrcParts", spec := "crcParts", apart := false }
def CrcPartsSaid : Prop := crcPartsRow.holds Try.pinned (OpenSpec.ofChange crcPartsSpec)

/-- ITS FALSE NEIGHBOUR: 'it returns false'. Refute it at one input. -/
def crcPartsWrong : ChangeSpec := { name := "crcParts", fn := fun _ => fun
  | [d1, d2] => { results := [.lit (.bool false)], args := [d1, d2] }
  | _ => none }
def CrcPartsWrongFalsely : Prop := crcPartsRow.holds Try.pinned (OpenSpec.ofChange crcPartsWrong)

/-- 'bordereaulaw2.VarintRows': WHATEVER THE INPUT: true; the input reads as it did. -/
def varintRowsSpec : ChangeSpec := { name := "varintRows", fn := fun _ => fun
  | [d1, d2] => { results := [.lit (.bool true)], args := [d1, d2] }
  | _ => none }
def varintRowsRow : OpenClaim := { program := "ytddgichochdgcaa", sum := "20667d631c93e5a07c098d30a916a49b77056b2df4e735f5259fe7380b87bd78", func := "bordereau/bordereaulaw2.VarintRows", spec := "varintRows", apart := false }
def VarintRowsSaid : Prop := varintRowsRow.holds Try.pinned (OpenSpec.ofChange varintRowsSpec)

/-- ITS FALSE NEIGHBOUR: 'it returns false'. Refute it at one input. -/
def varintRowsWrong : ChangeSpec := { name := "varintRows", fn := fun _ => fun
  | [d1, d2] => { results := [.lit (.bool false)], args := [d1, d2] }
  | _ => none }
def VarintRowsWrongFalsely : Prop := varintRowsRow.holds Try.pinned (OpenSpec.ofChange varintRowsWrong)

/-- 'bordereaulaw2.VarintLongs': WHATEVER THE INPUT: true; the input reads as it did. -/
def varintLongsSpec : ChangeSpec := { name := "varintLongs", fn := fun _ => fun
  | [d1, d2, d3] => { results := [.lit (.bool true)], args := [d1, d2, d3] }
  | _ => none }
def varintLongsRow : OpenClaim := { program := "ytddgichochdgcaa", sum := "20667d631c93e5a07c098d30a916a49b77056b2df4e735f5259fe7380b87bd78", func := "bordereau/bordereaulaw2.VarintLongs", spec := "varintLongs", apart := false }
def VarintLongsSaid : Prop := varintLongsRow.holds Try.pinned (OpenSpec.ofChange varintLongsSpec)

/-- ITS FALSE NEIGHBOUR: 'it returns false'. Refute it at one input. -/
def varintLongsWrong : ChangeSpec := { name := "varintLongs", fn := fun _ => fun
  | [d1, d2, d3] => { results := [.lit (.bool false)], args := [d1, d2, d3] }
  | _ => none }
def VarintLongsWrongFalsely : Prop := varintLongsRow.holds Try.pinned (OpenSpec.ofChange varintLongsWrong)

/-- 'bordereaulaw2.VarintNumbers': WHATEVER THE INPUT: true; the input reads as it did. -/
def varintNumbersSpec : ChangeSpec := { name := "varintNumbers", fn := fun _ => fun
  | [] => { results := [.lit (.bool true)], args := [] }
  | _ => none }
def varintNumbersRow : OpenClaim := { program := "ytddgichochdgcaa", sum := "20667d631c93e5a07c098d30a916a49b77056b2df4e735f5259fe7380b87bd78", func := "bordereau/bordereaulaw2.VarintNumbers", spec := "varintNumbers", apart := false }
def VarintNumbersSaid : Prop := varintNumbersRow.holds Try.pinned (OpenSpec.ofChange varintNumbersSpec)

/-- ITS FALSE NEIGHBOUR: 'it returns false'. Refute it at one input. -/
def varintNumbersWrong : ChangeSpec := { name := "varintNumbers", fn := fun _ => fun
  | [] => { results := [.lit (.bool false)], args := [] }
  | _ => none }
def VarintNumbersWrongFalsely : Prop := varintNumbersRow.holds Try.pinned (OpenSpec.ofChange varintNumbersWrong)

/-- 'bordereaulaw2.VarintTells': WHATEVER THE INPUT: true; the input reads as it did. -/
def varintTellsSpec : ChangeSpec := { name := "varintTells", fn := fun _ => fun
  | [d1, d2, d3, d4, d5] => { results := [.lit (.bool true)], args := [d1, d2, d3, d4, d5] }
  | _ => none }
def varintTellsRow : OpenClaim := { program := "ytddgichochdgcaa", sum := "20667d631c93e5a07c098d30a916a49b77056b2df4e735f5259fe7380b87bd78", func := "bordereau/bordereaulaw2.VarintTells", spec := "varintTells", apart := false }
def VarintTellsSaid : Prop := varintTellsRow.holds Try.pinned (OpenSpec.ofChange varintTellsSpec)

/-- ITS FALSE NEIGHBOUR: 'it returns false'. Refute it at one input. -/
def varintTellsWrong : ChangeSpec := { name := "varintTells", fn := fun _ => fun
  | [d1, d2, d3, d4, d5] => { results := [.lit (.bool false)], args := [d1, d2, d3, d4, d5] }
  | _ => none }
def VarintTellsWrongFalsely : Prop := varintTellsRow.holds Try.pinned (OpenSpec.ofChange varintTellsWrong)

/-- 'bordereaulaw2.VarintBack': WHATEVER THE INPUT: true; the input reads as it did. -/
def varintBackSpec : ChangeSpec := { name := "varintBack", fn := fun _ => fun
  | [d1, d2, d3] => { results := [.lit (.bool true)], args := [d1, d2, d3] }
  | _ => none }
def varintBackRow : OpenClaim := { program := "ytddgichochdgcaa", sum := "20667d631c93e5a07c098d30a916a49b77056b2df4e735f5259fe7380b87bd78", func := "bordereau/bordereaulaw2.VarintBack", spec := "varintBack", apart := false }
def VarintBackSaid : Prop := varintBackRow.holds Try.pinned (OpenSpec.ofChange varintBackSpec)

/-- ITS FALSE NEIGHBOUR: 'it returns false'. Refute it at one input. -/
def varintBackWrong : ChangeSpec := { name := "varintBack", fn := fun _ => fun
  | [d1, d2, d3] => { results := [.lit (.bool false)], args := [d1, d2, d3] }
  | _ => none }
def VarintBackWrongFalsely : Prop := varintBackRow.holds Try.pinned (OpenSpec.ofChange varintBackWrong)

/- THE SECOND FORM. 'bulk': how many values and letters a reading holds, each counted each time it is reached (what is shared counts as often as it is met; a slice's spare places count too). A statement '..UptoSaid' is the law's where the arguments, and the package variables that the reading takes, are together of bulk at most 1048576: NARROWER than '..Said'. Prove '..Said' where nothing that the law and all that it calls make is longer than what came in: it says more and counts as full. Else prove '..UptoSaid'. A law counts once. -/
mutual
def uptoBulk {H : Type} : DataW H → Nat
  | .lit (.string bytes) => bytes.length + 1
  | .lit _ => 1
  | .nil => 1
  | .ptr d => uptoBulk d + 1
  | .slice elems spare => uptoBulkAll elems + uptoBulkAll spare + 1
  | .agg parts => uptoBulkAll parts + 1
  | .iface _ d => uptoBulk d + 1
  | .map entries => uptoBulkEntries entries + 1
  | .held _ => 1
def uptoBulkAll {H : Type} : List (DataW H) → Nat
  | [] => 0
  | d :: r => uptoBulk d + uptoBulkAll r
def uptoBulkEntries {H : Type} : List (Lit × DataW H) → Nat
  | [] => 0
  | x :: r => uptoBulkEntry x + uptoBulkEntries r
def uptoBulkEntry {H : Type} : Lit × DataW H → Nat
  | (.string bytes, d) => bytes.length + uptoBulk d + 1
  | (_, d) => uptoBulk d + 1
 end
def uptoSmall : (H : Type) → List (DataW H) → Bool := fun _ ds => decide (uptoBulkAll ds ≤ 1048576)
def OpenSpec.upto (s : _root_.Go.ChangeSpec) : _root_.Go.OpenSpec := { _root_.Go.OpenSpec.ofChange s with cond := some uptoSmall }

/-- 'bordereaulaw5.SeqRound', WHERE WHAT IT READS IS OF BULK AT MOST 1048576: true; the input reads as it did. -/
def seqRoundUptoRow : OpenClaim := { program := "ytddgichochdgcaa", sum := "20667d631c93e5a07c098d30a916a49b77056b2df4e735f5259fe7380b87bd78", func := "bordereau/bordereaulaw5.SeqRound", spec := "seqRound", apart := false, narrowed := true }
def SeqRoundUptoSaid : Prop := seqRoundUptoRow.holds Try.pinned (OpenSpec.upto seqRoundSpec)

/-- 'bordereaulaw5.SeqLast', WHERE WHAT IT READS IS OF BULK AT MOST 1048576: true; the input reads as it did. -/
def seqLastUptoRow : OpenClaim := { program := "ytddgichochdgcaa", sum := "20667d631c93e5a07c098d30a916a49b77056b2df4e735f5259fe7380b87bd78", func := "bordereau/bordereaulaw5.SeqLast", spec := "seqLast", apart := false, narrowed := true }
def SeqLastUptoSaid : Prop := seqLastUptoRow.holds Try.pinned (OpenSpec.upto seqLastSpec)

/-- 'bordereaulaw1.CrcNumbers', WHERE WHAT IT READS IS OF BULK AT MOST 1048576: true; the input reads as it did. -/
def crcNumbersUptoRow : OpenClaim := { program := "ytddgichochdgcaa", sum := "20667d631c93e5a07c098d30a916a49b77056b2df4e735f5259fe7380b87bd78", func := "bordereau/bordereaulaw1.CrcNumbers", spec := "crcNumbers", apart := false, narrowed := true }
def CrcNumbersUptoSaid : Prop := crcNumbersUptoRow.holds Try.pinned (OpenSpec.upto crcNumbersSpec)

/-- 'bordereaulaw1.CrcTells', WHERE WHAT IT READS IS OF BULK AT MOST 1048576: true; the input reads as it did. -/
def crcTellsUptoRow : OpenClaim := { program := "ytddgichochdgcaa", sum := "20667d631c93e5a07c098d30a916a49b77056b2df4e735f5259fe7380b87bd78", func := "bordereau/bordereaulaw1.CrcTells", spec := "crcTells", apart := false, narrowed := true }
def CrcTellsUptoSaid : Prop := crcTellsUptoRow.holds Try.pinned (OpenSpec.upto crcTellsSpec)

/-- 'bordereaulaw1.CrcTurns', WHERE WHAT IT READS IS OF BULK AT MOST 1048576: true; the input reads as it did. -/
def crcTurnsUptoRow : OpenClaim := { program := "ytddgichochdgcaa", sum := "20667d631c93e5a07c098d30a916a49b77056b2df4e735f5259fe7380b87bd78", func := "bordereau/bordereaulaw1.CrcTurns", spec := "crcTurns", apart := false, narrowed := true }
def CrcTurnsUptoSaid : Prop := crcTurnsUptoRow.holds Try.pinned (OpenSpec.upto crcTurnsSpec)

/-- 'bordereaulaw1.CrcParts', WHERE WHAT IT READS IS OF BULK AT MOST 1048576: true; the input reads as it did. -/
def crcPartsUptoRow : OpenClaim := { program := "ytddgichochdgcaa", sum := "20667d631c93e5a07c098d30a916a49b77056b2df4e735f5259fe7380b87bd78", func := "bordereau/bordereaulaw1.CrcParts", spec := "crcParts", apart := false, narrowed := true }
def CrcPartsUptoSaid : Prop := crcPartsUptoRow.holds Try.pinned (OpenSpec.upto crcPartsSpec)

/-- 'bordereaulaw2.VarintRows', WHERE WHAT IT READS IS OF BULK AT MOST 1048576: true; the input reads as it did. -/
def varintRowsUptoRow : OpenClaim := { program := "ytddgichochdgcaa", sum := "20667d631c93e5a07c098d30a916a49b77056b2df4e735f5259fe7380b87bd78", func := "bordereau/bordereaulaw2.VarintRows", spec := "varintRows", apart := false, narrowed := true }
def VarintRowsUptoSaid : Prop := varintRowsUptoRow.holds Try.pinned (OpenSpec.upto varintRowsSpec)

/-- 'bordereaulaw2.VarintLongs', WHERE WHAT IT READS IS OF BULK AT MOST 1048576: true; the input reads as it did. -/
def varintLongsUptoRow : OpenClaim := { program := "ytddgichochdgcaa", sum := "20667d631c93e5a07c098d30a916a49b77056b2df4e735f5259fe7380b87bd78", func := "bordereau/bordereaulaw2.VarintLongs", spec := "varintLongs", apart := false, narrowed := true }
def VarintLongsUptoSaid : Prop := varintLongsUptoRow.holds Try.pinned (OpenSpec.upto varintLongsSpec)

/-- 'bordereaulaw2.VarintNumbers', WHERE WHAT IT READS IS OF BULK AT MOST 1048576: true; the input reads as it did. -/
def varintNumbersUptoRow : OpenClaim := { program := "ytddgichochdgcaa", sum := "20667d631c93e5a07c098d30a916a49b77056b2df4e735f5259fe7380b87bd78", func := "bordereau/bordereaulaw2.VarintNumbers", spec := "varintNumbers", apart := false, narrowed := true }
def VarintNumbersUptoSaid : Prop := varintNumbersUptoRow.holds Try.pinned (OpenSpec.upto varintNumbersSpec)

/-- 'bordereaulaw2.VarintTells', WHERE WHAT IT READS IS OF BULK AT MOST 1048576: true; the input reads as it did. -/
def varintTellsUptoRow : OpenClaim := { program := "ytddgichochdgcaa", sum := "20667d631c93e5a07c098d30a916a49b77056b2df4e735f5259fe7380b87bd78", func := "bordereau/bordereaulaw2.VarintTells", spec := "varintTells", apart := false, narrowed := true }
def VarintTellsUptoSaid : Prop := varintTellsUptoRow.holds Try.pinned (OpenSpec.upto varintTellsSpec)

/-- 'bordereaulaw2.VarintBack', WHERE WHAT IT READS IS OF BULK AT MOST 1048576: true; the input reads as it did. -/
def varintBackUptoRow : OpenClaim := { program := "ytddgichochdgcaa", sum := "20667d631c93e5a07c098d30a916a49b77056b2df4e735f5259fe7380b87bd78", func := "bordereau/bordereaulaw2.VarintBack", spec := "varintBack", apart := false, narrowed := true }
def VarintBackUptoSaid : Prop := varintBackUptoRow.holds Try.pinned (OpenSpec.upto varintBackSpec)

end Rows
end Go.Proofs.Ytddgichochdgcaa
