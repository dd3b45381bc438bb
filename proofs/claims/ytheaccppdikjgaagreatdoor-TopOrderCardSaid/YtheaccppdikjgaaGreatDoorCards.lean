/-
  DERIVED. GIVEN WITH THE SEED: THE CARDS: each row of YtheaccppdikjgaaGreatDoorRows.lean that lists a variable, with what it lists TIED to the program's text (the seventh form; the later family's looks); each row that meets fmt, with fmt's text TOLD by the authors' own Lean function (tested against real Go, not proved from fmt's source: count such statements apart). THE CARD IS WHAT COUNTS. Prove the row's statement (the work); the ties are given (YtheaccppdikjgaaGreatDoorTie.lean); close each card by the builder's one call (the guide's Derived/Test/ToyasCard.lean, 'card_holds'). Laid BY PROGRAM, IN A SANDBOX (cutbox-door.mjs). By AI agents, Wed Nov 11 2026. No macro, syntax, notation, axiom, sorry.
-/
import Derived.Test.YtheaccppdikjgaaGreatDoorRows
import GoSem.ClaimSeven
namespace Go.Proofs.YtheaccppdikjgaaGreatDoor
namespace Rows

/-- THE TIED CARD OF 'bordereautop.TopOnce'. -/
def topOnceCard : Claim7 := { stood := { row := topOnceRow, standIns := [], harness := (true, "116a28e0d11c34d9b1e934a2b75e0bb9e6471032597df09f058fdb28052fb607"), looks := true }, kinds := [], alts := [], laidByText := true, laidKinds := [.data, .data, .data, .sentinel, .sentinel], laidTests := true, laidLooks := .later }
def TopOnceCardSaid : Prop := Claim7.holds Tryz.pinned (.plain (OpenSpec.ofChange topOnceSpec)) topOnceCard

/-- THE TIED CARD OF 'bordereautop.TopOrder'. -/
def topOrderCard : Claim7 := { stood := { row := topOrderRow, standIns := [], harness := (true, "116a28e0d11c34d9b1e934a2b75e0bb9e6471032597df09f058fdb28052fb607"), looks := true }, kinds := [], alts := [], laidByText := true, laidKinds := [.data, .data, .data, .sentinel, .sentinel], laidTests := true, laidLooks := .later }
def TopOrderCardSaid : Prop := Claim7.holds Tryz.pinned (.plain (OpenSpec.ofChange topOrderSpec)) topOrderCard

/-- THE TIED CARD OF 'bordereautop.TopFull'. -/
def topFullCard : Claim7 := { stood := { row := topFullRow, standIns := [], harness := (true, "116a28e0d11c34d9b1e934a2b75e0bb9e6471032597df09f058fdb28052fb607"), looks := true }, kinds := [], alts := [], laidByText := true, laidKinds := [.data, .data, .data, .sentinel, .sentinel], laidTests := true, laidLooks := .later }
def TopFullCardSaid : Prop := Claim7.holds Tryz.pinned (.plain (OpenSpec.ofChange topFullSpec)) topFullCard

/-- THE TIED CARD OF 'bordereautop.TopFenced'. -/
def topFencedCard : Claim7 := { stood := { row := topFencedRow, standIns := [], harness := (true, "116a28e0d11c34d9b1e934a2b75e0bb9e6471032597df09f058fdb28052fb607"), looks := true }, kinds := [], alts := [], laidByText := true, laidKinds := [.data, .data, .data, .sentinel, .sentinel], laidTests := true, laidLooks := .later }
def TopFencedCardSaid : Prop := Claim7.holds Tryz.pinned (.plain (OpenSpec.ofChange topFencedSpec)) topFencedCard

/-- THE TIED CARD OF 'bordereautop.TopRaw'. -/
def topRawCard : Claim7 := { stood := { row := topRawRow, standIns := [], harness := (true, "116a28e0d11c34d9b1e934a2b75e0bb9e6471032597df09f058fdb28052fb607"), looks := true }, kinds := [], alts := [], laidByText := true, laidKinds := [.data, .data, .data, .sentinel, .sentinel], laidTests := true, laidLooks := .later }
def TopRawCardSaid : Prop := Claim7.holds Tryz.pinned (.plain (OpenSpec.ofChange topRawSpec)) topRawCard

/-- THE TIED CARD OF 'bordereautop.TopBytes'. -/
def topBytesCard : Claim7 := { stood := { row := topBytesRow, standIns := [], harness := (true, "116a28e0d11c34d9b1e934a2b75e0bb9e6471032597df09f058fdb28052fb607"), looks := true }, kinds := [], alts := [], laidByText := true, laidKinds := [.data, .data, .data, .sentinel, .sentinel], laidTests := true, laidLooks := .later }
def TopBytesCardSaid : Prop := Claim7.holds Tryz.pinned (.plain (OpenSpec.ofChange topBytesSpec)) topBytesCard

/-- THE TIED CARD OF 'bordereautop.TopStable'. -/
def topStableCard : Claim7 := { stood := { row := topStableRow, standIns := [], harness := (true, "116a28e0d11c34d9b1e934a2b75e0bb9e6471032597df09f058fdb28052fb607"), looks := true }, kinds := [], alts := [], laidByText := true, laidKinds := [.data, .data, .data, .sentinel, .sentinel], laidTests := true, laidLooks := .later }
def TopStableCardSaid : Prop := Claim7.holds Tryz.pinned (.plain (OpenSpec.ofChange topStableSpec)) topStableCard

/-- THE TIED CARD OF 'bordereautop.TopCommits'. -/
def topCommitsCard : Claim7 := { stood := { row := topCommitsRow, standIns := [], harness := (true, "116a28e0d11c34d9b1e934a2b75e0bb9e6471032597df09f058fdb28052fb607"), looks := true }, kinds := [], alts := [], laidByText := true, laidKinds := [.data, .data, .data, .sentinel, .sentinel], laidTests := true, laidLooks := .later }
def TopCommitsCardSaid : Prop := Claim7.holds Tryz.pinned (.plain (OpenSpec.ofChange topCommitsSpec)) topCommitsCard

/-- THE TIED CARD OF 'bordereautop.TopMixed'. -/
def topMixedCard : Claim7 := { stood := { row := topMixedRow, standIns := [], harness := (true, "116a28e0d11c34d9b1e934a2b75e0bb9e6471032597df09f058fdb28052fb607"), looks := true }, kinds := [], alts := [], laidByText := true, laidKinds := [.data, .data, .data, .sentinel, .sentinel], laidTests := true, laidLooks := .later }
def TopMixedCardSaid : Prop := Claim7.holds Tryz.pinned (.plain (OpenSpec.ofChange topMixedSpec)) topMixedCard

/-- THE TIED CARD OF 'bordereautop.TopMarkers'. -/
def topMarkersCard : Claim7 := { stood := { row := topMarkersRow, standIns := [], harness := (true, "116a28e0d11c34d9b1e934a2b75e0bb9e6471032597df09f058fdb28052fb607"), looks := true }, kinds := [], alts := [], laidByText := true, laidKinds := [.data, .data, .data, .sentinel, .sentinel], laidTests := true, laidLooks := .later }
def TopMarkersCardSaid : Prop := Claim7.holds Tryz.pinned (.plain (OpenSpec.ofChange topMarkersSpec)) topMarkersCard

/-- THE TIED CARD OF 'bordereautop.TopFolds'. -/
def topFoldsCard : Claim7 := { stood := { row := topFoldsRow, standIns := [], harness := (true, "116a28e0d11c34d9b1e934a2b75e0bb9e6471032597df09f058fdb28052fb607"), looks := true }, kinds := [], alts := [], laidByText := true, laidKinds := [.data, .data, .data, .sentinel, .sentinel], laidTests := true, laidLooks := .later }
def TopFoldsCardSaid : Prop := Claim7.holds Tryz.pinned (.plain (OpenSpec.ofChange topFoldsSpec)) topFoldsCard

/-- THE SECOND FORM's CARD OF 'bordereautop.TopOnce'. -/
def topOnceUptoCard : Claim7 := { stood := { row := topOnceUptoRow, standIns := [], harness := (true, "116a28e0d11c34d9b1e934a2b75e0bb9e6471032597df09f058fdb28052fb607"), looks := true }, kinds := [], alts := [], laidByText := true, laidKinds := [.data, .data, .data, .sentinel, .sentinel], laidTests := true, laidLooks := .later }
def TopOnceUptoCardSaid : Prop := Claim7.holds Tryz.pinned (.plain (OpenSpec.upto topOnceSpec)) topOnceUptoCard

/-- THE SECOND FORM's CARD OF 'bordereautop.TopOrder'. -/
def topOrderUptoCard : Claim7 := { stood := { row := topOrderUptoRow, standIns := [], harness := (true, "116a28e0d11c34d9b1e934a2b75e0bb9e6471032597df09f058fdb28052fb607"), looks := true }, kinds := [], alts := [], laidByText := true, laidKinds := [.data, .data, .data, .sentinel, .sentinel], laidTests := true, laidLooks := .later }
def TopOrderUptoCardSaid : Prop := Claim7.holds Tryz.pinned (.plain (OpenSpec.upto topOrderSpec)) topOrderUptoCard

/-- THE SECOND FORM's CARD OF 'bordereautop.TopFull'. -/
def topFullUptoCard : Claim7 := { stood := { row := topFullUptoRow, standIns := [], harness := (true, "116a28e0d11c34d9b1e934a2b75e0bb9e6471032597df09f058fdb28052fb607"), looks := true }, kinds := [], alts := [], laidByText := true, laidKinds := [.data, .data, .data, .sentinel, .sentinel], laidTests := true, laidLooks := .later }
def TopFullUptoCardSaid : Prop := Claim7.holds Tryz.pinned (.plain (OpenSpec.upto topFullSpec)) topFullUptoCard

/-- THE SECOND FORM's CARD OF 'bordereautop.TopFenced'. -/
def topFencedUptoCard : Claim7 := { stood := { row := topFencedUptoRow, standIns := [], harness := (true, "116a28e0d11c34d9b1e934a2b75e0bb9e6471032597df09f058fdb28052fb607"), looks := true }, kinds := [], alts := [], laidByText := true, laidKinds := [.data, .data, .data, .sentinel, .sentinel], laidTests := true, laidLooks := .later }
def TopFencedUptoCardSaid : Prop := Claim7.holds Tryz.pinned (.plain (OpenSpec.upto topFencedSpec)) topFencedUptoCard

/-- THE SECOND FORM's CARD OF 'bordereautop.TopRaw'. -/
def topRawUptoCard : Claim7 := { stood := { row := topRawUptoRow, standIns := [], harness := (true, "116a28e0d11c34d9b1e934a2b75e0bb9e6471032597df09f058fdb28052fb607"), looks := true }, kinds := [], alts := [], laidByText := true, laidKinds := [.data, .data, .data, .sentinel, .sentinel], laidTests := true, laidLooks := .later }
def TopRawUptoCardSaid : Prop := Claim7.holds Tryz.pinned (.plain (OpenSpec.upto topRawSpec)) topRawUptoCard

/-- THE SECOND FORM's CARD OF 'bordereautop.TopBytes'. -/
def topBytesUptoCard : Claim7 := { stood := { row := topBytesUptoRow, standIns := [], harness := (true, "116a28e0d11c34d9b1e934a2b75e0bb9e6471032597df09f058fdb28052fb607"), looks := true }, kinds := [], alts := [], laidByText := true, laidKinds := [.data, .data, .data, .sentinel, .sentinel], laidTests := true, laidLooks := .later }
def TopBytesUptoCardSaid : Prop := Claim7.holds Tryz.pinned (.plain (OpenSpec.upto topBytesSpec)) topBytesUptoCard

/-- THE SECOND FORM's CARD OF 'bordereautop.TopStable'. -/
def topStableUptoCard : Claim7 := { stood := { row := topStableUptoRow, standIns := [], harness := (true, "116a28e0d11c34d9b1e934a2b75e0bb9e6471032597df09f058fdb28052fb607"), looks := true }, kinds := [], alts := [], laidByText := true, laidKinds := [.data, .data, .data, .sentinel, .sentinel], laidTests := true, laidLooks := .later }
def TopStableUptoCardSaid : Prop := Claim7.holds Tryz.pinned (.plain (OpenSpec.upto topStableSpec)) topStableUptoCard

/-- THE SECOND FORM's CARD OF 'bordereautop.TopCommits'. -/
def topCommitsUptoCard : Claim7 := { stood := { row := topCommitsUptoRow, standIns := [], harness := (true, "116a28e0d11c34d9b1e934a2b75e0bb9e6471032597df09f058fdb28052fb607"), looks := true }, kinds := [], alts := [], laidByText := true, laidKinds := [.data, .data, .data, .sentinel, .sentinel], laidTests := true, laidLooks := .later }
def TopCommitsUptoCardSaid : Prop := Claim7.holds Tryz.pinned (.plain (OpenSpec.upto topCommitsSpec)) topCommitsUptoCard

/-- THE SECOND FORM's CARD OF 'bordereautop.TopMixed'. -/
def topMixedUptoCard : Claim7 := { stood := { row := topMixedUptoRow, standIns := [], harness := (true, "116a28e0d11c34d9b1e934a2b75e0bb9e6471032597df09f058fdb28052fb607"), looks := true }, kinds := [], alts := [], laidByText := true, laidKinds := [.data, .data, .data, .sentinel, .sentinel], laidTests := true, laidLooks := .later }
def TopMixedUptoCardSaid : Prop := Claim7.holds Tryz.pinned (.plain (OpenSpec.upto topMixedSpec)) topMixedUptoCard

/-- THE SECOND FORM's CARD OF 'bordereautop.TopMarkers'. -/
def topMarkersUptoCard : Claim7 := { stood := { row := topMarkersUptoRow, standIns := [], harness := (true, "116a28e0d11c34d9b1e934a2b75e0bb9e6471032597df09f058fdb28052fb607"), looks := true }, kinds := [], alts := [], laidByText := true, laidKinds := [.data, .data, .data, .sentinel, .sentinel], laidTests := true, laidLooks := .later }
def TopMarkersUptoCardSaid : Prop := Claim7.holds Tryz.pinned (.plain (OpenSpec.upto topMarkersSpec)) topMarkersUptoCard

/-- THE SECOND FORM's CARD OF 'bordereautop.TopFolds'. -/
def topFoldsUptoCard : Claim7 := { stood := { row := topFoldsUptoRow, standIns := [], harness := (true, "116a28e0d11c34d9b1e934a2b75e0bb9e6471032597df09f058fdb28052fb607"), looks := true }, kinds := [], alts := [], laidByText := true, laidKinds := [.data, .data, .data, .sentinel, .sentinel], laidTests := true, laidLooks := .later }
def TopFoldsUptoCardSaid : Prop := Claim7.holds Tryz.pinned (.plain (OpenSpec.upto topFoldsSpec)) topFoldsUptoCard
end Rows
end Go.Proofs.YtheaccppdikjgaaGreatDoor
