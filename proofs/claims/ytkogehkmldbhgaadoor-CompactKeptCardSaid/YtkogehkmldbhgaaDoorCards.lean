/-
  DERIVED. GIVEN WITH THE SEED: THE CARDS: each row of YtkogehkmldbhgaaDoorRows.lean that lists a variable, with what it lists TIED to the program's text (the seventh form; the later family's looks); each row that meets fmt, with fmt's text TOLD by the authors' own Lean function (tested against real Go, not proved from fmt's source: count such statements apart). THE CARD IS WHAT COUNTS. Prove the row's statement (the work); the ties are given (YtkogehkmldbhgaaDoorTie.lean); close each card by the builder's one call (the guide's Derived/Test/ToyasCard.lean, 'card_holds'). Laid BY PROGRAM, IN A SANDBOX (cutbox-door.mjs). By AI agents, Wed Nov 11 2026. No macro, syntax, notation, axiom, sorry.
-/
import Derived.Test.YtkogehkmldbhgaaDoorRows
import GoSem.ClaimSeven
namespace Go.Proofs.YtkogehkmldbhgaaDoor
namespace Rows

/-- THE TIED CARD OF 'deponentlaw10.CompactBlocks'. -/
def compactBlocksCard : Claim7 := { stood := { row := compactBlocksRow, standIns := [], harness := (true, "2b4c8ad521529255e40a436f33d5d0883c04d8ce5285e9d70970ee12587f554b"), looks := false }, kinds := [], alts := [], laidByText := true, laidKinds := [.data, .data, .data], laidTests := true, laidLooks := .later }
def CompactBlocksCardSaid : Prop := Claim7.holds Tryd.pinned (.plain (OpenSpec.ofChange compactBlocksSpec)) compactBlocksCard

/-- THE TIED CARD OF 'deponentlaw10.CompactOf'. -/
def compactOfCard : Claim7 := { stood := { row := compactOfRow, standIns := [], harness := (true, "2b4c8ad521529255e40a436f33d5d0883c04d8ce5285e9d70970ee12587f554b"), looks := false }, kinds := [], alts := [], laidByText := true, laidKinds := [.data, .data, .data], laidTests := true, laidLooks := .later }
def CompactOfCardSaid : Prop := Claim7.holds Tryd.pinned (.plain (OpenSpec.ofChange compactOfSpec)) compactOfCard

/-- THE TIED CARD OF 'deponentlaw10.CompactReckons'. -/
def compactReckonsCard : Claim7 := { stood := { row := compactReckonsRow, standIns := [], harness := (true, "2b4c8ad521529255e40a436f33d5d0883c04d8ce5285e9d70970ee12587f554b"), looks := false }, kinds := [], alts := [], laidByText := true, laidKinds := [.data, .data, .data], laidTests := true, laidLooks := .later }
def CompactReckonsCardSaid : Prop := Claim7.holds Tryd.pinned (.plain (OpenSpec.ofChange compactReckonsSpec)) compactReckonsCard

/-- THE TIED CARD OF 'deponentlaw10.CompactThree'. -/
def compactThreeCard : Claim7 := { stood := { row := compactThreeRow, standIns := [], harness := (true, "2b4c8ad521529255e40a436f33d5d0883c04d8ce5285e9d70970ee12587f554b"), looks := false }, kinds := [], alts := [], laidByText := true, laidKinds := [.data, .data, .data], laidTests := true, laidLooks := .later }
def CompactThreeCardSaid : Prop := Claim7.holds Tryd.pinned (.plain (OpenSpec.ofChange compactThreeSpec)) compactThreeCard

/-- THE TIED CARD OF 'deponentlaw10.CompactNumbers'. -/
def compactNumbersCard : Claim7 := { stood := { row := compactNumbersRow, standIns := [], harness := (true, "2b4c8ad521529255e40a436f33d5d0883c04d8ce5285e9d70970ee12587f554b"), looks := false }, kinds := [], alts := [], laidByText := true, laidKinds := [.data, .data, .data], laidTests := true, laidLooks := .later }
def CompactNumbersCardSaid : Prop := Claim7.holds Tryd.pinned (.plain (OpenSpec.ofChange compactNumbersSpec)) compactNumbersCard

/-- THE TIED CARD OF 'deponentlaw10.CompactAdds'. -/
def compactAddsCard : Claim7 := { stood := { row := compactAddsRow, standIns := [], harness := (true, "2b4c8ad521529255e40a436f33d5d0883c04d8ce5285e9d70970ee12587f554b"), looks := false }, kinds := [], alts := [], laidByText := true, laidKinds := [.data, .data, .data], laidTests := true, laidLooks := .later }
def CompactAddsCardSaid : Prop := Claim7.holds Tryd.pinned (.plain (OpenSpec.ofChange compactAddsSpec)) compactAddsCard

/-- THE TIED CARD OF 'deponentlaw10.CompactKept'. -/
def compactKeptCard : Claim7 := { stood := { row := compactKeptRow, standIns := [], harness := (true, "2b4c8ad521529255e40a436f33d5d0883c04d8ce5285e9d70970ee12587f554b"), looks := false }, kinds := [], alts := [], laidByText := true, laidKinds := [.data, .data, .data], laidTests := true, laidLooks := .later }
def CompactKeptCardSaid : Prop := Claim7.holds Tryd.pinned (.plain (OpenSpec.ofChange compactKeptSpec)) compactKeptCard

/-- THE SECOND FORM's CARD OF 'deponentlaw10.CompactBlocks'. -/
def compactBlocksUptoCard : Claim7 := { stood := { row := compactBlocksUptoRow, standIns := [], harness := (true, "2b4c8ad521529255e40a436f33d5d0883c04d8ce5285e9d70970ee12587f554b"), looks := false }, kinds := [], alts := [], laidByText := true, laidKinds := [.data, .data, .data], laidTests := true, laidLooks := .later }
def CompactBlocksUptoCardSaid : Prop := Claim7.holds Tryd.pinned (.plain (OpenSpec.upto compactBlocksSpec)) compactBlocksUptoCard

/-- THE SECOND FORM's CARD OF 'deponentlaw10.CompactOf'. -/
def compactOfUptoCard : Claim7 := { stood := { row := compactOfUptoRow, standIns := [], harness := (true, "2b4c8ad521529255e40a436f33d5d0883c04d8ce5285e9d70970ee12587f554b"), looks := false }, kinds := [], alts := [], laidByText := true, laidKinds := [.data, .data, .data], laidTests := true, laidLooks := .later }
def CompactOfUptoCardSaid : Prop := Claim7.holds Tryd.pinned (.plain (OpenSpec.upto compactOfSpec)) compactOfUptoCard

/-- THE SECOND FORM's CARD OF 'deponentlaw10.CompactReckons'. -/
def compactReckonsUptoCard : Claim7 := { stood := { row := compactReckonsUptoRow, standIns := [], harness := (true, "2b4c8ad521529255e40a436f33d5d0883c04d8ce5285e9d70970ee12587f554b"), looks := false }, kinds := [], alts := [], laidByText := true, laidKinds := [.data, .data, .data], laidTests := true, laidLooks := .later }
def CompactReckonsUptoCardSaid : Prop := Claim7.holds Tryd.pinned (.plain (OpenSpec.upto compactReckonsSpec)) compactReckonsUptoCard

/-- THE SECOND FORM's CARD OF 'deponentlaw10.CompactThree'. -/
def compactThreeUptoCard : Claim7 := { stood := { row := compactThreeUptoRow, standIns := [], harness := (true, "2b4c8ad521529255e40a436f33d5d0883c04d8ce5285e9d70970ee12587f554b"), looks := false }, kinds := [], alts := [], laidByText := true, laidKinds := [.data, .data, .data], laidTests := true, laidLooks := .later }
def CompactThreeUptoCardSaid : Prop := Claim7.holds Tryd.pinned (.plain (OpenSpec.upto compactThreeSpec)) compactThreeUptoCard

/-- THE SECOND FORM's CARD OF 'deponentlaw10.CompactNumbers'. -/
def compactNumbersUptoCard : Claim7 := { stood := { row := compactNumbersUptoRow, standIns := [], harness := (true, "2b4c8ad521529255e40a436f33d5d0883c04d8ce5285e9d70970ee12587f554b"), looks := false }, kinds := [], alts := [], laidByText := true, laidKinds := [.data, .data, .data], laidTests := true, laidLooks := .later }
def CompactNumbersUptoCardSaid : Prop := Claim7.holds Tryd.pinned (.plain (OpenSpec.upto compactNumbersSpec)) compactNumbersUptoCard

/-- THE SECOND FORM's CARD OF 'deponentlaw10.CompactAdds'. -/
def compactAddsUptoCard : Claim7 := { stood := { row := compactAddsUptoRow, standIns := [], harness := (true, "2b4c8ad521529255e40a436f33d5d0883c04d8ce5285e9d70970ee12587f554b"), looks := false }, kinds := [], alts := [], laidByText := true, laidKinds := [.data, .data, .data], laidTests := true, laidLooks := .later }
def CompactAddsUptoCardSaid : Prop := Claim7.holds Tryd.pinned (.plain (OpenSpec.upto compactAddsSpec)) compactAddsUptoCard

/-- THE SECOND FORM's CARD OF 'deponentlaw10.CompactKept'. -/
def compactKeptUptoCard : Claim7 := { stood := { row := compactKeptUptoRow, standIns := [], harness := (true, "2b4c8ad521529255e40a436f33d5d0883c04d8ce5285e9d70970ee12587f554b"), looks := false }, kinds := [], alts := [], laidByText := true, laidKinds := [.data, .data, .data], laidTests := true, laidLooks := .later }
def CompactKeptUptoCardSaid : Prop := Claim7.holds Tryd.pinned (.plain (OpenSpec.upto compactKeptSpec)) compactKeptUptoCard
end Rows
end Go.Proofs.YtkogehkmldbhgaaDoor
