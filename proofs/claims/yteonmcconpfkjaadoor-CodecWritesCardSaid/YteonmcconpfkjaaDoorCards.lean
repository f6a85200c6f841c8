/-
  DERIVED. GIVEN WITH THE SEED: THE CARDS: each row of YteonmcconpfkjaaDoorRows.lean that lists a variable, with what it lists TIED to the program's text (the seventh form; the later family's looks); each row that meets fmt, with fmt's text TOLD by the authors' own Lean function (tested against real Go, not proved from fmt's source: count such statements apart). THE CARD IS WHAT COUNTS. Prove the row's statement (the work); the ties are given (YteonmcconpfkjaaDoorTie.lean); close each card by the builder's one call (the guide's Derived/Test/ToyasCard.lean, 'card_holds'). Laid BY PROGRAM, IN A SANDBOX (cutbox-door.mjs). By AI agents, Wed Nov 11 2026. No macro, syntax, notation, axiom, sorry.
-/
import Derived.Test.YteonmcconpfkjaaDoorRows
import GoSem.ClaimSeven
namespace Go.Proofs.YteonmcconpfkjaaDoor
namespace Rows

/-- THE TIED CARD OF 'deponentlaw1.ShaJoins'. -/
def shaJoinsCard : Claim7 := { stood := { row := shaJoinsRow, standIns := [], harness := (true, "b89d1cf668716c230e9406a9596f99e7ce6de7fce04d7d02d0bc4ff7da29c154"), looks := true }, kinds := [], alts := [], laidByText := true, laidKinds := [.data, .data], laidTests := true, laidLooks := .later }
def ShaJoinsCardSaid : Prop := Claim7.holds Tryd.pinned (.plain (OpenSpec.ofChange shaJoinsSpec)) shaJoinsCard

/-- THE TIED CARD OF 'deponentlaw11.KeysRing'. -/
def keysRingCard : Claim7 := { stood := { row := keysRingRow, standIns := [], harness := (true, "b89d1cf668716c230e9406a9596f99e7ce6de7fce04d7d02d0bc4ff7da29c154"), looks := true }, kinds := [], alts := [], laidByText := true, laidKinds := [.data, .data], laidTests := true, laidLooks := .later }
def KeysRingCardSaid : Prop := Claim7.holds Tryd.pinned (.plain (OpenSpec.ofChange keysRingSpec)) keysRingCard

/-- THE TIED CARD OF 'deponentlaw8.MerkleKept'. -/
def merkleKeptCard : Claim7 := { stood := { row := merkleKeptRow, standIns := [], harness := (true, "b89d1cf668716c230e9406a9596f99e7ce6de7fce04d7d02d0bc4ff7da29c154"), looks := true }, kinds := [], alts := [], laidByText := true, laidKinds := [.data, .data], laidTests := true, laidLooks := .later }
def MerkleKeptCardSaid : Prop := Claim7.holds Tryd.pinned (.plain (OpenSpec.ofChange merkleKeptSpec)) merkleKeptCard

/-- THE TIED CARD OF 'deponentlaw9.VerifyTurned'. -/
def verifyTurnedCard : Claim7 := { stood := { row := verifyTurnedRow, standIns := [], harness := (true, "b89d1cf668716c230e9406a9596f99e7ce6de7fce04d7d02d0bc4ff7da29c154"), looks := true }, kinds := [], alts := [], laidByText := true, laidKinds := [.data, .data], laidTests := true, laidLooks := .later }
def VerifyTurnedCardSaid : Prop := Claim7.holds Tryd.pinned (.plain (OpenSpec.ofChange verifyTurnedSpec)) verifyTurnedCard

/-- THE TIED CARD OF 'deponentlaw19.StateNumbers'. -/
def stateNumbersCard : Claim7 := { stood := { row := stateNumbersRow, standIns := [], harness := (true, "b89d1cf668716c230e9406a9596f99e7ce6de7fce04d7d02d0bc4ff7da29c154"), looks := true }, kinds := [], alts := [], laidByText := true, laidKinds := [.data, .data], laidTests := true, laidLooks := .later }
def StateNumbersCardSaid : Prop := Claim7.holds Tryd.pinned (.plain (OpenSpec.ofChange stateNumbersSpec)) stateNumbersCard

/-- THE TIED CARD OF 'deponentlaw19.StateNew'. -/
def stateNewCard : Claim7 := { stood := { row := stateNewRow, standIns := [], harness := (true, "b89d1cf668716c230e9406a9596f99e7ce6de7fce04d7d02d0bc4ff7da29c154"), looks := true }, kinds := [], alts := [], laidByText := true, laidKinds := [.data, .data], laidTests := true, laidLooks := .later }
def StateNewCardSaid : Prop := Claim7.holds Tryd.pinned (.plain (OpenSpec.ofChange stateNewSpec)) stateNewCard

/-- THE TIED CARD OF 'deponentlaw2.CodecKept'. -/
def codecKeptCard : Claim7 := { stood := { row := codecKeptRow, standIns := [], harness := (true, "b89d1cf668716c230e9406a9596f99e7ce6de7fce04d7d02d0bc4ff7da29c154"), looks := true }, kinds := [], alts := [], laidByText := true, laidKinds := [.data, .data, .data], laidTests := true, laidLooks := .later }
def CodecKeptCardSaid : Prop := Claim7.holds Tryd.pinned (.plain (OpenSpec.ofChange codecKeptSpec)) codecKeptCard

/-- THE TIED CARD OF 'deponentlaw2.CodecMany'. -/
def codecManyCard : Claim7 := { stood := { row := codecManyRow, standIns := [], harness := (true, "b89d1cf668716c230e9406a9596f99e7ce6de7fce04d7d02d0bc4ff7da29c154"), looks := true }, kinds := [], alts := [], laidByText := true, laidKinds := [.data, .data, .data], laidTests := true, laidLooks := .later }
def CodecManyCardSaid : Prop := Claim7.holds Tryd.pinned (.plain (OpenSpec.ofChange codecManySpec)) codecManyCard

/-- THE TIED CARD OF 'deponentlaw2.CodecNumbers'. -/
def codecNumbersCard : Claim7 := { stood := { row := codecNumbersRow, standIns := [], harness := (true, "b89d1cf668716c230e9406a9596f99e7ce6de7fce04d7d02d0bc4ff7da29c154"), looks := true }, kinds := [], alts := [], laidByText := true, laidKinds := [.data, .data, .data], laidTests := true, laidLooks := .later }
def CodecNumbersCardSaid : Prop := Claim7.holds Tryd.pinned (.plain (OpenSpec.ofChange codecNumbersSpec)) codecNumbersCard

/-- THE TIED CARD OF 'deponentlaw2.CodecWrites'. -/
def codecWritesCard : Claim7 := { stood := { row := codecWritesRow, standIns := [], harness := (true, "b89d1cf668716c230e9406a9596f99e7ce6de7fce04d7d02d0bc4ff7da29c154"), looks := true }, kinds := [], alts := [], laidByText := true, laidKinds := [.data, .data, .data], laidTests := true, laidLooks := .later }
def CodecWritesCardSaid : Prop := Claim7.holds Tryd.pinned (.plain (OpenSpec.ofChange codecWritesSpec)) codecWritesCard

/-- THE TIED CARD OF 'deponentlaw2.CodecReads'. -/
def codecReadsCard : Claim7 := { stood := { row := codecReadsRow, standIns := [], harness := (true, "b89d1cf668716c230e9406a9596f99e7ce6de7fce04d7d02d0bc4ff7da29c154"), looks := true }, kinds := [], alts := [], laidByText := true, laidKinds := [.data, .data, .data], laidTests := true, laidLooks := .later }
def CodecReadsCardSaid : Prop := Claim7.holds Tryd.pinned (.plain (OpenSpec.ofChange codecReadsSpec)) codecReadsCard

/-- THE TIED CARD OF 'deponentlaw2.CodecBack'. -/
def codecBackCard : Claim7 := { stood := { row := codecBackRow, standIns := [], harness := (true, "b89d1cf668716c230e9406a9596f99e7ce6de7fce04d7d02d0bc4ff7da29c154"), looks := true }, kinds := [], alts := [], laidByText := true, laidKinds := [.data, .data, .data], laidTests := true, laidLooks := .later }
def CodecBackCardSaid : Prop := Claim7.holds Tryd.pinned (.plain (OpenSpec.ofChange codecBackSpec)) codecBackCard

/-- THE SECOND FORM's CARD OF 'deponentlaw1.ShaJoins'. -/
def shaJoinsUptoCard : Claim7 := { stood := { row := shaJoinsUptoRow, standIns := [], harness := (true, "b89d1cf668716c230e9406a9596f99e7ce6de7fce04d7d02d0bc4ff7da29c154"), looks := true }, kinds := [], alts := [], laidByText := true, laidKinds := [.data, .data], laidTests := true, laidLooks := .later }
def ShaJoinsUptoCardSaid : Prop := Claim7.holds Tryd.pinned (.plain (OpenSpec.upto shaJoinsSpec)) shaJoinsUptoCard

/-- THE SECOND FORM's CARD OF 'deponentlaw11.KeysRing'. -/
def keysRingUptoCard : Claim7 := { stood := { row := keysRingUptoRow, standIns := [], harness := (true, "b89d1cf668716c230e9406a9596f99e7ce6de7fce04d7d02d0bc4ff7da29c154"), looks := true }, kinds := [], alts := [], laidByText := true, laidKinds := [.data, .data], laidTests := true, laidLooks := .later }
def KeysRingUptoCardSaid : Prop := Claim7.holds Tryd.pinned (.plain (OpenSpec.upto keysRingSpec)) keysRingUptoCard

/-- THE SECOND FORM's CARD OF 'deponentlaw8.MerkleKept'. -/
def merkleKeptUptoCard : Claim7 := { stood := { row := merkleKeptUptoRow, standIns := [], harness := (true, "b89d1cf668716c230e9406a9596f99e7ce6de7fce04d7d02d0bc4ff7da29c154"), looks := true }, kinds := [], alts := [], laidByText := true, laidKinds := [.data, .data], laidTests := true, laidLooks := .later }
def MerkleKeptUptoCardSaid : Prop := Claim7.holds Tryd.pinned (.plain (OpenSpec.upto merkleKeptSpec)) merkleKeptUptoCard

/-- THE SECOND FORM's CARD OF 'deponentlaw9.VerifyTurned'. -/
def verifyTurnedUptoCard : Claim7 := { stood := { row := verifyTurnedUptoRow, standIns := [], harness := (true, "b89d1cf668716c230e9406a9596f99e7ce6de7fce04d7d02d0bc4ff7da29c154"), looks := true }, kinds := [], alts := [], laidByText := true, laidKinds := [.data, .data], laidTests := true, laidLooks := .later }
def VerifyTurnedUptoCardSaid : Prop := Claim7.holds Tryd.pinned (.plain (OpenSpec.upto verifyTurnedSpec)) verifyTurnedUptoCard

/-- THE SECOND FORM's CARD OF 'deponentlaw19.StateNumbers'. -/
def stateNumbersUptoCard : Claim7 := { stood := { row := stateNumbersUptoRow, standIns := [], harness := (true, "b89d1cf668716c230e9406a9596f99e7ce6de7fce04d7d02d0bc4ff7da29c154"), looks := true }, kinds := [], alts := [], laidByText := true, laidKinds := [.data, .data], laidTests := true, laidLooks := .later }
def StateNumbersUptoCardSaid : Prop := Claim7.holds Tryd.pinned (.plain (OpenSpec.upto stateNumbersSpec)) stateNumbersUptoCard

/-- THE SECOND FORM's CARD OF 'deponentlaw19.StateNew'. -/
def stateNewUptoCard : Claim7 := { stood := { row := stateNewUptoRow, standIns := [], harness := (true, "b89d1cf668716c230e9406a9596f99e7ce6de7fce04d7d02d0bc4ff7da29c154"), looks := true }, kinds := [], alts := [], laidByText := true, laidKinds := [.data, .data], laidTests := true, laidLooks := .later }
def StateNewUptoCardSaid : Prop := Claim7.holds Tryd.pinned (.plain (OpenSpec.upto stateNewSpec)) stateNewUptoCard

/-- THE SECOND FORM's CARD OF 'deponentlaw2.CodecKept'. -/
def codecKeptUptoCard : Claim7 := { stood := { row := codecKeptUptoRow, standIns := [], harness := (true, "b89d1cf668716c230e9406a9596f99e7ce6de7fce04d7d02d0bc4ff7da29c154"), looks := true }, kinds := [], alts := [], laidByText := true, laidKinds := [.data, .data, .data], laidTests := true, laidLooks := .later }
def CodecKeptUptoCardSaid : Prop := Claim7.holds Tryd.pinned (.plain (OpenSpec.upto codecKeptSpec)) codecKeptUptoCard

/-- THE SECOND FORM's CARD OF 'deponentlaw2.CodecMany'. -/
def codecManyUptoCard : Claim7 := { stood := { row := codecManyUptoRow, standIns := [], harness := (true, "b89d1cf668716c230e9406a9596f99e7ce6de7fce04d7d02d0bc4ff7da29c154"), looks := true }, kinds := [], alts := [], laidByText := true, laidKinds := [.data, .data, .data], laidTests := true, laidLooks := .later }
def CodecManyUptoCardSaid : Prop := Claim7.holds Tryd.pinned (.plain (OpenSpec.upto codecManySpec)) codecManyUptoCard

/-- THE SECOND FORM's CARD OF 'deponentlaw2.CodecNumbers'. -/
def codecNumbersUptoCard : Claim7 := { stood := { row := codecNumbersUptoRow, standIns := [], harness := (true, "b89d1cf668716c230e9406a9596f99e7ce6de7fce04d7d02d0bc4ff7da29c154"), looks := true }, kinds := [], alts := [], laidByText := true, laidKinds := [.data, .data, .data], laidTests := true, laidLooks := .later }
def CodecNumbersUptoCardSaid : Prop := Claim7.holds Tryd.pinned (.plain (OpenSpec.upto codecNumbersSpec)) codecNumbersUptoCard

/-- THE SECOND FORM's CARD OF 'deponentlaw2.CodecWrites'. -/
def codecWritesUptoCard : Claim7 := { stood := { row := codecWritesUptoRow, standIns := [], harness := (true, "b89d1cf668716c230e9406a9596f99e7ce6de7fce04d7d02d0bc4ff7da29c154"), looks := true }, kinds := [], alts := [], laidByText := true, laidKinds := [.data, .data, .data], laidTests := true, laidLooks := .later }
def CodecWritesUptoCardSaid : Prop := Claim7.holds Tryd.pinned (.plain (OpenSpec.upto codecWritesSpec)) codecWritesUptoCard

/-- THE SECOND FORM's CARD OF 'deponentlaw2.CodecReads'. -/
def codecReadsUptoCard : Claim7 := { stood := { row := codecReadsUptoRow, standIns := [], harness := (true, "b89d1cf668716c230e9406a9596f99e7ce6de7fce04d7d02d0bc4ff7da29c154"), looks := true }, kinds := [], alts := [], laidByText := true, laidKinds := [.data, .data, .data], laidTests := true, laidLooks := .later }
def CodecReadsUptoCardSaid : Prop := Claim7.holds Tryd.pinned (.plain (OpenSpec.upto codecReadsSpec)) codecReadsUptoCard

/-- THE SECOND FORM's CARD OF 'deponentlaw2.CodecBack'. -/
def codecBackUptoCard : Claim7 := { stood := { row := codecBackUptoRow, standIns := [], harness := (true, "b89d1cf668716c230e9406a9596f99e7ce6de7fce04d7d02d0bc4ff7da29c154"), looks := true }, kinds := [], alts := [], laidByText := true, laidKinds := [.data, .data, .data], laidTests := true, laidLooks := .later }
def CodecBackUptoCardSaid : Prop := Claim7.holds Tryd.pinned (.plain (OpenSpec.upto codecBackSpec)) codecBackUptoCard
end Rows
end Go.Proofs.YteonmcconpfkjaaDoor
