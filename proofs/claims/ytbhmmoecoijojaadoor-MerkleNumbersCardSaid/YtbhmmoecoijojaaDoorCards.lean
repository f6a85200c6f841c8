/-
  DERIVED. GIVEN WITH THE SEED: THE CARDS: each row of YtbhmmoecoijojaaDoorRows.lean that lists a variable, with what it lists TIED to the program's text (the seventh form; the later family's looks); each row that meets fmt, with fmt's text TOLD by the authors' own Lean function (tested against real Go, not proved from fmt's source: count such statements apart). THE CARD IS WHAT COUNTS. Prove the row's statement (the work); the ties are given (YtbhmmoecoijojaaDoorTie.lean); close each card by the builder's one call (the guide's Derived/Test/ToyasCard.lean, 'card_holds'). Laid BY PROGRAM, IN A SANDBOX (cutbox-door.mjs). By AI agents, Wed Nov 11 2026. No macro, syntax, notation, axiom, sorry.
-/
import Derived.Test.YtbhmmoecoijojaaDoorRows
import GoSem.ClaimSeven
namespace Go.Proofs.YtbhmmoecoijojaaDoor
namespace Rows

/-- THE TIED CARD OF 'deponentlaw8.MerkleSplits'. -/
def merkleSplitsCard : Claim7 := { stood := { row := merkleSplitsRow, standIns := [], harness := (true, "55b0f4945e544339988d88239670c41da96d38c1101dd0e691ddecaf4fe7dd6f"), looks := false }, kinds := [], alts := [], laidByText := true, laidKinds := [.data, .data], laidTests := true, laidLooks := .later }
def MerkleSplitsCardSaid : Prop := Claim7.holds Tryd.pinned (.plain (OpenSpec.ofChange merkleSplitsSpec)) merkleSplitsCard

/-- THE TIED CARD OF 'deponentlaw8.MerkleTurned'. -/
def merkleTurnedCard : Claim7 := { stood := { row := merkleTurnedRow, standIns := [], harness := (true, "55b0f4945e544339988d88239670c41da96d38c1101dd0e691ddecaf4fe7dd6f"), looks := false }, kinds := [], alts := [], laidByText := true, laidKinds := [.data, .data], laidTests := true, laidLooks := .later }
def MerkleTurnedCardSaid : Prop := Claim7.holds Tryd.pinned (.plain (OpenSpec.ofChange merkleTurnedSpec)) merkleTurnedCard

/-- THE TIED CARD OF 'deponentlaw11.KeysNumbers'. -/
def keysNumbersCard : Claim7 := { stood := { row := keysNumbersRow, standIns := [], harness := (true, "55b0f4945e544339988d88239670c41da96d38c1101dd0e691ddecaf4fe7dd6f"), looks := false }, kinds := [], alts := [], laidByText := true, laidKinds := [.data, .data], laidTests := true, laidLooks := .later }
def KeysNumbersCardSaid : Prop := Claim7.holds Tryd.pinned (.plain (OpenSpec.ofChange keysNumbersSpec)) keysNumbersCard

/-- THE TIED CARD OF 'deponentlaw11.KeysSign'. -/
def keysSignCard : Claim7 := { stood := { row := keysSignRow, standIns := [], harness := (true, "55b0f4945e544339988d88239670c41da96d38c1101dd0e691ddecaf4fe7dd6f"), looks := false }, kinds := [], alts := [], laidByText := true, laidKinds := [.data, .data], laidTests := true, laidLooks := .later }
def KeysSignCardSaid : Prop := Claim7.holds Tryd.pinned (.plain (OpenSpec.ofChange keysSignSpec)) keysSignCard

/-- THE TIED CARD OF 'deponentlaw11.KeysRing'. -/
def keysRingCard : Claim7 := { stood := { row := keysRingRow, standIns := [], harness := (true, "55b0f4945e544339988d88239670c41da96d38c1101dd0e691ddecaf4fe7dd6f"), looks := false }, kinds := [], alts := [], laidByText := true, laidKinds := [.data, .data], laidTests := true, laidLooks := .later }
def KeysRingCardSaid : Prop := Claim7.holds Tryd.pinned (.plain (OpenSpec.ofChange keysRingSpec)) keysRingCard

/-- THE TIED CARD OF 'deponentlaw11.KeysApart'. -/
def keysApartCard : Claim7 := { stood := { row := keysApartRow, standIns := [], harness := (true, "55b0f4945e544339988d88239670c41da96d38c1101dd0e691ddecaf4fe7dd6f"), looks := false }, kinds := [], alts := [], laidByText := true, laidKinds := [.data, .data], laidTests := true, laidLooks := .later }
def KeysApartCardSaid : Prop := Claim7.holds Tryd.pinned (.plain (OpenSpec.ofChange keysApartSpec)) keysApartCard

/-- THE TIED CARD OF 'deponentlaw11.KeysAlike'. -/
def keysAlikeCard : Claim7 := { stood := { row := keysAlikeRow, standIns := [], harness := (true, "55b0f4945e544339988d88239670c41da96d38c1101dd0e691ddecaf4fe7dd6f"), looks := false }, kinds := [], alts := [], laidByText := true, laidKinds := [.data, .data], laidTests := true, laidLooks := .later }
def KeysAlikeCardSaid : Prop := Claim7.holds Tryd.pinned (.plain (OpenSpec.ofChange keysAlikeSpec)) keysAlikeCard

/-- THE TIED CARD OF 'deponentlaw8.MerkleNumbers'. -/
def merkleNumbersCard : Claim7 := { stood := { row := merkleNumbersRow, standIns := [], harness := (true, "55b0f4945e544339988d88239670c41da96d38c1101dd0e691ddecaf4fe7dd6f"), looks := false }, kinds := [], alts := [], laidByText := true, laidKinds := [.data, .data], laidTests := true, laidLooks := .later }
def MerkleNumbersCardSaid : Prop := Claim7.holds Tryd.pinned (.plain (OpenSpec.ofChange merkleNumbersSpec)) merkleNumbersCard

/-- THE TIED CARD OF 'deponentlaw8.MerkleRoots'. -/
def merkleRootsCard : Claim7 := { stood := { row := merkleRootsRow, standIns := [], harness := (true, "55b0f4945e544339988d88239670c41da96d38c1101dd0e691ddecaf4fe7dd6f"), looks := false }, kinds := [], alts := [], laidByText := true, laidKinds := [.data, .data], laidTests := true, laidLooks := .later }
def MerkleRootsCardSaid : Prop := Claim7.holds Tryd.pinned (.plain (OpenSpec.ofChange merkleRootsSpec)) merkleRootsCard

/-- THE TIED CARD OF 'deponentlaw8.MerkleMany'. -/
def merkleManyCard : Claim7 := { stood := { row := merkleManyRow, standIns := [], harness := (true, "55b0f4945e544339988d88239670c41da96d38c1101dd0e691ddecaf4fe7dd6f"), looks := false }, kinds := [], alts := [], laidByText := true, laidKinds := [.data, .data], laidTests := true, laidLooks := .later }
def MerkleManyCardSaid : Prop := Claim7.holds Tryd.pinned (.plain (OpenSpec.ofChange merkleManySpec)) merkleManyCard

/-- THE TIED CARD OF 'deponentlaw8.MerkleKept'. -/
def merkleKeptCard : Claim7 := { stood := { row := merkleKeptRow, standIns := [], harness := (true, "55b0f4945e544339988d88239670c41da96d38c1101dd0e691ddecaf4fe7dd6f"), looks := false }, kinds := [], alts := [], laidByText := true, laidKinds := [.data, .data], laidTests := true, laidLooks := .later }
def MerkleKeptCardSaid : Prop := Claim7.holds Tryd.pinned (.plain (OpenSpec.ofChange merkleKeptSpec)) merkleKeptCard

/-- THE SECOND FORM's CARD OF 'deponentlaw8.MerkleSplits'. -/
def merkleSplitsUptoCard : Claim7 := { stood := { row := merkleSplitsUptoRow, standIns := [], harness := (true, "55b0f4945e544339988d88239670c41da96d38c1101dd0e691ddecaf4fe7dd6f"), looks := false }, kinds := [], alts := [], laidByText := true, laidKinds := [.data, .data], laidTests := true, laidLooks := .later }
def MerkleSplitsUptoCardSaid : Prop := Claim7.holds Tryd.pinned (.plain (OpenSpec.upto merkleSplitsSpec)) merkleSplitsUptoCard

/-- THE SECOND FORM's CARD OF 'deponentlaw8.MerkleTurned'. -/
def merkleTurnedUptoCard : Claim7 := { stood := { row := merkleTurnedUptoRow, standIns := [], harness := (true, "55b0f4945e544339988d88239670c41da96d38c1101dd0e691ddecaf4fe7dd6f"), looks := false }, kinds := [], alts := [], laidByText := true, laidKinds := [.data, .data], laidTests := true, laidLooks := .later }
def MerkleTurnedUptoCardSaid : Prop := Claim7.holds Tryd.pinned (.plain (OpenSpec.upto merkleTurnedSpec)) merkleTurnedUptoCard

/-- THE SECOND FORM's CARD OF 'deponentlaw11.KeysNumbers'. -/
def keysNumbersUptoCard : Claim7 := { stood := { row := keysNumbersUptoRow, standIns := [], harness := (true, "55b0f4945e544339988d88239670c41da96d38c1101dd0e691ddecaf4fe7dd6f"), looks := false }, kinds := [], alts := [], laidByText := true, laidKinds := [.data, .data], laidTests := true, laidLooks := .later }
def KeysNumbersUptoCardSaid : Prop := Claim7.holds Tryd.pinned (.plain (OpenSpec.upto keysNumbersSpec)) keysNumbersUptoCard

/-- THE SECOND FORM's CARD OF 'deponentlaw11.KeysSign'. -/
def keysSignUptoCard : Claim7 := { stood := { row := keysSignUptoRow, standIns := [], harness := (true, "55b0f4945e544339988d88239670c41da96d38c1101dd0e691ddecaf4fe7dd6f"), looks := false }, kinds := [], alts := [], laidByText := true, laidKinds := [.data, .data], laidTests := true, laidLooks := .later }
def KeysSignUptoCardSaid : Prop := Claim7.holds Tryd.pinned (.plain (OpenSpec.upto keysSignSpec)) keysSignUptoCard

/-- THE SECOND FORM's CARD OF 'deponentlaw11.KeysRing'. -/
def keysRingUptoCard : Claim7 := { stood := { row := keysRingUptoRow, standIns := [], harness := (true, "55b0f4945e544339988d88239670c41da96d38c1101dd0e691ddecaf4fe7dd6f"), looks := false }, kinds := [], alts := [], laidByText := true, laidKinds := [.data, .data], laidTests := true, laidLooks := .later }
def KeysRingUptoCardSaid : Prop := Claim7.holds Tryd.pinned (.plain (OpenSpec.upto keysRingSpec)) keysRingUptoCard

/-- THE SECOND FORM's CARD OF 'deponentlaw11.KeysApart'. -/
def keysApartUptoCard : Claim7 := { stood := { row := keysApartUptoRow, standIns := [], harness := (true, "55b0f4945e544339988d88239670c41da96d38c1101dd0e691ddecaf4fe7dd6f"), looks := false }, kinds := [], alts := [], laidByText := true, laidKinds := [.data, .data], laidTests := true, laidLooks := .later }
def KeysApartUptoCardSaid : Prop := Claim7.holds Tryd.pinned (.plain (OpenSpec.upto keysApartSpec)) keysApartUptoCard

/-- THE SECOND FORM's CARD OF 'deponentlaw11.KeysAlike'. -/
def keysAlikeUptoCard : Claim7 := { stood := { row := keysAlikeUptoRow, standIns := [], harness := (true, "55b0f4945e544339988d88239670c41da96d38c1101dd0e691ddecaf4fe7dd6f"), looks := false }, kinds := [], alts := [], laidByText := true, laidKinds := [.data, .data], laidTests := true, laidLooks := .later }
def KeysAlikeUptoCardSaid : Prop := Claim7.holds Tryd.pinned (.plain (OpenSpec.upto keysAlikeSpec)) keysAlikeUptoCard

/-- THE SECOND FORM's CARD OF 'deponentlaw8.MerkleNumbers'. -/
def merkleNumbersUptoCard : Claim7 := { stood := { row := merkleNumbersUptoRow, standIns := [], harness := (true, "55b0f4945e544339988d88239670c41da96d38c1101dd0e691ddecaf4fe7dd6f"), looks := false }, kinds := [], alts := [], laidByText := true, laidKinds := [.data, .data], laidTests := true, laidLooks := .later }
def MerkleNumbersUptoCardSaid : Prop := Claim7.holds Tryd.pinned (.plain (OpenSpec.upto merkleNumbersSpec)) merkleNumbersUptoCard

/-- THE SECOND FORM's CARD OF 'deponentlaw8.MerkleRoots'. -/
def merkleRootsUptoCard : Claim7 := { stood := { row := merkleRootsUptoRow, standIns := [], harness := (true, "55b0f4945e544339988d88239670c41da96d38c1101dd0e691ddecaf4fe7dd6f"), looks := false }, kinds := [], alts := [], laidByText := true, laidKinds := [.data, .data], laidTests := true, laidLooks := .later }
def MerkleRootsUptoCardSaid : Prop := Claim7.holds Tryd.pinned (.plain (OpenSpec.upto merkleRootsSpec)) merkleRootsUptoCard

/-- THE SECOND FORM's CARD OF 'deponentlaw8.MerkleMany'. -/
def merkleManyUptoCard : Claim7 := { stood := { row := merkleManyUptoRow, standIns := [], harness := (true, "55b0f4945e544339988d88239670c41da96d38c1101dd0e691ddecaf4fe7dd6f"), looks := false }, kinds := [], alts := [], laidByText := true, laidKinds := [.data, .data], laidTests := true, laidLooks := .later }
def MerkleManyUptoCardSaid : Prop := Claim7.holds Tryd.pinned (.plain (OpenSpec.upto merkleManySpec)) merkleManyUptoCard

/-- THE SECOND FORM's CARD OF 'deponentlaw8.MerkleKept'. -/
def merkleKeptUptoCard : Claim7 := { stood := { row := merkleKeptUptoRow, standIns := [], harness := (true, "55b0f4945e544339988d88239670c41da96d38c1101dd0e691ddecaf4fe7dd6f"), looks := false }, kinds := [], alts := [], laidByText := true, laidKinds := [.data, .data], laidTests := true, laidLooks := .later }
def MerkleKeptUptoCardSaid : Prop := Claim7.holds Tryd.pinned (.plain (OpenSpec.upto merkleKeptSpec)) merkleKeptUptoCard
end Rows
end Go.Proofs.YtbhmmoecoijojaaDoor
