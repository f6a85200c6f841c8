/-
  DERIVED. GIVEN WITH THE SEED: THE CARDS: each row of YtcgbokgedfekkaaDoorRows.lean that lists a variable, with what it lists TIED to the program's text (the seventh form; the later family's looks); each row that meets fmt, with fmt's text TOLD by the authors' own Lean function (tested against real Go, not proved from fmt's source: count such statements apart). THE CARD IS WHAT COUNTS. Prove the row's statement (the work); the ties are given (YtcgbokgedfekkaaDoorTie.lean); close each card by the builder's one call (the guide's Derived/Test/ToyasCard.lean, 'card_holds'). Laid BY PROGRAM, IN A SANDBOX (cutbox-door.mjs). By AI agents, Wed Nov 11 2026. No macro, syntax, notation, axiom, sorry.
-/
import Derived.Test.YtcgbokgedfekkaaDoorRows
import GoSem.ClaimSeven
namespace Go.Proofs.YtcgbokgedfekkaaDoor
namespace Rows

/-- THE TIED CARD OF 'deponentlaw8.MerkleKept'. -/
def merkleKeptCard : Claim7 := { stood := { row := merkleKeptRow, standIns := [], harness := (true, "4fcd67a7afa075f023d5d1fb8e9b92f3a714b4716ddc6f58396d1a0a13831bdd"), looks := true }, kinds := [], alts := [], laidByText := true, laidKinds := [.data, .data], laidTests := true, laidLooks := .later }
def MerkleKeptCardSaid : Prop := Claim7.holds Tryd.pinned (.plain (OpenSpec.ofChange merkleKeptSpec)) merkleKeptCard

/-- THE TIED CARD OF 'deponentlaw9.VerifyTurned'. -/
def verifyTurnedCard : Claim7 := { stood := { row := verifyTurnedRow, standIns := [], harness := (true, "4fcd67a7afa075f023d5d1fb8e9b92f3a714b4716ddc6f58396d1a0a13831bdd"), looks := true }, kinds := [], alts := [], laidByText := true, laidKinds := [.data, .data], laidTests := true, laidLooks := .later }
def VerifyTurnedCardSaid : Prop := Claim7.holds Tryd.pinned (.plain (OpenSpec.ofChange verifyTurnedSpec)) verifyTurnedCard

/-- THE TIED CARD OF 'deponentlaw19.StateNumbers'. -/
def stateNumbersCard : Claim7 := { stood := { row := stateNumbersRow, standIns := [], harness := (true, "4fcd67a7afa075f023d5d1fb8e9b92f3a714b4716ddc6f58396d1a0a13831bdd"), looks := true }, kinds := [], alts := [], laidByText := true, laidKinds := [.data, .data], laidTests := true, laidLooks := .later }
def StateNumbersCardSaid : Prop := Claim7.holds Tryd.pinned (.plain (OpenSpec.ofChange stateNumbersSpec)) stateNumbersCard

/-- THE TIED CARD OF 'deponentlaw19.StateNew'. -/
def stateNewCard : Claim7 := { stood := { row := stateNewRow, standIns := [], harness := (true, "4fcd67a7afa075f023d5d1fb8e9b92f3a714b4716ddc6f58396d1a0a13831bdd"), looks := true }, kinds := [], alts := [], laidByText := true, laidKinds := [.data, .data], laidTests := true, laidLooks := .later }
def StateNewCardSaid : Prop := Claim7.holds Tryd.pinned (.plain (OpenSpec.ofChange stateNewSpec)) stateNewCard

/-- THE TIED CARD OF 'deponentlaw24.AuditForks'. -/
def auditForksCard : Claim7 := { stood := { row := auditForksRow, standIns := [], harness := (true, "4fcd67a7afa075f023d5d1fb8e9b92f3a714b4716ddc6f58396d1a0a13831bdd"), looks := true }, kinds := [], alts := [], laidByText := true, laidKinds := [.data, .data, .data, .data, .data], laidTests := true, laidLooks := .later }
def AuditForksCardSaid : Prop := Claim7.holds Tryd.pinned (.plain (OpenSpec.ofChange auditForksSpec)) auditForksCard

/-- THE SECOND FORM's CARD OF 'deponentlaw8.MerkleKept'. -/
def merkleKeptUptoCard : Claim7 := { stood := { row := merkleKeptUptoRow, standIns := [], harness := (true, "4fcd67a7afa075f023d5d1fb8e9b92f3a714b4716ddc6f58396d1a0a13831bdd"), looks := true }, kinds := [], alts := [], laidByText := true, laidKinds := [.data, .data], laidTests := true, laidLooks := .later }
def MerkleKeptUptoCardSaid : Prop := Claim7.holds Tryd.pinned (.plain (OpenSpec.upto merkleKeptSpec)) merkleKeptUptoCard

/-- THE SECOND FORM's CARD OF 'deponentlaw9.VerifyTurned'. -/
def verifyTurnedUptoCard : Claim7 := { stood := { row := verifyTurnedUptoRow, standIns := [], harness := (true, "4fcd67a7afa075f023d5d1fb8e9b92f3a714b4716ddc6f58396d1a0a13831bdd"), looks := true }, kinds := [], alts := [], laidByText := true, laidKinds := [.data, .data], laidTests := true, laidLooks := .later }
def VerifyTurnedUptoCardSaid : Prop := Claim7.holds Tryd.pinned (.plain (OpenSpec.upto verifyTurnedSpec)) verifyTurnedUptoCard

/-- THE SECOND FORM's CARD OF 'deponentlaw19.StateNumbers'. -/
def stateNumbersUptoCard : Claim7 := { stood := { row := stateNumbersUptoRow, standIns := [], harness := (true, "4fcd67a7afa075f023d5d1fb8e9b92f3a714b4716ddc6f58396d1a0a13831bdd"), looks := true }, kinds := [], alts := [], laidByText := true, laidKinds := [.data, .data], laidTests := true, laidLooks := .later }
def StateNumbersUptoCardSaid : Prop := Claim7.holds Tryd.pinned (.plain (OpenSpec.upto stateNumbersSpec)) stateNumbersUptoCard

/-- THE SECOND FORM's CARD OF 'deponentlaw19.StateNew'. -/
def stateNewUptoCard : Claim7 := { stood := { row := stateNewUptoRow, standIns := [], harness := (true, "4fcd67a7afa075f023d5d1fb8e9b92f3a714b4716ddc6f58396d1a0a13831bdd"), looks := true }, kinds := [], alts := [], laidByText := true, laidKinds := [.data, .data], laidTests := true, laidLooks := .later }
def StateNewUptoCardSaid : Prop := Claim7.holds Tryd.pinned (.plain (OpenSpec.upto stateNewSpec)) stateNewUptoCard

/-- THE SECOND FORM's CARD OF 'deponentlaw24.AuditForks'. -/
def auditForksUptoCard : Claim7 := { stood := { row := auditForksUptoRow, standIns := [], harness := (true, "4fcd67a7afa075f023d5d1fb8e9b92f3a714b4716ddc6f58396d1a0a13831bdd"), looks := true }, kinds := [], alts := [], laidByText := true, laidKinds := [.data, .data, .data, .data, .data], laidTests := true, laidLooks := .later }
def AuditForksUptoCardSaid : Prop := Claim7.holds Tryd.pinned (.plain (OpenSpec.upto auditForksSpec)) auditForksUptoCard
end Rows
end Go.Proofs.YtcgbokgedfekkaaDoor
