/-
  DERIVED. GIVEN WITH THE SEED: THE CARDS: each row of YtppglfgggfkcmaaDoorRows.lean that lists a variable, with what it lists TIED to the program's text (the seventh form; the later family's looks); each row that meets fmt, with fmt's text TOLD by the authors' own Lean function (tested against real Go, not proved from fmt's source: count such statements apart). THE CARD IS WHAT COUNTS. Prove the row's statement (the work); the ties are given (YtppglfgggfkcmaaDoorTie.lean); close each card by the builder's one call (the guide's Derived/Test/ToyasCard.lean, 'card_holds'). Laid BY PROGRAM, IN A SANDBOX (cutbox-door.mjs). By AI agents, Wed Nov 11 2026. No macro, syntax, notation, axiom, sorry.
-/
import Derived.Test.YtppglfgggfkcmaaDoorRows
import GoSem.ClaimSeven
namespace Go.Proofs.YtppglfgggfkcmaaDoor
namespace Rows

/-- THE TIED CARD OF 'deponentlaw9.VerifyProofs'. -/
def verifyProofsCard : Claim7 := { stood := { row := verifyProofsRow, standIns := [], harness := (true, "3ff39facc391352fc7ae5e34009bf9fe2d7267097e636700b7975073518b2a7d"), looks := false }, kinds := [], alts := [], laidByText := true, laidKinds := [.data, .data], laidTests := true, laidLooks := .later }
def VerifyProofsCardSaid : Prop := Claim7.holds Tryd.pinned (.plain (OpenSpec.ofChange verifyProofsSpec)) verifyProofsCard

/-- THE TIED CARD OF 'deponentlaw9.VerifyTurned'. -/
def verifyTurnedCard : Claim7 := { stood := { row := verifyTurnedRow, standIns := [], harness := (true, "3ff39facc391352fc7ae5e34009bf9fe2d7267097e636700b7975073518b2a7d"), looks := false }, kinds := [], alts := [], laidByText := true, laidKinds := [.data, .data], laidTests := true, laidLooks := .later }
def VerifyTurnedCardSaid : Prop := Claim7.holds Tryd.pinned (.plain (OpenSpec.ofChange verifyTurnedSpec)) verifyTurnedCard

/-- THE TIED CARD OF 'deponentlaw9.VerifyLong'. -/
def verifyLongCard : Claim7 := { stood := { row := verifyLongRow, standIns := [], harness := (true, "3ff39facc391352fc7ae5e34009bf9fe2d7267097e636700b7975073518b2a7d"), looks := false }, kinds := [], alts := [], laidByText := true, laidKinds := [.data, .data], laidTests := true, laidLooks := .later }
def VerifyLongCardSaid : Prop := Claim7.holds Tryd.pinned (.plain (OpenSpec.ofChange verifyLongSpec)) verifyLongCard

/-- THE TIED CARD OF 'deponentlaw9.VerifyNumbers'. -/
def verifyNumbersCard : Claim7 := { stood := { row := verifyNumbersRow, standIns := [], harness := (true, "3ff39facc391352fc7ae5e34009bf9fe2d7267097e636700b7975073518b2a7d"), looks := false }, kinds := [], alts := [], laidByText := true, laidKinds := [.data, .data], laidTests := true, laidLooks := .later }
def VerifyNumbersCardSaid : Prop := Claim7.holds Tryd.pinned (.plain (OpenSpec.ofChange verifyNumbersSpec)) verifyNumbersCard

/-- THE TIED CARD OF 'deponentlaw9.VerifyAny'. -/
def verifyAnyCard : Claim7 := { stood := { row := verifyAnyRow, standIns := [], harness := (true, "3ff39facc391352fc7ae5e34009bf9fe2d7267097e636700b7975073518b2a7d"), looks := false }, kinds := [], alts := [], laidByText := true, laidKinds := [.data, .data], laidTests := true, laidLooks := .later }
def VerifyAnyCardSaid : Prop := Claim7.holds Tryd.pinned (.plain (OpenSpec.ofChange verifyAnySpec)) verifyAnyCard

/-- THE TIED CARD OF 'deponentlaw9.VerifyElse'. -/
def verifyElseCard : Claim7 := { stood := { row := verifyElseRow, standIns := [], harness := (true, "3ff39facc391352fc7ae5e34009bf9fe2d7267097e636700b7975073518b2a7d"), looks := false }, kinds := [], alts := [], laidByText := true, laidKinds := [.data, .data], laidTests := true, laidLooks := .later }
def VerifyElseCardSaid : Prop := Claim7.holds Tryd.pinned (.plain (OpenSpec.ofChange verifyElseSpec)) verifyElseCard

/-- THE TIED CARD OF 'deponentlaw9.VerifyTakes'. -/
def verifyTakesCard : Claim7 := { stood := { row := verifyTakesRow, standIns := [], harness := (true, "3ff39facc391352fc7ae5e34009bf9fe2d7267097e636700b7975073518b2a7d"), looks := false }, kinds := [], alts := [], laidByText := true, laidKinds := [.data, .data], laidTests := true, laidLooks := .later }
def VerifyTakesCardSaid : Prop := Claim7.holds Tryd.pinned (.plain (OpenSpec.ofChange verifyTakesSpec)) verifyTakesCard

/-- THE TIED CARD OF 'deponentlaw9.VerifyEvery'. -/
def verifyEveryCard : Claim7 := { stood := { row := verifyEveryRow, standIns := [], harness := (true, "3ff39facc391352fc7ae5e34009bf9fe2d7267097e636700b7975073518b2a7d"), looks := false }, kinds := [], alts := [], laidByText := true, laidKinds := [.data, .data], laidTests := true, laidLooks := .later }
def VerifyEveryCardSaid : Prop := Claim7.holds Tryd.pinned (.plain (OpenSpec.ofChange verifyEverySpec)) verifyEveryCard

/-- THE TIED CARD OF 'deponentlaw9.VerifyCollides'. -/
def verifyCollidesCard : Claim7 := { stood := { row := verifyCollidesRow, standIns := [], harness := (true, "3ff39facc391352fc7ae5e34009bf9fe2d7267097e636700b7975073518b2a7d"), looks := false }, kinds := [], alts := [], laidByText := true, laidKinds := [.data, .data], laidTests := true, laidLooks := .later }
def VerifyCollidesCardSaid : Prop := Claim7.holds Tryd.pinned (.plain (OpenSpec.ofChange verifyCollidesSpec)) verifyCollidesCard

/-- THE SECOND FORM's CARD OF 'deponentlaw9.VerifyProofs'. -/
def verifyProofsUptoCard : Claim7 := { stood := { row := verifyProofsUptoRow, standIns := [], harness := (true, "3ff39facc391352fc7ae5e34009bf9fe2d7267097e636700b7975073518b2a7d"), looks := false }, kinds := [], alts := [], laidByText := true, laidKinds := [.data, .data], laidTests := true, laidLooks := .later }
def VerifyProofsUptoCardSaid : Prop := Claim7.holds Tryd.pinned (.plain (OpenSpec.upto verifyProofsSpec)) verifyProofsUptoCard

/-- THE SECOND FORM's CARD OF 'deponentlaw9.VerifyTurned'. -/
def verifyTurnedUptoCard : Claim7 := { stood := { row := verifyTurnedUptoRow, standIns := [], harness := (true, "3ff39facc391352fc7ae5e34009bf9fe2d7267097e636700b7975073518b2a7d"), looks := false }, kinds := [], alts := [], laidByText := true, laidKinds := [.data, .data], laidTests := true, laidLooks := .later }
def VerifyTurnedUptoCardSaid : Prop := Claim7.holds Tryd.pinned (.plain (OpenSpec.upto verifyTurnedSpec)) verifyTurnedUptoCard

/-- THE SECOND FORM's CARD OF 'deponentlaw9.VerifyLong'. -/
def verifyLongUptoCard : Claim7 := { stood := { row := verifyLongUptoRow, standIns := [], harness := (true, "3ff39facc391352fc7ae5e34009bf9fe2d7267097e636700b7975073518b2a7d"), looks := false }, kinds := [], alts := [], laidByText := true, laidKinds := [.data, .data], laidTests := true, laidLooks := .later }
def VerifyLongUptoCardSaid : Prop := Claim7.holds Tryd.pinned (.plain (OpenSpec.upto verifyLongSpec)) verifyLongUptoCard

/-- THE SECOND FORM's CARD OF 'deponentlaw9.VerifyNumbers'. -/
def verifyNumbersUptoCard : Claim7 := { stood := { row := verifyNumbersUptoRow, standIns := [], harness := (true, "3ff39facc391352fc7ae5e34009bf9fe2d7267097e636700b7975073518b2a7d"), looks := false }, kinds := [], alts := [], laidByText := true, laidKinds := [.data, .data], laidTests := true, laidLooks := .later }
def VerifyNumbersUptoCardSaid : Prop := Claim7.holds Tryd.pinned (.plain (OpenSpec.upto verifyNumbersSpec)) verifyNumbersUptoCard

/-- THE SECOND FORM's CARD OF 'deponentlaw9.VerifyAny'. -/
def verifyAnyUptoCard : Claim7 := { stood := { row := verifyAnyUptoRow, standIns := [], harness := (true, "3ff39facc391352fc7ae5e34009bf9fe2d7267097e636700b7975073518b2a7d"), looks := false }, kinds := [], alts := [], laidByText := true, laidKinds := [.data, .data], laidTests := true, laidLooks := .later }
def VerifyAnyUptoCardSaid : Prop := Claim7.holds Tryd.pinned (.plain (OpenSpec.upto verifyAnySpec)) verifyAnyUptoCard

/-- THE SECOND FORM's CARD OF 'deponentlaw9.VerifyElse'. -/
def verifyElseUptoCard : Claim7 := { stood := { row := verifyElseUptoRow, standIns := [], harness := (true, "3ff39facc391352fc7ae5e34009bf9fe2d7267097e636700b7975073518b2a7d"), looks := false }, kinds := [], alts := [], laidByText := true, laidKinds := [.data, .data], laidTests := true, laidLooks := .later }
def VerifyElseUptoCardSaid : Prop := Claim7.holds Tryd.pinned (.plain (OpenSpec.upto verifyElseSpec)) verifyElseUptoCard

/-- THE SECOND FORM's CARD OF 'deponentlaw9.VerifyTakes'. -/
def verifyTakesUptoCard : Claim7 := { stood := { row := verifyTakesUptoRow, standIns := [], harness := (true, "3ff39facc391352fc7ae5e34009bf9fe2d7267097e636700b7975073518b2a7d"), looks := false }, kinds := [], alts := [], laidByText := true, laidKinds := [.data, .data], laidTests := true, laidLooks := .later }
def VerifyTakesUptoCardSaid : Prop := Claim7.holds Tryd.pinned (.plain (OpenSpec.upto verifyTakesSpec)) verifyTakesUptoCard

/-- THE SECOND FORM's CARD OF 'deponentlaw9.VerifyEvery'. -/
def verifyEveryUptoCard : Claim7 := { stood := { row := verifyEveryUptoRow, standIns := [], harness := (true, "3ff39facc391352fc7ae5e34009bf9fe2d7267097e636700b7975073518b2a7d"), looks := false }, kinds := [], alts := [], laidByText := true, laidKinds := [.data, .data], laidTests := true, laidLooks := .later }
def VerifyEveryUptoCardSaid : Prop := Claim7.holds Tryd.pinned (.plain (OpenSpec.upto verifyEverySpec)) verifyEveryUptoCard

/-- THE SECOND FORM's CARD OF 'deponentlaw9.VerifyCollides'. -/
def verifyCollidesUptoCard : Claim7 := { stood := { row := verifyCollidesUptoRow, standIns := [], harness := (true, "3ff39facc391352fc7ae5e34009bf9fe2d7267097e636700b7975073518b2a7d"), looks := false }, kinds := [], alts := [], laidByText := true, laidKinds := [.data, .data], laidTests := true, laidLooks := .later }
def VerifyCollidesUptoCardSaid : Prop := Claim7.holds Tryd.pinned (.plain (OpenSpec.upto verifyCollidesSpec)) verifyCollidesUptoCard
end Rows
end Go.Proofs.YtppglfgggfkcmaaDoor
