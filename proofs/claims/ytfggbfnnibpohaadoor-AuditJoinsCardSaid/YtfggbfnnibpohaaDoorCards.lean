/-
  DERIVED. GIVEN WITH THE SEED: THE CARDS: each row of YtfggbfnnibpohaaDoorRows.lean that lists a variable, with what it lists TIED to the program's text (the seventh form; the later family's looks); each row that meets fmt, with fmt's text TOLD by the authors' own Lean function (tested against real Go, not proved from fmt's source: count such statements apart). THE CARD IS WHAT COUNTS. Prove the row's statement (the work); the ties are given (YtfggbfnnibpohaaDoorTie.lean); close each card by the builder's one call (the guide's Derived/Test/ToyasCard.lean, 'card_holds'). Laid BY PROGRAM, IN A SANDBOX (cutbox-door.mjs). By AI agents, Wed Nov 11 2026. No macro, syntax, notation, axiom, sorry.
-/
import Derived.Test.YtfggbfnnibpohaaDoorRows
import GoSem.ClaimSeven
namespace Go.Proofs.YtfggbfnnibpohaaDoor
namespace Rows

/-- THE TIED CARD OF 'deponentlaw11.KeysRing'. -/
def keysRingCard : Claim7 := { stood := { row := keysRingRow, standIns := [], harness := (true, "5e0ac14a7ee3b0e54520115d98abf8fdf326ed23c87fbdafe586471d8035b18b"), looks := true }, kinds := [], alts := [], laidByText := true, laidKinds := [.data, .data], laidTests := true, laidLooks := .later }
def KeysRingCardSaid : Prop := Claim7.holds Tryd.pinned (.plain (OpenSpec.ofChange keysRingSpec)) keysRingCard

/-- THE TIED CARD OF 'deponentlaw19.StateNumbers'. -/
def stateNumbersCard : Claim7 := { stood := { row := stateNumbersRow, standIns := [], harness := (true, "5e0ac14a7ee3b0e54520115d98abf8fdf326ed23c87fbdafe586471d8035b18b"), looks := true }, kinds := [], alts := [], laidByText := true, laidKinds := [.data, .data], laidTests := true, laidLooks := .later }
def StateNumbersCardSaid : Prop := Claim7.holds Tryd.pinned (.plain (OpenSpec.ofChange stateNumbersSpec)) stateNumbersCard

/-- THE TIED CARD OF 'deponentlaw19.StateNew'. -/
def stateNewCard : Claim7 := { stood := { row := stateNewRow, standIns := [], harness := (true, "5e0ac14a7ee3b0e54520115d98abf8fdf326ed23c87fbdafe586471d8035b18b"), looks := true }, kinds := [], alts := [], laidByText := true, laidKinds := [.data, .data], laidTests := true, laidLooks := .later }
def StateNewCardSaid : Prop := Claim7.holds Tryd.pinned (.plain (OpenSpec.ofChange stateNewSpec)) stateNewCard

/-- THE TIED CARD OF 'deponentlaw13.PolicyNumbers'. -/
def policyNumbersCard : Claim7 := { stood := { row := policyNumbersRow, standIns := [], harness := (true, "5e0ac14a7ee3b0e54520115d98abf8fdf326ed23c87fbdafe586471d8035b18b"), looks := true }, kinds := [], alts := [], laidByText := true, laidKinds := [.data, .data, .data, .handle], laidTests := true, laidLooks := .later }
def PolicyNumbersCardSaid : Prop := Claim7.holds Tryd.pinned (.plain (OpenSpec.ofChange policyNumbersSpec)) policyNumbersCard

/-- THE TIED CARD OF 'deponentlaw13.PolicyKept'. -/
def policyKeptCard : Claim7 := { stood := { row := policyKeptRow, standIns := [], harness := (true, "5e0ac14a7ee3b0e54520115d98abf8fdf326ed23c87fbdafe586471d8035b18b"), looks := true }, kinds := [], alts := [], laidByText := true, laidKinds := [.data, .data, .data, .handle], laidTests := true, laidLooks := .later }
def PolicyKeptCardSaid : Prop := Claim7.holds Tryd.pinned (.plain (OpenSpec.ofChange policyKeptSpec)) policyKeptCard

/-- THE TIED CARD OF 'deponentlaw24.AuditForks'. -/
def auditForksCard : Claim7 := { stood := { row := auditForksRow, standIns := [], harness := (true, "5e0ac14a7ee3b0e54520115d98abf8fdf326ed23c87fbdafe586471d8035b18b"), looks := true }, kinds := [], alts := [], laidByText := true, laidKinds := [.data, .data, .data, .data, .data], laidTests := true, laidLooks := .later }
def AuditForksCardSaid : Prop := Claim7.holds Tryd.pinned (.plain (OpenSpec.ofChange auditForksSpec)) auditForksCard

/-- THE TIED CARD OF 'deponentlaw24.AuditJoins'. -/
def auditJoinsCard : Claim7 := { stood := { row := auditJoinsRow, standIns := [], harness := (true, "5e0ac14a7ee3b0e54520115d98abf8fdf326ed23c87fbdafe586471d8035b18b"), looks := true }, kinds := [], alts := [], laidByText := true, laidKinds := [.data, .data, .data, .data, .data], laidTests := true, laidLooks := .later }
def AuditJoinsCardSaid : Prop := Claim7.holds Tryd.pinned (.plain (OpenSpec.ofChange auditJoinsSpec)) auditJoinsCard

/-- THE SECOND FORM's CARD OF 'deponentlaw11.KeysRing'. -/
def keysRingUptoCard : Claim7 := { stood := { row := keysRingUptoRow, standIns := [], harness := (true, "5e0ac14a7ee3b0e54520115d98abf8fdf326ed23c87fbdafe586471d8035b18b"), looks := true }, kinds := [], alts := [], laidByText := true, laidKinds := [.data, .data], laidTests := true, laidLooks := .later }
def KeysRingUptoCardSaid : Prop := Claim7.holds Tryd.pinned (.plain (OpenSpec.upto keysRingSpec)) keysRingUptoCard

/-- THE SECOND FORM's CARD OF 'deponentlaw19.StateNumbers'. -/
def stateNumbersUptoCard : Claim7 := { stood := { row := stateNumbersUptoRow, standIns := [], harness := (true, "5e0ac14a7ee3b0e54520115d98abf8fdf326ed23c87fbdafe586471d8035b18b"), looks := true }, kinds := [], alts := [], laidByText := true, laidKinds := [.data, .data], laidTests := true, laidLooks := .later }
def StateNumbersUptoCardSaid : Prop := Claim7.holds Tryd.pinned (.plain (OpenSpec.upto stateNumbersSpec)) stateNumbersUptoCard

/-- THE SECOND FORM's CARD OF 'deponentlaw19.StateNew'. -/
def stateNewUptoCard : Claim7 := { stood := { row := stateNewUptoRow, standIns := [], harness := (true, "5e0ac14a7ee3b0e54520115d98abf8fdf326ed23c87fbdafe586471d8035b18b"), looks := true }, kinds := [], alts := [], laidByText := true, laidKinds := [.data, .data], laidTests := true, laidLooks := .later }
def StateNewUptoCardSaid : Prop := Claim7.holds Tryd.pinned (.plain (OpenSpec.upto stateNewSpec)) stateNewUptoCard

/-- THE SECOND FORM's CARD OF 'deponentlaw13.PolicyNumbers'. -/
def policyNumbersUptoCard : Claim7 := { stood := { row := policyNumbersUptoRow, standIns := [], harness := (true, "5e0ac14a7ee3b0e54520115d98abf8fdf326ed23c87fbdafe586471d8035b18b"), looks := true }, kinds := [], alts := [], laidByText := true, laidKinds := [.data, .data, .data, .handle], laidTests := true, laidLooks := .later }
def PolicyNumbersUptoCardSaid : Prop := Claim7.holds Tryd.pinned (.plain (OpenSpec.upto policyNumbersSpec)) policyNumbersUptoCard

/-- THE SECOND FORM's CARD OF 'deponentlaw13.PolicyKept'. -/
def policyKeptUptoCard : Claim7 := { stood := { row := policyKeptUptoRow, standIns := [], harness := (true, "5e0ac14a7ee3b0e54520115d98abf8fdf326ed23c87fbdafe586471d8035b18b"), looks := true }, kinds := [], alts := [], laidByText := true, laidKinds := [.data, .data, .data, .handle], laidTests := true, laidLooks := .later }
def PolicyKeptUptoCardSaid : Prop := Claim7.holds Tryd.pinned (.plain (OpenSpec.upto policyKeptSpec)) policyKeptUptoCard

/-- THE SECOND FORM's CARD OF 'deponentlaw24.AuditForks'. -/
def auditForksUptoCard : Claim7 := { stood := { row := auditForksUptoRow, standIns := [], harness := (true, "5e0ac14a7ee3b0e54520115d98abf8fdf326ed23c87fbdafe586471d8035b18b"), looks := true }, kinds := [], alts := [], laidByText := true, laidKinds := [.data, .data, .data, .data, .data], laidTests := true, laidLooks := .later }
def AuditForksUptoCardSaid : Prop := Claim7.holds Tryd.pinned (.plain (OpenSpec.upto auditForksSpec)) auditForksUptoCard

/-- THE SECOND FORM's CARD OF 'deponentlaw24.AuditJoins'. -/
def auditJoinsUptoCard : Claim7 := { stood := { row := auditJoinsUptoRow, standIns := [], harness := (true, "5e0ac14a7ee3b0e54520115d98abf8fdf326ed23c87fbdafe586471d8035b18b"), looks := true }, kinds := [], alts := [], laidByText := true, laidKinds := [.data, .data, .data, .data, .data], laidTests := true, laidLooks := .later }
def AuditJoinsUptoCardSaid : Prop := Claim7.holds Tryd.pinned (.plain (OpenSpec.upto auditJoinsSpec)) auditJoinsUptoCard
end Rows
end Go.Proofs.YtfggbfnnibpohaaDoor
