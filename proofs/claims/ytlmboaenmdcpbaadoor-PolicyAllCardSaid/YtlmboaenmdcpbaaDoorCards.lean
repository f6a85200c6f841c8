/-
  DERIVED. GIVEN WITH THE SEED: THE CARDS: each row of YtlmboaenmdcpbaaDoorRows.lean that lists a variable, with what it lists TIED to the program's text (the seventh form; the later family's looks); each row that meets fmt, with fmt's text TOLD by the authors' own Lean function (tested against real Go, not proved from fmt's source: count such statements apart). THE CARD IS WHAT COUNTS. Prove the row's statement (the work); the ties are given (YtlmboaenmdcpbaaDoorTie.lean); close each card by the builder's one call (the guide's Derived/Test/ToyasCard.lean, 'card_holds'). Laid BY PROGRAM, IN A SANDBOX (cutbox-door.mjs). By AI agents, Wed Nov 11 2026. No macro, syntax, notation, axiom, sorry.
-/
import Derived.Test.YtlmboaenmdcpbaaDoorRows
import GoSem.ClaimSeven
namespace Go.Proofs.YtlmboaenmdcpbaaDoor
namespace Rows

/-- THE TIED CARD OF 'deponentlaw13.PolicyDecides'. -/
def policyDecidesCard : Claim7 := { stood := { row := policyDecidesRow, standIns := [], harness := (true, "02a125bc2b6954edd33f1837a223bfe64f113b5af5f4c0279c94c56a25dfdb35"), looks := true }, kinds := [], alts := [], laidByText := true, laidKinds := [.data, .data, .data, .handle], laidTests := true, laidLooks := .later }
def PolicyDecidesCardSaid : Prop := Claim7.holds Tryd.pinned (.plain (OpenSpec.ofChange policyDecidesSpec)) policyDecidesCard

/-- THE TIED CARD OF 'deponentlaw13.PolicyGrows'. -/
def policyGrowsCard : Claim7 := { stood := { row := policyGrowsRow, standIns := [], harness := (true, "02a125bc2b6954edd33f1837a223bfe64f113b5af5f4c0279c94c56a25dfdb35"), looks := true }, kinds := [], alts := [], laidByText := true, laidKinds := [.data, .data, .data, .handle], laidTests := true, laidLooks := .later }
def PolicyGrowsCardSaid : Prop := Claim7.holds Tryd.pinned (.plain (OpenSpec.ofChange policyGrowsSpec)) policyGrowsCard

/-- THE TIED CARD OF 'deponentlaw13.PolicyNumbers'. -/
def policyNumbersCard : Claim7 := { stood := { row := policyNumbersRow, standIns := [], harness := (true, "02a125bc2b6954edd33f1837a223bfe64f113b5af5f4c0279c94c56a25dfdb35"), looks := true }, kinds := [], alts := [], laidByText := true, laidKinds := [.data, .data, .data, .handle], laidTests := true, laidLooks := .later }
def PolicyNumbersCardSaid : Prop := Claim7.holds Tryd.pinned (.plain (OpenSpec.ofChange policyNumbersSpec)) policyNumbersCard

/-- THE TIED CARD OF 'deponentlaw13.PolicyKept'. -/
def policyKeptCard : Claim7 := { stood := { row := policyKeptRow, standIns := [], harness := (true, "02a125bc2b6954edd33f1837a223bfe64f113b5af5f4c0279c94c56a25dfdb35"), looks := true }, kinds := [], alts := [], laidByText := true, laidKinds := [.data, .data, .data, .handle], laidTests := true, laidLooks := .later }
def PolicyKeptCardSaid : Prop := Claim7.holds Tryd.pinned (.plain (OpenSpec.ofChange policyKeptSpec)) policyKeptCard

/-- THE TIED CARD OF 'deponentlaw13.PolicyAll'. -/
def policyAllCard : Claim7 := { stood := { row := policyAllRow, standIns := [], harness := (true, "02a125bc2b6954edd33f1837a223bfe64f113b5af5f4c0279c94c56a25dfdb35"), looks := true }, kinds := [], alts := [], laidByText := true, laidKinds := [.data, .data, .data, .handle], laidTests := true, laidLooks := .later }
def PolicyAllCardSaid : Prop := Claim7.holds Tryd.pinned (.plain (OpenSpec.ofChange policyAllSpec)) policyAllCard

/-- THE TIED CARD OF 'deponentlaw24.AuditForks'. -/
def auditForksCard : Claim7 := { stood := { row := auditForksRow, standIns := [], harness := (true, "02a125bc2b6954edd33f1837a223bfe64f113b5af5f4c0279c94c56a25dfdb35"), looks := true }, kinds := [], alts := [], laidByText := true, laidKinds := [.data, .data, .data, .data, .data], laidTests := true, laidLooks := .later }
def AuditForksCardSaid : Prop := Claim7.holds Tryd.pinned (.plain (OpenSpec.ofChange auditForksSpec)) auditForksCard

/-- THE TIED CARD OF 'deponentlaw24.AuditJoins'. -/
def auditJoinsCard : Claim7 := { stood := { row := auditJoinsRow, standIns := [], harness := (true, "02a125bc2b6954edd33f1837a223bfe64f113b5af5f4c0279c94c56a25dfdb35"), looks := true }, kinds := [], alts := [], laidByText := true, laidKinds := [.data, .data, .data, .data, .data], laidTests := true, laidLooks := .later }
def AuditJoinsCardSaid : Prop := Claim7.holds Tryd.pinned (.plain (OpenSpec.ofChange auditJoinsSpec)) auditJoinsCard

/-- THE SECOND FORM's CARD OF 'deponentlaw13.PolicyDecides'. -/
def policyDecidesUptoCard : Claim7 := { stood := { row := policyDecidesUptoRow, standIns := [], harness := (true, "02a125bc2b6954edd33f1837a223bfe64f113b5af5f4c0279c94c56a25dfdb35"), looks := true }, kinds := [], alts := [], laidByText := true, laidKinds := [.data, .data, .data, .handle], laidTests := true, laidLooks := .later }
def PolicyDecidesUptoCardSaid : Prop := Claim7.holds Tryd.pinned (.plain (OpenSpec.upto policyDecidesSpec)) policyDecidesUptoCard

/-- THE SECOND FORM's CARD OF 'deponentlaw13.PolicyGrows'. -/
def policyGrowsUptoCard : Claim7 := { stood := { row := policyGrowsUptoRow, standIns := [], harness := (true, "02a125bc2b6954edd33f1837a223bfe64f113b5af5f4c0279c94c56a25dfdb35"), looks := true }, kinds := [], alts := [], laidByText := true, laidKinds := [.data, .data, .data, .handle], laidTests := true, laidLooks := .later }
def PolicyGrowsUptoCardSaid : Prop := Claim7.holds Tryd.pinned (.plain (OpenSpec.upto policyGrowsSpec)) policyGrowsUptoCard

/-- THE SECOND FORM's CARD OF 'deponentlaw13.PolicyNumbers'. -/
def policyNumbersUptoCard : Claim7 := { stood := { row := policyNumbersUptoRow, standIns := [], harness := (true, "02a125bc2b6954edd33f1837a223bfe64f113b5af5f4c0279c94c56a25dfdb35"), looks := true }, kinds := [], alts := [], laidByText := true, laidKinds := [.data, .data, .data, .handle], laidTests := true, laidLooks := .later }
def PolicyNumbersUptoCardSaid : Prop := Claim7.holds Tryd.pinned (.plain (OpenSpec.upto policyNumbersSpec)) policyNumbersUptoCard

/-- THE SECOND FORM's CARD OF 'deponentlaw13.PolicyKept'. -/
def policyKeptUptoCard : Claim7 := { stood := { row := policyKeptUptoRow, standIns := [], harness := (true, "02a125bc2b6954edd33f1837a223bfe64f113b5af5f4c0279c94c56a25dfdb35"), looks := true }, kinds := [], alts := [], laidByText := true, laidKinds := [.data, .data, .data, .handle], laidTests := true, laidLooks := .later }
def PolicyKeptUptoCardSaid : Prop := Claim7.holds Tryd.pinned (.plain (OpenSpec.upto policyKeptSpec)) policyKeptUptoCard

/-- THE SECOND FORM's CARD OF 'deponentlaw13.PolicyAll'. -/
def policyAllUptoCard : Claim7 := { stood := { row := policyAllUptoRow, standIns := [], harness := (true, "02a125bc2b6954edd33f1837a223bfe64f113b5af5f4c0279c94c56a25dfdb35"), looks := true }, kinds := [], alts := [], laidByText := true, laidKinds := [.data, .data, .data, .handle], laidTests := true, laidLooks := .later }
def PolicyAllUptoCardSaid : Prop := Claim7.holds Tryd.pinned (.plain (OpenSpec.upto policyAllSpec)) policyAllUptoCard

/-- THE SECOND FORM's CARD OF 'deponentlaw24.AuditForks'. -/
def auditForksUptoCard : Claim7 := { stood := { row := auditForksUptoRow, standIns := [], harness := (true, "02a125bc2b6954edd33f1837a223bfe64f113b5af5f4c0279c94c56a25dfdb35"), looks := true }, kinds := [], alts := [], laidByText := true, laidKinds := [.data, .data, .data, .data, .data], laidTests := true, laidLooks := .later }
def AuditForksUptoCardSaid : Prop := Claim7.holds Tryd.pinned (.plain (OpenSpec.upto auditForksSpec)) auditForksUptoCard

/-- THE SECOND FORM's CARD OF 'deponentlaw24.AuditJoins'. -/
def auditJoinsUptoCard : Claim7 := { stood := { row := auditJoinsUptoRow, standIns := [], harness := (true, "02a125bc2b6954edd33f1837a223bfe64f113b5af5f4c0279c94c56a25dfdb35"), looks := true }, kinds := [], alts := [], laidByText := true, laidKinds := [.data, .data, .data, .data, .data], laidTests := true, laidLooks := .later }
def AuditJoinsUptoCardSaid : Prop := Claim7.holds Tryd.pinned (.plain (OpenSpec.upto auditJoinsSpec)) auditJoinsUptoCard
end Rows
end Go.Proofs.YtlmboaenmdcpbaaDoor
