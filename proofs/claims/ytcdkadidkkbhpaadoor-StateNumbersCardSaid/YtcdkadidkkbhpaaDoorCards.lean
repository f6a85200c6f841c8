/-
  DERIVED. GIVEN WITH THE SEED: THE CARDS: each row of YtcdkadidkkbhpaaDoorRows.lean that lists a variable, with what it lists TIED to the program's text (the seventh form; the later family's looks); each row that meets fmt, with fmt's text TOLD by the authors' own Lean function (tested against real Go, not proved from fmt's source: count such statements apart). THE CARD IS WHAT COUNTS. Prove the row's statement (the work); the ties are given (YtcdkadidkkbhpaaDoorTie.lean); close each card by the builder's one call (the guide's Derived/Test/ToyasCard.lean, 'card_holds'). Laid BY PROGRAM, IN A SANDBOX (cutbox-door.mjs). By AI agents, Wed Nov 11 2026. No macro, syntax, notation, axiom, sorry.
-/
import Derived.Test.YtcdkadidkkbhpaaDoorRows
import GoSem.ClaimSeven
namespace Go.Proofs.YtcdkadidkkbhpaaDoor
namespace Rows

/-- THE TIED CARD OF 'deponentlaw19.StateNumbers'. -/
def stateNumbersCard : Claim7 := { stood := { row := stateNumbersRow, standIns := [], harness := (true, "a90466a17aaecfaee0923cd23e319b8f242ab5da288d7449bd2092e967eb71d7"), looks := false }, kinds := [], alts := [], laidByText := true, laidKinds := [.data, .data], laidTests := true, laidLooks := .later }
def StateNumbersCardSaid : Prop := Claim7.holds Tryd.pinned (.plain (OpenSpec.ofChange stateNumbersSpec)) stateNumbersCard

/-- THE TIED CARD OF 'deponentlaw19.StateNew'. -/
def stateNewCard : Claim7 := { stood := { row := stateNewRow, standIns := [], harness := (true, "a90466a17aaecfaee0923cd23e319b8f242ab5da288d7449bd2092e967eb71d7"), looks := false }, kinds := [], alts := [], laidByText := true, laidKinds := [.data, .data], laidTests := true, laidLooks := .later }
def StateNewCardSaid : Prop := Claim7.holds Tryd.pinned (.plain (OpenSpec.ofChange stateNewSpec)) stateNewCard

/-- THE SECOND FORM's CARD OF 'deponentlaw19.StateNumbers'. -/
def stateNumbersUptoCard : Claim7 := { stood := { row := stateNumbersUptoRow, standIns := [], harness := (true, "a90466a17aaecfaee0923cd23e319b8f242ab5da288d7449bd2092e967eb71d7"), looks := false }, kinds := [], alts := [], laidByText := true, laidKinds := [.data, .data], laidTests := true, laidLooks := .later }
def StateNumbersUptoCardSaid : Prop := Claim7.holds Tryd.pinned (.plain (OpenSpec.upto stateNumbersSpec)) stateNumbersUptoCard

/-- THE SECOND FORM's CARD OF 'deponentlaw19.StateNew'. -/
def stateNewUptoCard : Claim7 := { stood := { row := stateNewUptoRow, standIns := [], harness := (true, "a90466a17aaecfaee0923cd23e319b8f242ab5da288d7449bd2092e967eb71d7"), looks := false }, kinds := [], alts := [], laidByText := true, laidKinds := [.data, .data], laidTests := true, laidLooks := .later }
def StateNewUptoCardSaid : Prop := Claim7.holds Tryd.pinned (.plain (OpenSpec.upto stateNewSpec)) stateNewUptoCard
end Rows
end Go.Proofs.YtcdkadidkkbhpaaDoor
