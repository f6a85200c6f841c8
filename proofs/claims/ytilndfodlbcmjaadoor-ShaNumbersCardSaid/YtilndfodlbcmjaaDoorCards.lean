/-
  DERIVED. GIVEN WITH THE SEED: THE CARDS: each row of YtilndfodlbcmjaaDoorRows.lean that lists a variable, with what it lists TIED to the program's text (the seventh form; the later family's looks); each row that meets fmt, with fmt's text TOLD by the authors' own Lean function (tested against real Go, not proved from fmt's source: count such statements apart). THE CARD IS WHAT COUNTS. Prove the row's statement (the work); the ties are given (YtilndfodlbcmjaaDoorTie.lean); close each card by the builder's one call (the guide's Derived/Test/ToyasCard.lean, 'card_holds'). Laid BY PROGRAM, IN A SANDBOX (cutbox-door.mjs). By AI agents, Wed Nov 11 2026. No macro, syntax, notation, axiom, sorry.
-/
import Derived.Test.YtilndfodlbcmjaaDoorRows
import GoSem.ClaimSeven
namespace Go.Proofs.YtilndfodlbcmjaaDoor
namespace Rows

/-- THE TIED CARD OF 'deponentlaw1.ShaCuts'. -/
def shaCutsCard : Claim7 := { stood := { row := shaCutsRow, standIns := [], harness := (true, "99e7ca3ab49e7d30b94f876f6ce8254e2091c245d54727a6d8f05d1962cc4407"), looks := false }, kinds := [], alts := [], laidByText := true, laidKinds := [.data, .data], laidTests := true, laidLooks := .later }
def ShaCutsCardSaid : Prop := Claim7.holds Tryd.pinned (.plain (OpenSpec.ofChange shaCutsSpec)) shaCutsCard

/-- THE TIED CARD OF 'deponentlaw1.ShaJoins'. -/
def shaJoinsCard : Claim7 := { stood := { row := shaJoinsRow, standIns := [], harness := (true, "99e7ca3ab49e7d30b94f876f6ce8254e2091c245d54727a6d8f05d1962cc4407"), looks := false }, kinds := [], alts := [], laidByText := true, laidKinds := [.data, .data], laidTests := true, laidLooks := .later }
def ShaJoinsCardSaid : Prop := Claim7.holds Tryd.pinned (.plain (OpenSpec.ofChange shaJoinsSpec)) shaJoinsCard

/-- THE TIED CARD OF 'deponentlaw1.ShaParts'. -/
def shaPartsCard : Claim7 := { stood := { row := shaPartsRow, standIns := [], harness := (true, "99e7ca3ab49e7d30b94f876f6ce8254e2091c245d54727a6d8f05d1962cc4407"), looks := false }, kinds := [], alts := [], laidByText := true, laidKinds := [.data, .data], laidTests := true, laidLooks := .later }
def ShaPartsCardSaid : Prop := Claim7.holds Tryd.pinned (.plain (OpenSpec.ofChange shaPartsSpec)) shaPartsCard

/-- THE TIED CARD OF 'deponentlaw1.ShaEdges'. -/
def shaEdgesCard : Claim7 := { stood := { row := shaEdgesRow, standIns := [], harness := (true, "99e7ca3ab49e7d30b94f876f6ce8254e2091c245d54727a6d8f05d1962cc4407"), looks := false }, kinds := [], alts := [], laidByText := true, laidKinds := [.data, .data], laidTests := true, laidLooks := .later }
def ShaEdgesCardSaid : Prop := Claim7.holds Tryd.pinned (.plain (OpenSpec.ofChange shaEdgesSpec)) shaEdgesCard

/-- THE TIED CARD OF 'deponentlaw1.ShaLong'. -/
def shaLongCard : Claim7 := { stood := { row := shaLongRow, standIns := [], harness := (true, "99e7ca3ab49e7d30b94f876f6ce8254e2091c245d54727a6d8f05d1962cc4407"), looks := false }, kinds := [], alts := [], laidByText := true, laidKinds := [.data, .data], laidTests := true, laidLooks := .later }
def ShaLongCardSaid : Prop := Claim7.holds Tryd.pinned (.plain (OpenSpec.ofChange shaLongSpec)) shaLongCard

/-- THE TIED CARD OF 'deponentlaw1.ShaNumbers'. -/
def shaNumbersCard : Claim7 := { stood := { row := shaNumbersRow, standIns := [], harness := (true, "99e7ca3ab49e7d30b94f876f6ce8254e2091c245d54727a6d8f05d1962cc4407"), looks := false }, kinds := [], alts := [], laidByText := true, laidKinds := [.data, .data], laidTests := true, laidLooks := .later }
def ShaNumbersCardSaid : Prop := Claim7.holds Tryd.pinned (.plain (OpenSpec.ofChange shaNumbersSpec)) shaNumbersCard

/-- THE TIED CARD OF 'deponentlaw1.ShaSums'. -/
def shaSumsCard : Claim7 := { stood := { row := shaSumsRow, standIns := [], harness := (true, "99e7ca3ab49e7d30b94f876f6ce8254e2091c245d54727a6d8f05d1962cc4407"), looks := false }, kinds := [], alts := [], laidByText := true, laidKinds := [.data, .data], laidTests := true, laidLooks := .later }
def ShaSumsCardSaid : Prop := Claim7.holds Tryd.pinned (.plain (OpenSpec.ofChange shaSumsSpec)) shaSumsCard

/-- THE SECOND FORM's CARD OF 'deponentlaw1.ShaCuts'. -/
def shaCutsUptoCard : Claim7 := { stood := { row := shaCutsUptoRow, standIns := [], harness := (true, "99e7ca3ab49e7d30b94f876f6ce8254e2091c245d54727a6d8f05d1962cc4407"), looks := false }, kinds := [], alts := [], laidByText := true, laidKinds := [.data, .data], laidTests := true, laidLooks := .later }
def ShaCutsUptoCardSaid : Prop := Claim7.holds Tryd.pinned (.plain (OpenSpec.upto shaCutsSpec)) shaCutsUptoCard

/-- THE SECOND FORM's CARD OF 'deponentlaw1.ShaJoins'. -/
def shaJoinsUptoCard : Claim7 := { stood := { row := shaJoinsUptoRow, standIns := [], harness := (true, "99e7ca3ab49e7d30b94f876f6ce8254e2091c245d54727a6d8f05d1962cc4407"), looks := false }, kinds := [], alts := [], laidByText := true, laidKinds := [.data, .data], laidTests := true, laidLooks := .later }
def ShaJoinsUptoCardSaid : Prop := Claim7.holds Tryd.pinned (.plain (OpenSpec.upto shaJoinsSpec)) shaJoinsUptoCard

/-- THE SECOND FORM's CARD OF 'deponentlaw1.ShaParts'. -/
def shaPartsUptoCard : Claim7 := { stood := { row := shaPartsUptoRow, standIns := [], harness := (true, "99e7ca3ab49e7d30b94f876f6ce8254e2091c245d54727a6d8f05d1962cc4407"), looks := false }, kinds := [], alts := [], laidByText := true, laidKinds := [.data, .data], laidTests := true, laidLooks := .later }
def ShaPartsUptoCardSaid : Prop := Claim7.holds Tryd.pinned (.plain (OpenSpec.upto shaPartsSpec)) shaPartsUptoCard

/-- THE SECOND FORM's CARD OF 'deponentlaw1.ShaEdges'. -/
def shaEdgesUptoCard : Claim7 := { stood := { row := shaEdgesUptoRow, standIns := [], harness := (true, "99e7ca3ab49e7d30b94f876f6ce8254e2091c245d54727a6d8f05d1962cc4407"), looks := false }, kinds := [], alts := [], laidByText := true, laidKinds := [.data, .data], laidTests := true, laidLooks := .later }
def ShaEdgesUptoCardSaid : Prop := Claim7.holds Tryd.pinned (.plain (OpenSpec.upto shaEdgesSpec)) shaEdgesUptoCard

/-- THE SECOND FORM's CARD OF 'deponentlaw1.ShaLong'. -/
def shaLongUptoCard : Claim7 := { stood := { row := shaLongUptoRow, standIns := [], harness := (true, "99e7ca3ab49e7d30b94f876f6ce8254e2091c245d54727a6d8f05d1962cc4407"), looks := false }, kinds := [], alts := [], laidByText := true, laidKinds := [.data, .data], laidTests := true, laidLooks := .later }
def ShaLongUptoCardSaid : Prop := Claim7.holds Tryd.pinned (.plain (OpenSpec.upto shaLongSpec)) shaLongUptoCard

/-- THE SECOND FORM's CARD OF 'deponentlaw1.ShaNumbers'. -/
def shaNumbersUptoCard : Claim7 := { stood := { row := shaNumbersUptoRow, standIns := [], harness := (true, "99e7ca3ab49e7d30b94f876f6ce8254e2091c245d54727a6d8f05d1962cc4407"), looks := false }, kinds := [], alts := [], laidByText := true, laidKinds := [.data, .data], laidTests := true, laidLooks := .later }
def ShaNumbersUptoCardSaid : Prop := Claim7.holds Tryd.pinned (.plain (OpenSpec.upto shaNumbersSpec)) shaNumbersUptoCard

/-- THE SECOND FORM's CARD OF 'deponentlaw1.ShaSums'. -/
def shaSumsUptoCard : Claim7 := { stood := { row := shaSumsUptoRow, standIns := [], harness := (true, "99e7ca3ab49e7d30b94f876f6ce8254e2091c245d54727a6d8f05d1962cc4407"), looks := false }, kinds := [], alts := [], laidByText := true, laidKinds := [.data, .data], laidTests := true, laidLooks := .later }
def ShaSumsUptoCardSaid : Prop := Claim7.holds Tryd.pinned (.plain (OpenSpec.upto shaSumsSpec)) shaSumsUptoCard
end Rows
end Go.Proofs.YtilndfodlbcmjaaDoor
