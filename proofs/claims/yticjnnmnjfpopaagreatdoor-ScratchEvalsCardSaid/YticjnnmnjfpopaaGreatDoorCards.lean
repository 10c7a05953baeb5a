/-
  DERIVED. GIVEN WITH THE SEED: THE CARDS: each row of YticjnnmnjfpopaaGreatDoorRows.lean that lists a variable, with what it lists TIED to the program's text (the seventh form; the later family's looks); each row that meets fmt, with fmt's text TOLD by the authors' own Lean function (tested against real Go, not proved from fmt's source: count such statements apart). THE CARD IS WHAT COUNTS. Prove the row's statement (the work); the ties are given (YticjnnmnjfpopaaGreatDoorTie.lean); close each card by the builder's one call (the guide's Derived/Test/ToyasCard.lean, 'card_holds'). Laid BY PROGRAM, IN A SANDBOX (cutbox-door.mjs). By AI agents, Wed Nov 11 2026. No macro, syntax, notation, axiom, sorry.
-/
import Derived.Test.YticjnnmnjfpopaaGreatDoorRows
import GoSem.ClaimSeven
namespace Go.Proofs.YticjnnmnjfpopaaGreatDoor
namespace Rows

/-- THE TIED CARD OF 'bellowslaw16.ScratchEvals'. -/
def scratchEvalsCard : Claim7 := { stood := { row := scratchEvalsRow, standIns := [], harness := (true, "d86fa0959a70db4b0a55a46a802990bf97191fbe28582655153c77f894f4bb8b"), looks := true }, kinds := [], alts := [], laidByText := true, laidKinds := [.data, .data, .data, .data, .pinned], laidTests := true, laidLooks := .later }
def ScratchEvalsCardSaid : Prop := Claim7.holds Tryz.pinned (.plain (OpenSpec.ofChange scratchEvalsSpec)) scratchEvalsCard

/-- THE TIED CARD OF 'bellowslaw16.ScratchThere'. -/
def scratchThereCard : Claim7 := { stood := { row := scratchThereRow, standIns := [], harness := (true, "d86fa0959a70db4b0a55a46a802990bf97191fbe28582655153c77f894f4bb8b"), looks := true }, kinds := [], alts := [], laidByText := true, laidKinds := [.data, .data, .data, .data, .pinned], laidTests := true, laidLooks := .later }
def ScratchThereCardSaid : Prop := Claim7.holds Tryz.pinned (.plain (OpenSpec.ofChange scratchThereSpec)) scratchThereCard

/-- THE TIED CARD OF 'bellowslaw16.ScratchMore'. -/
def scratchMoreCard : Claim7 := { stood := { row := scratchMoreRow, standIns := [], harness := (true, "d86fa0959a70db4b0a55a46a802990bf97191fbe28582655153c77f894f4bb8b"), looks := true }, kinds := [], alts := [], laidByText := true, laidKinds := [.data, .data, .data, .data, .pinned], laidTests := true, laidLooks := .later }
def ScratchMoreCardSaid : Prop := Claim7.holds Tryz.pinned (.plain (OpenSpec.ofChange scratchMoreSpec)) scratchMoreCard

/-- THE TIED CARD OF 'bellowslaw16.ScratchOwn'. -/
def scratchOwnCard : Claim7 := { stood := { row := scratchOwnRow, standIns := [], harness := (true, "d86fa0959a70db4b0a55a46a802990bf97191fbe28582655153c77f894f4bb8b"), looks := true }, kinds := [], alts := [], laidByText := true, laidKinds := [.data, .data, .data, .data, .pinned], laidTests := true, laidLooks := .later }
def ScratchOwnCardSaid : Prop := Claim7.holds Tryz.pinned (.plain (OpenSpec.ofChange scratchOwnSpec)) scratchOwnCard

/-- THE TIED CARD OF 'bellowslaw16.ScratchFits'. -/
def scratchFitsCard : Claim7 := { stood := { row := scratchFitsRow, standIns := [], harness := (true, "d86fa0959a70db4b0a55a46a802990bf97191fbe28582655153c77f894f4bb8b"), looks := true }, kinds := [], alts := [], laidByText := true, laidKinds := [.data, .data, .data, .data, .pinned], laidTests := true, laidLooks := .later }
def ScratchFitsCardSaid : Prop := Claim7.holds Tryz.pinned (.plain (OpenSpec.ofChange scratchFitsSpec)) scratchFitsCard

/-- THE TIED CARD OF 'bellowslaw16.ScratchGenerated'. -/
def scratchGeneratedCard : Claim7 := { stood := { row := scratchGeneratedRow, standIns := [], harness := (true, "d86fa0959a70db4b0a55a46a802990bf97191fbe28582655153c77f894f4bb8b"), looks := true }, kinds := [], alts := [], laidByText := true, laidKinds := [.data, .data, .data, .data, .pinned], laidTests := true, laidLooks := .later }
def ScratchGeneratedCardSaid : Prop := Claim7.holds Tryz.pinned (.plain (OpenSpec.ofChange scratchGeneratedSpec)) scratchGeneratedCard

/-- THE TIED CARD OF 'bellowslaw16.ScratchChain'. -/
def scratchChainCard : Claim7 := { stood := { row := scratchChainRow, standIns := [], harness := (true, "d86fa0959a70db4b0a55a46a802990bf97191fbe28582655153c77f894f4bb8b"), looks := true }, kinds := [], alts := [], laidByText := true, laidKinds := [.data, .data, .data, .data, .pinned], laidTests := true, laidLooks := .later }
def ScratchChainCardSaid : Prop := Claim7.holds Tryz.pinned (.plain (OpenSpec.ofChange scratchChainSpec)) scratchChainCard

/-- THE SECOND FORM's CARD OF 'bellowslaw16.ScratchEvals'. -/
def scratchEvalsUptoCard : Claim7 := { stood := { row := scratchEvalsUptoRow, standIns := [], harness := (true, "d86fa0959a70db4b0a55a46a802990bf97191fbe28582655153c77f894f4bb8b"), looks := true }, kinds := [], alts := [], laidByText := true, laidKinds := [.data, .data, .data, .data, .pinned], laidTests := true, laidLooks := .later }
def ScratchEvalsUptoCardSaid : Prop := Claim7.holds Tryz.pinned (.plain (OpenSpec.upto scratchEvalsSpec)) scratchEvalsUptoCard

/-- THE SECOND FORM's CARD OF 'bellowslaw16.ScratchThere'. -/
def scratchThereUptoCard : Claim7 := { stood := { row := scratchThereUptoRow, standIns := [], harness := (true, "d86fa0959a70db4b0a55a46a802990bf97191fbe28582655153c77f894f4bb8b"), looks := true }, kinds := [], alts := [], laidByText := true, laidKinds := [.data, .data, .data, .data, .pinned], laidTests := true, laidLooks := .later }
def ScratchThereUptoCardSaid : Prop := Claim7.holds Tryz.pinned (.plain (OpenSpec.upto scratchThereSpec)) scratchThereUptoCard

/-- THE SECOND FORM's CARD OF 'bellowslaw16.ScratchMore'. -/
def scratchMoreUptoCard : Claim7 := { stood := { row := scratchMoreUptoRow, standIns := [], harness := (true, "d86fa0959a70db4b0a55a46a802990bf97191fbe28582655153c77f894f4bb8b"), looks := true }, kinds := [], alts := [], laidByText := true, laidKinds := [.data, .data, .data, .data, .pinned], laidTests := true, laidLooks := .later }
def ScratchMoreUptoCardSaid : Prop := Claim7.holds Tryz.pinned (.plain (OpenSpec.upto scratchMoreSpec)) scratchMoreUptoCard

/-- THE SECOND FORM's CARD OF 'bellowslaw16.ScratchOwn'. -/
def scratchOwnUptoCard : Claim7 := { stood := { row := scratchOwnUptoRow, standIns := [], harness := (true, "d86fa0959a70db4b0a55a46a802990bf97191fbe28582655153c77f894f4bb8b"), looks := true }, kinds := [], alts := [], laidByText := true, laidKinds := [.data, .data, .data, .data, .pinned], laidTests := true, laidLooks := .later }
def ScratchOwnUptoCardSaid : Prop := Claim7.holds Tryz.pinned (.plain (OpenSpec.upto scratchOwnSpec)) scratchOwnUptoCard

/-- THE SECOND FORM's CARD OF 'bellowslaw16.ScratchFits'. -/
def scratchFitsUptoCard : Claim7 := { stood := { row := scratchFitsUptoRow, standIns := [], harness := (true, "d86fa0959a70db4b0a55a46a802990bf97191fbe28582655153c77f894f4bb8b"), looks := true }, kinds := [], alts := [], laidByText := true, laidKinds := [.data, .data, .data, .data, .pinned], laidTests := true, laidLooks := .later }
def ScratchFitsUptoCardSaid : Prop := Claim7.holds Tryz.pinned (.plain (OpenSpec.upto scratchFitsSpec)) scratchFitsUptoCard

/-- THE SECOND FORM's CARD OF 'bellowslaw16.ScratchGenerated'. -/
def scratchGeneratedUptoCard : Claim7 := { stood := { row := scratchGeneratedUptoRow, standIns := [], harness := (true, "d86fa0959a70db4b0a55a46a802990bf97191fbe28582655153c77f894f4bb8b"), looks := true }, kinds := [], alts := [], laidByText := true, laidKinds := [.data, .data, .data, .data, .pinned], laidTests := true, laidLooks := .later }
def ScratchGeneratedUptoCardSaid : Prop := Claim7.holds Tryz.pinned (.plain (OpenSpec.upto scratchGeneratedSpec)) scratchGeneratedUptoCard

/-- THE SECOND FORM's CARD OF 'bellowslaw16.ScratchChain'. -/
def scratchChainUptoCard : Claim7 := { stood := { row := scratchChainUptoRow, standIns := [], harness := (true, "d86fa0959a70db4b0a55a46a802990bf97191fbe28582655153c77f894f4bb8b"), looks := true }, kinds := [], alts := [], laidByText := true, laidKinds := [.data, .data, .data, .data, .pinned], laidTests := true, laidLooks := .later }
def ScratchChainUptoCardSaid : Prop := Claim7.holds Tryz.pinned (.plain (OpenSpec.upto scratchChainSpec)) scratchChainUptoCard
end Rows
end Go.Proofs.YticjnnmnjfpopaaGreatDoor
