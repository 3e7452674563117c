/-
  DERIVED. GIVEN WITH THE SEED: THE CARDS: each row of YtcbggkdginfakaaGreatDoorRows.lean that lists a variable, with what it lists TIED to the program's text (the seventh form; the later family's looks); each row that meets fmt, with fmt's text TOLD by the authors' own Lean function (tested against real Go, not proved from fmt's source: count such statements apart). THE CARD IS WHAT COUNTS. Prove the row's statement (the work); the ties are given (YtcbggkdginfakaaGreatDoorTie.lean); close each card by the builder's one call (the guide's Derived/Test/ToyasCard.lean, 'card_holds'). Laid BY PROGRAM, IN A SANDBOX (cutbox-door.mjs). By AI agents, Wed Nov 11 2026. No macro, syntax, notation, axiom, sorry.
-/
import Derived.Test.YtcbggkdginfakaaGreatDoorRows
import GoSem.ClaimSeven
namespace Go.Proofs.YtcbggkdginfakaaGreatDoor
namespace Rows

/-- THE TIED CARD OF 'weirlaw29.RenderBack'. -/
def renderBackCard : Claim7 := { stood := { row := renderBackRow, standIns := [], harness := (true, "3054eab9ec1aac32052f0d40115b88ed02aea5495fee84b9029e95cca4418665"), looks := true }, kinds := [], alts := [], laidByText := true, laidKinds := [.data, .data, .data, .data, .pinned, .pinned], laidTests := true, laidLooks := .later }
def RenderBackCardSaid : Prop := Claim7.holds Tryz.pinned (.plain (OpenSpec.ofChange renderBackSpec)) renderBackCard

/-- THE TIED CARD OF 'weirlaw29.RenderMemory'. -/
def renderMemoryCard : Claim7 := { stood := { row := renderMemoryRow, standIns := [], harness := (true, "3054eab9ec1aac32052f0d40115b88ed02aea5495fee84b9029e95cca4418665"), looks := true }, kinds := [], alts := [], laidByText := true, laidKinds := [.data, .data, .data, .data, .pinned, .pinned], laidTests := true, laidLooks := .later }
def RenderMemoryCardSaid : Prop := Claim7.holds Tryz.pinned (.plain (OpenSpec.ofChange renderMemorySpec)) renderMemoryCard

/-- THE TIED CARD OF 'weirlaw02.NumReads'. -/
def numReadsCard : Claim7 := { stood := { row := numReadsRow, standIns := [], harness := (true, "3054eab9ec1aac32052f0d40115b88ed02aea5495fee84b9029e95cca4418665"), looks := true }, kinds := [], alts := [], laidByText := true, laidKinds := [.data, .data, .widerDeep, .widerDeep, .data, .data, .data, .data, .data, .sentinel, .sentinel, .pinned, .pinned], laidTests := true, laidLooks := .later }
def NumReadsCardSaid : Prop := Claim7.holds Tryz.pinned (.plain (OpenSpec.ofChange numReadsSpec)) numReadsCard

/-- THE SECOND FORM's CARD OF 'weirlaw29.RenderBack'. -/
def renderBackUptoCard : Claim7 := { stood := { row := renderBackUptoRow, standIns := [], harness := (true, "3054eab9ec1aac32052f0d40115b88ed02aea5495fee84b9029e95cca4418665"), looks := true }, kinds := [], alts := [], laidByText := true, laidKinds := [.data, .data, .data, .data, .pinned, .pinned], laidTests := true, laidLooks := .later }
def RenderBackUptoCardSaid : Prop := Claim7.holds Tryz.pinned (.plain (OpenSpec.upto renderBackSpec)) renderBackUptoCard

/-- THE SECOND FORM's CARD OF 'weirlaw29.RenderMemory'. -/
def renderMemoryUptoCard : Claim7 := { stood := { row := renderMemoryUptoRow, standIns := [], harness := (true, "3054eab9ec1aac32052f0d40115b88ed02aea5495fee84b9029e95cca4418665"), looks := true }, kinds := [], alts := [], laidByText := true, laidKinds := [.data, .data, .data, .data, .pinned, .pinned], laidTests := true, laidLooks := .later }
def RenderMemoryUptoCardSaid : Prop := Claim7.holds Tryz.pinned (.plain (OpenSpec.upto renderMemorySpec)) renderMemoryUptoCard

/-- THE SECOND FORM's CARD OF 'weirlaw02.NumReads'. -/
def numReadsUptoCard : Claim7 := { stood := { row := numReadsUptoRow, standIns := [], harness := (true, "3054eab9ec1aac32052f0d40115b88ed02aea5495fee84b9029e95cca4418665"), looks := true }, kinds := [], alts := [], laidByText := true, laidKinds := [.data, .data, .widerDeep, .widerDeep, .data, .data, .data, .data, .data, .sentinel, .sentinel, .pinned, .pinned], laidTests := true, laidLooks := .later }
def NumReadsUptoCardSaid : Prop := Claim7.holds Tryz.pinned (.plain (OpenSpec.upto numReadsSpec)) numReadsUptoCard
end Rows
end Go.Proofs.YtcbggkdginfakaaGreatDoor
