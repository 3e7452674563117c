/-
  DERIVED. GIVEN WITH THE SEED: THE CARDS: each row of YtibmgmgdbicdlaaGreatDoorRows.lean that lists a variable, with what it lists TIED to the program's text (the seventh form; the later family's looks); each row that meets fmt, with fmt's text TOLD by the authors' own Lean function (tested against real Go, not proved from fmt's source: count such statements apart). THE CARD IS WHAT COUNTS. Prove the row's statement (the work); the ties are given (YtibmgmgdbicdlaaGreatDoorTie.lean); close each card by the builder's one call (the guide's Derived/Test/ToyasCard.lean, 'card_holds'). Laid BY PROGRAM, IN A SANDBOX (cutbox-door.mjs). By AI agents, Wed Nov 11 2026. No macro, syntax, notation, axiom, sorry.
-/
import Derived.Test.YtibmgmgdbicdlaaGreatDoorRows
import GoSem.ClaimSeven
namespace Go.Proofs.YtibmgmgdbicdlaaGreatDoor
namespace Rows

/-- THE TIED CARD OF 'weirlaw02.NumPlain'. -/
def numPlainCard : Claim7 := { stood := { row := numPlainRow, standIns := [], harness := (true, "9b9c25cbc7429ce3aaf9607feb08cbedad60a9ee7ebb22cf924b50fecad6bd01"), looks := true }, kinds := [], alts := [], laidByText := true, laidKinds := [.data, .data, .widerDeep, .widerDeep, .data, .data, .data, .data, .data, .sentinel, .sentinel, .pinned, .pinned], laidTests := true, laidLooks := .later }
def NumPlainCardSaid : Prop := Claim7.holds Tryz.pinned (.plain (OpenSpec.ofChange numPlainSpec)) numPlainCard

/-- THE TIED CARD OF 'weirlaw02.NumShows'. -/
def numShowsCard : Claim7 := { stood := { row := numShowsRow, standIns := [], harness := (true, "9b9c25cbc7429ce3aaf9607feb08cbedad60a9ee7ebb22cf924b50fecad6bd01"), looks := true }, kinds := [], alts := [], laidByText := true, laidKinds := [.data, .data, .widerDeep, .widerDeep, .data, .data, .data, .data, .data, .sentinel, .sentinel, .pinned, .pinned], laidTests := true, laidLooks := .later }
def NumShowsCardSaid : Prop := Claim7.holds Tryz.pinned (.plain (OpenSpec.ofChange numShowsSpec)) numShowsCard

/-- THE TIED CARD OF 'weirlaw02.NumReads'. -/
def numReadsCard : Claim7 := { stood := { row := numReadsRow, standIns := [], harness := (true, "9b9c25cbc7429ce3aaf9607feb08cbedad60a9ee7ebb22cf924b50fecad6bd01"), looks := true }, kinds := [], alts := [], laidByText := true, laidKinds := [.data, .data, .widerDeep, .widerDeep, .data, .data, .data, .data, .data, .sentinel, .sentinel, .pinned, .pinned], laidTests := true, laidLooks := .later }
def NumReadsCardSaid : Prop := Claim7.holds Tryz.pinned (.plain (OpenSpec.ofChange numReadsSpec)) numReadsCard

/-- THE TIED CARD OF 'weirlaw02.NumBack'. -/
def numBackCard : Claim7 := { stood := { row := numBackRow, standIns := [], harness := (true, "9b9c25cbc7429ce3aaf9607feb08cbedad60a9ee7ebb22cf924b50fecad6bd01"), looks := true }, kinds := [], alts := [], laidByText := true, laidKinds := [.data, .data, .widerDeep, .widerDeep, .data, .data, .data, .data, .data, .sentinel, .sentinel, .pinned, .pinned], laidTests := true, laidLooks := .later }
def NumBackCardSaid : Prop := Claim7.holds Tryz.pinned (.plain (OpenSpec.ofChange numBackSpec)) numBackCard

/-- THE TIED CARD OF 'weirlaw02.NumShortest'. -/
def numShortestCard : Claim7 := { stood := { row := numShortestRow, standIns := [], harness := (true, "9b9c25cbc7429ce3aaf9607feb08cbedad60a9ee7ebb22cf924b50fecad6bd01"), looks := true }, kinds := [], alts := [], laidByText := true, laidKinds := [.data, .data, .widerDeep, .widerDeep, .data, .data, .data, .data, .data, .sentinel, .sentinel, .pinned, .pinned], laidTests := true, laidLooks := .later }
def NumShortestCardSaid : Prop := Claim7.holds Tryz.pinned (.plain (OpenSpec.ofChange numShortestSpec)) numShortestCard

/-- THE TIED CARD OF 'weirlaw02.NumHalfway'. -/
def numHalfwayCard : Claim7 := { stood := { row := numHalfwayRow, standIns := [], harness := (true, "9b9c25cbc7429ce3aaf9607feb08cbedad60a9ee7ebb22cf924b50fecad6bd01"), looks := true }, kinds := [], alts := [], laidByText := true, laidKinds := [.data, .data, .widerDeep, .widerDeep, .data, .data, .data, .data, .data, .sentinel, .sentinel, .pinned, .pinned], laidTests := true, laidLooks := .later }
def NumHalfwayCardSaid : Prop := Claim7.holds Tryz.pinned (.plain (OpenSpec.ofChange numHalfwaySpec)) numHalfwayCard

/-- THE TIED CARD OF 'weirlaw02.NumRises'. -/
def numRisesCard : Claim7 := { stood := { row := numRisesRow, standIns := [], harness := (true, "9b9c25cbc7429ce3aaf9607feb08cbedad60a9ee7ebb22cf924b50fecad6bd01"), looks := true }, kinds := [], alts := [], laidByText := true, laidKinds := [.data, .data, .widerDeep, .widerDeep, .data, .data, .data, .data, .data, .sentinel, .sentinel, .pinned, .pinned], laidTests := true, laidLooks := .later }
def NumRisesCardSaid : Prop := Claim7.holds Tryz.pinned (.plain (OpenSpec.ofChange numRisesSpec)) numRisesCard

/-- THE TIED CARD OF 'weirlaw29.RenderResults'. -/
def renderResultsCard : Claim7 := { stood := { row := renderResultsRow, standIns := [], harness := (true, "9b9c25cbc7429ce3aaf9607feb08cbedad60a9ee7ebb22cf924b50fecad6bd01"), looks := true }, kinds := [], alts := [], laidByText := true, laidKinds := [.data, .data, .data, .data, .pinned, .pinned], laidTests := true, laidLooks := .later }
def RenderResultsCardSaid : Prop := Claim7.holds Tryz.pinned (.plain (OpenSpec.ofChange renderResultsSpec)) renderResultsCard

/-- THE TIED CARD OF 'weirlaw29.RenderBack'. -/
def renderBackCard : Claim7 := { stood := { row := renderBackRow, standIns := [], harness := (true, "9b9c25cbc7429ce3aaf9607feb08cbedad60a9ee7ebb22cf924b50fecad6bd01"), looks := true }, kinds := [], alts := [], laidByText := true, laidKinds := [.data, .data, .data, .data, .pinned, .pinned], laidTests := true, laidLooks := .later }
def RenderBackCardSaid : Prop := Claim7.holds Tryz.pinned (.plain (OpenSpec.ofChange renderBackSpec)) renderBackCard

/-- THE TIED CARD OF 'weirlaw29.RenderMemory'. -/
def renderMemoryCard : Claim7 := { stood := { row := renderMemoryRow, standIns := [], harness := (true, "9b9c25cbc7429ce3aaf9607feb08cbedad60a9ee7ebb22cf924b50fecad6bd01"), looks := true }, kinds := [], alts := [], laidByText := true, laidKinds := [.data, .data, .data, .data, .pinned, .pinned], laidTests := true, laidLooks := .later }
def RenderMemoryCardSaid : Prop := Claim7.holds Tryz.pinned (.plain (OpenSpec.ofChange renderMemorySpec)) renderMemoryCard

/-- THE SECOND FORM's CARD OF 'weirlaw02.NumPlain'. -/
def numPlainUptoCard : Claim7 := { stood := { row := numPlainUptoRow, standIns := [], harness := (true, "9b9c25cbc7429ce3aaf9607feb08cbedad60a9ee7ebb22cf924b50fecad6bd01"), looks := true }, kinds := [], alts := [], laidByText := true, laidKinds := [.data, .data, .widerDeep, .widerDeep, .data, .data, .data, .data, .data, .sentinel, .sentinel, .pinned, .pinned], laidTests := true, laidLooks := .later }
def NumPlainUptoCardSaid : Prop := Claim7.holds Tryz.pinned (.plain (OpenSpec.upto numPlainSpec)) numPlainUptoCard

/-- THE SECOND FORM's CARD OF 'weirlaw02.NumShows'. -/
def numShowsUptoCard : Claim7 := { stood := { row := numShowsUptoRow, standIns := [], harness := (true, "9b9c25cbc7429ce3aaf9607feb08cbedad60a9ee7ebb22cf924b50fecad6bd01"), looks := true }, kinds := [], alts := [], laidByText := true, laidKinds := [.data, .data, .widerDeep, .widerDeep, .data, .data, .data, .data, .data, .sentinel, .sentinel, .pinned, .pinned], laidTests := true, laidLooks := .later }
def NumShowsUptoCardSaid : Prop := Claim7.holds Tryz.pinned (.plain (OpenSpec.upto numShowsSpec)) numShowsUptoCard

/-- THE SECOND FORM's CARD OF 'weirlaw02.NumReads'. -/
def numReadsUptoCard : Claim7 := { stood := { row := numReadsUptoRow, standIns := [], harness := (true, "9b9c25cbc7429ce3aaf9607feb08cbedad60a9ee7ebb22cf924b50fecad6bd01"), looks := true }, kinds := [], alts := [], laidByText := true, laidKinds := [.data, .data, .widerDeep, .widerDeep, .data, .data, .data, .data, .data, .sentinel, .sentinel, .pinned, .pinned], laidTests := true, laidLooks := .later }
def NumReadsUptoCardSaid : Prop := Claim7.holds Tryz.pinned (.plain (OpenSpec.upto numReadsSpec)) numReadsUptoCard

/-- THE SECOND FORM's CARD OF 'weirlaw02.NumBack'. -/
def numBackUptoCard : Claim7 := { stood := { row := numBackUptoRow, standIns := [], harness := (true, "9b9c25cbc7429ce3aaf9607feb08cbedad60a9ee7ebb22cf924b50fecad6bd01"), looks := true }, kinds := [], alts := [], laidByText := true, laidKinds := [.data, .data, .widerDeep, .widerDeep, .data, .data, .data, .data, .data, .sentinel, .sentinel, .pinned, .pinned], laidTests := true, laidLooks := .later }
def NumBackUptoCardSaid : Prop := Claim7.holds Tryz.pinned (.plain (OpenSpec.upto numBackSpec)) numBackUptoCard

/-- THE SECOND FORM's CARD OF 'weirlaw02.NumShortest'. -/
def numShortestUptoCard : Claim7 := { stood := { row := numShortestUptoRow, standIns := [], harness := (true, "9b9c25cbc7429ce3aaf9607feb08cbedad60a9ee7ebb22cf924b50fecad6bd01"), looks := true }, kinds := [], alts := [], laidByText := true, laidKinds := [.data, .data, .widerDeep, .widerDeep, .data, .data, .data, .data, .data, .sentinel, .sentinel, .pinned, .pinned], laidTests := true, laidLooks := .later }
def NumShortestUptoCardSaid : Prop := Claim7.holds Tryz.pinned (.plain (OpenSpec.upto numShortestSpec)) numShortestUptoCard

/-- THE SECOND FORM's CARD OF 'weirlaw02.NumHalfway'. -/
def numHalfwayUptoCard : Claim7 := { stood := { row := numHalfwayUptoRow, standIns := [], harness := (true, "9b9c25cbc7429ce3aaf9607feb08cbedad60a9ee7ebb22cf924b50fecad6bd01"), looks := true }, kinds := [], alts := [], laidByText := true, laidKinds := [.data, .data, .widerDeep, .widerDeep, .data, .data, .data, .data, .data, .sentinel, .sentinel, .pinned, .pinned], laidTests := true, laidLooks := .later }
def NumHalfwayUptoCardSaid : Prop := Claim7.holds Tryz.pinned (.plain (OpenSpec.upto numHalfwaySpec)) numHalfwayUptoCard

/-- THE SECOND FORM's CARD OF 'weirlaw02.NumRises'. -/
def numRisesUptoCard : Claim7 := { stood := { row := numRisesUptoRow, standIns := [], harness := (true, "9b9c25cbc7429ce3aaf9607feb08cbedad60a9ee7ebb22cf924b50fecad6bd01"), looks := true }, kinds := [], alts := [], laidByText := true, laidKinds := [.data, .data, .widerDeep, .widerDeep, .data, .data, .data, .data, .data, .sentinel, .sentinel, .pinned, .pinned], laidTests := true, laidLooks := .later }
def NumRisesUptoCardSaid : Prop := Claim7.holds Tryz.pinned (.plain (OpenSpec.upto numRisesSpec)) numRisesUptoCard

/-- THE SECOND FORM's CARD OF 'weirlaw29.RenderResults'. -/
def renderResultsUptoCard : Claim7 := { stood := { row := renderResultsUptoRow, standIns := [], harness := (true, "9b9c25cbc7429ce3aaf9607feb08cbedad60a9ee7ebb22cf924b50fecad6bd01"), looks := true }, kinds := [], alts := [], laidByText := true, laidKinds := [.data, .data, .data, .data, .pinned, .pinned], laidTests := true, laidLooks := .later }
def RenderResultsUptoCardSaid : Prop := Claim7.holds Tryz.pinned (.plain (OpenSpec.upto renderResultsSpec)) renderResultsUptoCard

/-- THE SECOND FORM's CARD OF 'weirlaw29.RenderBack'. -/
def renderBackUptoCard : Claim7 := { stood := { row := renderBackUptoRow, standIns := [], harness := (true, "9b9c25cbc7429ce3aaf9607feb08cbedad60a9ee7ebb22cf924b50fecad6bd01"), looks := true }, kinds := [], alts := [], laidByText := true, laidKinds := [.data, .data, .data, .data, .pinned, .pinned], laidTests := true, laidLooks := .later }
def RenderBackUptoCardSaid : Prop := Claim7.holds Tryz.pinned (.plain (OpenSpec.upto renderBackSpec)) renderBackUptoCard

/-- THE SECOND FORM's CARD OF 'weirlaw29.RenderMemory'. -/
def renderMemoryUptoCard : Claim7 := { stood := { row := renderMemoryUptoRow, standIns := [], harness := (true, "9b9c25cbc7429ce3aaf9607feb08cbedad60a9ee7ebb22cf924b50fecad6bd01"), looks := true }, kinds := [], alts := [], laidByText := true, laidKinds := [.data, .data, .data, .data, .pinned, .pinned], laidTests := true, laidLooks := .later }
def RenderMemoryUptoCardSaid : Prop := Claim7.holds Tryz.pinned (.plain (OpenSpec.upto renderMemorySpec)) renderMemoryUptoCard
end Rows
end Go.Proofs.YtibmgmgdbicdlaaGreatDoor
