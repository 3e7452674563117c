/-
  DERIVED. GIVEN WITH THE SEED: THE CARDS: each row of YtieknenhfeejiaaGreatDoorRows.lean that lists a variable, with what it lists TIED to the program's text (the seventh form; the later family's looks); each row that meets fmt, with fmt's text TOLD by the authors' own Lean function (tested against real Go, not proved from fmt's source: count such statements apart). THE CARD IS WHAT COUNTS. Prove the row's statement (the work); the ties are given (YtieknenhfeejiaaGreatDoorTie.lean); close each card by the builder's one call (the guide's Derived/Test/ToyasCard.lean, 'card_holds'). Laid BY PROGRAM, IN A SANDBOX (cutbox-door.mjs). By AI agents, Wed Nov 11 2026. No macro, syntax, notation, axiom, sorry.
-/
import Derived.Test.YtieknenhfeejiaaGreatDoorRows
import GoSem.ClaimSeven
namespace Go.Proofs.YtieknenhfeejiaaGreatDoor
namespace Rows

/-- THE TIED CARD OF 'weirlaw25.PolicyParses'. -/
def policyParsesCard : Claim7 := { stood := { row := policyParsesRow, standIns := [], harness := (true, "0f14aa946243c5ba81745de2285a6a25edb8c4cc9473ef0e3b88add111853fee"), looks := true }, kinds := [], alts := [], laidByText := true, laidKinds := [.data, .data, .widerDeep, .widerDeep, .data, .data, .data, .data, .data, .sentinel, .sentinel, .pinned, .pinned], laidTests := true, laidLooks := .later }
def PolicyParsesCardSaid : Prop := Claim7.holds Tryz.pinned (.plain (OpenSpec.ofChange policyParsesSpec)) policyParsesCard

/-- THE TIED CARD OF 'weirlaw16.LabelsTexts'. -/
def labelsTextsCard : Claim7 := { stood := { row := labelsTextsRow, standIns := [], harness := (true, "0f14aa946243c5ba81745de2285a6a25edb8c4cc9473ef0e3b88add111853fee"), looks := true }, kinds := [], alts := [], laidByText := true, laidKinds := [.data, .data, .widerDeep, .widerDeep, .data, .data, .data, .data, .data, .sentinel, .sentinel, .pinned, .pinned], laidTests := true, laidLooks := .later }
def LabelsTextsCardSaid : Prop := Claim7.holds Tryz.pinned (.plain (OpenSpec.ofChange labelsTextsSpec)) labelsTextsCard

/-- THE TIED CARD OF 'weirlaw16.LabelsBack'. -/
def labelsBackCard : Claim7 := { stood := { row := labelsBackRow, standIns := [], harness := (true, "0f14aa946243c5ba81745de2285a6a25edb8c4cc9473ef0e3b88add111853fee"), looks := true }, kinds := [], alts := [], laidByText := true, laidKinds := [.data, .data, .widerDeep, .widerDeep, .data, .data, .data, .data, .data, .sentinel, .sentinel, .pinned, .pinned], laidTests := true, laidLooks := .later }
def LabelsBackCardSaid : Prop := Claim7.holds Tryz.pinned (.plain (OpenSpec.ofChange labelsBackSpec)) labelsBackCard

/-- THE SECOND FORM's CARD OF 'weirlaw25.PolicyParses'. -/
def policyParsesUptoCard : Claim7 := { stood := { row := policyParsesUptoRow, standIns := [], harness := (true, "0f14aa946243c5ba81745de2285a6a25edb8c4cc9473ef0e3b88add111853fee"), looks := true }, kinds := [], alts := [], laidByText := true, laidKinds := [.data, .data, .widerDeep, .widerDeep, .data, .data, .data, .data, .data, .sentinel, .sentinel, .pinned, .pinned], laidTests := true, laidLooks := .later }
def PolicyParsesUptoCardSaid : Prop := Claim7.holds Tryz.pinned (.plain (OpenSpec.upto policyParsesSpec)) policyParsesUptoCard

/-- THE SECOND FORM's CARD OF 'weirlaw16.LabelsTexts'. -/
def labelsTextsUptoCard : Claim7 := { stood := { row := labelsTextsUptoRow, standIns := [], harness := (true, "0f14aa946243c5ba81745de2285a6a25edb8c4cc9473ef0e3b88add111853fee"), looks := true }, kinds := [], alts := [], laidByText := true, laidKinds := [.data, .data, .widerDeep, .widerDeep, .data, .data, .data, .data, .data, .sentinel, .sentinel, .pinned, .pinned], laidTests := true, laidLooks := .later }
def LabelsTextsUptoCardSaid : Prop := Claim7.holds Tryz.pinned (.plain (OpenSpec.upto labelsTextsSpec)) labelsTextsUptoCard

/-- THE SECOND FORM's CARD OF 'weirlaw16.LabelsBack'. -/
def labelsBackUptoCard : Claim7 := { stood := { row := labelsBackUptoRow, standIns := [], harness := (true, "0f14aa946243c5ba81745de2285a6a25edb8c4cc9473ef0e3b88add111853fee"), looks := true }, kinds := [], alts := [], laidByText := true, laidKinds := [.data, .data, .widerDeep, .widerDeep, .data, .data, .data, .data, .data, .sentinel, .sentinel, .pinned, .pinned], laidTests := true, laidLooks := .later }
def LabelsBackUptoCardSaid : Prop := Claim7.holds Tryz.pinned (.plain (OpenSpec.upto labelsBackSpec)) labelsBackUptoCard
end Rows
end Go.Proofs.YtieknenhfeejiaaGreatDoor
