/-
  DERIVED. GIVEN WITH THE SEED: THE CARDS: each row of YtcbggkdginfakaaDoorRows.lean that lists a variable, with what it lists TIED to the program's text (the seventh form; the later family's looks); each row that meets fmt, with fmt's text TOLD by the authors' own Lean function (tested against real Go, not proved from fmt's source: count such statements apart). THE CARD IS WHAT COUNTS. Prove the row's statement (the work); the ties are given (YtcbggkdginfakaaDoorTie.lean); close each card by the builder's one call (the guide's Derived/Test/ToyasCard.lean, 'card_holds'). Laid BY PROGRAM, IN A SANDBOX (cutbox-door.mjs). By AI agents, Wed Nov 11 2026. No macro, syntax, notation, axiom, sorry.
-/
import Derived.Test.YtcbggkdginfakaaDoorRows
import GoSem.ClaimSeven
namespace Go.Proofs.YtcbggkdginfakaaDoor
namespace Rows

/-- THE TIED CARD OF 'weirlaw29.RenderJson'. -/
def renderJsonCard : Claim7 := { stood := { row := renderJsonRow, standIns := [], harness := (true, "b33788f1b2873f654142490dfcd219ab7b8e06dd178128cceea383053c51ba5d"), looks := false }, kinds := [], alts := [], laidByText := true, laidKinds := [.data, .data, .data, .data, .pinned, .pinned], laidTests := true, laidLooks := .later }
def RenderJsonCardSaid : Prop := Claim7.holds Tryd.pinned (.plain (OpenSpec.ofChange renderJsonSpec)) renderJsonCard

/-- THE SECOND FORM's CARD OF 'weirlaw29.RenderJson'. -/
def renderJsonUptoCard : Claim7 := { stood := { row := renderJsonUptoRow, standIns := [], harness := (true, "b33788f1b2873f654142490dfcd219ab7b8e06dd178128cceea383053c51ba5d"), looks := false }, kinds := [], alts := [], laidByText := true, laidKinds := [.data, .data, .data, .data, .pinned, .pinned], laidTests := true, laidLooks := .later }
def RenderJsonUptoCardSaid : Prop := Claim7.holds Tryd.pinned (.plain (OpenSpec.upto renderJsonSpec)) renderJsonUptoCard
end Rows
end Go.Proofs.YtcbggkdginfakaaDoor
