/-
  DERIVED. GIVEN WITH THE SEED: THE CARDS: each row of YtifaepkeoffcfaaDoorRows.lean that lists a variable, with what it lists TIED to the program's text (the seventh form; the later family's looks); each row that meets fmt, with fmt's text TOLD by the authors' own Lean function (tested against real Go, not proved from fmt's source: count such statements apart). THE CARD IS WHAT COUNTS. Prove the row's statement (the work); the ties are given (YtifaepkeoffcfaaDoorTie.lean); close each card by the builder's one call (the guide's Derived/Test/ToyasCard.lean, 'card_holds'). Laid BY PROGRAM, IN A SANDBOX (cutbox-door.mjs). By AI agents, Wed Nov 11 2026. No macro, syntax, notation, axiom, sorry.
-/
import Derived.Test.YtifaepkeoffcfaaDoorRows
import GoSem.ClaimSeven
namespace Go.Proofs.YtifaepkeoffcfaaDoor
namespace Rows

/-- THE TIED CARD OF 'weirlaw29.RenderFailures'. -/
def renderFailuresCard : Claim7 := { stood := { row := renderFailuresRow, standIns := [], harness := (true, "d8c396d025368e444beb9c16e1a9b4453ff5ef36836a8c87f984794d60851584"), looks := false }, kinds := [], alts := [], laidByText := true, laidKinds := [.data, .data, .data], laidTests := true, laidLooks := .later }
def RenderFailuresCardSaid : Prop := Claim7.holds Tryd.pinned (.plain (OpenSpec.ofChange renderFailuresSpec)) renderFailuresCard

/-- THE TIED CARD OF 'weirlaw16.LabelsKeys'. -/
def labelsKeysCard : Claim7 := { stood := { row := labelsKeysRow, standIns := [], harness := (true, "d8c396d025368e444beb9c16e1a9b4453ff5ef36836a8c87f984794d60851584"), looks := false }, kinds := [], alts := [], laidByText := true, laidKinds := [.data, .data, .data], laidTests := true, laidLooks := .later }
def LabelsKeysCardSaid : Prop := Claim7.holds Tryd.pinned (.plain (OpenSpec.ofChange labelsKeysSpec)) labelsKeysCard

/-- THE SECOND FORM's CARD OF 'weirlaw29.RenderFailures'. -/
def renderFailuresUptoCard : Claim7 := { stood := { row := renderFailuresUptoRow, standIns := [], harness := (true, "d8c396d025368e444beb9c16e1a9b4453ff5ef36836a8c87f984794d60851584"), looks := false }, kinds := [], alts := [], laidByText := true, laidKinds := [.data, .data, .data], laidTests := true, laidLooks := .later }
def RenderFailuresUptoCardSaid : Prop := Claim7.holds Tryd.pinned (.plain (OpenSpec.upto renderFailuresSpec)) renderFailuresUptoCard

/-- THE SECOND FORM's CARD OF 'weirlaw16.LabelsKeys'. -/
def labelsKeysUptoCard : Claim7 := { stood := { row := labelsKeysUptoRow, standIns := [], harness := (true, "d8c396d025368e444beb9c16e1a9b4453ff5ef36836a8c87f984794d60851584"), looks := false }, kinds := [], alts := [], laidByText := true, laidKinds := [.data, .data, .data], laidTests := true, laidLooks := .later }
def LabelsKeysUptoCardSaid : Prop := Claim7.holds Tryd.pinned (.plain (OpenSpec.upto labelsKeysSpec)) labelsKeysUptoCard
end Rows
end Go.Proofs.YtifaepkeoffcfaaDoor
