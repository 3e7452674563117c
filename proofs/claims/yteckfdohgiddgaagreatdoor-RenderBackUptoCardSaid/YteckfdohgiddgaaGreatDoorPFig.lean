/- weirlaw02.decimal and power. weirlaw02.figures over what Show tells. Texts of digits of one length: byte by byte is by number. Two rows of bytes that grow beside each other. -/
import Derived.Test.YteckfdohgiddgaaGreatDoorPBackW
import Derived.Test.YteckfdohgiddgaaGreatDoorBase4
import Derived.Deep.RegionLaw
import Derived.Test.YteckfdohgiddgaaGreatDoorFEfg
namespace Go.Proofs.YteckfdohgiddgaaGreatDoor
open Go.RowKit
set_option linter.unusedVariables false
set_option linter.unusedSimpArgs false
end Go.Proofs.YteckfdohgiddgaaGreatDoor
namespace Go.Proofs.YteckfdohgiddgaaGreatDoor
open Go.RowKit
set_option linter.unusedVariables false
set_option linter.unusedSimpArgs false
/-- bytes that a call puts into a row of its own -/
structure Row1 (w0 W : World) (v : Value) (bs : List UInt8) : Prop where
  o : W.ownsRow w0.heap.size 5 1 v bs.length (cellsB bs)
  b : Below w0.heap.size w0 W
theorem Row1.start (w : World) : Row1 w w (.slice none 0 0) [] := ⟨World.ownsRow_nil _ _ _ _, Below.refl _ _⟩
section
variable {P : Program}
end
end Go.Proofs.YteckfdohgiddgaaGreatDoor
namespace Go.Proofs.YteckfdohgiddgaaGreatDoor
open Go.RowKit
set_option linter.unusedVariables false
namespace PF
end PF
section
variable {P : Program}
end
end Go.Proofs.YteckfdohgiddgaaGreatDoor
