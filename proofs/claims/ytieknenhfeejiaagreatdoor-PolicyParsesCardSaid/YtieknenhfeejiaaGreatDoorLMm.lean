/- The walk of weirlaw16.same. The walk of labels.With. The walks of slices.Inde .. -/
import Derived.Test.YtieknenhfeejiaaGreatDoorLBase
import Derived.Deep.QuietTactic
import Derived.BigQuiet
import Derived.Test.YtieknenhfeejiaaGreatDoorBk
import Derived.Test.YtieknenhfeejiaaGreatDoorBase4
namespace Go.Proofs.YtieknenhfeejiaaGreatDoor
open Go.RowKit
set_option linter.unusedVariables false
set_option linter.unusedSimpArgs false
end Go.Proofs.YtieknenhfeejiaaGreatDoor
namespace Go.Proofs.YtieknenhfeejiaaGreatDoor
open Go.RowKit
set_option linter.unusedVariables false
set_option linter.unusedSimpArgs false
namespace L
def gt (a b : ByteArray) : Bool := !(Op.bytesLess a.toList b.toList)
end L
end Go.Proofs.YtieknenhfeejiaaGreatDoor
namespace Go.Proofs.YtieknenhfeejiaaGreatDoor
open Go.RowKit
set_option linter.unusedVariables false
set_option linter.unusedSimpArgs false
namespace L
def isIn (x : ByteArray) : List ByteArray → Bool
 | [] => false
 | y :: r => if x = y then true else isIn x r
def metric : ByteArray := ⟨#[95, 95, 110, 97, 109, 101, 95, 95]⟩
def stays (name : ByteArray) (names : List ByteArray) (without : Bool) : Bool :=
 if without then decide (name ≠ metric) && !isIn name names else isIn name names
end L
end Go.Proofs.YtieknenhfeejiaaGreatDoor
namespace Go.Proofs.YtieknenhfeejiaaGreatDoor
open Go.RowKit
set_option linter.unusedVariables false
set_option linter.unusedSimpArgs false
section
variable {P : Program}
end
end Go.Proofs.YtieknenhfeejiaaGreatDoor
namespace Go.Proofs.YtieknenhfeejiaaGreatDoor
open Go.RowKit
set_option linter.unusedVariables false
set_option linter.unusedSimpArgs false
def mkA (i : Nat) : ByteArray := ⟨[35, UInt8.ofNat i, UInt8.ofNat (i / 256)].toArray⟩
def mkB (k : Nat) : ByteArray := ⟨[35, UInt8.ofNat k].toArray⟩
end Go.Proofs.YtieknenhfeejiaaGreatDoor
namespace Go.Proofs.YtieknenhfeejiaaGreatDoor
open Go.RowKit
set_option linter.unusedVariables false
set_option linter.unusedSimpArgs false
end Go.Proofs.YtieknenhfeejiaaGreatDoor
namespace Go.Proofs.YtieknenhfeejiaaGreatDoor
open Go.RowKit
set_option linter.unusedVariables false
set_option linter.unusedSimpArgs false
def mkL (b i : Nat) : Lb := (mkA i, mkB b)
def q1 (n : Nat → Nat) (a : Nat) : List Lb := List.replicate (n a) (mkL 1 a)
def q2 (n : Nat → Nat) (a : Nat) : List Lb := q1 n a ++ List.replicate 16 (mkL 2 a)
end Go.Proofs.YtieknenhfeejiaaGreatDoor
