/- What Show tells of a float is worth what reads as the float. No function of t .. -/
import Derived.Test.YtieknenhfeejiaaGreatDoorPVal
import Derived.Test.YtieknenhfeejiaaGreatDoorFDG
import Derived.Test.YtieknenhfeejiaaGreatDoorPRd
import Derived.Test.YtieknenhfeejiaaGreatDoorPPlain
namespace Go.Proofs.YtieknenhfeejiaaGreatDoor
set_option linter.unusedVariables false
namespace FS
end FS
namespace PF
open PN
def dv (l : List UInt8) : Nat := l.foldl (fun a c => a * 10 + (c.toNat - 48)) 0
end PF
namespace FS
end FS
end Go.Proofs.YtieknenhfeejiaaGreatDoor
namespace Go.Proofs.YtieknenhfeejiaaGreatDoor
open Go.RowKit
set_option linter.unusedVariables false
set_option linter.unusedSimpArgs false
end Go.Proofs.YtieknenhfeejiaaGreatDoor
