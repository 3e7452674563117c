/- What Show tells of a float is worth what reads as the float. No function of t .. -/
import Derived.Test.YtieknenhfeejiaaGreatDoorPRd
import Derived.Test.YtieknenhfeejiaaGreatDoorPPlain
set_option linter.unusedVariables false
set_option linter.unusedSimpArgs false
namespace Go.Proofs.YtieknenhfeejiaaGreatDoor
namespace FS
end FS
namespace PF
open PN
def dv (l:List UInt8):Nat:=l.foldl (fun a c=>a*10+(c.toNat-48)) 0
end PF
namespace FS
end FS
end Go.Proofs.YtieknenhfeejiaaGreatDoor
namespace Go.Proofs.YtieknenhfeejiaaGreatDoor
open Go.RowKit
end Go.Proofs.YtieknenhfeejiaaGreatDoor
