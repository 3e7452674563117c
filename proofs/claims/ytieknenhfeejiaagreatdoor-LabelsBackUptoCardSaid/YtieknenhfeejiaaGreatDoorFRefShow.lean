/- shortest of the reference (weirref02/show.go). plain: the decimal 0.d * 10^k .. -/
import Derived.Test.YtieknenhfeejiaaGreatDoorFDG
import Derived.Test.YtieknenhfeejiaaGreatDoorFParts
set_option linter.unusedVariables false
set_option linter.unusedSimpArgs false
namespace Go.Proofs.YtieknenhfeejiaaGreatDoor
open Go.RowKit
namespace FS
end FS
namespace FB
def pre (k:Int):List UInt8:=if k≤0 then [48,46]++List.replicate (-k).toNat 48 else []
end FB
end Go.Proofs.YtieknenhfeejiaaGreatDoor
