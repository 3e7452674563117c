/- internal/strconv.fmtEFG at 'f': the digits of the shortest decimal, written out. -/
import Derived.Test.YtieknenhfeejiaaGreatDoorFDig
import Derived.Test.YtieknenhfeejiaaGreatDoorLBase
import Derived.Deep.LoopGhost
set_option linter.unusedVariables false
set_option linter.unusedSimpArgs false
namespace Go.Proofs.YtieknenhfeejiaaGreatDoor
open Go.RowKit
section
variable {P:Program}
end
end Go.Proofs.YtieknenhfeejiaaGreatDoor
