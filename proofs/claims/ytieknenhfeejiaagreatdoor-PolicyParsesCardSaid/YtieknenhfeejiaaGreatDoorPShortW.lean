/- The decimals with one digit less next to the shortest one don't read as the f .. -/
import Derived.Test.YtieknenhfeejiaaGreatDoorPBackW
import Derived.Test.YtieknenhfeejiaaGreatDoorPFig
namespace Go.Proofs.YtieknenhfeejiaaGreatDoor
set_option linter.unusedVariables false
namespace FS
end FS
end Go.Proofs.YtieknenhfeejiaaGreatDoor
namespace Go.Proofs.YtieknenhfeejiaaGreatDoor
open Go.RowKit
set_option linter.unusedVariables false
set_option linter.unusedSimpArgs false
namespace PF
open PN
end PF
namespace PF
end PF
end Go.Proofs.YtieknenhfeejiaaGreatDoor
