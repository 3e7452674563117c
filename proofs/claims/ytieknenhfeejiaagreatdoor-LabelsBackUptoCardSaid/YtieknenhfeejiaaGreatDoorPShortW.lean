/- The decimals with one digit less next to the shortest one don't read as the f .. -/
import Derived.Test.YtieknenhfeejiaaGreatDoorPFig
set_option linter.unusedVariables false
set_option linter.unusedSimpArgs false
namespace Go.Proofs.YtieknenhfeejiaaGreatDoor
namespace FS
end FS
end Go.Proofs.YtieknenhfeejiaaGreatDoor
namespace Go.Proofs.YtieknenhfeejiaaGreatDoor
open Go.RowKit
namespace PF
open PN
end PF
namespace PF
end PF
end Go.Proofs.YtieknenhfeejiaaGreatDoor
