/- num.Bits, Same, Order, ToInt and the reference's; weirlaw02.NumPlain's walk. -/
import Derived.Test.YtieknenhfeejiaaGreatDoorPAlive
import Derived.Test.YtieknenhfeejiaaGreatDoorFParts
import Derived.Test.YtieknenhfeejiaaGreatDoorPFst
namespace Go.Proofs.YtieknenhfeejiaaGreatDoor
open Go.RowKit
set_option linter.unusedVariables false
set_option linter.unusedSimpArgs false
end Go.Proofs.YtieknenhfeejiaaGreatDoor
