/- weirlaw02.decimal and power. weirlaw02.figures over what Show tells. Texts of .. -/
import Derived.Test.YtieknenhfeejiaaGreatDoorPBackW
import Derived.Test.YtieknenhfeejiaaGreatDoorBase4
import Derived.Deep.RegionLaw
import Derived.Test.YtieknenhfeejiaaGreatDoorFEfg
namespace Go.Proofs.YtieknenhfeejiaaGreatDoor
open Go.RowKit
set_option linter.unusedVariables false
set_option linter.unusedSimpArgs false
end Go.Proofs.YtieknenhfeejiaaGreatDoor
namespace Go.Proofs.YtieknenhfeejiaaGreatDoor
open Go.RowKit
set_option linter.unusedVariables false
set_option linter.unusedSimpArgs false
section
variable {P : Program}
end
end Go.Proofs.YtieknenhfeejiaaGreatDoor
namespace Go.Proofs.YtieknenhfeejiaaGreatDoor
open Go.RowKit
set_option linter.unusedVariables false
namespace PF
end PF
section
variable {P : Program}
end
end Go.Proofs.YtieknenhfeejiaaGreatDoor
