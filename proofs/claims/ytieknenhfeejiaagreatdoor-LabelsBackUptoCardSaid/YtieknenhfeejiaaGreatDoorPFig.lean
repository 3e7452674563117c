/- weirlaw02.decimal and power. weirlaw02.figures over what Show tells. Texts of .. -/
import Derived.Test.YtieknenhfeejiaaGreatDoorPBackW
set_option linter.unusedVariables false
set_option linter.unusedSimpArgs false
namespace Go.Proofs.YtieknenhfeejiaaGreatDoor
open Go.RowKit
section
variable {P:Program}
end
end Go.Proofs.YtieknenhfeejiaaGreatDoor
namespace Go.Proofs.YtieknenhfeejiaaGreatDoor
open Go.RowKit
namespace PF
end PF
section
variable {P:Program}
end
end Go.Proofs.YtieknenhfeejiaaGreatDoor
