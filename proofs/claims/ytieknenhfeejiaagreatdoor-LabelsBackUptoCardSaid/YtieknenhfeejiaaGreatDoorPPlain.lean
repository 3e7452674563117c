/- num.Bits, Same, Order, ToInt and the reference's; weirlaw02.NumPlain's walk. -/
import Derived.Test.YtieknenhfeejiaaGreatDoorPAlive
import Derived.Test.YtieknenhfeejiaaGreatDoorFParts
set_option linter.unusedVariables false
set_option linter.unusedSimpArgs false
namespace Go.Proofs.YtieknenhfeejiaaGreatDoor
open Go.RowKit
def FO.ord (f g:Nat):Int:=if FO.isN f && FO.isN g then 0 else if FO.isN f then -1 else if FO.isN g then 1 else if FO.kr f<FO.kr g then -1 else if FO.kr g<FO.kr f then 1 else 0
end Go.Proofs.YtieknenhfeejiaaGreatDoor
