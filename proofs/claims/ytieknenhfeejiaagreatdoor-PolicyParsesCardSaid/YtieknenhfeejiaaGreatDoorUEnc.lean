/- Plain law: runes written as a text are read back one by one. Plain law: what .. -/
import Derived.Test.YtieknenhfeejiaaGreatDoorUMa
set_option linter.unusedVariables false
set_option linter.unusedSimpArgs false
namespace Go.Proofs.YtieknenhfeejiaaGreatDoor.U
open Go
def encs (l:List Int):List UInt8:=l.flatMap fun r=>(Utf8.encode r).toList
end Go.Proofs.YtieknenhfeejiaaGreatDoor.U
namespace Go.Proofs.YtieknenhfeejiaaGreatDoor.U
open Go
/-! ### runes and bytes below 128 -/
/-! ### Quote -/
def quo (l:List Int):List UInt8:=34::(encs l).flatMap wrQ++[34]
end Go.Proofs.YtieknenhfeejiaaGreatDoor.U
namespace Go.Proofs.YtieknenhfeejiaaGreatDoor.U
open Go
theorem drop_at (s:ByteArray)(p:Nat)(h:p<s.size):s.data.toList.drop p=UInt8.ofNat (at' s p)::s.data.toList.drop (p+1):=by
 rw[at_eq s p h,u8_of];exact(List.getElem_cons_drop (h:=h)).symm
end Go.Proofs.YtieknenhfeejiaaGreatDoor.U
