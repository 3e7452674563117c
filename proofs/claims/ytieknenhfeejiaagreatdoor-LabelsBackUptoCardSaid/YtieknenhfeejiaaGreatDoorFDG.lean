/- text: the digits of a number (weirref02/show.go). digits: the shortest decima .. -/
import Derived.Test.YtieknenhfeejiaaGreatDoorFShow
import Derived.Test.YtieknenhfeejiaaGreatDoorFNat
set_option linter.unusedVariables false
set_option linter.unusedSimpArgs false
namespace Go.Proofs.YtieknenhfeejiaaGreatDoor
open Go.RowKit
namespace FB
end FB
namespace FS
def sg (ev:Bool)(p:Int):Prop:=p<0∨(p=0∧ev=true)
end FS
theorem FB.Lt.up {k j N:Nat}(h:FB.Lt k N)(hj:k≤j):FB.Lt j N:=Nat.lt_of_lt_of_le h (Nat.pow_le_pow_right (by decide) hj)
end Go.Proofs.YtieknenhfeejiaaGreatDoor
namespace Go.Proofs.YtieknenhfeejiaaGreatDoor
namespace FS
theorem X_mono {a b:Nat}(h:a≤b):X a≤X b:=Nat.pow_le_pow_right (by decide) h
end FS
namespace FS
end FS
end Go.Proofs.YtieknenhfeejiaaGreatDoor
