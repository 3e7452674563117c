/- The floats' bits. internal/strconv.ftoa64 at 'f', shortest: a float that is n .. -/
import Derived.Test.YtieknenhfeejiaaGreatDoorFEfg
import Derived.Laws.Externs
import Derived.Deep.RegionLaw
set_option linter.unusedVariables false
set_option linter.unusedSimpArgs false
namespace Go.Proofs.YtieknenhfeejiaaGreatDoor
open _root_.Go.Proofs.Tryz
open Go.RowKit
theorem mbits_run (f:Nat)(w:World):(callFunc 180 #[.float .f64 f]).run prog w=.ok (.value (.int .u64 f)) w:=by
 rw[run_callFunc_extern func180 (e:=Extern.MathFloatBits.float64bits) (by kernel_rfl) (by kernel_rfl) (by kernel_rfl) (by rfl)];rfl
theorem mfrom_run (n:Nat)(w:World):(callFunc 128 #[.int .u64 n]).run prog w=.ok (.value (.float .f64 n)) w:=by
 rw[run_callFunc_extern func128 (e:=Extern.MathFloatBits.float64frombits) (by kernel_rfl) (by kernel_rfl) (by kernel_rfl) (by rfl)];rfl
end Go.Proofs.YtieknenhfeejiaaGreatDoor
namespace Go.Proofs.YtieknenhfeejiaaGreatDoor
open _root_.Go.Proofs.Tryz
namespace FS
def ex (f:Nat):Nat:=f/4503599627370496%2048
def mt (f:Nat):Nat:=f%4503599627370496
def mOf (f:Nat):Nat:=if ex f=0 then mt f else mt f+4503599627370496
def eOf (f:Nat):Int:=(if ex f=0 then 1 else(ex f:Int))-1075
end FS
end Go.Proofs.YtieknenhfeejiaaGreatDoor
