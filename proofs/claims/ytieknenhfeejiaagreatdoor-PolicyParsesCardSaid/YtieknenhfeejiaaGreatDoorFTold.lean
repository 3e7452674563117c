/- The floats' bits. internal/strconv.ftoa64 at 'f', shortest: a float that is n .. -/
import Derived.Test.YtieknenhfeejiaaGreatDoorFEfg
import Derived.Laws.Externs
import Derived.BigQuiet
import Derived.Deep.RegionLaw
namespace Go.Proofs.YtieknenhfeejiaaGreatDoor
open Go.RowKit
set_option linter.unusedVariables false
set_option linter.unusedSimpArgs false
theorem mbits_run (f : Nat) (w : World) : (callFunc 180 #[.float .f64 f]).run Tryz.prog w = .ok (.value (.int .u64 f)) w := by
 rw [run_callFunc_extern Tryz.func180 (e := Extern.MathFloatBits.float64bits) (by kernel_rfl) (by kernel_rfl) (by kernel_rfl) (by rfl)]
 rfl
theorem mfrom_run (n : Nat) (w : World) : (callFunc 128 #[.int .u64 n]).run Tryz.prog w = .ok (.value (.float .f64 n)) w := by
 rw [run_callFunc_extern Tryz.func128 (e := Extern.MathFloatBits.float64frombits) (by kernel_rfl) (by kernel_rfl) (by kernel_rfl) (by rfl)]
 rfl
end Go.Proofs.YtieknenhfeejiaaGreatDoor
namespace Go.Proofs.YtieknenhfeejiaaGreatDoor
open Go.RowKit
set_option linter.unusedVariables false
set_option linter.unusedSimpArgs false
end Go.Proofs.YtieknenhfeejiaaGreatDoor
namespace Go.Proofs.YtieknenhfeejiaaGreatDoor
namespace FS
set_option linter.unusedVariables false
def ex (f : Nat) : Nat := f / 4503599627370496 % 2048
def mt (f : Nat) : Nat := f % 4503599627370496
def mOf (f : Nat) : Nat := if ex f = 0 then mt f else mt f + 4503599627370496
def eOf (f : Nat) : Int := (if ex f = 0 then 1 else (ex f : Int)) - 1075
def uq (e0 : Int) : Nat := Z (e0 + 1138).toNat * K4
end FS
end Go.Proofs.YtieknenhfeejiaaGreatDoor
