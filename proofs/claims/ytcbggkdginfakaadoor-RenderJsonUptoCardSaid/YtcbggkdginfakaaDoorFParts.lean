/- parts and Bits of the reference (weirref02/ref.go). -/
import Derived.Test.YtcbggkdginfakaaDoorFShow
namespace Go.Proofs.YtcbggkdginfakaaDoor
open Go.RowKit
set_option linter.unusedVariables false
set_option linter.unusedSimpArgs false
/-- the bits, one pattern for all NaNs -/
def FS.bitsOf (f : Nat) : Nat := if FS.ex f = 2047 ∧ FS.mt f ≠ 0 then 9221120237041090561 else f
end Go.Proofs.YtcbggkdginfakaaDoor
