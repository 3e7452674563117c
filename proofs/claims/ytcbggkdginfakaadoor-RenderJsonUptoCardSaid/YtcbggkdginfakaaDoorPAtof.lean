/- special, atof64exact, atof64, ParseFloat over a decimal lexeme that is a whole number below 2^52 (internal/strconv/atof.go); math.IsInf. -/
import Derived.Test.YtcbggkdginfakaaDoorFShow
import Derived.Test.YtcbggkdginfakaaDoorPPref
namespace Go.Proofs.YtcbggkdginfakaaDoor
open Go.RowKit
set_option linter.unusedVariables false
set_option linter.unusedSimpArgs false
theorem bool2_no (w : World) : Calls Tryd.prog 97 #[.bool false] w fun e w' => e = .returned (.int .u64 0) ∧ w = w' := by
  go_enter Tryd.func97, Tryd.ntmps97
  go_wp2
  go_ret
  exact ⟨rfl, rfl⟩
end Go.Proofs.YtcbggkdginfakaaDoor
