/- special, atof64exact, atof64, ParseFloat over a decimal lexeme that is a whole number below 2^52 (internal/strconv/atof.go); math.IsInf. -/
import Derived.Test.YteckfdohgiddgaaGreatDoorFShow
import Derived.Test.YteckfdohgiddgaaGreatDoorPPref
namespace Go.Proofs.YteckfdohgiddgaaGreatDoor
open Go.RowKit
set_option linter.unusedVariables false
set_option linter.unusedSimpArgs false
end Go.Proofs.YteckfdohgiddgaaGreatDoor
