/- num.word, num.small, num.Read at the texts that the laws' first lines ask (num/num.go). num.Read at "2.5e1" (num/num.go). atofHex at 0x1F (internal/strconv/atof.go). readFloat at "2.5e1" and "0x1Fp0"; atofHex at 0x1F (internal/strconv/atof.go). What -0.25 is told as. Plain arithmetic. num.Read and num.Parse at the texts of the laws' first lines; weirlaw02.alive. -/
import Derived.Test.YteckfdohgiddgaaGreatDoorFShow
import Derived.Test.YteckfdohgiddgaaGreatDoorPPref
import Derived.Test.YteckfdohgiddgaaGreatDoorPAtof
import Derived.Test.YteckfdohgiddgaaGreatDoorPRf
import Derived.LaidEqlPtr
import Derived.Test.YteckfdohgiddgaaGreatDoorFDG
namespace Go.Proofs.YteckfdohgiddgaaGreatDoor
open Go.RowKit
set_option linter.unusedVariables false
set_option linter.unusedSimpArgs false
end Go.Proofs.YteckfdohgiddgaaGreatDoor
namespace Go.Proofs.YteckfdohgiddgaaGreatDoor
open Go.RowKit
set_option linter.unusedVariables false
set_option linter.unusedSimpArgs false
end Go.Proofs.YteckfdohgiddgaaGreatDoor
namespace Go.Proofs.YteckfdohgiddgaaGreatDoor
open Go.RowKit
set_option linter.unusedVariables false
set_option linter.unusedSimpArgs false
end Go.Proofs.YteckfdohgiddgaaGreatDoor
namespace Go.Proofs.YteckfdohgiddgaaGreatDoor
open Go.RowKit
set_option linter.unusedVariables false
set_option linter.unusedSimpArgs false
end Go.Proofs.YteckfdohgiddgaaGreatDoor
namespace Go.Proofs.YteckfdohgiddgaaGreatDoor
namespace FS
set_option linter.unusedVariables false
end FS
end Go.Proofs.YteckfdohgiddgaaGreatDoor
namespace Go.Proofs.YteckfdohgiddgaaGreatDoor
open Go.RowKit
set_option linter.unusedVariables false
set_option linter.unusedSimpArgs false
end Go.Proofs.YteckfdohgiddgaaGreatDoor
