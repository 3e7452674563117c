/- internal/strconv.parseFloat64: the float nearest to d * 10^p. internal/strconv.atof64exact: where it answers, it answers the nearest float. -/
import Derived.Test.YteckfdohgiddgaaGreatDoorFShfA
import Derived.Test.YteckfdohgiddgaaGreatDoorPAtof
import Derived.Test.YteckfdohgiddgaaGreatDoorPFst
namespace Go.Proofs.YteckfdohgiddgaaGreatDoor
open Go.RowKit
set_option linter.unusedVariables false
set_option linter.unusedSimpArgs false
end Go.Proofs.YteckfdohgiddgaaGreatDoor
namespace Go.Proofs.YteckfdohgiddgaaGreatDoor
open Go.RowKit
set_option linter.unusedVariables false
set_option linter.unusedSimpArgs false
end Go.Proofs.YteckfdohgiddgaaGreatDoor
namespace Go.Proofs.YteckfdohgiddgaaGreatDoor
open Go.RowKit
set_option linter.unusedVariables false
set_option linter.unusedSimpArgs false
namespace FS
/-- the floats of the powers of ten -/
def tens : List Nat := [4607182418800017408, 4621819117588971520, 4636737291354636288, 4652007308841189376, 4666723172467343360, 4681608360884174848, 4696837146684686336, 4711630319722168320, 4726483295884279808, 4741671816366391296, 4756540486875873280, 4771362005757984768, 4786511204640096256, 4801453603149578240, 4816244402031689728, 4831355200913801216, 4846369599423283200, 4861130398305394688, 4876203697187506176, 4891288408196988160, 4906019910204099648, 4921056587992461136, 4936209963552724370]
def ten (j : Nat) : Nat := tens.getD j 0
end FS
section
end
end Go.Proofs.YteckfdohgiddgaaGreatDoor
