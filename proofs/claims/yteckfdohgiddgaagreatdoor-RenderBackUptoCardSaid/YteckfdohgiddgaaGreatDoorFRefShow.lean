/- Show of the reference (weirref02/show.go). -/
import Derived.Test.YteckfdohgiddgaaGreatDoorFSht
import Derived.Test.YteckfdohgiddgaaGreatDoorFPlain
import Derived.Test.YteckfdohgiddgaaGreatDoorFDG
namespace Go.Proofs.YteckfdohgiddgaaGreatDoor
open Go.RowKit
set_option linter.unusedVariables false
set_option linter.unusedSimpArgs false
theorem str_app (a b : List UInt8) (c : ByteArray) (h : c = ⟨a.toArray⟩ ++ ⟨b.toArray⟩) : c = ⟨(a ++ b).toArray⟩ := by
  subst h
  apply ByteArray.ext
  simp [ByteArray.data_append]
end Go.Proofs.YteckfdohgiddgaaGreatDoor
