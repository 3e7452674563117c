/- Show of the reference (weirref02/show.go). -/
import Derived.Test.YtcbggkdginfakaaDoorFSht
import Derived.Test.YtcbggkdginfakaaDoorFPlain
import Derived.Test.YtcbggkdginfakaaDoorFDG
namespace Go.Proofs.YtcbggkdginfakaaDoor
open Go.RowKit
set_option linter.unusedVariables false
set_option linter.unusedSimpArgs false
theorem ev_eq (m : Nat) : ((m : Int) % 2 == 0) = (m % 2 == 0) := by
  rw [Bool.eq_iff_iff]; simp; omega
theorem str_app (a b : List UInt8) (c : ByteArray) (h : c = ⟨a.toArray⟩ ++ ⟨b.toArray⟩) : c = ⟨(a ++ b).toArray⟩ := by
  subst h
  apply ByteArray.ext
  simp [ByteArray.data_append]
end Go.Proofs.YtcbggkdginfakaaDoor
