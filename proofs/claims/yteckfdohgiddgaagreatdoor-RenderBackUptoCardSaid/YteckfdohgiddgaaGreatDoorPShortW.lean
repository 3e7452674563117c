/- The decimals with one digit less next to the shortest one don't read as the float. No function of the program in sight. NumShortest: figures; the law's walk. -/
import Derived.Test.YteckfdohgiddgaaGreatDoorPBackW
import Derived.Test.YteckfdohgiddgaaGreatDoorPFig
namespace Go.Proofs.YteckfdohgiddgaaGreatDoor
set_option linter.unusedVariables false
namespace FS
end FS
end Go.Proofs.YteckfdohgiddgaaGreatDoor
namespace Go.Proofs.YteckfdohgiddgaaGreatDoor
open Go.RowKit
set_option linter.unusedVariables false
set_option linter.unusedSimpArgs false
namespace PF
open PN
end PF
namespace PF
theorem dv_app (a : List UInt8) (c : UInt8) : dv (a ++ [c]) = dv a * 10 + (c.toNat - 48) := by
  unfold dv; rw [fold_app]; rfl
theorem dv_take (l : List UInt8) (k : Nat) (h : k < l.length) : dv (l.take (k + 1)) = dv (l.take k) * 10 + ((l[k]'h).toNat - 48) := by
  rw [List.take_succ_eq_append_getElem h, dv_app]
theorem dec_last (d : Nat) (h10 : d % 10 ≠ 0) (h : Lib.decDigits d ≠ []) : ((Lib.decDigits d).getLast h).toNat ≠ 48 := by
  have hv := (dec_dig d).2
  have hD := (dec_dig d).1
  have e := List.dropLast_concat_getLast h
  have hc := hD _ (List.getLast_mem h)
  intro h48
  rw [← e, dv_app, h48] at hv
  omega
end PF
end Go.Proofs.YteckfdohgiddgaaGreatDoor
