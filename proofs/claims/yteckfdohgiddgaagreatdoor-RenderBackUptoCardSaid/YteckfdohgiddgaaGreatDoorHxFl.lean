/- readFloat and atofHex over a hexadecimal lexeme (internal/strconv/atof.go). atofHex over a hexadecimal lexeme (internal/strconv/atof.go): the nearest float. -/
import Derived.Test.YteckfdohgiddgaaGreatDoorRfStep
import Derived.Test.YteckfdohgiddgaaGreatDoorPRd
namespace Go.Proofs.YteckfdohgiddgaaGreatDoor
open Go.RowKit
set_option linter.unusedVariables false
set_option linter.unusedSimpArgs false
namespace PF
/-- a state of the loop over the digits -/
structure HBd (q : HS) (k : Nat) : Prop where
  nm : q.nm ≤ 16
  nd : q.nd ≤ k
  dl : -(k : Int) ≤ q.dp
  du : q.dp ≤ 0
  m : q.nm < 16 → q.m < 1152921504606846976
  m2 : q.m < 18446744073709551616
theorem HInv.bd {q : HS} {N k : Nat} (I : HInv q N k) : HBd q k := by
  have A := I.arg
  refine ⟨by have := I.nm; omega, I.nd, I.dl, I.du, fun h => ?_, A.ml⟩
  have h1 := I.nm
  have h2 := I.m
  rw [show q.nd - q.nm = 0 by omega, Nat.pow_zero, Nat.div_one] at h2
  rw [h2]
  exact Nat.lt_of_lt_of_le I.hi (by rw [show (1152921504606846976 : Nat) = 16 ^ 15 by decide]; exact Nat.pow_le_pow_right (by decide) (by omega))
end PF
end Go.Proofs.YteckfdohgiddgaaGreatDoor
namespace Go.Proofs.YteckfdohgiddgaaGreatDoor
open Go.RowKit
set_option linter.unusedVariables false
set_option linter.unusedSimpArgs false
end Go.Proofs.YteckfdohgiddgaaGreatDoor
