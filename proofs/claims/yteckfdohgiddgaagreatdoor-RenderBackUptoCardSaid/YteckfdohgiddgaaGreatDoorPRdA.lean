/- num.Read over every decimal lexeme of at most 512 bytes. The table of shifts and the sheet for shifts to the left, as the rows list them. -/
import Derived.Test.YteckfdohgiddgaaGreatDoorPRd
import Derived.Test.YteckfdohgiddgaaGreatDoorDAtof
import Derived.Test.YteckfdohgiddgaaGreatDoorPShortW
import Derived.Test.YteckfdohgiddgaaGreatDoorPLay
namespace Go.Proofs.YteckfdohgiddgaaGreatDoor
open Go.RowKit
set_option linter.unusedVariables false
theorem PVal.mono {D E : Nat} {q : Int} {b c : Nat} (h : PVal D q b) (k : PVal E q c) (hle : D ≤ E) : b ≤ c := by
  rcases h with ⟨h1, h2⟩ | ⟨h1, h2⟩
  · omega
  · rcases k with ⟨k1, k2⟩ | ⟨k1, k2⟩
    · omega
    · refine FS.Rnd.mono (FS.X_pos _) (FS.X_pos _) h2 k2 (Nat.mul_le_mul_right _ ?_)
      unfold FS.vN
      exact Nat.mul_le_mul_right _ hle
theorem PVal.le {D : Nat} {q : Int} {b : Nat} (h : PVal D q b) : b ≤ FS.INF := by
  rcases h with ⟨_, h⟩ | ⟨_, h⟩
  · rw [h]; exact Nat.zero_le _
  · exact h.le
end Go.Proofs.YteckfdohgiddgaaGreatDoor
namespace Go.Proofs.YteckfdohgiddgaaGreatDoor
open Go.RowKit Go.ChangeShapes Go.WideShapes Go.ChangeAt Go.Deep
set_option linter.unusedVariables false
section
variable {H : Type} {enc : TypeId × Value → H} {w : World} {base : Nat}
end
end Go.Proofs.YteckfdohgiddgaaGreatDoor
