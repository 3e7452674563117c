/- num.Bits, Same, Order, ToInt and the reference's; weirlaw02.NumPlain's walk. -/
import Derived.Test.YteckfdohgiddgaaGreatDoorPAlive
import Derived.Test.YteckfdohgiddgaaGreatDoorFSht
import Derived.Test.YteckfdohgiddgaaGreatDoorPFst
namespace Go.Proofs.YteckfdohgiddgaaGreatDoor
open Go.RowKit
set_option linter.unusedVariables false
set_option linter.unusedSimpArgs false
def FO.same (f g : Nat) : Bool := FS.bitsOf f == FS.bitsOf g
theorem natCast_beq (a b : Nat) : ((a : Int) == (b : Int)) = (a == b) := by
  rw [Bool.eq_iff_iff, beq_iff_eq, beq_iff_eq]; omega
set_option maxRecDepth 10000 in
set_option maxHeartbeats 1000000 in
theorem refsame_any (f g : Nat) (w : World) (hf : f < 18446744073709551616) (hg : g < 18446744073709551616) :
    Calls Tryz.prog 51 #[.float .f64 f, .float .f64 g] w fun e w' => e = .returned (.bool (FO.same f g)) ∧ w = w' := by
  have H1 := hd (refbits_any f w hf)
  have H2 := hd (refbits_any g w hg)
  have h3 := natCast_beq (FS.bitsOf f) (FS.bitsOf g)
  have h4 : Hd (FO.same f g = (FS.bitsOf f == FS.bitsOf g)) := hd rfl
  generalize FS.bitsOf f = x at *
  generalize FS.bitsOf g = y at *
  clear hf hg
  go_enter Tryz.func51, Tryz.ntmps51
  go_wp2_with (first | (go_at_call 87; (with_reducible refine H1.o.mono ?_); rintro e w' ⟨rfl, rfl⟩) | (go_at_call 87; (with_reducible refine H2.o.mono ?_); rintro e w' ⟨rfl, rfl⟩))
  go_ret
  exact ⟨by rw [h4.o, ← h3]; rfl, rfl⟩
def FO.place (f : Nat) : Int := if FO.isN f then -9223372036854775808 else FO.kr f
end Go.Proofs.YteckfdohgiddgaaGreatDoor
