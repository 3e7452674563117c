/- NumNames: the law's walk. -/
import Derived.Test.YtibmgmgdbicdlaaDoorPNamesM
import Derived.Test.YtibmgmgdbicdlaaDoorPNoughts
namespace Go.Proofs.YtibmgmgdbicdlaaDoor
open Go.RowKit
set_option linter.unusedVariables false
set_option maxRecDepth 100000 in
set_option maxHeartbeats 4000000 in
theorem numNames_walk (w : World) (N : Nms w) :
    Calls Tryd.prog 3 #[] w fun x w' => x = .returned (.bool true) ∧ Below w.heap.size w w' := by
  have HN1 := hd (fun W => read_nil W)
  have HN2 := hd (fun W (hb : Below w.heap.size w W) => read_1e400 W (N.below hb))
  have HN3 : Hd (∀ W, Calls Tryd.prog 6 #[.int .i64 513] W fun e w' => e = .returned (.string ⟨(List.replicate 513 (48 : UInt8)).toArray⟩) ∧ Below W.heap.size W w') := hd (fun W => noughts_any 513 W (by decide))
  have HN4 := hd (fun W => read_long ⟨(List.replicate 513 (48 : UInt8)).toArray⟩ W (by decide +kernel) (by decide +kernel))
  generalize (⟨(List.replicate 513 (48 : UInt8)).toArray⟩ : ByteArray) = T at *
  clear N
  go_enter Tryd.func3, Tryd.ntmps3
  go_wp2_with (first | (go_at_call 5; (with_reducible refine (HN1.o _).mono ?_); rintro e w' ⟨rfl, rfl⟩) | (go_at_call 5; (with_reducible refine (HN2.o _ (Below.refl _ _)).mono ?_); rintro e w1 ⟨rfl, hB⟩; have HB1 := hd hB; clear hB) | (go_at_call 6; (with_reducible refine (HN3.o _).mono ?_); rintro e w2 ⟨rfl, hB⟩; have HB2 := hd (bel HB1.o hB); clear hB) | (go_at_call 5; (with_reducible refine (HN4.o _).mono ?_); rintro e w' ⟨rfl, rfl⟩))
  go_ret
  exact ⟨rfl, HB2.o⟩
end Go.Proofs.YtibmgmgdbicdlaaDoor
