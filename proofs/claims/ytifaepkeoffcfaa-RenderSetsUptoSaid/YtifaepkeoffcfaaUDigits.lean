/- The walks of utf.digit and utf.digits. -/
import Derived.Test.YtifaepkeoffcfaaUWalkA
import Derived.Test.YtifaepkeoffcfaaUEsc
import Derived.Test.YtifaepkeoffcfaaBase4
import Derived.Test.YtifaepkeoffcfaaUWalkC
namespace Go.Proofs.Ytifaepkeoffcfaa
open Go.RowKit
set_option linter.unusedVariables false
set_option linter.unusedSimpArgs false
/-- the number of k digits at the head of l, given up where it gets great -/
def U.numQ (base k : Nat) (l : List UInt8) : Option Nat := if l.length < k then none else U.numP base (l.take k) 0
def digR : Option Nat → Int × Bool
  | some v => (v, true)
  | none => (0, false)
theorem ret_dig {a c : Int} {b d : Bool} (h1 : a = c) (h2 : b = d) : Ending.returned (.tuple #[.int .i32 a, .bool b]) = .returned (.tuple #[.int .i32 c, .bool d]) := by rw [h1, h2]

end Go.Proofs.Ytifaepkeoffcfaa
