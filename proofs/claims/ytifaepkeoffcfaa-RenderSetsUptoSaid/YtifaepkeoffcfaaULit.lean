/- The walks of utf.Literal: where a literal ends, by one word. -/
import Derived.Test.YtifaepkeoffcfaaUWalkA
import Derived.Test.YtifaepkeoffcfaaUEsc
import Derived.Test.YtifaepkeoffcfaaBase3
namespace Go.Proofs.Ytifaepkeoffcfaa
open Go.RowKit
set_option linter.unusedVariables false
set_option linter.unusedSimpArgs false
theorem ret_twoL {a b c d : Int} (h1 : a = c) (h2 : b = d) : Ending.returned (.tuple #[.int .i64 a, .int .i64 b]) = .returned (.tuple #[.int .i64 c, .int .i64 d]) := by rw [h1, h2]

end Go.Proofs.Ytifaepkeoffcfaa
