/- A block that is known whole. No function of the program in sight. -/
import Derived.Test.YtieknenhfeejiaaGreatDoorLin
import Derived.Laws.CopyOwn
set_option linter.unusedVariables false
set_option linter.unusedSimpArgs false
namespace Go.Proofs.YtieknenhfeejiaaGreatDoor
open Go.RowKit
def Bk (w:World)(g:Nat)(e:TypeId)(L:List Value):Prop:=w.heap[g]?=some (.cells L.toArray e (0,0))
section
variable {w w':World} {g:Nat} {e:TypeId} {L:List Value}
theorem Bk.lt (h:Bk w g e L):g<w.heap.size:=(Array.getElem?_eq_some_iff.1 h).1
theorem Bk.cell (h:Bk w g e L)(j:Nat)(hj:j<L.length):w.cell? ⟨g,j,none⟩=some (L[j]'hj):=by
 rw[cell_of_row w g j L.toArray e (0,0) h];simp[hj]
theorem Bk.frozen (h:Bk w g e L)(j:Nat):w.frozen? ⟨g,j,none⟩=false:=frozen_of_row w g j L.toArray e h
theorem Bk.set (h:Bk w g e L)(j:Nat)(u:Value):Bk (w.setCell ⟨g,j,none⟩ u) g e (L.set j u):=by
 have:=heap_setCell_same w g j L.toArray e u h;unfold Bk;rw[this];simp
theorem Bk.below (h:Bk w g e L)(hb:Below w.heap.size w w'):Bk w' g e L:=(hb.block g h.lt).trans h
end
end Go.Proofs.YtieknenhfeejiaaGreatDoor
