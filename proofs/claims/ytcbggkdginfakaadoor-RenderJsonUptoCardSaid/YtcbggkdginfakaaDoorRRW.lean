/- RenderResults: the law's walk. -/
import Derived.Test.YtcbggkdginfakaaDoorRRRef
import Derived.Test.YtcbggkdginfakaaDoorRRC
import Derived.Test.YtcbggkdginfakaaDoorRNamesW
namespace Go.Proofs.YtcbggkdginfakaaDoor
open Go.RowKit Go.ChangeShapes Go.WideShapes Go.Deep
set_option linter.unusedVariables false
set_option linter.unusedSimpArgs false
theorem RS.Res.Lo.below {w w' : World} {r : RS.Res} (h : r.Lo w) (hb : Below w.heap.size w w') : r.Lo w' := by
  refine ⟨fun i hi => ?_, fun i hi => ?_, h.nE, h.nS, h.lE, h.lS⟩
  · obtain ⟨b, off, e, hl, h1, h2⟩ := h.E i hi
    exact ⟨b, off, e, Nat.lt_of_lt_of_le hl hb.size, (hb.cell (p := ⟨b, off + i * 2, none⟩) hl).trans h1, (hb.cell (p := ⟨b, off + i * 2 + 1, none⟩) hl).trans h2⟩
  · obtain ⟨b, off, e, hl, h1, h2⟩ := h.S i hi
    exact ⟨b, off, e, Nat.lt_of_lt_of_le hl hb.size, (hb.cell (p := ⟨b, off + i * 2, none⟩) hl).trans h1, (hb.cell (p := ⟨b, off + i * 2 + 1, none⟩) hl).trans h2⟩
end Go.Proofs.YtcbggkdginfakaaDoor
