/-
  No cell of these rows narrows 'for every input' (looked for: loops, veiled, ifaces, maps, wideKeys, modest, calm, conditions, laid).
  DERIVED. THE GIVEN ROWS OF THIS SEAT. 8 by the template 'for every input the law returns true; each argument reads behind the call as it read before'; 0 by the template 'total and deterministic' (their statements: YtifaepkeoffcfaaTotals.lean).
  GIVEN WITH THE SEED: the statements are not yours to turn. If you find one false, say at which input.
  Laid BY PROGRAM, IN A SANDBOX (cutbox-rows.mjs): the forced cells as the released guide's own fill.sh prints them over the translation 2fc6216c02ff911f… (all of the seat's roots in one cut). By AI agents, Wed Nov 11 2026. No macro, syntax, notation, axiom, sorry.
-/
import Derived.Test.YtifaepkeoffcfaaChecked
import GoSem.Claim
import GoSem.ClaimJoined
import GoSem.ClaimMapViews
import Derived.JoinedTies
import Derived.KernelRfl
namespace Go.Proofs.Ytifaepkeoffcfaa
/- THE CELL 'sum', in the pinned program and in every row, IS THE sha256 OF THE DUMP (.gsa) THAT YtifaepkeoffcfaaProg.lean LOADS. Nothing in Lean hashes anything: it is a label: what it is worth is what the hold of that sum in a sandbox is worth. -/
noncomputable def Try.pinned : Pinned := { name := "ytifaepkeoffcfaa", sum := "2fc6216c02ff911f46fc1084d7cef374ff01dfcbe123be61731a035032c708d4", checked := Try.checked }
namespace Rows
def none {H : Type} : Left H := { results := [], args := [] }

/-- 'weirlaw16.LabelsKeeps': WHATEVER THE INPUT: true; the input reads as it did. -/
def labelsKeepsSpec : ChangeSpec := { name := "labelsKeeps", fn := fun _ => fun
  | [d] => { results := [.lit (.bool true)], args := [d] }
  | _ => none }
def labelsKeepsRow : OpenClaim := { program := "ytifaepkeoffcfaa", sum := "2fc6216c02ff911f46fc1084d7cef374ff01dfcbe123be61731a035032c708d4", func := "weir/weirlaw16.LabelsKeeps", spec := "labelsKeeps", apart := false }
def LabelsKeepsSaid : Prop := labelsKeepsRow.holds Try.pinned (OpenSpec.ofChange labelsKeepsSpec)

/-- ITS FALSE NEIGHBOUR: 'it returns false'. Refute it at one input. -/
def labelsKeepsWrong : ChangeSpec := { name := "labelsKeeps", fn := fun _ => fun
  | [d] => { results := [.lit (.bool false)], args := [d] }
  | _ => none }
def LabelsKeepsWrongFalsely : Prop := labelsKeepsRow.holds Try.pinned (OpenSpec.ofChange labelsKeepsWrong)

/-- 'weirlaw16.LabelsCompares': WHATEVER THE INPUT: true; the input reads as it did. -/
def labelsComparesSpec : ChangeSpec := { name := "labelsCompares", fn := fun _ => fun
  | [d] => { results := [.lit (.bool true)], args := [d] }
  | _ => none }
def labelsComparesRow : OpenClaim := { program := "ytifaepkeoffcfaa", sum := "2fc6216c02ff911f46fc1084d7cef374ff01dfcbe123be61731a035032c708d4", func := "weir/weirlaw16.LabelsCompares", spec := "labelsCompares", unfollowed := true, recurses := true, apart := false }
def LabelsComparesSaid : Prop := labelsComparesRow.holds Try.pinned (OpenSpec.ofChange labelsComparesSpec)

/-- ITS FALSE NEIGHBOUR: 'it returns false'. Refute it at one input. -/
def labelsComparesWrong : ChangeSpec := { name := "labelsCompares", fn := fun _ => fun
  | [d] => { results := [.lit (.bool false)], args := [d] }
  | _ => none }
def LabelsComparesWrongFalsely : Prop := labelsComparesRow.holds Try.pinned (OpenSpec.ofChange labelsComparesWrong)

/-- 'weirlaw29.RenderNames': WHATEVER THE INPUT: true; the input reads as it did. -/
def renderNamesSpec : ChangeSpec := { name := "renderNames", fn := fun _ => fun
  | [d] => { results := [.lit (.bool true)], args := [d] }
  | _ => none }
def renderNamesRow : OpenClaim := { program := "ytifaepkeoffcfaa", sum := "2fc6216c02ff911f46fc1084d7cef374ff01dfcbe123be61731a035032c708d4", func := "weir/weirlaw29.RenderNames", spec := "renderNames", unfollowed := true, recurses := true, apart := false }
def RenderNamesSaid : Prop := renderNamesRow.holds Try.pinned (OpenSpec.ofChange renderNamesSpec)

/-- ITS FALSE NEIGHBOUR: 'it returns false'. Refute it at one input. -/
def renderNamesWrong : ChangeSpec := { name := "renderNames", fn := fun _ => fun
  | [d] => { results := [.lit (.bool false)], args := [d] }
  | _ => none }
def RenderNamesWrongFalsely : Prop := renderNamesRow.holds Try.pinned (OpenSpec.ofChange renderNamesWrong)

/-- 'weirlaw29.RenderSets': WHATEVER THE INPUT: true; the input reads as it did. -/
def renderSetsSpec : ChangeSpec := { name := "renderSets", fn := fun _ => fun
  | [d] => { results := [.lit (.bool true)], args := [d] }
  | _ => none }
def renderSetsRow : OpenClaim := { program := "ytifaepkeoffcfaa", sum := "2fc6216c02ff911f46fc1084d7cef374ff01dfcbe123be61731a035032c708d4", func := "weir/weirlaw29.RenderSets", spec := "renderSets", unfollowed := true, recurses := true, apart := false }
def RenderSetsSaid : Prop := renderSetsRow.holds Try.pinned (OpenSpec.ofChange renderSetsSpec)

/-- ITS FALSE NEIGHBOUR: 'it returns false'. Refute it at one input. -/
def renderSetsWrong : ChangeSpec := { name := "renderSets", fn := fun _ => fun
  | [d] => { results := [.lit (.bool false)], args := [d] }
  | _ => none }
def RenderSetsWrongFalsely : Prop := renderSetsRow.holds Try.pinned (OpenSpec.ofChange renderSetsWrong)

/-- 'weirlaw16.LabelsVectors': WHATEVER THE INPUT: true; the input reads as it did. -/
def labelsVectorsSpec : ChangeSpec := { name := "labelsVectors", fn := fun _ => fun
  | [d] => { results := [.lit (.bool true)], args := [d] }
  | _ => none }
def labelsVectorsRow : OpenClaim := { program := "ytifaepkeoffcfaa", sum := "2fc6216c02ff911f46fc1084d7cef374ff01dfcbe123be61731a035032c708d4", func := "weir/weirlaw16.LabelsVectors", spec := "labelsVectors", unfollowed := true, recurses := true, apart := false }
def LabelsVectorsSaid : Prop := labelsVectorsRow.holds Try.pinned (OpenSpec.ofChange labelsVectorsSpec)

/-- ITS FALSE NEIGHBOUR: 'it returns false'. Refute it at one input. -/
def labelsVectorsWrong : ChangeSpec := { name := "labelsVectors", fn := fun _ => fun
  | [d] => { results := [.lit (.bool false)], args := [d] }
  | _ => none }
def LabelsVectorsWrongFalsely : Prop := labelsVectorsRow.holds Try.pinned (OpenSpec.ofChange labelsVectorsWrong)

/-- 'weirlaw16.LabelsMakes': WHATEVER THE INPUT: true; the input reads as it did. -/
def labelsMakesSpec : ChangeSpec := { name := "labelsMakes", fn := fun _ => fun
  | [d] => { results := [.lit (.bool true)], args := [d] }
  | _ => none }
def labelsMakesRow : OpenClaim := { program := "ytifaepkeoffcfaa", sum := "2fc6216c02ff911f46fc1084d7cef374ff01dfcbe123be61731a035032c708d4", func := "weir/weirlaw16.LabelsMakes", spec := "labelsMakes", unfollowed := true, recurses := true, apart := false }
def LabelsMakesSaid : Prop := labelsMakesRow.holds Try.pinned (OpenSpec.ofChange labelsMakesSpec)

/-- ITS FALSE NEIGHBOUR: 'it returns false'. Refute it at one input. -/
def labelsMakesWrong : ChangeSpec := { name := "labelsMakes", fn := fun _ => fun
  | [d] => { results := [.lit (.bool false)], args := [d] }
  | _ => none }
def LabelsMakesWrongFalsely : Prop := labelsMakesRow.holds Try.pinned (OpenSpec.ofChange labelsMakesWrong)

/-- 'weirlaw16.LabelsOrder': WHATEVER THE INPUT: true; the input reads as it did. -/
def labelsOrderSpec : ChangeSpec := { name := "labelsOrder", fn := fun _ => fun
  | [d1, d2, d3] => { results := [.lit (.bool true)], args := [d1, d2, d3] }
  | _ => none }
def labelsOrderRow : OpenClaim := { program := "ytifaepkeoffcfaa", sum := "2fc6216c02ff911f46fc1084d7cef374ff01dfcbe123be61731a035032c708d4", func := "weir/weirlaw16.LabelsOrder", spec := "labelsOrder", unfollowed := true, recurses := true, apart := false }
def LabelsOrderSaid : Prop := labelsOrderRow.holds Try.pinned (OpenSpec.ofChange labelsOrderSpec)

/-- ITS FALSE NEIGHBOUR: 'it returns false'. Refute it at one input. -/
def labelsOrderWrong : ChangeSpec := { name := "labelsOrder", fn := fun _ => fun
  | [d1, d2, d3] => { results := [.lit (.bool false)], args := [d1, d2, d3] }
  | _ => none }
def LabelsOrderWrongFalsely : Prop := labelsOrderRow.holds Try.pinned (OpenSpec.ofChange labelsOrderWrong)

/-- 'weirlaw16.LabelsCuts': WHATEVER THE INPUT: true; the input reads as it did. -/
def labelsCutsSpec : ChangeSpec := { name := "labelsCuts", fn := fun _ => fun
  | [d] => { results := [.lit (.bool true)], args := [d] }
  | _ => none }
def labelsCutsRow : OpenClaim := { program := "ytifaepkeoffcfaa", sum := "2fc6216c02ff911f46fc1084d7cef374ff01dfcbe123be61731a035032c708d4", func := "weir/weirlaw16.LabelsCuts", spec := "labelsCuts", unfollowed := true, recurses := true, apart := false }
def LabelsCutsSaid : Prop := labelsCutsRow.holds Try.pinned (OpenSpec.ofChange labelsCutsSpec)

/-- ITS FALSE NEIGHBOUR: 'it returns false'. Refute it at one input. -/
def labelsCutsWrong : ChangeSpec := { name := "labelsCuts", fn := fun _ => fun
  | [d] => { results := [.lit (.bool false)], args := [d] }
  | _ => none }
def LabelsCutsWrongFalsely : Prop := labelsCutsRow.holds Try.pinned (OpenSpec.ofChange labelsCutsWrong)

/- THE SECOND FORM. 'bulk': how many values and letters a reading holds, each counted each time it is reached (what is shared counts as often as it is met; a slice's spare places count too). A statement '..UptoSaid' is the law's where the arguments, and the package variables that the reading takes, are together of bulk at most 1048576: NARROWER than '..Said'. Prove '..Said' where nothing that the law and all that it calls make is longer than what came in: it says more and counts as full. Else prove '..UptoSaid'. A law counts once. -/
mutual
def uptoBulk {H : Type} : DataW H → Nat
  | .lit (.string bytes) => bytes.length + 1
  | .lit _ => 1
  | .nil => 1
  | .ptr d => uptoBulk d + 1
  | .slice elems spare => uptoBulkAll elems + uptoBulkAll spare + 1
  | .agg parts => uptoBulkAll parts + 1
  | .iface _ d => uptoBulk d + 1
  | .map entries => uptoBulkEntries entries + 1
  | .held _ => 1
def uptoBulkAll {H : Type} : List (DataW H) → Nat
  | [] => 0
  | d :: r => uptoBulk d + uptoBulkAll r
def uptoBulkEntries {H : Type} : List (Lit × DataW H) → Nat
  | [] => 0
  | x :: r => uptoBulkEntry x + uptoBulkEntries r
def uptoBulkEntry {H : Type} : Lit × DataW H → Nat
  | (.string bytes, d) => bytes.length + uptoBulk d + 1
  | (_, d) => uptoBulk d + 1
 end
def uptoSmall : (H : Type) → List (DataW H) → Bool := fun _ ds => decide (uptoBulkAll ds ≤ 1048576)
def OpenSpec.upto (s : _root_.Go.ChangeSpec) : _root_.Go.OpenSpec := { _root_.Go.OpenSpec.ofChange s with cond := some uptoSmall }

/-- 'weirlaw16.LabelsKeeps', WHERE WHAT IT READS IS OF BULK AT MOST 1048576: true; the input reads as it did. -/
def labelsKeepsUptoRow : OpenClaim := { program := "ytifaepkeoffcfaa", sum := "2fc6216c02ff911f46fc1084d7cef374ff01dfcbe123be61731a035032c708d4", func := "weir/weirlaw16.LabelsKeeps", spec := "labelsKeeps", apart := false, narrowed := true }
def LabelsKeepsUptoSaid : Prop := labelsKeepsUptoRow.holds Try.pinned (OpenSpec.upto labelsKeepsSpec)

/-- 'weirlaw16.LabelsCompares', WHERE WHAT IT READS IS OF BULK AT MOST 1048576: true; the input reads as it did. -/
def labelsComparesUptoRow : OpenClaim := { program := "ytifaepkeoffcfaa", sum := "2fc6216c02ff911f46fc1084d7cef374ff01dfcbe123be61731a035032c708d4", func := "weir/weirlaw16.LabelsCompares", spec := "labelsCompares", unfollowed := true, recurses := true, apart := false, narrowed := true }
def LabelsComparesUptoSaid : Prop := labelsComparesUptoRow.holds Try.pinned (OpenSpec.upto labelsComparesSpec)

/-- 'weirlaw29.RenderNames', WHERE WHAT IT READS IS OF BULK AT MOST 1048576: true; the input reads as it did. -/
def renderNamesUptoRow : OpenClaim := { program := "ytifaepkeoffcfaa", sum := "2fc6216c02ff911f46fc1084d7cef374ff01dfcbe123be61731a035032c708d4", func := "weir/weirlaw29.RenderNames", spec := "renderNames", unfollowed := true, recurses := true, apart := false, narrowed := true }
def RenderNamesUptoSaid : Prop := renderNamesUptoRow.holds Try.pinned (OpenSpec.upto renderNamesSpec)

/-- 'weirlaw29.RenderSets', WHERE WHAT IT READS IS OF BULK AT MOST 1048576: true; the input reads as it did. -/
def renderSetsUptoRow : OpenClaim := { program := "ytifaepkeoffcfaa", sum := "2fc6216c02ff911f46fc1084d7cef374ff01dfcbe123be61731a035032c708d4", func := "weir/weirlaw29.RenderSets", spec := "renderSets", unfollowed := true, recurses := true, apart := false, narrowed := true }
def RenderSetsUptoSaid : Prop := renderSetsUptoRow.holds Try.pinned (OpenSpec.upto renderSetsSpec)

/-- 'weirlaw16.LabelsVectors', WHERE WHAT IT READS IS OF BULK AT MOST 1048576: true; the input reads as it did. -/
def labelsVectorsUptoRow : OpenClaim := { program := "ytifaepkeoffcfaa", sum := "2fc6216c02ff911f46fc1084d7cef374ff01dfcbe123be61731a035032c708d4", func := "weir/weirlaw16.LabelsVectors", spec := "labelsVectors", unfollowed := true, recurses := true, apart := false, narrowed := true }
def LabelsVectorsUptoSaid : Prop := labelsVectorsUptoRow.holds Try.pinned (OpenSpec.upto labelsVectorsSpec)

/-- 'weirlaw16.LabelsMakes', WHERE WHAT IT READS IS OF BULK AT MOST 1048576: true; the input reads as it did. -/
def labelsMakesUptoRow : OpenClaim := { program := "ytifaepkeoffcfaa", sum := "2fc6216c02ff911f46fc1084d7cef374ff01dfcbe123be61731a035032c708d4", func := "weir/weirlaw16.LabelsMakes", spec := "labelsMakes", unfollowed := true, recurses := true, apart := false, narrowed := true }
def LabelsMakesUptoSaid : Prop := labelsMakesUptoRow.holds Try.pinned (OpenSpec.upto labelsMakesSpec)

/-- 'weirlaw16.LabelsOrder', WHERE WHAT IT READS IS OF BULK AT MOST 1048576: true; the input reads as it did. -/
def labelsOrderUptoRow : OpenClaim := { program := "ytifaepkeoffcfaa", sum := "2fc6216c02ff911f46fc1084d7cef374ff01dfcbe123be61731a035032c708d4", func := "weir/weirlaw16.LabelsOrder", spec := "labelsOrder", unfollowed := true, recurses := true, apart := false, narrowed := true }
def LabelsOrderUptoSaid : Prop := labelsOrderUptoRow.holds Try.pinned (OpenSpec.upto labelsOrderSpec)

/-- 'weirlaw16.LabelsCuts', WHERE WHAT IT READS IS OF BULK AT MOST 1048576: true; the input reads as it did. -/
def labelsCutsUptoRow : OpenClaim := { program := "ytifaepkeoffcfaa", sum := "2fc6216c02ff911f46fc1084d7cef374ff01dfcbe123be61731a035032c708d4", func := "weir/weirlaw16.LabelsCuts", spec := "labelsCuts", unfollowed := true, recurses := true, apart := false, narrowed := true }
def LabelsCutsUptoSaid : Prop := labelsCutsUptoRow.holds Try.pinned (OpenSpec.upto labelsCutsSpec)

end Rows
end Go.Proofs.Ytifaepkeoffcfaa
