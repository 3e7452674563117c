/-
  No cell of these rows narrows 'for every input' (looked for: loops, veiled, ifaces, maps, wideKeys, modest, calm, conditions, laid).
  DERIVED. THE GIVEN ROWS OF THIS SEAT. 11 by the template 'for every input the law returns true; each argument reads behind the call as it read before'; 0 by the template 'total and deterministic' (their statements: YthlpgnidjjclcaaTotals.lean).
  GIVEN WITH THE SEED: the statements are not yours to turn. If you find one false, say at which input.
  Laid BY PROGRAM, IN A SANDBOX (cutbox-rows.mjs): the forced cells as the released guide's own fill.sh prints them over the translation 0ee42958e3f86ed8… (all of the seat's roots in one cut). By AI agents, Wed Nov 11 2026. No macro, syntax, notation, axiom, sorry.
-/
import Derived.Test.YthlpgnidjjclcaaChecked
import GoSem.Claim
import GoSem.ClaimJoined
import GoSem.ClaimMapViews
import Derived.JoinedTies
import Derived.KernelRfl
namespace Go.Proofs.Ythlpgnidjjclcaa
/- THE CELL 'sum', in the pinned program and in every row, IS THE sha256 OF THE DUMP (.gsa) THAT YthlpgnidjjclcaaProg.lean LOADS. Nothing in Lean hashes anything: it is a label: what it is worth is what the hold of that sum in a sandbox is worth. -/
noncomputable def Try.pinned : Pinned := { name := "ythlpgnidjjclcaa", sum := "0ee42958e3f86ed82499dc0fe2738204d88c40d9b77f1bee376a5930c93d0595", checked := Try.checked }
namespace Rows
def none {H : Type} : Left H := { results := [], args := [] }

/-- 'weirlaw01.UtfAlls': WHATEVER THE INPUT: true; the input reads as it did. -/
def utfAllsSpec : ChangeSpec := { name := "utfAlls", fn := fun _ => fun
  | [d1, d2] => { results := [.lit (.bool true)], args := [d1, d2] }
  | _ => none }
def utfAllsRow : OpenClaim := { program := "ythlpgnidjjclcaa", sum := "0ee42958e3f86ed82499dc0fe2738204d88c40d9b77f1bee376a5930c93d0595", func := "weir/weirlaw01.UtfAlls", spec := "utfAlls", unfollowed := true, recurses := true, apart := false }
def UtfAllsSaid : Prop := utfAllsRow.holds Try.pinned (OpenSpec.ofChange utfAllsSpec)

/-- ITS FALSE NEIGHBOUR: 'it returns false'. Refute it at one input. -/
def utfAllsWrong : ChangeSpec := { name := "utfAlls", fn := fun _ => fun
  | [d1, d2] => { results := [.lit (.bool false)], args := [d1, d2] }
  | _ => none }
def UtfAllsWrongFalsely : Prop := utfAllsRow.holds Try.pinned (OpenSpec.ofChange utfAllsWrong)

/-- 'weirlaw01.UtfNexts': WHATEVER THE INPUT: true; the input reads as it did. -/
def utfNextsSpec : ChangeSpec := { name := "utfNexts", fn := fun _ => fun
  | [d] => { results := [.lit (.bool true)], args := [d] }
  | _ => none }
def utfNextsRow : OpenClaim := { program := "ythlpgnidjjclcaa", sum := "0ee42958e3f86ed82499dc0fe2738204d88c40d9b77f1bee376a5930c93d0595", func := "weir/weirlaw01.UtfNexts", spec := "utfNexts", apart := false }
def UtfNextsSaid : Prop := utfNextsRow.holds Try.pinned (OpenSpec.ofChange utfNextsSpec)

/-- ITS FALSE NEIGHBOUR: 'it returns false'. Refute it at one input. -/
def utfNextsWrong : ChangeSpec := { name := "utfNexts", fn := fun _ => fun
  | [d] => { results := [.lit (.bool false)], args := [d] }
  | _ => none }
def UtfNextsWrongFalsely : Prop := utfNextsRow.holds Try.pinned (OpenSpec.ofChange utfNextsWrong)

/-- 'weirlaw01.UtfRunes': WHATEVER THE INPUT: true; the input reads as it did. -/
def utfRunesSpec : ChangeSpec := { name := "utfRunes", fn := fun _ => fun
  | [d1, d2] => { results := [.lit (.bool true)], args := [d1, d2] }
  | _ => none }
def utfRunesRow : OpenClaim := { program := "ythlpgnidjjclcaa", sum := "0ee42958e3f86ed82499dc0fe2738204d88c40d9b77f1bee376a5930c93d0595", func := "weir/weirlaw01.UtfRunes", spec := "utfRunes", apart := false }
def UtfRunesSaid : Prop := utfRunesRow.holds Try.pinned (OpenSpec.ofChange utfRunesSpec)

/-- ITS FALSE NEIGHBOUR: 'it returns false'. Refute it at one input. -/
def utfRunesWrong : ChangeSpec := { name := "utfRunes", fn := fun _ => fun
  | [d1, d2] => { results := [.lit (.bool false)], args := [d1, d2] }
  | _ => none }
def UtfRunesWrongFalsely : Prop := utfRunesRow.holds Try.pinned (OpenSpec.ofChange utfRunesWrong)

/-- 'weirlaw01.UtfJoins': WHATEVER THE INPUT: true; the input reads as it did. -/
def utfJoinsSpec : ChangeSpec := { name := "utfJoins", fn := fun _ => fun
  | [d1, d2] => { results := [.lit (.bool true)], args := [d1, d2] }
  | _ => none }
def utfJoinsRow : OpenClaim := { program := "ythlpgnidjjclcaa", sum := "0ee42958e3f86ed82499dc0fe2738204d88c40d9b77f1bee376a5930c93d0595", func := "weir/weirlaw01.UtfJoins", spec := "utfJoins", apart := false }
def UtfJoinsSaid : Prop := utfJoinsRow.holds Try.pinned (OpenSpec.ofChange utfJoinsSpec)

/-- ITS FALSE NEIGHBOUR: 'it returns false'. Refute it at one input. -/
def utfJoinsWrong : ChangeSpec := { name := "utfJoins", fn := fun _ => fun
  | [d1, d2] => { results := [.lit (.bool false)], args := [d1, d2] }
  | _ => none }
def UtfJoinsWrongFalsely : Prop := utfJoinsRow.holds Try.pinned (OpenSpec.ofChange utfJoinsWrong)

/-- 'weirlaw01.UtfPlaces': WHATEVER THE INPUT: true; the input reads as it did. -/
def utfPlacesSpec : ChangeSpec := { name := "utfPlaces", fn := fun _ => fun
  | [d] => { results := [.lit (.bool true)], args := [d] }
  | _ => none }
def utfPlacesRow : OpenClaim := { program := "ythlpgnidjjclcaa", sum := "0ee42958e3f86ed82499dc0fe2738204d88c40d9b77f1bee376a5930c93d0595", func := "weir/weirlaw01.UtfPlaces", spec := "utfPlaces", apart := false }
def UtfPlacesSaid : Prop := utfPlacesRow.holds Try.pinned (OpenSpec.ofChange utfPlacesSpec)

/-- ITS FALSE NEIGHBOUR: 'it returns false'. Refute it at one input. -/
def utfPlacesWrong : ChangeSpec := { name := "utfPlaces", fn := fun _ => fun
  | [d] => { results := [.lit (.bool false)], args := [d] }
  | _ => none }
def UtfPlacesWrongFalsely : Prop := utfPlacesRow.holds Try.pinned (OpenSpec.ofChange utfPlacesWrong)

/-- 'weirlaw01.UtfBack': WHATEVER THE INPUT: true; the input reads as it did. -/
def utfBackSpec : ChangeSpec := { name := "utfBack", fn := fun _ => fun
  | [d] => { results := [.lit (.bool true)], args := [d] }
  | _ => none }
def utfBackRow : OpenClaim := { program := "ythlpgnidjjclcaa", sum := "0ee42958e3f86ed82499dc0fe2738204d88c40d9b77f1bee376a5930c93d0595", func := "weir/weirlaw01.UtfBack", spec := "utfBack", apart := false }
def UtfBackSaid : Prop := utfBackRow.holds Try.pinned (OpenSpec.ofChange utfBackSpec)

/-- ITS FALSE NEIGHBOUR: 'it returns false'. Refute it at one input. -/
def utfBackWrong : ChangeSpec := { name := "utfBack", fn := fun _ => fun
  | [d] => { results := [.lit (.bool false)], args := [d] }
  | _ => none }
def UtfBackWrongFalsely : Prop := utfBackRow.holds Try.pinned (OpenSpec.ofChange utfBackWrong)

/-- 'weirlaw01.UtfLiterals': WHATEVER THE INPUT: true; the input reads as it did. -/
def utfLiteralsSpec : ChangeSpec := { name := "utfLiterals", fn := fun _ => fun
  | [d] => { results := [.lit (.bool true)], args := [d] }
  | _ => none }
def utfLiteralsRow : OpenClaim := { program := "ythlpgnidjjclcaa", sum := "0ee42958e3f86ed82499dc0fe2738204d88c40d9b77f1bee376a5930c93d0595", func := "weir/weirlaw01.UtfLiterals", spec := "utfLiterals", apart := false }
def UtfLiteralsSaid : Prop := utfLiteralsRow.holds Try.pinned (OpenSpec.ofChange utfLiteralsSpec)

/-- ITS FALSE NEIGHBOUR: 'it returns false'. Refute it at one input. -/
def utfLiteralsWrong : ChangeSpec := { name := "utfLiterals", fn := fun _ => fun
  | [d] => { results := [.lit (.bool false)], args := [d] }
  | _ => none }
def UtfLiteralsWrongFalsely : Prop := utfLiteralsRow.holds Try.pinned (OpenSpec.ofChange utfLiteralsWrong)

/-- 'weirlaw01.UtfSpells': WHATEVER THE INPUT: true; the input reads as it did. -/
def utfSpellsSpec : ChangeSpec := { name := "utfSpells", fn := fun _ => fun
  | [d1, d2, d3] => { results := [.lit (.bool true)], args := [d1, d2, d3] }
  | _ => none }
def utfSpellsRow : OpenClaim := { program := "ythlpgnidjjclcaa", sum := "0ee42958e3f86ed82499dc0fe2738204d88c40d9b77f1bee376a5930c93d0595", func := "weir/weirlaw01.UtfSpells", spec := "utfSpells", apart := false }
def UtfSpellsSaid : Prop := utfSpellsRow.holds Try.pinned (OpenSpec.ofChange utfSpellsSpec)

/-- ITS FALSE NEIGHBOUR: 'it returns false'. Refute it at one input. -/
def utfSpellsWrong : ChangeSpec := { name := "utfSpells", fn := fun _ => fun
  | [d1, d2, d3] => { results := [.lit (.bool false)], args := [d1, d2, d3] }
  | _ => none }
def UtfSpellsWrongFalsely : Prop := utfSpellsRow.holds Try.pinned (OpenSpec.ofChange utfSpellsWrong)

/-- 'weirlaw01.UtfJsonBack': WHATEVER THE INPUT: true; the input reads as it did. -/
def utfJsonBackSpec : ChangeSpec := { name := "utfJsonBack", fn := fun _ => fun
  | [d] => { results := [.lit (.bool true)], args := [d] }
  | _ => none }
def utfJsonBackRow : OpenClaim := { program := "ythlpgnidjjclcaa", sum := "0ee42958e3f86ed82499dc0fe2738204d88c40d9b77f1bee376a5930c93d0595", func := "weir/weirlaw01.UtfJsonBack", spec := "utfJsonBack", apart := false }
def UtfJsonBackSaid : Prop := utfJsonBackRow.holds Try.pinned (OpenSpec.ofChange utfJsonBackSpec)

/-- ITS FALSE NEIGHBOUR: 'it returns false'. Refute it at one input. -/
def utfJsonBackWrong : ChangeSpec := { name := "utfJsonBack", fn := fun _ => fun
  | [d] => { results := [.lit (.bool false)], args := [d] }
  | _ => none }
def UtfJsonBackWrongFalsely : Prop := utfJsonBackRow.holds Try.pinned (OpenSpec.ofChange utfJsonBackWrong)

/-- 'weirlaw01.UtfQuoteBack': WHATEVER THE INPUT: true; the input reads as it did. -/
def utfQuoteBackSpec : ChangeSpec := { name := "utfQuoteBack", fn := fun _ => fun
  | [d1, d2, d3] => { results := [.lit (.bool true)], args := [d1, d2, d3] }
  | _ => none }
def utfQuoteBackRow : OpenClaim := { program := "ythlpgnidjjclcaa", sum := "0ee42958e3f86ed82499dc0fe2738204d88c40d9b77f1bee376a5930c93d0595", func := "weir/weirlaw01.UtfQuoteBack", spec := "utfQuoteBack", apart := false }
def UtfQuoteBackSaid : Prop := utfQuoteBackRow.holds Try.pinned (OpenSpec.ofChange utfQuoteBackSpec)

/-- ITS FALSE NEIGHBOUR: 'it returns false'. Refute it at one input. -/
def utfQuoteBackWrong : ChangeSpec := { name := "utfQuoteBack", fn := fun _ => fun
  | [d1, d2, d3] => { results := [.lit (.bool false)], args := [d1, d2, d3] }
  | _ => none }
def UtfQuoteBackWrongFalsely : Prop := utfQuoteBackRow.holds Try.pinned (OpenSpec.ofChange utfQuoteBackWrong)

/-- 'weirlaw01.UtfWrites': WHATEVER THE INPUT: true; the input reads as it did. -/
def utfWritesSpec : ChangeSpec := { name := "utfWrites", fn := fun _ => fun
  | [d] => { results := [.lit (.bool true)], args := [d] }
  | _ => none }
def utfWritesRow : OpenClaim := { program := "ythlpgnidjjclcaa", sum := "0ee42958e3f86ed82499dc0fe2738204d88c40d9b77f1bee376a5930c93d0595", func := "weir/weirlaw01.UtfWrites", spec := "utfWrites", apart := false }
def UtfWritesSaid : Prop := utfWritesRow.holds Try.pinned (OpenSpec.ofChange utfWritesSpec)

/-- ITS FALSE NEIGHBOUR: 'it returns false'. Refute it at one input. -/
def utfWritesWrong : ChangeSpec := { name := "utfWrites", fn := fun _ => fun
  | [d] => { results := [.lit (.bool false)], args := [d] }
  | _ => none }
def UtfWritesWrongFalsely : Prop := utfWritesRow.holds Try.pinned (OpenSpec.ofChange utfWritesWrong)

/- THE SECOND FORM. 'bulk': how many values and letters a reading holds, each counted each time it is reached (what is shared counts as often as it is met; a slice's spare places count too). A statement '..UptoSaid' is the law's where the arguments, and the package variables that the reading takes, are together of bulk at most 1048576: NARROWER than '..Said'. Prove '..Said' where nothing that the law and all that it calls make is longer than what came in: it says more and counts as full. Else prove '..UptoSaid'. A law counts once. -/
mutual
def uptoBulk {H : Type} : DataW H → Nat
  | .lit (.string bytes) => bytes.length + 1
  | .lit _ => 1
  | .nil => 1
  | .ptr d => uptoBulk d + 1
  | .slice elems spare => uptoBulkAll elems + uptoBulkAll spare + 1
  | .agg parts => uptoBulkAll parts + 1
  | .iface _ d => uptoBulk d + 1
  | .map entries => uptoBulkEntries entries + 1
  | .held _ => 1
def uptoBulkAll {H : Type} : List (DataW H) → Nat
  | [] => 0
  | d :: r => uptoBulk d + uptoBulkAll r
def uptoBulkEntries {H : Type} : List (Lit × DataW H) → Nat
  | [] => 0
  | x :: r => uptoBulkEntry x + uptoBulkEntries r
def uptoBulkEntry {H : Type} : Lit × DataW H → Nat
  | (.string bytes, d) => bytes.length + uptoBulk d + 1
  | (_, d) => uptoBulk d + 1
 end
def uptoSmall : (H : Type) → List (DataW H) → Bool := fun _ ds => decide (uptoBulkAll ds ≤ 1048576)
def OpenSpec.upto (s : _root_.Go.ChangeSpec) : _root_.Go.OpenSpec := { _root_.Go.OpenSpec.ofChange s with cond := some uptoSmall }

/-- 'weirlaw01.UtfAlls', WHERE WHAT IT READS IS OF BULK AT MOST 1048576: true; the input reads as it did. -/
def utfAllsUptoRow : OpenClaim := { program := "ythlpgnidjjclcaa", sum := "0ee42958e3f86ed82499dc0fe2738204d88c40d9b77f1bee376a5930c93d0595", func := "weir/weirlaw01.UtfAlls", spec := "utfAlls", unfollowed := true, recurses := true, apart := false, narrowed := true }
def UtfAllsUptoSaid : Prop := utfAllsUptoRow.holds Try.pinned (OpenSpec.upto utfAllsSpec)

/-- 'weirlaw01.UtfNexts', WHERE WHAT IT READS IS OF BULK AT MOST 1048576: true; the input reads as it did. -/
def utfNextsUptoRow : OpenClaim := { program := "ythlpgnidjjclcaa", sum := "0ee42958e3f86ed82499dc0fe2738204d88c40d9b77f1bee376a5930c93d0595", func := "weir/weirlaw01.UtfNexts", spec := "utfNexts", apart := false, narrowed := true }
def UtfNextsUptoSaid : Prop := utfNextsUptoRow.holds Try.pinned (OpenSpec.upto utfNextsSpec)

/-- 'weirlaw01.UtfRunes', WHERE WHAT IT READS IS OF BULK AT MOST 1048576: true; the input reads as it did. -/
def utfRunesUptoRow : OpenClaim := { program := "ythlpgnidjjclcaa", sum := "0ee42958e3f86ed82499dc0fe2738204d88c40d9b77f1bee376a5930c93d0595", func := "weir/weirlaw01.UtfRunes", spec := "utfRunes", apart := false, narrowed := true }
def UtfRunesUptoSaid : Prop := utfRunesUptoRow.holds Try.pinned (OpenSpec.upto utfRunesSpec)

/-- 'weirlaw01.UtfJoins', WHERE WHAT IT READS IS OF BULK AT MOST 1048576: true; the input reads as it did. -/
def utfJoinsUptoRow : OpenClaim := { program := "ythlpgnidjjclcaa", sum := "0ee42958e3f86ed82499dc0fe2738204d88c40d9b77f1bee376a5930c93d0595", func := "weir/weirlaw01.UtfJoins", spec := "utfJoins", apart := false, narrowed := true }
def UtfJoinsUptoSaid : Prop := utfJoinsUptoRow.holds Try.pinned (OpenSpec.upto utfJoinsSpec)

/-- 'weirlaw01.UtfPlaces', WHERE WHAT IT READS IS OF BULK AT MOST 1048576: true; the input reads as it did. -/
def utfPlacesUptoRow : OpenClaim := { program := "ythlpgnidjjclcaa", sum := "0ee42958e3f86ed82499dc0fe2738204d88c40d9b77f1bee376a5930c93d0595", func := "weir/weirlaw01.UtfPlaces", spec := "utfPlaces", apart := false, narrowed := true }
def UtfPlacesUptoSaid : Prop := utfPlacesUptoRow.holds Try.pinned (OpenSpec.upto utfPlacesSpec)

/-- 'weirlaw01.UtfBack', WHERE WHAT IT READS IS OF BULK AT MOST 1048576: true; the input reads as it did. -/
def utfBackUptoRow : OpenClaim := { program := "ythlpgnidjjclcaa", sum := "0ee42958e3f86ed82499dc0fe2738204d88c40d9b77f1bee376a5930c93d0595", func := "weir/weirlaw01.UtfBack", spec := "utfBack", apart := false, narrowed := true }
def UtfBackUptoSaid : Prop := utfBackUptoRow.holds Try.pinned (OpenSpec.upto utfBackSpec)

/-- 'weirlaw01.UtfLiterals', WHERE WHAT IT READS IS OF BULK AT MOST 1048576: true; the input reads as it did. -/
def utfLiteralsUptoRow : OpenClaim := { program := "ythlpgnidjjclcaa", sum := "0ee42958e3f86ed82499dc0fe2738204d88c40d9b77f1bee376a5930c93d0595", func := "weir/weirlaw01.UtfLiterals", spec := "utfLiterals", apart := false, narrowed := true }
def UtfLiteralsUptoSaid : Prop := utfLiteralsUptoRow.holds Try.pinned (OpenSpec.upto utfLiteralsSpec)

/-- 'weirlaw01.UtfSpells', WHERE WHAT IT READS IS OF BULK AT MOST 1048576: true; the input reads as it did. -/
def utfSpellsUptoRow : OpenClaim := { program := "ythlpgnidjjclcaa", sum := "0ee42958e3f86ed82499dc0fe2738204d88c40d9b77f1bee376a5930c93d0595", func := "weir/weirlaw01.UtfSpells", spec := "utfSpells", apart := false, narrowed := true }
def UtfSpellsUptoSaid : Prop := utfSpellsUptoRow.holds Try.pinned (OpenSpec.upto utfSpellsSpec)

/-- 'weirlaw01.UtfJsonBack', WHERE WHAT IT READS IS OF BULK AT MOST 1048576: true; the input reads as it did. -/
def utfJsonBackUptoRow : OpenClaim := { program := "ythlpgnidjjclcaa", sum := "0ee42958e3f86ed82499dc0fe2738204d88c40d9b77f1bee376a5930c93d0595", func := "weir/weirlaw01.UtfJsonBack", spec := "utfJsonBack", apart := false, narrowed := true }
def UtfJsonBackUptoSaid : Prop := utfJsonBackUptoRow.holds Try.pinned (OpenSpec.upto utfJsonBackSpec)

/-- 'weirlaw01.UtfQuoteBack', WHERE WHAT IT READS IS OF BULK AT MOST 1048576: true; the input reads as it did. -/
def utfQuoteBackUptoRow : OpenClaim := { program := "ythlpgnidjjclcaa", sum := "0ee42958e3f86ed82499dc0fe2738204d88c40d9b77f1bee376a5930c93d0595", func := "weir/weirlaw01.UtfQuoteBack", spec := "utfQuoteBack", apart := false, narrowed := true }
def UtfQuoteBackUptoSaid : Prop := utfQuoteBackUptoRow.holds Try.pinned (OpenSpec.upto utfQuoteBackSpec)

/-- 'weirlaw01.UtfWrites', WHERE WHAT IT READS IS OF BULK AT MOST 1048576: true; the input reads as it did. -/
def utfWritesUptoRow : OpenClaim := { program := "ythlpgnidjjclcaa", sum := "0ee42958e3f86ed82499dc0fe2738204d88c40d9b77f1bee376a5930c93d0595", func := "weir/weirlaw01.UtfWrites", spec := "utfWrites", apart := false, narrowed := true }
def UtfWritesUptoSaid : Prop := utfWritesUptoRow.holds Try.pinned (OpenSpec.upto utfWritesSpec)

end Rows
end Go.Proofs.Ythlpgnidjjclcaa
