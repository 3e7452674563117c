/- UtfJoins: the law over two texts. -/
import Derived.Test.YthlpgnidjjclcaaUJoinYes
import Derived.Test.YthlpgnidjjclcaaUBulk
namespace Go.Proofs.Ythlpgnidjjclcaa
open Go.RowKit
theorem joins_all (W : World) {H : Type} (v0 : Value) (d0 : DataW H) (v1 : Value) (d1 : DataW H) (o0 : ∃ s, IsStr v0 d0 s) (o1 : ∃ s, IsStr v1 d1 s) (hb : Rows.uptoBulk d0 + (Rows.uptoBulk d1 + 0) ≤ 1048576) :
    Calls Try.prog 6 #[v0, v1] W fun e W' => e = .returned (.bool true) ∧ Below W.heap.size W W' := by
  obtain ⟨a, rfl, rfl, _⟩ := o0
  obtain ⟨b, rfl, rfl, _⟩ := o1
  rw [bulk_str, bulk_str, ← Lib.size_eq, ← Lib.size_eq] at hb
  cases ha : U.valid a with
  | false => exact joins_no a b W (by omega) (by omega) false (U.valid b) _ ha rfl rfl rfl
  | true =>
    cases hbb : U.valid b with
    | false => exact joins_no a b W (by omega) (by omega) true false _ ha hbb rfl rfl
    | true => exact joins_yes a b W (by omega) (by omega) ha hbb
end Go.Proofs.Ythlpgnidjjclcaa
