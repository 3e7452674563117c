/- weirlaw16.apart of no list at all. -/
import Derived.Test.YtifaepkeoffcfaaLApart
namespace Go.Proofs.Ytifaepkeoffcfaa
open Go.RowKit
set_option linter.unusedVariables false
set_option linter.unusedSimpArgs false
set_option maxRecDepth 100000 in
set_option maxHeartbeats 1000000 in
theorem lapart_nil (w : World) : Calls Try.prog 17 #[.slice none 0 0] w fun e w' => e = .returned (.bool true) ∧ Below w.heap.size w w' := by
  go_enter Try.func17, Try.ntmps17
  go_wp2
  go_loopw [22] (fun y wq => y = .int .i64 (0 : Nat) ∧ Hd (Below w.heap.size w wq)) (fun y _ => 0)
  case atStart => exact ⟨rfl, hd (Below.refl _ _)⟩
  case round =>
    obtain ⟨rfl, HB1⟩ := hrel
    go_wp2_with (at_make; refine wpList_mkn _ 36 23 (.slice none 0 0) 1 24 Try.underlying36 info_sll rfl _ _ rfl _ _ _ 0 rfl rfl ?b1 ?b2 (Nat.le_refl _) ?_)
    case b1 => omega
    case b2 => omega
    intro w2 ho hg
    have HB2 := hd (bel_grown HB1.o hg (fun k h => by cases h))
    clear ho hg HB1
    go_wp2
    go_loopw [44] (fun y wq => y = .int .i64 (0 : Nat) ∧ Hd (Below w.heap.size w wq)) (fun y _ => 0)
    case atStart => exact ⟨rfl, HB2⟩
    case round =>
      clear HB2
      obtain ⟨rfl, HB2⟩ := hrel
      go_wp2_with (at_make; refine wpList_mkn _ 36 23 (.slice none 0 0) 1 24 Try.underlying36 info_sll rfl _ _ rfl _ _ _ 0 rfl rfl ?b3 ?b4 (Nat.le_refl _) ?_)
      case b3 => omega
      case b4 => omega
      intro w3 ho hg
      have HB3 := hd (bel_grown HB2.o hg (fun k h => by cases h))
      clear ho hg HB2
      go_wp2
      go_loopw [68] (fun y wq => y = .int .i64 (0 : Nat) ∧ Hd (Below w.heap.size w wq)) (fun y _ => 0)
      case atStart => exact ⟨rfl, HB3⟩
      case round =>
        clear HB3
        obtain ⟨rfl, HB3⟩ := hrel
        go_wp2
        go_loopw [94] (fun y wq => y = .int .i64 (0 : Nat) ∧ Hd (Below w.heap.size w wq)) (fun y _ => 0)
        case atStart => exact ⟨rfl, HB3⟩
        case round =>
          obtain ⟨rfl, HB4⟩ := hrel
          go_wp2
          go_ret
          exact ⟨rfl, HB4.o⟩
end Go.Proofs.Ytifaepkeoffcfaa
