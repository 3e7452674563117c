/- The walks of weirref01.digit, number, letter. -/
import Derived.Test.YtifaepkeoffcfaaUDigits
namespace Go.Proofs.Ytifaepkeoffcfaa
open Go.RowKit
set_option linter.unusedVariables false
set_option linter.unusedSimpArgs false
def U.numR : Option Nat → Int
  | some v => v
  | none => -1
/-- the byte behind the first place (of two) that holds c -/
def U.pairL : List UInt8 → Nat → Option Nat
  | a :: b :: r, c => if a.toNat = c then some b.toNat else U.pairL r c
  | _, _ => none
theorem U.pairL_lt : ∀ (l : List UInt8) (c v : Nat), U.pairL l c = some v → v < 256
  | a :: b :: r, c, v, h => by
    rw [U.pairL] at h
    split at h
    · cases h; exact b.toNat_lt
    · exact U.pairL_lt r c v h
  | [a], c, v, h => by simp [U.pairL] at h
  | [], c, v, h => by simp [U.pairL] at h

theorem drop_cons' (t : ByteArray) (p : Nat) (h : p < t.size) : ∃ c : UInt8, c.toNat = U.at' t p ∧ t.data.toList.drop p = c :: t.data.toList.drop (p + 1) := by
  obtain ⟨h', e⟩ := list_at t p h
  exact ⟨_, e, List.drop_eq_getElem_cons h'⟩

end Go.Proofs.Ytifaepkeoffcfaa
