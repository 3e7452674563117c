/- text: the digits of a number (weirref02/show.go). digits: the shortest decima .. -/
import Derived.Test.YtieknenhfeejiaaGreatDoorFBst
import Derived.Test.YtieknenhfeejiaaGreatDoorFShow
import Derived.Test.YtieknenhfeejiaaGreatDoorBase4
import Derived.Test.YtieknenhfeejiaaGreatDoorFNat
import Derived.Test.YtieknenhfeejiaaGreatDoorFTold
namespace Go.Proofs.YtieknenhfeejiaaGreatDoor
open Go.RowKit
set_option linter.unusedVariables false
set_option linter.unusedSimpArgs false
namespace FB
end FB
end Go.Proofs.YtieknenhfeejiaaGreatDoor
namespace Go.Proofs.YtieknenhfeejiaaGreatDoor
open Go.RowKit
set_option linter.unusedVariables false
set_option linter.unusedSimpArgs false
namespace FS
def sg (ev : Bool) (p : Int) : Prop := p < 0 ∨ (p = 0 ∧ ev = true)
end FS
theorem FB.Lt.up {k j N : Nat} (h : FB.Lt k N) (hj : k ≤ j) : FB.Lt j N := Nat.lt_of_lt_of_le h (Nat.pow_le_pow_right (by decide) hj)
end Go.Proofs.YtieknenhfeejiaaGreatDoor
namespace Go.Proofs.YtieknenhfeejiaaGreatDoor
namespace FS
set_option linter.unusedVariables false
def shN (m : Nat) (e : Int) : Nat := m * 4 * 2 ^ e.toNat
def shD (e : Int) : Nat := 4 * 2 ^ (-e).toNat
def smB (m : Nat) (k : Int) : Bool := decide (shN m (-1074) * 10 ^ (-k).toNat < shD (-1074) * 10 ^ k.toNat) && !decide (shN m (-1074) * 10 ^ (-(k - 1)).toNat < shD (-1074) * 10 ^ (k - 1).toNat) &&
 (!decide (T (k + 400).toNat ≤ (4 * m + 2) * uq (-1074)) || decide (19 * (shD (-1074) * 10 ^ k.toNat) < 20 * (m * 4 * (2 ^ (-1074 : Int).toNat * 10 ^ (-k).toNat))))
theorem smAll : (smB 1 (-323) && smB 2 (-323) && smB 3 (-322) && smB 4 (-322) && smB 5 (-322) && smB 6 (-322) && smB 7 (-322) && smB 8 (-322) && smB 9 (-322)) = true := by decide +kernel
theorem sm {m : Nat} (h1 : 1 ≤ m) (h9 : m < 10) : ∃ k : Int, smB m k = true ∧ (k = -323 ∨ k = -322) := by
 have h := smAll
 simp only [Bool.and_eq_true] at h
 obtain ⟨⟨⟨⟨⟨⟨⟨⟨a1, a2⟩, a3⟩, a4⟩, a5⟩, a6⟩, a7⟩, a8⟩, a9⟩ := h
 have : m = 1 ∨ m = 2 ∨ m = 3 ∨ m = 4 ∨ m = 5 ∨ m = 6 ∨ m = 7 ∨ m = 8 ∨ m = 9 := by omega
 rcases this with rfl | rfl | rfl | rfl | rfl | rfl | rfl | rfl | rfl
 ·exact ⟨_, a1, .inl rfl⟩
 ·exact ⟨_, a2, .inl rfl⟩
 ·exact ⟨_, a3, .inr rfl⟩
 ·exact ⟨_, a4, .inr rfl⟩
 ·exact ⟨_, a5, .inr rfl⟩
 ·exact ⟨_, a6, .inr rfl⟩
 ·exact ⟨_, a7, .inr rfl⟩
 ·exact ⟨_, a8, .inr rfl⟩
 ·exact ⟨_, a9, .inr rfl⟩
theorem X_mono {a b : Nat} (h : a ≤ b) : X a ≤ X b := Nat.pow_le_pow_right (by decide) h
end FS
end Go.Proofs.YtieknenhfeejiaaGreatDoor
namespace Go.Proofs.YtieknenhfeejiaaGreatDoor
namespace FS
set_option linter.unusedVariables false
set_option linter.unusedSimpArgs false
end FS
end Go.Proofs.YtieknenhfeejiaaGreatDoor
