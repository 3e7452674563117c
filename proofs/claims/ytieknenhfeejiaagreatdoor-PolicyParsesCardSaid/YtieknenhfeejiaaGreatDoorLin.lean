/- append, and what it leaves of the row; many rows that grow each by itself. No function of the program in sight. -/
import Derived.Test.YtieknenhfeejiaaGreatDoorBase3
import Derived.Maps.AppendAt
namespace Go.Proofs.YtieknenhfeejiaaGreatDoor
open Go.RowKit
set_option linter.unusedVariables false

section
variable {P : Program}
end

def upd {α : Type} (f : Nat → α) (i : Nat) (x : α) : Nat → α := fun j => if j = i then x else f j
section
variable {w w' : World} {B : Nat} {e : TypeId} {size k : Nat} {h : Nat → Value} {c : Nat → Nat} {Z : Nat → List Value}
theorem own_kept {x : Value} {m : Nat} {xs : List Value} {row : Option Nat} (ho : w.ownsRow B e size x m xs) (hg : w.grownBy w' row) (hne : x.ownBlock = none ∨ x.ownBlock ≠ row) : w'.ownsRow B e size x m xs := ho.kept hg hne
theorem own_other {x : Value} {m : Nat} {xs : List Value} (ho : w.ownsRow B e size x m xs) {G : Nat} {cs : Array Value} {t : TypeId} (hG : w.heap[G]? = some (.cells cs t (0, 0))) (hne : e ≠ t) : x.ownBlock ≠ some G := by
 rcases ho.2 with ⟨rfl, _⟩ | ⟨g, cap, cur, rfl, _, hg, _⟩
 ·simp [Value.ownBlock]
 ·intro he
  have : g = G := by simpa [Value.ownBlock] using he
  rw [this, hG] at hg
  simp at hg
  exact hne hg.2.symm
end

theorem own_type_ne {w : World} {B B' : Nat} {e e' : TypeId} {s s' n n' : Nat} {x x' : Value} {xs xs' : List Value} (h1 : w.ownsRow B e s x n xs) (h2 : w.ownsRow B' e' s' x' n' xs') (hne : e ≠ e') : x.ownBlock = none ∨ x.ownBlock ≠ x'.ownBlock := by
 rcases h2.2 with ⟨rfl, _⟩ | ⟨g, cap, cur, rfl, _, hg, _⟩
 ·cases x.ownBlock with
  | none => exact .inl rfl
  | some g => exact .inr (by simp [Value.ownBlock])
 ·exact .inr (own_other h1 hg hne)
theorem own_shape {w : World} {B : Nat} {e : TypeId} {size n : Nat} {x : Value} {xs : List Value} (h : w.ownsRow B e size x n xs) : ∃ A c, x = .slice A n c := by
 rcases h.2 with ⟨rfl, rfl⟩ | ⟨g, cap, cur, rfl, _⟩
 ·exact ⟨none, 0, rfl⟩
 ·exact ⟨_, cap, rfl⟩
theorem row_cell {w : World} {B t k g c n : Nat} {xs : List Value} (h : w.ownsRow B t 1 (.slice (some ⟨g, 0, none⟩) k c) n xs) (hn : n = k) (i : Nat) (hi : i < xs.length) : w.cell? ⟨g, i, none⟩ = some (xs[i]'hi) := by
 subst hn
 rw [h.cellAt i (by have := h.1; omega), List.getElem?_eq_getElem hi]
theorem stored_row {w : World} {B t n g c : Nat} {xs : List Value} (h : w.ownsRow B t 1 (.slice (some ⟨g, 0, none⟩) n c) n xs) (i : Nat) (u : Value) :
  (w.setCell ⟨g, i, none⟩ u).ownsRow B t 1 (.slice (some ⟨g, 0, none⟩) n c) n (xs.set i u) ∧ w.grownBy (w.setCell ⟨g, i, none⟩ u) (some g) := h.stored i u

abbrev View := (Nat → Value) × (Nat → Nat) × (Nat → List Value)
section
variable {w0 w w' : World} {B : Nat} {e t : TypeId} {size k kv r m : Nat} {h : Nat → Value} {c : Nat → Nat} {Z : Nat → List Value} {V : List View} {H : Nat → Value} {Y : Nat → List Value}
end
end Go.Proofs.YtieknenhfeejiaaGreatDoor
