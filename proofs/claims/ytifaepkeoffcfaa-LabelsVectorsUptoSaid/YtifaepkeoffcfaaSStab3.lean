/- Plain law: blocks in order, merged two and two. No program in sight. -/
import Derived.Test.YtifaepkeoffcfaaSStab2
namespace Go.Proofs.Ytifaepkeoffcfaa
open Go.Sort
set_option linter.unusedVariables false
set_option linter.unusedSectionVars false
namespace St
variable {α : Type} [Inhabited α] {lt : α → α → Bool}
/-- from place a on every block of s stands in order -/
def Bk (lt : α → α → Bool) (s n a : Nat) (d : Array α) : Prop := ∀ q, SortedIn lt (a + q * s) (min (a + q * s + s) n) d
/-- up to place a every block of s stands in order -/
def Dn (lt : α → α → Bool) (s a : Nat) (d : Array α) : Prop := ∃ t, a = t * s ∧ ∀ q, q < t → SortedIn lt (q * s) (q * s + s) d
theorem dn_zero (s : Nat) (d : Array α) : Dn lt s 0 d := ⟨0, by simp, fun q h => absurd h (Nat.not_lt_zero _)⟩
theorem dn_step {s a : Nat} {d d' : Array α} (h : Dn lt s a d) (hp : PermIn a (a + s) d d') (hs : SortedIn lt a (a + s) d') : Dn lt s (a + s) d' := by
  obtain ⟨t, rfl, h⟩ := h
  refine ⟨t + 1, by rw [Nat.succ_mul], fun q hq => ?_⟩
  by_cases e : q = t
  · rw [e]; exact hs
  · have h1 := Nat.mul_le_mul_right s (show q + 1 ≤ t by omega)
    rw [Nat.succ_mul] at h1
    exact sorted_out (h q (by omega)) hp (Or.inl h1)
theorem bk_step {s n a : Nat} {d d' : Array α} (h : Bk lt s n a d) (hp : PermIn a (a + 2 * s) d d') : Bk lt s n (a + 2 * s) d' := fun q => by
  have := h (q + 2)
  rw [Nat.add_mul] at this
  rw [show a + 2 * s + q * s = a + (q * s + 2 * s) by omega]
  exact sorted_out this hp (Or.inr (by omega))
theorem bk_end {s n a : Nat} {d : Array α} (h : Dn lt s a d) (hs : SortedIn lt a n d) (ha : a ≤ n) (hn : n < a + s) : Bk lt s n 0 d := fun q => by
  obtain ⟨t, rfl, h⟩ := h
  rw [Nat.zero_add]
  by_cases h1 : q < t
  · have h2 := Nat.mul_le_mul_right s (show q + 1 ≤ t by omega)
    rw [Nat.succ_mul] at h2
    rw [Nat.min_eq_left (by omega)]
    exact h q h1
  · by_cases e : q = t
    · rw [e, Nat.min_eq_right (by omega)]; exact hs
    · have h2 := Nat.mul_le_mul_right s (show t + 1 ≤ q by omega)
      rw [Nat.succ_mul] at h2
      intro i j _ _ _
      omega
theorem bk_0 {s n a : Nat} {d : Array α} (h : Bk lt s n a d) : SortedIn lt a (min (a + s) n) d := by
  have := h 0
  simpa using this
theorem bk_1 {s n a : Nat} {d : Array α} (h : Bk lt s n a d) : SortedIn lt (a + s) (min (a + 2 * s) n) d := by
  have := h 1
  rw [Nat.one_mul, show a + s + s = a + 2 * s by omega] at this
  exact this
end St
end Go.Proofs.Ytifaepkeoffcfaa
