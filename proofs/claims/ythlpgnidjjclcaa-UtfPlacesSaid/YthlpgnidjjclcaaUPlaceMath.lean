/- Plain law: what a place's line and column are, as one function for the program and the reference. -/
import Derived.Test.YthlpgnidjjclcaaUNext
namespace Go.Proofs.Ythlpgnidjjclcaa.U
open Go
/-- line, and the place behind the last line end, ahead of place k -/
def nl (s : ByteArray) : Nat → Nat × Nat
  | 0 => (1, 0)
  | k + 1 => if at' s k = 10 then ((nl s k).1 + 1, k + 1) else nl s k
theorem nl_bd (s : ByteArray) (k : Nat) : (nl s k).1 ≤ k + 1 ∧ (nl s k).2 ≤ k := by
  induction k with
  | zero => exact ⟨Nat.le_refl _, Nat.le_refl _⟩
  | succ k ih => unfold nl; split <;> (try dsimp only) <;> omega
theorem nl_hit (s : ByteArray) (k : Nat) (h : at' s k = 10) : nl s (k + 1) = ((nl s k).1 + 1, k + 1) := by rw [nl, if_pos h]
theorem nl_miss (s : ByteArray) (k : Nat) (h : at' s k ≠ 10) : nl s (k + 1) = nl s k := by rw [nl, if_neg h]
/-- the width of the rune that begins at i; 0: none -/
def w0 (s : ByteArray) (i : Nat) : Nat := if bad s i then 0 else (Utf8.decode s i).2
theorem w0_le (s : ByteArray) (i : Nat) : w0 s i ≤ 4 := by unfold w0; have := dec_pos s i; split <;> omega
/-- steps from i on to t, each counted that ends at or ahead of t -/
def col (s : ByteArray) (t i c : Nat) : Nat :=
  if _h : i < t then col s t (i + max 1 (w0 s i)) (if i + max 1 (w0 s i) ≤ t then c + 1 else c) else c
termination_by t - i
decreasing_by omega
theorem col_end (s : ByteArray) (t i c : Nat) (h : ¬ i < t) : col s t i c = c := by rw [col, dif_neg h]
theorem col_step (s : ByteArray) (t i c : Nat) (h : i < t) : col s t i c = col s t (i + max 1 (w0 s i)) (if i + max 1 (w0 s i) ≤ t then c + 1 else c) := by rw [col, dif_pos h]
def placeAt (s : ByteArray) (t : Nat) : Nat × Nat := ((nl s t).1, col s t (nl s t).2 1)
def place (s : ByteArray) (i : Int) : Nat × Nat := placeAt s (if i < 0 then 0 else if (s.size : Int) < i then s.size else i.toNat)
theorem place_lo (s : ByteArray) (i : Int) (h : i < 0) : place s i = (1, 1) := by
  unfold place; rw [if_pos h]; unfold placeAt; rw [col_end _ _ _ _ (by simp)]; rfl
theorem place_hi (s : ByteArray) (i : Int) (h : (s.size : Int) < i) : place s i = placeAt s s.size := by
  unfold place; rw [if_neg (by omega), if_pos h]
theorem place_in (s : ByteArray) (t : Nat) (h : t ≤ s.size) : place s t = placeAt s t := by
  unfold place; rw [if_neg (by omega), if_neg (by omega), Int.toNat_natCast]
end Go.Proofs.Ythlpgnidjjclcaa.U
