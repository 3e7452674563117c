/- What a float's text is, by its bits: the best decimal, written out. One text at most. -/
import Derived.Test.YtcbggkdginfakaaDoorFFtoa
namespace Go.Proofs.YtcbggkdginfakaaDoor
namespace FS
set_option linter.unusedVariables false
def ex (f : Nat) : Nat := f / 4503599627370496 % 2048
def mt (f : Nat) : Nat := f % 4503599627370496
def ng (f : Nat) : Bool := decide (9223372036854775808 ≤ f)
def mOf (f : Nat) : Nat := if ex f = 0 then mt f else mt f + 4503599627370496
def eOf (f : Nat) : Int := (if ex f = 0 then 1 else (ex f : Int)) - 1075
def sOf (f : Nat) : Bool := decide (mOf f = 4503599627370496 ∧ eOf f ≠ -1074)
/-- a quarter of a unit of the last place, times 10^400 * 2^1140 -/
def uq (e0 : Int) : Nat := Z (e0 + 1138).toNat * K4
def Told (f d t : Nat) : Prop := Best (mOf f % 2 == 0) (4 * mOf f * uq (eOf f) - (if sOf f then 1 else 2) * uq (eOf f)) (4 * mOf f * uq (eOf f) + 2 * uq (eOf f)) (4 * mOf f * uq (eOf f)) d t
/-- the text of the float with the bits f -/
def Shown (f : Nat) (s : List UInt8) : Prop :=
  (ex f = 2047 ∧ s = if mt f = 0 then (if ng f then [45, 73, 110, 102] else [43, 73, 110, 102]) else [78, 97, 78]) ∨
  (ex f ≠ 2047 ∧ mOf f = 0 ∧ s = sgn (ng f) ++ [48]) ∨
  (ex f ≠ 2047 ∧ mOf f ≠ 0 ∧ ∃ d t, Told f d t ∧ d % 10 ≠ 0 ∧ s = sgn (ng f) ++ plainT (Lib.decDigits d) ((Lib.nDigits d : Int) + t - 400))
theorem Shown.ext {f : Nat} {s s' : List UInt8} (h : Shown f s) (h' : Shown f s') : s = s' := by
  rcases h with ⟨a, b⟩ | ⟨a, b, c⟩ | ⟨a, b, d, t, h1, h2, h3⟩ <;> rcases h' with ⟨a', b'⟩ | ⟨a', b', c'⟩ | ⟨a', b', d', t', h1', h2', h3'⟩
  · rw [b, b']
  · exact absurd a a'
  · exact absurd a a'
  · exact absurd a' a
  · rw [c, c']
  · exact absurd b b'
  · exact absurd a' a
  · exact absurd b' b
  · obtain ⟨rfl, rfl⟩ := h1.ext h1'
    rw [h3, h3']
theorem S_uq {e0 : Int} {z : Nat} (hz : 2 ≤ z) (h : 0 ≤ e0 - z + 1140) (k : Nat) : S (e0 - z) (k * 2 ^ (z - 2)) = k * uq e0 := by
  unfold S uq
  rw [show (2 : Nat) ^ (z - 2) = Z (z - 2) from rfl, Nat.mul_assoc, ← Nat.mul_assoc (Z (z - 2)), Z_mul, show z - 2 + (e0 - z + 1140).toNat = (e0 + 1138).toNat by omega]
theorem lo_uq {e0 : Int} {m z : Nat} {sk : Bool} (F : Flt e0 m z sk) : Va e0 m z = 4 * m * uq e0 ∧ Hi e0 m z = 4 * m * uq e0 + 2 * uq e0 ∧ Lo e0 m z sk = 4 * m * uq e0 - (if sk then 1 else 2) * uq e0 := by
  obtain ⟨t1, t2, _, _⟩ := two_z F.z1
  have hz := F.z1
  have hz2 := F.z2
  have he := F.e1
  have e1 : mid m z = 4 * m * 2 ^ (z - 2) := by
    unfold mid; rw [t1, t2, ← Nat.mul_assoc, ← Nat.mul_assoc, Nat.mul_assoc m, Nat.mul_comm m]
  have e2 : 2 ^ (z - 1) = 2 * 2 ^ (z - 2) := t2
  have e3 : half z sk = (if sk then 1 else 2) * 2 ^ (z - 2) := by
    unfold half; cases sk
    · simp [e2]
    · simp
  have u := fun k => S_uq (e0 := e0) (z := z) (by omega) (by omega) k
  refine ⟨?_, ?_, ?_⟩
  · unfold Va; rw [e1, u]
  · unfold Hi; rw [S_add, e1, u, e2, u]
  · unfold Lo; rw [S_sub, e1, u, e3, u]
end FS
end Go.Proofs.YtcbggkdginfakaaDoor
