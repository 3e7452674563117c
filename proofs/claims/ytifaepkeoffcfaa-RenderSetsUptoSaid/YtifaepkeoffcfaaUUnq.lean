/- The walk of utf.Unquote: a literal's value by one word. -/
import Derived.Test.YtifaepkeoffcfaaUUnqMath
import Derived.Test.YtifaepkeoffcfaaULit
namespace Go.Proofs.Ytifaepkeoffcfaa
open Go.RowKit
set_option linter.unusedVariables false
set_option linter.unusedSimpArgs false
def strR (r : List UInt8 × Int) : Ending := .returned (.tuple #[.string ⟨r.1.toArray⟩, .int .i64 r.2])
theorem ret_strR {a : ByteArray} {b : Int} {r : List UInt8 × Int} (h1 : a.data.toList = r.1) (h2 : b = r.2) : Ending.returned (.tuple #[.string a, .int .i64 b]) = strR r := by
  unfold strR; rw [h2, ← h1]

/-- a literal is at least two bytes long and begins with a quote -/
theorem U.lit_facts (s : ByteArray) (hl : U.literal s 0 = ((s.size : Int), 0)) : 2 ≤ s.size ∧ (U.at' s 0 = 34 ∨ U.at' s 0 = 39 ∨ U.at' s 0 = 96) := by
  by_cases h0 : s.size = 0
  · rw [U.literal_out s 0 (.inr (by omega))] at hl; have := congrArg Prod.snd hl; simp [U.litR] at this
  by_cases hq : U.at' s 0 = 34 ∨ U.at' s 0 = 39 ∨ U.at' s 0 = 96
  · have h := U.literal_in s 0 (by omega) hq
    have h' : U.literal s ((0 : Nat) : Int) = ((s.size : Int), 0) := hl
    rw [h'] at h
    cases hc : U.lit s (U.at' s 0) 1 with
    | none => rw [show (0 + 1 : Nat) = 1 from rfl, hc] at h; have := congrArg Prod.snd h; simp [U.litR] at this
    | some n =>
      rw [show (0 + 1 : Nat) = 1 from rfl, hc] at h
      have := U.lit_gt s _ _ 1 n rfl hc
      have e : (s.size : Int) = (n : Int) := congrArg Prod.fst h
      exact ⟨by omega, hq⟩
  · have h := U.literal_no s 0 (by omega) (by omega)
    have h' : U.literal s ((0 : Nat) : Int) = ((s.size : Int), 0) := hl
    rw [h'] at h; have := congrArg Prod.snd h; simp [U.litR] at this

end Go.Proofs.Ytifaepkeoffcfaa
