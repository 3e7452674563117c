/- What -0.25 is told as. Plain arithmetic. -/
import Derived.Test.YtibmgmgdbicdlaaGreatDoorFTold
import Derived.Test.YtibmgmgdbicdlaaGreatDoorFText
namespace Go.Proofs.YtibmgmgdbicdlaaGreatDoor
namespace FS
set_option linter.unusedVariables false
theorem told25 : Told 13821547256400052224 25 398 := by
  have hm : mOf 13821547256400052224 = 4503599627370496 := by decide +kernel
  have he : eOf 13821547256400052224 = -54 := by decide +kernel
  have hs : sOf 13821547256400052224 = true := by decide +kernel
  unfold Told
  rw [hm, he, hs]
  obtain ⟨V, hV⟩ : ∃ V, V = 4 * 4503599627370496 * uq (-54) := ⟨_, rfl⟩
  obtain ⟨L, hL⟩ : ∃ L, L = 4 * 4503599627370496 * uq (-54) - (if true = true then 1 else 2) * uq (-54) := ⟨_, rfl⟩
  obtain ⟨U, hU⟩ : ∃ U, U = 4 * 4503599627370496 * uq (-54) + 2 * uq (-54) := ⟨_, rfl⟩
  have hVT : 25 * T 398 = V := by rw [hV]; decide +kernel
  have h1 : 2 * T 399 < L := by rw [hL]; decide +kernel
  have h2 : U < 3 * T 399 := by rw [hU]; decide +kernel
  have h3 : L < V := by rw [hL, hV]; decide +kernel
  have h4 : V < U := by rw [hU, hV]; decide +kernel
  rw [← hL, ← hU, ← hV]
  clear hV hL hU hm he hs
  have hT := T_pos 398
  have hT2 := T_pos 399
  refine ⟨?_, fun e he => ?_, fun e he => ⟨?_, fun h => .inl ?_⟩⟩
  · rw [hVT]; exact ⟨.inl h3, .inl h4⟩
  · have he : In (4503599627370496 % 2 == 0) L U (e * T 399) := he
    have := he.le
    rcases Nat.lt_or_ge e 3 with c | c
    · have := Nat.mul_le_mul_right (T 399) (show e ≤ 2 by omega)
      omega
    · have := Nat.mul_le_mul_right (T 399) c
      omega
  · rw [hVT]; unfold dist; omega
  · rw [hVT] at h
    have h5 : e * T 398 = 25 * T 398 := by rw [hVT]; unfold dist at h; omega
    exact Nat.eq_of_mul_eq_mul_right hT h5
theorem digits25 : Lib.decDigits 25 = [50, 53] := by
  rw [Lib.decDigits, dif_neg (by decide), Lib.decDigits_one (by decide)]
  rfl
theorem shown25 : Shown 13821547256400052224 [45, 48, 46, 50, 53] := by
  refine .inr (.inr ⟨by decide +kernel, by decide +kernel, 25, 398, told25, by decide, ?_⟩)
  rw [digits25, Lib.nDigits_unique 1 25 (by decide) (by decide), show ng 13821547256400052224 = true by decide +kernel]
  rfl
end FS
end Go.Proofs.YtibmgmgdbicdlaaGreatDoor
