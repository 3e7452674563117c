/- How long a float's text is, by its bits alone. Plain arithmetic. -/
import Derived.Test.YtibmgmgdbicdlaaGreatDoorFTold
import Derived.Test.YtibmgmgdbicdlaaGreatDoorFDG
namespace Go.Proofs.YtibmgmgdbicdlaaGreatDoor
namespace FS
set_option linter.unusedVariables false
set_option linter.unusedSimpArgs false
theorem mOf_lt' (f : Nat) : mOf f < 9007199254740992 := by unfold mOf mt; split <;> omega
theorem eOf_bd (f : Nat) (hx : ex f ≠ 2047) : -1074 ≤ eOf f ∧ eOf f ≤ 971 := by
  have : ex f < 2048 := Nat.mod_lt _ (by decide)
  unfold eOf
  split <;> omega
theorem nd_low : ∀ d : Nat, 0 < d → 10 ^ (Lib.nDigits d - 1) ≤ d := by
  intro d
  induction d using Nat.strongRecOn with
  | _ d ih =>
    intro h
    by_cases c : d < 10
    · rw [Lib.nDigits_small c, Nat.sub_self, Nat.pow_zero]; exact h
    · have h1 := ih (d / 10) (by omega) (by omega)
      have hp := Lib.nDigits_pos (d / 10)
      rw [Lib.nDigits_big c]
      have e : Lib.nDigits (d / 10) + 1 - 1 = (Lib.nDigits (d / 10) - 1) + 1 := by omega
      rw [e, Nat.pow_succ]
      have := Nat.mul_le_mul_right 10 h1
      omega
theorem nd_up {d k : Nat} (h0 : 0 < d) (h : d < 10 ^ k) : Lib.nDigits d ≤ k := by
  have h1 := nd_low d h0
  have h2 : 10 ^ (Lib.nDigits d - 1) < 10 ^ k := Nat.lt_of_le_of_lt h1 h
  have := (Nat.pow_lt_pow_iff_right (show 1 < 10 by decide)).1 h2
  omega
/-- some multiple lies in an interval wider than the step -/
theorem mult_in {ev : Bool} {L U τ : Nat} (hτ : 0 < τ) (h : L + τ < U) : ∃ e, In ev L U (e * τ) := by
  refine ⟨L / τ + 1, .inl ?_, .inl ?_⟩
  · rw [Nat.add_mul, Nat.one_mul]
    have := Nat.lt_mul_div_succ L hτ
    rw [Nat.mul_add, Nat.mul_one, Nat.mul_comm] at this
    exact this
  · rw [Nat.add_mul, Nat.one_mul]
    have := Nat.div_mul_le_self L τ
    omega
theorem big7 : T 76 < 3 * uq (-1074) := by decide +kernel
theorem uq_mono {a b : Int} (h : a ≤ b) : uq a ≤ uq b := Nat.mul_le_mul_right _ (Z_mono (by omega))
theorem big8 : 36028797018963968 * uq 971 < T 709 := by decide +kernel
theorem Told.bd {f d t : Nat} (hx : ex f ≠ 2047) (hm : mOf f ≠ 0) (h : Told f d t) (h10 : d % 10 ≠ 0) : 76 ≤ t ∧ d < 1000000000000000000 ∧ Lib.nDigits d + t ≤ 709 := by
  have hml := mOf_lt' f
  obtain ⟨he1, he2⟩ := eOf_bd f hx
  unfold Told at h
  generalize hs : (if sOf f then 1 else 2) = s at h
  have hs2 : s = 1 ∨ s = 2 := by subst hs; split <;> simp
  clear hs
  generalize mOf f = m at *
  generalize eOf f = e at *
  have hu := uq_pos e
  have hmu : uq e ≤ m * uq e := Nat.le_mul_of_pos_left _ (by omega)
  have hmu2 : m * uq e ≤ 9007199254740991 * uq e := Nat.mul_le_mul_right _ (by omega)
  have e4 : 4 * m * uq e = 4 * (m * uq e) := Nat.mul_assoc _ _ _
  have hsu : s * uq e = uq e ∨ s * uq e = 2 * uq e := by rcases hs2 with rfl | rfl <;> simp
  -- the step above is wider than the interval
  have hw : 3 * uq e ≤ T (t + 1) := by
    rcases Nat.lt_or_ge (T (t + 1)) (3 * uq e) with c | c
    · obtain ⟨q, hq⟩ := mult_in (ev := (m % 2 == 0)) (L := 4 * m * uq e - s * uq e) (U := 4 * m * uq e + 2 * uq e) (T_pos (t + 1)) (by omega)
      exact absurd hq (h.c q)
    · exact c
  have hle := h.i.le.2
  have hT := T_pos t
  refine ⟨?_, ?_, ?_⟩
  · rcases Nat.lt_or_ge t 76 with c | c
    · have h1 : T (t + 1) ≤ T 76 := T_mono c
      have h2 : uq (-1074) ≤ uq e := uq_mono he1
      have := big7
      omega
    · exact c
  · rw [T_succ] at hw
    rcases Nat.lt_or_ge d 1000000000000000000 with c | c
    · exact c
    · exfalso
      have h1 := Nat.mul_le_mul_right (T t) c
      omega
  · have hd0 : 0 < d := by omega
    have h1 : uq e ≤ uq 971 := uq_mono he2
    have h2 : d * T t < T 709 := by
      have := big8
      omega
    rcases Nat.lt_or_ge 709 (Lib.nDigits d + t) with c | c
    · exfalso
      have hn := Lib.nDigits_pos d
      have h3 : 10 ^ (Lib.nDigits d - 1) ≤ d := nd_low d hd0
      have h4 : T 709 ≤ T (t + (Lib.nDigits d - 1)) := T_mono (by omega)
      rw [T_add] at h4
      have h5 := Nat.mul_le_mul_right (T t) h3
      omega
    · exact c
theorem plainT_len {D : List UInt8} {k : Int} (h1 : D.length ≤ 18) (h0 : 1 ≤ D.length) (h2 : k ≤ 309) (h3 : (D.length : Int) - k ≤ 324) : (plainT D k).length ≤ 326 ∧ 1 ≤ (plainT D k).length := by
  unfold plainT
  split
  · simp; omega
  · split
    · simp; omega
    · simp; omega
theorem Shown.len {f : Nat} {s : List UInt8} (h : Shown f s) : s.length ≤ 327 ∧ 1 ≤ s.length := by
  have hsg : ∀ b, (sgn b).length ≤ 1 := fun b => by cases b <;> simp [sgn]
  rcases h with ⟨a, b⟩ | ⟨a, b, c⟩ | ⟨a, b, d, t, h1, h2, h3⟩
  · rw [b]
    split
    · split <;> simp
    · simp
  · rw [c, List.length_append]
    have := hsg (ng f)
    simp; omega
  · rw [h3, List.length_append]
    have := hsg (ng f)
    obtain ⟨b1, b2, b3⟩ := Told.bd a b h1 h2
    have hn18 : Lib.nDigits d ≤ 18 := nd_up (by omega) (by rw [show (10 : Nat) ^ 18 = 1000000000000000000 by decide]; exact b2)
    have hn := Lib.nDigits_pos d
    have hl := Lib.decDigits_length d
    obtain ⟨q1, q2⟩ := plainT_len (D := Lib.decDigits d) (k := (Lib.nDigits d : Int) + t - 400) (by omega) (by omega) (by omega) (by omega)
    omega
end FS
end Go.Proofs.YtibmgmgdbicdlaaGreatDoor
