/- Exact floats; products and quotients of them; rounding keeps order. No function of the program in sight. -/
import Derived.Test.YtibmgmgdbicdlaaGreatDoorFIeee
import Derived.Test.YtibmgmgdbicdlaaGreatDoorPFastMath
import Derived.Test.YtibmgmgdbicdlaaGreatDoorFOrd
namespace Go.Proofs.YtibmgmgdbicdlaaGreatDoor
namespace FS
set_option linter.unusedVariables false
theorem Rnd.mono {n d n' d' b b' : Nat} (hd : 0 < d) (hd' : 0 < d') (h : Rnd n d b) (k : Rnd n' d' b') (hle : n * d' ≤ n' * d) : b ≤ b' := by
  rcases Nat.lt_or_ge b' b with c | c
  · exfalso
    have hbI := h.le
    have h2 : b ≠ 0 := by omega
    have h1 : b' ≠ INF := by omega
    have hh : hf b' ≤ hf (b - 1) := hf_mono (by omega) (by omega)
    have a := h.lo.resolve_left h2
    have e := k.hi.resolve_left h1
    have q1 : hf b' * d' * d ≤ hf (b - 1) * d * d' := by
      rw [Nat.mul_right_comm]
      exact Nat.mul_le_mul_right _ (Nat.mul_le_mul_right _ hh)
    have q2 : n * Z 1075 * d' ≤ n' * Z 1075 * d := by
      rw [Nat.mul_right_comm, Nat.mul_right_comm n']
      exact Nat.mul_le_mul_right _ hle
    rcases a with a | a
    · have := Nat.mul_lt_mul_of_pos_right a hd'
      rcases e with e | e
      · have := Nat.mul_lt_mul_of_pos_right e hd; omega
      · rw [e.1] at q2; omega
    · have ha := a.1
      rw [ha] at q1
      rcases e with e | e
      · have := Nat.mul_lt_mul_of_pos_right e hd; omega
      · have he := e.1
        have q3 : hf b' * d' * d = hf (b - 1) * d * d' := by rw [ha]; rw [he] at q2; omega
        rw [Nat.mul_right_comm] at q3
        have q4 : hf b' * d = hf (b - 1) * d := Nat.eq_of_mul_eq_mul_right hd' q3
        have q5 : hf b' = hf (b - 1) := Nat.eq_of_mul_eq_mul_right hd q4
        by_cases c2 : b' < b - 1
        · have := hf_lt c2 (by omega); omega
        · omega
  · exact c
/-- between two numbers that round alike -/
theorem Rnd.between {n1 n n2 d b : Nat} (h : Rnd n1 d b) (k : Rnd n2 d b) (h1 : n1 ≤ n) (h2 : n ≤ n2) : Rnd n d b := by
  have e1 : n1 * Z 1075 ≤ n * Z 1075 := Nat.mul_le_mul_right _ h1
  have e2 : n * Z 1075 ≤ n2 * Z 1075 := Nat.mul_le_mul_right _ h2
  refine ⟨h.le, ?_, ?_⟩
  · have := h.lo; omega
  · have := k.hi; omega
/-- x is the float of the whole number m, exactly -/
structure Is (x m : Nat) : Prop where
  lt : x < INF
  e : mOf x * Z (eOf x + 1074).toNat = m * Z 1074
theorem Is.zero {x m : Nat} (h : Is x m) : mOf x = 0 ↔ m = 0 := by
  have := h.e
  constructor
  · intro c; rw [c, Nat.zero_mul] at this
    rcases Nat.mul_eq_zero.1 this.symm with q | q
    · exact q
    · have := Z_pos 1074; omega
  · rintro rfl; rw [Nat.zero_mul] at this
    rcases Nat.mul_eq_zero.1 this with q | q
    · exact q
    · have := Z_pos (eOf x + 1074).toNat; omega
theorem mOf_low {b : Nat} (h : b < 4503599627370496) : mOf b = b ∧ (eOf b + 1074).toNat = 0 := by
  unfold mOf eOf ex mt
  have e : b / 4503599627370496 % 2048 = 0 := by omega
  rw [if_pos e, if_pos e]
  constructor
  · omega
  · rfl
theorem mOf_high {K r : Nat} (hr : r < 4503599627370496) (hK : K < 2046) : mOf ((K + 1) * 4503599627370496 + r) = 4503599627370496 + r ∧ (eOf ((K + 1) * 4503599627370496 + r) + 1074).toNat = K := by
  have e0 : ((K + 1) * 4503599627370496 + r) / 4503599627370496 % 2048 = K + 1 := by omega
  have e1 : ((K + 1) * 4503599627370496 + r) % 4503599627370496 = r := by omega
  unfold mOf eOf ex mt
  rw [e0, if_neg (by omega), if_neg (by omega), e1]
  constructor
  · omega
  · omega
theorem hf_pred {b : Nat} (hb : b < INF) (h0 : b ≠ 0) : hf (b - 1) < 2 * mOf b * Z (eOf b + 1074).toNat := by
  rcases split52 b hb with c1 | ⟨K, r, rfl, hr, hK⟩
  · obtain ⟨e1, e2⟩ := mOf_low c1
    rw [hf_low (by omega), e1, e2, show Z 0 = 1 from rfl]; omega
  · obtain ⟨e1, e2⟩ := mOf_high hr hK
    rw [e1, e2]
    by_cases r0 : r = 0
    · subst r0
      rcases Nat.eq_zero_or_pos K with k0 | k0
      · subst k0
        rw [show (0 + 1) * 4503599627370496 + 0 - 1 = 4503599627370495 from rfl, hf_low (by decide), show Z 0 = 1 from rfl]; decide
      · obtain ⟨K', rfl⟩ : ∃ K', K = K' + 1 := ⟨K - 1, by omega⟩
        have e3 : (K' + 1 + 1) * 4503599627370496 + 0 - 1 = K' * 4503599627370496 + 9007199254740991 := by omega
        rw [hf_at (K := K') (k := 9007199254740991) e3 (by decide) (.inr (by decide)) (by omega), Z_succ, Nat.mul_left_comm _ 2, ← Nat.mul_assoc]
        exact Nat.mul_lt_mul_of_pos_right (by omega) (Z_pos K')
    · have e3 : (K + 1) * 4503599627370496 + r - 1 = K * 4503599627370496 + (4503599627370496 + (r - 1)) := by omega
      rw [hf_at (K := K) (k := 4503599627370496 + (r - 1)) e3 (by omega) (.inr (by omega)) hK]
      exact Nat.mul_lt_mul_of_pos_right (by omega) (Z_pos K)
theorem rnd_exact {b n d : Nat} (hb : b < INF) (hd : 0 < d) (h : mOf b * Z (eOf b + 1074).toNat * d = n * Z 1074) : Rnd n d b := by
  have e : n * Z 1075 = 2 * mOf b * Z (eOf b + 1074).toNat * d := by
    rw [Z_succ 1074, Nat.mul_left_comm, ← h, Nat.mul_assoc 2, Nat.mul_assoc 2]
  have hz := Z_pos (eOf b + 1074).toNat
  refine ⟨Nat.le_of_lt hb, ?_, .inr (.inl ?_)⟩
  · by_cases c : b = 0
    · exact .inl c
    · right; left
      rw [e]
      exact Nat.mul_lt_mul_of_pos_right (hf_pred hb c) hd
  · rw [e]
    apply Nat.mul_lt_mul_of_pos_right _ hd
    rw [show hf b = (2 * mOf b + 1) * Z (eOf b + 1074).toNat from rfl]
    exact Nat.mul_lt_mul_of_pos_right (by omega) hz
theorem Is.rnd {x m : Nat} (h : Is x m) : Rnd m 1 x := rnd_exact h.lt (by decide) (by rw [Nat.mul_one]; exact h.e)
/-- a float that m rounds to, m being a float's number, is that float -/
theorem Is.of_rnd {x b m : Nat} (h : Is x m) (k : Rnd m 1 b) : b = x := k.ext (by decide) h.rnd
theorem is_bits {l m : Nat} (hl : l ≤ 52) (m1 : 4503599627370496 ≤ m * 2 ^ (52 - l)) (m2 : m * 2 ^ (52 - l) < 9007199254740992) : Is ((1022 + l) * 4503599627370496 + m * 2 ^ (52 - l)) m := by
  obtain ⟨r, hr⟩ : ∃ r, m * 2 ^ (52 - l) = 4503599627370496 + r := ⟨m * 2 ^ (52 - l) - 4503599627370496, by omega⟩
  have e3 : (1022 + l) * 4503599627370496 + m * 2 ^ (52 - l) = (1022 + l + 1) * 4503599627370496 + r := by omega
  have hr2 : r < 4503599627370496 := by omega
  have hK : 1022 + l < 2046 := by omega
  have hI : (1022 + l + 1) * 4503599627370496 + r < INF := by unfold INF; omega
  obtain ⟨e1, e2⟩ := mOf_high (K := 1022 + l) (r := r) hr2 hK
  rw [e3]
  refine ⟨hI, ?_⟩
  rw [e1, e2, ← hr, show (2 : Nat) ^ (52 - l) = Z (52 - l) from rfl, Nat.mul_assoc, Z_mul]
  exact congrArg (fun z => m * Z z) (by omega)
/-- the float of a small whole number -/
theorem is_fl {m : Nat} (h0 : 0 < m) (h : m < 9007199254740992) : Is (floatOfInt .f64 (m : Int)) m := by
  have hn : floatOfInt .f64 (m : Int) = Ieee.double.nearest false m 0 := by
    show Ieee.double.nearest (decide ((m : Int) < 0)) (m : Int).natAbs 0 = _
    rw [decide_eq_false (by omega)]; rfl
  have R : Rnd m 1 (floatOfInt .f64 (m : Int)) := by
    rw [hn]
    have := nearest_rnd (mag := m) (a := 0) (s := 0) (place := 0) (by omega) (by decide)
    exact Rnd.of_eq (Z_pos _) (by decide) (by unfold Z; simp) this
  -- the float of m: m * 2^k with 52 bits
  obtain ⟨l, hl1, hl2⟩ : ∃ l, 2 ^ l ≤ m ∧ m < 2 ^ (l + 1) := ⟨m.log2, Nat.log2_self_le (by omega), Nat.lt_log2_self⟩
  have hl : l ≤ 52 := by
    rcases Nat.lt_or_ge 52 l with c | c
    · have : 2 ^ 53 ≤ 2 ^ l := Nat.pow_le_pow_right (by decide) c
      omega
    · exact c
  have e52 : 2 ^ l * 2 ^ (52 - l) = 4503599627370496 := by rw [← Nat.pow_add, show l + (52 - l) = 52 by omega]
  have e53 : 2 ^ (l + 1) * 2 ^ (52 - l) = 9007199254740992 := by rw [← Nat.pow_add, show l + 1 + (52 - l) = 53 by omega]
  have hp : 0 < 2 ^ (52 - l) := Nat.two_pow_pos _
  have m1 : 4503599627370496 ≤ m * 2 ^ (52 - l) := by rw [← e52]; exact Nat.mul_le_mul_right _ hl1
  have m2 : m * 2 ^ (52 - l) < 9007199254740992 := by rw [← e53]; exact Nat.mul_lt_mul_of_pos_right hl2 hp
  have I : Is ((1022 + l) * 4503599627370496 + m * 2 ^ (52 - l)) m := is_bits hl m1 m2
  rw [R.ext (by decide) I.rnd]
  exact I
/-- the product of two whole floats is the float nearest to the product -/
theorem Is.mul {x y a c : Nat} (hx : Is x a) (hy : Is y c) (ha : a ≠ 0) (hc : c ≠ 0) : ∃ b, floatBits .mul .f64 x y = some b ∧ Rnd (a * c) 1 b := by
  have h1 : mOf x ≠ 0 := fun h => ha (hx.zero.1 h)
  have h2 : mOf y ≠ 0 := fun h => hc (hy.zero.1 h)
  obtain ⟨b, hb, R⟩ := mul_rnd hx.lt hy.lt (Nat.mul_ne_zero h1 h2)
  refine ⟨b, hb, Rnd.of_eq (Z_pos _) (by decide) ?_ R⟩
  have e1 := hx.e
  have e2 := hy.e
  have g1 := eOf_ge x
  have g2 := eOf_ge y
  have e3 : Z (eOf x + eOf y + 2148).toNat = Z (eOf x + 1074).toNat * Z (eOf y + 1074).toNat := by rw [Z_mul]; congr 1; omega
  have e4 : Z 2148 = Z 1074 * Z 1074 := by rw [Z_mul]
  rw [e3, e4, Nat.mul_one]
  generalize Z (eOf x + 1074).toNat = u at *
  generalize Z (eOf y + 1074).toNat = v at *
  generalize Z 1074 = z at *
  have : mOf x * mOf y * (u * v) = (mOf x * u) * (mOf y * v) := by ac_rfl
  rw [this, e1, e2]; ac_rfl
theorem Is.div {x y a c : Nat} (hx : Is x a) (hy : Is y c) (ha : a ≠ 0) (hc : c ≠ 0) : ∃ b, floatBits .quo .f64 x y = some b ∧ Rnd a c b := by
  have h1 : mOf x ≠ 0 := fun h => ha (hx.zero.1 h)
  have h2 : mOf y ≠ 0 := fun h => hc (hy.zero.1 h)
  have g1 := eOf_ge x
  have g2 := eOf_ge y
  obtain ⟨b, hb, R⟩ := div_rnd (a := (eOf x + 1074).toNat) (s := (eOf y + 1074).toNat) hx.lt hy.lt h1 h2 (by omega)
  refine ⟨b, hb, Rnd.of_eq (Nat.mul_pos (by omega) (Z_pos _)) (by omega) ?_ R⟩
  rw [hx.e, hy.e]
  generalize Z 1074 = z at *
  ac_rfl
end FS
end Go.Proofs.YtibmgmgdbicdlaaGreatDoor
