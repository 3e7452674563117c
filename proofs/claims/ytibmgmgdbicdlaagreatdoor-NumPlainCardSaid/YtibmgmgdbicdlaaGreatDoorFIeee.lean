/- The model's floats: what is rounded is the nearest float (Ieee.Format.nearest, product, quotient at double). No function of the program in sight. -/
import Derived.Test.YtibmgmgdbicdlaaGreatDoorFRnd
import Ieee.Arith
namespace Go.Proofs.YtibmgmgdbicdlaaGreatDoor
namespace FS
set_option linter.unusedVariables false
set_option linter.unusedSimpArgs false
/-- c is n / 2^drop, rounded: to the even one of two -/
structure Cut (n G c : Nat) : Prop where
  lo : c = 0 ∨ (2 * c - 1) * G < 2 * n ∨ ((2 * c - 1) * G = 2 * n ∧ c % 2 = 0)
  hi : 2 * n < (2 * c + 1) * G ∨ (2 * n = (2 * c + 1) * G ∧ c % 2 = 0)
theorem cut_div {n G : Nat} (hG : 0 < G) (b : Bool) (hb : b = (decide (G < 2 * (n % G)) || (G == 2 * (n % G) && n / G % 2 == 1))) : Cut n G (n / G + b.toNat) := by
  have hn : G * (n / G) + n % G = n := Nat.div_add_mod n G
  have hr := Nat.mod_lt n hG
  generalize n / G = q at *
  generalize n % G = r at *
  have e1 : (2 * (q + 1) - 1) * G = 2 * (G * q) + G := by rw [show 2 * (q + 1) - 1 = 2 * q + 1 by omega, Nat.add_mul, Nat.one_mul, Nat.mul_assoc, Nat.mul_comm q]
  have e2 : (2 * (q + 1) + 1) * G = 2 * (G * q) + 3 * G := by rw [show 2 * (q + 1) + 1 = 2 * q + 3 by omega, Nat.add_mul, Nat.mul_assoc, Nat.mul_comm q]
  have e3 : (2 * q + 1) * G = 2 * (G * q) + G := by rw [Nat.add_mul, Nat.one_mul, Nat.mul_assoc, Nat.mul_comm q]
  have e4 : q ≠ 0 → (2 * q - 1) * G + G = 2 * (G * q) := fun h => by
    have h1 : (2 * q - 1) * G + G = (2 * q - 1 + 1) * G := by rw [Nat.add_mul, Nat.one_mul]
    rw [h1, show 2 * q - 1 + 1 = 2 * q by omega, Nat.mul_assoc, Nat.mul_comm q]
  cases b with
  | true =>
    have hb := hb.symm
    simp only [Bool.or_eq_true, Bool.and_eq_true, decide_eq_true_eq, beq_iff_eq] at hb
    show Cut n G (q + 1)
    refine ⟨.inr ?_, .inl ?_⟩
    · rw [e1]; omega
    · rw [e2]; omega
  | false =>
    have hb := hb.symm
    simp only [Bool.or_eq_false_iff, Bool.and_eq_false_imp, decide_eq_false_iff_not, beq_iff_eq, beq_eq_false_iff_ne] at hb
    show Cut n G (q + 0)
    rw [Nat.add_zero]
    refine ⟨?_, ?_⟩
    · by_cases h0 : q = 0
      · exact .inl h0
      · have := e4 h0
        exact .inr (.inl (by omega))
    · rw [e3]
      by_cases c : G = 2 * r
      · exact .inr ⟨by omega, by have := hb.2 c; omega⟩
      · exact .inl (by omega)
theorem cut_even (neg : Bool) (n drop : Nat) : Cut n (2 ^ drop) (Ieee.Toward.even.cut neg n drop) := by
  unfold Ieee.Toward.cut
  by_cases c : drop ≤ n.log2 + 2
  · rw [Nat.min_eq_left c, Nat.one_shiftLeft]
    exact cut_div (Nat.two_pow_pos drop) _ rfl
  · rw [Nat.min_eq_right (by omega), Nat.one_shiftLeft]
    have h1 : n < 2 ^ (n.log2 + 1) := Nat.lt_log2_self
    have h2 : 2 ^ (n.log2 + 2) = 2 * 2 ^ (n.log2 + 1) := by rw [Nat.pow_succ, Nat.mul_comm]
    have h3 : 2 ^ (n.log2 + 2) < 2 ^ drop := Nat.pow_lt_pow_right (by decide) (by omega)
    have hlt : n < 2 ^ (n.log2 + 2) := by omega
    have e : (n / 2 ^ (n.log2 + 2)) = 0 := Nat.div_eq_of_lt hlt
    have e' : (n % 2 ^ (n.log2 + 2)) = n := Nat.mod_eq_of_lt hlt
    simp only [e, e']
    have b1 : decide (2 ^ (n.log2 + 2) < 2 * n) = false := decide_eq_false (by omega)
    have b2 : (2 ^ (n.log2 + 2) == 2 * n) = false := beq_eq_false_iff_ne.2 (by omega)
    rw [b1, b2]
    refine ⟨.inl rfl, .inl ?_⟩
    show 2 * n < (2 * 0 + 1) * 2 ^ drop
    omega
/-- the place of the last digit kept, and what is kept -/
structure Kept (mag a s K k : Nat) : Prop where
  hk : k ≤ 9007199254740992
  h1 : K = 0 ∨ 9007199254740992 * Z K * Z s ≤ mag * Z a * Z 1075
  h2 : mag * Z a * Z 1075 < 18014398509481984 * Z K * Z s
  lo : k = 0 ∨ (2 * k - 1) * Z K * Z s < mag * Z a * Z 1075 ∨ ((2 * k - 1) * Z K * Z s = mag * Z a * Z 1075 ∧ k % 2 = 0)
  hi : mag * Z a * Z 1075 < (2 * k + 1) * Z K * Z s ∨ (mag * Z a * Z 1075 = (2 * k + 1) * Z K * Z s ∧ k % 2 = 0)
theorem Z_mono' {a b : Nat} (h : a ≤ b) : Z a ≤ Z b := Nat.pow_le_pow_right (by decide) h
theorem nearest_kept {mag a s : Nat} {place : Int} (hm : mag ≠ 0) (hp : (a : Int) - s = place) :
    ∃ K k, Ieee.double.nearest false mag place = min (K * 4503599627370496 + k) INF ∧ Kept mag a s K k ∧ place + mag.log2 - 52 ≤ (K : Int) - 1074 := by
  unfold Ieee.Format.nearest
  rw [if_neg hm]
  have el : Ieee.double.leastPlace = -1074 := by decide
  have ef : (Ieee.double.fractionBits : Int) = 52 := by decide
  have eb : Ieee.double.binade = 4503599627370496 := by decide
  have ei : Ieee.double.infRung = INF := by decide
  simp only [el, ef, eb, ei, Ieee.Format.word, Bool.false_eq_true, if_false]
  obtain ⟨last, hl⟩ : ∃ last : Int, last = max (place + (mag.log2 : Int) - 52) (-1074) := ⟨_, rfl⟩
  rw [← hl]
  have hl1 : place + (mag.log2 : Int) - 52 ≤ last := by omega
  have hl2 : -1074 ≤ last := by omega
  have hl3 : last = -1074 ∨ last = place + (mag.log2 : Int) - 52 := by omega
  clear hl
  have hc := cut_even false (mag <<< (place - last).toNat) (last - place).toNat
  obtain ⟨k, hk⟩ : ∃ k, k = Ieee.Toward.even.cut false (mag <<< (place - last).toNat) (last - place).toNat := ⟨_, rfl⟩
  rw [← hk] at hc
  refine ⟨(last + 1074).toNat, k, by rw [← hk]; rfl, ?_, by omega⟩
  clear hk
  rw [Nat.shiftLeft_eq] at hc
  obtain ⟨K, hK⟩ : ∃ K, K = (last + 1074).toNat := ⟨_, rfl⟩
  obtain ⟨c, hcc⟩ : ∃ c, c = a + 1074 - (place - last).toNat := ⟨_, rfl⟩
  rw [← hK]
  have ex2 : 2 * (mag * 2 ^ (place - last).toNat) * Z c = mag * Z a * Z 1075 := by
    show 2 * (mag * Z (place - last).toNat) * Z c = _
    rw [Nat.mul_assoc mag, Z_mul, ← Nat.mul_assoc, Nat.mul_comm 2, Nat.mul_assoc, Nat.mul_assoc, Z_mul, ← Z_succ]
    congr 2
    omega
  have eG : 2 ^ (last - place).toNat * Z c = Z K * Z s := by
    show Z _ * Z c = _
    rw [Z_mul, Z_mul]
    congr 1
    omega
  have hcz := Z_pos c
  have scale : ∀ y : Nat, y * Z K * Z s = y * 2 ^ (last - place).toNat * Z c := fun y => by
    rw [Nat.mul_assoc, ← eG, Nat.mul_assoc]
  have hb1 : mag < 2 ^ (mag.log2 + 1) := Nat.lt_log2_self
  have hb2 : 2 ^ mag.log2 ≤ mag := Nat.log2_self_le hm
  have H2 : mag * Z a * Z 1075 < 18014398509481984 * Z K * Z s := by
    have h1 : mag * Z a * Z 1075 < Z (mag.log2 + 1) * Z a * Z 1075 :=
      Nat.mul_lt_mul_of_pos_right (Nat.mul_lt_mul_of_pos_right hb1 (Z_pos _)) (Z_pos _)
    refine Nat.lt_of_lt_of_le h1 ?_
    rw [show 18014398509481984 = Z 54 by decide, Z_mul, Z_mul, Z_mul, Z_mul]
    exact Z_mono' (by omega)
  refine ⟨?_, ?_, H2, ?_, ?_⟩
  · rcases hc.lo with h | h
    · omega
    · rw [← ex2, show 18014398509481984 * Z K * Z s = 18014398509481984 * 2 ^ (last - place).toNat * Z c from scale _] at H2
      have h3 := Nat.lt_of_mul_lt_mul_right H2
      have h4 : (2 * k - 1) * 2 ^ (last - place).toNat < 18014398509481984 * 2 ^ (last - place).toNat := by omega
      have := Nat.lt_of_mul_lt_mul_right h4
      omega
  · by_cases h0 : last = -1074
    · left; omega
    · right
      have hl3 := hl3.resolve_left h0
      have h1 : Z mag.log2 * Z a * Z 1075 ≤ mag * Z a * Z 1075 := Nat.mul_le_mul_right _ (Nat.mul_le_mul_right _ hb2)
      refine Nat.le_trans ?_ h1
      rw [show 9007199254740992 = Z 53 by decide, Z_mul, Z_mul, Z_mul, Z_mul]
      exact Z_mono' (by omega)
  · rw [scale, ← ex2]
    rcases hc.lo with h | h | ⟨h, h'⟩
    · exact .inl h
    · exact .inr (.inl (Nat.mul_lt_mul_of_pos_right h hcz))
    · exact .inr (.inr ⟨by rw [h], h'⟩)
  · rw [scale, ← ex2]
    rcases hc.hi with h | ⟨h, h'⟩
    · exact .inl (Nat.mul_lt_mul_of_pos_right h hcz)
    · exact .inr ⟨by rw [h], h'⟩
theorem nearest_rnd {mag a s : Nat} {place : Int} (hm : mag ≠ 0) (hp : (a : Int) - s = place) : Rnd (mag * Z a) (Z s) (Ieee.double.nearest false mag place) := by
  obtain ⟨K, k, e, h, _⟩ := nearest_kept hm hp
  rw [e]
  exact rnd_of (Z_pos s) h.hk h.h1 h.h2 h.lo h.hi
/-- reading a finite float that is not negative -/
theorem read_pos {b : Nat} (hb : b < INF) : Ieee.double.read b = .number false (mOf b) (eOf b) := by
  unfold Ieee.Format.read
  have e1 : Ieee.double.signWeight = 9223372036854775808 := by decide
  have e2 : Ieee.double.binade = 4503599627370496 := by decide
  have e3 : Ieee.double.infRung = INF := by decide
  have e4 : Ieee.double.leastPlace = -1074 := by decide
  unfold INF at hb
  have q1 : b / 9223372036854775808 = 0 := by omega
  have q2 : b % 9223372036854775808 = b := by omega
  simp only [e1, e2, e3, e4, q1, q2]
  unfold INF mOf eOf ex mt
  by_cases c : b < 4503599627370496
  · have h0 : b / 4503599627370496 % 2048 = 0 := by omega
    have h1 : b % 4503599627370496 = b := by omega
    rw [if_pos c, if_pos h0, if_pos h0, h1]
    rfl
  · have h0 : b / 4503599627370496 % 2048 = b / 4503599627370496 := by omega
    have h1 : ¬ b / 4503599627370496 = 0 := by omega
    rw [if_neg c, if_pos hb, h0, if_neg h1, if_neg h1, Nat.add_comm]
    congr 1
    omega
theorem eOf_ge (b : Nat) : -1074 ≤ eOf b := by unfold eOf; split <;> omega
/-- the product of two finite floats that are not negative -/
theorem mul_rnd {x y : Nat} (hx : x < INF) (hy : y < INF) (h0 : mOf x * mOf y ≠ 0) : ∃ b, Ieee.double.mul x y = some b ∧ Rnd (mOf x * mOf y * Z (eOf x + eOf y + 2148).toNat) (Z 2148) b := by
  refine ⟨Ieee.double.nearest false (mOf x * mOf y) (eOf x + eOf y), ?_, nearest_rnd h0 ?_⟩
  · unfold Ieee.Format.mul
    rw [read_pos hx, read_pos hy]
    rfl
  · have := eOf_ge x
    have := eOf_ge y
    omega
/-- a quotient with one digit more, that is 1 where anything is left -/
theorem quot_rnd {m n : Nat} {i j : Int} (hm : m ≠ 0) (hn : n ≠ 0) {a s : Nat} (hp : (a : Int) - s = i - j) :
    ∃ b, ((Ieee.Datum.number false m i).quotient 54 (.number false n j)).map Ieee.double.write = some b ∧ Rnd (m * Z a) (n * Z s) b := by
  obtain ⟨mo, hmo⟩ : ∃ mo, mo = 54 + n.log2 - m.log2 := ⟨_, rfl⟩
  obtain ⟨q, hq⟩ : ∃ q, q = m * 2 ^ mo / n := ⟨_, rfl⟩
  obtain ⟨r, hr⟩ : ∃ r, r = m * 2 ^ mo % n := ⟨_, rfl⟩
  obtain ⟨t, ht⟩ : ∃ t, t = (r != 0).toNat := ⟨_, rfl⟩
  have hn0 : 0 < n := by omega
  have hdm : n * q + r = m * 2 ^ mo := by rw [hq, hr]; exact Nat.div_add_mod _ _
  have hrn : r < n := by rw [hr]; exact Nat.mod_lt _ hn0
  have ht2 : (t = 0 ∧ r = 0) ∨ (t = 1 ∧ 0 < r) := by
    by_cases c : r = 0
    · subst c; left; exact ⟨by rw [ht]; rfl, rfl⟩
    · right; refine ⟨?_, by omega⟩
      have : (r != 0) = true := by simpa using c
      rw [ht, this]; rfl
  have hq53 : 9007199254740992 ≤ q := by
    rw [hq, Nat.le_div_iff_mul_le hn0]
    have h1 : n < 2 ^ (n.log2 + 1) := Nat.lt_log2_self
    have h2 : 2 ^ m.log2 ≤ m := Nat.log2_self_le hm
    have h3 : Z 53 * n ≤ Z 53 * Z (n.log2 + 1) := Nat.mul_le_mul_left _ (Nat.le_of_lt h1)
    have h4 : Z m.log2 * Z mo ≤ m * Z mo := Nat.mul_le_mul_right _ h2
    rw [Z_mul] at h3 h4
    have h5 : Z (53 + (n.log2 + 1)) ≤ Z (m.log2 + mo) := Z_mono' (by omega)
    rw [show 9007199254740992 = Z 53 by decide]
    exact Nat.le_trans h3 (Nat.le_trans h5 h4)
  have hmag : 2 * q + t ≠ 0 := by omega
  have hlog : 54 ≤ (2 * q + t).log2 := (Nat.le_log2 hmag).2 (by omega)
  refine ⟨Ieee.double.nearest false (2 * q + t) (i - j - mo - 1), ?_, ?_⟩
  · show Option.map Ieee.double.write (if n = 0 then if m = 0 then none else some (Ieee.Datum.infinity (false ^^ false))
        else some (Ieee.Datum.number (false ^^ false) (2 * ((m <<< (54 + n.log2 - m.log2)) / n) + ((m <<< (54 + n.log2 - m.log2)) % n != 0).toNat) (i - j - ((54 + n.log2 - m.log2 : Nat) : Int) - 1))) = _
    rw [if_neg hn, ← hmo, Nat.shiftLeft_eq, ← hq, ← hr, ← ht]
    rfl
  · obtain ⟨K, k, e, h, hK⟩ := nearest_kept (mag := 2 * q + t) (a := a) (s := s + mo + 1) (place := i - j - mo - 1) hmag (by omega)
    rw [e]
    -- what is a whole number of units lies against the quotient as against the one told
    obtain ⟨c, hc⟩ : ∃ c, c = a + 1075 := ⟨_, rfl⟩
    obtain ⟨g, hg⟩ : ∃ g, g + c = K + s + mo := ⟨K + s + mo - c, by omega⟩
    have hcz := Z_pos c
    have hmz := Z_pos mo
    have i1 : K + (s + mo + 1) = g + c + 1 := by omega
    have i2 : K + (s + mo) = g + c := by omega
    have hx : (2 * q + t) * Z a * Z 1075 = (2 * q + t) * Z c := by
      rw [Nat.mul_assoc, Z_mul a 1075, hc]
    have hy : ∀ y, y * Z K * Z (s + mo + 1) = (2 * (y * Z g)) * Z c := fun y => by
      have e1 : Z K * Z (s + mo + 1) = 2 * (Z g * Z c) := by rw [Z_mul, Z_mul, ← Z_succ, i1]
      rw [Nat.mul_assoc, e1]
      simp only [Nat.mul_assoc, Nat.mul_left_comm]
    have tx : m * Z a * Z 1075 * Z mo = (n * q + r) * Z c := by
      rw [hdm, hc, ← Z_mul a 1075]
      show _ = m * Z mo * _
      simp only [Nat.mul_assoc, Nat.mul_left_comm, Nat.mul_comm]
    have ty : ∀ y, y * Z K * (n * Z s) * Z mo = (n * (y * Z g)) * Z c := fun y => by
      have e1 : Z K * (Z s * Z mo) = Z g * Z c := by rw [Z_mul, Z_mul, Z_mul, i2]
      have e2 : y * Z K * (n * Z s) * Z mo = y * n * (Z K * (Z s * Z mo)) := by simp only [Nat.mul_assoc, Nat.mul_left_comm, Nat.mul_comm]
      rw [e2, e1]
      simp only [Nat.mul_assoc, Nat.mul_left_comm, Nat.mul_comm]
    have lt1 : ∀ Y, (n * Y < n * q + r ↔ 2 * Y < 2 * q + t) ∧ (n * Y = n * q + r ↔ 2 * Y = 2 * q + t) ∧ (n * q + r < n * Y ↔ 2 * q + t < 2 * Y) := fun Y => by
      rcases Nat.lt_trichotomy Y q with h1 | h1 | h1
      · have := Nat.mul_le_mul_left n (show Y + 1 ≤ q from h1)
        rw [Nat.mul_add, Nat.mul_one] at this
        refine ⟨⟨fun _ => by omega, fun _ => by omega⟩, ⟨fun _ => by omega, fun _ => by omega⟩, ⟨fun _ => by omega, fun _ => by omega⟩⟩
      · subst h1
        refine ⟨⟨fun _ => by omega, fun _ => by omega⟩, ⟨fun _ => by omega, fun _ => by omega⟩, ⟨fun _ => by omega, fun _ => by omega⟩⟩
      · have := Nat.mul_le_mul_left n (show q + 1 ≤ Y from h1)
        rw [Nat.mul_add, Nat.mul_one] at this
        refine ⟨⟨fun _ => by omega, fun _ => by omega⟩, ⟨fun _ => by omega, fun _ => by omega⟩, ⟨fun _ => by omega, fun _ => by omega⟩⟩
    have key : ∀ y, (y * Z K * (n * Z s) < m * Z a * Z 1075 ↔ y * Z K * Z (s + mo + 1) < (2 * q + t) * Z a * Z 1075) ∧ (y * Z K * (n * Z s) = m * Z a * Z 1075 ↔ y * Z K * Z (s + mo + 1) = (2 * q + t) * Z a * Z 1075) ∧
        (m * Z a * Z 1075 < y * Z K * (n * Z s) ↔ (2 * q + t) * Z a * Z 1075 < y * Z K * Z (s + mo + 1)) := fun y => by
      obtain ⟨l1, l2, l3⟩ := lt1 (y * Z g)
      have hc0 := Nat.pos_iff_ne_zero.1 hcz
      have hm0 := Nat.pos_iff_ne_zero.1 hmz
      rw [hx, hy]
      refine ⟨?_, ?_, ?_⟩
      · rw [← Nat.mul_lt_mul_right hmz, tx, ty, Nat.mul_lt_mul_right hcz, Nat.mul_lt_mul_right hcz, l1]
      · rw [← Nat.mul_left_inj hm0, tx, ty, Nat.mul_left_inj hc0, Nat.mul_left_inj hc0, l2]
      · rw [← Nat.mul_lt_mul_right hmz, tx, ty, Nat.mul_lt_mul_right hcz, Nat.mul_lt_mul_right hcz, l3]
    refine rnd_of (Nat.mul_pos hn0 (Z_pos s)) h.hk ?_ ?_ ?_ ?_
    · rcases h.h1 with h1 | h1
      · exact .inl h1
      · right
        rcases Nat.lt_or_ge (m * Z a * Z 1075) (9007199254740992 * Z K * (n * Z s)) with c1 | c1
        · exact absurd ((key _).2.2.1 c1) (by omega)
        · exact c1
    · exact (key _).2.2.2 h.h2
    · rcases h.lo with h1 | h1 | ⟨h1, h2⟩
      · exact .inl h1
      · exact .inr (.inl ((key _).1.2 h1))
      · exact .inr (.inr ⟨(key _).2.1.2 h1, h2⟩)
    · rcases h.hi with h1 | ⟨h1, h2⟩
      · exact .inl ((key _).2.2.2 h1)
      · exact .inr ⟨((key _).2.1.2 h1.symm).symm, h2⟩
theorem div_rnd {x y : Nat} (hx : x < INF) (hy : y < INF) (h0 : mOf x ≠ 0) (h1 : mOf y ≠ 0) {a s : Nat} (hp : (a : Int) - s = eOf x - eOf y) : ∃ b, Ieee.double.div x y = some b ∧ Rnd (mOf x * Z a) (mOf y * Z s) b := by
  unfold Ieee.Format.div
  rw [read_pos hx, read_pos hy]
  exact quot_rnd h0 h1 hp
end FS
end Go.Proofs.YtibmgmgdbicdlaaGreatDoor
