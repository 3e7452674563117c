/- Rounding to the nearest float, the even one of two, in plain numbers: one float at most. No function of the program in sight. The model's floats: what is rounded is the nearest float (Ieee.Format.nearest, product, quotient at double). No function of the program in sight. The library's quick way from a decimal to a float, in plain numbers: it finds the nearest float. No function of the program in sight. How floats stand to each other, by their bits; the whole part of a float. No function of the program in sight. Exact floats; products and quotients of them; rounding keeps order. No function of the program in sight. -/
import Derived.Test.YteckfdohgiddgaaGreatDoorFShow
import Ieee.Arith
import Derived.Test.YteckfdohgiddgaaGreatDoorBase
import Derived.Laws.FloatArith
namespace Go.Proofs.YteckfdohgiddgaaGreatDoor
namespace FS
set_option linter.unusedVariables false
/-- the rung of infinity -/
def INF : Nat := 9218868437227405312
/-- half way between the float b and the next one, in units of 2^-1075 -/
def hf (b : Nat) : Nat := (2 * mOf b + 1) * Z (eOf b + 1074).toNat
/-- b is the float nearest to n / d -/
structure Rnd (n d b : Nat) : Prop where
  le : b ≤ INF
  lo : b = 0 ∨ hf (b - 1) * d < n * Z 1075 ∨ (hf (b - 1) * d = n * Z 1075 ∧ b % 2 = 0)
  hi : b = INF ∨ n * Z 1075 < hf b * d ∨ (n * Z 1075 = hf b * d ∧ b % 2 = 0)
theorem Z_succ (k : Nat) : Z (k + 1) = 2 * Z k := by unfold Z; rw [Nat.pow_succ, Nat.mul_comm]
theorem hf_at {K k b : Nat} (hb : b = K * 4503599627370496 + k) (hk : k < 9007199254740992) (h : K = 0 ∨ 4503599627370496 ≤ k) (hK : K < 2046) : hf b = (2 * k + 1) * Z K := by
  have key : mOf b = k ∧ (eOf b + 1074).toNat = K := by
    unfold mOf eOf ex mt
    by_cases c : k < 4503599627370496
    · have : K = 0 := by omega
      subst this
      have e1 : b / 4503599627370496 % 2048 = 0 := by omega
      rw [if_pos e1, if_pos e1]
      constructor
      · omega
      · omega
    · have e1 : b / 4503599627370496 % 2048 = K + 1 := by omega
      rw [e1, if_neg (by omega), if_neg (by omega)]
      constructor
      · omega
      · omega
  unfold hf
  rw [key.1, key.2]
theorem hf_low {r : Nat} (h : r < 4503599627370496) : hf r = 2 * r + 1 := by
  rw [hf_at (K := 0) (k := r) (by omega) (by omega) (.inl rfl) (by decide)]
  unfold Z; omega
theorem hf_high {K r : Nat} (h : r < 4503599627370496) (hK : K < 2046) : hf ((K + 1) * 4503599627370496 + r) = (9007199254740993 + 2 * r) * Z K := by
  rw [hf_at (K := K) (k := 4503599627370496 + r) (by omega) (by omega) (.inr (by omega)) hK]
  congr 1; omega
theorem split52 (b : Nat) (hb : b < INF) : (b < 4503599627370496) ∨ ∃ K r, b = (K + 1) * 4503599627370496 + r ∧ r < 4503599627370496 ∧ K < 2046 := by
  unfold INF at hb
  by_cases c : b < 4503599627370496
  · exact .inl c
  · exact .inr ⟨b / 4503599627370496 - 1, b % 4503599627370496, by omega, Nat.mod_lt _ (by decide), by omega⟩
theorem hf_succ {b : Nat} (hb : b + 1 < INF) : hf b < hf (b + 1) := by
  rcases split52 b (by omega) with c | ⟨K, r, rfl, hr, hK⟩
  · by_cases c2 : b + 1 < 4503599627370496
    · rw [hf_low c, hf_low c2]; omega
    · have e : b + 1 = (0 + 1) * 4503599627370496 + 0 := by omega
      rw [hf_low c, e, hf_high (by decide) (by decide)]
      unfold Z; omega
  · have hz := Z_pos K
    by_cases c2 : r + 1 < 4503599627370496
    · rw [hf_high hr hK, Nat.add_assoc, hf_high c2 hK]
      exact Nat.mul_lt_mul_of_pos_right (by omega) hz
    · have e : (K + 1) * 4503599627370496 + r + 1 = (K + 1 + 1) * 4503599627370496 + 0 := by omega
      have hK2 : K + 1 < 2046 := by unfold INF at hb; omega
      rw [hf_high hr hK, e, hf_high (by decide) hK2, Z_succ, ← Nat.mul_assoc]
      exact Nat.mul_lt_mul_of_pos_right (by omega) hz
theorem hf_mono : ∀ {b c : Nat}, b ≤ c → c < INF → hf b ≤ hf c := by
  intro b c h
  induction h with
  | refl => intro _; exact Nat.le_refl _
  | step h ih => intro hc; exact Nat.le_trans (ih (by omega)) (Nat.le_of_lt (hf_succ hc))
theorem hf_lt {b c : Nat} (h : b < c) (hc : c < INF) : hf b < hf c := by
  rcases Nat.lt_or_ge (b + 1) c with q | q
  · exact Nat.lt_of_lt_of_le (hf_succ (by omega)) (hf_mono (Nat.le_of_lt q) hc)
  · have : c = b + 1 := by omega
    subst this
    exact hf_succ hc
theorem Rnd.not_lt {n d b c : Nat} (hd : 0 < d) (h : Rnd n d b) (k : Rnd n d c) : ¬ b < c := fun hbc => by
  have hcI := k.le
  have h1 : b ≠ INF := by omega
  have h2 : c ≠ 0 := by omega
  have hh : hf b ≤ hf (c - 1) := hf_mono (by omega) (by omega)
  have hm : hf b * d ≤ hf (c - 1) * d := Nat.mul_le_mul_right _ hh
  have a := h.hi.resolve_left h1
  have e := k.lo.resolve_left h2
  have heq : hf b * d = hf (c - 1) * d := by omega
  have hev : b % 2 = 0 ∧ c % 2 = 0 := by omega
  rcases Nat.lt_or_ge b (c - 1) with q | q
  · have := Nat.mul_lt_mul_of_pos_right (hf_lt q (by omega)) hd
    omega
  · omega
theorem Rnd.ext {n d b c : Nat} (hd : 0 < d) (h : Rnd n d b) (k : Rnd n d c) : b = c := by
  have := h.not_lt hd k
  have := k.not_lt hd h
  omega
/-- the same number in other words -/
theorem Rnd.of_eq {n d n' d' b : Nat} (hd : 0 < d) (hd' : 0 < d') (e : n * d' = n' * d) (h : Rnd n d b) : Rnd n' d' b := by
  have key : ∀ x, (x * d < n * Z 1075 ↔ x * d' < n' * Z 1075) ∧ (x * d = n * Z 1075 ↔ x * d' = n' * Z 1075) ∧ (n * Z 1075 < x * d ↔ n' * Z 1075 < x * d') := fun x => by
    have a : ∀ y, y * d * d' = y * d' * d := fun y => Nat.mul_right_comm _ _ _
    have e2 : n * Z 1075 * d' = n' * Z 1075 * d := by rw [Nat.mul_right_comm, e, Nat.mul_right_comm]
    refine ⟨?_, ?_, ?_⟩
    · rw [← Nat.mul_lt_mul_right hd', a, e2, Nat.mul_lt_mul_right hd]
    · rw [← Nat.mul_left_inj (Nat.pos_iff_ne_zero.1 hd'), a, e2, Nat.mul_left_inj (Nat.pos_iff_ne_zero.1 hd)]
    · rw [← Nat.mul_lt_mul_right hd', a, e2, Nat.mul_lt_mul_right hd]
  refine ⟨h.le, ?_, ?_⟩
  · rw [← (key _).1, ← (key _).2.1]; exact h.lo
  · rw [← (key _).2.2, eq_comm (a := n' * Z 1075), ← (key _).2.1, eq_comm (b := n * Z 1075)]; exact h.hi
/-- found by rounding to units of 2^(K - 1074), at the right scale -/
theorem rnd_of {n d K k : Nat} (hd : 0 < d) (hk : k ≤ 9007199254740992) (h1 : K = 0 ∨ 9007199254740992 * Z K * d ≤ n * Z 1075) (h2 : n * Z 1075 < 18014398509481984 * Z K * d)
    (lo : k = 0 ∨ (2 * k - 1) * Z K * d < n * Z 1075 ∨ ((2 * k - 1) * Z K * d = n * Z 1075 ∧ k % 2 = 0)) (hi : n * Z 1075 < (2 * k + 1) * Z K * d ∨ (n * Z 1075 = (2 * k + 1) * Z K * d ∧ k % 2 = 0)) :
    Rnd n d (min (K * 4503599627370496 + k) INF) := by
  have hz := Z_pos K
  generalize hx : n * Z 1075 = x at *
  have cancel : ∀ a c : Nat, a * Z K * d < c * Z K * d → a < c := fun a c h => Nat.lt_of_mul_lt_mul_right (Nat.lt_of_mul_lt_mul_right h)
  have up : ∀ a c : Nat, a ≤ c → a * Z K * d ≤ c * Z K * d := fun a c h => Nat.mul_le_mul_right _ (Nat.mul_le_mul_right _ h)
  -- the place of k
  have hk52 : K = 0 ∨ 4503599627370496 ≤ k := by
    rcases h1 with h | h
    · exact .inl h
    · right
      rcases Nat.lt_or_ge k 4503599627370496 with c | c
      · exfalso
        have := up (2 * k + 1) 9007199254740991 (by omega)
        have h9 : 9007199254740991 * Z K * d < 9007199254740992 * Z K * d := Nat.mul_lt_mul_of_pos_right (Nat.mul_lt_mul_of_pos_right (by decide) hz) hd
        omega
      · exact c
  by_cases hI : K * 4503599627370496 + k < INF
  · rw [Nat.min_eq_left (by omega)]
    have hK : K < 2046 := by unfold INF at hI; omega
    refine ⟨by omega, ?_, .inr ?_⟩
    · rw [hx]
      by_cases k0 : k = 0
      · have : K = 0 := by omega
        left; omega
      · right
        have lo := lo.resolve_left k0
        by_cases c : K = 0 ∨ 4503599627370496 < k
        · rw [hf_at (K := K) (k := k - 1) (by omega) (by omega) (by omega) hK, show 2 * (k - 1) + 1 = 2 * k - 1 by omega]
          have : (K * 4503599627370496 + k) % 2 = k % 2 := by omega
          rw [this]; exact lo
        · have hk2 : k = 4503599627370496 := by omega
          obtain ⟨K', rfl⟩ : ∃ K', K = K' + 1 := ⟨K - 1, by omega⟩
          have h1 := h1.resolve_left (by omega)
          rw [hf_at (K := K') (k := 9007199254740991) (by omega) (by decide) (by omega) (by omega)]
          left
          refine Nat.lt_of_lt_of_le ?_ h1
          apply Nat.mul_lt_mul_of_pos_right _ hd
          rw [Z_succ, ← Nat.mul_assoc]
          exact Nat.mul_lt_mul_of_pos_right (by decide) (Z_pos _)
    · rw [hx]
      by_cases c : k < 9007199254740992
      · rw [hf_at (K := K) (k := k) rfl c hk52 hK]
        have : (K * 4503599627370496 + k) % 2 = k % 2 := by omega
        rw [this]; exact hi
      · have hk2 : k = 9007199254740992 := by omega
        left
        have hK2 : K + 1 < 2046 := by unfold INF at hI; omega
        rw [hf_at (K := K + 1) (k := 4503599627370496) (by omega) (by decide) (by omega) hK2]
        refine Nat.lt_trans h2 ?_
        apply Nat.mul_lt_mul_of_pos_right _ hd
        rw [Z_succ, ← Nat.mul_assoc]
        exact Nat.mul_lt_mul_of_pos_right (by decide) hz
  · rw [Nat.min_eq_right (by omega)]
    refine ⟨Nat.le_refl _, .inr ?_, .inl rfl⟩
    rw [hx]
    obtain ⟨q, hq⟩ : ∃ q : Nat, q = 2045 := ⟨_, rfl⟩
    have eI : hf (INF - 1) = 18014398509481983 * Z q := by
      rw [hf_at (K := q) (k := 9007199254740991) (by unfold INF; omega) (by decide) (.inr (by decide)) (by omega)]
    rw [eI]
    unfold INF at hI
    have hK : q ≤ K := by omega
    by_cases c : K = q
    · have hk2 : k = 9007199254740992 := by omega
      subst hk2
      rw [c] at lo
      rcases lo with lo | lo | lo
      · exact absurd lo (by decide)
      · exact .inl lo
      · exact .inr ⟨lo.1, by decide⟩
    · have h1 := h1.resolve_left (by omega)
      left
      refine Nat.lt_of_lt_of_le ?_ h1
      apply Nat.mul_lt_mul_of_pos_right _ hd
      obtain ⟨j, hj2⟩ : ∃ j, K = q + (j + 1) := ⟨K - q - 1, by omega⟩
      rw [hj2, ← Z_mul, Z_succ]
      have hj := Z_pos j
      have h3 : 9007199254740992 * Z q * 2 ≤ 9007199254740992 * Z q * (2 * Z j) := Nat.mul_le_mul_left _ (by omega)
      have h4 := Z_pos q
      rw [← Nat.mul_assoc 9007199254740992 (Z q)]
      generalize Z q = z at *
      generalize Z j = y at *
      omega
end FS
end Go.Proofs.YteckfdohgiddgaaGreatDoor
namespace Go.Proofs.YteckfdohgiddgaaGreatDoor
namespace FS
set_option linter.unusedVariables false
set_option linter.unusedSimpArgs false
/-- c is n / 2^drop, rounded: to the even one of two -/
structure Cut (n G c : Nat) : Prop where
  lo : c = 0 ∨ (2 * c - 1) * G < 2 * n ∨ ((2 * c - 1) * G = 2 * n ∧ c % 2 = 0)
  hi : 2 * n < (2 * c + 1) * G ∨ (2 * n = (2 * c + 1) * G ∧ c % 2 = 0)
theorem cut_div {n G : Nat} (hG : 0 < G) (b : Bool) (hb : b = (decide (G < 2 * (n % G)) || (G == 2 * (n % G) && n / G % 2 == 1))) : Cut n G (n / G + b.toNat) := by
  have hn : G * (n / G) + n % G = n := Nat.div_add_mod n G
  have hr := Nat.mod_lt n hG
  generalize n / G = q at *
  generalize n % G = r at *
  have e1 : (2 * (q + 1) - 1) * G = 2 * (G * q) + G := by rw [show 2 * (q + 1) - 1 = 2 * q + 1 by omega, Nat.add_mul, Nat.one_mul, Nat.mul_assoc, Nat.mul_comm q]
  have e2 : (2 * (q + 1) + 1) * G = 2 * (G * q) + 3 * G := by rw [show 2 * (q + 1) + 1 = 2 * q + 3 by omega, Nat.add_mul, Nat.mul_assoc, Nat.mul_comm q]
  have e3 : (2 * q + 1) * G = 2 * (G * q) + G := by rw [Nat.add_mul, Nat.one_mul, Nat.mul_assoc, Nat.mul_comm q]
  have e4 : q ≠ 0 → (2 * q - 1) * G + G = 2 * (G * q) := fun h => by
    have h1 : (2 * q - 1) * G + G = (2 * q - 1 + 1) * G := by rw [Nat.add_mul, Nat.one_mul]
    rw [h1, show 2 * q - 1 + 1 = 2 * q by omega, Nat.mul_assoc, Nat.mul_comm q]
  cases b with
  | true =>
    have hb := hb.symm
    simp only [Bool.or_eq_true, Bool.and_eq_true, decide_eq_true_eq, beq_iff_eq] at hb
    show Cut n G (q + 1)
    refine ⟨.inr ?_, .inl ?_⟩
    · rw [e1]; omega
    · rw [e2]; omega
  | false =>
    have hb := hb.symm
    simp only [Bool.or_eq_false_iff, Bool.and_eq_false_imp, decide_eq_false_iff_not, beq_iff_eq, beq_eq_false_iff_ne] at hb
    show Cut n G (q + 0)
    rw [Nat.add_zero]
    refine ⟨?_, ?_⟩
    · by_cases h0 : q = 0
      · exact .inl h0
      · have := e4 h0
        exact .inr (.inl (by omega))
    · rw [e3]
      by_cases c : G = 2 * r
      · exact .inr ⟨by omega, by have := hb.2 c; omega⟩
      · exact .inl (by omega)
theorem cut_even (neg : Bool) (n drop : Nat) : Cut n (2 ^ drop) (Ieee.Toward.even.cut neg n drop) := by
  unfold Ieee.Toward.cut
  by_cases c : drop ≤ n.log2 + 2
  · rw [Nat.min_eq_left c, Nat.one_shiftLeft]
    exact cut_div (Nat.two_pow_pos drop) _ rfl
  · rw [Nat.min_eq_right (by omega), Nat.one_shiftLeft]
    have h1 : n < 2 ^ (n.log2 + 1) := Nat.lt_log2_self
    have h2 : 2 ^ (n.log2 + 2) = 2 * 2 ^ (n.log2 + 1) := by rw [Nat.pow_succ, Nat.mul_comm]
    have h3 : 2 ^ (n.log2 + 2) < 2 ^ drop := Nat.pow_lt_pow_right (by decide) (by omega)
    have hlt : n < 2 ^ (n.log2 + 2) := by omega
    have e : (n / 2 ^ (n.log2 + 2)) = 0 := Nat.div_eq_of_lt hlt
    have e' : (n % 2 ^ (n.log2 + 2)) = n := Nat.mod_eq_of_lt hlt
    simp only [e, e']
    have b1 : decide (2 ^ (n.log2 + 2) < 2 * n) = false := decide_eq_false (by omega)
    have b2 : (2 ^ (n.log2 + 2) == 2 * n) = false := beq_eq_false_iff_ne.2 (by omega)
    rw [b1, b2]
    refine ⟨.inl rfl, .inl ?_⟩
    show 2 * n < (2 * 0 + 1) * 2 ^ drop
    omega
/-- the place of the last digit kept, and what is kept -/
structure Kept (mag a s K k : Nat) : Prop where
  hk : k ≤ 9007199254740992
  h1 : K = 0 ∨ 9007199254740992 * Z K * Z s ≤ mag * Z a * Z 1075
  h2 : mag * Z a * Z 1075 < 18014398509481984 * Z K * Z s
  lo : k = 0 ∨ (2 * k - 1) * Z K * Z s < mag * Z a * Z 1075 ∨ ((2 * k - 1) * Z K * Z s = mag * Z a * Z 1075 ∧ k % 2 = 0)
  hi : mag * Z a * Z 1075 < (2 * k + 1) * Z K * Z s ∨ (mag * Z a * Z 1075 = (2 * k + 1) * Z K * Z s ∧ k % 2 = 0)
theorem Z_mono' {a b : Nat} (h : a ≤ b) : Z a ≤ Z b := Nat.pow_le_pow_right (by decide) h
theorem nearest_kept {mag a s : Nat} {place : Int} (hm : mag ≠ 0) (hp : (a : Int) - s = place) :
    ∃ K k, Ieee.double.nearest false mag place = min (K * 4503599627370496 + k) INF ∧ Kept mag a s K k ∧ place + mag.log2 - 52 ≤ (K : Int) - 1074 := by
  unfold Ieee.Format.nearest
  rw [if_neg hm]
  have el : Ieee.double.leastPlace = -1074 := by decide
  have ef : (Ieee.double.fractionBits : Int) = 52 := by decide
  have eb : Ieee.double.binade = 4503599627370496 := by decide
  have ei : Ieee.double.infRung = INF := by decide
  simp only [el, ef, eb, ei, Ieee.Format.word, Bool.false_eq_true, if_false]
  obtain ⟨last, hl⟩ : ∃ last : Int, last = max (place + (mag.log2 : Int) - 52) (-1074) := ⟨_, rfl⟩
  rw [← hl]
  have hl1 : place + (mag.log2 : Int) - 52 ≤ last := by omega
  have hl2 : -1074 ≤ last := by omega
  have hl3 : last = -1074 ∨ last = place + (mag.log2 : Int) - 52 := by omega
  clear hl
  have hc := cut_even false (mag <<< (place - last).toNat) (last - place).toNat
  obtain ⟨k, hk⟩ : ∃ k, k = Ieee.Toward.even.cut false (mag <<< (place - last).toNat) (last - place).toNat := ⟨_, rfl⟩
  rw [← hk] at hc
  refine ⟨(last + 1074).toNat, k, by rw [← hk]; rfl, ?_, by omega⟩
  clear hk
  rw [Nat.shiftLeft_eq] at hc
  obtain ⟨K, hK⟩ : ∃ K, K = (last + 1074).toNat := ⟨_, rfl⟩
  obtain ⟨c, hcc⟩ : ∃ c, c = a + 1074 - (place - last).toNat := ⟨_, rfl⟩
  rw [← hK]
  have ex2 : 2 * (mag * 2 ^ (place - last).toNat) * Z c = mag * Z a * Z 1075 := by
    show 2 * (mag * Z (place - last).toNat) * Z c = _
    rw [Nat.mul_assoc mag, Z_mul, ← Nat.mul_assoc, Nat.mul_comm 2, Nat.mul_assoc, Nat.mul_assoc, Z_mul, ← Z_succ]
    congr 2
    omega
  have eG : 2 ^ (last - place).toNat * Z c = Z K * Z s := by
    show Z _ * Z c = _
    rw [Z_mul, Z_mul]
    congr 1
    omega
  have hcz := Z_pos c
  have scale : ∀ y : Nat, y * Z K * Z s = y * 2 ^ (last - place).toNat * Z c := fun y => by
    rw [Nat.mul_assoc, ← eG, Nat.mul_assoc]
  have hb1 : mag < 2 ^ (mag.log2 + 1) := Nat.lt_log2_self
  have hb2 : 2 ^ mag.log2 ≤ mag := Nat.log2_self_le hm
  have H2 : mag * Z a * Z 1075 < 18014398509481984 * Z K * Z s := by
    have h1 : mag * Z a * Z 1075 < Z (mag.log2 + 1) * Z a * Z 1075 :=
      Nat.mul_lt_mul_of_pos_right (Nat.mul_lt_mul_of_pos_right hb1 (Z_pos _)) (Z_pos _)
    refine Nat.lt_of_lt_of_le h1 ?_
    rw [show 18014398509481984 = Z 54 by decide, Z_mul, Z_mul, Z_mul, Z_mul]
    exact Z_mono' (by omega)
  refine ⟨?_, ?_, H2, ?_, ?_⟩
  · rcases hc.lo with h | h
    · omega
    · rw [← ex2, show 18014398509481984 * Z K * Z s = 18014398509481984 * 2 ^ (last - place).toNat * Z c from scale _] at H2
      have h3 := Nat.lt_of_mul_lt_mul_right H2
      have h4 : (2 * k - 1) * 2 ^ (last - place).toNat < 18014398509481984 * 2 ^ (last - place).toNat := by omega
      have := Nat.lt_of_mul_lt_mul_right h4
      omega
  · by_cases h0 : last = -1074
    · left; omega
    · right
      have hl3 := hl3.resolve_left h0
      have h1 : Z mag.log2 * Z a * Z 1075 ≤ mag * Z a * Z 1075 := Nat.mul_le_mul_right _ (Nat.mul_le_mul_right _ hb2)
      refine Nat.le_trans ?_ h1
      rw [show 9007199254740992 = Z 53 by decide, Z_mul, Z_mul, Z_mul, Z_mul]
      exact Z_mono' (by omega)
  · rw [scale, ← ex2]
    rcases hc.lo with h | h | ⟨h, h'⟩
    · exact .inl h
    · exact .inr (.inl (Nat.mul_lt_mul_of_pos_right h hcz))
    · exact .inr (.inr ⟨by rw [h], h'⟩)
  · rw [scale, ← ex2]
    rcases hc.hi with h | ⟨h, h'⟩
    · exact .inl (Nat.mul_lt_mul_of_pos_right h hcz)
    · exact .inr ⟨by rw [h], h'⟩
theorem nearest_rnd {mag a s : Nat} {place : Int} (hm : mag ≠ 0) (hp : (a : Int) - s = place) : Rnd (mag * Z a) (Z s) (Ieee.double.nearest false mag place) := by
  obtain ⟨K, k, e, h, _⟩ := nearest_kept hm hp
  rw [e]
  exact rnd_of (Z_pos s) h.hk h.h1 h.h2 h.lo h.hi
/-- reading a finite float that is not negative -/
theorem read_pos {b : Nat} (hb : b < INF) : Ieee.double.read b = .number false (mOf b) (eOf b) := by
  unfold Ieee.Format.read
  have e1 : Ieee.double.signWeight = 9223372036854775808 := by decide
  have e2 : Ieee.double.binade = 4503599627370496 := by decide
  have e3 : Ieee.double.infRung = INF := by decide
  have e4 : Ieee.double.leastPlace = -1074 := by decide
  unfold INF at hb
  have q1 : b / 9223372036854775808 = 0 := by omega
  have q2 : b % 9223372036854775808 = b := by omega
  simp only [e1, e2, e3, e4, q1, q2]
  unfold INF mOf eOf ex mt
  by_cases c : b < 4503599627370496
  · have h0 : b / 4503599627370496 % 2048 = 0 := by omega
    have h1 : b % 4503599627370496 = b := by omega
    rw [if_pos c, if_pos h0, if_pos h0, h1]
    rfl
  · have h0 : b / 4503599627370496 % 2048 = b / 4503599627370496 := by omega
    have h1 : ¬ b / 4503599627370496 = 0 := by omega
    rw [if_neg c, if_pos hb, h0, if_neg h1, if_neg h1, Nat.add_comm]
    congr 1
    omega
theorem eOf_ge (b : Nat) : -1074 ≤ eOf b := by unfold eOf; split <;> omega
/-- the product of two finite floats that are not negative -/
theorem mul_rnd {x y : Nat} (hx : x < INF) (hy : y < INF) (h0 : mOf x * mOf y ≠ 0) : ∃ b, Ieee.double.mul x y = some b ∧ Rnd (mOf x * mOf y * Z (eOf x + eOf y + 2148).toNat) (Z 2148) b := by
  refine ⟨Ieee.double.nearest false (mOf x * mOf y) (eOf x + eOf y), ?_, nearest_rnd h0 ?_⟩
  · unfold Ieee.Format.mul
    rw [read_pos hx, read_pos hy]
    rfl
  · have := eOf_ge x
    have := eOf_ge y
    omega
end FS
end Go.Proofs.YteckfdohgiddgaaGreatDoor
namespace Go.Proofs.YteckfdohgiddgaaGreatDoor
namespace FS
set_option linter.unusedVariables false
/-- d * 10^p as a fraction -/
def vN (d : Nat) (p : Int) : Nat := d * X p.toNat
def vD (p : Int) : Nat := X (-p).toNat
end FS
end Go.Proofs.YteckfdohgiddgaaGreatDoor
namespace Go.Proofs.YteckfdohgiddgaaGreatDoor
open Ieee
namespace FO
set_option linter.unusedVariables false
def INF : Nat := 9218868437227405312
/-- the rung; the sign; is it a NaN? -/
def rg (x : Nat) : Nat := x % 9223372036854775808
def sg (x : Nat) : Bool := decide (9223372036854775808 ≤ x)
def isN (x : Nat) : Bool := decide (INF < rg x)
/-- the size of a rung, in units of 2^-1074 -/
def vl (r : Nat) : Nat := if r < 4503599627370496 then r else (4503599627370496 + r % 4503599627370496) * 2 ^ (r / 4503599627370496 - 1)
/-- the place in the order -/
def kr (x : Nat) : Int := if sg x then -(rg x : Int) else rg x
end FO
end Go.Proofs.YteckfdohgiddgaaGreatDoor
namespace Go.Proofs.YteckfdohgiddgaaGreatDoor
open Ieee
namespace FO
set_option linter.unusedVariables false
def pw (k : Nat) : Nat := 2 ^ k
/-- 2^1074, hidden -/
def H1074 : Nat := pw 1074
/-- the whole part of a float's size -/
def whole (x : Nat) : Nat := vl (rg x) / H1074
end FO
end Go.Proofs.YteckfdohgiddgaaGreatDoor
namespace Go.Proofs.YteckfdohgiddgaaGreatDoor
namespace FS
set_option linter.unusedVariables false
theorem Rnd.mono {n d n' d' b b' : Nat} (hd : 0 < d) (hd' : 0 < d') (h : Rnd n d b) (k : Rnd n' d' b') (hle : n * d' ≤ n' * d) : b ≤ b' := by
  rcases Nat.lt_or_ge b' b with c | c
  · exfalso
    have hbI := h.le
    have h2 : b ≠ 0 := by omega
    have h1 : b' ≠ INF := by omega
    have hh : hf b' ≤ hf (b - 1) := hf_mono (by omega) (by omega)
    have a := h.lo.resolve_left h2
    have e := k.hi.resolve_left h1
    have q1 : hf b' * d' * d ≤ hf (b - 1) * d * d' := by
      rw [Nat.mul_right_comm]
      exact Nat.mul_le_mul_right _ (Nat.mul_le_mul_right _ hh)
    have q2 : n * Z 1075 * d' ≤ n' * Z 1075 * d := by
      rw [Nat.mul_right_comm, Nat.mul_right_comm n']
      exact Nat.mul_le_mul_right _ hle
    rcases a with a | a
    · have := Nat.mul_lt_mul_of_pos_right a hd'
      rcases e with e | e
      · have := Nat.mul_lt_mul_of_pos_right e hd; omega
      · rw [e.1] at q2; omega
    · have ha := a.1
      rw [ha] at q1
      rcases e with e | e
      · have := Nat.mul_lt_mul_of_pos_right e hd; omega
      · have he := e.1
        have q3 : hf b' * d' * d = hf (b - 1) * d * d' := by rw [ha]; rw [he] at q2; omega
        rw [Nat.mul_right_comm] at q3
        have q4 : hf b' * d = hf (b - 1) * d := Nat.eq_of_mul_eq_mul_right hd' q3
        have q5 : hf b' = hf (b - 1) := Nat.eq_of_mul_eq_mul_right hd q4
        by_cases c2 : b' < b - 1
        · have := hf_lt c2 (by omega); omega
        · omega
  · exact c
/-- x is the float of the whole number m, exactly -/
structure Is (x m : Nat) : Prop where
  lt : x < INF
  e : mOf x * Z (eOf x + 1074).toNat = m * Z 1074
theorem Is.zero {x m : Nat} (h : Is x m) : mOf x = 0 ↔ m = 0 := by
  have := h.e
  constructor
  · intro c; rw [c, Nat.zero_mul] at this
    rcases Nat.mul_eq_zero.1 this.symm with q | q
    · exact q
    · have := Z_pos 1074; omega
  · rintro rfl; rw [Nat.zero_mul] at this
    rcases Nat.mul_eq_zero.1 this with q | q
    · exact q
    · have := Z_pos (eOf x + 1074).toNat; omega
theorem mOf_low {b : Nat} (h : b < 4503599627370496) : mOf b = b ∧ (eOf b + 1074).toNat = 0 := by
  unfold mOf eOf ex mt
  have e : b / 4503599627370496 % 2048 = 0 := by omega
  rw [if_pos e, if_pos e]
  constructor
  · omega
  · rfl
theorem mOf_high {K r : Nat} (hr : r < 4503599627370496) (hK : K < 2046) : mOf ((K + 1) * 4503599627370496 + r) = 4503599627370496 + r ∧ (eOf ((K + 1) * 4503599627370496 + r) + 1074).toNat = K := by
  have e0 : ((K + 1) * 4503599627370496 + r) / 4503599627370496 % 2048 = K + 1 := by omega
  have e1 : ((K + 1) * 4503599627370496 + r) % 4503599627370496 = r := by omega
  unfold mOf eOf ex mt
  rw [e0, if_neg (by omega), if_neg (by omega), e1]
  constructor
  · omega
  · omega
theorem hf_pred {b : Nat} (hb : b < INF) (h0 : b ≠ 0) : hf (b - 1) < 2 * mOf b * Z (eOf b + 1074).toNat := by
  rcases split52 b hb with c1 | ⟨K, r, rfl, hr, hK⟩
  · obtain ⟨e1, e2⟩ := mOf_low c1
    rw [hf_low (by omega), e1, e2, show Z 0 = 1 from rfl]; omega
  · obtain ⟨e1, e2⟩ := mOf_high hr hK
    rw [e1, e2]
    by_cases r0 : r = 0
    · subst r0
      rcases Nat.eq_zero_or_pos K with k0 | k0
      · subst k0
        rw [show (0 + 1) * 4503599627370496 + 0 - 1 = 4503599627370495 from rfl, hf_low (by decide), show Z 0 = 1 from rfl]; decide
      · obtain ⟨K', rfl⟩ : ∃ K', K = K' + 1 := ⟨K - 1, by omega⟩
        have e3 : (K' + 1 + 1) * 4503599627370496 + 0 - 1 = K' * 4503599627370496 + 9007199254740991 := by omega
        rw [hf_at (K := K') (k := 9007199254740991) e3 (by decide) (.inr (by decide)) (by omega), Z_succ, Nat.mul_left_comm _ 2, ← Nat.mul_assoc]
        exact Nat.mul_lt_mul_of_pos_right (by omega) (Z_pos K')
    · have e3 : (K + 1) * 4503599627370496 + r - 1 = K * 4503599627370496 + (4503599627370496 + (r - 1)) := by omega
      rw [hf_at (K := K) (k := 4503599627370496 + (r - 1)) e3 (by omega) (.inr (by omega)) hK]
      exact Nat.mul_lt_mul_of_pos_right (by omega) (Z_pos K)
/-- the product of two whole floats is the float nearest to the product -/
theorem Is.mul {x y a c : Nat} (hx : Is x a) (hy : Is y c) (ha : a ≠ 0) (hc : c ≠ 0) : ∃ b, floatBits .mul .f64 x y = some b ∧ Rnd (a * c) 1 b := by
  have h1 : mOf x ≠ 0 := fun h => ha (hx.zero.1 h)
  have h2 : mOf y ≠ 0 := fun h => hc (hy.zero.1 h)
  obtain ⟨b, hb, R⟩ := mul_rnd hx.lt hy.lt (Nat.mul_ne_zero h1 h2)
  refine ⟨b, hb, Rnd.of_eq (Z_pos _) (by decide) ?_ R⟩
  have e1 := hx.e
  have e2 := hy.e
  have g1 := eOf_ge x
  have g2 := eOf_ge y
  have e3 : Z (eOf x + eOf y + 2148).toNat = Z (eOf x + 1074).toNat * Z (eOf y + 1074).toNat := by rw [Z_mul]; congr 1; omega
  have e4 : Z 2148 = Z 1074 * Z 1074 := by rw [Z_mul]
  rw [e3, e4, Nat.mul_one]
  generalize Z (eOf x + 1074).toNat = u at *
  generalize Z (eOf y + 1074).toNat = v at *
  generalize Z 1074 = z at *
  have : mOf x * mOf y * (u * v) = (mOf x * u) * (mOf y * v) := by ac_rfl
  rw [this, e1, e2]; ac_rfl
end FS
end Go.Proofs.YteckfdohgiddgaaGreatDoor
