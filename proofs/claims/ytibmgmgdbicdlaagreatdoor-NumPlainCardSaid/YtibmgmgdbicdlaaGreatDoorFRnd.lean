/- Rounding to the nearest float, the even one of two, in plain numbers: one float at most. No function of the program in sight. -/
import Derived.Test.YtibmgmgdbicdlaaGreatDoorFTold
namespace Go.Proofs.YtibmgmgdbicdlaaGreatDoor
namespace FS
set_option linter.unusedVariables false
/-- the rung of infinity -/
def INF : Nat := 9218868437227405312
def B52 : Nat := 4503599627370496
/-- half way between the float b and the next one, in units of 2^-1075 -/
def hf (b : Nat) : Nat := (2 * mOf b + 1) * Z (eOf b + 1074).toNat
/-- b is the float nearest to n / d -/
structure Rnd (n d b : Nat) : Prop where
  le : b ≤ INF
  lo : b = 0 ∨ hf (b - 1) * d < n * Z 1075 ∨ (hf (b - 1) * d = n * Z 1075 ∧ b % 2 = 0)
  hi : b = INF ∨ n * Z 1075 < hf b * d ∨ (n * Z 1075 = hf b * d ∧ b % 2 = 0)
theorem Z_succ (k : Nat) : Z (k + 1) = 2 * Z k := by unfold Z; rw [Nat.pow_succ, Nat.mul_comm]
theorem hf_at {K k b : Nat} (hb : b = K * 4503599627370496 + k) (hk : k < 9007199254740992) (h : K = 0 ∨ 4503599627370496 ≤ k) (hK : K < 2046) : hf b = (2 * k + 1) * Z K := by
  have key : mOf b = k ∧ (eOf b + 1074).toNat = K := by
    unfold mOf eOf ex mt
    by_cases c : k < 4503599627370496
    · have : K = 0 := by omega
      subst this
      have e1 : b / 4503599627370496 % 2048 = 0 := by omega
      rw [if_pos e1, if_pos e1]
      constructor
      · omega
      · omega
    · have e1 : b / 4503599627370496 % 2048 = K + 1 := by omega
      rw [e1, if_neg (by omega), if_neg (by omega)]
      constructor
      · omega
      · omega
  unfold hf
  rw [key.1, key.2]
theorem hf_low {r : Nat} (h : r < 4503599627370496) : hf r = 2 * r + 1 := by
  rw [hf_at (K := 0) (k := r) (by omega) (by omega) (.inl rfl) (by decide)]
  unfold Z; omega
theorem hf_high {K r : Nat} (h : r < 4503599627370496) (hK : K < 2046) : hf ((K + 1) * 4503599627370496 + r) = (9007199254740993 + 2 * r) * Z K := by
  rw [hf_at (K := K) (k := 4503599627370496 + r) (by omega) (by omega) (.inr (by omega)) hK]
  congr 1; omega
theorem split52 (b : Nat) (hb : b < INF) : (b < 4503599627370496) ∨ ∃ K r, b = (K + 1) * 4503599627370496 + r ∧ r < 4503599627370496 ∧ K < 2046 := by
  unfold INF at hb
  by_cases c : b < 4503599627370496
  · exact .inl c
  · exact .inr ⟨b / 4503599627370496 - 1, b % 4503599627370496, by omega, Nat.mod_lt _ (by decide), by omega⟩
theorem hf_succ {b : Nat} (hb : b + 1 < INF) : hf b < hf (b + 1) := by
  rcases split52 b (by omega) with c | ⟨K, r, rfl, hr, hK⟩
  · by_cases c2 : b + 1 < 4503599627370496
    · rw [hf_low c, hf_low c2]; omega
    · have e : b + 1 = (0 + 1) * 4503599627370496 + 0 := by omega
      rw [hf_low c, e, hf_high (by decide) (by decide)]
      unfold Z; omega
  · have hz := Z_pos K
    by_cases c2 : r + 1 < 4503599627370496
    · rw [hf_high hr hK, Nat.add_assoc, hf_high c2 hK]
      exact Nat.mul_lt_mul_of_pos_right (by omega) hz
    · have e : (K + 1) * 4503599627370496 + r + 1 = (K + 1 + 1) * 4503599627370496 + 0 := by omega
      have hK2 : K + 1 < 2046 := by unfold INF at hb; omega
      rw [hf_high hr hK, e, hf_high (by decide) hK2, Z_succ, ← Nat.mul_assoc]
      exact Nat.mul_lt_mul_of_pos_right (by omega) hz
theorem hf_mono : ∀ {b c : Nat}, b ≤ c → c < INF → hf b ≤ hf c := by
  intro b c h
  induction h with
  | refl => intro _; exact Nat.le_refl _
  | step h ih => intro hc; exact Nat.le_trans (ih (by omega)) (Nat.le_of_lt (hf_succ hc))
theorem hf_lt {b c : Nat} (h : b < c) (hc : c < INF) : hf b < hf c := by
  rcases Nat.lt_or_ge (b + 1) c with q | q
  · exact Nat.lt_of_lt_of_le (hf_succ (by omega)) (hf_mono (Nat.le_of_lt q) hc)
  · have : c = b + 1 := by omega
    subst this
    exact hf_succ hc
theorem Rnd.not_lt {n d b c : Nat} (hd : 0 < d) (h : Rnd n d b) (k : Rnd n d c) : ¬ b < c := fun hbc => by
  have hcI := k.le
  have h1 : b ≠ INF := by omega
  have h2 : c ≠ 0 := by omega
  have hh : hf b ≤ hf (c - 1) := hf_mono (by omega) (by omega)
  have hm : hf b * d ≤ hf (c - 1) * d := Nat.mul_le_mul_right _ hh
  have a := h.hi.resolve_left h1
  have e := k.lo.resolve_left h2
  have heq : hf b * d = hf (c - 1) * d := by omega
  have hev : b % 2 = 0 ∧ c % 2 = 0 := by omega
  rcases Nat.lt_or_ge b (c - 1) with q | q
  · have := Nat.mul_lt_mul_of_pos_right (hf_lt q (by omega)) hd
    omega
  · omega
theorem Rnd.ext {n d b c : Nat} (hd : 0 < d) (h : Rnd n d b) (k : Rnd n d c) : b = c := by
  have := h.not_lt hd k
  have := k.not_lt hd h
  omega
/-- the same number in other words -/
theorem Rnd.of_eq {n d n' d' b : Nat} (hd : 0 < d) (hd' : 0 < d') (e : n * d' = n' * d) (h : Rnd n d b) : Rnd n' d' b := by
  have key : ∀ x, (x * d < n * Z 1075 ↔ x * d' < n' * Z 1075) ∧ (x * d = n * Z 1075 ↔ x * d' = n' * Z 1075) ∧ (n * Z 1075 < x * d ↔ n' * Z 1075 < x * d') := fun x => by
    have a : ∀ y, y * d * d' = y * d' * d := fun y => Nat.mul_right_comm _ _ _
    have e2 : n * Z 1075 * d' = n' * Z 1075 * d := by rw [Nat.mul_right_comm, e, Nat.mul_right_comm]
    refine ⟨?_, ?_, ?_⟩
    · rw [← Nat.mul_lt_mul_right hd', a, e2, Nat.mul_lt_mul_right hd]
    · rw [← Nat.mul_left_inj (Nat.pos_iff_ne_zero.1 hd'), a, e2, Nat.mul_left_inj (Nat.pos_iff_ne_zero.1 hd)]
    · rw [← Nat.mul_lt_mul_right hd', a, e2, Nat.mul_lt_mul_right hd]
  refine ⟨h.le, ?_, ?_⟩
  · rw [← (key _).1, ← (key _).2.1]; exact h.lo
  · rw [← (key _).2.2, eq_comm (a := n' * Z 1075), ← (key _).2.1, eq_comm (b := n * Z 1075)]; exact h.hi
/-- found by rounding to units of 2^(K - 1074), at the right scale -/
theorem rnd_of {n d K k : Nat} (hd : 0 < d) (hk : k ≤ 9007199254740992) (h1 : K = 0 ∨ 9007199254740992 * Z K * d ≤ n * Z 1075) (h2 : n * Z 1075 < 18014398509481984 * Z K * d)
    (lo : k = 0 ∨ (2 * k - 1) * Z K * d < n * Z 1075 ∨ ((2 * k - 1) * Z K * d = n * Z 1075 ∧ k % 2 = 0)) (hi : n * Z 1075 < (2 * k + 1) * Z K * d ∨ (n * Z 1075 = (2 * k + 1) * Z K * d ∧ k % 2 = 0)) :
    Rnd n d (min (K * 4503599627370496 + k) INF) := by
  have hz := Z_pos K
  generalize hx : n * Z 1075 = x at *
  have cancel : ∀ a c : Nat, a * Z K * d < c * Z K * d → a < c := fun a c h => Nat.lt_of_mul_lt_mul_right (Nat.lt_of_mul_lt_mul_right h)
  have up : ∀ a c : Nat, a ≤ c → a * Z K * d ≤ c * Z K * d := fun a c h => Nat.mul_le_mul_right _ (Nat.mul_le_mul_right _ h)
  -- the place of k
  have hk52 : K = 0 ∨ 4503599627370496 ≤ k := by
    rcases h1 with h | h
    · exact .inl h
    · right
      rcases Nat.lt_or_ge k 4503599627370496 with c | c
      · exfalso
        have := up (2 * k + 1) 9007199254740991 (by omega)
        have h9 : 9007199254740991 * Z K * d < 9007199254740992 * Z K * d := Nat.mul_lt_mul_of_pos_right (Nat.mul_lt_mul_of_pos_right (by decide) hz) hd
        omega
      · exact c
  by_cases hI : K * 4503599627370496 + k < INF
  · rw [Nat.min_eq_left (by omega)]
    have hK : K < 2046 := by unfold INF at hI; omega
    refine ⟨by omega, ?_, .inr ?_⟩
    · rw [hx]
      by_cases k0 : k = 0
      · have : K = 0 := by omega
        left; omega
      · right
        have lo := lo.resolve_left k0
        by_cases c : K = 0 ∨ 4503599627370496 < k
        · rw [hf_at (K := K) (k := k - 1) (by omega) (by omega) (by omega) hK, show 2 * (k - 1) + 1 = 2 * k - 1 by omega]
          have : (K * 4503599627370496 + k) % 2 = k % 2 := by omega
          rw [this]; exact lo
        · have hk2 : k = 4503599627370496 := by omega
          obtain ⟨K', rfl⟩ : ∃ K', K = K' + 1 := ⟨K - 1, by omega⟩
          have h1 := h1.resolve_left (by omega)
          rw [hf_at (K := K') (k := 9007199254740991) (by omega) (by decide) (by omega) (by omega)]
          left
          refine Nat.lt_of_lt_of_le ?_ h1
          apply Nat.mul_lt_mul_of_pos_right _ hd
          rw [Z_succ, ← Nat.mul_assoc]
          exact Nat.mul_lt_mul_of_pos_right (by decide) (Z_pos _)
    · rw [hx]
      by_cases c : k < 9007199254740992
      · rw [hf_at (K := K) (k := k) rfl c hk52 hK]
        have : (K * 4503599627370496 + k) % 2 = k % 2 := by omega
        rw [this]; exact hi
      · have hk2 : k = 9007199254740992 := by omega
        left
        have hK2 : K + 1 < 2046 := by unfold INF at hI; omega
        rw [hf_at (K := K + 1) (k := 4503599627370496) (by omega) (by decide) (by omega) hK2]
        refine Nat.lt_trans h2 ?_
        apply Nat.mul_lt_mul_of_pos_right _ hd
        rw [Z_succ, ← Nat.mul_assoc]
        exact Nat.mul_lt_mul_of_pos_right (by decide) hz
  · rw [Nat.min_eq_right (by omega)]
    refine ⟨Nat.le_refl _, .inr ?_, .inl rfl⟩
    rw [hx]
    obtain ⟨q, hq⟩ : ∃ q : Nat, q = 2045 := ⟨_, rfl⟩
    have eI : hf (INF - 1) = 18014398509481983 * Z q := by
      rw [hf_at (K := q) (k := 9007199254740991) (by unfold INF; omega) (by decide) (.inr (by decide)) (by omega)]
    rw [eI]
    unfold INF at hI
    have hK : q ≤ K := by omega
    by_cases c : K = q
    · have hk2 : k = 9007199254740992 := by omega
      subst hk2
      rw [c] at lo
      rcases lo with lo | lo | lo
      · exact absurd lo (by decide)
      · exact .inl lo
      · exact .inr ⟨lo.1, by decide⟩
    · have h1 := h1.resolve_left (by omega)
      left
      refine Nat.lt_of_lt_of_le ?_ h1
      apply Nat.mul_lt_mul_of_pos_right _ hd
      obtain ⟨j, hj2⟩ : ∃ j, K = q + (j + 1) := ⟨K - q - 1, by omega⟩
      rw [hj2, ← Z_mul, Z_succ]
      have hj := Z_pos j
      have h3 : 9007199254740992 * Z q * 2 ≤ 9007199254740992 * Z q * (2 * Z j) := Nat.mul_le_mul_left _ (by omega)
      have h4 := Z_pos q
      rw [← Nat.mul_assoc 9007199254740992 (Z q)]
      generalize Z q = z at *
      generalize Z j = y at *
      omega
end FS
end Go.Proofs.YtibmgmgdbicdlaaGreatDoor
