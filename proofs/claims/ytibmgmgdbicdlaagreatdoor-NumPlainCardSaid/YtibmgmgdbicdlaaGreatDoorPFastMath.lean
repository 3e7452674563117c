/- The library's quick way from a decimal to a float, in plain numbers: it finds the nearest float. No function of the program in sight. -/
import Derived.Test.YtibmgmgdbicdlaaGreatDoorFRnd
namespace Go.Proofs.YtibmgmgdbicdlaaGreatDoor
namespace FS
set_option linter.unusedVariables false
/-- a number of quarters with a mark, rounded: the nearest whole number, the even one of two -/
theorem q4_near {u s4 t k : Nat} (ht : 0 < t) (h0 : u % 2 = 0 → s4 = u * t) (h1 : u % 2 = 1 → (u - 1) * t < s4 ∧ s4 < (u + 1) * t) (hk : k = (u + 1 + u / 4 % 2) / 4) :
    (k = 0 ∨ (4 * k - 2) * t < s4 ∨ ((4 * k - 2) * t = s4 ∧ k % 2 = 0)) ∧ (s4 < (4 * k + 2) * t ∨ (s4 = (4 * k + 2) * t ∧ k % 2 = 0)) := by
  obtain ⟨q, r, rfl, hr⟩ : ∃ q r, u = 4 * q + r ∧ r < 4 := ⟨u / 4, u % 4, by omega, Nat.mod_lt _ (by decide)⟩
  have e : ∀ a, (4 * q + a) * t = 4 * (q * t) + a * t := fun a => by rw [Nat.add_mul, Nat.mul_assoc]
  have e2 : (4 * q - 2) * t = 4 * (q * t) - 2 * t := by rw [Nat.sub_mul, Nat.mul_assoc]
  have e3 : q = 0 ∨ t ≤ q * t := by
    rcases Nat.eq_zero_or_pos q with c | c
    · exact .inl c
    · exact .inr (Nat.le_mul_of_pos_left _ c)
  have r4 : r = 0 ∨ r = 1 ∨ r = 2 ∨ r = 3 := by omega
  rcases r4 with rfl | rfl | rfl | rfl
  · obtain rfl : k = q := by omega
    have := h0 (by omega)
    rw [e] at this
    rw [e, e2]
    omega
  · obtain rfl : k = q := by omega
    have := h1 (by omega)
    rw [show 4 * k + 1 - 1 = 4 * k + 0 by omega, e, show 4 * k + 1 + 1 = 4 * k + 2 by omega, e] at this
    rw [e, e2]
    omega
  · have := h0 (by omega)
    rw [e] at this
    rcases Nat.mod_two_eq_zero_or_one q with c | c
    · obtain rfl : k = q := by omega
      rw [e, e2]
      omega
    · obtain rfl : k = q + 1 := by omega
      rw [show 4 * (q + 1) - 2 = 4 * q + 2 by omega, e, show 4 * (q + 1) + 2 = 4 * q + 6 by omega, e]
      omega
  · obtain rfl : k = q + 1 := by omega
    have := h1 (by omega)
    rw [show 4 * q + 3 - 1 = 4 * q + 2 by omega, e, show 4 * q + 3 + 1 = 4 * q + 4 by omega, e] at this
    rw [show 4 * (q + 1) - 2 = 4 * q + 2 by omega, e, show 4 * (q + 1) + 2 = 4 * q + 6 by omega, e]
    omega
theorem dbl1 (k t : Nat) : (4 * k - 2) * t = 2 * ((2 * k - 1) * t) := by rw [← Nat.mul_assoc 2, show 4 * k - 2 = 2 * (2 * k - 1) by omega]
theorem dbl2 (k t : Nat) : (4 * k + 2) * t = 2 * ((2 * k + 1) * t) := by rw [← Nat.mul_assoc 2, show 4 * k + 2 = 2 * (2 * k + 1) by omega]
theorem q4_rnd0 {n d K u k : Nat} (hd : 0 < d) (h0 : u % 2 = 0 → 4 * (n * Z 1074) = u * (d * Z K)) (h1 : u % 2 = 1 → (u - 1) * (d * Z K) < 4 * (n * Z 1074) ∧ 4 * (n * Z 1074) < (u + 1) * (d * Z K)) (hk : k = (u + 1 + u / 4 % 2) / 4) (hk2 : k ≤ 9007199254740992)
    (hlo : K = 0 ∨ 18014398509481984 * (d * Z K) ≤ 4 * (n * Z 1074)) (hhi : 4 * (n * Z 1074) < 36028797018963968 * (d * Z K)) : Rnd n d (min (K * 4503599627370496 + k) INF) := by
  have ht : 0 < d * Z K := Nat.mul_pos hd (Z_pos K)
  obtain ⟨a, b⟩ := q4_near ht h0 h1 hk
  have es : 4 * (n * Z 1074) = 2 * (n * Z 1075) := by
    rw [Z_succ 1074, Nat.mul_left_comm n 2]; omega
  have ec : ∀ c : Nat, c * Z K * d = c * (d * Z K) := fun c => by rw [Nat.mul_assoc, Nat.mul_comm (Z K) d]
  have e1 := dbl1 k (d * Z K)
  have e2 := dbl2 k (d * Z K)
  rw [es] at a b hlo hhi
  rw [e1] at a
  rw [e2] at b
  refine rnd_of hd hk2 ?_ ?_ ?_ ?_
  · rw [ec]; omega
  · rw [ec]; omega
  · rw [ec]; omega
  · rw [ec]; omega
theorem or_low (u : Nat) : u / 2 ||| u % 2 = if u % 2 = 1 ∧ u / 2 % 2 = 0 then u / 2 + 1 else u / 2 := by
  rcases Nat.mod_two_eq_zero_or_one u with c | c
  · rw [c, Nat.or_zero, if_neg (by omega)]
  · rw [c, or_one]
    by_cases h : u / 2 % 2 = 0
    · rw [if_pos h, if_pos ⟨rfl, h⟩]
    · rw [if_neg h, if_neg (by omega)]
/-- one bit less -/
def uSh (u : Nat) : Nat := if 36028797018963966 ≤ u then u / 2 ||| u % 2 else u
def kSh (u : Nat) : Nat := (uSh u + 1 + uSh u / 4 % 2) / 4
def KSh (K u : Nat) : Nat := if 36028797018963966 ≤ u then K + 1 else K
theorem q4_rnd {n d K u : Nat} (hd : 0 < d) (h : Q4 u (n * Z 1074) (d * Z K)) (hlo : K = 0 ∨ 18014398509481984 * (d * Z K) ≤ 4 * (n * Z 1074)) (hhi : 4 * (n * Z 1074) < 72057594037927928 * (d * Z K)) :
    Rnd n d (min (KSh K u * 4503599627370496 + kSh u) INF) ∧ kSh u < 9007199254740992 ∧ (KSh K u = 0 ∨ 4503599627370496 ≤ kSh u) ∧ u < 72057594037927929 ∧ uSh u < 36028797018963966 := by
  have ht : 0 < d * Z K := Nat.mul_pos hd (Z_pos K)
  obtain ⟨h0, h1⟩ := h
  have cancel : ∀ a c : Nat, a * (d * Z K) < c * (d * Z K) → a < c := fun a c h => Nat.lt_of_mul_lt_mul_right h
  have cancel2 : ∀ a c : Nat, a * (d * Z K) ≤ c * (d * Z K) → a ≤ c := fun a c h => Nat.le_of_mul_le_mul_right h ht
  have hu : u < 72057594037927929 := by
    rcases Nat.mod_two_eq_zero_or_one u with c | c
    · have := h0 c; have := cancel u 72057594037927928 (by omega); omega
    · have := (h1 c).1; have := cancel (u - 1) 72057594037927928 (by omega); omega
  have hlo2 : K = 0 ∨ 18014398509481984 ≤ u := by
    rcases hlo with c | c
    · exact .inl c
    · right
      rcases Nat.mod_two_eq_zero_or_one u with e | e
      · have := h0 e; exact cancel2 _ _ (by omega)
      · have := (h1 e).2; have := cancel 18014398509481984 (u + 1) (by omega); omega
  unfold kSh uSh KSh
  by_cases c : 36028797018963966 ≤ u
  · simp only [if_pos c]
    rw [or_low]
    by_cases c2 : u < 36028797018963968
    · -- just below: rounds up to the next power of two
      have ek : ∀ k, k = (u + 1 + u / 4 % 2) / 4 → k = 9007199254740992 := fun k hk => by omega
      have hh : 4 * (n * Z 1074) < 36028797018963968 * (d * Z K) := by
        rcases Nat.mod_two_eq_zero_or_one u with e | e
        · rw [h0 e]; exact Nat.mul_lt_mul_of_pos_right c2 ht
        · refine Nat.lt_of_lt_of_le (h1 e).2 (Nat.mul_le_mul_right _ (by omega))
      have R := q4_rnd0 (k := (u + 1 + u / 4 % 2) / 4) hd h0 h1 rfl (by omega) hlo hh
      have e2 : ((if u % 2 = 1 ∧ u / 2 % 2 = 0 then u / 2 + 1 else u / 2) + 1 + (if u % 2 = 1 ∧ u / 2 % 2 = 0 then u / 2 + 1 else u / 2) / 4 % 2) / 4 = 4503599627370496 := by
        split <;> omega
      rw [e2]
      rw [ek _ rfl] at R
      rw [show (K + 1) * 4503599627370496 + 4503599627370496 = K * 4503599627370496 + 9007199254740992 by omega]
      refine ⟨R, by decide, .inr (by decide), hu, ?_⟩
      split <;> omega
    · have e2 : d * Z (K + 1) = 2 * (d * Z K) := by rw [Z_succ, Nat.mul_left_comm]
      generalize hv : (if u % 2 = 1 ∧ u / 2 % 2 = 0 then u / 2 + 1 else u / 2) = v
      have hl : 36028797018963968 * (d * Z K) ≤ 4 * (n * Z 1074) := by
        rcases Nat.mod_two_eq_zero_or_one u with e | e
        · rw [h0 e]; exact Nat.mul_le_mul_right _ (by omega)
        · exact Nat.le_trans (Nat.mul_le_mul_right _ (by omega)) (Nat.le_of_lt (h1 e).1)
      have mono : ∀ a b, a ≤ b → a * (d * Z K) ≤ b * (d * Z K) := fun a b hab => Nat.mul_le_mul_right _ hab
      have dbl : ∀ a, a * (2 * (d * Z K)) = (2 * a) * (d * Z K) := fun a => by rw [← Nat.mul_assoc, Nat.mul_comm a 2]
      have g0 : v % 2 = 0 → 4 * (n * Z 1074) = v * (d * Z (K + 1)) := fun hv2 => by
        rw [e2, dbl]
        have : u % 2 = 0 ∧ u = 2 * v := by split at hv <;> omega
        rw [← this.2]; exact h0 this.1
      have g1 : v % 2 = 1 → (v - 1) * (d * Z (K + 1)) < 4 * (n * Z 1074) ∧ 4 * (n * Z 1074) < (v + 1) * (d * Z (K + 1)) := fun hv2 => by
        rw [e2, dbl, dbl]
        rcases Nat.mod_two_eq_zero_or_one u with e | e
        · have : u = 2 * v := by split at hv <;> omega
          rw [h0 e, this]
          exact ⟨Nat.mul_lt_mul_of_pos_right (by omega) ht, Nat.mul_lt_mul_of_pos_right (by omega) ht⟩
        · have h := h1 e
          have : 2 * (v - 1) ≤ u - 1 ∧ u + 1 ≤ 2 * (v + 1) := by split at hv <;> omega
          exact ⟨Nat.lt_of_le_of_lt (mono _ _ this.1) h.1, Nat.lt_of_lt_of_le h.2 (mono _ _ this.2)⟩
      have hv3 : v < 36028797018963966 ∧ 18014398509481984 ≤ v := by split at hv <;> omega
      have R := q4_rnd0 (k := (v + 1 + v / 4 % 2) / 4) hd g0 g1 rfl (by omega) (.inr (by rw [e2]; omega)) (by rw [e2]; omega)
      exact ⟨R, by omega, .inr (by omega), hu, by omega⟩
  · simp only [if_neg c]
    have hh : 4 * (n * Z 1074) < 36028797018963968 * (d * Z K) := by
      rcases Nat.mod_two_eq_zero_or_one u with e | e
      · rw [h0 e]; exact Nat.mul_lt_mul_of_pos_right (by omega) ht
      · refine Nat.lt_of_lt_of_le (h1 e).2 (Nat.mul_le_mul_right _ (by omega))
    have R := q4_rnd0 (k := (u + 1 + u / 4 % 2) / 4) hd h0 h1 rfl (by omega) hlo hh
    refine ⟨R, by omega, ?_, hu, by omega⟩
    rcases hlo2 with e | e
    · exact .inl e
    · exact .inr (by omega)
/-- powers of ten between powers of two -/
def okB (p : Int) : Bool := decide (Z (lp p).toNat * X (-p).toNat ≤ X p.toNat * Z (-lp p).toNat) && decide (X p.toNat * Z (-lp p).toNat * 18014398509481984 ≤ 36028797018963952 * (Z (lp p).toNat * X (-p).toNat))
theorem allB : ((List.range 696).all fun i : Nat => okB ((i : Int) - 348)) = true := by decide +kernel
theorem okB_at {p : Int} (h1 : -348 ≤ p) (h2 : p ≤ 347) : Z (lp p).toNat * X (-p).toNat ≤ X p.toNat * Z (-lp p).toNat ∧ X p.toNat * Z (-lp p).toNat * 18014398509481984 ≤ 36028797018963952 * (Z (lp p).toNat * X (-p).toNat) := by
  have h := List.all_eq_true.1 allB (p + 348).toNat (List.mem_range.2 (by omega))
  rw [show (((p + 348).toNat : Nat) : Int) - 348 = p by omega] at h
  unfold okB at h
  rw [Bool.and_eq_true, decide_eq_true_eq, decide_eq_true_eq] at h
  exact h
/-- d * 10^p as a fraction -/
def vN (d : Nat) (p : Int) : Nat := d * X p.toNat
def vD (p : Int) : Nat := X (-p).toNat
def eP (b : Nat) (p : Int) : Int := min 1074 (53 - b - lp p)
def sP (b : Nat) (p : Int) : Int := 61 - b - lp p - eP b p
theorem par_q4 {d b : Nat} {p : Int} (h1 : -348 ≤ p) (h2 : p ≤ 347) (hb : b ≤ 64) (hb0 : 1 ≤ b) (hl : Z (b - 1) ≤ d) (hu : d < Z b) :
    Q4 (cut (d * 2 ^ (64 - b)) (hiOf p) (loOf p) (sP b p).toNat) (vN d p * Z 1074) (vD p * Z (1074 - eP b p).toNat) := by
  have hs8 : 8 ≤ sP b p := by unfold sP eP; omega
  have hx : 2 ^ 62 ≤ d * 2 ^ (64 - b) := by
    have : Z (b - 1) * 2 ^ (64 - b) ≤ d * 2 ^ (64 - b) := Nat.mul_le_mul_right _ hl
    have e : Z (b - 1) * 2 ^ (64 - b) = 2 ^ 63 := by unfold Z; rw [← Nat.pow_add]; congr 1; omega
    omega
  have hx2 : d * 2 ^ (64 - b) < 2 ^ 64 := by
    have : d * 2 ^ (64 - b) < Z b * 2 ^ (64 - b) := Nat.mul_lt_mul_of_pos_right hu (Nat.two_pow_pos _)
    have e : Z b * 2 ^ (64 - b) = 2 ^ 64 := by unfold Z; rw [← Nat.pow_add]; congr 1; omega
    omega
  rw [cutR h1 h2 hx hx2 (by omega)]
  refine q4_of (Nat.mul_pos (D_pos p) (Nat.two_pow_pos _)) (Nat.mul_pos (X_pos _) (Z_pos _)) ?_
  have eA : A p = X p.toNat * Z (127 - lp p).toNat := rfl
  have eD : D p = X (-p).toNat * Z (lp p - 127).toNat := rfl
  have e2 : (2 : Nat) ^ (128 + (sP b p).toNat) = Z (128 + (sP b p).toNat) := rfl
  have e3 : (2 : Nat) ^ (64 - b) = Z (64 - b) := rfl
  have hz : Z 1074 * (Z 2 * (Z (lp p - 127).toNat * Z (128 + (sP b p).toNat))) = Z (64 - b) * (Z (127 - lp p).toNat * Z (1074 - eP b p).toNat) := by
    rw [Z_mul, Z_mul, Z_mul, Z_mul, Z_mul]
    have : eP b p ≤ 1074 := by unfold eP; omega
    unfold sP at *
    exact congrArg Z (by omega)
  have h4 : (4 : Nat) = Z 2 := rfl
  unfold vN vD
  rw [eA, eD, e2, e3, h4]
  generalize X (-p).toNat = a at *
  generalize X p.toNat = c at *
  generalize Z 1074 = f at *
  generalize Z (lp p - 127).toNat = g at *
  generalize Z (128 + (sP b p).toNat) = i at *
  generalize Z (64 - b) = j at *
  generalize Z (127 - lp p).toNat = k at *
  generalize Z (1074 - eP b p).toNat = l at *
  generalize Z 2 = m at *
  have q1 : d * c * f * (m * (a * g * i)) = d * c * a * (f * (m * (g * i))) := by ac_rfl
  have q2 : d * j * (c * k) * (a * l) = d * c * a * (j * (k * l)) := by ac_rfl
  rw [q1, q2, hz]
theorem par_hi {d b : Nat} {p : Int} (h1 : -348 ≤ p) (h2 : p ≤ 347) (hu : d < Z b) : 4 * (vN d p * Z 1074) < 72057594037927928 * (vD p * Z (1074 - eP b p).toNat) := by
  obtain ⟨_, hU⟩ := okB_at h1 h2
  unfold vN vD
  have he : 1021 + b + lp p ≤ ((1074 - eP b p).toNat : Int) := by unfold eP; omega
  generalize (1074 - eP b p).toNat = E at *
  have hG : 0 < Z (-lp p).toNat := Z_pos _
  apply Nat.lt_of_mul_lt_mul_right (a := Z (-lp p).toNat * 18014398509481984)
  obtain ⟨j, hj⟩ : ∃ j, E + (-lp p).toNat = 1021 + b + (lp p).toNat + j := ⟨E + (-lp p).toNat - (1021 + b + (lp p).toNat), by omega⟩
  have hz : Z E * Z (-lp p).toNat = Z 1021 * Z b * Z (lp p).toNat * Z j := by rw [Z_mul, Z_mul, Z_mul, Z_mul, hj]
  have h53 : Z 1074 = Z 1021 * 9007199254740992 := by rw [show (9007199254740992 : Nat) = Z 53 from rfl, Z_mul]
  have hj1 : 1 ≤ Z j := Z_pos j
  have h21 : 0 < Z 1021 := Z_pos _
  have hX : 0 < X (-p).toNat := X_pos _
  have hlp : 0 < Z (lp p).toNat := Z_pos _
  generalize X p.toNat = a at *
  generalize X (-p).toNat = c at *
  generalize Z (-lp p).toNat = g at *
  generalize Z (lp p).toNat = l at *
  generalize Z 1074 = f at *
  generalize Z 1021 = f2 at *
  generalize Z E = z at *
  generalize Z b = y at *
  generalize Z j = v at *
  subst h53
  have s1 : d * (a * g * 18014398509481984) ≤ d * (36028797018963952 * (l * c)) := Nat.mul_le_mul_left _ hU
  have s2 : d * (36028797018963952 * (l * c)) < y * (36028797018963952 * (l * c)) := Nat.mul_lt_mul_of_pos_right hu (Nat.mul_pos (by decide) (Nat.mul_pos hlp hX))
  have s3 : d * (a * g * 18014398509481984) < y * (36028797018963952 * (l * c)) := Nat.lt_of_le_of_lt s1 s2
  have s4 : d * (a * g * 18014398509481984) * (f2 * 36028797018963968) < y * (36028797018963952 * (l * c)) * (f2 * 36028797018963968) := Nat.mul_lt_mul_of_pos_right s3 (by omega)
  have e1 : 4 * (d * a * (f2 * 9007199254740992)) * (g * 18014398509481984) = d * (a * g * 18014398509481984) * (f2 * 36028797018963968) := by
    rw [show (36028797018963968 : Nat) = 4 * 9007199254740992 from rfl]; ac_rfl
  have e2 : 72057594037927928 * (c * z) * (g * 18014398509481984) = (f2 * y * l * v) * (c * (72057594037927928 * 18014398509481984)) := by
    have : 72057594037927928 * (c * z) * (g * 18014398509481984) = (z * g) * (c * (72057594037927928 * 18014398509481984)) := by ac_rfl
    rw [this, hz]
  have e3 : y * (36028797018963952 * (l * c)) * (f2 * 36028797018963968) = (f2 * y * l) * (c * (36028797018963952 * 36028797018963968)) := by ac_rfl
  rw [e1, e2]
  refine Nat.lt_of_lt_of_le s4 ?_
  rw [e3]
  refine Nat.mul_le_mul (Nat.le_mul_of_pos_right _ hj1) (Nat.mul_le_mul_left _ (by decide))
theorem par_lo {d b : Nat} {p : Int} (h1 : -348 ≤ p) (h2 : p ≤ 347) (hb0 : 1 ≤ b) (hl : Z (b - 1) ≤ d) : (1074 - eP b p).toNat = 0 ∨ 18014398509481984 * (vD p * Z (1074 - eP b p).toNat) ≤ 4 * (vN d p * Z 1074) := by
  by_cases hc : (1074 - eP b p).toNat = 0
  · exact .inl hc
  right
  obtain ⟨hL, _⟩ := okB_at h1 h2
  unfold vN vD
  have he : ((1074 - eP b p).toNat : Int) = 1021 + b + lp p := by unfold eP at *; omega
  generalize (1074 - eP b p).toNat = E at *
  have hG : 0 < Z (-lp p).toNat := Z_pos _
  apply Nat.le_of_mul_le_mul_right (c := Z (-lp p).toNat) _ hG
  have hj : E + (-lp p).toNat = 1022 + (b - 1) + (lp p).toNat := by omega
  have hz : Z E * Z (-lp p).toNat = Z 1022 * Z (b - 1) * Z (lp p).toNat := by rw [Z_mul, Z_mul, Z_mul, hj]
  have h53 : Z 1074 = Z 1022 * 4503599627370496 := by rw [show (4503599627370496 : Nat) = Z 52 from rfl, Z_mul]
  generalize X p.toNat = a at *
  generalize X (-p).toNat = c at *
  generalize Z (-lp p).toNat = g at *
  generalize Z (lp p).toNat = l at *
  generalize Z 1074 = f at *
  generalize Z 1022 = f2 at *
  generalize Z E = z at *
  generalize Z (b - 1) = y at *
  subst h53
  have e1 : 18014398509481984 * (c * z) * g = f2 * 18014398509481984 * (y * (l * c)) := by
    have : 18014398509481984 * (c * z) * g = 18014398509481984 * c * (z * g) := by ac_rfl
    rw [this, hz]; ac_rfl
  have e2 : 4 * (d * a * (f2 * 4503599627370496)) * g = f2 * 18014398509481984 * (d * (a * g)) := by
    rw [show (18014398509481984 : Nat) = 4 * 4503599627370496 from rfl]; ac_rfl
  rw [e1, e2]
  exact Nat.mul_le_mul_left _ (Nat.mul_le_mul hl hL)
/-- what parseFloat64 answers, as bits -/
def parB (d b : Nat) (p : Int) : Nat :=
  if 64 ≤ sP b p then 0
  else let u := cut (d * 2 ^ (64 - b)) (hiOf p) (loOf p) (sP b p).toNat
    min (KSh (1074 - eP b p).toNat u * 4503599627370496 + kSh u) INF
theorem par_small {d b : Nat} {p : Int} (h1 : -348 ≤ p) (h2 : p ≤ 347) (hu : d < Z b) (hs : 64 ≤ sP b p) : Rnd (vN d p) (vD p) 0 := by
  have h := par_hi h1 h2 hu
  have he : eP b p = 1074 ∧ b + lp p ≤ -1077 := by unfold sP eP at *; omega
  obtain ⟨_, hU⟩ := okB_at h1 h2
  refine ⟨by decide, .inl rfl, .inr (.inl ?_)⟩
  have hf : hf 0 = 1 := by rw [hf_low (by decide)]
  rw [hf, Nat.one_mul]
  unfold vN vD
  have hG : 0 < Z (-lp p).toNat := Z_pos _
  obtain ⟨j, hj⟩ : ∃ j, (-lp p).toNat = 1077 + b + j := ⟨(-lp p).toNat - (1077 + b), by omega⟩
  rw [show (lp p).toNat = 0 by omega, hj] at hU
  have hz : Z (1077 + b + j) = 4 * Z 1075 * Z b * Z j := by
    rw [show (4 : Nat) = Z 2 from rfl, Z_mul, Z_mul, Z_mul]
  rw [hz] at hU
  have hj1 : 1 ≤ Z j := Z_pos j
  have h75 : 0 < Z 1075 := Z_pos _
  have hX : 0 < X (-p).toNat := X_pos _
  have h0 : Z 0 = 1 := rfl
  rw [h0, Nat.one_mul] at hU
  generalize X p.toNat = a at *
  generalize X (-p).toNat = c at *
  generalize Z 1075 = f at *
  generalize Z b = y at *
  generalize Z j = v at *
  -- a * (4 f y v) * 2^54 ≤ (2^55 - 16) c
  have k1 : d * a * f ≤ a * (f * y * v) := by
    have : d * a * f = a * (f * d) := by ac_rfl
    rw [this]
    refine Nat.mul_le_mul_left _ ?_
    rw [Nat.mul_assoc]
    refine Nat.mul_le_mul_left _ ?_
    exact Nat.le_trans (Nat.le_of_lt hu) (Nat.le_mul_of_pos_right _ hj1)
  have k2 : a * (4 * f * y * v) * 18014398509481984 = 72057594037927936 * (a * (f * y * v)) := by
    rw [show (72057594037927936 : Nat) = 4 * 18014398509481984 from rfl]; ac_rfl
  rw [k2] at hU
  omega
theorem par_rnd {d b : Nat} {p : Int} (h1 : -348 ≤ p) (h2 : p ≤ 347) (hb : b ≤ 64) (hb0 : 1 ≤ b) (hl : Z (b - 1) ≤ d) (hu : d < Z b) : Rnd (vN d p) (vD p) (parB d b p) := by
  unfold parB
  split
  · rename_i hs
    exact par_small h1 h2 hu hs
  · exact (q4_rnd (X_pos _) (par_q4 h1 h2 hb hb0 hl hu) (par_lo h1 h2 hb0 hl) (par_hi h1 h2 hu)).1
end FS
end Go.Proofs.YtibmgmgdbicdlaaGreatDoor
