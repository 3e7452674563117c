/- The decimals with one digit less next to the shortest one don't read as the float. No function of the program in sight. -/
import Derived.Test.YtibmgmgdbicdlaaGreatDoorPBackMath
namespace Go.Proofs.YtibmgmgdbicdlaaGreatDoor
set_option linter.unusedVariables false
namespace FS
theorem Told.d17 {f d t : Nat} (hx : ex f ≠ 2047) (hm : mOf f ≠ 0) (h : Told f d t) (h10 : d % 10 ≠ 0) : d < 100000000000000000 := by
  have hml := mOf_lt' f
  obtain ⟨he1, he2⟩ := eOf_bd f hx
  have hs1 : sOf f = true → mOf f = 4503599627370496 := fun hs => (of_decide_eq_true hs).1
  unfold Told at h
  have hle := h.i.le.2
  generalize mOf f = m at *
  generalize eOf f = e at *
  have hu := uq_pos e
  have hmu : uq e ≤ m * uq e := Nat.le_mul_of_pos_left _ (by omega)
  have e4 : 4 * m * uq e = 4 * (m * uq e) := Nat.mul_assoc _ _ _
  have hT := T_pos t
  rcases Nat.lt_or_ge d 100000000000000000 with c | c
  · exact c
  exfalso
  have h1 := Nat.mul_le_mul_right (T t) c
  cases hs : sOf f with
  | true =>
    rw [hs] at h
    simp only [if_true] at h
    rw [hs1 hs] at *
    have hw : 3 * uq e ≤ T (t + 1) := by
      rcases Nat.lt_or_ge (T (t + 1)) (3 * uq e) with c | c
      · obtain ⟨q, hq⟩ := mult_in (ev := (4503599627370496 % 2 == 0)) (L := 4 * 4503599627370496 * uq e - 1 * uq e) (U := 4 * 4503599627370496 * uq e + 2 * uq e) (T_pos (t + 1)) (by omega)
        exact absurd hq (h.c q)
      · exact c
    rw [T_succ] at hw
    omega
  | false =>
    rw [hs] at h
    simp only [Bool.false_eq_true, if_false] at h
    have hmu2 : m * uq e ≤ 9007199254740991 * uq e := Nat.mul_le_mul_right _ (by omega)
    have hw : 4 * uq e ≤ T (t + 1) := by
      rcases Nat.lt_or_ge (T (t + 1)) (4 * uq e) with c | c
      · obtain ⟨q, hq⟩ := mult_in (ev := (m % 2 == 0)) (L := 4 * m * uq e - 2 * uq e) (U := 4 * m * uq e + 2 * uq e) (T_pos (t + 1)) (by omega)
        exact absurd hq (h.c q)
      · exact c
    rw [T_succ] at hw
    omega
def loQ (f : Nat) : Nat := 4 * mOf f * uq (eOf f) - (if sOf f then 1 else 2) * uq (eOf f)
def hiQ (f : Nat) : Nat := 4 * mOf f * uq (eOf f) + 2 * uq (eOf f)
/-- what rounds to a float lies in its interval -/
theorem rnd_in {f d t : Nat} (hf63 : f < 9223372036854775808) (hx : ex f ≠ 2047) (hm : mOf f ≠ 0) (R : Rnd (vN d ((t : Int) - 400)) (vD ((t : Int) - 400)) f) : In (mOf f % 2 == 0) (loQ f) (hiQ f) (d * T t) := by
  have hI := fin_of hf63 hx
  have hpar : f % 2 = 0 → (mOf f % 2 == 0) = true := by
    rw [beq_iff_eq]; unfold mOf mt; split <;> omega
  have hf0 : f ≠ 0 := fun h => hm (by subst h; decide)
  have hlo := R.lo.resolve_left hf0
  have hhi := R.hi.resolve_left (by omega)
  have eb := hf_below hx hm hI
  have ea := hf_eq f
  have hu : uq (eOf f) = Z (eOf f + 1074).toNat * Z 64 * X 400 := by
    have hge := eOf_ge f
    unfold uq; rw [Z_mul, show (eOf f + 1138).toNat = (eOf f + 1074).toNat + 64 by omega]; rfl
  have hT : T t = X t * (Z 1075 * Z 64 * 2) := by
    unfold T; rw [Z_mul, show (2 : Nat) = Z 1 from rfl, Z_mul]
  have hv : d * X t * vD ((t : Int) - 400) = vN d ((t : Int) - 400) * X 400 := by
    unfold vN vD
    have : X t * X (-((t : Int) - 400)).toNat = X ((t : Int) - 400).toNat * X 400 := by rw [X_mul, X_mul]; exact congrArg X (by omega)
    rw [Nat.mul_assoc, this, Nat.mul_assoc]
  unfold In loQ hiQ
  generalize vN d ((t : Int) - 400) = n at *
  have hd0 : 0 < vD ((t : Int) - 400) := X_pos _
  generalize vD ((t : Int) - 400) = e at *
  have h64 : 0 < Z 64 := Z_pos _
  have h4 : 0 < X 400 := X_pos _
  have hm4 : (if sOf f then 1 else 2) ≤ 4 * mOf f := by split <;> omega
  generalize hc : (if sOf f then 1 else 2) = c at *
  generalize Z (eOf f + 1074).toNat = z at *
  generalize Z 1075 = y at *
  generalize Z 64 = k at *
  generalize X 400 = x4 at *
  generalize X t = xt at *
  generalize mOf f = m at *
  have sc1 : ∀ a : Nat, a * uq (eOf f) * e = a * z * e * (k * x4) := fun a => by rw [hu]; ac_rfl
  have sc2 : d * T t * e = n * y * 2 * (k * x4) := by
    rw [hT]
    have : d * (xt * (y * k * 2)) * e = (d * xt * e) * (y * k * 2) := by ac_rfl
    rw [this, hv]; ac_rfl
  have hkx : 0 < k * x4 := Nat.mul_pos h64 h4
  have low : (4 * m * uq (eOf f) - c * uq (eOf f)) = (4 * m - c) * uq (eOf f) := (Nat.sub_mul _ _ _).symm
  have upp : (4 * m * uq (eOf f) + 2 * uq (eOf f)) = (4 * m + 2) * uq (eOf f) := (Nat.add_mul _ _ _).symm
  rw [low, upp]
  have lt1 : ∀ a : Nat, a * z * e < n * y * 2 → a * uq (eOf f) < d * T t := fun a ha => by
    have := Nat.mul_lt_mul_of_pos_right ha hkx
    rw [← sc1, ← sc2] at this
    exact Nat.lt_of_mul_lt_mul_right this
  have lt2 : ∀ a : Nat, n * y * 2 < a * z * e → d * T t < a * uq (eOf f) := fun a ha => by
    have := Nat.mul_lt_mul_of_pos_right ha hkx
    rw [← sc1, ← sc2] at this
    exact Nat.lt_of_mul_lt_mul_right this
  have eq1 : ∀ a : Nat, a * z * e = n * y * 2 → a * uq (eOf f) = d * T t := fun a ha => by
    have := congrArg (· * (k * x4)) ha
    simp only [← sc1, ← sc2] at this
    exact Nat.eq_of_mul_eq_mul_right hd0 this
  have L : hf (f - 1) * e * 2 = (4 * m - c) * z * e := by rw [← eb]; ac_rfl
  have U : hf f * e * 2 = (4 * m + 2) * z * e := by
    rw [ea, show 4 * m + 2 = (2 * m + 1) * 2 by omega]; ac_rfl
  refine ⟨?_, ?_⟩
  · rcases hlo with h | ⟨h, h2⟩
    · exact .inl (lt1 _ (by omega))
    · exact .inr ⟨hpar h2, eq1 _ (by omega)⟩
  · rcases hhi with h | ⟨h, h2⟩
    · exact .inl (lt2 _ (by omega))
    · exact .inr ⟨hpar h2, (eq1 _ (by omega)).symm⟩
/-- the decimal just below with one digit less, and the one just above -/
theorem short_two {f d t : Nat} (hf63 : f < 9223372036854775808) (hx : ex f ≠ 2047) (hm : mOf f ≠ 0) (h : Told f d t) (h10 : d % 10 ≠ 0) :
    (∀ b, PVal (d / 10) ((t : Int) - 399) b → b < f) ∧ (∀ b, PVal (d / 10 + 1) ((t : Int) - 399) b → f < b) := by
  have R := in_rnd hf63 hx hm h
  have hf0 : f ≠ 0 := fun h => hm (by subst h; decide)
  have ep : (t : Int) - 399 = ((t + 1 : Nat) : Int) - 400 := by omega
  have hno := h.c
  have key : ∀ e b, Rnd (vN e ((t : Int) - 399)) (vD ((t : Int) - 399)) b → b ≠ f := fun e b hb hbf => by
    subst hbf
    rw [ep] at hb
    exact hno e (rnd_in hf63 hx hm hb)
  have cross : ∀ e : Nat, vN e ((t : Int) - 399) * vD ((t : Int) - 400) = vN (10 * e) ((t : Int) - 400) * vD ((t : Int) - 399) := fun e => by
    have := v_shift (m := e) (j := 1) (p := (t : Int) - 399) (q := (t : Int) - 400) (by omega)
    rw [Nat.pow_one] at this
    rw [Nat.mul_comm 10 e, this]
  have mon : ∀ a b : Nat, a ≤ b → vN a ((t : Int) - 400) ≤ vN b ((t : Int) - 400) := fun a b hab => Nat.mul_le_mul_right _ hab
  refine ⟨fun b hb => ?_, fun b hb => ?_⟩
  · rcases hb with ⟨_, hb⟩ | ⟨_, hb⟩
    · omega
    · have h1 := key _ _ hb
      have h2 := Rnd.mono (X_pos _) (X_pos _) hb R (by show vN _ _ * vD _ ≤ vN _ _ * vD _; rw [cross]; exact Nat.mul_le_mul_right _ (mon _ _ (by omega)))
      omega
  · rcases hb with ⟨h0, _⟩ | ⟨_, hb⟩
    · omega
    · have h1 := key _ _ hb
      have h2 := Rnd.mono (X_pos _) (X_pos _) R hb (by show vN _ _ * vD _ ≤ vN _ _ * vD _; rw [cross]; exact Nat.mul_le_mul_right _ (mon _ _ (by omega)))
      omega
end FS
end Go.Proofs.YtibmgmgdbicdlaaGreatDoor
