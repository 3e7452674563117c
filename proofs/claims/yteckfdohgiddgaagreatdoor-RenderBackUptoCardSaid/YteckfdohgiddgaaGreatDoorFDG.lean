/- text: the digits of a number (weirref02/show.go). digits: the shortest decimal, digit by digit (weirref02/show.go). What the reference's shortest hands to its search digit by digit, in plain numbers (weirref02/show.go). No function of the program in sight. How long a float's text is, by its bits alone. Plain arithmetic. -/
import Derived.Test.YteckfdohgiddgaaGreatDoorFPrs
import Derived.Test.YteckfdohgiddgaaGreatDoorFShow
import Derived.Test.YteckfdohgiddgaaGreatDoorBase4
import Derived.Test.YteckfdohgiddgaaGreatDoorFNat
namespace Go.Proofs.YteckfdohgiddgaaGreatDoor
open Go.RowKit
set_option linter.unusedVariables false
set_option linter.unusedSimpArgs false
namespace FB
def txt (d : Nat) : List UInt8 := if d = 0 then [] else Lib.decDigits d
end FB
end Go.Proofs.YteckfdohgiddgaaGreatDoor
namespace Go.Proofs.YteckfdohgiddgaaGreatDoor
open Go.RowKit
set_option linter.unusedVariables false
set_option linter.unusedSimpArgs false
namespace FS
/-- where digits stands at the head of a round -/
structure At (ev : Bool) (L U V κ N D Un Ov i d n : Nat) : Prop where
  e : d * D + n = N * 10 ^ i
  lt : n < D
  no : (i = 0 ∧ In ev L U (T κ)) ∨ ∀ e, ¬ In ev L U (e * T (κ - i))
theorem At.step {ev : Bool} {L U V κ N D Un Ov i d n c : Nat} (A : At ev L U V κ N D Un Ov i d n) (h1 : c * D ≤ n * 10) (h2 : n * 10 < (c + 1) * D) :
    (d * 10 + c) * D + (n * 10 - c * D) = N * 10 ^ (i + 1) ∧ n * 10 - c * D < D := by
  have e := A.e
  rw [Nat.add_mul, Nat.one_mul] at h2
  constructor
  · rw [Nat.pow_succ, ← Nat.mul_assoc, ← e, Nat.add_mul, Nat.add_mul, Nat.mul_right_comm]
    omega
  · omega
/-- does one side hold, as the sign tells -/
def sg (ev : Bool) (p : Int) : Prop := p < 0 ∨ (p = 0 ∧ ev = true)
end FS
theorem FB.Lt.ten {k N i : Nat} (h : FB.Lt k N) (hi : i ≤ 18) : FB.Lt (k + 2) (N * 10 ^ i) :=
  h.mul (Nat.lt_of_le_of_lt (Nat.pow_le_pow_right (by decide) hi) (by decide))
theorem FB.Lt.up {k j N : Nat} (h : FB.Lt k N) (hj : k ≤ j) : FB.Lt j N := Nat.lt_of_lt_of_le h (Nat.pow_le_pow_right (by decide) hj)
end Go.Proofs.YteckfdohgiddgaaGreatDoor
namespace Go.Proofs.YteckfdohgiddgaaGreatDoor
namespace FS
set_option linter.unusedVariables false
def shN (m : Nat) (e : Int) : Nat := m * 4 * 2 ^ e.toNat
def shD (e : Int) : Nat := 4 * 2 ^ (-e).toNat
theorem DG.abs {ev : Bool} {m u D E κ s : Nat} (hm1 : 1 ≤ m) (hm : m < 9007199254740992) (hu : 0 < u) (hE : 0 < E) (hD : 0 < D) (hs : s = 1 ∨ s = 2) (unit : ∀ q, q * u * D = q * E * T κ)
    (lt : m * 4 * E < D) (ge : D ≤ 10 * (m * 4 * E)) (sp : 10 ≤ m ∨ (T κ ≤ (4 * m + 2) * u → 19 * D < 20 * (m * 4 * E))) : DG ev (4 * m * u - s * u) (4 * m * u + 2 * u) (4 * m * u) κ (m * 4 * E) D (s * E) (2 * E) := by
  have hT := T_pos κ
  have e4 : 4 * m * u = 4 * (m * u) := Nat.mul_assoc _ _ _
  have e4E : m * 4 * E = 4 * (m * E) := by rw [Nat.mul_comm m, Nat.mul_assoc]
  have hx : u ≤ m * u := Nat.le_mul_of_pos_left _ hm1
  have hy : E ≤ m * E := Nat.le_mul_of_pos_left _ hm1
  have hsu : s * u ≤ 2 * u ∧ 1 * u ≤ s * u := by rcases hs with rfl | rfl <;> omega
  have hsE : 1 * E ≤ s * E := by rcases hs with rfl | rfl <;> omega
  have hVT : 4 * m * u < T κ := by
    have h1 := Nat.mul_lt_mul_of_pos_right lt hT
    rw [Nat.mul_comm m 4, ← unit, Nat.mul_comm _ D] at h1
    rw [Nat.mul_comm D] at h1
    exact Nat.lt_of_mul_lt_mul_right (Nat.mul_comm D _ ▸ h1)
  refine ⟨hD, by omega, by omega, by omega, ?_, ?_, ?_, lt, ge, fun h => ?_, by omega, ?_⟩
  · rw [unit, Nat.mul_comm m]
  · rw [show 4 * m * u - (4 * m * u - s * u) = s * u by omega, unit]
  · rw [show 4 * m * u + 2 * u - 4 * m * u = 2 * u by omega, unit]
  · rcases sp with sp | sp
    · have h1 := h.le.2
      have h10 : 10 * u ≤ m * u := Nat.mul_le_mul_right _ sp
      have h2 : 19 * T κ < 20 * (4 * m * u) := by omega
      have h3 := Nat.mul_lt_mul_of_pos_right h2 hD
      rw [Nat.mul_assoc 20, unit, Nat.mul_comm 4 m] at h3
      have h4 : 19 * D * T κ < 20 * (m * 4 * E) * T κ := by
        rw [Nat.mul_assoc 20, Nat.mul_assoc 19, Nat.mul_comm D, ← Nat.mul_assoc 19]
        exact h3
      exact Nat.lt_of_mul_lt_mul_right h4
    · apply sp
      have h1 := h.le.2
      rw [Nat.add_mul]
      exact h1
  · have h1 : m * E ≤ 9007199254740991 * E := Nat.mul_le_mul_right _ (by omega)
    have h2 : (s * E + 2 * E) * 10 ^ 18 = 1000000000000000000 * (s * E + 2 * E) := by rw [Nat.mul_comm]
    rw [h2]
    omega
theorem uq_pos (e : Int) : 0 < uq e := Nat.mul_pos (Z_pos _) K4_pos
theorem unit_eq {e k : Int} {κ : Nat} (he : -1074 ≤ e) (hκ : (κ : Int) = k + 400) (q : Nat) :
    q * uq e * (shD e * 10 ^ k.toNat) = q * (2 ^ e.toNat * 10 ^ (-k).toNat) * T κ := by
  have h2 : Z (e + 1138).toNat * shD e = 2 ^ e.toNat * Z 1140 := by
    show Z _ * (Z 2 * Z (-e).toNat) = Z e.toNat * Z 1140
    rw [Z_mul, Z_mul, Z_mul]
    congr 1
    omega
  have h10 : K4 * 10 ^ k.toNat = 10 ^ (-k).toNat * X κ := by
    rw [← K4_def]
    show X 400 * X k.toNat = X (-k).toNat * X κ
    rw [X_mul, X_mul]
    congr 1
    omega
  have e1 : q * uq e * (shD e * 10 ^ k.toNat) = q * ((Z (e + 1138).toNat * shD e) * (K4 * 10 ^ k.toNat)) := by
    unfold uq
    simp only [Nat.mul_assoc, Nat.mul_left_comm]
  have e2 : q * (2 ^ e.toNat * 10 ^ (-k).toNat) * T κ = q * ((2 ^ e.toNat * Z 1140) * (10 ^ (-k).toNat * X κ)) := by
    unfold T
    simp only [Nat.mul_assoc, Nat.mul_left_comm, Nat.mul_comm]
  rw [e1, e2, h2, h10]
theorem shD_pos (e : Int) : 0 < shD e := Nat.mul_pos (by decide) (Nat.pow_pos (by decide))
theorem Z_mono {a b : Nat} (h : a ≤ b) : Z a ≤ Z b := Nat.pow_le_pow_right (by decide) h
theorem k_of {n d : Nat} {k k0 : Int} (a : FB.lt10 n d k) (b : ¬ FB.lt10 n d (k - 1)) (a0 : FB.lt10 n d k0) (b0 : ¬ FB.lt10 n d (k0 - 1)) : k = k0 := by
  rcases Int.lt_trichotomy k k0 with c | c | c
  · exact absurd (FB.lt10_mono a (by omega)) b0
  · exact c
  · exact absurd (FB.lt10_mono a0 (by omega)) b
def smB (m : Nat) (k : Int) : Bool := decide (shN m (-1074) * 10 ^ (-k).toNat < shD (-1074) * 10 ^ k.toNat) && !decide (shN m (-1074) * 10 ^ (-(k - 1)).toNat < shD (-1074) * 10 ^ (k - 1).toNat) &&
  (!decide (T (k + 400).toNat ≤ (4 * m + 2) * uq (-1074)) || decide (19 * (shD (-1074) * 10 ^ k.toNat) < 20 * (m * 4 * (2 ^ (-1074 : Int).toNat * 10 ^ (-k).toNat))))
theorem smAll : (smB 1 (-323) && smB 2 (-323) && smB 3 (-322) && smB 4 (-322) && smB 5 (-322) && smB 6 (-322) && smB 7 (-322) && smB 8 (-322) && smB 9 (-322)) = true := by decide +kernel
theorem sm {m : Nat} (h1 : 1 ≤ m) (h9 : m < 10) : ∃ k : Int, smB m k = true ∧ (k = -323 ∨ k = -322) := by
  have h := smAll
  simp only [Bool.and_eq_true] at h
  obtain ⟨⟨⟨⟨⟨⟨⟨⟨a1, a2⟩, a3⟩, a4⟩, a5⟩, a6⟩, a7⟩, a8⟩, a9⟩ := h
  have : m = 1 ∨ m = 2 ∨ m = 3 ∨ m = 4 ∨ m = 5 ∨ m = 6 ∨ m = 7 ∨ m = 8 ∨ m = 9 := by omega
  rcases this with rfl | rfl | rfl | rfl | rfl | rfl | rfl | rfl | rfl
  · exact ⟨_, a1, .inl rfl⟩
  · exact ⟨_, a2, .inl rfl⟩
  · exact ⟨_, a3, .inr rfl⟩
  · exact ⟨_, a4, .inr rfl⟩
  · exact ⟨_, a5, .inr rfl⟩
  · exact ⟨_, a6, .inr rfl⟩
  · exact ⟨_, a7, .inr rfl⟩
  · exact ⟨_, a8, .inr rfl⟩
  · exact ⟨_, a9, .inr rfl⟩
theorem sm_sp {m : Nat} {k : Int} {κ : Nat} (h1 : 1 ≤ m) (h9 : m < 10) (a : FB.lt10 (shN m (-1074)) (shD (-1074)) k) (b : ¬ FB.lt10 (shN m (-1074)) (shD (-1074)) (k - 1)) (hκ : (κ : Int) = k + 400)
    (h : T κ ≤ (4 * m + 2) * uq (-1074)) : 19 * (shD (-1074) * 10 ^ k.toNat) < 20 * (m * 4 * (2 ^ (-1074 : Int).toNat * 10 ^ (-k).toNat)) := by
  obtain ⟨k0, hk0, _⟩ := sm h1 h9
  unfold smB at hk0
  simp only [Bool.and_eq_true, Bool.or_eq_true, Bool.not_eq_true', decide_eq_true_eq, decide_eq_false_iff_not] at hk0
  obtain ⟨⟨a0, b0⟩, c0⟩ := hk0
  have := k_of a b a0 b0
  subst this
  have hκ2 : κ = (k + 400).toNat := by omega
  subst hκ2
  rcases c0 with c0 | c0
  · exact absurd h c0
  · exact c0
theorem DG.of {ev : Bool} {m : Nat} {e k : Int} {κ s : Nat} (hm1 : 1 ≤ m) (hm : m < 9007199254740992) (he : -1074 ≤ e) (he2 : e ≤ 971) (h10 : 10 ≤ m ∨ e = -1074) (hs : s = 1 ∨ s = 2)
    (a : FB.lt10 (shN m e) (shD e) k) (b : ¬ FB.lt10 (shN m e) (shD e) (k - 1)) (hκ : (κ : Int) = k + 400) :
    DG ev (4 * m * uq e - s * uq e) (4 * m * uq e + 2 * uq e) (4 * m * uq e) κ (shN m e * 10 ^ (-k).toNat) (shD e * 10 ^ k.toNat) (s * 2 ^ e.toNat * 10 ^ (-k).toNat) (2 * 2 ^ e.toNat * 10 ^ (-k).toNat) := by
  have eN : shN m e * 10 ^ (-k).toNat = m * 4 * (2 ^ e.toNat * 10 ^ (-k).toNat) := by unfold shN; rw [Nat.mul_assoc]
  have hp2 : ∀ n : Nat, 0 < 2 ^ n := fun n => Nat.pow_pos (by decide)
  have hp10 : ∀ n : Nat, 0 < 10 ^ n := fun n => Nat.pow_pos (by decide)
  have key := DG.abs (ev := ev) (m := m) (u := uq e) (D := shD e * 10 ^ k.toNat) (E := 2 ^ e.toNat * 10 ^ (-k).toNat) (κ := κ) (s := s) hm1 hm (uq_pos e) (Nat.mul_pos (hp2 _) (hp10 _)) (Nat.mul_pos (shD_pos e) (hp10 _)) hs
    (unit_eq he hκ) (by rw [← eN]; exact a) (by
      rw [← eN]
      unfold FB.lt10 at b
      have b := Nat.le_of_not_lt b
      rcases Int.lt_or_le 0 k with c | c
      · have e1 : k.toNat = (k - 1).toNat + 1 := by omega
        have e2 : (-(k - 1)).toNat = (-k).toNat := by omega
        rw [e2] at b
        rw [e1, Nat.pow_succ, ← Nat.mul_assoc, Nat.mul_comm]
        exact Nat.mul_le_mul_left 10 b
      · have e1 : (k - 1).toNat = k.toNat := by omega
        have e2 : (-(k - 1)).toNat = (-k).toNat + 1 := by omega
        rw [e1, e2, Nat.pow_succ, ← Nat.mul_assoc, Nat.mul_comm _ 10] at b
        exact b) (by
      by_cases c : 10 ≤ m
      · exact .inl c
      · have : e = -1074 := by omega
        subst this
        exact .inr (sm_sp hm1 (by omega) a b hκ))
  rw [eN, Nat.mul_assoc s, Nat.mul_assoc 2]
  exact key
theorem X_mono {a b : Nat} (h : a ≤ b) : X a ≤ X b := Nat.pow_le_pow_right (by decide) h
end FS
end Go.Proofs.YteckfdohgiddgaaGreatDoor
namespace Go.Proofs.YteckfdohgiddgaaGreatDoor
namespace FS
set_option linter.unusedVariables false
set_option linter.unusedSimpArgs false
theorem mOf_lt' (f : Nat) : mOf f < 9007199254740992 := by unfold mOf mt; split <;> omega
theorem eOf_bd (f : Nat) (hx : ex f ≠ 2047) : -1074 ≤ eOf f ∧ eOf f ≤ 971 := by
  have : ex f < 2048 := Nat.mod_lt _ (by decide)
  unfold eOf
  split <;> omega
theorem nd_low : ∀ d : Nat, 0 < d → 10 ^ (Lib.nDigits d - 1) ≤ d := by
  intro d
  induction d using Nat.strongRecOn with
  | _ d ih =>
    intro h
    by_cases c : d < 10
    · rw [Lib.nDigits_small c, Nat.sub_self, Nat.pow_zero]; exact h
    · have h1 := ih (d / 10) (by omega) (by omega)
      have hp := Lib.nDigits_pos (d / 10)
      rw [Lib.nDigits_big c]
      have e : Lib.nDigits (d / 10) + 1 - 1 = (Lib.nDigits (d / 10) - 1) + 1 := by omega
      rw [e, Nat.pow_succ]
      have := Nat.mul_le_mul_right 10 h1
      omega
theorem nd_up {d k : Nat} (h0 : 0 < d) (h : d < 10 ^ k) : Lib.nDigits d ≤ k := by
  have h1 := nd_low d h0
  have h2 : 10 ^ (Lib.nDigits d - 1) < 10 ^ k := Nat.lt_of_le_of_lt h1 h
  have := (Nat.pow_lt_pow_iff_right (show 1 < 10 by decide)).1 h2
  omega
/-- some multiple lies in an interval wider than the step -/
theorem mult_in {ev : Bool} {L U τ : Nat} (hτ : 0 < τ) (h : L + τ < U) : ∃ e, In ev L U (e * τ) := by
  refine ⟨L / τ + 1, .inl ?_, .inl ?_⟩
  · rw [Nat.add_mul, Nat.one_mul]
    have := Nat.lt_mul_div_succ L hτ
    rw [Nat.mul_add, Nat.mul_one, Nat.mul_comm] at this
    exact this
  · rw [Nat.add_mul, Nat.one_mul]
    have := Nat.div_mul_le_self L τ
    omega
theorem big7 : T 76 < 3 * uq (-1074) := by decide +kernel
theorem uq_mono {a b : Int} (h : a ≤ b) : uq a ≤ uq b := Nat.mul_le_mul_right _ (Z_mono (by omega))
theorem big8 : 36028797018963968 * uq 971 < T 709 := by decide +kernel
theorem Told.bd {f d t : Nat} (hx : ex f ≠ 2047) (hm : mOf f ≠ 0) (h : Told f d t) (h10 : d % 10 ≠ 0) : 76 ≤ t ∧ d < 1000000000000000000 ∧ Lib.nDigits d + t ≤ 709 := by
  have hml := mOf_lt' f
  obtain ⟨he1, he2⟩ := eOf_bd f hx
  unfold Told at h
  generalize hs : (if sOf f then 1 else 2) = s at h
  have hs2 : s = 1 ∨ s = 2 := by subst hs; split <;> simp
  clear hs
  generalize mOf f = m at *
  generalize eOf f = e at *
  have hu := uq_pos e
  have hmu : uq e ≤ m * uq e := Nat.le_mul_of_pos_left _ (by omega)
  have hmu2 : m * uq e ≤ 9007199254740991 * uq e := Nat.mul_le_mul_right _ (by omega)
  have e4 : 4 * m * uq e = 4 * (m * uq e) := Nat.mul_assoc _ _ _
  have hsu : s * uq e = uq e ∨ s * uq e = 2 * uq e := by rcases hs2 with rfl | rfl <;> simp
  -- the step above is wider than the interval
  have hw : 3 * uq e ≤ T (t + 1) := by
    rcases Nat.lt_or_ge (T (t + 1)) (3 * uq e) with c | c
    · obtain ⟨q, hq⟩ := mult_in (ev := (m % 2 == 0)) (L := 4 * m * uq e - s * uq e) (U := 4 * m * uq e + 2 * uq e) (T_pos (t + 1)) (by omega)
      exact absurd hq (h.c q)
    · exact c
  have hle := h.i.le.2
  have hT := T_pos t
  refine ⟨?_, ?_, ?_⟩
  · rcases Nat.lt_or_ge t 76 with c | c
    · have h1 : T (t + 1) ≤ T 76 := T_mono c
      have h2 : uq (-1074) ≤ uq e := uq_mono he1
      have := big7
      omega
    · exact c
  · rw [T_succ] at hw
    rcases Nat.lt_or_ge d 1000000000000000000 with c | c
    · exact c
    · exfalso
      have h1 := Nat.mul_le_mul_right (T t) c
      omega
  · have hd0 : 0 < d := by omega
    have h1 : uq e ≤ uq 971 := uq_mono he2
    have h2 : d * T t < T 709 := by
      have := big8
      omega
    rcases Nat.lt_or_ge 709 (Lib.nDigits d + t) with c | c
    · exfalso
      have hn := Lib.nDigits_pos d
      have h3 : 10 ^ (Lib.nDigits d - 1) ≤ d := nd_low d hd0
      have h4 : T 709 ≤ T (t + (Lib.nDigits d - 1)) := T_mono (by omega)
      rw [T_add] at h4
      have h5 := Nat.mul_le_mul_right (T t) h3
      omega
    · exact c
theorem plainT_len {D : List UInt8} {k : Int} (h1 : D.length ≤ 18) (h0 : 1 ≤ D.length) (h2 : k ≤ 309) (h3 : (D.length : Int) - k ≤ 324) : (plainT D k).length ≤ 326 ∧ 1 ≤ (plainT D k).length := by
  unfold plainT
  split
  · simp; omega
  · split
    · simp; omega
    · simp; omega
theorem Shown.len {f : Nat} {s : List UInt8} (h : Shown f s) : s.length ≤ 327 ∧ 1 ≤ s.length := by
  have hsg : ∀ b, (sgn b).length ≤ 1 := fun b => by cases b <;> simp [sgn]
  rcases h with ⟨a, b⟩ | ⟨a, b, c⟩ | ⟨a, b, d, t, h1, h2, h3⟩
  · rw [b]
    split
    · split <;> simp
    · simp
  · rw [c, List.length_append]
    have := hsg (ng f)
    simp; omega
  · rw [h3, List.length_append]
    have := hsg (ng f)
    obtain ⟨b1, b2, b3⟩ := Told.bd a b h1 h2
    have hn18 : Lib.nDigits d ≤ 18 := nd_up (by omega) (by rw [show (10 : Nat) ^ 18 = 1000000000000000000 by decide]; exact b2)
    have hn := Lib.nDigits_pos d
    have hl := Lib.decDigits_length d
    obtain ⟨q1, q2⟩ := plainT_len (D := Lib.decDigits d) (k := (Lib.nDigits d : Int) + t - 400) (by omega) (by omega) (by omega) (by omega)
    omega
end FS
end Go.Proofs.YteckfdohgiddgaaGreatDoor
