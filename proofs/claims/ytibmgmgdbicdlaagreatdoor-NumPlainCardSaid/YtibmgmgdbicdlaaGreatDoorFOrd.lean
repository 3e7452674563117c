/- How floats stand to each other, by their bits; the whole part of a float. No function of the program in sight. -/
import Derived.Test.YtibmgmgdbicdlaaGreatDoorBase
import Derived.Laws.FloatArith
namespace Go.Proofs.YtibmgmgdbicdlaaGreatDoor
open Ieee
namespace FO
set_option linter.unusedVariables false
def INF : Nat := 9218868437227405312
/-- the rung; the sign; is it a NaN? -/
def rg (x : Nat) : Nat := x % 9223372036854775808
def sg (x : Nat) : Bool := decide (9223372036854775808 ≤ x)
def isN (x : Nat) : Bool := decide (INF < rg x)
/-- the size of a rung, in units of 2^-1074 -/
def vl (r : Nat) : Nat := if r < 4503599627370496 then r else (4503599627370496 + r % 4503599627370496) * 2 ^ (r / 4503599627370496 - 1)
/-- the place in the order -/
def kr (x : Nat) : Int := if sg x then -(rg x : Int) else rg x
theorem two52 (q t : Nat) (ht : t < 4503599627370496) : ((q + 1) * 4503599627370496 + t) % 4503599627370496 = t ∧ ((q + 1) * 4503599627370496 + t) / 4503599627370496 - 1 = q := by omega
theorem full52 (q t : Nat) (ht : t + 1 = 4503599627370496) : (q + 1) * 4503599627370496 + t + 1 = (q + 1 + 1) * 4503599627370496 + 0 := by omega
theorem vl_succ (r : Nat) : vl r < vl (r + 1) := by
  unfold vl
  by_cases h : r + 1 < 4503599627370496
  · rw [if_pos (by omega), if_pos h]; omega
  · rw [if_neg h]
    by_cases h1 : r < 4503599627370496
    · obtain rfl : r = 4503599627370495 := by omega
      rw [if_pos h1]; decide
    · rw [if_neg h1]
      obtain ⟨q, t, rfl, ht⟩ : ∃ q t, r = (q + 1) * 4503599627370496 + t ∧ t < 4503599627370496 := ⟨r / 4503599627370496 - 1, r % 4503599627370496, by omega, Nat.mod_lt _ (by decide)⟩
      obtain ⟨e1, e2⟩ := two52 q t ht
      have hp := Nat.two_pow_pos q
      rw [e1, e2]
      by_cases h2 : t + 1 < 4503599627370496
      · obtain ⟨e3, e4⟩ := two52 q (t + 1) h2
        rw [Nat.add_assoc, e3, e4]
        exact Nat.mul_lt_mul_of_pos_right (by omega) hp
      · obtain ⟨e3, e4⟩ := two52 (q + 1) 0 (by decide)
        have e5 : (q + 1) * 4503599627370496 + t + 1 = (q + 1 + 1) * 4503599627370496 + 0 := full52 q t (by omega)
        rw [e5, e3, e4, Nat.pow_succ, Nat.mul_comm (2 ^ q) 2, ← Nat.mul_assoc]
        exact Nat.mul_lt_mul_of_pos_right (by omega) hp
theorem vl_lt {r s : Nat} (h : r < s) : vl r < vl s := by
  induction h with
  | refl => exact vl_succ r
  | step h ih => exact Nat.lt_trans ih (vl_succ _)
theorem vl_lt_iff {r s : Nat} : vl r < vl s ↔ r < s := by
  constructor
  · intro h
    rcases Nat.lt_trichotomy r s with c | c | c
    · exact c
    · subst c; omega
    · have := vl_lt c; omega
  · exact vl_lt
theorem vl_zero : vl 0 = 0 := rfl
theorem read_eq {x : Nat} (hx : x < 18446744073709551616) : double.read x = if rg x < 4503599627370496 then .number (sg x) (rg x) (-1074)
    else if rg x < INF then .number (sg x) (4503599627370496 + rg x % 4503599627370496) (-1074 + (rg x / 4503599627370496 - 1 : Nat))
    else if rg x = INF then .infinity (sg x) else .nan (sg x) (rg x - INF) := by
  have hs : (x / double.signWeight % 2 == 1) = sg x := by
    rw [show double.signWeight = 9223372036854775808 from by decide]
    unfold sg
    by_cases h : 9223372036854775808 ≤ x
    · rw [decide_eq_true h, beq_iff_eq]; omega
    · rw [decide_eq_false h, beq_eq_false_iff_ne]; omega
  unfold Format.read
  simp only
  rw [hs, show double.signWeight = 9223372036854775808 from by decide, show double.binade = 4503599627370496 from by decide, show double.infRung = INF from by decide, show double.leastPlace = -1074 from by decide]
  rfl
/-- numbers: the size counted in units of 2^-1074 -/
theorem read_num {x : Nat} (hx : x < 18446744073709551616) (h : rg x < INF) : ∃ m e, double.read x = .number (sg x) m e ∧ -1074 ≤ e ∧ m * 2 ^ (e + 1074).toNat = vl (rg x) := by
  rw [read_eq hx]
  by_cases c : rg x < 4503599627370496
  · refine ⟨rg x, -1074, by rw [if_pos c], by decide, ?_⟩
    unfold vl; rw [if_pos c]; simp
  · refine ⟨_, _, by rw [if_neg c, if_pos h], by omega, ?_⟩
    unfold vl; rw [if_neg c]
    congr 2; omega
theorem compare_scale (a b : Int) (C : Nat) (hC : 0 < C) : compare a b = compare (a * C) (b * C) := by
  have hC' : (0 : Int) < C := by omega
  rcases Int.lt_trichotomy a b with h | h | h
  · rw [Int.compare_eq_lt.2 h, Int.compare_eq_lt.2 (Int.mul_lt_mul_of_pos_right h hC')]
  · subst h; rw [Int.compare_eq_eq.2 rfl, Int.compare_eq_eq.2 rfl]
  · rw [Int.compare_eq_gt.2 h, Int.compare_eq_gt.2 (Int.mul_lt_mul_of_pos_right h hC')]
theorem signed_mul (s : Bool) (m k C : Nat) : signed s m k * (C : Int) = signed s (m <<< k * C) 0 := by
  unfold signed
  cases s
  · simp
  · simp [Int.neg_mul]
theorem compare_sg {s t : Bool} {a b : Nat} : compare (signed s (vl a) 0) (signed t (vl b) 0) = compare (if s then -(a : Int) else a) (if t then -(b : Int) else b) := by
  have h1 := @vl_lt_iff a b
  have h2 := @vl_lt_iff b a
  have h3 := @vl_lt_iff 0 a
  have h4 := @vl_lt_iff 0 b
  rw [vl_zero] at h3 h4
  generalize vl a = x at *
  generalize vl b = y at *
  have hx : signed s x 0 = if s then -(x : Int) else x := by unfold signed; simp
  have hy : signed t y 0 = if t then -(y : Int) else y := by unfold signed; simp
  rw [hx, hy]
  generalize hA : (if s then -(a : Int) else a) = A
  generalize hB : (if t then -(b : Int) else b) = B
  generalize hX : (if s then -(x : Int) else x) = X
  generalize hY : (if t then -(y : Int) else y) = Y
  have k1 : X < Y ↔ A < B := by subst hA hB hX hY; cases s <;> cases t <;> simp <;> omega
  have k2 : Y < X ↔ B < A := by subst hA hB hX hY; cases s <;> cases t <;> simp <;> omega
  rcases Int.lt_trichotomy A B with h | h | h
  · rw [Int.compare_eq_lt.2 h, Int.compare_eq_lt.2 (k1.2 h)]
  · rw [Int.compare_eq_eq.2 h, Int.compare_eq_eq.2 (by omega)]
  · rw [Int.compare_eq_gt.2 h, Int.compare_eq_gt.2 (k2.2 h)]
/-- HOW TWO FLOATS STAND TO EACH OTHER -/
theorem order_eq {x y : Nat} (hx : x < 18446744073709551616) (hy : y < 18446744073709551616) : FloatKind.f64.format.order x y = if isN x || isN y then none else some (compare (kr x) (kr y)) := by
  show (double.read x).order (double.read y) = _
  have nanx : ∀ z, z < 18446744073709551616 → isN z = true → double.read z = .nan (sg z) (rg z - INF) := fun z hz h => by
    have h' : INF < rg z := of_decide_eq_true h
    have : INF = 9218868437227405312 := rfl
    rw [read_eq hz, if_neg (by omega), if_neg (by omega), if_neg (by omega)]
  have infx : ∀ z, z < 18446744073709551616 → rg z = INF → double.read z = .infinity (sg z) := fun z hz h => by
    have : INF = 9218868437227405312 := rfl
    rw [read_eq hz, if_neg (by omega), if_neg (by omega), if_pos h]
  by_cases cx : isN x = true
  · rw [nanx x hx cx, cx]; rfl
  · by_cases cy : isN y = true
    · rw [nanx y hy cy, cy]
      simp only [Bool.or_true, if_true]
      cases double.read x <;> rfl
    · rw [if_neg (by simp [cx, cy])]
      have bx : rg x ≤ INF := by simpa [isN] using cx
      have bY : rg y ≤ INF := by simpa [isN] using cy
      have hp : INF = 9218868437227405312 := rfl
      by_cases ix : rg x = INF
      · rw [infx x hx ix]
        by_cases iy : rg y = INF
        · rw [infx y hy iy]
          show some (compare (sg y).toNat (sg x).toNat) = _
          unfold kr; rw [ix, iy, hp]
          cases sg x <;> cases sg y <;> decide
        · obtain ⟨m, e, hr, _, _⟩ := read_num hy (by omega)
          rw [hr]
          show some (if sg x then Ordering.lt else .gt) = _
          congr 1
          unfold kr; rw [ix]
          cases sg x
          · simp only [Bool.false_eq_true, if_false]; rw [eq_comm, Int.compare_eq_gt]; split <;> omega
          · simp only [if_true]; rw [eq_comm, Int.compare_eq_lt]; split <;> omega
      · obtain ⟨m, e, hr, he, hv⟩ := read_num hx (by omega)
        rw [hr]
        by_cases iy : rg y = INF
        · rw [infx y hy iy]
          show some (if sg y then Ordering.gt else .lt) = _
          congr 1
          unfold kr; rw [iy]
          cases sg y
          · simp only [Bool.false_eq_true, if_false]; rw [eq_comm, Int.compare_eq_lt]; split <;> omega
          · simp only [if_true]; rw [eq_comm, Int.compare_eq_gt]; split <;> omega
        · obtain ⟨n, f, hr2, hf, hv2⟩ := read_num hy (by omega)
          rw [hr2]
          show some (compare (signed (sg x) m (e - min e f).toNat) (signed (sg y) n (f - min e f).toNat)) = _
          rw [compare_scale _ _ (2 ^ (min e f + 1074).toNat) (Nat.two_pow_pos _), signed_mul, signed_mul, Nat.shiftLeft_eq, Nat.shiftLeft_eq, Nat.mul_assoc, Nat.mul_assoc, ← Nat.pow_add, ← Nat.pow_add,
            show (e - min e f).toNat + (min e f + 1074).toNat = (e + 1074).toNat by omega, show (f - min e f).toNat + (min e f + 1074).toNat = (f + 1074).toNat by omega, hv, hv2, compare_sg]
          rfl
/-- a float held against itself -/
theorem self_eq {x : Nat} (hx : x < 18446744073709551616) : (FloatKind.f64.format.order x x == some Ordering.eq) = !isN x ∧ (FloatKind.f64.format.order x x != some Ordering.eq) = isN x := by
  rw [order_eq hx hx]
  cases h : isN x
  · simp
  · simp
theorem lt_eq {x y : Nat} (hx : x < 18446744073709551616) (hy : y < 18446744073709551616) : (FloatKind.f64.format.order x y == some Ordering.lt) = (!isN x && !isN y && decide (kr x < kr y)) := by
  rw [order_eq hx hy]
  cases isN x <;> cases isN y <;> simp
  rcases Int.lt_trichotomy (kr x) (kr y) with h | h | h
  · rw [Int.compare_eq_lt.2 h, decide_eq_true h]; rfl
  · rw [Int.compare_eq_eq.2 h, decide_eq_false (by omega)]; rfl
  · rw [Int.compare_eq_gt.2 h, decide_eq_false (by omega)]; rfl
theorem gt_eq {x y : Nat} (hx : x < 18446744073709551616) (hy : y < 18446744073709551616) : (FloatKind.f64.format.order x y == some Ordering.gt) = (!isN x && !isN y && decide (kr y < kr x)) := by
  rw [order_eq hx hy]
  cases isN x <;> cases isN y <;> simp
  rcases Int.lt_trichotomy (kr x) (kr y) with h | h | h
  · rw [Int.compare_eq_lt.2 h, decide_eq_false (by omega)]; rfl
  · rw [Int.compare_eq_eq.2 h, decide_eq_false (by omega)]; rfl
  · rw [Int.compare_eq_gt.2 h, decide_eq_true h]; rfl
theorem eq_eq {x y : Nat} (hx : x < 18446744073709551616) (hy : y < 18446744073709551616) : (FloatKind.f64.format.order x y == some Ordering.eq) = (!isN x && !isN y && decide (kr x = kr y)) := by
  rw [order_eq hx hy]
  cases isN x <;> cases isN y <;> simp
  rcases Int.lt_trichotomy (kr x) (kr y) with h | h | h
  · rw [Int.compare_eq_lt.2 h, decide_eq_false (by omega)]; rfl
  · rw [Int.compare_eq_eq.2 h, decide_eq_true h]; rfl
  · rw [Int.compare_eq_gt.2 h, decide_eq_false (by omega)]; rfl
end FO
end Go.Proofs.YtibmgmgdbicdlaaGreatDoor
namespace Go.Proofs.YtibmgmgdbicdlaaGreatDoor
open Ieee
namespace FO
set_option linter.unusedVariables false
def pw (k : Nat) : Nat := 2 ^ k
theorem pw_add (a b : Nat) : pw (a + b) = pw a * pw b := Nat.pow_add ..
theorem pw_pos (a : Nat) : 0 < pw a := Nat.two_pow_pos _
/-- 2^1074, hidden -/
def H1074 : Nat := pw 1074
/-- the whole part of a float's size -/
def whole (x : Nat) : Nat := vl (rg x) / H1074
/-- 2^63's rung -/
def R63 : Nat := 4890909195324358656
/-- what ToInt answers -/
def toI (x : Nat) : Int × Bool := if x = 14114281232179134464 then (-9223372036854775808, true) else if R63 ≤ rg x then (0, false) else (if sg x then -(whole x : Int) else whole x, true)
theorem cut_zero (s : Bool) (n drop : Nat) : Toward.zero.cut s n drop = n / 2 ^ drop := by
  unfold Toward.cut
  simp only [Nat.shiftLeft_eq, Nat.one_mul, Bool.toNat_false, Nat.add_zero]
  by_cases h : drop ≤ n.log2 + 2
  · rw [Nat.min_eq_left h]
  · rw [Nat.min_eq_right (by omega)]
    have h1 : n < 2 ^ (n.log2 + 1) := Nat.lt_log2_self
    have h2 : 2 ^ (n.log2 + 1) ≤ 2 ^ (n.log2 + 2) := Nat.pow_le_pow_right (by decide) (by omega)
    have h3 : 2 ^ (n.log2 + 1) ≤ 2 ^ drop := Nat.pow_le_pow_right (by decide) (by omega)
    rw [Nat.div_eq_of_lt (by omega), Nat.div_eq_of_lt (by omega)]
theorem whole_of {m : Nat} {e : Int} {r : Nat} (he : -1074 ≤ e) (h : m * 2 ^ (e + 1074).toNat = vl r) : m * 2 ^ e.toNat / 2 ^ (-e).toNat = vl r / H1074 := by
  rw [← h]
  show m * pw e.toNat / pw (-e).toNat = m * pw (e + 1074).toNat / pw 1074
  by_cases c : 0 ≤ e
  · rw [show (-e).toNat = 0 by omega, show (e + 1074).toNat = e.toNat + 1074 by omega, pw_add, ← Nat.mul_assoc, Nat.mul_div_cancel _ (pw_pos 1074), show pw 0 = 1 from rfl, Nat.div_one]
  · have k : (e + 1074).toNat + (-e).toNat = 1074 := by omega
    generalize (e + 1074).toNat = a at *
    generalize (-e).toNat = b at *
    rw [show e.toNat = 0 by omega, ← k, pw_add, show pw 0 = 1 from rfl, Nat.mul_one, Nat.mul_comm (pw a) (pw b), Nat.mul_div_mul_right _ _ (pw_pos a)]
theorem toInt_eq {x : Nat} (hx : x < 18446744073709551616) (h : rg x < INF) : (double.read x).toInt .zero = some (if sg x then -(whole x : Int) else whole x) := by
  obtain ⟨m, e, hr, he, hv⟩ := read_num hx h
  rw [hr]
  show some (signed (sg x) (Toward.zero.cut (sg x) (m <<< e.toNat) (-e).toNat) 0) = _
  rw [cut_zero, Nat.shiftLeft_eq, whole_of he hv]
  unfold signed whole
  simp
theorem vl63 : vl R63 = 9223372036854775808 * H1074 := by
  have e : ∀ k, k = 1085 → vl R63 = 4503599627370496 * pw k := fun k hk => by
    unfold vl R63
    rw [if_neg (by decide)]
    have h1 : 4503599627370496 + 4890909195324358656 % 4503599627370496 = 4503599627370496 := by decide
    have h2 : 4890909195324358656 / 4503599627370496 - 1 = k := by rw [hk]
    rw [h1, h2]; rfl
  have h : 4503599627370496 * pw 11 = 9223372036854775808 := by decide
  rw [e (11 + 1074) rfl, pw_add, ← Nat.mul_assoc, h]
  unfold H1074
  generalize pw 1074 = z
  rfl
theorem H_pos : 0 < H1074 := pw_pos _
theorem whole_lt {x : Nat} (h : rg x < R63) : whole x < 9223372036854775808 := by
  have h1 := vl_lt h
  rw [vl63] at h1
  unfold whole
  exact Nat.div_lt_of_lt_mul (by rw [Nat.mul_comm]; exact h1)
theorem conv_eq {x : Nat} (hx : x < 18446744073709551616) (h : (toI x).2 = true) : floatToIntVal .f64 x .i64 = some (toI x).1 := by
  unfold floatToIntVal
  have hd : FloatKind.f64.decode x = double.read x := rfl
  have hI : INF = 9218868437227405312 := rfl
  have h63 : R63 = 4890909195324358656 := rfl
  have mn : IntKind.i64.min = -9223372036854775808 := by decide
  have mx : IntKind.i64.max = 9223372036854775807 := by decide
  rw [hd]
  unfold toI at h ⊢
  by_cases c : x = 14114281232179134464
  · rw [if_pos c]
    have e : rg x = R63 := by subst c; decide
    have hs : sg x = true := by subst c; decide
    rw [toInt_eq hx (by omega)]
    have hw : whole x = 9223372036854775808 := by unfold whole; rw [e, vl63, Nat.mul_div_cancel _ H_pos]
    rw [hs, hw]
    simp [mn, mx]
  · rw [if_neg c] at h ⊢
    by_cases c2 : R63 ≤ rg x
    · rw [if_pos c2] at h; cases h
    · rw [if_neg c2]
      have hw := whole_lt (x := x) (by omega)
      rw [toInt_eq hx (by omega)]
      simp only
      rw [if_pos]
      rw [mn, mx]
      split <;> omega
/-- the test ahead of the conversion -/
theorem ok_eq {x : Nat} (hx : x < 18446744073709551616) : ((FloatKind.f64.format.order x 14114281232179134464 == some Ordering.gt || FloatKind.f64.format.order x 14114281232179134464 == some Ordering.eq) && FloatKind.f64.format.order x 4890909195324358656 == some Ordering.lt) = (toI x).2 := by
  rw [gt_eq hx (by decide), eq_eq hx (by decide), lt_eq hx (by decide)]
  have n1 : isN 14114281232179134464 = false := by decide
  have n2 : isN 4890909195324358656 = false := by decide
  have k1 : kr 14114281232179134464 = -4890909195324358656 := by decide
  have k2 : kr 4890909195324358656 = 4890909195324358656 := by decide
  rw [n1, n2, k1, k2]
  have h63 : R63 = 4890909195324358656 := rfl
  have hI : INF = 9218868437227405312 := rfl
  unfold toI kr isN sg
  by_cases c : x = 14114281232179134464
  · subst c; decide
  · rw [if_neg c]
    have hr : rg x = x % 9223372036854775808 := rfl
    by_cases c2 : R63 ≤ rg x
    · rw [if_pos c2]
      simp
      by_cases s : 9223372036854775808 ≤ x
      · rw [if_pos s]; omega
      · rw [if_neg s]; omega
    · rw [if_neg c2]
      simp
      by_cases s : 9223372036854775808 ≤ x
      · rw [if_pos s]; omega
      · rw [if_neg s]; omega
end FO
end Go.Proofs.YtibmgmgdbicdlaaGreatDoor
