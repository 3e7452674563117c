/- Floats that are held against themselves. No function of the program in sight. -/
import Derived.Test.YtifaepkeoffcfaaBase
import Derived.Laws.FloatArith
namespace Go.Proofs.Ytifaepkeoffcfaa
open Ieee
theorem order_self_number (s : Bool) (m : Nat) (e : Int) : (Datum.number s m e).order (.number s m e) = some .eq := by
  unfold Datum.order; simp
theorem order_self_inf (s : Bool) : (Datum.infinity s).order (.infinity s) = some .eq := by cases s <;> rfl
theorem order_inf_number (s t : Bool) (m : Nat) (e : Int) : ((Datum.infinity s).order (.number t m e) == some Ordering.eq) = false := by cases s <;> rfl
theorem shl_zero {m k : Nat} : m <<< k = 0 ↔ m = 0 := by
  rw [Nat.shiftLeft_eq]
  have := Nat.two_pow_pos k
  constructor
  · intro h
    rcases Nat.mul_eq_zero.1 h with h | h
    · exact h
    · omega
  · rintro rfl; simp
theorem order_number_zero (s : Bool) (m : Nat) (e e' : Int) : ((Datum.number s m e).order (.number false 0 e') == some Ordering.eq) = decide (m = 0) := by
  unfold Datum.order
  simp only
  have h0 : ∀ k, signed false 0 k = 0 := fun k => by unfold signed; simp [shl_zero.2]
  rw [h0]
  by_cases hm : m = 0
  · subst hm
    have : ∀ k, signed s 0 k = 0 := fun k => by unfold signed; cases s <;> simp [shl_zero.2]
    rw [this]; simp
  · have : ∀ k, signed s m k ≠ 0 := fun k => by
      have h1 : m <<< k ≠ 0 := fun h => hm (shl_zero.1 h)
      unfold signed
      cases s <;> simp <;> omega
    have h2 := this (e - min e e').toNat
    rw [decide_eq_false hm]
    rw [beq_eq_false_iff_ne]
    intro h
    apply h2
    have h3 := Option.some.inj h
    exact Int.compare_eq_eq.1 h3
/-- a float held against itself: a NaN; a number or infinity; a zero (and one divided by it) -/
theorem fself (f : Nat) :
    ((FloatKind.f64.format.order f f == some Ordering.eq) = false ∧ (FloatKind.f64.format.order f f != some Ordering.eq) = true ∧ (FloatKind.f64.format.order f 0 == some Ordering.eq) = false) ∨
    ((FloatKind.f64.format.order f f == some Ordering.eq) = true ∧ (FloatKind.f64.format.order f f != some Ordering.eq) = false ∧ (FloatKind.f64.format.order f 0 == some Ordering.eq) = false) ∨
    ((FloatKind.f64.format.order f f == some Ordering.eq) = true ∧ (FloatKind.f64.format.order f f != some Ordering.eq) = false ∧ (FloatKind.f64.format.order f 0 == some Ordering.eq) = true ∧
      ∃ r, floatBits .quo .f64 4607182418800017408 f = some r ∧ (FloatKind.f64.format.order r r != some Ordering.eq) = false) := by
  have hz : FloatKind.f64.format.read 0 = .number false 0 (-1074) := by decide +kernel
  have ho : FloatKind.f64.format.read 4607182418800017408 = .number false 4503599627370496 (-52) := by decide +kernel
  have hself : (FloatKind.f64.format.order f f) = (FloatKind.f64.format.read f).order (FloatKind.f64.format.read f) := rfl
  have hzero : (FloatKind.f64.format.order f 0) = (FloatKind.f64.format.read f).order (.number false 0 (-1074)) := by unfold Format.order; rw [hz]
  have hquo : floatBits .quo .f64 4607182418800017408 f = (((Datum.number false 4503599627370496 (-52)).quotient (FloatKind.f64.format.fractionBits + 2) (FloatKind.f64.format.read f)).map FloatKind.f64.format.write) := by
    show FloatKind.f64.format.div _ _ = _
    unfold Format.div; rw [ho]
  rw [hself, hzero, hquo]
  cases hr : FloatKind.f64.format.read f with
  | nan s t => left; exact ⟨rfl, rfl, rfl⟩
  | infinity s =>
    right; left
    rw [order_self_inf, order_inf_number]
    exact ⟨rfl, rfl, rfl⟩
  | number s m e =>
    right
    rw [order_self_number, order_number_zero]
    by_cases hm : m = 0
    · right
      subst hm
      refine ⟨rfl, rfl, rfl, ?_⟩
      cases s
      · exact ⟨9218868437227405312, by simp [Datum.quotient]; decide +kernel, by decide +kernel⟩
      · exact ⟨18442240474082181120, by simp [Datum.quotient]; decide +kernel, by decide +kernel⟩
    · left
      exact ⟨rfl, rfl, decide_eq_false hm⟩
end Go.Proofs.Ytifaepkeoffcfaa
