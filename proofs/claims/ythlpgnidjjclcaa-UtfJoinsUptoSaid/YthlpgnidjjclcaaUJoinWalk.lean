/- The walk of the law UtfJoins. -/
import Derived.Test.YthlpgnidjjclcaaUSame
import Derived.Test.YthlpgnidjjclcaaUWalkC
namespace Go.Proofs.Ythlpgnidjjclcaa
open Go.RowKit
theorem kj_valid1 : U.valid ⟨#[97]⟩ = true := by
  unfold U.valid
  rw [U.vfrom_step _ _ (by decide) (by decide +kernel), U.vfrom_end _ _ (by decide +kernel)]
theorem kj_valid2 : U.valid ⟨#[255]⟩ = false := by
  unfold U.valid
  rw [U.vfrom_bad _ _ (by decide) (by decide +kernel)]

set_option maxHeartbeats 400000 in
/-- one of the two is no UTF-8 -/
theorem joins_no (a b : ByteArray) (w : World) (ha : a.size ≤ 1048576) (hb : b.size ≤ 1048576) (va vb vw : Bool) (hva : U.valid a = va) (hvb : U.valid b = vb) (hvw : U.valid (a ++ b) = vw) (hno : (va && vb) = false) :
    Calls Try.prog 6 #[.string a, .string b] w fun e w' => e = .returned (.bool true) ∧ Below w.heap.size w w' := by
  have hz : (a ++ b).size = a.size + b.size := U.app_size a b
  have VA := hd hva
  have VB := hd hvb
  have VW := hd hvw
  have K1 := hd kj_valid1
  have K2 := hd kj_valid2
  have hsum : (a ++ b).size ≤ 1125899906842624 := by omega
  have hcut : Hd (vw = true → (decide (0 < (U.next (a ++ b) (a.size : Int)).2) || b.toList.isEmpty) = false) := hd <| fun hv => by
    have hc := U.cut_iff a b (by rw [hvw, hv])
    have : ¬ (U.valid a = true ∧ U.valid b = true) := by
      rw [hva, hvb]; rintro ⟨r1, r2⟩; rw [r1, r2] at hno; cases hno
    have hc' := fun h => this (hc.1 h)
    rw [Bool.or_eq_false_iff]
    refine ⟨?_, ?_⟩
    · rw [decide_eq_false_iff_not, U.next_wid]; intro h; exact hc' (.inl (by omega))
    · cases he : b.toList.isEmpty with
      | false => rfl
      | true =>
        exfalso; refine hc' (.inr ?_)
        rw [Lib.size_eq, ← ByteArray.toList_eq]; rw [List.isEmpty_iff] at he; rw [he]; rfl
  have HZ := hd hz
  clear hva hvb hvw hz
  cases vw with
  | true =>
    have hc := hcut.o rfl
    rw [Bool.or_eq_false_iff] at hc
    obtain ⟨c1, c2⟩ := hc
    clear hcut
    cases va <;> cases vb <;> simp only [Bool.and_true, Bool.and_false, Bool.true_eq_false] at hno
    all_goals
      go_enter Try.func6, Try.ntmps6
      go_wp2_with (first
        | (go_at_call 18; refine (next_any _ _ _ hsum).mono ?_; rintro e w1 ⟨rfl, hb1⟩; replace hb1 := bel (show Below w.heap.size w _ by first | assumption | exact Below.refl _ _) hb1)
        | (go_at_call 19; refine (Valid_any _ _ (by first | omega | decide)).mono ?_; rintro e w1 ⟨rfl, hb1⟩; replace hb1 := bel (show Below w.heap.size w _ by first | assumption | exact Below.refl _ _) hb1; first | rw [K1.o] | rw [K2.o] | rw [VA.o] | rw [VB.o] | rw [VW.o]))
      go_ret
      exact ⟨rfl, by assumption⟩
  | false =>
    clear hcut
    cases va <;> cases vb <;> simp only [Bool.and_true, Bool.and_false, Bool.true_eq_false] at hno
    all_goals
      go_enter Try.func6, Try.ntmps6
      go_wp2_with (first
        | (go_at_call 18; refine (next_any _ _ _ hsum).mono ?_; rintro e w1 ⟨rfl, hb1⟩; replace hb1 := bel (show Below w.heap.size w _ by first | assumption | exact Below.refl _ _) hb1)
        | (go_at_call 19; refine (Valid_any _ _ (by first | omega | decide)).mono ?_; rintro e w1 ⟨rfl, hb1⟩; replace hb1 := bel (show Below w.heap.size w _ by first | assumption | exact Below.refl _ _) hb1; first | rw [K1.o] | rw [K2.o] | rw [VA.o] | rw [VB.o] | rw [VW.o]))
      all_goals go_ret
      all_goals exact ⟨rfl, by assumption⟩
end Go.Proofs.Ythlpgnidjjclcaa
