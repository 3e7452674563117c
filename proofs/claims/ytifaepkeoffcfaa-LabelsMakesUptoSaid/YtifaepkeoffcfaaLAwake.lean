/- The walk of weirlaw16.awake. -/
import Derived.Test.YtifaepkeoffcfaaLMake
namespace Go.Proofs.Ytifaepkeoffcfaa
open Go.RowKit
set_option linter.unusedVariables false
set_option linter.unusedSimpArgs false
theorem valid_one (c : UInt8) (h : c < 128) : U.valid ⟨#[c]⟩ = true := by
  have hs : (⟨#[c]⟩ : ByteArray).size = 1 := rfl
  have hd : Utf8.decode ⟨#[c]⟩ 0 = (c.toNat, 1) := by
    rw [U.decode_eq, if_pos (by show c.toNat < 128; exact h)]; rfl
  have hb : U.bad ⟨#[c]⟩ 0 = false := by
    unfold U.bad
    rw [hd, beq_eq_false_iff_ne]
    intro e
    have h1 : c.toNat = 65533 := congrArg Prod.fst e
    have h2 : c.toNat < 128 := h
    omega
  unfold U.valid
  rw [U.vfrom_step _ _ (by rw [hs]; decide) hb, hd, U.vfrom_end _ _ (by rw [hs]; show ¬ (0 + 1 < 1); decide)]
def awkL : List Lb := [(⟨#[98]⟩, ⟨#[50]⟩), (⟨#[97]⟩, ⟨#[49]⟩)]
theorem awk_err : L.mkErr awkL = 0 := by
  unfold L.mkErr awkL
  unfold L.mkErrP
  rw [if_pos (by decide +kernel), if_pos (valid_one 50 (by decide))]
  unfold L.mkErrP
  rw [if_pos (by decide +kernel), if_pos (valid_one 49 (by decide))]
  rfl
theorem awk_made : L.made awkL = [(⟨#[97]⟩, ⟨#[49]⟩), (⟨#[98]⟩, ⟨#[50]⟩)] := by
  unfold L.made; rw [if_pos awk_err]; decide +kernel
theorem awk_get : L.get ⟨#[98]⟩ [(⟨#[97]⟩, ⟨#[49]⟩), (⟨#[98]⟩, ⟨#[50]⟩)] = ⟨#[50]⟩ := by decide +kernel
set_option maxHeartbeats 1000000 in
theorem awake_any (w : World) : Calls Try.prog 30 #[] w fun e w' => e = .returned (.bool true) ∧ Below w.heap.size w w' := by
  have KE := hd awk_err
  have KM := hd awk_made
  have KG := hd awk_get
  go_enter Try.func30, Try.ntmps30
  go_wp2_with fail
  refine (make_any (some ⟨w.heap.size, 0, none⟩) 2 2 awkL _ (IsL.own (World.ownsRow_lit (base := w.heap.size) w #[.string ⟨#[98]⟩, .string ⟨#[50]⟩, .string ⟨#[97]⟩, .string ⟨#[49]⟩] 2 (Nat.le_refl _) (by decide) rfl)) (by decide) (by intro y hy; simp [awkL] at hy; rcases hy with rfl | rfl <;> decide)).mono ?_
  rintro e w1 ⟨x, rfl, ho, hb⟩
  rw [KE.o]
  rw [KM.o] at ho
  have HL := hd (IsL.own ho)
  obtain ⟨A, c, rfl⟩ := HL.o.shape
  obtain ⟨b, off, rfl, hbl, q1, q2⟩ := IsLb.at_ HL.o 0 (by decide)
  have HB := hd (((Below.refl w.heap.size w).alloc (Nat.le_refl _) _).trans (hb.mono (by simp)))
  clear ho hb
  simp only [List.getElem_cons_zero, Nat.zero_mul, Nat.add_zero, List.length_cons, List.length_nil, Nat.zero_add, Nat.reduceAdd] at q1 q2 ⊢
  go_wp2_with fail
  refine (get_any _ 2 _ ⟨#[98]⟩ _ HL.o (by decide)).mono ?_
  rintro e w2 ⟨rfl, hb⟩
  rw [KG.o]
  have HB2 := hd (bel HB.o hb)
  clear hb
  go_wp2
  go_ret
  exact ⟨rfl, HB2.o⟩
end Go.Proofs.Ytifaepkeoffcfaa
