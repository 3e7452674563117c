/- UtfNexts: the law's walk over []Ask. -/
import Derived.Test.YthlpgnidjjclcaaUWalkC
import Derived.Test.YthlpgnidjjclcaaUOpen
import Derived.Deep.RegionHeld3
import Derived.Deep.DeepCutAuto
namespace Go.Proofs.Ythlpgnidjjclcaa
open Go.RowKit

theorem keep1 {w W w4 : World} {g : Nat} {v : Value} (hb : Below W.heap.size W w4) (h : W.cell? ⟨g, 0, none⟩ = some v ∧ g < W.heap.size ∧ Below w.heap.size w W) :
    w4.cell? ⟨g, 0, none⟩ = some v ∧ g < w4.heap.size ∧ Below w.heap.size w w4 :=
  ⟨(hb.cell (p := ⟨g, 0, none⟩) h.2.1).trans h.1, Nat.lt_of_lt_of_le h.2.1 hb.size, bel h.2.2 hb⟩
theorem k_next : U.next ⟨#[97, 195, 169]⟩ 1 = (233, 2) := by decide +kernel
theorem k_valid1 : U.valid ⟨#[97]⟩ = true := by
  unfold U.valid
  rw [U.vfrom_step _ _ (by decide) (by decide +kernel), U.vfrom_end _ _ (by decide +kernel)]
theorem k_valid2 : U.valid ⟨#[193, 129]⟩ = false := by
  unfold U.valid
  rw [U.vfrom_bad _ _ (by decide) (by decide +kernel)]

set_option maxHeartbeats 400000 in
theorem nexts_walk (asks : List (ByteArray × Int)) (b off c : Nat) (w : World)
    (hn : asks.length ≤ 9223372036854775807)
    (hc : ∀ k (h : k < asks.length), w.cell? ⟨b, off + k * 2, none⟩ = some (.string (asks[k]'h).1) ∧ w.cell? ⟨b, off + k * 2 + 1, none⟩ = some (.int .i64 (asks[k]'h).2) ∧ (asks[k]'h).1.size ≤ 1125899906842624) :
    Calls Try.prog 4 #[.slice (some ⟨b, off, none⟩) asks.length c] w fun e w' => e = .returned (.bool true) ∧ Below w.heap.size w w' := by
  have N := Lib.hid k_next
  have V1 := Lib.hid k_valid1
  have V2 := Lib.hid k_valid2
  have HC := Lib.hid hc
  clear hc
  go_enter Try.func4, Try.ntmps4
  go_wp2_with (first
    | (go_at_call 18; refine (next_any _ 1 _ (by decide)).mono ?_; rintro e w1 ⟨rfl, hb1⟩; replace hb1 := bel (show Below w.heap.size w _ by first | assumption | exact Below.refl _ _) hb1; rw [N.out])
    | (go_at_call 19; refine (Valid_any _ _ (by decide)).mono ?_; rintro e w1 ⟨rfl, hb1⟩; replace hb1 := bel (show Below w.heap.size w _ by first | assumption | exact Below.refl _ _) hb1; first | rw [V1.out] | rw [V2.out]))
  go_loopw [28] (fun x wr => ∃ k : Nat, k ≤ asks.length ∧ x = .int .i64 k ∧ Below w.heap.size w wr) (fun x _ => asks.length - (intOf x).toNat)
  case atStart => exact ⟨0, by omega, rfl, by assumption⟩
  case round =>
    obtain ⟨k, hk, rfl, hbel⟩ := hrel
    by_cases hlt : k < asks.length
    · obtain ⟨c0, c1, hsz⟩ := HC.out k hlt
      have hbl : b < w.heap.size := World.block_lt_of_cell? w _ c0
      have d0 := (hbel.cell (p := ⟨b, off + k * 2, none⟩) hbl).trans c0
      have d1 := (hbel.cell (p := ⟨b, off + k * 2 + 1, none⟩) hbl).trans c1
      clear c0 c1
      generalize hs : (asks[k]'hlt).1 = s at *
      generalize hat : (asks[k]'hlt).2 = i at *
      clear hs hat
      have hb0 : Below w.heap.size w (wr.alloc (.cells #[.string s, .int .i64 i] 37)) := hbel.alloc hbel.size _
      have e0 : (wr.alloc (.cells #[.string s, .int .i64 i] 37)).cell? ⟨wr.heap.size, 0, none⟩ = some (.string s) := World.cell?_alloc_mark _ _ _ _ _
      have e1 : (wr.alloc (.cells #[.string s, .int .i64 i] 37)).cell? ⟨wr.heap.size, 1, none⟩ = some (.int .i64 i) := World.cell?_alloc_mark _ _ _ _ _
      have hz0 : wr.heap.size < (wr.alloc (.cells #[.string s, .int .i64 i] 37)).heap.size := by simp
      have hg := hbel.size
      have HB0 := Lib.hid hb0
      have E0 := Lib.hid e0
      have E1 := Lib.hid e1
      have HZ0 := Lib.hid hz0
      clear hb0 e0 e1 hz0
      go_wp2_with fail
      refine (next_any _ _ _ hsz).mono ?_
      rintro e w2 ⟨rfl, hb2⟩
      have e0 := (hb2.cell (p := ⟨wr.heap.size, 0, none⟩) HZ0.out).trans E0.out
      have e1 := (hb2.cell (p := ⟨wr.heap.size, 1, none⟩) HZ0.out).trans E1.out
      have hz2 : wr.heap.size < w2.heap.size := Nat.lt_of_lt_of_le HZ0.out hb2.size
      replace hb2 := bel HB0.out hb2
      go_wp2_with fail
      refine (refNext_any _ _ _ hsz).mono ?_
      rintro e w3 ⟨rfl, hb3⟩
      replace e0 := (hb3.cell (p := ⟨wr.heap.size, 0, none⟩) hz2).trans e0
      have hz3 : wr.heap.size < w3.heap.size := Nat.lt_of_lt_of_le hz2 hb3.size
      replace hb3 := bel hb2 hb3
      clear e1
      go_wp2_with fail
      go_region_held3 (fun w' => w'.cell? ⟨wr.heap.size, 0, none⟩ = some (.string s) ∧ wr.heap.size < w'.heap.size ∧ Below w.heap.size w w') (first | exact ⟨e0, hz3, hb3.drew⟩ | exact keep1 (by assumption) (by assumption))
        (first
          | (go_at_call 19; refine (Valid_any _ _ hsz).mono ?_; rintro e w4 ⟨rfl, hb4⟩)
          | (go_at_call 21; refine (refValid_any _ _ hsz).mono ?_; rintro e w4 ⟨rfl, hb4⟩))
      have hB4 : w4.cell? ⟨wr.heap.size, 0, none⟩ = some (.string s) ∧ wr.heap.size < w4.heap.size ∧ Below w.heap.size w w4 := by assumption
      have HB4 := Lib.hid hB4.2.2
      clear hB4
      go_wp2
      go_roundw
      case rel => exact ⟨k + 1, by omega, by go_num, HB4.out⟩
      case measure => simp [intOf]; omega
    · go_wp2
      go_ret
      exact ⟨rfl, hbel⟩

/-- the same over an empty list -/
theorem nexts_walk0 (A : Option Addr) (c : Nat) (w : World) :
    Calls Try.prog 4 #[.slice A 0 c] w fun e w' => e = .returned (.bool true) ∧ Below w.heap.size w w' := by
  have N := Lib.hid k_next
  have V1 := Lib.hid k_valid1
  have V2 := Lib.hid k_valid2
  go_enter Try.func4, Try.ntmps4
  go_wp2_with (first
    | (go_at_call 18; refine (next_any _ 1 _ (by decide)).mono ?_; rintro e w1 ⟨rfl, hb1⟩; replace hb1 := bel (show Below w.heap.size w _ by first | assumption | exact Below.refl _ _) hb1; rw [N.out])
    | (go_at_call 19; refine (Valid_any _ _ (by decide)).mono ?_; rintro e w1 ⟨rfl, hb1⟩; replace hb1 := bel (show Below w.heap.size w _ by first | assumption | exact Below.refl _ _) hb1; first | rw [V1.out] | rw [V2.out]))
  have hB : Below w.heap.size w w1 := by assumption
  refine wp_loop_rounds 1 ?_
  rw [rounds_succ]
  go_wp2
  go_ret
  exact ⟨rfl, hB⟩

theorem nexts_all (W : World) {H : Type} (v : Value) (d : DataW H) (h : ∃ asks, IsAsks W v d asks) :
    Calls Try.prog 4 #[v] W fun e W' => e = .returned (.bool true) ∧ Below W.heap.size W W' := by
  obtain ⟨asks, A, c, rfl, hn, _, hc⟩ := h
  cases hz : asks with
  | nil => exact nexts_walk0 A c W
  | cons a l =>
    rw [← hz]
    have h0 : 0 < asks.length := by rw [hz]; simp
    obtain ⟨b, off, rfl, _⟩ := hc 0 h0
    refine nexts_walk asks b off c W (by unfold maxLen at hn; omega) fun k hk => ?_
    obtain ⟨b', off', e, c0, c1, hs⟩ := hc k hk
    simp only [Option.some.injEq, Addr.mk.injEq, and_true] at e
    obtain ⟨rfl, rfl⟩ := e
    exact ⟨c0, c1, by unfold reachBytes at hs; omega⟩
end Go.Proofs.Ythlpgnidjjclcaa
