/- UtfPlaces: the law's walk over []Ask. -/
import Derived.Test.YthlpgnidjjclcaaUWalkPlaceR
import Derived.Test.YthlpgnidjjclcaaUOpen
namespace Go.Proofs.Ythlpgnidjjclcaa
open Go.RowKit
theorem k_place : U.place ⟨#[97, 98, 10, 195, 169, 120]⟩ 5 = (2, 2) := by
  have h : U.place ⟨#[97, 98, 10, 195, 169, 120]⟩ 5 = U.placeAt ⟨#[97, 98, 10, 195, 169, 120]⟩ 5 := U.place_in _ 5 (by decide)
  have hn : U.nl ⟨#[97, 98, 10, 195, 169, 120]⟩ 5 = (2, 3) := by decide +kernel
  have hw : U.w0 ⟨#[97, 98, 10, 195, 169, 120]⟩ 3 = 2 := by decide +kernel
  rw [h]
  unfold U.placeAt
  rw [hn, U.col_step _ _ _ _ (by decide), hw, U.col_end _ _ _ _ (by decide)]
  rfl
set_option maxHeartbeats 400000 in
theorem places_walk (asks : List (ByteArray × Int)) (b off c : Nat) (w : World)
    (hn : asks.length ≤ 9223372036854775807)
    (hc : ∀ k (h : k < asks.length), w.cell? ⟨b, off + k * 2, none⟩ = some (.string (asks[k]'h).1) ∧ w.cell? ⟨b, off + k * 2 + 1, none⟩ = some (.int .i64 (asks[k]'h).2) ∧ (asks[k]'h).1.size ≤ 1125899906842624) :
    Calls Try.prog 7 #[.slice (some ⟨b, off, none⟩) asks.length c] w fun e w' => e = .returned (.bool true) ∧ Below w.heap.size w w' := by
  have N := Lib.hid k_place
  have HC := Lib.hid hc
  clear hc
  go_enter Try.func7, Try.ntmps7
  go_wp2_with (go_at_call 28; refine (place_any _ 5 _ (by decide)).mono ?_; rintro e w1 ⟨rfl, hb1⟩; rw [N.out])
  go_loopw [21] (fun x wr => ∃ k : Nat, k ≤ asks.length ∧ x = .int .i64 k ∧ Below w.heap.size w wr) (fun x _ => asks.length - (intOf x).toNat)
  case atStart => exact ⟨0, by omega, rfl, by assumption⟩
  case round =>
    obtain ⟨k, hk, rfl, hbel⟩ := hrel
    by_cases hlt : k < asks.length
    · obtain ⟨c0, c1, hsz⟩ := HC.out k hlt
      have hbl : b < w.heap.size := World.block_lt_of_cell? w _ c0
      have d0 := (hbel.cell (p := ⟨b, off + k * 2, none⟩) hbl).trans c0
      have d1 := (hbel.cell (p := ⟨b, off + k * 2 + 1, none⟩) hbl).trans c1
      clear c0 c1
      generalize hs : (asks[k]'hlt).1 = s at *
      generalize hat : (asks[k]'hlt).2 = i at *
      clear hs hat
      have hb0 : Below w.heap.size w (wr.alloc (.cells #[.string s, .int .i64 i] 37)) := hbel.alloc hbel.size _
      have e0 : (wr.alloc (.cells #[.string s, .int .i64 i] 37)).cell? ⟨wr.heap.size, 0, none⟩ = some (.string s) := World.cell?_alloc_mark _ _ _ _ _
      have e1 : (wr.alloc (.cells #[.string s, .int .i64 i] 37)).cell? ⟨wr.heap.size, 1, none⟩ = some (.int .i64 i) := World.cell?_alloc_mark _ _ _ _ _
      have hz0 : wr.heap.size < (wr.alloc (.cells #[.string s, .int .i64 i] 37)).heap.size := by simp
      have hg := hbel.size
      have HB0 := Lib.hid hb0
      have E0 := Lib.hid e0
      have E1 := Lib.hid e1
      have HZ0 := Lib.hid hz0
      clear hb0 e0 e1 hz0
      go_wp2_with fail
      refine (place_any _ _ _ hsz).mono ?_
      rintro e w2 ⟨rfl, hb2⟩
      have e0 := (hb2.cell (p := ⟨wr.heap.size, 0, none⟩) HZ0.out).trans E0.out
      have e1 := (hb2.cell (p := ⟨wr.heap.size, 1, none⟩) HZ0.out).trans E1.out
      replace hb2 := bel HB0.out hb2
      go_wp2_with fail
      refine (refPlace_any _ _ _ hsz).mono ?_
      rintro e w3 ⟨rfl, hb3⟩
      replace hb3 := bel hb2 hb3
      have HB4 := Lib.hid hb3
      clear hb3 hb2
      go_wp2
      go_roundw
      case rel => exact ⟨k + 1, by omega, by go_num, HB4.out⟩
      case measure => simp [intOf]; omega
    · go_wp2
      go_ret
      exact ⟨rfl, hbel⟩

/-- the same over an empty list -/
theorem places_walk0 (A : Option Addr) (c : Nat) (w : World) :
    Calls Try.prog 7 #[.slice A 0 c] w fun e w' => e = .returned (.bool true) ∧ Below w.heap.size w w' := by
  have N := Lib.hid k_place
  go_enter Try.func7, Try.ntmps7
  go_wp2_with (go_at_call 28; refine (place_any _ 5 _ (by decide)).mono ?_; rintro e w1 ⟨rfl, hb1⟩; rw [N.out])
  refine wp_loop_rounds 1 ?_
  rw [rounds_succ]
  go_wp2
  go_ret
  exact ⟨rfl, by assumption⟩

theorem places_all (W : World) {H : Type} (v : Value) (d : DataW H) (h : ∃ asks, IsAsks W v d asks) :
    Calls Try.prog 7 #[v] W fun e W' => e = .returned (.bool true) ∧ Below W.heap.size W W' := by
  obtain ⟨asks, A, c, rfl, hn, _, hc⟩ := h
  cases hz : asks with
  | nil => exact places_walk0 A c W
  | cons a l =>
    rw [← hz]
    have h0 : 0 < asks.length := by rw [hz]; simp
    obtain ⟨b, off, rfl, _⟩ := hc 0 h0
    refine places_walk asks b off c W (by unfold maxLen at hn; omega) fun k hk => ?_
    obtain ⟨b', off', e, c0, c1, hs⟩ := hc k hk
    simp only [Option.some.injEq, Addr.mk.injEq, and_true] at e
    obtain ⟨rfl, rfl⟩ := e
    exact ⟨c0, c1, by unfold reachBytes at hs; omega⟩
end Go.Proofs.Ythlpgnidjjclcaa
