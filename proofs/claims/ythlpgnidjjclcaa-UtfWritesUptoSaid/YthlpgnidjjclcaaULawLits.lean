/- UtfLiterals: the law's walk over []Ask. -/
import Derived.Test.YthlpgnidjjclcaaURefUnq
import Derived.Test.YthlpgnidjjclcaaUOpen
namespace Go.Proofs.Ythlpgnidjjclcaa
open Go.RowKit
set_option linter.unusedVariables false
set_option linter.unusedSimpArgs false
theorem num_any (x : Int) (w : World) : Calls Try.prog 25 #[.int .i64 x] w fun e w' => e = .returned (.int .i64 x) ∧ w = w' := by
  go_enter Try.func25, Try.ntmps25
  go_wp2
  go_ret
  exact ⟨rfl, rfl⟩
theorem k_lit : U.literal ⟨#[120, 34, 97, 92, 34, 98, 34, 99]⟩ 1 = (7, 0) := by
  have h : U.literal ⟨#[120, 34, 97, 92, 34, 98, 34, 99]⟩ 1 = U.litR (U.lit ⟨#[120, 34, 97, 92, 34, 98, 34, 99]⟩ 34 2) := U.literal_in _ 1 (by decide) (by decide +kernel)
  rw [h, U.lit_step _ _ _ (by decide) (by decide +kernel) (by decide) (by decide +kernel) (by decide +kernel),
    U.lit_esc _ _ _ (by decide) (by decide +kernel) (by decide) (by decide +kernel) (by decide +kernel),
    U.lit_step _ _ _ (by decide) (by decide +kernel) (by decide) (by decide +kernel) (by decide +kernel),
    U.lit_hit _ _ _ (by decide) (by decide +kernel)]
  rfl
set_option maxHeartbeats 400000 in
theorem literals_walk (asks : List (ByteArray × Int)) (b off c : Nat) (w : World)
    (hn : asks.length ≤ 9223372036854775807)
    (hc : ∀ k (h : k < asks.length), w.cell? ⟨b, off + k * 2, none⟩ = some (.string (asks[k]'h).1) ∧ w.cell? ⟨b, off + k * 2 + 1, none⟩ = some (.int .i64 (asks[k]'h).2) ∧ (asks[k]'h).1.size ≤ 140737488351232) :
    Calls Try.prog 9 #[.slice (some ⟨b, off, none⟩) asks.length c] w fun e w' => e = .returned (.bool true) ∧ Below w.heap.size w w' := by
  have N := Lib.hid k_lit
  have HC := Lib.hid hc
  clear hc
  go_enter Try.func9, Try.ntmps9
  go_wp2_with (go_at_call 32; refine (lit_any _ 1 _ (by decide)).mono ?_; rintro e w' ⟨rfl, rfl⟩; rw [N.out])
  go_loopw [25] (fun x wr => ∃ k : Nat, k ≤ asks.length ∧ x = .int .i64 k ∧ Below w.heap.size w wr) (fun x _ => asks.length - (intOf x).toNat)
  case atStart => exact ⟨0, by omega, rfl, Below.refl _ _⟩
  case round =>
    obtain ⟨k, hk, rfl, hbel⟩ := hrel
    by_cases hlt : k < asks.length
    · obtain ⟨c0, c1, hsz⟩ := HC.out k hlt
      have hbl : b < w.heap.size := World.block_lt_of_cell? w _ c0
      have d0 := (hbel.cell (p := ⟨b, off + k * 2, none⟩) hbl).trans c0
      have d1 := (hbel.cell (p := ⟨b, off + k * 2 + 1, none⟩) hbl).trans c1
      clear c0 c1
      generalize hs : (asks[k]'hlt).1 = s at *
      generalize hat : (asks[k]'hlt).2 = i at *
      clear hs hat
      have hb0 : Below w.heap.size w (wr.alloc (.cells #[.string s, .int .i64 i] 37)) := hbel.alloc hbel.size _
      have e0 : (wr.alloc (.cells #[.string s, .int .i64 i] 37)).cell? ⟨wr.heap.size, 0, none⟩ = some (.string s) := World.cell?_alloc_mark _ _ _ _ _
      have e1 : (wr.alloc (.cells #[.string s, .int .i64 i] 37)).cell? ⟨wr.heap.size, 1, none⟩ = some (.int .i64 i) := World.cell?_alloc_mark _ _ _ _ _
      have hz0 : wr.heap.size < (wr.alloc (.cells #[.string s, .int .i64 i] 37)).heap.size := by simp
      have hg := hbel.size
      have HB0 := Lib.hid hb0
      have E0 := Lib.hid e0
      have E1 := Lib.hid e1
      have HZ0 := Lib.hid hz0
      clear hb0 e0 e1 hz0
      go_wp2_with (first
        | (go_at_call 32; refine (lit_any _ _ _ (by omega)).mono ?_; rintro e w' ⟨rfl, rfl⟩)
        | (go_at_call 33; refine (refLit_any _ _ _ (by omega)).mono ?_; rintro e w' ⟨rfl, rfl⟩)
        | (go_at_call 25; refine (num_any _ _).mono ?_; rintro e w' ⟨rfl, rfl⟩)
        | (go_at_call 34; refine (unquote_any s _ hsz).mono ?_; rintro e w2 ⟨rfl, hb2⟩; unfold strR; have e0 := (hb2.cell (p := ⟨wr.heap.size, 0, none⟩) HZ0.out).trans E0.out; replace hb2 := bel HB0.out hb2)
        | (go_at_call 35; refine (refunq_any s _ hsz).mono ?_; rintro e w3 ⟨rfl, hb3⟩; unfold strR; replace hb3 := bel (show Below w.heap.size w _ by assumption) hb3))
      have HB4 := Lib.hid hb3
      go_roundw
      case rel => exact ⟨k + 1, by omega, by go_num, HB4.out⟩
      case measure => simp [intOf]; omega
    · go_wp2
      go_ret
      exact ⟨rfl, hbel⟩

/-- the same over an empty list -/
theorem literals_walk0 (A : Option Addr) (c : Nat) (w : World) :
    Calls Try.prog 9 #[.slice A 0 c] w fun e w' => e = .returned (.bool true) ∧ Below w.heap.size w w' := by
  have N := Lib.hid k_lit
  go_enter Try.func9, Try.ntmps9
  go_wp2_with (go_at_call 32; refine (lit_any _ 1 _ (by decide)).mono ?_; rintro e w' ⟨rfl, rfl⟩; rw [N.out])
  refine wp_loop_rounds 1 ?_
  rw [rounds_succ]
  go_wp2
  go_ret
  exact ⟨rfl, Below.refl _ _⟩

theorem literals_all (W : World) {H : Type} (v : Value) (d : DataW H) (h : ∃ asks, IsAsks W v d asks) :
    Calls Try.prog 9 #[v] W fun e W' => e = .returned (.bool true) ∧ Below W.heap.size W W' := by
  obtain ⟨asks, A, c, rfl, hn, _, hc⟩ := h
  cases hz : asks with
  | nil => exact literals_walk0 A c W
  | cons a l =>
    rw [← hz]
    have h0 : 0 < asks.length := by rw [hz]; simp
    obtain ⟨b, off, rfl, _⟩ := hc 0 h0
    refine literals_walk asks b off c W (by unfold maxLen at hn; omega) fun k hk => ?_
    obtain ⟨b', off', e, c0, c1, hs⟩ := hc k hk
    simp only [Option.some.injEq, Addr.mk.injEq, and_true] at e
    obtain ⟨rfl, rfl⟩ := e
    exact ⟨c0, c1, by unfold reachBytes at hs; exact hs⟩
end Go.Proofs.Ythlpgnidjjclcaa
