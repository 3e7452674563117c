/- NumShows: the law's walk. -/
import Derived.Test.YtibmgmgdbicdlaaGreatDoorPAlive
import Derived.Test.YtibmgmgdbicdlaaGreatDoorFRefShow
import Derived.Test.YtibmgmgdbicdlaaGreatDoorBQuiet
namespace Go.Proofs.YtibmgmgdbicdlaaGreatDoor
open Go.RowKit
set_option linter.unusedVariables false
set_option linter.unusedSimpArgs false
open Classical in
/-- the text of the float with the bits f -/
noncomputable def FS.tell (f : Nat) : List UInt8 := if h : ∃ s, FS.Shown f s then h.choose else []
theorem FS.tell_eq {f : Nat} {s : List UInt8} (h : FS.Shown f s) : s = FS.tell f := by
  have e : ∃ s, FS.Shown f s := ⟨s, h⟩
  unfold FS.tell
  rw [dif_pos e]
  exact h.ext e.choose_spec
theorem showT_any (f : Nat) (hf : f < 18446744073709551616) (w : World) (hT : Tbl w) :
    Calls Tryz.prog 25 #[.float .f64 f] w fun e w' => e = .returned (.string ⟨(FS.tell f).toArray⟩) ∧ Below w.heap.size w w' :=
  (show_any f hf w hT).mono (by rintro e w' ⟨s, rfl, h1, h2⟩; obtain rfl := FS.tell_eq h1; exact ⟨rfl, h2⟩)
theorem refshowT_any (f : Nat) (hf : f < 18446744073709551616) (w : World) :
    Calls Tryz.prog 26 #[.float .f64 f] w fun e w' => e = .returned (.string ⟨(FS.tell f).toArray⟩) ∧ Below w.heap.size w w' :=
  (refshow_any f hf w).mono (by rintro e w' ⟨s, rfl, h1, h2⟩; obtain rfl := FS.tell_eq h1; exact ⟨rfl, h2⟩)
set_option maxRecDepth 100000 in
set_option maxHeartbeats 2000000 in
theorem numShows_walk (A : Option Addr) (n c : Nat) (xs : List Nat) (w : World) (hn : xs.length = n) (hl : IsL 1 w (.slice A n c) n (xs.map fun x : Nat => Value.int .u64 (x : Int))) (hx : ∀ x ∈ xs, x < 18446744073709551616) (hn2 : n ≤ 9223372036854775807) (G : Glb w) (hT : Tbl w) :
    Calls Tryz.prog 4 #[.slice A n c] w fun e w' => e = .returned (.bool true) ∧ Below w.heap.size w w' := by
  have HA := hd (alive_any w G hT)
  have HT := hd hT
  have HL := hd hl
  have HX := hd hx
  have HN := hd hn
  clear hn hl hx G hT
  go_enter Tryz.func4, Tryz.ntmps4
  go_wp2_with (go_at_call 13; refine HA.o.mono ?_; rintro e w1 ⟨rfl, h1⟩; have B1 := hd h1; clear h1)
  go_loopw [3] (fun xi wr => ∃ k : Nat, k ≤ n ∧ xi = .int .i64 (k : Int) ∧ Hd (Below w.heap.size w wr)) (fun xi wr => n - (intOf xi).toNat)
  case atStart => exact ⟨0, Nat.zero_le _, rfl, B1⟩
  case round =>
    obtain ⟨k, hk, rfl, HB⟩ := hrel
    by_cases hlt : k < n
    · obtain ⟨b, off, x, rfl, hb, d0, hx64⟩ : ∃ b off x, A = some ⟨b, off, none⟩ ∧ b < w.heap.size ∧ w.cell? ⟨b, off + k, none⟩ = some (.int .u64 ((x : Nat) : Int)) ∧ x < 18446744073709551616 := by
        obtain ⟨A', c', e, hr⟩ := HL.o.2
        simp only [Value.slice.injEq] at e
        obtain ⟨rfl, _, rfl⟩ := e
        obtain ⟨b, off, rfl, hb, hcell⟩ := hr.head (by rw [List.length_map, HN.o]; omega)
        have hk' : k < xs.length := by rw [HN.o]; exact hlt
        refine ⟨b, off, xs[k], rfl, hb, ?_, HX.o _ (List.getElem_mem hk')⟩
        rw [hcell k (by rw [List.length_map]; exact hk')]
        simp
      have d1 := (HB.o.cell (p := ⟨b, off + k, none⟩) hb).trans d0
      have S1 := hd (fun p : BelW wr => showT_any x hx64 p.w (HT.o.below (bel HB.o p.h)))
      have S2 := hd (fun p : BelW wr => refshowT_any x hx64 p.w)
      have q1 := mfrom_run x
      generalize FS.tell x = tx at *
      clear hx64 d0
      go_wp2_with fail
      refine wp_region_below (by kernel_rfl) (by kernel_rfl) ?_
      have f1 := fun p : BelW wr => p.cell d1
      repeat (go_big_quiet_step (first | (go_at_call 25; exact Calls.below_of (S1.o _)) | (go_at_call 26; exact Calls.below_of (S2.o _))))
      refine wpQuiet_nil ?_
      rintro w2 ⟨⟨_, hb2⟩, rfl⟩
      have HB2 := hd (bel HB.o hb2)
      clear f1 hb2

      go_wp2
      go_roundw
      case rel => exact ⟨k + 1, by omega, by go_num, HB2⟩
      case measure => simp [intOf]; omega
    · obtain rfl : k = n := by omega
      go_wp2
      go_ret
      exact ⟨rfl, HB.o⟩
end Go.Proofs.YtibmgmgdbicdlaaGreatDoor
