/- The walks of utf.replaced, utf.width, utf.Valid, weirref01.IsRune, Form, guess: what each computes. -/
import Derived.Test.YtifaepkeoffcfaaUNext
import Derived.Test.YtifaepkeoffcfaaBase
namespace Go.Proofs.Ytifaepkeoffcfaa
open Go.RowKit

/-- a rune's width -/
def U.wd (r : Int) : Int := if r < 128 then 1 else if r < 2048 then 2 else if r < 65536 then 3 else 4

theorem replaced_any (s : ByteArray) (i : Nat) (w : World) (hs : s.size ≤ 1125899906842624) (hi : i ≤ s.size) :
    Calls Try.prog 74 #[.string s, .int .i64 i] w fun e w' => e = .returned (.bool (U.rep s i)) ∧ w = w' := by
  by_cases h3 : i + 3 ≤ s.size
  · have hd : decide (i + 3 ≤ s.size) = true := by simpa using h3
    go_enter Try.func74, Try.ntmps74
    go_wp2
    all_goals go_ret
    all_goals exact ⟨ret_bool (by unfold U.rep; rw [hd]; rfl), rfl⟩
  · have hd : decide (i + 3 ≤ s.size) = false := by simpa using h3
    go_enter Try.func74, Try.ntmps74
    go_wp2
    all_goals go_ret
    all_goals exact ⟨ret_bool (by unfold U.rep; rw [hd]; rfl), rfl⟩

theorem Valid_any (s : ByteArray) (w : World) (hs : s.size ≤ 1125899906842624) :
    Calls Try.prog 61 #[.string s] w fun e w' => e = .returned (.bool (U.valid s)) ∧ Below w.heap.size w w' := by
  go_enter Try.func61, Try.ntmps61
  go_wp2
  go_loopw [] (fun wr => ∃ pos : Nat, pos ≤ s.size ∧ wr = w.iter s pos ∧ Hid (U.vfrom s pos = U.valid s)) (fun wr => s.size - wr.iterPos w.heap.size)
  case atStart => exact ⟨0, Nat.zero_le _, rfl, rfl⟩
  case round =>
    obtain ⟨pos, hpos, rfl, hv⟩ := hrel
    by_cases hp : pos < s.size
    · have hnx := fun ty => run_next_any (P := Try.prog) w s pos ty hp
      have hb1 := decode_le s pos
      have hdp := U.dec_pos s pos
      have hle := U.dec_le s pos hp
      by_cases hr : (Utf8.decode s pos).1 = 65533
      · have hr' : Hid ((Utf8.decode s pos).1 = 65533) := hr
        have hb : (((Utf8.decode s pos).1 : Int) == 65533) = true := by rw [hr]; rfl
        clear hr
        cases hrep : U.rep s pos with
        | false =>
          have hbad := (U.bad_iff s pos hp).2 ⟨hr'.out, hrep⟩
          have H : Hid (U.rep s pos = false) := hrep
          have G : Hid (U.valid s = false) := by rw [← hv.out]; exact U.vfrom_bad s pos hp hbad
          clear hrep hbad
          go_wp2_with (go_at_call 74; refine (replaced_any s pos _ hs hpos).mono ?_; rintro e w' ⟨rfl, rfl⟩; rw [H.out])
          go_ret
          exact ⟨ret_bool G.out.symm, (Below.refl _ _).alloc (Nat.le_refl _) _⟩
        | true =>
          have hbad : U.bad s pos = false := by
            cases hb : U.bad s pos with
            | false => rfl
            | true => have := ((U.bad_iff s pos hp).1 hb).2; rw [hrep] at this; cases this
          have H : Hid (U.rep s pos = true) := hrep
          have G : Hid (U.vfrom s (pos + (Utf8.decode s pos).2) = U.valid s) := by rw [← hv.out]; exact (U.vfrom_step s pos hp hbad).symm
          clear hrep hbad
          go_wp2_with (go_at_call 74; refine (replaced_any s pos _ hs hpos).mono ?_; rintro e w' ⟨rfl, rfl⟩; rw [H.out])
          go_roundw
          case rel => exact ⟨_, hle, rfl, G⟩
          case measure => simp; omega
      · have hb : (((Utf8.decode s pos).1 : Int) == 65533) = false := by rw [beq_eq_false_iff_ne]; omega
        have hbad : U.bad s pos = false := by
          cases hb : U.bad s pos with
          | false => rfl
          | true => exact absurd ((U.bad_iff s pos hp).1 hb).1 hr
        have G : Hid (U.vfrom s (pos + (Utf8.decode s pos).2) = U.valid s) := by rw [← hv.out]; exact (U.vfrom_step s pos hp hbad).symm
        clear hbad hr
        go_wp2
        go_roundw
        case rel => exact ⟨_, hle, rfl, G⟩
        case measure => simp; omega
    · have hnx := fun ty => run_next_end (P := Try.prog) w s pos ty hp
      have G : Hid (U.valid s = true) := by rw [← hv.out]; exact U.vfrom_end s pos hp
      go_wp2
      go_ret
      exact ⟨ret_bool G.out.symm, (Below.refl _ _).alloc (Nat.le_refl _) _⟩
end Go.Proofs.Ytifaepkeoffcfaa
