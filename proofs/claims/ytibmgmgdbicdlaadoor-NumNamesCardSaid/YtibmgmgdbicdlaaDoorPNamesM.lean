/- NumNames: Read of an empty text, of 1e400 and of a text longer than the limit. -/
import Derived.Test.YtibmgmgdbicdlaaDoorPRd
import Derived.Test.YtibmgmgdbicdlaaDoorPLay
namespace Go.Proofs.YtibmgmgdbicdlaaDoor
open Go.RowKit
set_option linter.unusedVariables false
theorem read_long (s : ByteArray) (w : World) (h : 512 < s.size) (hs : s.size ≤ 100000) :
    Calls Tryd.prog 5 #[.string s] w fun e w' => e = .returned (.tuple #[.float .f64 0, .int .i64 1]) ∧ w = w' := by
  have t : ((512 : Int) < (s.size : Int)) = True := by apply eq_true; omega
  go_enter Tryd.func5, Tryd.ntmps5
  go_wp2
  go_ret2
  exact ⟨rfl, rfl⟩
theorem read_nil (w : World) :
    Calls Tryd.prog 5 #[.string ⟨#[]⟩] w fun e w' => e = .returned (.tuple #[.float .f64 0, .int .i64 20]) ∧ w = w' := by
  have HW1 := hd (fun W => word3 ⟨#[]⟩ ⟨#[105, 110, 102]⟩ W (by decide) (by decide) (by decide))
  have HW2 := hd (fun W => word3 ⟨#[]⟩ ⟨#[110, 97, 110]⟩ W (by decide) (by decide) (by decide))
  go_enter Tryd.func5, Tryd.ntmps5
  go_wp2_with (first | (go_at_call 14; (with_reducible refine (HW1.o _).mono ?_); rintro e w' ⟨rfl, rfl⟩) | (go_at_call 14; (with_reducible refine (HW2.o _).mono ?_); rintro e w' ⟨rfl, rfl⟩))
  go_ret2
  exact ⟨rfl, rfl⟩
theorem read_1e400 (w : World) (N : Nms w) :
    Calls Tryd.prog 5 #[.string ⟨#[49, 101, 52, 48, 48]⟩] w fun e w' => e = .returned (.tuple #[.float .f64 0, .int .i64 21]) ∧ Below w.heap.size w w' := by
  have R := read_dec ⟨#[49, 101, 52, 48, 48]⟩ w N (by decide) (by decide) (by decide +kernel) (by decide +kernel) [49] [101, 52, 48, 48] rfl (fun c hc => by
      rcases List.mem_singleton.1 hc with rfl; exact .inr ⟨by decide, by decide⟩)
    (fun c t h => by injection h with h1 h2; rw [← h1]; exact .inl rfl) 1 0 (by decide +kernel) (by decide)
  refine R.mono ?_
  rintro e w' ⟨hb, b, hV, rfl⟩
  refine ⟨?_, hb⟩
  have e1 : (PF.mf [49] PF.ls0).D = 1 := by decide +kernel
  have e2 : PF.expOf [101, 52, 48, 48] - ((PF.mf [49] PF.ls0).b : Int) = 400 := by decide +kernel
  rw [e1, e2] at hV
  have : b = FS.INF := PVal.ext hV (.inr ⟨by decide, FS.big_rnd (by decide) (by decide)⟩)
  subst this
  unfold RdAns
  rw [if_pos rfl]
end Go.Proofs.YtibmgmgdbicdlaaDoor
