/- num.Read and num.Parse at the texts of the laws' first lines; weirlaw02.alive. -/
import Derived.Test.YtibmgmgdbicdlaaDoorPHex
import Derived.Test.YtibmgmgdbicdlaaDoorPShow25
namespace Go.Proofs.YtibmgmgdbicdlaaDoor
open Go.RowKit
set_option linter.unusedVariables false
set_option linter.unusedSimpArgs false
theorem pfx1F : PN.pfx [48, 120, 49, 70] = 4 := by decide +kernel
theorem prefix1F (w : World) : Calls Tryd.prog 17 #[.string ⟨#[48, 120, 49, 70]⟩] w fun e w' => e = .returned (.int .i64 4) ∧ w = w' := by
  have h := prefix_any ⟨#[48, 120, 49, 70]⟩ w (by decide)
  rw [show (⟨#[48, 120, 49, 70]⟩ : ByteArray).data.toList = [48, 120, 49, 70] from rfl, pfx1F] at h
  exact h
theorem pfx1e5 : PN.pfx [49, 101, 53, 109] = 3 := by decide +kernel
theorem prefix1e5 (w : World) : Calls Tryd.prog 17 #[.string ⟨#[49, 101, 53, 109]⟩] w fun e w' => e = .returned (.int .i64 3) ∧ w = w' := by
  have h := prefix_any ⟨#[49, 101, 53, 109]⟩ w (by decide)
  rw [show (⟨#[49, 101, 53, 109]⟩ : ByteArray).data.toList = [49, 101, 53, 109] from rfl, pfx1e5] at h
  exact h
theorem isInf31 (w : World) : Calls Tryd.prog 20 #[.float .f64 4629418941960159232, .int .i64 0] w fun e w' => e = .returned (.bool false) ∧ w = w' :=
  isInf_any 4629418941960159232 w (by decide +kernel) (by decide +kernel)
set_option maxRecDepth 100000 in
set_option maxHeartbeats 2000000 in
theorem read31 (w : World) (G : Glb w) :
    Calls Tryd.prog 5 #[.string ⟨#[48, 120, 49, 70]⟩] w fun e w' => e = .returned (.tuple #[.float .f64 4629418941960159232, .int .i64 0]) ∧ Below w.heap.size w w' := by
  have HW1 := hd (word3 ⟨#[48, 120, 49, 70]⟩ ⟨#[105, 110, 102]⟩ w (by decide) (by decide) (by decide))
  have HW2 := hd (word3 ⟨#[48, 120, 49, 70]⟩ ⟨#[110, 97, 110]⟩ w (by decide) (by decide) (by decide))
  have HP := hd (prefix1F w)
  have HS := hd (small_bad ⟨#[48, 120, 49, 70]⟩ w 1 (by decide) (by decide) (by decide) (by decide))
  have HF := hd (fun W (hb : Below w.heap.size w W) => parse31 W (G.below hb) (hd (rfhex W)))
  have b1 : ((⟨#[48, 120, 49, 70]⟩ : ByteArray)[1]'(by decide)).toNat = 120 := rfl
  have b2 : bits .or .u8 120 32 = 120 := by decide
  have b3 : (⟨#[48, 120, 49, 70]⟩ : ByteArray) ++ ⟨#[112, 48]⟩ = ⟨#[48, 120, 49, 70, 112, 48]⟩ := by apply ByteArray.ext; rfl
  clear G
  go_enter Tryd.func5, Tryd.ntmps5
  go_wp2_with (first | (go_at_call 14; (with_reducible refine HW1.o.mono ?_); rintro e w' ⟨rfl, rfl⟩) | (go_at_call 14; (with_reducible refine HW2.o.mono ?_); rintro e w' ⟨rfl, rfl⟩) | (go_at_call 17; (with_reducible refine HP.o.mono ?_); rintro e w' ⟨rfl, rfl⟩) | (go_at_call 18; (with_reducible refine HS.o.mono ?_); rintro e w1 ⟨rfl, h1⟩; have B1 := hd h1; clear h1) | (go_at_call 19; (with_reducible refine (HF.o _ B1.o).mono ?_); rintro e w' ⟨rfl, n1, rfl⟩) | (go_at_call 20; (with_reducible refine (isInf31 _).mono ?_); rintro e w' ⟨rfl, rfl⟩))
  go_ret2
  exact ⟨rfl, bel_drew B1.o _⟩
theorem neg31 (W : World) : (Op.unary .neg (.float .f64 4629418941960159232)).run Tryd.prog W = .ok (.float .f64 13852790978814935040) W := by
  first | rfl | (simp [Op.unary]; done) | (simp [Op.unary]; decide)
theorem show25 (w : World) (hT : Tbl w) : Calls Tryd.prog 49 #[.float .f64 13821547256400052224] w fun e w' => e = .returned (.string ⟨#[45, 48, 46, 50, 53]⟩) ∧ Below w.heap.size w w' :=
  (show_any 13821547256400052224 (by decide) w hT).mono (by
    rintro e w' ⟨s, rfl, h1, h2⟩
    obtain rfl := h1.ext FS.shown25
    exact ⟨rfl, h2⟩)
end Go.Proofs.YtibmgmgdbicdlaaDoor
