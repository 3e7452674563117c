/- num.Read and num.Parse at the texts of the laws' first lines; weirlaw02.alive. -/
import Derived.Test.YtibmgmgdbicdlaaGreatDoorPHex
import Derived.Test.YtibmgmgdbicdlaaGreatDoorPShow25
namespace Go.Proofs.YtibmgmgdbicdlaaGreatDoor
open Go.RowKit
set_option linter.unusedVariables false
set_option linter.unusedSimpArgs false
theorem pfx1F : PN.pfx [48, 120, 49, 70] = 4 := by decide +kernel
theorem prefix1F (w : World) : Calls Tryz.prog 29 #[.string ⟨#[48, 120, 49, 70]⟩] w fun e w' => e = .returned (.int .i64 4) ∧ w = w' := by
  have h := prefix_any ⟨#[48, 120, 49, 70]⟩ w (by decide)
  rw [show (⟨#[48, 120, 49, 70]⟩ : ByteArray).data.toList = [48, 120, 49, 70] from rfl, pfx1F] at h
  exact h
theorem pfx1e5 : PN.pfx [49, 101, 53, 109] = 3 := by decide +kernel
theorem prefix1e5 (w : World) : Calls Tryz.prog 29 #[.string ⟨#[49, 101, 53, 109]⟩] w fun e w' => e = .returned (.int .i64 3) ∧ w = w' := by
  have h := prefix_any ⟨#[49, 101, 53, 109]⟩ w (by decide)
  rw [show (⟨#[49, 101, 53, 109]⟩ : ByteArray).data.toList = [49, 101, 53, 109] from rfl, pfx1e5] at h
  exact h
theorem isInf31 (w : World) : Calls Tryz.prog 63 #[.float .f64 4629418941960159232, .int .i64 0] w fun e w' => e = .returned (.bool false) ∧ w = w' :=
  isInf_any 4629418941960159232 w (by decide +kernel) (by decide +kernel)
set_option maxRecDepth 100000 in
set_option maxHeartbeats 2000000 in
theorem read31 (w : World) (G : Glb w) :
    Calls Tryz.prog 27 #[.string ⟨#[48, 120, 49, 70]⟩] w fun e w' => e = .returned (.tuple #[.float .f64 4629418941960159232, .int .i64 0]) ∧ Below w.heap.size w w' := by
  have HW1 := hd (word3 ⟨#[48, 120, 49, 70]⟩ ⟨#[105, 110, 102]⟩ w (by decide) (by decide) (by decide))
  have HW2 := hd (word3 ⟨#[48, 120, 49, 70]⟩ ⟨#[110, 97, 110]⟩ w (by decide) (by decide) (by decide))
  have HP := hd (prefix1F w)
  have HS := hd (small_bad ⟨#[48, 120, 49, 70]⟩ w 1 (by decide) (by decide) (by decide) (by decide))
  have HF := hd (fun W (hb : Below w.heap.size w W) => parse31 W (G.below hb) (hd (rfhex W)))
  have b1 : ((⟨#[48, 120, 49, 70]⟩ : ByteArray)[1]'(by decide)).toNat = 120 := rfl
  have b2 : bits .or .u8 120 32 = 120 := by decide
  have b3 : (⟨#[48, 120, 49, 70]⟩ : ByteArray) ++ ⟨#[112, 48]⟩ = ⟨#[48, 120, 49, 70, 112, 48]⟩ := by apply ByteArray.ext; rfl
  clear G
  go_enter Tryz.func27, Tryz.ntmps27
  go_wp2_with (first | (go_at_call 58; (with_reducible refine HW1.o.mono ?_); rintro e w' ⟨rfl, rfl⟩) | (go_at_call 58; (with_reducible refine HW2.o.mono ?_); rintro e w' ⟨rfl, rfl⟩) | (go_at_call 29; (with_reducible refine HP.o.mono ?_); rintro e w' ⟨rfl, rfl⟩) | (go_at_call 61; (with_reducible refine HS.o.mono ?_); rintro e w1 ⟨rfl, h1⟩; have B1 := hd h1; clear h1) | (go_at_call 62; (with_reducible refine (HF.o _ B1.o).mono ?_); rintro e w' ⟨rfl, n1, rfl⟩) | (go_at_call 63; (with_reducible refine (isInf31 _).mono ?_); rintro e w' ⟨rfl, rfl⟩))
  go_ret2
  exact ⟨rfl, bel_drew B1.o _⟩
theorem neg31 (W : World) : (Op.unary .neg (.float .f64 4629418941960159232)).run Tryz.prog W = .ok (.float .f64 13852790978814935040) W := by
  first | rfl | (simp [Op.unary]; done) | (simp [Op.unary]; decide)
set_option maxRecDepth 100000 in
set_option maxHeartbeats 2000000 in
theorem parseM31 (w : World) (G : Glb w) :
    Calls Tryz.prog 31 #[.string ⟨#[45, 48, 120, 49, 70]⟩] w fun e w' => e = .returned (.tuple #[.float .f64 13852790978814935040, .bool true]) ∧ Below w.heap.size w w' := by
  have HR := hd (read31 w G)
  have b1 : ((⟨#[45, 48, 120, 49, 70]⟩ : ByteArray)[0]'(by decide)).toNat = 45 := rfl
  have b2 : (⟨#[45, 48, 120, 49, 70]⟩ : ByteArray).extract 1 5 = ⟨#[48, 120, 49, 70]⟩ := by apply ByteArray.ext; rfl
  have hn := neg31
  clear G
  go_enter Tryz.func31, Tryz.ntmps31
  go_wp2_with (go_at_call 27; (with_reducible refine HR.o.mono ?_); rintro e w1 ⟨rfl, h1⟩; have B1 := hd h1; clear h1)
  go_ret2
  exact ⟨rfl, B1.o⟩
theorem order12 (w : World) : Calls Tryz.prog 23 #[.float .f64 4607182418800017408, .float .f64 4611686018427387904] w fun e w' => e = .returned (.int .i64 (-1)) ∧ w = w' := by
  have c1 : (FloatKind.f64.format.order 4607182418800017408 4607182418800017408 == some Ordering.eq) = true := by decide +kernel
  have c2 : (FloatKind.f64.format.order 4611686018427387904 4611686018427387904 == some Ordering.eq) = true := by decide +kernel
  have c3 : (FloatKind.f64.format.order 4607182418800017408 4611686018427387904 == some Ordering.lt) = true := by decide +kernel
  go_enter Tryz.func23, Tryz.ntmps23
  go_wp2
  go_ret
  exact ⟨rfl, rfl⟩
theorem show25 (w : World) (hT : Tbl w) : Calls Tryz.prog 25 #[.float .f64 13821547256400052224] w fun e w' => e = .returned (.string ⟨#[45, 48, 46, 50, 53]⟩) ∧ Below w.heap.size w w' :=
  (show_any 13821547256400052224 (by decide) w hT).mono (by
    rintro e w' ⟨s, rfl, h1, h2⟩
    obtain rfl := h1.ext FS.shown25
    exact ⟨rfl, h2⟩)
set_option maxRecDepth 100000 in
set_option maxHeartbeats 2000000 in
theorem alive_any (w : World) (G : Glb w) (hT : Tbl w) : Calls Tryz.prog 13 #[] w fun e w' => e = .returned (.bool true) ∧ Below w.heap.size w w' := by
  have H1 := hd (read25 w G rf25)
  have H2 := hd (fun W (hb : Below w.heap.size w W) => parseM31 W (G.below hb))
  have H3 := hd (fun W (hb : Below w.heap.size w W) => show25 W (hT.below hb))
  have c1 : (FloatKind.f64.format.order 4627730092099895296 4627730092099895296 == some Ordering.eq) = true := by decide +kernel
  have c2 : (FloatKind.f64.format.order 13852790978814935040 13852790978814935040 == some Ordering.eq) = true := by decide +kernel
  clear G hT
  go_enter Tryz.func13, Tryz.ntmps13
  go_wp2_with (first | (go_at_call 27; (with_reducible refine H1.o.mono ?_); rintro e w1 ⟨rfl, h1⟩; have B1 := hd h1; clear h1) | (go_at_call 31; (with_reducible refine (H2.o _ B1.o).mono ?_); rintro e w2 ⟨rfl, h1⟩; have B2 := hd (bel B1.o h1); clear h1) | (go_at_call 25; (with_reducible refine (H3.o _ B2.o).mono ?_); rintro e w3 ⟨rfl, h1⟩; have B3 := hd (bel B2.o h1); clear h1) | (go_at_call 29; (with_reducible refine (prefix1e5 _).mono ?_); rintro e w' ⟨rfl, rfl⟩) | (go_at_call 23; (with_reducible refine (order12 _).mono ?_); rintro e w' ⟨rfl, rfl⟩))
  trace_state
  go_ret
  exact ⟨rfl, B3.o⟩
end Go.Proofs.YtibmgmgdbicdlaaGreatDoor
