/- readFloat at "2.5e1" and "0x1Fp0"; atofHex at 0x1F (internal/strconv/atof.go). What -0.25 is told as. Plain arithmetic. -/
import Derived.Test.YtibmgmgdbicdlaaDoorPRead
import Derived.Test.YtibmgmgdbicdlaaDoorPRf
import Derived.Test.YtibmgmgdbicdlaaDoorFTold
import Derived.Test.YtibmgmgdbicdlaaDoorFText
namespace Go.Proofs.YtibmgmgdbicdlaaDoor
open Go.RowKit
set_option linter.unusedVariables false
set_option linter.unusedSimpArgs false
theorem dec25 : PF.Dec ⟨#[50, 46, 53, 101, 49]⟩ ⟨25, 2, 2, 1, true, true, false⟩ [101, 49] :=
  ⟨by decide, by rfl, rfl, ⟨.inl rfl, by decide, by decide⟩, by decide, fun h => ⟨show (50 : UInt8).toNat ≠ 43 by decide, show (50 : UInt8).toNat ≠ 45 by decide⟩, fun h h2 => absurd (show (50 : UInt8).toNat = 48 from h2) (by decide)⟩
theorem rf25 (W : World) : Hd (Calls Tryd.prog 85 #[.string ⟨#[50, 46, 53, 101, 49]⟩] W fun e w' => e = .returned (.tuple #[.int .u64 ((25 : Nat) : Int), .int .i64 0, .bool false, .bool false, .bool false, .int .i64 (((⟨#[50, 46, 53, 101, 49]⟩ : ByteArray).size : Nat) : Int), .bool true]) ∧ W = w') := hd (by
  have h := readDec_any _ _ _ W dec25
  rw [show PF.ansE ⟨25, 2, 2, 1, true, true, false⟩ [101, 49] = 0 by decide] at h
  exact h)
theorem lower_at (c d : Nat) (w : World) (h : c < 256) (hl : PF.low c = d) :
    Calls Tryd.prog 108 #[.int .u8 c] w fun e w' => e = .returned (.int .u8 (d : Int)) ∧ w = w' := by
  rw [← hl]; exact lower_any c w h
theorem low120 (w : World) : Calls Tryd.prog 108 #[.int .u8 120] w fun e w' => e = .returned (.int .u8 120) ∧ w = w' := lower_at 120 120 w (by decide) (by decide)
theorem low112 (w : World) : Calls Tryd.prog 108 #[.int .u8 112] w fun e w' => e = .returned (.int .u8 112) ∧ w = w' := lower_at 112 112 w (by decide) (by decide)
theorem low70 (w : World) : Calls Tryd.prog 108 #[.int .u8 70] w fun e w' => e = .returned (.int .u8 102) ∧ w = w' := lower_at 70 102 w (by decide) (by decide)
set_option maxRecDepth 100000 in
set_option maxHeartbeats 4000000 in
theorem rfhex (w : World) : Calls Tryd.prog 85 #[.string ⟨#[48, 120, 49, 70, 112, 48]⟩] w fun e w' => e = .returned (.tuple #[.int .u64 31, .int .i64 0, .bool false, .bool false, .bool true, .int .i64 6, .bool true]) ∧ w = w' := by
  have A1 := hd (low120 w)
  have A2 := hd (low112 w)
  have A3 := hd (low70 w)
  have b0 : ((⟨#[48, 120, 49, 70, 112, 48]⟩ : ByteArray)[0]'(by decide)).toNat = 48 := rfl
  have b1 : ((⟨#[48, 120, 49, 70, 112, 48]⟩ : ByteArray)[1]'(by decide)).toNat = 120 := rfl
  have b2 : ((⟨#[48, 120, 49, 70, 112, 48]⟩ : ByteArray)[2]'(by decide)).toNat = 49 := rfl
  have b3 : ((⟨#[48, 120, 49, 70, 112, 48]⟩ : ByteArray)[3]'(by decide)).toNat = 70 := rfl
  have b4 : ((⟨#[48, 120, 49, 70, 112, 48]⟩ : ByteArray)[4]'(by decide)).toNat = 112 := rfl
  have b5 : ((⟨#[48, 120, 49, 70, 112, 48]⟩ : ByteArray)[5]'(by decide)).toNat = 48 := rfl
  go_enter Tryd.func85, Tryd.ntmps85
  go_wp2
  go_step3
  go_wp2_with (first | (go_at_call 108; (with_reducible refine A1.o.mono ?_); rintro e w' ⟨rfl, rfl⟩))
  trace_state
  go_step3
  go_wp2
  go_loop [2, 5, 7, 9, 13, 14, 15, 16, 17] (fun xm xt xi xu xsd xsg xnd xnm xdp => xt = .bool false ∧ xu = .bool false ∧ xsd = .bool false ∧ xdp = .int .i64 0 ∧ ((xm = .int .u64 0 ∧ xi = .int .i64 2 ∧ xsg = .bool false ∧ xnd = .int .i64 0 ∧ xnm = .int .i64 0) ∨ (xm = .int .u64 1 ∧ xi = .int .i64 3 ∧ xsg = .bool true ∧ xnd = .int .i64 1 ∧ xnm = .int .i64 1) ∨ (xm = .int .u64 31 ∧ xi = .int .i64 4 ∧ xsg = .bool true ∧ xnd = .int .i64 2 ∧ xnm = .int .i64 2))) (fun xm xt xi xu xsd xsg xnd xnm xdp => 10 - (intOf xi).toNat)
  case atStart => exact ⟨rfl, rfl, rfl, rfl, .inl ⟨rfl, rfl, rfl, rfl, rfl⟩⟩
  case round =>
    obtain ⟨rfl, rfl, rfl, rfl, ⟨rfl, rfl, rfl, rfl, rfl⟩ | ⟨rfl, rfl, rfl, rfl, rfl⟩ | ⟨rfl, rfl, rfl, rfl, rfl⟩⟩ := hrel
    · go_wp2
      go_round
      case rel => exact ⟨rfl, rfl, rfl, rfl, .inr (.inl ⟨rfl, rfl, rfl, rfl, rfl⟩)⟩
      case measure => simp [intOf]
    · go_wp2_with (first | (go_at_call 108; (with_reducible refine A3.o.mono ?_); rintro e w' ⟨rfl, rfl⟩))
      go_round
      case rel => exact ⟨rfl, rfl, rfl, rfl, .inr (.inr ⟨rfl, rfl, rfl, rfl, rfl⟩)⟩
      case measure => simp [intOf]
    · go_wp2_with (first | (go_at_call 108; (with_reducible refine A2.o.mono ?_); rintro e w' ⟨rfl, rfl⟩))
      go_loop [7, 9, 20] (fun xi xu xe => xu = .bool false ∧ xe = .int .i64 0 ∧ (xi = .int .i64 5 ∨ xi = .int .i64 6)) (fun xi xu xe => 10 - (intOf xi).toNat)
      case atStart => exact ⟨rfl, rfl, .inl rfl⟩
      case round =>
        obtain ⟨rfl, rfl, rfl | rfl⟩ := hrel
        · go_wp2
          go_round
          case rel => exact ⟨rfl, rfl, .inr rfl⟩
          case measure => simp [intOf]
        · go_wp2
          refine bodyPost_ret (v := .tuple #[.int .u64 31, .int .i64 0, .bool false, .bool false, .bool true, .int .i64 6, .bool true]) (by simp [results, Tryd.results85, go_sem]) rfl ⟨rfl, rfl⟩
end Go.Proofs.YtibmgmgdbicdlaaDoor
namespace Go.Proofs.YtibmgmgdbicdlaaDoor
namespace FS
set_option linter.unusedVariables false
theorem told25 : Told 13821547256400052224 25 398 := by
  have hm : mOf 13821547256400052224 = 4503599627370496 := by decide +kernel
  have he : eOf 13821547256400052224 = -54 := by decide +kernel
  have hs : sOf 13821547256400052224 = true := by decide +kernel
  unfold Told
  rw [hm, he, hs]
  obtain ⟨V, hV⟩ : ∃ V, V = 4 * 4503599627370496 * uq (-54) := ⟨_, rfl⟩
  obtain ⟨L, hL⟩ : ∃ L, L = 4 * 4503599627370496 * uq (-54) - (if true = true then 1 else 2) * uq (-54) := ⟨_, rfl⟩
  obtain ⟨U, hU⟩ : ∃ U, U = 4 * 4503599627370496 * uq (-54) + 2 * uq (-54) := ⟨_, rfl⟩
  have hVT : 25 * T 398 = V := by rw [hV]; decide +kernel
  have h1 : 2 * T 399 < L := by rw [hL]; decide +kernel
  have h2 : U < 3 * T 399 := by rw [hU]; decide +kernel
  have h3 : L < V := by rw [hL, hV]; decide +kernel
  have h4 : V < U := by rw [hU, hV]; decide +kernel
  rw [← hL, ← hU, ← hV]
  clear hV hL hU hm he hs
  have hT := T_pos 398
  have hT2 := T_pos 399
  refine ⟨?_, fun e he => ?_, fun e he => ⟨?_, fun h => .inl ?_⟩⟩
  · rw [hVT]; exact ⟨.inl h3, .inl h4⟩
  · have he : In (4503599627370496 % 2 == 0) L U (e * T 399) := he
    have := he.le
    rcases Nat.lt_or_ge e 3 with c | c
    · have := Nat.mul_le_mul_right (T 399) (show e ≤ 2 by omega)
      omega
    · have := Nat.mul_le_mul_right (T 399) c
      omega
  · rw [hVT]; unfold dist; omega
  · rw [hVT] at h
    have h5 : e * T 398 = 25 * T 398 := by rw [hVT]; unfold dist at h; omega
    exact Nat.eq_of_mul_eq_mul_right hT h5
theorem digits25 : Lib.decDigits 25 = [50, 53] := by
  rw [Lib.decDigits, dif_neg (by decide), Lib.decDigits_one (by decide)]
  rfl
theorem shown25 : Shown 13821547256400052224 [45, 48, 46, 50, 53] := by
  refine .inr (.inr ⟨by decide +kernel, by decide +kernel, 25, 398, told25, by decide, ?_⟩)
  rw [digits25, Lib.nDigits_unique 1 25 (by decide) (by decide), show ng 13821547256400052224 = true by decide +kernel]
  rfl
end FS
end Go.Proofs.YtibmgmgdbicdlaaDoor
