/- num.word, num.small, num.Read at the texts that the laws' first lines ask (num/num.go). num.Read at "2.5e1" (num/num.go). -/
import Derived.Test.YtibmgmgdbicdlaaDoorFShow
import Derived.Test.YtibmgmgdbicdlaaDoorPPref
import Derived.Test.YtibmgmgdbicdlaaDoorPAtof
import Derived.Test.YtibmgmgdbicdlaaDoorPRfMath
namespace Go.Proofs.YtibmgmgdbicdlaaDoor
open Go.RowKit
set_option linter.unusedVariables false
set_option linter.unusedSimpArgs false
@[go_sem] theorem run_store_flt {P : Program} {w : World} {a : Addr} {m : Mode} (k : FloatKind) (b : Nat) : (store a (.float k b) m).run P w = stored P w a (.float k b) m := run_store P w a _ m rfl
theorem word_ne (s v : ByteArray) (w : World) (h : s.size ≠ v.size) (hs : s.size ≤ 1125899906842624) :
    Calls Tryd.prog 14 #[.string s, .string v] w fun e w' => e = .returned (.bool false) ∧ w = w' := by
  have t : ((s.size : Int) != (v.size : Int)) = true := by rw [bne_iff_ne]; omega
  clear h
  go_enter Tryd.func14, Tryd.ntmps14
  go_wp2
  go_ret
  exact ⟨rfl, rfl⟩
set_option maxRecDepth 10000 in
theorem abs_any (n : Nat) (w : World) (h : bits .andNot .u64 (n : Int) 9223372036854775808 = (n : Int)) : Calls Tryd.prog 43 #[.float .f64 n] w fun e w' => e = .returned (.float .f64 n) ∧ w = w' := by
  have q1 := mbits_run n
  have q2 := mfrom_run n
  go_enter Tryd.func43, Tryd.ntmps43
  go_wp2
  go_ret
  exact ⟨rfl, rfl⟩
theorem isInf_any (n : Nat) (w : World) (h : bits .andNot .u64 (n : Int) 9223372036854775808 = (n : Int)) (h2 : (FloatKind.f64.format.order n 9218868437227405311 == some Ordering.gt) = false) :
    Calls Tryd.prog 20 #[.float .f64 n, .int .i64 0] w fun e w' => e = .returned (.bool false) ∧ w = w' := by
  have H := hd (abs_any n w h)
  clear h
  go_enter Tryd.func20, Tryd.ntmps20
  go_wp2_with (go_at_call 43; refine H.o.mono ?_; rintro e w' ⟨rfl, rfl⟩)
  go_ret
  exact ⟨ret_bool (by first | rfl | exact h2), rfl⟩
set_option maxRecDepth 100000 in
set_option maxHeartbeats 2000000 in
/-- a text with a byte that is neither a digit nor a point -/
theorem small_bad (s : ByteArray) (w : World) (k0 : Nat) (hk0 : k0 < s.size) (hb : PN.dg (s[k0]'hk0).toNat = false) (hb2 : (s[k0]'hk0).toNat ≠ 46) (hs : s.size ≤ 1000) :
    Calls Tryd.prog 18 #[.string s] w fun e w' => e = .returned (.tuple #[.float .f64 0, .bool false]) ∧ Below w.heap.size w w' := by
  have HB := hd (And.intro hb hb2)
  clear hb hb2
  go_enter Tryd.func18, Tryd.ntmps18
  by_cases h15 : 15 < s.size
  · go_wp2
    refine bodyPost_ret (v := .tuple #[.float .f64 0, .bool false]) (by simp [results, Tryd.results18, go_sem]) rfl ⟨rfl, ?_⟩
    repeat (refine Below.setCell ?_ (by simp) _)
    exact (Below.refl _ _).alloc (Nat.le_refl _) _
  · go_wp2_with fail
    go_loop [5, 6, 7, 16] (fun xn xb xp xk => ∃ (k n b : Nat) (p : Bool), k ≤ k0 ∧ xk = .int .i64 (k : Int) ∧ xn = .int .i64 (n : Int) ∧ xb = .int .i64 (b : Int) ∧ xp = .bool p ∧ b ≤ k ∧ Hd (n < 10 ^ k)) (fun xn xb xp xk => s.size - (intOf xk).toNat)
    case atStart => exact ⟨0, 0, 0, false, Nat.zero_le _, rfl, rfl, rfl, rfl, Nat.le_refl _, hd (by decide)⟩
    case round =>
      obtain ⟨k, n, b, p, hk, rfl, rfl, rfl, rfl, hbk, HN⟩ := hrel
      have hlt : k < s.size := by omega
      have hc : (s[k]'hlt).toNat < 256 := (s[k]'hlt).toNat_lt
      have hn15 : n < 1000000000000000 := Nat.lt_of_lt_of_le HN.o (Nat.pow_le_pow_right (by decide) (show k ≤ 15 by omega))
      have HNE : Hd (k = k0 → PN.dg (s[k]'hlt).toNat = false ∧ (s[k]'hlt).toNat ≠ 46) := hd fun e => by subst e; exact HB.o
      by_cases c46 : (s[k]'hlt).toNat = 46
      · have t46 : (((s[k]'hlt).toNat : Int) == 46) = true := by rw [c46]; rfl
        have hk2 : k < k0 := by
          rcases Nat.lt_or_ge k k0 with h | h
          · exact h
          · exact absurd c46 (HNE.o (by omega)).2
        have HN2 : Hd (n < 10 ^ (k + 1)) := hd (Nat.lt_of_lt_of_le HN.o (Nat.pow_le_pow_right (by decide) (by omega)))
        clear c46 HN
        go_wp2
        go_round
        case rel => exact ⟨k + 1, n, b, true, by omega, by go_num, rfl, rfl, rfl, by omega, HN2⟩
        case measure => simp [intOf]; omega
      · have t46 : (((s[k]'hlt).toNat : Int) == 46) = false := by rw [beq_eq_false_iff_ne]; omega
        cases hdg : PN.dg (s[k]'hlt).toNat with
        | true =>
          have hd1 : 48 ≤ (s[k]'hlt).toNat ∧ (s[k]'hlt).toNat ≤ 57 := by unfold PN.dg at hdg; simpa using hdg
          obtain ⟨d1, d2⟩ := hd1
          have V := hd hdg
          have hk2 : k < k0 := by
            rcases Nat.lt_or_ge k k0 with h | h
            · exact h
            · have := (HNE.o (by omega)).1; rw [hdg] at this; cases this
          have HN2 : Hd (n * 10 + ((s[k]'hlt).toNat - 48) < 10 ^ (k + 1)) := hd (by have := HN.o; rw [Nat.pow_succ]; omega)
          clear c46 HN hdg
          cases p
          · go_wp2_with (go_at_call 39; refine (ndigit_any _ _ hc).mono ?_; rintro e w' ⟨rfl, rfl⟩; rw [V.o])
            go_round
            case rel => exact ⟨k + 1, _, b, false, by omega, by go_num, by go_num, rfl, rfl, by omega, HN2⟩
            case measure => simp [intOf]; omega
          · go_wp2_with (go_at_call 39; refine (ndigit_any _ _ hc).mono ?_; rintro e w' ⟨rfl, rfl⟩; rw [V.o])
            go_round
            case rel => exact ⟨k + 1, _, b + 1, true, by omega, by go_num, by go_num, by go_num, rfl, by omega, HN2⟩
            case measure => simp [intOf]; omega
        | false =>
          have V := hd hdg
          clear c46 HN hdg
          go_wp2_with (go_at_call 39; refine (ndigit_any _ _ hc).mono ?_; rintro e w' ⟨rfl, rfl⟩; rw [V.o])
          refine bodyPost_ret (v := .tuple #[.float .f64 0, .bool false]) (by simp [results, Tryd.results18, go_sem]) rfl ⟨rfl, ?_⟩
          repeat (refine Below.setCell ?_ (by simp) _)
          exact (Below.refl _ _).alloc (Nat.le_refl _) _
end Go.Proofs.YtibmgmgdbicdlaaDoor
namespace Go.Proofs.YtibmgmgdbicdlaaDoor
open Go.RowKit
set_option linter.unusedVariables false
set_option linter.unusedSimpArgs false
theorem pfx25 : PN.pfx [50, 46, 53, 101, 49] = 5 := by decide +kernel
theorem prefix25 (w : World) : Calls Tryd.prog 17 #[.string ⟨#[50, 46, 53, 101, 49]⟩] w fun e w' => e = .returned (.int .i64 5) ∧ w = w' := by
  have h := prefix_any ⟨#[50, 46, 53, 101, 49]⟩ w (by decide)
  rw [show (⟨#[50, 46, 53, 101, 49]⟩ : ByteArray).data.toList = [50, 46, 53, 101, 49] from rfl, pfx25] at h
  exact h
theorem word3 (s v : ByteArray) (w : World) (h : s.size ≠ 3) (hv : v.size = 3) (hs : s.size ≤ 1000) : Calls Tryd.prog 14 #[.string s, .string v] w fun e w' => e = .returned (.bool false) ∧ w = w' :=
  word_ne s v w (by omega) (by omega)
theorem flt25 : floatOfInt .f64 ((25 : Nat) : Int) = 4627730092099895296 := by decide +kernel
theorem isInf25 (w : World) : Calls Tryd.prog 20 #[.float .f64 4627730092099895296, .int .i64 0] w fun e w' => e = .returned (.bool false) ∧ w = w' :=
  isInf_any 4627730092099895296 w (by decide +kernel) (by decide +kernel)
set_option maxRecDepth 100000 in
set_option maxHeartbeats 2000000 in
theorem read25 (w : World) (G : Glb w)
    (HR : ∀ W, Hd (Calls Tryd.prog 85 #[.string ⟨#[50, 46, 53, 101, 49]⟩] W fun e w' => e = .returned (.tuple #[.int .u64 ((25 : Nat) : Int), .int .i64 0, .bool false, .bool false, .bool false, .int .i64 (((⟨#[50, 46, 53, 101, 49]⟩ : ByteArray).size : Nat) : Int), .bool true]) ∧ W = w')) :
    Calls Tryd.prog 5 #[.string ⟨#[50, 46, 53, 101, 49]⟩] w fun e w' => e = .returned (.tuple #[.float .f64 4627730092099895296, .int .i64 0]) ∧ Below w.heap.size w w' := by
  have HW1 := hd (word3 ⟨#[50, 46, 53, 101, 49]⟩ ⟨#[105, 110, 102]⟩ w (by decide) (by decide) (by decide))
  have HW2 := hd (word3 ⟨#[50, 46, 53, 101, 49]⟩ ⟨#[110, 97, 110]⟩ w (by decide) (by decide) (by decide))
  have HP := hd (prefix25 w)
  have HS := hd (small_bad ⟨#[50, 46, 53, 101, 49]⟩ w 3 (by decide) (by decide) (by decide) (by decide))
  have HF := hd (fun W (hb : Below w.heap.size w W) => by
    have h := parse0_any ⟨#[50, 46, 53, 101, 49]⟩ (floatOfInt .f64 ((25 : Nat) : Int)) W (hd (atof0_any ⟨#[50, 46, 53, 101, 49]⟩ 25 W (by decide) (by decide) (by decide) (G.below hb) (by decide) (HR W)))
    rw [flt25] at h
    exact h)
  clear G HR
  go_enter Tryd.func5, Tryd.ntmps5
  go_wp2_with (first | (go_at_call 14; (with_reducible refine HW1.o.mono ?_); rintro e w' ⟨rfl, rfl⟩) | (go_at_call 14; (with_reducible refine HW2.o.mono ?_); rintro e w' ⟨rfl, rfl⟩) | (go_at_call 17; (with_reducible refine HP.o.mono ?_); rintro e w' ⟨rfl, rfl⟩) | (go_at_call 18; (with_reducible refine HS.o.mono ?_); rintro e w1 ⟨rfl, h1⟩; have B1 := hd h1; clear h1) | (go_at_call 19; (with_reducible refine (HF.o _ B1.o).mono ?_); rintro e w' ⟨rfl, rfl⟩) | (go_at_call 20; (with_reducible refine (isInf25 _).mono ?_); rintro e w' ⟨rfl, rfl⟩))
  go_ret2
  exact ⟨rfl, B1.o⟩
end Go.Proofs.YtibmgmgdbicdlaaDoor
