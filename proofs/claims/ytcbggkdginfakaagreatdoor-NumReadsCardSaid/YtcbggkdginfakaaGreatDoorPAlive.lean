/- num.word, num.small, num.Read at the texts that the laws' first lines ask (num/num.go). num.Read at "2.5e1" (num/num.go). atofHex at 0x1F (internal/strconv/atof.go). readFloat at "2.5e1" and "0x1Fp0"; atofHex at 0x1F (internal/strconv/atof.go). What -0.25 is told as. Plain arithmetic. num.Read and num.Parse at the texts of the laws' first lines; weirlaw02.alive. -/
import Derived.Test.YtcbggkdginfakaaGreatDoorFShow
import Derived.Test.YtcbggkdginfakaaGreatDoorPPref
import Derived.Test.YtcbggkdginfakaaGreatDoorPAtof
import Derived.Test.YtcbggkdginfakaaGreatDoorPRfMath
import Derived.LaidEqlPtr
import Derived.Test.YtcbggkdginfakaaGreatDoorPRf
import Derived.Test.YtcbggkdginfakaaGreatDoorFTold
import Derived.Test.YtcbggkdginfakaaGreatDoorFDG
namespace Go.Proofs.YtcbggkdginfakaaGreatDoor
open Go.RowKit
set_option linter.unusedVariables false
set_option linter.unusedSimpArgs false
@[go_sem] theorem run_store_flt {P : Program} {w : World} {a : Addr} {m : Mode} (k : FloatKind) (b : Nat) : (store a (.float k b) m).run P w = stored P w a (.float k b) m := run_store P w a _ m rfl
theorem word_ne (s v : ByteArray) (w : World) (h : s.size ≠ v.size) (hs : s.size ≤ 1125899906842624) :
    Calls Tryz.prog 61 #[.string s, .string v] w fun e w' => e = .returned (.bool false) ∧ w = w' := by
  have t : ((s.size : Int) != (v.size : Int)) = true := by rw [bne_iff_ne]; omega
  clear h
  go_enter Tryz.func61, Tryz.ntmps61
  go_wp2
  go_ret
  exact ⟨rfl, rfl⟩
set_option maxRecDepth 10000 in
theorem abs_any (n : Nat) (w : World) (h : bits .andNot .u64 (n : Int) 9223372036854775808 = (n : Int)) : Calls Tryz.prog 100 #[.float .f64 n] w fun e w' => e = .returned (.float .f64 n) ∧ w = w' := by
  have q1 := mbits_run n
  have q2 := mfrom_run n
  go_enter Tryz.func100, Tryz.ntmps100
  go_wp2
  go_ret
  exact ⟨rfl, rfl⟩
theorem isInf_any (n : Nat) (w : World) (h : bits .andNot .u64 (n : Int) 9223372036854775808 = (n : Int)) (h2 : (FloatKind.f64.format.order n 9218868437227405311 == some Ordering.gt) = false) :
    Calls Tryz.prog 66 #[.float .f64 n, .int .i64 0] w fun e w' => e = .returned (.bool false) ∧ w = w' := by
  have H := hd (abs_any n w h)
  clear h
  go_enter Tryz.func66, Tryz.ntmps66
  go_wp2_with (go_at_call 100; refine H.o.mono ?_; rintro e w' ⟨rfl, rfl⟩)
  go_ret
  exact ⟨ret_bool (by first | rfl | exact h2), rfl⟩
set_option maxRecDepth 100000 in
set_option maxHeartbeats 2000000 in
/-- a text with a byte that is neither a digit nor a point -/
theorem small_bad (s : ByteArray) (w : World) (k0 : Nat) (hk0 : k0 < s.size) (hb : PN.dg (s[k0]'hk0).toNat = false) (hb2 : (s[k0]'hk0).toNat ≠ 46) (hs : s.size ≤ 1000) :
    Calls Tryz.prog 64 #[.string s] w fun e w' => e = .returned (.tuple #[.float .f64 0, .bool false]) ∧ Below w.heap.size w w' := by
  have HB := hd (And.intro hb hb2)
  clear hb hb2
  go_enter Tryz.func64, Tryz.ntmps64
  by_cases h15 : 15 < s.size
  · go_wp2
    refine bodyPost_ret (v := .tuple #[.float .f64 0, .bool false]) (by simp [results, Tryz.results64, go_sem]) rfl ⟨rfl, ?_⟩
    repeat (refine Below.setCell ?_ (by simp) _)
    exact (Below.refl _ _).alloc (Nat.le_refl _) _
  · go_wp2_with fail
    go_loop [5, 6, 7, 16] (fun xn xb xp xk => ∃ (k n b : Nat) (p : Bool), k ≤ k0 ∧ xk = .int .i64 (k : Int) ∧ xn = .int .i64 (n : Int) ∧ xb = .int .i64 (b : Int) ∧ xp = .bool p ∧ b ≤ k ∧ Hd (n < 10 ^ k)) (fun xn xb xp xk => s.size - (intOf xk).toNat)
    case atStart => exact ⟨0, 0, 0, false, Nat.zero_le _, rfl, rfl, rfl, rfl, Nat.le_refl _, hd (by decide)⟩
    case round =>
      obtain ⟨k, n, b, p, hk, rfl, rfl, rfl, rfl, hbk, HN⟩ := hrel
      have hlt : k < s.size := by omega
      have hc : (s[k]'hlt).toNat < 256 := (s[k]'hlt).toNat_lt
      have hn15 : n < 1000000000000000 := Nat.lt_of_lt_of_le HN.o (Nat.pow_le_pow_right (by decide) (show k ≤ 15 by omega))
      have HNE : Hd (k = k0 → PN.dg (s[k]'hlt).toNat = false ∧ (s[k]'hlt).toNat ≠ 46) := hd fun e => by subst e; exact HB.o
      by_cases c46 : (s[k]'hlt).toNat = 46
      · have t46 : (((s[k]'hlt).toNat : Int) == 46) = true := by rw [c46]; rfl
        have hk2 : k < k0 := by
          rcases Nat.lt_or_ge k k0 with h | h
          · exact h
          · exact absurd c46 (HNE.o (by omega)).2
        have HN2 : Hd (n < 10 ^ (k + 1)) := hd (Nat.lt_of_lt_of_le HN.o (Nat.pow_le_pow_right (by decide) (by omega)))
        clear c46 HN
        go_wp2
        go_round
        case rel => exact ⟨k + 1, n, b, true, by omega, by go_num, rfl, rfl, rfl, by omega, HN2⟩
        case measure => simp [intOf]; omega
      · have t46 : (((s[k]'hlt).toNat : Int) == 46) = false := by rw [beq_eq_false_iff_ne]; omega
        cases hdg : PN.dg (s[k]'hlt).toNat with
        | true =>
          have hd1 : 48 ≤ (s[k]'hlt).toNat ∧ (s[k]'hlt).toNat ≤ 57 := by unfold PN.dg at hdg; simpa using hdg
          obtain ⟨d1, d2⟩ := hd1
          have V := hd hdg
          have hk2 : k < k0 := by
            rcases Nat.lt_or_ge k k0 with h | h
            · exact h
            · have := (HNE.o (by omega)).1; rw [hdg] at this; cases this
          have HN2 : Hd (n * 10 + ((s[k]'hlt).toNat - 48) < 10 ^ (k + 1)) := hd (by have := HN.o; rw [Nat.pow_succ]; omega)
          clear c46 HN hdg
          cases p
          · go_wp2_with (go_at_call 76; refine (ndigit_any _ _ hc).mono ?_; rintro e w' ⟨rfl, rfl⟩; rw [V.o])
            go_round
            case rel => exact ⟨k + 1, _, b, false, by omega, by go_num, by go_num, rfl, rfl, by omega, HN2⟩
            case measure => simp [intOf]; omega
          · go_wp2_with (go_at_call 76; refine (ndigit_any _ _ hc).mono ?_; rintro e w' ⟨rfl, rfl⟩; rw [V.o])
            go_round
            case rel => exact ⟨k + 1, _, b + 1, true, by omega, by go_num, by go_num, by go_num, rfl, by omega, HN2⟩
            case measure => simp [intOf]; omega
        | false =>
          have V := hd hdg
          clear c46 HN hdg
          go_wp2_with (go_at_call 76; refine (ndigit_any _ _ hc).mono ?_; rintro e w' ⟨rfl, rfl⟩; rw [V.o])
          refine bodyPost_ret (v := .tuple #[.float .f64 0, .bool false]) (by simp [results, Tryz.results64, go_sem]) rfl ⟨rfl, ?_⟩
          repeat (refine Below.setCell ?_ (by simp) _)
          exact (Below.refl _ _).alloc (Nat.le_refl _) _
end Go.Proofs.YtcbggkdginfakaaGreatDoor
namespace Go.Proofs.YtcbggkdginfakaaGreatDoor
open Go.RowKit
set_option linter.unusedVariables false
set_option linter.unusedSimpArgs false
theorem pfx25 : PN.pfx [50, 46, 53, 101, 49] = 5 := by decide +kernel
theorem prefix25 (w : World) : Calls Tryz.prog 24 #[.string ⟨#[50, 46, 53, 101, 49]⟩] w fun e w' => e = .returned (.int .i64 5) ∧ w = w' := by
  have h := prefix_any ⟨#[50, 46, 53, 101, 49]⟩ w (by decide)
  rw [show (⟨#[50, 46, 53, 101, 49]⟩ : ByteArray).data.toList = [50, 46, 53, 101, 49] from rfl, pfx25] at h
  exact h
theorem word3 (s v : ByteArray) (w : World) (h : s.size ≠ 3) (hv : v.size = 3) (hs : s.size ≤ 1000) : Calls Tryz.prog 61 #[.string s, .string v] w fun e w' => e = .returned (.bool false) ∧ w = w' :=
  word_ne s v w (by omega) (by omega)
theorem flt25 : floatOfInt .f64 ((25 : Nat) : Int) = 4627730092099895296 := by decide +kernel
theorem isInf25 (w : World) : Calls Tryz.prog 66 #[.float .f64 4627730092099895296, .int .i64 0] w fun e w' => e = .returned (.bool false) ∧ w = w' :=
  isInf_any 4627730092099895296 w (by decide +kernel) (by decide +kernel)
set_option maxRecDepth 100000 in
set_option maxHeartbeats 2000000 in
theorem read25 (w : World) (G : Glb w)
    (HR : ∀ W, Hd (Calls Tryz.prog 181 #[.string ⟨#[50, 46, 53, 101, 49]⟩] W fun e w' => e = .returned (.tuple #[.int .u64 ((25 : Nat) : Int), .int .i64 0, .bool false, .bool false, .bool false, .int .i64 (((⟨#[50, 46, 53, 101, 49]⟩ : ByteArray).size : Nat) : Int), .bool true]) ∧ W = w')) :
    Calls Tryz.prog 21 #[.string ⟨#[50, 46, 53, 101, 49]⟩] w fun e w' => e = .returned (.tuple #[.float .f64 4627730092099895296, .int .i64 0]) ∧ Below w.heap.size w w' := by
  have HW1 := hd (word3 ⟨#[50, 46, 53, 101, 49]⟩ ⟨#[105, 110, 102]⟩ w (by decide) (by decide) (by decide))
  have HW2 := hd (word3 ⟨#[50, 46, 53, 101, 49]⟩ ⟨#[110, 97, 110]⟩ w (by decide) (by decide) (by decide))
  have HP := hd (prefix25 w)
  have HS := hd (small_bad ⟨#[50, 46, 53, 101, 49]⟩ w 3 (by decide) (by decide) (by decide) (by decide))
  have HF := hd (fun W (hb : Below w.heap.size w W) => by
    have h := parse0_any ⟨#[50, 46, 53, 101, 49]⟩ (floatOfInt .f64 ((25 : Nat) : Int)) W (hd (atof0_any ⟨#[50, 46, 53, 101, 49]⟩ 25 W (by decide) (by decide) (by decide) (G.below hb) (by decide) (HR W)))
    rw [flt25] at h
    exact h)
  clear G HR
  go_enter Tryz.func21, Tryz.ntmps21
  go_wp2_with (first | (go_at_call 61; (with_reducible refine HW1.o.mono ?_); rintro e w' ⟨rfl, rfl⟩) | (go_at_call 61; (with_reducible refine HW2.o.mono ?_); rintro e w' ⟨rfl, rfl⟩) | (go_at_call 24; (with_reducible refine HP.o.mono ?_); rintro e w' ⟨rfl, rfl⟩) | (go_at_call 64; (with_reducible refine HS.o.mono ?_); rintro e w1 ⟨rfl, h1⟩; have B1 := hd h1; clear h1) | (go_at_call 65; (with_reducible refine (HF.o _ B1.o).mono ?_); rintro e w' ⟨rfl, rfl⟩) | (go_at_call 66; (with_reducible refine (isInf25 _).mono ?_); rintro e w' ⟨rfl, rfl⟩))
  go_ret2
  exact ⟨rfl, B1.o⟩
end Go.Proofs.YtcbggkdginfakaaGreatDoor
namespace Go.Proofs.YtcbggkdginfakaaGreatDoor
open Go.RowKit
set_option linter.unusedVariables false
set_option linter.unusedSimpArgs false
theorem ptr_ne {w : World} (G : Glb w) : ∀ n, (binOp .eql 225 (.pointer (some ⟨6, 0, none⟩)) (.pointer (some ⟨5, 0, none⟩))).run Tryz.prog (w.drewN n) = .ok (.bool false) (w.drewN n) := fun n => by
  obtain ⟨c6, t6, h6⟩ := G.k6
  obtain ⟨c5, t5, h5⟩ := G.k5
  obtain ⟨j, hj, hz⟩ : ∃ j, Tryz.prog.info? 227 = some j ∧ j.size ≠ 0 := by
    have h : (Tryz.prog.info? 227).map (fun i => i.size) = some 3 := by kernel_rfl
    cases e : Tryz.prog.info? 227 with
    | none => rw [e] at h; cases h
    | some j => rw [e] at h; exact ⟨j, rfl, by have : j.size = 3 := Option.some.inj h; omega⟩
  exact run_eql_ptr_other (w.drewN n) (te := 227) Tryz.underlying225 hj hz (by simp) (ca := c6) (ta := t6) (cb := c5) (tb := t5) h6 h5
set_option maxRecDepth 100000 in
set_option maxHeartbeats 4000000 in
theorem hex31 (s : ByteArray) (w : World) (G : Glb w) : Calls Tryz.prog 182 #[.string s, .pointer (some ⟨6, 0, none⟩), .int .u64 31, .int .i64 0, .bool false, .bool false] w fun e w' => e = .returned (.tuple #[.float .f64 4629418941960159232, .nilIface]) ∧ ∃ n, w' = w.drewN n := by
  have g2 := G.mb
  have g3 := G.xb
  have g4 := G.bs
  have f1 : bits .and .u64 34902897112121344 3 = 0 := by decide
  have f2 : bits .and .u64 8725724278030336 1 = 0 := by decide
  have f3 : bits .or .u64 0 0 = 0 := by decide
  have f4 : bits .and .u64 8725724278030336 4503599627370495 = 4222124650659840 := by decide
  have f5 : bits .and .i64 1027 2047 = 1027 := by decide
  have f6 : bits .or .u64 4222124650659840 4625196817309499392 = 4629418941960159232 := by decide
  have q1 : ∀ W, (callFunc 190 #[.int .u64 4629418941960159232]).run Tryz.prog W = .ok (.value (.float .f64 4629418941960159232)) W := fun W => frombits_run 4629418941960159232 W
  have pe := ptr_ne G
  clear G
  go_enter Tryz.func182, Tryz.ntmps182
  go_wp2
  go_quiet (fail)
  go_wp2
  go_loop [2, 3] (fun xm xe => ∃ (M j : Nat), xm = .int .u64 (M : Int) ∧ xe = .int .i64 (52 - (j : Int)) ∧ j ≤ 50 ∧ Hd (M = 31 * 2 ^ j)) (fun xm xe => (intOf xe - 1).toNat)
  case atStart => exact ⟨31, 0, rfl, rfl, by decide, hd rfl⟩
  case round =>
    obtain ⟨M, j, rfl, rfl, hj, HM⟩ := hrel
    have hM0 : 0 < M := by rw [HM.o]; exact Nat.mul_pos (by decide) (Nat.pow_pos (by decide))
    have t0 : ((M : Int) != 0) = true := by rw [bne_iff_ne]; omega
    by_cases hlt : j < 50
    · have hMu : M ≤ 17451448556060672 := by
        have h1 := HM.o
        have : 2 ^ j ≤ 2 ^ 49 := Nat.pow_le_pow_right (by decide) (by omega)
        omega
      have t1 : ((M : Int) / 18014398509481984 == 0) = true := by rw [beq_iff_eq]; omega
      have HM2 : Hd (M * 2 = 31 * 2 ^ (j + 1)) := hd (by rw [HM.o, Nat.pow_succ, Nat.mul_assoc])
      clear HM
      go_wp2
      go_round
      case rel => exact ⟨M * 2, j + 1, by go_num, by go_num, by omega, HM2⟩
      case measure => simp [intOf]; omega
    · obtain rfl : j = 50 := by omega
      have hM : M = 34902897112121344 := by rw [HM.o]
      subst hM
      clear HM hM0 t0 hlt hj
      have t1 : ((34902897112121344 : Int) / 18014398509481984 == 0) = false := by decide
      go_wp2
      go_loop [2, 3] (fun xm xe => xm = .int .u64 34902897112121344 ∧ xe = .int .i64 2) (fun xm xe => 0)
      case atStart => exact ⟨rfl, rfl⟩
      case round =>
        obtain ⟨rfl, rfl⟩ := hrel
        go_wp2
        go_loop [2, 3] (fun xm xe => xm = .int .u64 34902897112121344 ∧ xe = .int .i64 2) (fun xm xe => 0)
        case atStart => exact ⟨rfl, rfl⟩
        case round =>
          obtain ⟨rfl, rfl⟩ := hrel
          go_wp2
          go_quiet (fail)
          go_wp2
          refine bodyPost_ret (v := .tuple #[.float .f64 4629418941960159232, .nilIface]) (by simp [results, Tryz.results182, go_sem]) rfl ⟨rfl, _, rfl⟩

set_option maxRecDepth 100000 in
set_option maxHeartbeats 2000000 in
/-- "0x1Fp0" -/
theorem parse31 (w : World) (G : Glb w)
    (HR : Hd (Calls Tryz.prog 181 #[.string ⟨#[48, 120, 49, 70, 112, 48]⟩] w fun e w' => e = .returned (.tuple #[.int .u64 31, .int .i64 0, .bool false, .bool false, .bool true, .int .i64 6, .bool true]) ∧ w = w')) :
    Calls Tryz.prog 65 #[.string ⟨#[48, 120, 49, 70, 112, 48]⟩, .int .i64 64] w fun e w' => e = .returned (.tuple #[.float .f64 4629418941960159232, .nilIface]) ∧ ∃ n, w' = w.drewN n := by
  have HS := hd (special_no ⟨#[48, 120, 49, 70, 112, 48]⟩ w (by decide) (by decide))
  have HH := hd (fun s => hex31 s w G)
  clear G
  have H0 : Hd (Calls Tryz.prog 153 #[.string ⟨#[48, 120, 49, 70, 112, 48]⟩] w fun e w' => e = .returned (.tuple #[.float .f64 4629418941960159232, .int .i64 6, .nilIface]) ∧ ∃ n, w' = w.drewN n) := hd (by
    go_enter Tryz.func153, Tryz.ntmps153
    go_wp2_with (first | (go_at_call 180; (with_reducible refine HS.o.mono ?_); rintro e w' ⟨rfl, rfl⟩) | (go_at_call 181; (with_reducible refine HR.o.mono ?_); rintro e w' ⟨rfl, rfl⟩) | (go_at_call 182; (with_reducible refine (HH.o _).mono ?_); rintro e w' ⟨rfl, n1, rfl⟩))
    refine bodyPost_ret (v := .tuple #[.float .f64 4629418941960159232, .int .i64 6, .nilIface]) (by simp [results, Tryz.results153, go_sem]) rfl ⟨rfl, _, rfl⟩)
  have H1 : Hd (Calls Tryz.prog 128 #[.string ⟨#[48, 120, 49, 70, 112, 48]⟩, .int .i64 64] w fun e w' => e = .returned (.tuple #[.float .f64 4629418941960159232, .int .i64 6, .nilIface]) ∧ ∃ n, w' = w.drewN n) := hd (by
    go_enter Tryz.func128, Tryz.ntmps128
    go_wp2_with (go_at_call 153; (with_reducible refine H0.o.mono ?_); rintro e w' ⟨rfl, n1, rfl⟩)
    refine bodyPost_ret (v := .tuple #[.float .f64 4629418941960159232, .int .i64 6, .nilIface]) (by simp [results, Tryz.results128, go_sem]) rfl ⟨rfl, _, rfl⟩)
  have H2 : Hd (Calls Tryz.prog 98 #[.string ⟨#[48, 120, 49, 70, 112, 48]⟩, .int .i64 64] w fun e w' => e = .returned (.tuple #[.float .f64 4629418941960159232, .nilIface]) ∧ ∃ n, w' = w.drewN n) := hd (by
    go_enter Tryz.func98, Tryz.ntmps98
    go_wp2_with (go_at_call 128; (with_reducible refine H1.o.mono ?_); rintro e w' ⟨rfl, n1, rfl⟩)
    refine bodyPost_ret (v := .tuple #[.float .f64 4629418941960159232, .nilIface]) (by simp [results, Tryz.results98, go_sem]) rfl ⟨rfl, _, rfl⟩)
  go_enter Tryz.func65, Tryz.ntmps65
  go_wp2_with (go_at_call 98; (with_reducible refine H2.o.mono ?_); rintro e w' ⟨rfl, n1, rfl⟩)
  refine bodyPost_ret (v := .tuple #[.float .f64 4629418941960159232, .nilIface]) (by simp [results, Tryz.results65, go_sem]) rfl ⟨rfl, _, rfl⟩
end Go.Proofs.YtcbggkdginfakaaGreatDoor
namespace Go.Proofs.YtcbggkdginfakaaGreatDoor
open Go.RowKit
set_option linter.unusedVariables false
set_option linter.unusedSimpArgs false
theorem dec25 : PF.Dec ⟨#[50, 46, 53, 101, 49]⟩ ⟨25, 2, 2, 1, true, true, false⟩ [101, 49] :=
  ⟨by decide, by rfl, rfl, ⟨.inl rfl, by decide, by decide⟩, by decide, fun h => ⟨show (50 : UInt8).toNat ≠ 43 by decide, show (50 : UInt8).toNat ≠ 45 by decide⟩, fun h h2 => absurd (show (50 : UInt8).toNat = 48 from h2) (by decide)⟩
theorem rf25 (W : World) : Hd (Calls Tryz.prog 181 #[.string ⟨#[50, 46, 53, 101, 49]⟩] W fun e w' => e = .returned (.tuple #[.int .u64 ((25 : Nat) : Int), .int .i64 0, .bool false, .bool false, .bool false, .int .i64 (((⟨#[50, 46, 53, 101, 49]⟩ : ByteArray).size : Nat) : Int), .bool true]) ∧ W = w') := hd (by
  have h := readDec_any _ _ _ W dec25
  rw [show PF.ansE ⟨25, 2, 2, 1, true, true, false⟩ [101, 49] = 0 by decide] at h
  exact h)
theorem lower_at (c d : Nat) (w : World) (h : c < 256) (hl : PF.low c = d) :
    Calls Tryz.prog 198 #[.int .u8 c] w fun e w' => e = .returned (.int .u8 (d : Int)) ∧ w = w' := by
  rw [← hl]; exact lower_any c w h
theorem low120 (w : World) : Calls Tryz.prog 198 #[.int .u8 120] w fun e w' => e = .returned (.int .u8 120) ∧ w = w' := lower_at 120 120 w (by decide) (by decide)
theorem low112 (w : World) : Calls Tryz.prog 198 #[.int .u8 112] w fun e w' => e = .returned (.int .u8 112) ∧ w = w' := lower_at 112 112 w (by decide) (by decide)
theorem low70 (w : World) : Calls Tryz.prog 198 #[.int .u8 70] w fun e w' => e = .returned (.int .u8 102) ∧ w = w' := lower_at 70 102 w (by decide) (by decide)
set_option maxRecDepth 100000 in
set_option maxHeartbeats 4000000 in
theorem rfhex (w : World) : Calls Tryz.prog 181 #[.string ⟨#[48, 120, 49, 70, 112, 48]⟩] w fun e w' => e = .returned (.tuple #[.int .u64 31, .int .i64 0, .bool false, .bool false, .bool true, .int .i64 6, .bool true]) ∧ w = w' := by
  have A1 := hd (low120 w)
  have A2 := hd (low112 w)
  have A3 := hd (low70 w)
  have b0 : ((⟨#[48, 120, 49, 70, 112, 48]⟩ : ByteArray)[0]'(by decide)).toNat = 48 := rfl
  have b1 : ((⟨#[48, 120, 49, 70, 112, 48]⟩ : ByteArray)[1]'(by decide)).toNat = 120 := rfl
  have b2 : ((⟨#[48, 120, 49, 70, 112, 48]⟩ : ByteArray)[2]'(by decide)).toNat = 49 := rfl
  have b3 : ((⟨#[48, 120, 49, 70, 112, 48]⟩ : ByteArray)[3]'(by decide)).toNat = 70 := rfl
  have b4 : ((⟨#[48, 120, 49, 70, 112, 48]⟩ : ByteArray)[4]'(by decide)).toNat = 112 := rfl
  have b5 : ((⟨#[48, 120, 49, 70, 112, 48]⟩ : ByteArray)[5]'(by decide)).toNat = 48 := rfl
  go_enter Tryz.func181, Tryz.ntmps181
  go_wp2
  go_step3
  go_wp2_with (first | (go_at_call 198; (with_reducible refine A1.o.mono ?_); rintro e w' ⟨rfl, rfl⟩))
  trace_state
  go_step3
  go_wp2
  go_loop [2, 5, 7, 9, 13, 14, 15, 16, 17] (fun xm xt xi xu xsd xsg xnd xnm xdp => xt = .bool false ∧ xu = .bool false ∧ xsd = .bool false ∧ xdp = .int .i64 0 ∧ ((xm = .int .u64 0 ∧ xi = .int .i64 2 ∧ xsg = .bool false ∧ xnd = .int .i64 0 ∧ xnm = .int .i64 0) ∨ (xm = .int .u64 1 ∧ xi = .int .i64 3 ∧ xsg = .bool true ∧ xnd = .int .i64 1 ∧ xnm = .int .i64 1) ∨ (xm = .int .u64 31 ∧ xi = .int .i64 4 ∧ xsg = .bool true ∧ xnd = .int .i64 2 ∧ xnm = .int .i64 2))) (fun xm xt xi xu xsd xsg xnd xnm xdp => 10 - (intOf xi).toNat)
  case atStart => exact ⟨rfl, rfl, rfl, rfl, .inl ⟨rfl, rfl, rfl, rfl, rfl⟩⟩
  case round =>
    obtain ⟨rfl, rfl, rfl, rfl, ⟨rfl, rfl, rfl, rfl, rfl⟩ | ⟨rfl, rfl, rfl, rfl, rfl⟩ | ⟨rfl, rfl, rfl, rfl, rfl⟩⟩ := hrel
    · go_wp2
      go_round
      case rel => exact ⟨rfl, rfl, rfl, rfl, .inr (.inl ⟨rfl, rfl, rfl, rfl, rfl⟩)⟩
      case measure => simp [intOf]
    · go_wp2_with (first | (go_at_call 198; (with_reducible refine A3.o.mono ?_); rintro e w' ⟨rfl, rfl⟩))
      go_round
      case rel => exact ⟨rfl, rfl, rfl, rfl, .inr (.inr ⟨rfl, rfl, rfl, rfl, rfl⟩)⟩
      case measure => simp [intOf]
    · go_wp2_with (first | (go_at_call 198; (with_reducible refine A2.o.mono ?_); rintro e w' ⟨rfl, rfl⟩))
      go_loop [7, 9, 20] (fun xi xu xe => xu = .bool false ∧ xe = .int .i64 0 ∧ (xi = .int .i64 5 ∨ xi = .int .i64 6)) (fun xi xu xe => 10 - (intOf xi).toNat)
      case atStart => exact ⟨rfl, rfl, .inl rfl⟩
      case round =>
        obtain ⟨rfl, rfl, rfl | rfl⟩ := hrel
        · go_wp2
          go_round
          case rel => exact ⟨rfl, rfl, .inr rfl⟩
          case measure => simp [intOf]
        · go_wp2
          refine bodyPost_ret (v := .tuple #[.int .u64 31, .int .i64 0, .bool false, .bool false, .bool true, .int .i64 6, .bool true]) (by simp [results, Tryz.results181, go_sem]) rfl ⟨rfl, rfl⟩
end Go.Proofs.YtcbggkdginfakaaGreatDoor
namespace Go.Proofs.YtcbggkdginfakaaGreatDoor
namespace FS
set_option linter.unusedVariables false
theorem told25 : Told 13821547256400052224 25 398 := by
  have hm : mOf 13821547256400052224 = 4503599627370496 := by decide +kernel
  have he : eOf 13821547256400052224 = -54 := by decide +kernel
  have hs : sOf 13821547256400052224 = true := by decide +kernel
  unfold Told
  rw [hm, he, hs]
  obtain ⟨V, hV⟩ : ∃ V, V = 4 * 4503599627370496 * uq (-54) := ⟨_, rfl⟩
  obtain ⟨L, hL⟩ : ∃ L, L = 4 * 4503599627370496 * uq (-54) - (if true = true then 1 else 2) * uq (-54) := ⟨_, rfl⟩
  obtain ⟨U, hU⟩ : ∃ U, U = 4 * 4503599627370496 * uq (-54) + 2 * uq (-54) := ⟨_, rfl⟩
  have hVT : 25 * T 398 = V := by rw [hV]; decide +kernel
  have h1 : 2 * T 399 < L := by rw [hL]; decide +kernel
  have h2 : U < 3 * T 399 := by rw [hU]; decide +kernel
  have h3 : L < V := by rw [hL, hV]; decide +kernel
  have h4 : V < U := by rw [hU, hV]; decide +kernel
  rw [← hL, ← hU, ← hV]
  clear hV hL hU hm he hs
  have hT := T_pos 398
  have hT2 := T_pos 399
  refine ⟨?_, fun e he => ?_, fun e he => ⟨?_, fun h => .inl ?_⟩⟩
  · rw [hVT]; exact ⟨.inl h3, .inl h4⟩
  · have he : In (4503599627370496 % 2 == 0) L U (e * T 399) := he
    have := he.le
    rcases Nat.lt_or_ge e 3 with c | c
    · have := Nat.mul_le_mul_right (T 399) (show e ≤ 2 by omega)
      omega
    · have := Nat.mul_le_mul_right (T 399) c
      omega
  · rw [hVT]; unfold dist; omega
  · rw [hVT] at h
    have h5 : e * T 398 = 25 * T 398 := by rw [hVT]; unfold dist at h; omega
    exact Nat.eq_of_mul_eq_mul_right hT h5
theorem digits25 : Lib.decDigits 25 = [50, 53] := by
  rw [Lib.decDigits, dif_neg (by decide), Lib.decDigits_one (by decide)]
  rfl
theorem shown25 : Shown 13821547256400052224 [45, 48, 46, 50, 53] := by
  refine .inr (.inr ⟨by decide +kernel, by decide +kernel, 25, 398, told25, by decide, ?_⟩)
  rw [digits25, Lib.nDigits_unique 1 25 (by decide) (by decide), show ng 13821547256400052224 = true by decide +kernel]
  rfl
end FS
end Go.Proofs.YtcbggkdginfakaaGreatDoor
namespace Go.Proofs.YtcbggkdginfakaaGreatDoor
open Go.RowKit
set_option linter.unusedVariables false
set_option linter.unusedSimpArgs false
theorem pfx1F : PN.pfx [48, 120, 49, 70] = 4 := by decide +kernel
theorem prefix1F (w : World) : Calls Tryz.prog 24 #[.string ⟨#[48, 120, 49, 70]⟩] w fun e w' => e = .returned (.int .i64 4) ∧ w = w' := by
  have h := prefix_any ⟨#[48, 120, 49, 70]⟩ w (by decide)
  rw [show (⟨#[48, 120, 49, 70]⟩ : ByteArray).data.toList = [48, 120, 49, 70] from rfl, pfx1F] at h
  exact h
theorem pfx1e5 : PN.pfx [49, 101, 53, 109] = 3 := by decide +kernel
theorem prefix1e5 (w : World) : Calls Tryz.prog 24 #[.string ⟨#[49, 101, 53, 109]⟩] w fun e w' => e = .returned (.int .i64 3) ∧ w = w' := by
  have h := prefix_any ⟨#[49, 101, 53, 109]⟩ w (by decide)
  rw [show (⟨#[49, 101, 53, 109]⟩ : ByteArray).data.toList = [49, 101, 53, 109] from rfl, pfx1e5] at h
  exact h
theorem isInf31 (w : World) : Calls Tryz.prog 66 #[.float .f64 4629418941960159232, .int .i64 0] w fun e w' => e = .returned (.bool false) ∧ w = w' :=
  isInf_any 4629418941960159232 w (by decide +kernel) (by decide +kernel)
set_option maxRecDepth 100000 in
set_option maxHeartbeats 2000000 in
theorem read31 (w : World) (G : Glb w) :
    Calls Tryz.prog 21 #[.string ⟨#[48, 120, 49, 70]⟩] w fun e w' => e = .returned (.tuple #[.float .f64 4629418941960159232, .int .i64 0]) ∧ Below w.heap.size w w' := by
  have HW1 := hd (word3 ⟨#[48, 120, 49, 70]⟩ ⟨#[105, 110, 102]⟩ w (by decide) (by decide) (by decide))
  have HW2 := hd (word3 ⟨#[48, 120, 49, 70]⟩ ⟨#[110, 97, 110]⟩ w (by decide) (by decide) (by decide))
  have HP := hd (prefix1F w)
  have HS := hd (small_bad ⟨#[48, 120, 49, 70]⟩ w 1 (by decide) (by decide) (by decide) (by decide))
  have HF := hd (fun W (hb : Below w.heap.size w W) => parse31 W (G.below hb) (hd (rfhex W)))
  have b1 : ((⟨#[48, 120, 49, 70]⟩ : ByteArray)[1]'(by decide)).toNat = 120 := rfl
  have b2 : bits .or .u8 120 32 = 120 := by decide
  have b3 : (⟨#[48, 120, 49, 70]⟩ : ByteArray) ++ ⟨#[112, 48]⟩ = ⟨#[48, 120, 49, 70, 112, 48]⟩ := by apply ByteArray.ext; rfl
  clear G
  go_enter Tryz.func21, Tryz.ntmps21
  go_wp2_with (first | (go_at_call 61; (with_reducible refine HW1.o.mono ?_); rintro e w' ⟨rfl, rfl⟩) | (go_at_call 61; (with_reducible refine HW2.o.mono ?_); rintro e w' ⟨rfl, rfl⟩) | (go_at_call 24; (with_reducible refine HP.o.mono ?_); rintro e w' ⟨rfl, rfl⟩) | (go_at_call 64; (with_reducible refine HS.o.mono ?_); rintro e w1 ⟨rfl, h1⟩; have B1 := hd h1; clear h1) | (go_at_call 65; (with_reducible refine (HF.o _ B1.o).mono ?_); rintro e w' ⟨rfl, n1, rfl⟩) | (go_at_call 66; (with_reducible refine (isInf31 _).mono ?_); rintro e w' ⟨rfl, rfl⟩))
  go_ret2
  exact ⟨rfl, bel_drew B1.o _⟩
theorem neg31 (W : World) : (Op.unary .neg (.float .f64 4629418941960159232)).run Tryz.prog W = .ok (.float .f64 13852790978814935040) W := by
  first | rfl | (simp [Op.unary]; done) | (simp [Op.unary]; decide)
set_option maxRecDepth 100000 in
set_option maxHeartbeats 2000000 in
theorem parseM31 (w : World) (G : Glb w) :
    Calls Tryz.prog 26 #[.string ⟨#[45, 48, 120, 49, 70]⟩] w fun e w' => e = .returned (.tuple #[.float .f64 13852790978814935040, .bool true]) ∧ Below w.heap.size w w' := by
  have HR := hd (read31 w G)
  have b1 : ((⟨#[45, 48, 120, 49, 70]⟩ : ByteArray)[0]'(by decide)).toNat = 45 := rfl
  have b2 : (⟨#[45, 48, 120, 49, 70]⟩ : ByteArray).extract 1 5 = ⟨#[48, 120, 49, 70]⟩ := by apply ByteArray.ext; rfl
  have hn := neg31
  clear G
  go_enter Tryz.func26, Tryz.ntmps26
  go_wp2_with (go_at_call 21; (with_reducible refine HR.o.mono ?_); rintro e w1 ⟨rfl, h1⟩; have B1 := hd h1; clear h1)
  go_ret2
  exact ⟨rfl, B1.o⟩
theorem order12 (w : World) : Calls Tryz.prog 60 #[.float .f64 4607182418800017408, .float .f64 4611686018427387904] w fun e w' => e = .returned (.int .i64 (-1)) ∧ w = w' := by
  have c1 : (FloatKind.f64.format.order 4607182418800017408 4607182418800017408 == some Ordering.eq) = true := by decide +kernel
  have c2 : (FloatKind.f64.format.order 4611686018427387904 4611686018427387904 == some Ordering.eq) = true := by decide +kernel
  have c3 : (FloatKind.f64.format.order 4607182418800017408 4611686018427387904 == some Ordering.lt) = true := by decide +kernel
  go_enter Tryz.func60, Tryz.ntmps60
  go_wp2
  go_ret
  exact ⟨rfl, rfl⟩
theorem show25 (w : World) (hT : Tbl w) : Calls Tryz.prog 59 #[.float .f64 13821547256400052224] w fun e w' => e = .returned (.string ⟨#[45, 48, 46, 50, 53]⟩) ∧ Below w.heap.size w w' :=
  (show_any 13821547256400052224 (by decide) w hT).mono (by
    rintro e w' ⟨s, rfl, h1, h2⟩
    obtain rfl := h1.ext FS.shown25
    exact ⟨rfl, h2⟩)
set_option maxRecDepth 100000 in
set_option maxHeartbeats 2000000 in
theorem alive_any (w : World) (G : Glb w) (hT : Tbl w) : Calls Tryz.prog 20 #[] w fun e w' => e = .returned (.bool true) ∧ Below w.heap.size w w' := by
  have H1 := hd (read25 w G rf25)
  have H2 := hd (fun W (hb : Below w.heap.size w W) => parseM31 W (G.below hb))
  have H3 := hd (fun W (hb : Below w.heap.size w W) => show25 W (hT.below hb))
  have c1 : (FloatKind.f64.format.order 4627730092099895296 4627730092099895296 == some Ordering.eq) = true := by decide +kernel
  have c2 : (FloatKind.f64.format.order 13852790978814935040 13852790978814935040 == some Ordering.eq) = true := by decide +kernel
  clear G hT
  go_enter Tryz.func20, Tryz.ntmps20
  go_wp2_with (first | (go_at_call 21; (with_reducible refine H1.o.mono ?_); rintro e w1 ⟨rfl, h1⟩; have B1 := hd h1; clear h1) | (go_at_call 26; (with_reducible refine (H2.o _ B1.o).mono ?_); rintro e w2 ⟨rfl, h1⟩; have B2 := hd (bel B1.o h1); clear h1) | (go_at_call 59; (with_reducible refine (H3.o _ B2.o).mono ?_); rintro e w3 ⟨rfl, h1⟩; have B3 := hd (bel B2.o h1); clear h1) | (go_at_call 24; (with_reducible refine (prefix1e5 _).mono ?_); rintro e w' ⟨rfl, rfl⟩) | (go_at_call 60; (with_reducible refine (order12 _).mono ?_); rintro e w' ⟨rfl, rfl⟩))
  trace_state
  go_ret
  exact ⟨rfl, B3.o⟩
end Go.Proofs.YtcbggkdginfakaaGreatDoor
