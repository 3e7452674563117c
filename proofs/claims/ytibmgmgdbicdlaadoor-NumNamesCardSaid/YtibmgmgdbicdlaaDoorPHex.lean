/- atofHex at 0x1F (internal/strconv/atof.go). -/
import Derived.Test.YtibmgmgdbicdlaaDoorPAtof
import Derived.LaidEqlPtr
namespace Go.Proofs.YtibmgmgdbicdlaaDoor
open Go.RowKit
set_option linter.unusedVariables false
set_option linter.unusedSimpArgs false
theorem ptr_ne {w : World} (G : Glb w) : ∀ n, (binOp .eql 134 (.pointer (some ⟨5, 0, none⟩)) (.pointer (some ⟨3, 0, none⟩))).run Tryd.prog (w.drewN n) = .ok (.bool false) (w.drewN n) := fun n => by
  obtain ⟨c6, t6, h6⟩ := G.k6
  obtain ⟨c5, t5, h5⟩ := G.k5
  obtain ⟨j, hj, hz⟩ : ∃ j, Tryd.prog.info? 136 = some j ∧ j.size ≠ 0 := by
    have h : (Tryd.prog.info? 136).map (fun i => i.size) = some 3 := by kernel_rfl
    cases e : Tryd.prog.info? 136 with
    | none => rw [e] at h; cases h
    | some j => rw [e] at h; exact ⟨j, rfl, by have : j.size = 3 := Option.some.inj h; omega⟩
  exact run_eql_ptr_other (w.drewN n) (te := 136) Tryd.underlying134 hj hz (by simp) (ca := c6) (ta := t6) (cb := c5) (tb := t5) h6 h5
set_option maxRecDepth 100000 in
set_option maxHeartbeats 4000000 in
theorem hex31 (s : ByteArray) (w : World) (G : Glb w) : Calls Tryd.prog 86 #[.string s, .pointer (some ⟨5, 0, none⟩), .int .u64 31, .int .i64 0, .bool false, .bool false] w fun e w' => e = .returned (.tuple #[.float .f64 4629418941960159232, .nilIface]) ∧ ∃ n, w' = w.drewN n := by
  have g2 := G.mb
  have g3 := G.xb
  have g4 := G.bs
  have f1 : bits .and .u64 34902897112121344 3 = 0 := by decide
  have f2 : bits .and .u64 8725724278030336 1 = 0 := by decide
  have f3 : bits .or .u64 0 0 = 0 := by decide
  have f4 : bits .and .u64 8725724278030336 4503599627370495 = 4222124650659840 := by decide
  have f5 : bits .and .i64 1027 2047 = 1027 := by decide
  have f6 : bits .or .u64 4222124650659840 4625196817309499392 = 4629418941960159232 := by decide
  have q1 : ∀ W, (callFunc 94 #[.int .u64 4629418941960159232]).run Tryd.prog W = .ok (.value (.float .f64 4629418941960159232)) W := fun W => frombits_run 4629418941960159232 W
  have pe := ptr_ne G
  clear G
  go_enter Tryd.func86, Tryd.ntmps86
  go_wp2
  go_quiet (fail)
  go_wp2
  go_loop [2, 3] (fun xm xe => ∃ (M j : Nat), xm = .int .u64 (M : Int) ∧ xe = .int .i64 (52 - (j : Int)) ∧ j ≤ 50 ∧ Hd (M = 31 * 2 ^ j)) (fun xm xe => (intOf xe - 1).toNat)
  case atStart => exact ⟨31, 0, rfl, rfl, by decide, hd rfl⟩
  case round =>
    obtain ⟨M, j, rfl, rfl, hj, HM⟩ := hrel
    have hM0 : 0 < M := by rw [HM.o]; exact Nat.mul_pos (by decide) (Nat.pow_pos (by decide))
    have t0 : ((M : Int) != 0) = true := by rw [bne_iff_ne]; omega
    by_cases hlt : j < 50
    · have hMu : M ≤ 17451448556060672 := by
        have h1 := HM.o
        have : 2 ^ j ≤ 2 ^ 49 := Nat.pow_le_pow_right (by decide) (by omega)
        omega
      have t1 : ((M : Int) / 18014398509481984 == 0) = true := by rw [beq_iff_eq]; omega
      have HM2 : Hd (M * 2 = 31 * 2 ^ (j + 1)) := hd (by rw [HM.o, Nat.pow_succ, Nat.mul_assoc])
      clear HM
      go_wp2
      go_round
      case rel => exact ⟨M * 2, j + 1, by go_num, by go_num, by omega, HM2⟩
      case measure => simp [intOf]; omega
    · obtain rfl : j = 50 := by omega
      have hM : M = 34902897112121344 := by rw [HM.o]
      subst hM
      clear HM hM0 t0 hlt hj
      have t1 : ((34902897112121344 : Int) / 18014398509481984 == 0) = false := by decide
      go_wp2
      go_loop [2, 3] (fun xm xe => xm = .int .u64 34902897112121344 ∧ xe = .int .i64 2) (fun xm xe => 0)
      case atStart => exact ⟨rfl, rfl⟩
      case round =>
        obtain ⟨rfl, rfl⟩ := hrel
        go_wp2
        go_loop [2, 3] (fun xm xe => xm = .int .u64 34902897112121344 ∧ xe = .int .i64 2) (fun xm xe => 0)
        case atStart => exact ⟨rfl, rfl⟩
        case round =>
          obtain ⟨rfl, rfl⟩ := hrel
          go_wp2
          go_quiet (fail)
          go_wp2
          refine bodyPost_ret (v := .tuple #[.float .f64 4629418941960159232, .nilIface]) (by simp [results, Tryd.results86, go_sem]) rfl ⟨rfl, _, rfl⟩

set_option maxRecDepth 100000 in
set_option maxHeartbeats 2000000 in
/-- "0x1Fp0" -/
theorem parse31 (w : World) (G : Glb w)
    (HR : Hd (Calls Tryd.prog 85 #[.string ⟨#[48, 120, 49, 70, 112, 48]⟩] w fun e w' => e = .returned (.tuple #[.int .u64 31, .int .i64 0, .bool false, .bool false, .bool true, .int .i64 6, .bool true]) ∧ w = w')) :
    Calls Tryd.prog 19 #[.string ⟨#[48, 120, 49, 70, 112, 48]⟩, .int .i64 64] w fun e w' => e = .returned (.tuple #[.float .f64 4629418941960159232, .nilIface]) ∧ ∃ n, w' = w.drewN n := by
  have HS := hd (special_no ⟨#[48, 120, 49, 70, 112, 48]⟩ w (by decide) (by decide))
  have HH := hd (fun s => hex31 s w G)
  clear G
  have H0 : Hd (Calls Tryd.prog 71 #[.string ⟨#[48, 120, 49, 70, 112, 48]⟩] w fun e w' => e = .returned (.tuple #[.float .f64 4629418941960159232, .int .i64 6, .nilIface]) ∧ ∃ n, w' = w.drewN n) := hd (by
    go_enter Tryd.func71, Tryd.ntmps71
    go_wp2_with (first | (go_at_call 84; (with_reducible refine HS.o.mono ?_); rintro e w' ⟨rfl, rfl⟩) | (go_at_call 85; (with_reducible refine HR.o.mono ?_); rintro e w' ⟨rfl, rfl⟩) | (go_at_call 86; (with_reducible refine (HH.o _).mono ?_); rintro e w' ⟨rfl, n1, rfl⟩))
    refine bodyPost_ret (v := .tuple #[.float .f64 4629418941960159232, .int .i64 6, .nilIface]) (by simp [results, Tryd.results71, go_sem]) rfl ⟨rfl, _, rfl⟩)
  have H1 : Hd (Calls Tryd.prog 56 #[.string ⟨#[48, 120, 49, 70, 112, 48]⟩, .int .i64 64] w fun e w' => e = .returned (.tuple #[.float .f64 4629418941960159232, .int .i64 6, .nilIface]) ∧ ∃ n, w' = w.drewN n) := hd (by
    go_enter Tryd.func56, Tryd.ntmps56
    go_wp2_with (go_at_call 71; (with_reducible refine H0.o.mono ?_); rintro e w' ⟨rfl, n1, rfl⟩)
    refine bodyPost_ret (v := .tuple #[.float .f64 4629418941960159232, .int .i64 6, .nilIface]) (by simp [results, Tryd.results56, go_sem]) rfl ⟨rfl, _, rfl⟩)
  have H2 : Hd (Calls Tryd.prog 41 #[.string ⟨#[48, 120, 49, 70, 112, 48]⟩, .int .i64 64] w fun e w' => e = .returned (.tuple #[.float .f64 4629418941960159232, .nilIface]) ∧ ∃ n, w' = w.drewN n) := hd (by
    go_enter Tryd.func41, Tryd.ntmps41
    go_wp2_with (go_at_call 56; (with_reducible refine H1.o.mono ?_); rintro e w' ⟨rfl, n1, rfl⟩)
    refine bodyPost_ret (v := .tuple #[.float .f64 4629418941960159232, .nilIface]) (by simp [results, Tryd.results41, go_sem]) rfl ⟨rfl, _, rfl⟩)
  go_enter Tryd.func19, Tryd.ntmps19
  go_wp2_with (go_at_call 41; (with_reducible refine H2.o.mono ?_); rintro e w' ⟨rfl, n1, rfl⟩)
  refine bodyPost_ret (v := .tuple #[.float .f64 4629418941960159232, .nilIface]) (by simp [results, Tryd.results19, go_sem]) rfl ⟨rfl, _, rfl⟩
end Go.Proofs.YtibmgmgdbicdlaaDoor
