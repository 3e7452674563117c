/- internal/strconv.atof64exact: where it answers, it answers the nearest float. -/
import Derived.Test.YtibmgmgdbicdlaaGreatDoorPAtof
import Derived.Test.YtibmgmgdbicdlaaGreatDoorPExact
namespace Go.Proofs.YtibmgmgdbicdlaaGreatDoor
open Go.RowKit
set_option linter.unusedVariables false
set_option linter.unusedSimpArgs false
namespace FS
/-- the floats of the powers of ten -/
def tens : List Nat := [4607182418800017408, 4621819117588971520, 4636737291354636288, 4652007308841189376, 4666723172467343360, 4681608360884174848, 4696837146684686336, 4711630319722168320, 4726483295884279808, 4741671816366391296, 4756540486875873280, 4771362005757984768, 4786511204640096256, 4801453603149578240, 4816244402031689728, 4831355200913801216, 4846369599423283200, 4861130398305394688, 4876203697187506176, 4891288408196988160, 4906019910204099648, 4921056587992461136, 4936209963552724370]
def ten (j : Nat) : Nat := tens.getD j 0
theorem allT : ((List.range 23).all fun j => decide (ten j < INF) && (mOf (ten j) * Z (eOf (ten j) + 1074).toNat == X j * Z 1074)) = true := by decide +kernel
theorem is_ten {j : Nat} (h : j < 23) : Is (ten j) (X j) := by
  have := List.all_eq_true.1 allT j (List.mem_range.2 h)
  rw [Bool.and_eq_true, decide_eq_true_eq, beq_iff_eq] at this
  exact ⟨this.1, this.2⟩
theorem INF_eq : FO.INF = INF := rfl
theorem kr_pos {x : Nat} (h : x ≤ INF) : FO.kr x = x ∧ FO.isN x = false := by
  have h1 : x ≤ 9218868437227405312 := h
  unfold FO.kr FO.sg FO.isN FO.rg FO.INF
  rw [decide_eq_false (by omega), decide_eq_false (by omega)]
  simp; omega
theorem neg15 {x : Nat} (h : x ≤ INF) : (FloatKind.f64.format.order x 14054727237768577024 == some Ordering.lt) = false := by
  have h1 : x ≤ 9218868437227405312 := h
  obtain ⟨a, b⟩ := kr_pos h
  have k : FO.kr 14054727237768577024 = -4831355200913801216 := by decide
  rw [FO.lt_eq (by omega) (by decide), a, b, k, decide_eq_false (by omega)]
  simp
theorem gt15 {M y : Nat} (R : Rnd M 1 y) (h : 1000000000000000 < M) : (FloatKind.f64.format.order y 4831355200913801216 == some Ordering.gt) = true := by
  have h0 := R.le
  have h1 : y ≤ 9218868437227405312 := R.le
  obtain ⟨a, b⟩ := kr_pos h0
  have I := is_fl (m := 1000000000000001) (by decide) (by decide)
  have e : floatOfInt .f64 ((1000000000000001 : Nat) : Int) = 4831355200913801224 := by decide +kernel
  rw [e] at I
  have hm := Rnd.mono (by decide) (by decide) I.rnd R (by omega)
  have k : FO.kr 4831355200913801216 = 4831355200913801216 := by decide
  have n : FO.isN 4831355200913801216 = false := by decide
  rw [FO.gt_eq (by omega) (by decide), a, b, k, n, decide_eq_true (by omega)]
  rfl
end FS
/-- the library's table of exact powers of ten -/
def Pw10 (w : World) : Prop := ∃ b off c, w.cell? ⟨11, 0, none⟩ = some (.slice (some ⟨b, off, none⟩) 23 c) ∧ ∀ j, j < 23 → w.cell? ⟨b, off + j, none⟩ = some (.float .f64 (FS.ten j))
theorem Pw10.below {w w' : World} (h : Pw10 w) (hb : Below w.heap.size w w') : Pw10 w' := by
  obtain ⟨b, off, c, h1, h2⟩ := h
  refine ⟨b, off, c, ?_, fun j hj => ?_⟩
  · rw [hb.cell (p := ⟨_, 0, none⟩) (World.block_lt_of_cell? w _ h1)]; exact h1
  · rw [hb.cell (p := ⟨b, off + j, none⟩) (World.block_lt_of_cell? w _ (h2 j hj))]; exact h2 j hj
def ExA (m : Nat) (p : Int) (w : World) (e : Ending) (w' : World) : Prop := w = w' ∧ ∃ f ok, e = .returned (.tuple #[.float .f64 f, .bool ok]) ∧ (ok = true → FS.Rnd (FS.vN m p) (FS.vD p) f)
section
variable (m : Nat) (w : World) (G : Glb w) (P : Pw10 w)
include G
theorem exact_big (p : Int) (hm : 4503599627370496 ≤ m) (hm2 : m < 18446744073709551616) : Calls Tryz.prog 222 #[.int .u64 (m : Int), .int .i64 p, .bool false] w (ExA m p w) := by
  have hmI : 4503599627370496 ≤ (m : Int) := by omega
  have hmJ : (m : Int) < 18446744073709551616 := by omega
  have g1 := G.mb
  have q : ((m : Int) / 4503599627370496 != 0) = true := by rw [bne_iff_ne]; omega
  clear G hm hm2
  go_enter Tryz.func222, Tryz.ntmps222
  go_wp2
  go_ret2
  exact ⟨rfl, 0, false, rfl, fun h => by cases h⟩
theorem exact_far (p : Int) (hm : m < 4503599627370496) (hp : p < -22 ∨ 37 < p) : Calls Tryz.prog 222 #[.int .u64 (m : Int), .int .i64 p, .bool false] w (ExA m p w) := by
  have hmI : (m : Int) < 4503599627370496 := by omega
  have g1 := G.mb
  have q : ((m : Int) / 4503599627370496 != 0) = false := by rw [bne_eq_false_iff_eq]; omega
  generalize hfx : floatOfInt .f64 (m : Int) = x at *
  have hp0 : (p == 0) = false := by rw [beq_eq_false_iff_ne]; omega
  clear G hm hmI
  rcases hp with hp | hp
  all_goals
    go_enter Tryz.func222, Tryz.ntmps222
    go_wp2
    go_ret2
    exact ⟨rfl, _, false, rfl, fun h => by cases h⟩
theorem exact_0 (h0 : 0 < m) (hm : m < 4503599627370496) : Calls Tryz.prog 222 #[.int .u64 (m : Int), .int .i64 0, .bool false] w (ExA m 0 w) := by
  have I := FS.is_fl h0 (show m < 9007199254740992 by omega)
  refine (exact0_any m w hm G).mono ?_
  rintro e w' ⟨rfl, rfl⟩
  refine ⟨rfl, _, true, rfl, fun _ => ?_⟩
  have e : FS.vN m 0 = m := by unfold FS.vN FS.X; simp
  rw [e]
  exact I.rnd
include P
set_option maxRecDepth 100000 in
set_option maxHeartbeats 1000000 in
theorem exact_pos (h0 : 0 < m) (hm : m < 4503599627370496) (j : Nat) (hj0 : 0 < j) (hj : j < 23) : Calls Tryz.prog 222 #[.int .u64 (m : Int), .int .i64 (j : Int), .bool false] w (ExA m (j : Int) w) := by
  have I := FS.is_fl h0 (show m < 9007199254740992 by omega)
  have hmI : (m : Int) < 4503599627370496 := by omega
  have g1 := G.mb
  have q : ((m : Int) / 4503599627370496 != 0) = false := by rw [bne_eq_false_iff_eq]; omega
  obtain ⟨b, off, cp, c0, ct⟩ := P
  have c1 := ct j hj
  have IT := FS.is_ten hj
  obtain ⟨r, hr, R⟩ := I.mul IT (by omega) (by have := FS.X_pos j; omega)
  have hM : ∀ W : World, (binOp .mul 24 (.float .f64 (floatOfInt .f64 (m : Int))) (.float .f64 (FS.ten j))).run Tryz.prog W = .ok (.float .f64 r) W := fun W => run_float_arith W .mul _ .f64 _ _ _ hr
  have hn := FS.neg15 (Nat.le_of_lt I.lt)
  generalize hfx : floatOfInt .f64 (m : Int) = x at *
  generalize FS.ten j = t at *
  have hp0 : ((j : Int) == 0) = false := by rw [beq_eq_false_iff_ne]; omega
  have HR : Hd (FS.Rnd (FS.vN m (j : Int)) (FS.vD (j : Int)) r) := hd (by
    have e1 : FS.vN m (j : Int) = m * FS.X j := by unfold FS.vN; rw [Int.toNat_natCast]
    have e2 : FS.vD (j : Int) = 1 := by unfold FS.vD; rw [show (-(j : Int)).toNat = 0 by omega]; rfl
    rw [e1, e2]; exact R)
  clear G hm hmI h0 I IT ct R
  generalize hg : (FloatKind.f64.format.order x 4831355200913801216 == some Ordering.gt) = g
  cases g with
  | true =>
    go_enter Tryz.func222, Tryz.ntmps222
    go_wp2
    go_ret2
    exact ⟨rfl, _, false, rfl, fun h => by cases h⟩
  | false =>
    go_enter Tryz.func222, Tryz.ntmps222
    go_wp2
    go_ret2
    exact ⟨rfl, _, true, rfl, fun _ => HR.o⟩
set_option maxRecDepth 100000 in
set_option maxHeartbeats 1000000 in
theorem exact_neg (h0 : 0 < m) (hm : m < 4503599627370496) (j : Nat) (hj0 : 0 < j) (hj : j < 23) : Calls Tryz.prog 222 #[.int .u64 (m : Int), .int .i64 (-(j : Int)), .bool false] w (ExA m (-(j : Int)) w) := by
  have I := FS.is_fl h0 (show m < 9007199254740992 by omega)
  have hmI : (m : Int) < 4503599627370496 := by omega
  have g1 := G.mb
  have q : ((m : Int) / 4503599627370496 != 0) = false := by rw [bne_eq_false_iff_eq]; omega
  obtain ⟨b, off, cp, c0, ct⟩ := P
  have c1 := ct j hj
  have IT := FS.is_ten hj
  obtain ⟨r, hr, R⟩ := I.div IT (by omega) (by have := FS.X_pos j; omega)
  have hM : ∀ W : World, (binOp .quo 24 (.float .f64 (floatOfInt .f64 (m : Int))) (.float .f64 (FS.ten j))).run Tryz.prog W = .ok (.float .f64 r) W := fun W => run_float_arith W .quo _ .f64 _ _ _ hr
  generalize hfx : floatOfInt .f64 (m : Int) = x at *
  generalize FS.ten j = t at *
  have hp0 : (-(j : Int) == 0) = false := by rw [beq_eq_false_iff_ne]; omega
  have hp1 : ¬ 0 < -(j : Int) := by omega
  have hp2 : -22 ≤ -(j : Int) := by omega
  have hp3 : -(j : Int) < 0 := by omega
  have HR : Hd (FS.Rnd (FS.vN m (-(j : Int))) (FS.vD (-(j : Int))) r) := hd (by
    have e1 : FS.vN m (-(j : Int)) = m := by unfold FS.vN; rw [show (-(j : Int)).toNat = 0 by omega]; exact Nat.mul_one m
    have e2 : FS.vD (-(j : Int)) = FS.X j := by unfold FS.vD; rw [Int.neg_neg, Int.toNat_natCast]
    rw [e1, e2]; exact R)
  clear G hm hmI h0 I IT ct R
  go_enter Tryz.func222, Tryz.ntmps222
  go_wp2
  go_ret2
  exact ⟨rfl, _, true, rfl, fun _ => HR.o⟩
set_option maxRecDepth 100000 in
set_option maxHeartbeats 1000000 in
theorem exact_far2 (h0 : 0 < m) (hm : m < 4503599627370496) (j : Nat) (hj0 : 0 < j) (hj : j < 16) (p : Int) (hpj : p - 22 = (j : Int)) : Calls Tryz.prog 222 #[.int .u64 (m : Int), .int .i64 p, .bool false] w (ExA m p w) := by
  have I := FS.is_fl h0 (show m < 9007199254740992 by omega)
  have hmI : (m : Int) < 4503599627370496 := by omega
  have g1 := G.mb
  have q : ((m : Int) / 4503599627370496 != 0) = false := by rw [bne_eq_false_iff_eq]; omega
  obtain ⟨b, off, cp, c0, ct⟩ := P
  have c1 := ct j (by omega)
  have c2 := ct 22 (by decide)
  have IT := FS.is_ten (j := j) (by omega)
  have I2 := FS.is_ten (j := 22) (by decide)
  have hX := FS.X_pos j
  obtain ⟨y, hy, R⟩ := I.mul IT (by omega) (by omega)
  have hM1 : ∀ W : World, (binOp .mul 24 (.float .f64 (floatOfInt .f64 (m : Int))) (.float .f64 (FS.ten j))).run Tryz.prog W = .ok (.float .f64 y) W := fun W => run_float_arith W .mul _ .f64 _ _ _ hy
  have hn := FS.neg15 R.le
  generalize hfx : floatOfInt .f64 (m : Int) = x at *
  generalize FS.ten j = t at *
  generalize FS.ten 22 = t2 at *
  have hp0 : (p == 0) = false := by rw [beq_eq_false_iff_ne]; omega
  have hp1 : 22 < p := by omega
  have hp2 : p ≤ 37 := by omega
  generalize hg : (FloatKind.f64.format.order y 4831355200913801216 == some Ordering.gt) = g
  cases g with
  | true =>
    clear G hm hmI h0 I IT ct R I2 hX
    go_enter Tryz.func222, Tryz.ntmps222
    go_wp2
    go_ret2
    exact ⟨rfl, _, false, rfl, fun h => by cases h⟩
  | false =>
    have hMx : m * FS.X j ≤ 1000000000000000 := by
      rcases Nat.lt_or_ge 1000000000000000 (m * FS.X j) with c | c
      · rw [FS.gt15 R c] at hg; cases hg
      · exact c
    have hM0 : 0 < m * FS.X j := Nat.mul_pos h0 hX
    have IY : FS.Is y (m * FS.X j) := by
      have := FS.is_fl hM0 (by omega)
      rw [this.of_rnd R]; exact this
    obtain ⟨r, hr, R2⟩ := IY.mul I2 (by omega) (by have := FS.X_pos 22; omega)
    have hM2 : ∀ W : World, (binOp .mul 24 (.float .f64 y) (.float .f64 t2)).run Tryz.prog W = .ok (.float .f64 r) W := fun W => run_float_arith W .mul _ .f64 _ _ _ hr
    have HR : Hd (FS.Rnd (FS.vN m p) (FS.vD p) r) := hd (by
      have e1 : FS.vN m p = m * FS.X j * FS.X 22 := by unfold FS.vN; rw [Nat.mul_assoc, FS.X_mul, show p.toNat = j + 22 by omega]
      have e2 : FS.vD p = 1 := by unfold FS.vD; rw [show (-p).toNat = 0 by omega]; rfl
      rw [e1, e2]; exact R2)
    clear G hm hmI h0 I IT ct R I2 hX hMx hM0 IY R2 hr
    go_enter Tryz.func222, Tryz.ntmps222
    go_wp2
    go_ret2
    exact ⟨rfl, _, true, rfl, fun _ => HR.o⟩
theorem exact_any (p : Int) (h0 : 0 < m) (hm2 : m < 18446744073709551616) : Calls Tryz.prog 222 #[.int .u64 (m : Int), .int .i64 p, .bool false] w (ExA m p w) := by
  by_cases hm : m < 4503599627370496
  · rcases (show (p < -22 ∨ 37 < p) ∨ p = 0 ∨ (0 < p ∧ p < 23) ∨ (-23 < p ∧ p < 0) ∨ (22 < p ∧ p < 38) by omega) with c | c | c | c | c
    · exact exact_far m w G p hm c
    · subst c; exact exact_0 m w G h0 hm
    · obtain ⟨j, rfl⟩ : ∃ j : Nat, p = j := ⟨p.toNat, by omega⟩
      exact exact_pos m w G P h0 hm j (by omega) (by omega)
    · obtain ⟨j, rfl⟩ : ∃ j : Nat, p = -(j : Int) := ⟨(-p).toNat, by omega⟩
      exact exact_neg m w G P h0 hm j (by omega) (by omega)
    · obtain ⟨j, hj⟩ : ∃ j : Nat, p - 22 = (j : Int) := ⟨(p - 22).toNat, by omega⟩
      exact exact_far2 m w G P h0 hm j (by omega) (by omega) p hj
  · exact exact_big m w G p (by omega) hm2
end
end Go.Proofs.YtibmgmgdbicdlaaGreatDoor
