/- (*internal/strconv.decimal).floatBits: the nearest float. -/
import Derived.Test.YtibmgmgdbicdlaaGreatDoorDTwo
import Derived.Deep.QuietTactic
import Derived.BigQuiet
import Derived.Scope
namespace Go.Proofs.YtibmgmgdbicdlaaGreatDoor
open Go.RowKit
set_option linter.unusedVariables false
set_option linter.unusedSimpArgs false
/-- the way out of a scope: behind a label the code goes on once -/
def ExGoes (P : Program) (c : Code) (Q : Exit → Act → World → Prop) : Exit → Act → World → Prop
  | .goto l, a, w => ∃ rest, findLabel c l = some rest ∧ rest.wp P (Exit.noGoto Q) a w
  | e, a, w => Q e a w
theorem exGoes_ret {P : Program} {c : Code} {Q : Exit → Act → World → Prop} {a : Act} {w : World} : ExGoes P c Q .ret a w = Q .ret a w := rfl
theorem exGoes_goto {P : Program} {c : Code} {Q : Exit → Act → World → Prop} {a : Act} {w : World} {l : Nat} : ExGoes P c Q (.goto l) a w = ∃ rest, findLabel c l = some rest ∧ rest.wp P (Exit.noGoto Q) a w := rfl
attribute [go_sem] exGoes_ret
theorem wp_scope_goes {P : Program} {a : Act} {w : World} {Q : Exit → Act → World → Prop} {c : Code} (first : c.wp P (ExGoes P c Q) a w) : (Code.scope c).wp P Q a w := by
  intro b k cs
  have again : ∀ l rest a w, findLabel c l = some rest → rest.wp P (Exit.noGoto Q) a w → ∃ e a' w', Q e a' w' ∧ Arrives P (lone (b.at a (.code rest :: .inScope c :: k)) cs w) b k cs e a' w' := by
    intro l rest a w hf hw
    obtain ⟨e, a₁, w₁, hq, harr⟩ := hw b (.inScope c :: k) cs
    cases e with
    | normal => exact ⟨.normal, a₁, w₁, hq, Steps.trans harr (.one step_inScope)⟩
    | exit id => exact ⟨.exit id, a₁, w₁, hq, fun k' hk => harr k' (by simp [exitTo, hk])⟩
    | goto l' => exact hq.elim
    | ret => exact ⟨_, a₁, w₁, hq, harr⟩
    | panic ch => exact ⟨_, a₁, w₁, hq, harr⟩
    | outgrown => exact ⟨_, a₁, w₁, hq, harr⟩
  obtain ⟨e, a₁, w₁, hq, harr⟩ := first b (.inScope c :: k) cs
  cases e with
  | normal => exact ⟨.normal, a₁, w₁, hq, .head step_scope (Steps.trans harr (.one step_inScope))⟩
  | exit id => exact ⟨.exit id, a₁, w₁, hq, fun k' hk => .head step_scope (harr k' (by simp [exitTo, hk]))⟩
  | goto l =>
    obtain ⟨rest, hf, hw⟩ := hq
    have hg : gotoIn l (.inScope c :: k) = some (.code rest :: .inScope c :: k) := by simp [gotoIn, hf]
    obtain ⟨e₂, a₂, w₂, hq₂, harr₂⟩ := again l rest a₁ w₁ hf hw
    exact ⟨e₂, a₂, w₂, hq₂, .of_steps (.head step_scope (harr _ hg)) harr₂⟩
  | ret => exact ⟨_, a₁, w₁, hq, .of_steps (.one step_scope) harr⟩
  | panic ch => exact ⟨_, a₁, w₁, hq, .of_steps (.one step_scope) harr⟩
  | outgrown => exact ⟨_, a₁, w₁, hq, .of_steps (.one step_scope) harr⟩
/-- the table of shifts -/
def pwt (j : Nat) : Nat := [1, 3, 6, 9, 13, 16, 19, 23, 26].getD j 0
structure Pt (w : World) (b : Nat) : Prop where
  ex : ∃ B o cap, B < b ∧ 10 < b ∧ w.cell? ⟨10, 0, none⟩ = some (.slice (some ⟨B, o, none⟩) 9 cap) ∧ ∀ j, j < 9 → w.cell? ⟨B, o + j, none⟩ = some (.int .i64 (pwt j : Int))
theorem Pt.below {w w' : World} {b : Nat} (h : Pt w b) (hb : Below b w w') : Pt w' b := by
  obtain ⟨B, o, cap, h1, h2, h3, h4⟩ := h.ex
  exact ⟨B, o, cap, h1, h2, by rw [hb.cell (p := ⟨_, 0, none⟩) h2]; exact h3, fun k hk => by rw [hb.cell (p := ⟨_, _, none⟩) h1]; exact h4 k hk⟩
theorem pwt_all : ((List.range 9).all fun j => decide (1 ≤ pwt j) && decide (pwt j ≤ 27) && (decide (j = 0) || decide (FS.Z (pwt j) ≤ FS.X j))) = true := by decide +kernel
theorem pwt_at {j : Nat} (h : j < 9) : 1 ≤ pwt j ∧ pwt j ≤ 27 ∧ (j ≠ 0 → FS.Z (pwt j) ≤ FS.X j) := by
  have := List.all_eq_true.1 pwt_all j (List.mem_range.2 h)
  simp only [Bool.and_eq_true, Bool.or_eq_true, decide_eq_true_eq] at this
  exact ⟨this.1.1, this.1.2, fun hj => this.2.resolve_left hj⟩
theorem z27 : FS.Z 27 ≤ FS.X 9 := by decide +kernel
/-- what is asked of float64info, seen from below b -/
structure Fi (w : World) (b : Nat) : Prop where
  lt : 6 < b
  mb : w.cell? ⟨6, 0, none⟩ = some (.int .u64 52)
  xb : w.cell? ⟨6, 1, none⟩ = some (.int .u64 11)
  bs : w.cell? ⟨6, 2, none⟩ = some (.int .i64 (-1023))
theorem Fi.below {w w' : World} {b : Nat} (h : Fi w b) (hb : Below b w w') : Fi w' b :=
  ⟨h.lt, by rw [hb.cell (p := ⟨_, 0, none⟩) h.lt]; exact h.mb, by rw [hb.cell (p := ⟨_, 1, none⟩) h.lt]; exact h.xb, by rw [hb.cell (p := ⟨_, 2, none⟩) h.lt]; exact h.bs⟩
/-- what floatBits answers -/
def FbA (w : World) (b xh : Nat) (r : Ending) (w' : World) : Prop := ∃ bb : Nat, FS.Rnd xh DN.WW bb ∧ r = .returned (.tuple #[.int .u64 (bb : Int), .bool (decide (bb = FS.INF))]) ∧ Below b w w'
theorem fba_inf {w w' : World} {b xh : Nat} (h : FS.Rnd xh DN.WW FS.INF) (hb : Below b w w') : FbA w b xh (.returned (.tuple #[.int .u64 9218868437227405312, .bool true])) w' := ⟨_, h, rfl, hb⟩
theorem fba_fin {w w' : World} {b xh bb : Nat} (h : FS.Rnd xh DN.WW bb) (hf : bb < FS.INF) (hb : Below b w w') : FbA w b xh (.returned (.tuple #[.int .u64 (bb : Int), .bool false])) w' := ⟨bb, h, by rw [decide_eq_false (by omega)], hb⟩
namespace DN
open FS
attribute [local irreducible] X Z
theorem ov_dp {xh : Nat} {f : Nat → Nat} {nd : Nat} {dp : Int} {tr : Bool} {K : Nat} (S : SS xh (GG K) f nd dp tr 0) (h : 310 < dp) : Rnd xh WW INF := by
  apply rnd_over WW_pos
  refine Nat.le_trans ?_ (Nat.le_trans (S.lo (by omega)) S.kp.le)
  unfold SV WW
  rw [Nat.one_mul]
  show Z 1024 * (X 3000 * Z 3000) ≤ X (dp - 1 + 3000).toNat * Z 3000
  rw [← Nat.mul_assoc]
  refine Nat.mul_le_mul_right _ ?_
  have h1 : X 310 * X 3000 ≤ X (dp - 1 + 3000).toNat := by rw [X_mul]; exact X_mono (by omega)
  exact Nat.le_trans (Nat.mul_le_mul_right _ (Nat.le_of_lt facB.2.2.2)) h1
theorem un_dp {xh : Nat} {f : Nat → Nat} {nd : Nat} {dp : Int} {K : Nat} (S : SS xh (GG K) f nd dp false 0) (hd : -2000 ≤ dp) (h : dp < -330) : Rnd xh WW 0 := by
  apply rnd_nil
  have e := S.kp.eq rfl
  have h1 := S.hi (by omega)
  rw [e] at h1
  have h2 : SV 1 dp 0 * Z 1075 ≤ WW := by
    unfold SV WW
    rw [Nat.one_mul]
    show X (dp + 3000).toNat * Z 3000 * Z 1075 ≤ X 3000 * Z 3000
    rw [Nat.mul_right_comm]
    refine Nat.mul_le_mul_right _ ?_
    have h3 : X (dp + 3000).toNat * X 331 ≤ X 3000 := by rw [X_mul]; exact X_mono (by omega)
    exact Nat.le_trans (Nat.mul_le_mul_left _ (Nat.le_of_lt facB.2.2.1)) h3
  exact Nat.lt_of_lt_of_le (Nat.mul_lt_mul_of_pos_right h1 (Z_pos _)) h2
theorem bd_of {xh : Nat} {f : Nat → Nat} {nd : Nat} {dp : Int} {K : Nat} (S : SS xh (GG K) f nd dp false 0) (r1 : K = 0 ∨ 9007199254740992 * HH K ≤ xh) (r2 : xh < 18014398509481984 * HH K) (h1 : -330 ≤ dp) (h2 : dp ≤ 310) : Bd xh K := by
  have e := S.kp.eq rfl
  refine ⟨r1, r2, ?_, ?_⟩
  · rw [← e]
    refine Nat.le_trans ?_ (S.lo (by omega))
    unfold SV; rw [Nat.one_mul, Nat.one_mul]
    exact Nat.mul_le_mul_right _ (X_mono (by omega))
  · rw [← e]
    refine Nat.lt_of_lt_of_le (S.hi (by omega)) ?_
    unfold SV; rw [Nat.one_mul, Nat.one_mul]
    exact Nat.mul_le_mul_right _ (X_mono (by omega))
theorem ov_rung {xh K : Nat} (r1 : K = 0 ∨ 9007199254740992 * HH K ≤ xh) (h : 2046 ≤ K) : Rnd xh WW INF := by
  apply rnd_over WW_pos
  refine Nat.le_trans ?_ (r1.resolve_left (by omega))
  unfold HH WW
  have e1 : Z 1024 * (X 3000 * Z 3000) = Z (1024 + 3000) * X 3000 := by rw [Nat.mul_comm (X 3000), ← Nat.mul_assoc, Z_mul]
  have e2 : Z 53 * (Z (K + 1925) * X 3000) = Z (53 + (K + 1925)) * X 3000 := by rw [← Nat.mul_assoc, Z_mul]
  rw [Z_53, e1, e2]
  exact Nat.mul_le_mul_right _ (Z_mono' (by omega))
end DN
namespace DN
theorem and_0 {k : Nat} (h : k < 4503599627370496) : k &&& 4503599627370496 = 0 := by
  have e : k = k &&& 4503599627370495 := by
    rw [show (4503599627370495 : Nat) = 2 ^ 52 - 1 from rfl, Nat.and_two_pow_sub_one_eq_mod, Nat.mod_eq_of_lt h]
  rw [e, Nat.and_assoc, show (4503599627370495 : Nat) &&& 4503599627370496 = 0 by decide, Nat.and_zero]
theorem and_1 {k : Nat} (h : 4503599627370496 ≤ k) (h2 : k < 9007199254740992) : k &&& 4503599627370496 ≠ 0 := fun h0 => by
  have e : k = k &&& 9007199254740991 := by
    rw [show (9007199254740991 : Nat) = 2 ^ 53 - 1 from rfl, Nat.and_two_pow_sub_one_eq_mod, Nat.mod_eq_of_lt h2]
  have e2 : k &&& 9007199254740991 = (k &&& 4503599627370496) ||| (k &&& 4503599627370495) := by
    rw [← Nat.and_or_distrib_left]; rfl
  rw [h0, Nat.zero_or, show (4503599627370495 : Nat) = 2 ^ 52 - 1 from rfl, Nat.and_two_pow_sub_one_eq_mod] at e2
  have : k % 2 ^ 52 < 4503599627370496 := Nat.mod_lt _ (by decide)
  omega
theorem and_m (k : Nat) : k &&& 4503599627370495 = k % 4503599627370496 := by
  rw [show (4503599627370495 : Nat) = 2 ^ 52 - 1 from rfl, Nat.and_two_pow_sub_one_eq_mod]
theorem or_52 {b a : Nat} (h : b < 4503599627370496) : b ||| a * 4503599627370496 = a * 4503599627370496 + b := by
  have := Nat.two_pow_add_eq_or_of_lt (i := 52) h a
  rw [Nat.or_comm, Nat.mul_comm]
  exact this.symm
theorem i2047 : ((List.range 2048).all fun y : Nat => bits .and .i64 (y : Int) 2047 == (y : Int)) = true := by decide +kernel
theorem and_2047 {y : Nat} (h : y < 2048) : bits .and .i64 (y : Int) 2047 = (y : Int) := by
  have := List.all_eq_true.1 i2047 y (List.mem_range.2 h)
  exact beq_iff_eq.1 this
theorem out_eq (m y : Nat) (hm : m < 9007199254740993) (hy : y < 2048) : bits .or .u64 (bits .and .u64 (m : Int) 4503599627370495) (IntKind.u64.wrap (IntKind.u64.wrap (bits .and .i64 (y : Int) 2047) * 4503599627370496)) = ((y * 4503599627370496 + m % 4503599627370496 : Nat) : Int) := by
  have e1 : bits .and .u64 (m : Int) 4503599627370495 = ((m % 4503599627370496 : Nat) : Int) := by
    rw [← and_m]; exact u64_and_nat m 4503599627370495 (by omega) (by decide)
  have e2 : IntKind.u64.wrap (IntKind.u64.wrap (y : Int) * 4503599627370496) = ((y * 4503599627370496 : Nat) : Int) := by
    rw [IntKind.wrap_u64, IntKind.wrap_u64]; omega
  have hl : m % 4503599627370496 < 4503599627370496 := Nat.mod_lt _ (by decide)
  rw [e1, and_2047 hy, e2, ← or_52 hl]
  exact u64_or_nat _ _ (by omega) (by omega)
end DN
/-- a row of digits in the midst of floatBits -/
structure Fm (xh K : Nat) (w : World) (b : Nat) (dp e : Int) : Prop where
  ex : ∃ f nd tr, Dc w b f nd dp tr ∧ DN.SS xh (DN.GG K) f nd dp tr e
/-- the same, below one -/
structure Fn (xh K : Nat) (w : World) (b : Nat) (dp e : Int) : Prop where
  ex : ∃ f nd tr, Dc w b f nd dp tr ∧ DN.SS xh (DN.GG K) f nd dp tr e ∧ DN.SV (DN.dvf f nd) (dp - nd) e < DN.SV 1 0 e
theorem Fm.cast {xh K : Nat} {w : World} {b : Nat} {dp e e' : Int} (h : Fm xh K w b dp e) (he : e = e') : Fm xh K w b dp e' := by subst he; exact h
theorem ShA.fm {xh K : Nat} {w : World} {b : Nat} {lo hi e : Int} (h : ShA xh K w b lo hi e) : ∃ dp, lo ≤ dp ∧ dp ≤ hi ∧ Fm xh K w b dp e := by
  obtain ⟨g, m, dp, tr, h1, h2, _, h4, h5⟩ := h.ex
  exact ⟨dp, h4, h5, ⟨g, m, tr, h1, h2⟩⟩
set_option maxRecDepth 100000 in
set_option maxHeartbeats 4000000 in
theorem floatBits_any (xh : Nat) (w : World) (b : Nat) (f : Nat → Nat) (nd : Nat) (dp : Int) (D : Dc w b f nd dp false) (hn1 : 1 ≤ nd) (hn8 : nd ≤ 800) (hok : DN.Ok f nd) (hf0 : 49 ≤ f 0) (hxh : DN.SV (DN.dvf f nd) (dp - nd) 0 = xh) (hdp : -2000 ≤ dp) (hdp2 : dp ≤ 2000) (L : Lc w b) (P : Pt w b) (G : Fi w b) :
    Calls Tryz.prog 219 #[.pointer (some ⟨b, 0, none⟩), .pointer (some ⟨6, 0, none⟩)] w fun r w' => FbA w b xh r w' := by
  obtain ⟨K, r1, r2⟩ := DN.rung xh
  have S : DN.SS xh (DN.GG K) f nd dp false 0 := ⟨hn1, hn8, hok, hf0, ⟨by rw [hxh]; exact Nat.le_refl _, fun _ => hxh, (fun h => by cases h), fun h hh => by rw [hxh]; exact hh⟩⟩
  have c800 := D.cnd
  have c801 := D.cdp
  have t0 : ((nd : Int) == 0) = false := by rw [beq_eq_false_iff_ne]; omega
  have HG := hd G
  have HD := hd D
  have HL := hd L
  have HP := hd P
  have HS := hd S
  have HR1 := hd r1
  have HR2 := hd r2
  clear hxh hok hf0 D L P G S r1 r2
  by_cases h310 : 310 < dp
  · have HF := hd (DN.ov_dp HS.o h310)
    have c802 := HD.o.cng
    have g0 := HG.o.mb
    have g1 := HG.o.xb
    have g2 := HG.o.bs
    go_enter Tryz.func219, Tryz.ntmps219
    go_wp2_with fail
    apply wp_scope_goes
    go_wp2_with fail
    apply wp_goto
    show ExGoes _ _ _ (Exit.goto _) _ _
    refine ⟨_, rfl, ?_⟩
    go_wp2_with fail
    go_quiet (fail)
    go_wp2_with fail
    go_step3
    go_wp2_with fail
    go_quiet (fail)
    go_wp2_with fail
    rw [Exit.noGoto_ret]
    exact bodyPost_ret (v := .tuple #[.int .u64 9218868437227405312, .bool true]) (by simp [results, Tryz.results219, go_sem]; decide) rfl (fba_inf HF.o (bel_drew (Below.refl _ _) _))
  · by_cases h330 : dp < -330
    · have HF := hd (DN.un_dp HS.o hdp h330)
      have c802 := HD.o.cng
      have g0 := HG.o.mb
      have g1 := HG.o.xb
      have g2 := HG.o.bs
      go_enter Tryz.func219, Tryz.ntmps219
      go_wp2_with fail
      apply wp_scope_goes
      go_wp2_with fail
      apply wp_goto
      show ExGoes _ _ _ (Exit.goto _) _ _
      refine ⟨_, rfl, ?_⟩
      go_wp2_with fail
      go_quiet (fail)
      go_wp2_with fail
      rw [Exit.noGoto_ret]
      exact bodyPost_ret (v := .tuple #[.int .u64 ((0 : Nat) : Int), .bool false]) (by simp [results, Tryz.results219, go_sem]; decide) rfl (fba_fin HF.o (by decide) (bel_drew (Below.refl _ _) _))
    · have HB := hd (DN.bd_of HS.o HR1.o HR2.o (by omega) (by omega))
      have HFm : Hd (Fm xh K w b dp 0) := hd ⟨f, nd, false, HD.o, HS.o⟩
      clear HR1 HS HD
      go_enter Tryz.func219, Tryz.ntmps219
      go_wp2_with fail
      apply wp_scope_goes
      go_wp2_with fail
      go_loopw [6] (fun x6 wr => ∃ E q : Int, 0 ≤ E ∧ E ≤ 1060 ∧ -400 ≤ q ∧ q ≤ 310 ∧ x6 = .int .i64 E ∧ Hd (E ≤ DN.jj K) ∧ Hd (Below b w wr) ∧ Hd (Fm xh K wr b q E)) (fun x6 _ => (1100 - intOf x6).toNat)
      case atStart => exact ⟨0, dp, by omega, by omega, by omega, by omega, rfl, hd (by omega), hd (Below.refl _ _), HFm⟩
      case round =>
        clear HFm c800 c801 t0
        obtain ⟨E, q, hE0, hE1, hq0, hq1, rfl, HEJ, HBL, HFm⟩ := hrel
        obtain ⟨g, m, tq, hD, hS⟩ := HFm.o.ex
        have HD := hd hD
        have HS := hd hS
        clear hD hS
        have c801 := HD.o.cdp
        by_cases hpos : 0 < q
        · have HEH := hd (HS.o.e_hi HB.o (by omega) (by omega))
          have hEb : E < 1030 := HEH.o.1
          have HPT := HP.o.below HBL.o
          obtain ⟨B, o, cap, _, _, p0, pj⟩ := HPT.ex
          obtain ⟨j, rfl⟩ : ∃ j : Nat, q = (j : Int) := ⟨q.toNat, by omega⟩
          by_cases h9 : 9 ≤ j
          · have h9I : (9 : Int) ≤ (j : Int) := by omega
            have HC : Hd (∀ nq, Calls Tryz.prog 173 #[.pointer (some ⟨b, 0, none⟩), .int .i64 (-27)] (wr.drewN nq) fun r w' => r = .returned (.tuple #[]) ∧ Below b (wr.drewN nq) w' ∧ ShA xh K w' b ((j : Int) - 38) j (E + (27 : Nat))) := hd (fun nq => shiftR_any xh K _ b g m j tq E 27 (HD.o.drew nq) HS.o HR2.o (by decide) (by decide) (by omega) (by omega) (by have := HEH.o.2; omega) (by omega))
            clear pj HPT
            go_wp2_with fail
            go_quiet (fail)
            go_wp2_with fail
            refine (HC.o _).mono ?_
            rintro r w' ⟨rfl, hb, hA⟩
            obtain ⟨d2, hd1, hd2, hF⟩ := hA.fm
            have HB2 := hd ((bel_drew HBL.o _).trans hb)
            have HF2 := hd hF
            clear hb hA hF
            go_wp2
            go_roundw
            case rel => exact ⟨E + 27, d2, by omega, by omega, by omega, by omega, rfl, hd (by have := HEH.o.2; omega), HB2, HF2⟩
            case measure => simp [intOf]; omega
          · have h9I : ¬ (9 : Int) ≤ (j : Int) := by omega
            have hj9 : j < 9 := by omega
            have hj9I : (j : Int) < 9 := by omega
            have p1 := pj j hj9
            obtain ⟨hp1, hp2, _⟩ := pwt_at hj9
            have HC := hd (fun nq => shiftR_any xh K (wr.drewN nq) b g m j tq E (pwt j) (HD.o.drew nq) HS.o HR2.o hp1 (by omega) (by omega) (by omega) (by have := HEH.o.2; omega) (by omega))
            generalize pwt j = n at *
            clear pj HPT
            go_wp2_with fail
            go_quiet (fail)
            go_wp2_with fail
            go_quiet (fail)
            go_wp2_with fail
            refine (HC.o _).mono ?_
            rintro r w' ⟨rfl, hb, hA⟩
            obtain ⟨d2, hd1, hd2, hF⟩ := hA.fm
            have HB2 := hd ((bel_drew HBL.o _).trans hb)
            have HF2 := hd hF
            clear hb hA hF
            go_wp2
            go_roundw
            case rel => exact ⟨E + n, d2, by omega, by omega, by omega, by omega, rfl, hd (by have := HEH.o.2; omega), HB2, HF2⟩
            case measure => simp [intOf]; omega
        · have HV := hd (HS.o.below (by omega) (by omega))
          have HFn : Hd (Fn xh K wr b q E) := hd ⟨g, m, tq, HD.o, HS.o, HV.o⟩
          have hq0' : q ≤ 0 := by omega
          clear HV HS HD HFm
          go_wp2_with fail
          go_loopw [6] (fun x6 wq => ∃ E q : Int, E ≤ 1060 ∧ -1110 ≤ E ∧ -400 ≤ q ∧ q ≤ 0 ∧ x6 = .int .i64 E ∧ Hd (E ≤ DN.jj K) ∧ Hd (Below b w wq) ∧ Hd (Fn xh K wq b q E)) (fun x6 _ => (intOf x6 + 1200).toNat)
          case atStart => exact ⟨E, q, by omega, by omega, by omega, by omega, rfl, HEJ, HBL, HFn⟩
          case round =>
            clear HFn c801 HBL HEJ
            obtain ⟨E, q, hE0, hE1, hq0, hq1, rfl, HEJ, HBL, HFn⟩ := hrel
            obtain ⟨g, m, tq, hD, hS, hV⟩ := HFn.o.ex
            have HD := hd hD
            have HS := hd hS
            have HV := hd hV
            have hEl := hS.e_lo HB.o hV
            clear hD hS hV
            have c801 := HD.o.cdp
            have c0 := HD.o.dig 0 (by decide)
            have HPT := HP.o.below HBL.o
            obtain ⟨B, o, cap, _, _, p0, pj⟩ := HPT.ex
            obtain ⟨j, rfl⟩ : ∃ j : Nat, q = -(j : Int) := ⟨(-q).toNat, by omega⟩
            -- one round: a shift by n
            have STEP : ∀ n : Nat, 1 ≤ n → n ≤ 27 → DN.SV (DN.dvf g m) (-(j : Int) - m) E < DN.SV 1 0 (E - n) → Hd (∀ nq, Calls Tryz.prog 173 #[.pointer (some ⟨b, 0, none⟩), .int .i64 (n : Int)] (wr.drewN nq) fun r w' => r = .returned (.tuple #[]) ∧ Below b (wr.drewN nq) w' ∧ ∃ d2 : Int, -400 ≤ d2 ∧ d2 ≤ 0 ∧ -1105 < E - n ∧ Fn xh K w' b d2 (E - n)) := fun n hn1 hn2 hlt => hd (fun nq => (shiftL_any xh K _ b g m _ tq E n (HD.o.drew nq) ((HL.o.below HBL.o).below (bel_drew (Below.refl _ _) nq)) HS.o HR2.o hn1 (by omega) (by omega) (by omega) HEJ.o (by omega)).mono fun r w' ⟨a, c, V⟩ => by
              obtain ⟨g', m', d', t', x1, x2, x3, x4, x5, x6⟩ := V.ex
              have hlt2 := Nat.lt_of_le_of_lt x6 hlt
              have := x2.dp_le (by omega) hlt2
              exact ⟨a, c, d', by omega, this, x2.e_lo HB.o hlt2, ⟨g', m', t', x1, x2, hlt2⟩⟩)
            have HJ1 : Hd (∀ n : Nat, E - n ≤ DN.jj K) := hd (fun n => by have := HEJ.o; omega)
            by_cases hj0 : j = 0
            · subst hj0
              have d801 : wr.cell? ⟨b, 801, none⟩ = some (.int .i64 0) := by simpa using HD.o.cdp
              clear c801
              by_cases hf5 : g 0 < 53
              · have HC := STEP 1 (by decide) (by decide) (by have := DN.SS.half_lt (e := E) (by simpa using HS.o) (by omega) (by omega); simpa using this)
                have hf5I : (g 0 : Int) < 53 := by omega
                have p1 := pj 0 (by decide)
                have hp : (pwt 0 : Int) = 1 := by decide
                rw [hp, Nat.add_zero] at p1
                clear pj HPT STEP
                go_wp2_with fail
                go_quiet (fail)
                go_wp2_with fail
                go_quiet (fail)
                go_wp2_with fail
                refine (HC.o _).mono ?_
                rintro r w' ⟨rfl, hb, d2, hd1, hd2, hEn, hF⟩
                have HB2 := hd ((bel_drew HBL.o _).trans hb)
                have HF2 := hd hF
                clear hb hF
                go_wp2
                go_roundw
                case rel => exact ⟨E - 1, d2, by omega, by omega, by omega, by omega, rfl, hd (HJ1.o 1), HB2, HF2⟩
                case measure => simp [intOf]; omega
              · have hf5I : ¬ (g 0 : Int) < 53 := by omega
                have hS0 : DN.SS xh (DN.GG K) g m 0 tq E := by simpa using HS.o
                have hV0 : DN.SV (DN.dvf g m) (0 - m) E < DN.SV 1 0 E := by simpa using HV.o
                have HLE := hd (hS0.half_le (by omega) (by omega))
                have HS0 := hd hS0
                have HV0 := hd hV0
                have G1 := HG.o.below HBL.o
                have g0 := G1.mb
                have g1 := G1.xb
                have g2 := G1.bs
                clear hS0 hV0 STEP pj p0 HPT G1 HV HS HFn HJ1
                go_upto_if 111 with fail
                go_cut [6, 10] from 111 to 125 (fun x6 x10 wx => ∃ X : Int, x6 = .int .i64 X ∧ -1022 ≤ X ∧ X ≤ 1060 ∧ Hd ((K : Int) = X + 1022) ∧ Hd (Below b w wx) ∧ Hd (∃ d2, -500 ≤ d2 ∧ d2 ≤ 0 ∧ Fm xh K wx b d2 (X + 1)))
                case first =>
                  by_cases hden : E - 1 < -1022
                  · obtain ⟨n, rfl⟩ : ∃ n : Nat, E = -1021 - (n : Int) := ⟨(-1021 - E).toNat, by omega⟩
                    have HK0 : Hd ((K : Int) = -1022 + 1022) := hd (by
                      rcases HS0.o.rung_0 HB.o (by omega) (by omega) HV0.o with h | h
                      · rw [h]; rfl
                      · exact h.2.elim)
                    have HC : Hd (Calls Tryz.prog 173 #[.pointer (some ⟨b, 0, none⟩), .int .i64 (-(-1022 - (-1021 - (n : Int) - 1)))] wr fun r w' => r = .returned (.tuple #[]) ∧ Below b wr w' ∧ ShA xh K w' b (0 - 38) 0 (-1021 - (n : Int) + n)) := hd (by
                      have e1 : -(-1022 - (-1021 - (n : Int) - 1)) = -(n : Int) := by omega
                      rw [e1]
                      exact shiftR_any xh K wr b g m 0 tq (-1021 - (n : Int)) n (by simpa using HD.o) HS0.o HR2.o (by omega) (by omega) (by omega) (by omega) (by omega) (by omega))
                    go_wp2_with fail
                    with_reducible refine HC.o.mono ?_
                    rintro r w' ⟨rfl, hb, hA⟩
                    obtain ⟨d2, hd1, hd2, hF⟩ := hA.fm
                    have HB2 := hd (HBL.o.trans hb)
                    have HF2 := hd hF
                    clear hb hA hF
                    go_wp2
                    go_meet
                    case rel => exact ⟨_, rfl, by omega, by omega, hd (by have := HK0.o; omega), HB2, hd ⟨d2, by omega, hd2, HF2.o.cast (by omega)⟩⟩
                  · have HK0 : Hd ((K : Int) = E + 1021) := hd (HS0.o.rung_n HB.o (by omega) HLE.o HV0.o)
                    have HF2 : Hd (Fm xh K wr b 0 E) := hd ⟨g, m, tq, by simpa using HD.o, HS0.o⟩
                    go_wp2
                    go_meet
                    case rel => exact ⟨_, rfl, by omega, by omega, hd (by have := HK0.o; omega), HBL, hd ⟨0, by omega, by omega, HF2.o.cast (by omega)⟩⟩
                case rest =>
                  clear HLE HS0 HV0 HD g0 g1 g2 HBL
                  obtain ⟨X, rfl, hX1, hX2, HKX, HBL, HFm⟩ := hcut
                  obtain ⟨d2, hd1, hd2, hF⟩ := HFm.o
                  obtain ⟨g, m, tq, hD, hS⟩ := hF.ex
                  have HD := hd hD
                  have HS := hd hS
                  have G1 := HG.o.below HBL.o
                  have g0 := G1.mb
                  have g1 := G1.xb
                  have g2 := G1.bs
                  have c802 := HD.o.cng
                  clear hD hS hF HFm G1
                  by_cases hov : 2047 ≤ X + 1023
                  · have HF := hd (DN.ov_rung HB.o.r1 (by have := HKX.o; omega))
                    go_wp2_with fail
                    go_quiet (fail)
                    go_wp2_with fail
                    apply wp_goto
                    show ExGoes _ _ _ (Exit.goto _) _ _
                    refine ⟨_, rfl, ?_⟩
                    go_wp2_with fail
                    go_quiet (fail)
                    go_wp2_with fail
                    go_step3
                    go_wp2_with fail
                    go_quiet (fail)
                    go_wp2_with fail
                    rw [Exit.noGoto_ret]
                    exact bodyPost_ret (v := .tuple #[.int .u64 9218868437227405312, .bool true]) (by simp [results, Tryz.results219, go_sem]; decide) rfl (fba_inf HF.o (bel_drew HBL.o _))
                  · have hJ : X + 1 ≤ DN.jj K := by
                      have := HKX.o
                      unfold DN.jj; split <;> omega
                    have HC : Hd (∀ nq, Calls Tryz.prog 173 #[.pointer (some ⟨b, 0, none⟩), .int .i64 53] (wc.drewN nq) fun r w' => r = .returned (.tuple #[]) ∧ Below b (wc.drewN nq) w' ∧ ShV xh K w' b d2 (d2 + 19) (X + 1 - (53 : Nat)) (DN.SV (DN.dvf g m) (d2 - m) (X + 1))) := hd (fun nq => shiftL_any xh K (wc.drewN nq) b g m d2 tq (X + 1) 53 (HD.o.drew nq) ((HL.o.below HBL.o).below (bel_drew (Below.refl _ _) nq)) HS.o HR2.o (by decide) (by decide) (by omega) (by omega) hJ (by omega))
                    clear hJ
                    go_wp2_with fail
                    go_quiet (fail)
                    go_wp2_with fail
                    with_reducible refine (HC.o _).mono ?_
                    rintro r w1 ⟨rfl, hb, hA⟩
                    obtain ⟨g', m', d', t', x1, x2, x3, x4, x5, _⟩ := hA.ex
                    have HB2 := hd ((bel_drew HBL.o _).trans hb)
                    have x2' : DN.SS xh (DN.GG K) g' m' d' t' ((K : Int) - 1074) := by
                      have e1 : X + 1 - ((53 : Nat) : Int) = (K : Int) - 1074 := by have := HKX.o; omega
                      rw [← e1]; exact x2
                    obtain ⟨hk, hR, hK52⟩ := DN.rnd_fin x2' x3 (by omega) (by omega) HB.o.r1 HB.o.r2
                    have HRI := hd (rint_any w1 b g' m' d' t' x1 x2'.n8 x2'.ok (by omega) (by omega) (Nat.le_trans (by unfold DN.RI; omega) hk))
                    have G1 := HG.o.below HB2.o
                    have e0 := G1.mb
                    have e1 := G1.xb
                    have e2 := G1.bs
                    have e802 := x1.cng
                    have HR3 := hd hR
                    have HK52 := hd hK52
                    have HKB := hd hk
                    clear g0 g1 g2 c802 hb hA x1 x2 x3 x4 x5 x2' hR hK52 G1 HD HS HBL HC hk
                    generalize DN.RI g' m' d' t' = k at *
                    go_wp2_with fail
                    with_reducible refine HRI.o.mono ?_
                    rintro r w' ⟨rfl, rfl⟩
                    have hKX : (K : Int) = X + 1022 := HKX.o
                    have hov' : X + 1023 < 2047 := by omega
                    obtain ⟨Y, hYX⟩ : ∃ Y : Nat, (Y : Int) = X + 1023 := ⟨(X + 1023).toNat, by omega⟩
                    obtain rfl : X = (Y : Int) - 1023 := by omega
                    have HYK : Hd (Y = K + 1) := hd (by omega)
                    have hY : Y < 2047 := by omega
                    have eX : (Y : Int) - 1023 + 1023 = (Y : Int) := by omega
                    have eX1 : (Y : Int) - 1023 + 1 + 1023 = ((Y + 1 : Nat) : Int) := by omega
                    clear hov hov' hKX hYX hX1 hX2 HKX
                    by_cases hk53 : k = 9007199254740992
                    · subst hk53
                      by_cases hov2 : Y = 2046
                      · subst hov2
                        have HF : Hd (FS.Rnd xh DN.WW FS.INF) := hd (by
                          have h1 := HR3.o
                          have h2 := HYK.o
                          rw [Nat.min_eq_right (by unfold FS.INF; omega)] at h1; exact h1)
                        go_wp2_with fail
                        go_quiet (fail)
                        go_wp2_with fail
                        apply wp_goto
                        show ExGoes _ _ _ (Exit.goto _) _ _
                        refine ⟨_, rfl, ?_⟩
                        go_wp2_with fail
                        go_quiet (fail)
                        go_wp2_with fail
                        go_step3
                        go_wp2_with fail
                        go_quiet (fail)
                        go_wp2_with fail
                        rw [Exit.noGoto_ret]
                        exact bodyPost_ret (v := .tuple #[.int .u64 9218868437227405312, .bool true]) (by simp [results, Tryz.results219, go_sem]; decide) rfl (fba_inf HF.o (bel_drew HB2.o _))
                      · have HF : Hd (FS.Rnd xh DN.WW ((Y + 1) * 4503599627370496) ∧ (Y + 1) * 4503599627370496 < FS.INF) := hd (by
                          have h1 := HR3.o
                          have h2 := HYK.o
                          rw [Nat.min_eq_left (by unfold FS.INF; omega), show K * 4503599627370496 + 9007199254740992 = (Y + 1) * 4503599627370496 by omega] at h1
                          exact ⟨h1, by unfold FS.INF; omega⟩)
                        have hov3 : ¬ 2047 ≤ (Y : Int) + 1 := by omega
                        go_wp2_with fail
                        go_quiet (fail)
                        go_wp2_with fail
                        apply wp_goto
                        show ExGoes _ _ _ (Exit.goto _) _ _
                        refine ⟨_, rfl, ?_⟩
                        go_wp2_with fail
                        go_quiet (fail)
                        go_wp2_with fail
                        rw [Exit.noGoto_ret]
                        exact bodyPost_ret (v := .tuple #[.int .u64 (((Y + 1) * 4503599627370496 : Nat) : Int), .bool false]) (by simp [results, Tryz.results219, go_sem]; simpa using DN.out_eq 4503599627370496 (Y + 1) (by decide) (by omega)) rfl (fba_fin HF.o.1 HF.o.2 (bel_drew HB2.o _))
                    · have tk : ((k : Int) == 9007199254740992) = false := by rw [beq_eq_false_iff_ne]; omega
                      have hkb : k < 9007199254740992 := by have := HKB.o; omega
                      by_cases h52 : k < 4503599627370496
                      · have HF : Hd (FS.Rnd xh DN.WW k ∧ k < FS.INF) := hd (by
                          have h1 := HR3.o
                          have h2 := HK52.o.resolve_right (by omega)
                          rw [h2, Nat.zero_mul, Nat.zero_add, Nat.min_eq_left (by unfold FS.INF; omega)] at h1
                          exact ⟨h1, by unfold FS.INF; omega⟩)
                        have b1 : bits .and .u64 (k : Int) 4503599627370496 = 0 := by
                          rw [show (0 : Int) = ((0 : Nat) : Int) from rfl, ← DN.and_0 h52]; exact u64_and_nat k 4503599627370496 (by omega) (by decide)
                        have HO := hd (DN.out_eq k 0 (by omega) (by decide))
                        have HKM : Hd (k % 4503599627370496 = k) := hd (Nat.mod_eq_of_lt h52)
                        clear hk53 hkb h52
                        go_wp2_with fail
                        apply wp_goto
                        show ExGoes _ _ _ (Exit.goto _) _ _
                        refine ⟨_, rfl, ?_⟩
                        go_wp2_with fail
                        go_quiet (fail)
                        go_wp2_with fail
                        rw [Exit.noGoto_ret]
                        exact bodyPost_ret (v := .tuple #[.int .u64 (k : Int), .bool false]) (by simp [results, Tryz.results219, go_sem]; have h := HO.o; rw [HKM.o] at h; simpa using h) rfl (fba_fin HF.o.1 HF.o.2 (bel_drew HB2.o _))
                      · have HF : Hd (FS.Rnd xh DN.WW (Y * 4503599627370496 + k % 4503599627370496) ∧ Y * 4503599627370496 + k % 4503599627370496 < FS.INF) := hd (by
                          have h1 := HR3.o
                          have h2 := HYK.o
                          rw [Nat.min_eq_left (by unfold FS.INF; omega), show K * 4503599627370496 + k = Y * 4503599627370496 + k % 4503599627370496 by omega] at h1
                          exact ⟨h1, by unfold FS.INF; omega⟩)
                        obtain ⟨z, hz⟩ : ∃ z, z = k &&& 4503599627370496 := ⟨_, rfl⟩
                        have b1 : bits .and .u64 (k : Int) 4503599627370496 = (z : Int) := by
                          rw [hz]; exact u64_and_nat k 4503599627370496 (by omega) (by decide)
                        have b2 : ((z : Int) == 0) = false := by rw [beq_eq_false_iff_ne]; have := DN.and_1 (k := k) (by omega) hkb; omega
                        have HO := hd (DN.out_eq k Y (by omega) (by omega))
                        clear hk53 hkb h52 hz
                        go_wp2_with fail
                        apply wp_goto
                        show ExGoes _ _ _ (Exit.goto _) _ _
                        refine ⟨_, rfl, ?_⟩
                        go_wp2_with fail
                        go_quiet (fail)
                        go_wp2_with fail
                        rw [Exit.noGoto_ret]
                        exact bodyPost_ret (v := .tuple #[.int .u64 ((Y * 4503599627370496 + k % 4503599627370496 : Nat) : Int), .bool false]) (by simp [results, Tryz.results219, go_sem]; have h := HO.o; simpa using h) rfl (fba_fin HF.o.1 HF.o.2 (bel_drew HB2.o _))
            · obtain ⟨hjp, hjI⟩ : 0 < j ∧ -(j : Int) < 0 := by omega
              by_cases h9 : 9 ≤ j
              · have h9I : (9 : Int) ≤ (j : Int) := by omega
                have HC := STEP 27 (by decide) (by decide) (HS.o.room (by omega) (by omega) (by rw [show (-(-(j : Int))).toNat = j by omega]; exact Nat.le_trans z27 (FS.X_mono h9)) (by omega))
                clear pj HPT STEP
                go_wp2_with fail
                go_quiet (fail)
                go_wp2_with fail
                refine (HC.o _).mono ?_
                rintro r w' ⟨rfl, hb, d2, hd1, hd2, hEn, hF⟩
                have HB2 := hd ((bel_drew HBL.o _).trans hb)
                have HF2 := hd hF
                clear hb hF
                go_wp2
                go_roundw
                case rel => exact ⟨E - 27, d2, by omega, by omega, by omega, by omega, rfl, hd (HJ1.o 27), HB2, HF2⟩
                case measure => simp [intOf]; omega
              · have h9I : ¬ (9 : Int) ≤ (j : Int) := by omega
                have hj9 : j < 9 := by omega
                have hj9I : (j : Int) < 9 := by omega
                have p1 := pj j hj9
                obtain ⟨hp1, hp2, hp3⟩ := pwt_at hj9
                have HC := STEP (pwt j) hp1 hp2 (HS.o.room (by omega) (by omega) (by rw [show (-(-(j : Int))).toNat = j by omega]; exact hp3 hj0) (by omega))
                generalize pwt j = n at *
                clear pj HPT STEP hp3
                go_wp2_with fail
                go_quiet (fail)
                go_wp2_with fail
                go_quiet (fail)
                go_wp2_with fail
                refine (HC.o _).mono ?_
                rintro r w' ⟨rfl, hb, d2, hd1, hd2, hEn, hF⟩
                have HB2 := hd ((bel_drew HBL.o _).trans hb)
                have HF2 := hd hF
                clear hb hF
                go_wp2
                go_roundw
                case rel => exact ⟨E - n, d2, by omega, by omega, by omega, by omega, rfl, hd (HJ1.o n), HB2, HF2⟩
                case measure => simp [intOf]; omega
end Go.Proofs.YtibmgmgdbicdlaaGreatDoor
