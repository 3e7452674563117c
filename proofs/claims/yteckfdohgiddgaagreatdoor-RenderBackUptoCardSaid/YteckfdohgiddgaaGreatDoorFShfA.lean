/- internal/strconv.shortFloat at float64. internal/strconv.shortFloat at float64: what it answers, for every float. -/
import Derived.Test.YteckfdohgiddgaaGreatDoorFPrs
import Derived.Test.YteckfdohgiddgaaGreatDoorBk
namespace Go.Proofs.YteckfdohgiddgaaGreatDoor
open Go.RowKit
set_option linter.unusedVariables false
set_option linter.unusedSimpArgs false
theorem allHi : ((List.range 696).all fun i : Nat => decide (9223372036854775808 ≤ FS.hiOf ((i : Int) - 348))) = true := by decide +kernel
theorem hi_ge {p : Int} (h1 : -348 ≤ p) (h2 : p ≤ 347) : 9223372036854775808 ≤ FS.hiOf p := by
  have h := List.all_eq_true.1 allHi (p + 348).toNat (List.mem_range.2 (by omega))
  rw [decide_eq_true_eq, show (((p + 348).toNat : Nat) : Int) - 348 = p by omega] at h
  exact h
theorem lo_lt {p : Int} (h1 : -348 ≤ p) (h2 : p ≤ 347) : FS.loOf p < 18446744073709551616 := (FS.rowOf h1 h2).hl
theorem cut_le {x hi lo s : Nat} (hx : x < 18446744073709551616) (hh : hi < 18446744073709551616) (hs : 5 ≤ s) : FS.cut x hi lo s ≤ 576460752303423489 := by
  have h0 : x * hi / 18446744073709551616 < 18446744073709551616 := by
    have : x * hi ≤ 18446744073709551615 * 18446744073709551615 := Nat.mul_le_mul (by omega) (by omega)
    omega
  have h1 : ∀ a, a < 18446744073709551616 → a / 2 ^ s ≤ 576460752303423488 := fun a ha => by
    have h2 : 2 ^ 5 ≤ 2 ^ s := Nat.pow_le_pow_right (by decide) hs
    have h3 : a / 2 ^ s ≤ a / 2 ^ 5 := Nat.div_le_div_left h2 (by decide)
    omega
  have h4 : ∀ a b, a ≤ 576460752303423488 → b ≤ 1 → a ||| b ≤ 576460752303423489 := fun a b ha hb => by
    rcases (show b = 0 ∨ b = 1 by omega) with rfl | rfl
    · rw [Nat.or_zero]; omega
    · rw [FS.or_one]; split <;> omega
  unfold FS.cut
  simp only [Nat.reducePow]
  split
  · exact h4 _ _ (h1 _ h0) (Nat.le_refl _)
  · refine h4 _ _ (h1 _ ?_) ?_
    · split <;> omega
    · split <;> omega
theorem ret_two {a b : Nat} {c d : Int} (h : a = b) (h2 : c = d) : Ending.returned (.tuple #[.int .u64 (a : Int), .int .i64 c]) = .returned (.tuple #[.int .u64 (b : Int), .int .i64 d]) := by rw [h, h2]
theorem nudge1 (u od : Nat) (h : u + od < 18446744073709551616) (ho : od ≤ 1) (w : World) :
    Calls Tryz.prog 268 #[.int .u64 u, .int .i64 od] w fun e w' => e = .returned (.int .u64 ((u + od : Nat) : Int)) ∧ w' = w := by
  have h1 := nudge_any u od (by omega) (by omega) (by omega) (by omega) w
  rw [show (u : Int) + od = ((u + od : Nat) : Int) by omega] at h1
  exact h1
theorem nudge2 (u od : Nat) (h : u < 18446744073709551616) (ho : od ≤ 1) (h1 : od ≤ u) (w : World) :
    Calls Tryz.prog 268 #[.int .u64 u, .int .i64 (-(od : Int))] w fun e w' => e = .returned (.int .u64 ((u - od : Nat) : Int)) ∧ w' = w := by
  have h1 := nudge_any u (-(od : Int)) (by omega) (by omega) (by omega) (by omega) w
  rw [show (u : Int) + -(od : Int) = ((u - od : Nat) : Int) by omega] at h1
  exact h1
theorem us_any (x u i s g : Nat) (w2 W : World) (hi : i < 696) (hx : x < 18446744073709551616) (hx0 : 4611686018427387904 ≤ x) (hs : s ≤ 63) (hu : FS.cut x (FS.hiOf ((i : Int) - 348)) (FS.loOf ((i : Int) - 348)) s = u)
    (c0 : w2.cell? ⟨g, 0, none⟩ = some (.int .u64 (FS.hiOf ((i : Int) - 348)))) (c1 : w2.cell? ⟨g, 1, none⟩ = some (.int .u64 (FS.loOf ((i : Int) - 348)))) (c2 : w2.cell? ⟨g, 2, none⟩ = some (.int .i64 s)) (hW : Below w2.heap.size w2 W) :
    Calls Tryz.prog 267 #[.int .u64 x, .pointer (some ⟨g, 0, none⟩)] W fun e w' => e = .returned (.int .u64 u) ∧ Below W.heap.size W w' := by
  have hlt := World.block_lt_of_cell? w2 _ c0
  have hh := hi_ge (p := (i : Int) - 348) (by omega) (by omega)
  have h := uscale_any x (FS.hiOf ((i : Int) - 348)) (FS.loOf ((i : Int) - 348)) s g 0 W hx (FS.hi_lt (by omega) (by omega)) (lo_lt (by omega) (by omega)) (by
      have : 4611686018427387904 * 9223372036854775808 ≤ x * FS.hiOf ((i : Int) - 348) := Nat.mul_le_mul hx0 hh
      omega) hs ((hW.cell (p := ⟨g, 0, none⟩) hlt).trans c0) ((hW.cell (p := ⟨g, 1, none⟩) hlt).trans c1) ((hW.cell (p := ⟨g, 2, none⟩) hlt).trans c2)
  rw [hu] at h
  refine h.mono ?_
  rintro e w' ⟨rfl, n, rfl⟩
  exact ⟨rfl, bel_drew (Below.refl _ _) n⟩
theorem pre_world (g i : Nat) (e lq : Int) (w : World) (hT : Tbl w) (hi : i < 696) (hg : g = w.heap.size) (he0 : -2000 ≤ e) (he1 : e ≤ 1000) (hl0 : -2000 ≤ lq) (hl1 : lq ≤ 2000) (s : Nat) (hs : -(e + lq + 3) = (s : Int)) :
    Calls Tryz.prog 265 #[.pointer (some ⟨g, 0, none⟩), .int .i64 e, .int .i64 ((i : Int) - 348), .int .i64 lq] (w.alloc (.cells #[.int .u64 0, .int .u64 0, .int .i64 0] 298)) fun x w' => x = .returned (.tuple #[]) ∧
      w'.cell? ⟨g, 0, none⟩ = some (.int .u64 (FS.hiOf ((i : Int) - 348))) ∧ w'.cell? ⟨g, 1, none⟩ = some (.int .u64 (FS.loOf ((i : Int) - 348))) ∧ w'.cell? ⟨g, 2, none⟩ = some (.int .i64 s) ∧ Below w.heap.size w w' := by
  subst hg
  have hb : Below w.heap.size w (w.alloc (.cells #[.int .u64 0, .int .u64 0, .int .i64 0] 298)) := (Below.refl _ _).alloc (Nat.le_refl _) _
  refine (prescale_any w.heap.size i e lq _ (hT.below hb) hi hT.lt (.int .u64 0) (.int .u64 0) (.int .i64 0) (by simp) (by simp) (by simp) (by simp) (by simp) (by simp) (by omega) (by omega) (by omega) (by omega)).mono ?_
  rintro x w' ⟨rfl, rfl⟩
  rw [hs]
  have hk : Bk (w.alloc (.cells #[.int .u64 0, .int .u64 0, .int .i64 0] 298)) w.heap.size 298 [.int .u64 0, .int .u64 0, .int .i64 0] := heap_alloc_new w _
  have hk2 := ((hk.set 0 (.int .u64 (FS.hiOf ((i : Int) - 348)))).set 1 (.int .u64 (FS.loOf ((i : Int) - 348)))).set 2 (.int .i64 s)
  refine ⟨rfl, hk2.cell 0 (by simp), hk2.cell 1 (by simp), hk2.cell 2 (by simp), ?_⟩
  · exact ((hb.setCell (p := ⟨w.heap.size, 0, none⟩) (Nat.le_refl _) _).setCell (p := ⟨w.heap.size, 1, none⟩) (Nat.le_refl _) _).setCell (p := ⟨w.heap.size, 2, none⟩) (Nat.le_refl _) _
set_option maxHeartbeats 4000000 in
set_option maxRecDepth 100000 in
theorem shortB1 (M mn mx umin umax um od i s : Nat) (e lq : Int) (w : World) (hT : Tbl w) (hE : -1085 ≤ e) (hk : ((M : Int) == 9223372036854775808) = false) (hl : FS.l10 (e + 11) = 348 - (i : Int)) (hmn1 : (M : Int) - 1024 = mn) (hmx1 : (M : Int) + 1024 = mx) (hod1 : bits .and .i64 ((M : Int) / 2048) 1 = (od : Int))
    (hM : M < 18446744073709551616) (hM0 : 9223372036854775808 ≤ M) (hi : i < 696) (he0 : -2000 ≤ e) (he1 : e ≤ 1000)
    (hlq : FS.lp ((i : Int) - 348) = lq) (hlq0 : -2000 ≤ lq) (hlq1 : lq ≤ 2000) (hs : -(e + lq + 3) = (s : Int)) (hs63 : s ≤ 63) (hod : od ≤ 1)
    (hmn : mn < 18446744073709551616) (hmn0 : 4611686018427387904 ≤ mn) (hmx : mx < 18446744073709551616) (hmx0 : 4611686018427387904 ≤ mx)
    (h1 : FS.cut mn (FS.hiOf ((i : Int) - 348)) (FS.loOf ((i : Int) - 348)) s = umin) (h2 : FS.cut mx (FS.hiOf ((i : Int) - 348)) (FS.loOf ((i : Int) - 348)) s = umax) (h3 : FS.cut M (FS.hiOf ((i : Int) - 348)) (FS.loOf ((i : Int) - 348)) s = um)
    (b1 : umin ≤ 576460752303423489) (b2 : umax ≤ 576460752303423489) (b3 : um ≤ 576460752303423489) (b4 : 4 ≤ umax) :
    Calls Tryz.prog 257 #[.int .u64 M, .int .i64 e] w fun x w' => Below w.heap.size w w' ∧
      x = .returned (.tuple #[.int .u64 (FS.fineD ((umin + od + 3) / 4) ((umax - od) / 4) ((um + 1 + um / 4 % 2) / 4) : Nat), .int .i64 ((FS.fineT ((umin + od + 3) / 4) ((umax - od) / 4) (748 - i) : Nat) - 400 : Int)]) := by
  have HT := hd hT
  have HLT := hd hT.lt
  have HLP := hd (fun W => by have h := lp_any ((i : Int) - 348) (by omega) (by omega) W; rw [hlq] at h; exact h)
  have HPR := hd (fun W (hb : Below w.heap.size w W) => prescale_any w.heap.size i e lq (W.alloc (.cells #[.int .u64 0, .int .u64 0, .int .i64 0] 298)) ((hT.below hb).below ((Below.refl _ _).alloc (Nat.le_refl _) _)) hi hT.lt)
  have HU := hd (fun (x u : Nat) (hx : x < 18446744073709551616) (hx0 : 4611686018427387904 ≤ x) (hu : FS.cut x (FS.hiOf ((i : Int) - 348)) (FS.loOf ((i : Int) - 348)) s = u) g w2 h0 h1 h2 W hW => us_any x u i s g w2 W hi hx hx0 hs63 hu h0 h1 h2 hW)
  have H1 := hd h1
  have H2 := hd h2
  have H3 := hd h3
  have HS := hd hs
  clear hT hlq h1 h2 h3 hs HPR
  have N1 := hd (fun W => nudge1 umin od (by omega) hod W)
  have N2 := hd (fun W => nudge2 umax od (by omega) hod (by omega) W)
  have C1 := hd (fun W => ceil_any (umin + od) (by omega) W)
  have C2 := hd (fun W => floor_any (umax - od) (by omega) W)
  have C3 := hd (fun W => round_any um (by omega) W)
  have hb1 : (umin + od + 3) / 4 ≤ 144115188075855875 := by omega
  have hb2 : (umax - od) / 4 ≤ 144115188075855875 := by omega
  clear b1 b2 b3 b4
  generalize (umin + od + 3) / 4 = dmin at *
  generalize (umax - od) / 4 = dmax at *
  generalize (um + 1 + um / 4 % 2) / 4 = dr at *
  generalize umin + od = n1 at *
  generalize umax - od = n2 at *
  have HL := hd (fun W => by have h := l10_any (e + 11) (by omega) (by omega) W; rw [hl] at h; exact h)
  clear hl
  have hneg : -(348 - (i : Int)) = (i : Int) - 348 := by omega
  have hq : (dmax : Int) / 10 = ((dmax / 10 : Nat) : Int) := by omega
  have hq2 : dmax / 10 ≤ 144115188075855875 := by omega
  have gD : FS.fineD dmin dmax dr = (if dmin ≤ dmax / 10 * 10 then dmax / 10 else if dmin < dmax then dr else dmin) := rfl
  have gT : FS.fineT dmin dmax (748 - i) = (if dmin ≤ dmax / 10 * 10 then 748 - i + 1 else 748 - i) := rfl
  rw [gD, gT]
  clear gD gT
  by_cases k1 : dmin ≤ dmax / 10 * 10
  · have t1 : (dmin : Int) ≤ ((dmax / 10 : Nat) : Int) * 10 := by omega
    rw [if_pos k1, if_pos k1]
    clear k1
    generalize dmax / 10 = dd at *
    go_enter Tryz.func257, Tryz.ntmps257
    go_wp2_with (go_at_call 228; refine (HL.o _).mono ?_; rintro x w' ⟨rfl, rfl⟩)
    refine (HLP.o _).mono ?_; rintro x w' ⟨rfl, rfl⟩
    obtain ⟨g, hgg⟩ : ∃ g, g = w'.heap.size := ⟨_, rfl⟩
    have HW2 := hd (pre_world g i e lq w' HT.o hi hgg he0 he1 hlq0 hlq1 s HS.o)
    rw [← hgg]
    clear hgg
    go_wp2_with fail
    refine HW2.o.mono ?_; rintro x w2 ⟨rfl, d0, d1, d2, hbb⟩
    have HB2 := hd hbb
    have HD := hd (And.intro d0 (And.intro d1 d2))
    clear hbb d0 d1 d2
    go_wp2_with fail
    refine (HU.o mn umin hmn hmn0 H1.o g w2 HD.o.1 HD.o.2.1 HD.o.2.2 _ (Below.refl _ _)).mono ?_; rintro x w3 ⟨rfl, hb3⟩; have HB3 := hd hb3; clear hb3
    go_wp2_with (go_at_call 268; refine (N1.o _).mono ?_; rintro x w' ⟨rfl, rfl⟩)
    refine (C1.o _).mono ?_; rintro x w' ⟨rfl, rfl⟩
    go_wp2_with fail
    refine (HU.o mx umax hmx hmx0 H2.o g w2 HD.o.1 HD.o.2.1 HD.o.2.2 _ HB3.o).mono ?_; rintro x w4 ⟨rfl, hb4⟩; have HB4 := hd (bel HB2.o (bel HB3.o hb4)); have HB34 := hd (bel HB3.o hb4); clear hb4
    go_wp2_with fail
    refine (N2.o _).mono ?_; rintro x w' ⟨rfl, rfl⟩
    go_wp2_with fail
    refine (C2.o _).mono ?_; rintro x w' ⟨rfl, rfl⟩
    go_wp2_with (first
      | (go_at_call 267; refine (HU.o M um hM (by omega) H3.o g w2 HD.o.1 HD.o.2.1 HD.o.2.2 _ HB34.o).mono ?_; rintro x w5 ⟨rfl, hb5⟩; have HB5 := hd (bel HB4.o hb5); clear hb5)
      | (go_at_call 271; refine (C3.o _).mono ?_; rintro x w' ⟨rfl, rfl⟩))
    go_ret2
    exact ⟨HB4.o, ret_two (by omega) (by omega)⟩
  · have t1 : ¬ (dmin : Int) ≤ ((dmax / 10 : Nat) : Int) * 10 := by omega
    rw [if_neg k1, if_neg k1]
    clear k1
    generalize dmax / 10 = dd at *
    by_cases k2 : dmin < dmax
    · have t2 : (dmin : Int) < (dmax : Int) := by omega
      rw [if_pos k2]
      clear k2
      go_enter Tryz.func257, Tryz.ntmps257
      go_wp2_with (go_at_call 228; refine (HL.o _).mono ?_; rintro x w' ⟨rfl, rfl⟩)
      refine (HLP.o _).mono ?_; rintro x w' ⟨rfl, rfl⟩
      obtain ⟨g, hgg⟩ : ∃ g, g = w'.heap.size := ⟨_, rfl⟩
      have HW2 := hd (pre_world g i e lq w' HT.o hi hgg he0 he1 hlq0 hlq1 s HS.o)
      rw [← hgg]
      clear hgg
      go_wp2_with fail
      refine HW2.o.mono ?_; rintro x w2 ⟨rfl, d0, d1, d2, hbb⟩
      have HB2 := hd hbb
      have HD := hd (And.intro d0 (And.intro d1 d2))
      clear hbb d0 d1 d2
      go_wp2_with fail
      refine (HU.o mn umin hmn hmn0 H1.o g w2 HD.o.1 HD.o.2.1 HD.o.2.2 _ (Below.refl _ _)).mono ?_; rintro x w3 ⟨rfl, hb3⟩; have HB3 := hd hb3; clear hb3
      go_wp2_with (go_at_call 268; refine (N1.o _).mono ?_; rintro x w' ⟨rfl, rfl⟩)
      refine (C1.o _).mono ?_; rintro x w' ⟨rfl, rfl⟩
      go_wp2_with fail
      refine (HU.o mx umax hmx hmx0 H2.o g w2 HD.o.1 HD.o.2.1 HD.o.2.2 _ HB3.o).mono ?_; rintro x w4 ⟨rfl, hb4⟩; have HB4 := hd (bel HB2.o (bel HB3.o hb4)); have HB34 := hd (bel HB3.o hb4); clear hb4
      go_wp2_with fail
      refine (N2.o _).mono ?_; rintro x w' ⟨rfl, rfl⟩
      go_wp2_with fail
      refine (C2.o _).mono ?_; rintro x w' ⟨rfl, rfl⟩
      go_wp2_with (first
        | (go_at_call 267; refine (HU.o M um hM (by omega) H3.o g w2 HD.o.1 HD.o.2.1 HD.o.2.2 _ HB34.o).mono ?_; rintro x w5 ⟨rfl, hb5⟩; have HB5 := hd (bel HB4.o hb5); clear hb5)
        | (go_at_call 271; refine (C3.o _).mono ?_; rintro x w' ⟨rfl, rfl⟩))
      go_ret2
      exact ⟨HB5.o, ret_two (by omega) (by omega)⟩
    · have t2 : ¬ (dmin : Int) < (dmax : Int) := by omega
      rw [if_neg k2]
      clear k2
      go_enter Tryz.func257, Tryz.ntmps257
      go_wp2_with (go_at_call 228; refine (HL.o _).mono ?_; rintro x w' ⟨rfl, rfl⟩)
      refine (HLP.o _).mono ?_; rintro x w' ⟨rfl, rfl⟩
      obtain ⟨g, hgg⟩ : ∃ g, g = w'.heap.size := ⟨_, rfl⟩
      have HW2 := hd (pre_world g i e lq w' HT.o hi hgg he0 he1 hlq0 hlq1 s HS.o)
      rw [← hgg]
      clear hgg
      go_wp2_with fail
      refine HW2.o.mono ?_; rintro x w2 ⟨rfl, d0, d1, d2, hbb⟩
      have HB2 := hd hbb
      have HD := hd (And.intro d0 (And.intro d1 d2))
      clear hbb d0 d1 d2
      go_wp2_with fail
      refine (HU.o mn umin hmn hmn0 H1.o g w2 HD.o.1 HD.o.2.1 HD.o.2.2 _ (Below.refl _ _)).mono ?_; rintro x w3 ⟨rfl, hb3⟩; have HB3 := hd hb3; clear hb3
      go_wp2_with (go_at_call 268; refine (N1.o _).mono ?_; rintro x w' ⟨rfl, rfl⟩)
      refine (C1.o _).mono ?_; rintro x w' ⟨rfl, rfl⟩
      go_wp2_with fail
      refine (HU.o mx umax hmx hmx0 H2.o g w2 HD.o.1 HD.o.2.1 HD.o.2.2 _ HB3.o).mono ?_; rintro x w4 ⟨rfl, hb4⟩; have HB4 := hd (bel HB2.o (bel HB3.o hb4)); have HB34 := hd (bel HB3.o hb4); clear hb4
      go_wp2_with fail
      refine (N2.o _).mono ?_; rintro x w' ⟨rfl, rfl⟩
      go_wp2_with fail
      refine (C2.o _).mono ?_; rintro x w' ⟨rfl, rfl⟩
      go_wp2_with (first
        | (go_at_call 267; refine (HU.o M um hM (by omega) H3.o g w2 HD.o.1 HD.o.2.1 HD.o.2.2 _ HB34.o).mono ?_; rintro x w5 ⟨rfl, hb5⟩; have HB5 := hd (bel HB4.o hb5); clear hb5)
        | (go_at_call 271; refine (C3.o _).mono ?_; rintro x w' ⟨rfl, rfl⟩))
      go_ret2
      exact ⟨HB4.o, ret_two (by omega) (by omega)⟩
set_option maxHeartbeats 4000000 in
set_option maxRecDepth 100000 in
theorem shortB2 (M mn mx umin umax um od i s : Nat) (e lq : Int) (w : World) (hT : Tbl w) (hE : -1085 ≤ e) (hk : ((M : Int) == 9223372036854775808) = true) (hk2 : decide (-1085 < e) = false) (hl : FS.l10 (e + 11) = 348 - (i : Int)) (hmn1 : (M : Int) - 1024 = mn) (hmx1 : (M : Int) + 1024 = mx) (hod1 : bits .and .i64 ((M : Int) / 2048) 1 = (od : Int))
    (hM : M < 18446744073709551616) (hM0 : 9223372036854775808 ≤ M) (hi : i < 696) (he0 : -2000 ≤ e) (he1 : e ≤ 1000)
    (hlq : FS.lp ((i : Int) - 348) = lq) (hlq0 : -2000 ≤ lq) (hlq1 : lq ≤ 2000) (hs : -(e + lq + 3) = (s : Int)) (hs63 : s ≤ 63) (hod : od ≤ 1)
    (hmn : mn < 18446744073709551616) (hmn0 : 4611686018427387904 ≤ mn) (hmx : mx < 18446744073709551616) (hmx0 : 4611686018427387904 ≤ mx)
    (h1 : FS.cut mn (FS.hiOf ((i : Int) - 348)) (FS.loOf ((i : Int) - 348)) s = umin) (h2 : FS.cut mx (FS.hiOf ((i : Int) - 348)) (FS.loOf ((i : Int) - 348)) s = umax) (h3 : FS.cut M (FS.hiOf ((i : Int) - 348)) (FS.loOf ((i : Int) - 348)) s = um)
    (b1 : umin ≤ 576460752303423489) (b2 : umax ≤ 576460752303423489) (b3 : um ≤ 576460752303423489) (b4 : 4 ≤ umax) :
    Calls Tryz.prog 257 #[.int .u64 M, .int .i64 e] w fun x w' => Below w.heap.size w w' ∧
      x = .returned (.tuple #[.int .u64 (FS.fineD ((umin + od + 3) / 4) ((umax - od) / 4) ((um + 1 + um / 4 % 2) / 4) : Nat), .int .i64 ((FS.fineT ((umin + od + 3) / 4) ((umax - od) / 4) (748 - i) : Nat) - 400 : Int)]) := by
  have HT := hd hT
  have HLT := hd hT.lt
  have HLP := hd (fun W => by have h := lp_any ((i : Int) - 348) (by omega) (by omega) W; rw [hlq] at h; exact h)
  have HPR := hd (fun W (hb : Below w.heap.size w W) => prescale_any w.heap.size i e lq (W.alloc (.cells #[.int .u64 0, .int .u64 0, .int .i64 0] 298)) ((hT.below hb).below ((Below.refl _ _).alloc (Nat.le_refl _) _)) hi hT.lt)
  have HU := hd (fun (x u : Nat) (hx : x < 18446744073709551616) (hx0 : 4611686018427387904 ≤ x) (hu : FS.cut x (FS.hiOf ((i : Int) - 348)) (FS.loOf ((i : Int) - 348)) s = u) g w2 h0 h1 h2 W hW => us_any x u i s g w2 W hi hx hx0 hs63 hu h0 h1 h2 hW)
  have H1 := hd h1
  have H2 := hd h2
  have H3 := hd h3
  have HS := hd hs
  clear hT hlq h1 h2 h3 hs HPR
  have N1 := hd (fun W => nudge1 umin od (by omega) hod W)
  have N2 := hd (fun W => nudge2 umax od (by omega) hod (by omega) W)
  have C1 := hd (fun W => ceil_any (umin + od) (by omega) W)
  have C2 := hd (fun W => floor_any (umax - od) (by omega) W)
  have C3 := hd (fun W => round_any um (by omega) W)
  have hb1 : (umin + od + 3) / 4 ≤ 144115188075855875 := by omega
  have hb2 : (umax - od) / 4 ≤ 144115188075855875 := by omega
  clear b1 b2 b3 b4
  generalize (umin + od + 3) / 4 = dmin at *
  generalize (umax - od) / 4 = dmax at *
  generalize (um + 1 + um / 4 % 2) / 4 = dr at *
  generalize umin + od = n1 at *
  generalize umax - od = n2 at *
  have HL := hd (fun W => by have h := l10_any (e + 11) (by omega) (by omega) W; rw [hl] at h; exact h)
  clear hl
  have hneg : -(348 - (i : Int)) = (i : Int) - 348 := by omega
  have hq : (dmax : Int) / 10 = ((dmax / 10 : Nat) : Int) := by omega
  have hq2 : dmax / 10 ≤ 144115188075855875 := by omega
  have gD : FS.fineD dmin dmax dr = (if dmin ≤ dmax / 10 * 10 then dmax / 10 else if dmin < dmax then dr else dmin) := rfl
  have gT : FS.fineT dmin dmax (748 - i) = (if dmin ≤ dmax / 10 * 10 then 748 - i + 1 else 748 - i) := rfl
  rw [gD, gT]
  clear gD gT
  by_cases k1 : dmin ≤ dmax / 10 * 10
  · have t1 : (dmin : Int) ≤ ((dmax / 10 : Nat) : Int) * 10 := by omega
    rw [if_pos k1, if_pos k1]
    clear k1
    generalize dmax / 10 = dd at *
    go_enter Tryz.func257, Tryz.ntmps257
    go_wp2_with (go_at_call 228; refine (HL.o _).mono ?_; rintro x w' ⟨rfl, rfl⟩)
    refine (HLP.o _).mono ?_; rintro x w' ⟨rfl, rfl⟩
    obtain ⟨g, hgg⟩ : ∃ g, g = w'.heap.size := ⟨_, rfl⟩
    have HW2 := hd (pre_world g i e lq w' HT.o hi hgg he0 he1 hlq0 hlq1 s HS.o)
    rw [← hgg]
    clear hgg
    go_wp2_with fail
    refine HW2.o.mono ?_; rintro x w2 ⟨rfl, d0, d1, d2, hbb⟩
    have HB2 := hd hbb
    have HD := hd (And.intro d0 (And.intro d1 d2))
    clear hbb d0 d1 d2
    go_wp2_with fail
    refine (HU.o mn umin hmn hmn0 H1.o g w2 HD.o.1 HD.o.2.1 HD.o.2.2 _ (Below.refl _ _)).mono ?_; rintro x w3 ⟨rfl, hb3⟩; have HB3 := hd hb3; clear hb3
    go_wp2_with (go_at_call 268; refine (N1.o _).mono ?_; rintro x w' ⟨rfl, rfl⟩)
    refine (C1.o _).mono ?_; rintro x w' ⟨rfl, rfl⟩
    go_wp2_with fail
    refine (HU.o mx umax hmx hmx0 H2.o g w2 HD.o.1 HD.o.2.1 HD.o.2.2 _ HB3.o).mono ?_; rintro x w4 ⟨rfl, hb4⟩; have HB4 := hd (bel HB2.o (bel HB3.o hb4)); have HB34 := hd (bel HB3.o hb4); clear hb4
    go_wp2_with fail
    refine (N2.o _).mono ?_; rintro x w' ⟨rfl, rfl⟩
    go_wp2_with fail
    refine (C2.o _).mono ?_; rintro x w' ⟨rfl, rfl⟩
    go_wp2_with (first
      | (go_at_call 267; refine (HU.o M um hM (by omega) H3.o g w2 HD.o.1 HD.o.2.1 HD.o.2.2 _ HB34.o).mono ?_; rintro x w5 ⟨rfl, hb5⟩; have HB5 := hd (bel HB4.o hb5); clear hb5)
      | (go_at_call 271; refine (C3.o _).mono ?_; rintro x w' ⟨rfl, rfl⟩))
    go_ret2
    exact ⟨HB4.o, ret_two (by omega) (by omega)⟩
  · have t1 : ¬ (dmin : Int) ≤ ((dmax / 10 : Nat) : Int) * 10 := by omega
    rw [if_neg k1, if_neg k1]
    clear k1
    generalize dmax / 10 = dd at *
    by_cases k2 : dmin < dmax
    · have t2 : (dmin : Int) < (dmax : Int) := by omega
      rw [if_pos k2]
      clear k2
      go_enter Tryz.func257, Tryz.ntmps257
      go_wp2_with (go_at_call 228; refine (HL.o _).mono ?_; rintro x w' ⟨rfl, rfl⟩)
      refine (HLP.o _).mono ?_; rintro x w' ⟨rfl, rfl⟩
      obtain ⟨g, hgg⟩ : ∃ g, g = w'.heap.size := ⟨_, rfl⟩
      have HW2 := hd (pre_world g i e lq w' HT.o hi hgg he0 he1 hlq0 hlq1 s HS.o)
      rw [← hgg]
      clear hgg
      go_wp2_with fail
      refine HW2.o.mono ?_; rintro x w2 ⟨rfl, d0, d1, d2, hbb⟩
      have HB2 := hd hbb
      have HD := hd (And.intro d0 (And.intro d1 d2))
      clear hbb d0 d1 d2
      go_wp2_with fail
      refine (HU.o mn umin hmn hmn0 H1.o g w2 HD.o.1 HD.o.2.1 HD.o.2.2 _ (Below.refl _ _)).mono ?_; rintro x w3 ⟨rfl, hb3⟩; have HB3 := hd hb3; clear hb3
      go_wp2_with (go_at_call 268; refine (N1.o _).mono ?_; rintro x w' ⟨rfl, rfl⟩)
      refine (C1.o _).mono ?_; rintro x w' ⟨rfl, rfl⟩
      go_wp2_with fail
      refine (HU.o mx umax hmx hmx0 H2.o g w2 HD.o.1 HD.o.2.1 HD.o.2.2 _ HB3.o).mono ?_; rintro x w4 ⟨rfl, hb4⟩; have HB4 := hd (bel HB2.o (bel HB3.o hb4)); have HB34 := hd (bel HB3.o hb4); clear hb4
      go_wp2_with fail
      refine (N2.o _).mono ?_; rintro x w' ⟨rfl, rfl⟩
      go_wp2_with fail
      refine (C2.o _).mono ?_; rintro x w' ⟨rfl, rfl⟩
      go_wp2_with (first
        | (go_at_call 267; refine (HU.o M um hM (by omega) H3.o g w2 HD.o.1 HD.o.2.1 HD.o.2.2 _ HB34.o).mono ?_; rintro x w5 ⟨rfl, hb5⟩; have HB5 := hd (bel HB4.o hb5); clear hb5)
        | (go_at_call 271; refine (C3.o _).mono ?_; rintro x w' ⟨rfl, rfl⟩))
      go_ret2
      exact ⟨HB5.o, ret_two (by omega) (by omega)⟩
    · have t2 : ¬ (dmin : Int) < (dmax : Int) := by omega
      rw [if_neg k2]
      clear k2
      go_enter Tryz.func257, Tryz.ntmps257
      go_wp2_with (go_at_call 228; refine (HL.o _).mono ?_; rintro x w' ⟨rfl, rfl⟩)
      refine (HLP.o _).mono ?_; rintro x w' ⟨rfl, rfl⟩
      obtain ⟨g, hgg⟩ : ∃ g, g = w'.heap.size := ⟨_, rfl⟩
      have HW2 := hd (pre_world g i e lq w' HT.o hi hgg he0 he1 hlq0 hlq1 s HS.o)
      rw [← hgg]
      clear hgg
      go_wp2_with fail
      refine HW2.o.mono ?_; rintro x w2 ⟨rfl, d0, d1, d2, hbb⟩
      have HB2 := hd hbb
      have HD := hd (And.intro d0 (And.intro d1 d2))
      clear hbb d0 d1 d2
      go_wp2_with fail
      refine (HU.o mn umin hmn hmn0 H1.o g w2 HD.o.1 HD.o.2.1 HD.o.2.2 _ (Below.refl _ _)).mono ?_; rintro x w3 ⟨rfl, hb3⟩; have HB3 := hd hb3; clear hb3
      go_wp2_with (go_at_call 268; refine (N1.o _).mono ?_; rintro x w' ⟨rfl, rfl⟩)
      refine (C1.o _).mono ?_; rintro x w' ⟨rfl, rfl⟩
      go_wp2_with fail
      refine (HU.o mx umax hmx hmx0 H2.o g w2 HD.o.1 HD.o.2.1 HD.o.2.2 _ HB3.o).mono ?_; rintro x w4 ⟨rfl, hb4⟩; have HB4 := hd (bel HB2.o (bel HB3.o hb4)); have HB34 := hd (bel HB3.o hb4); clear hb4
      go_wp2_with fail
      refine (N2.o _).mono ?_; rintro x w' ⟨rfl, rfl⟩
      go_wp2_with fail
      refine (C2.o _).mono ?_; rintro x w' ⟨rfl, rfl⟩
      go_wp2_with (first
        | (go_at_call 267; refine (HU.o M um hM (by omega) H3.o g w2 HD.o.1 HD.o.2.1 HD.o.2.2 _ HB34.o).mono ?_; rintro x w5 ⟨rfl, hb5⟩; have HB5 := hd (bel HB4.o hb5); clear hb5)
        | (go_at_call 271; refine (C3.o _).mono ?_; rintro x w' ⟨rfl, rfl⟩))
      go_ret2
      exact ⟨HB4.o, ret_two (by omega) (by omega)⟩
set_option maxHeartbeats 4000000 in
set_option maxRecDepth 100000 in
theorem shortA (M mn mx umin umax um od i s : Nat) (e lq : Int) (w : World) (hT : Tbl w) (hk : ((M : Int) == 9223372036854775808) = true) (hk2 : decide (-1085 < e) = true) (hl : FS.skw (e + 11) = 348 - (i : Int)) (hmn1 : (M : Int) - 512 = mn) (hmx1 : (M : Int) + 1024 = mx) (hod1 : bits .and .i64 ((M : Int) / 2048) 1 = (od : Int))
    (hM : M < 18446744073709551616) (hM0 : 9223372036854775808 ≤ M) (hi : i < 696) (he0 : -2000 ≤ e) (he1 : e ≤ 1000)
    (hlq : FS.lp ((i : Int) - 348) = lq) (hlq0 : -2000 ≤ lq) (hlq1 : lq ≤ 2000) (hs : -(e + lq + 3) = (s : Int)) (hs63 : s ≤ 63) (hod : od ≤ 1)
    (hmn : mn < 18446744073709551616) (hmn0 : 4611686018427387904 ≤ mn) (hmx : mx < 18446744073709551616) (hmx0 : 4611686018427387904 ≤ mx)
    (h1 : FS.cut mn (FS.hiOf ((i : Int) - 348)) (FS.loOf ((i : Int) - 348)) s = umin) (h2 : FS.cut mx (FS.hiOf ((i : Int) - 348)) (FS.loOf ((i : Int) - 348)) s = umax) (h3 : FS.cut M (FS.hiOf ((i : Int) - 348)) (FS.loOf ((i : Int) - 348)) s = um)
    (b1 : umin ≤ 576460752303423489) (b2 : umax ≤ 576460752303423489) (b3 : um ≤ 576460752303423489) (b4 : 4 ≤ umax) :
    Calls Tryz.prog 257 #[.int .u64 M, .int .i64 e] w fun x w' => Below w.heap.size w w' ∧
      x = .returned (.tuple #[.int .u64 (FS.fineD ((umin + od + 3) / 4) ((umax - od) / 4) ((um + 1 + um / 4 % 2) / 4) : Nat), .int .i64 ((FS.fineT ((umin + od + 3) / 4) ((umax - od) / 4) (748 - i) : Nat) - 400 : Int)]) := by
  have HT := hd hT
  have HLT := hd hT.lt
  have HLP := hd (fun W => by have h := lp_any ((i : Int) - 348) (by omega) (by omega) W; rw [hlq] at h; exact h)
  have HPR := hd (fun W (hb : Below w.heap.size w W) => prescale_any w.heap.size i e lq (W.alloc (.cells #[.int .u64 0, .int .u64 0, .int .i64 0] 298)) ((hT.below hb).below ((Below.refl _ _).alloc (Nat.le_refl _) _)) hi hT.lt)
  have HU := hd (fun (x u : Nat) (hx : x < 18446744073709551616) (hx0 : 4611686018427387904 ≤ x) (hu : FS.cut x (FS.hiOf ((i : Int) - 348)) (FS.loOf ((i : Int) - 348)) s = u) g w2 h0 h1 h2 W hW => us_any x u i s g w2 W hi hx hx0 hs63 hu h0 h1 h2 hW)
  have H1 := hd h1
  have H2 := hd h2
  have H3 := hd h3
  have HS := hd hs
  clear hT hlq h1 h2 h3 hs HPR
  have N1 := hd (fun W => nudge1 umin od (by omega) hod W)
  have N2 := hd (fun W => nudge2 umax od (by omega) hod (by omega) W)
  have C1 := hd (fun W => ceil_any (umin + od) (by omega) W)
  have C2 := hd (fun W => floor_any (umax - od) (by omega) W)
  have C3 := hd (fun W => round_any um (by omega) W)
  have hb1 : (umin + od + 3) / 4 ≤ 144115188075855875 := by omega
  have hb2 : (umax - od) / 4 ≤ 144115188075855875 := by omega
  clear b1 b2 b3 b4
  generalize (umin + od + 3) / 4 = dmin at *
  generalize (umax - od) / 4 = dmax at *
  generalize (um + 1 + um / 4 % 2) / 4 = dr at *
  generalize umin + od = n1 at *
  generalize umax - od = n2 at *
  have HL := hd (fun W => by have h := skw_any (e + 11) (by omega) (by omega) W; rw [hl] at h; exact h)
  clear hl
  have hneg : -(348 - (i : Int)) = (i : Int) - 348 := by omega
  have hq : (dmax : Int) / 10 = ((dmax / 10 : Nat) : Int) := by omega
  have hq2 : dmax / 10 ≤ 144115188075855875 := by omega
  have gD : FS.fineD dmin dmax dr = (if dmin ≤ dmax / 10 * 10 then dmax / 10 else if dmin < dmax then dr else dmin) := rfl
  have gT : FS.fineT dmin dmax (748 - i) = (if dmin ≤ dmax / 10 * 10 then 748 - i + 1 else 748 - i) := rfl
  rw [gD, gT]
  clear gD gT
  by_cases k1 : dmin ≤ dmax / 10 * 10
  · have t1 : (dmin : Int) ≤ ((dmax / 10 : Nat) : Int) * 10 := by omega
    rw [if_pos k1, if_pos k1]
    clear k1
    generalize dmax / 10 = dd at *
    go_enter Tryz.func257, Tryz.ntmps257
    go_wp2_with (go_at_call 264; refine (HL.o _).mono ?_; rintro x w' ⟨rfl, rfl⟩)
    refine (HLP.o _).mono ?_; rintro x w' ⟨rfl, rfl⟩
    obtain ⟨g, hgg⟩ : ∃ g, g = w'.heap.size := ⟨_, rfl⟩
    have HW2 := hd (pre_world g i e lq w' HT.o hi hgg he0 he1 hlq0 hlq1 s HS.o)
    rw [← hgg]
    clear hgg
    go_wp2_with fail
    refine HW2.o.mono ?_; rintro x w2 ⟨rfl, d0, d1, d2, hbb⟩
    have HB2 := hd hbb
    have HD := hd (And.intro d0 (And.intro d1 d2))
    clear hbb d0 d1 d2
    go_wp2_with fail
    refine (HU.o mn umin hmn hmn0 H1.o g w2 HD.o.1 HD.o.2.1 HD.o.2.2 _ (Below.refl _ _)).mono ?_; rintro x w3 ⟨rfl, hb3⟩; have HB3 := hd hb3; clear hb3
    go_wp2_with (go_at_call 268; refine (N1.o _).mono ?_; rintro x w' ⟨rfl, rfl⟩)
    refine (C1.o _).mono ?_; rintro x w' ⟨rfl, rfl⟩
    go_wp2_with fail
    refine (HU.o mx umax hmx hmx0 H2.o g w2 HD.o.1 HD.o.2.1 HD.o.2.2 _ HB3.o).mono ?_; rintro x w4 ⟨rfl, hb4⟩; have HB4 := hd (bel HB2.o (bel HB3.o hb4)); have HB34 := hd (bel HB3.o hb4); clear hb4
    go_wp2_with fail
    refine (N2.o _).mono ?_; rintro x w' ⟨rfl, rfl⟩
    go_wp2_with fail
    refine (C2.o _).mono ?_; rintro x w' ⟨rfl, rfl⟩
    go_wp2_with (first
      | (go_at_call 267; refine (HU.o M um hM (by omega) H3.o g w2 HD.o.1 HD.o.2.1 HD.o.2.2 _ HB34.o).mono ?_; rintro x w5 ⟨rfl, hb5⟩; have HB5 := hd (bel HB4.o hb5); clear hb5)
      | (go_at_call 271; refine (C3.o _).mono ?_; rintro x w' ⟨rfl, rfl⟩))
    go_ret2
    exact ⟨HB4.o, ret_two (by omega) (by omega)⟩
  · have t1 : ¬ (dmin : Int) ≤ ((dmax / 10 : Nat) : Int) * 10 := by omega
    rw [if_neg k1, if_neg k1]
    clear k1
    generalize dmax / 10 = dd at *
    by_cases k2 : dmin < dmax
    · have t2 : (dmin : Int) < (dmax : Int) := by omega
      rw [if_pos k2]
      clear k2
      go_enter Tryz.func257, Tryz.ntmps257
      go_wp2_with (go_at_call 264; refine (HL.o _).mono ?_; rintro x w' ⟨rfl, rfl⟩)
      refine (HLP.o _).mono ?_; rintro x w' ⟨rfl, rfl⟩
      obtain ⟨g, hgg⟩ : ∃ g, g = w'.heap.size := ⟨_, rfl⟩
      have HW2 := hd (pre_world g i e lq w' HT.o hi hgg he0 he1 hlq0 hlq1 s HS.o)
      rw [← hgg]
      clear hgg
      go_wp2_with fail
      refine HW2.o.mono ?_; rintro x w2 ⟨rfl, d0, d1, d2, hbb⟩
      have HB2 := hd hbb
      have HD := hd (And.intro d0 (And.intro d1 d2))
      clear hbb d0 d1 d2
      go_wp2_with fail
      refine (HU.o mn umin hmn hmn0 H1.o g w2 HD.o.1 HD.o.2.1 HD.o.2.2 _ (Below.refl _ _)).mono ?_; rintro x w3 ⟨rfl, hb3⟩; have HB3 := hd hb3; clear hb3
      go_wp2_with (go_at_call 268; refine (N1.o _).mono ?_; rintro x w' ⟨rfl, rfl⟩)
      refine (C1.o _).mono ?_; rintro x w' ⟨rfl, rfl⟩
      go_wp2_with fail
      refine (HU.o mx umax hmx hmx0 H2.o g w2 HD.o.1 HD.o.2.1 HD.o.2.2 _ HB3.o).mono ?_; rintro x w4 ⟨rfl, hb4⟩; have HB4 := hd (bel HB2.o (bel HB3.o hb4)); have HB34 := hd (bel HB3.o hb4); clear hb4
      go_wp2_with fail
      refine (N2.o _).mono ?_; rintro x w' ⟨rfl, rfl⟩
      go_wp2_with fail
      refine (C2.o _).mono ?_; rintro x w' ⟨rfl, rfl⟩
      go_wp2_with (first
        | (go_at_call 267; refine (HU.o M um hM (by omega) H3.o g w2 HD.o.1 HD.o.2.1 HD.o.2.2 _ HB34.o).mono ?_; rintro x w5 ⟨rfl, hb5⟩; have HB5 := hd (bel HB4.o hb5); clear hb5)
        | (go_at_call 271; refine (C3.o _).mono ?_; rintro x w' ⟨rfl, rfl⟩))
      go_ret2
      exact ⟨HB5.o, ret_two (by omega) (by omega)⟩
    · have t2 : ¬ (dmin : Int) < (dmax : Int) := by omega
      rw [if_neg k2]
      clear k2
      go_enter Tryz.func257, Tryz.ntmps257
      go_wp2_with (go_at_call 264; refine (HL.o _).mono ?_; rintro x w' ⟨rfl, rfl⟩)
      refine (HLP.o _).mono ?_; rintro x w' ⟨rfl, rfl⟩
      obtain ⟨g, hgg⟩ : ∃ g, g = w'.heap.size := ⟨_, rfl⟩
      have HW2 := hd (pre_world g i e lq w' HT.o hi hgg he0 he1 hlq0 hlq1 s HS.o)
      rw [← hgg]
      clear hgg
      go_wp2_with fail
      refine HW2.o.mono ?_; rintro x w2 ⟨rfl, d0, d1, d2, hbb⟩
      have HB2 := hd hbb
      have HD := hd (And.intro d0 (And.intro d1 d2))
      clear hbb d0 d1 d2
      go_wp2_with fail
      refine (HU.o mn umin hmn hmn0 H1.o g w2 HD.o.1 HD.o.2.1 HD.o.2.2 _ (Below.refl _ _)).mono ?_; rintro x w3 ⟨rfl, hb3⟩; have HB3 := hd hb3; clear hb3
      go_wp2_with (go_at_call 268; refine (N1.o _).mono ?_; rintro x w' ⟨rfl, rfl⟩)
      refine (C1.o _).mono ?_; rintro x w' ⟨rfl, rfl⟩
      go_wp2_with fail
      refine (HU.o mx umax hmx hmx0 H2.o g w2 HD.o.1 HD.o.2.1 HD.o.2.2 _ HB3.o).mono ?_; rintro x w4 ⟨rfl, hb4⟩; have HB4 := hd (bel HB2.o (bel HB3.o hb4)); have HB34 := hd (bel HB3.o hb4); clear hb4
      go_wp2_with fail
      refine (N2.o _).mono ?_; rintro x w' ⟨rfl, rfl⟩
      go_wp2_with fail
      refine (C2.o _).mono ?_; rintro x w' ⟨rfl, rfl⟩
      go_wp2_with (first
        | (go_at_call 267; refine (HU.o M um hM (by omega) H3.o g w2 HD.o.1 HD.o.2.1 HD.o.2.2 _ HB34.o).mono ?_; rintro x w5 ⟨rfl, hb5⟩; have HB5 := hd (bel HB4.o hb5); clear hb5)
        | (go_at_call 271; refine (C3.o _).mono ?_; rintro x w' ⟨rfl, rfl⟩))
      go_ret2
      exact ⟨HB4.o, ret_two (by omega) (by omega)⟩
set_option maxHeartbeats 4000000 in
set_option maxRecDepth 100000 in
theorem shortC1 (M mn mx umin umax um od i s : Nat) (e lq : Int) (w : World) (hT : Tbl w) (hk : ((M : Int) == 9223372036854775808) = false) (z : Nat) (hE : e < -1085) (hz1 : 12 ≤ z) (hz2 : z ≤ 63) (hz : 11 + (-1085 - e) = (z : Int)) (hkk : decide (-1085 < e) = false) (hl : FS.l10 (e + z) = 348 - (i : Int)) (hmn1 : IntKind.u64.wrap ((M : Int) - IntKind.u64.wrap (2 ^ (z - 1))) = mn) (hmx1 : IntKind.u64.wrap ((M : Int) + IntKind.u64.wrap (2 ^ (z - 1))) = mx) (hod1 : bits .and .i64 (wrap64 ((M : Int) / 2 ^ z)) 1 = (od : Int)) 
    (hM : M < 18446744073709551616) (hM0 : 9223372036854775808 ≤ M) (hi : i < 696) (he0 : -2000 ≤ e) (he1 : e ≤ 1000)
    (hlq : FS.lp ((i : Int) - 348) = lq) (hlq0 : -2000 ≤ lq) (hlq1 : lq ≤ 2000) (hs : -(e + lq + 3) = (s : Int)) (hs63 : s ≤ 63) (hod : od ≤ 1)
    (hmn : mn < 18446744073709551616) (hmn0 : 4611686018427387904 ≤ mn) (hmx : mx < 18446744073709551616) (hmx0 : 4611686018427387904 ≤ mx)
    (h1 : FS.cut mn (FS.hiOf ((i : Int) - 348)) (FS.loOf ((i : Int) - 348)) s = umin) (h2 : FS.cut mx (FS.hiOf ((i : Int) - 348)) (FS.loOf ((i : Int) - 348)) s = umax) (h3 : FS.cut M (FS.hiOf ((i : Int) - 348)) (FS.loOf ((i : Int) - 348)) s = um)
    (b1 : umin ≤ 576460752303423489) (b2 : umax ≤ 576460752303423489) (b3 : um ≤ 576460752303423489) (b4 : 4 ≤ umax) :
    Calls Tryz.prog 257 #[.int .u64 M, .int .i64 e] w fun x w' => Below w.heap.size w w' ∧
      x = .returned (.tuple #[.int .u64 (FS.fineD ((umin + od + 3) / 4) ((umax - od) / 4) ((um + 1 + um / 4 % 2) / 4) : Nat), .int .i64 ((FS.fineT ((umin + od + 3) / 4) ((umax - od) / 4) (748 - i) : Nat) - 400 : Int)]) := by
  have HT := hd hT
  have HLT := hd hT.lt
  have HLP := hd (fun W => by have h := lp_any ((i : Int) - 348) (by omega) (by omega) W; rw [hlq] at h; exact h)
  have HPR := hd (fun W (hb : Below w.heap.size w W) => prescale_any w.heap.size i e lq (W.alloc (.cells #[.int .u64 0, .int .u64 0, .int .i64 0] 298)) ((hT.below hb).below ((Below.refl _ _).alloc (Nat.le_refl _) _)) hi hT.lt)
  have HU := hd (fun (x u : Nat) (hx : x < 18446744073709551616) (hx0 : 4611686018427387904 ≤ x) (hu : FS.cut x (FS.hiOf ((i : Int) - 348)) (FS.loOf ((i : Int) - 348)) s = u) g w2 h0 h1 h2 W hW => us_any x u i s g w2 W hi hx hx0 hs63 hu h0 h1 h2 hW)
  have H1 := hd h1
  have H2 := hd h2
  have H3 := hd h3
  have HS := hd hs
  clear hT hlq h1 h2 h3 hs HPR
  have N1 := hd (fun W => nudge1 umin od (by omega) hod W)
  have N2 := hd (fun W => nudge2 umax od (by omega) hod (by omega) W)
  have C1 := hd (fun W => ceil_any (umin + od) (by omega) W)
  have C2 := hd (fun W => floor_any (umax - od) (by omega) W)
  have C3 := hd (fun W => round_any um (by omega) W)
  have hb1 : (umin + od + 3) / 4 ≤ 144115188075855875 := by omega
  have hb2 : (umax - od) / 4 ≤ 144115188075855875 := by omega
  clear b1 b2 b3 b4
  generalize (umin + od + 3) / 4 = dmin at *
  generalize (umax - od) / 4 = dmax at *
  generalize (um + 1 + um / 4 % 2) / 4 = dr at *
  generalize umin + od = n1 at *
  generalize umax - od = n2 at *
  have HL := hd (fun W => by have h := l10_any (e + z) (by omega) (by omega) W; rw [hl] at h; exact h)
  clear hl
  have hneg : -(348 - (i : Int)) = (i : Int) - 348 := by omega
  have hq : (dmax : Int) / 10 = ((dmax / 10 : Nat) : Int) := by omega
  have hq2 : dmax / 10 ≤ 144115188075855875 := by omega
  have gD : FS.fineD dmin dmax dr = (if dmin ≤ dmax / 10 * 10 then dmax / 10 else if dmin < dmax then dr else dmin) := rfl
  have gT : FS.fineT dmin dmax (748 - i) = (if dmin ≤ dmax / 10 * 10 then 748 - i + 1 else 748 - i) := rfl
  rw [gD, gT]
  clear gD gT
  by_cases k1 : dmin ≤ dmax / 10 * 10
  · have t1 : (dmin : Int) ≤ ((dmax / 10 : Nat) : Int) * 10 := by omega
    rw [if_pos k1, if_pos k1]
    clear k1
    generalize dmax / 10 = dd at *
    go_enter Tryz.func257, Tryz.ntmps257
    go_wp2_with (go_at_call 228; refine (HL.o _).mono ?_; rintro x w' ⟨rfl, rfl⟩)
    refine (HLP.o _).mono ?_; rintro x w' ⟨rfl, rfl⟩
    obtain ⟨g, hgg⟩ : ∃ g, g = w'.heap.size := ⟨_, rfl⟩
    have HW2 := hd (pre_world g i e lq w' HT.o hi hgg he0 he1 hlq0 hlq1 s HS.o)
    rw [← hgg]
    clear hgg
    go_wp2_with fail
    refine HW2.o.mono ?_; rintro x w2 ⟨rfl, d0, d1, d2, hbb⟩
    have HB2 := hd hbb
    have HD := hd (And.intro d0 (And.intro d1 d2))
    clear hbb d0 d1 d2
    go_wp2_with fail
    refine (HU.o mn umin hmn hmn0 H1.o g w2 HD.o.1 HD.o.2.1 HD.o.2.2 _ (Below.refl _ _)).mono ?_; rintro x w3 ⟨rfl, hb3⟩; have HB3 := hd hb3; clear hb3
    go_wp2_with (go_at_call 268; refine (N1.o _).mono ?_; rintro x w' ⟨rfl, rfl⟩)
    refine (C1.o _).mono ?_; rintro x w' ⟨rfl, rfl⟩
    go_wp2_with fail
    refine (HU.o mx umax hmx hmx0 H2.o g w2 HD.o.1 HD.o.2.1 HD.o.2.2 _ HB3.o).mono ?_; rintro x w4 ⟨rfl, hb4⟩; have HB4 := hd (bel HB2.o (bel HB3.o hb4)); have HB34 := hd (bel HB3.o hb4); clear hb4
    go_wp2_with fail
    refine (N2.o _).mono ?_; rintro x w' ⟨rfl, rfl⟩
    go_wp2_with fail
    refine (C2.o _).mono ?_; rintro x w' ⟨rfl, rfl⟩
    go_wp2_with (first
      | (go_at_call 267; refine (HU.o M um hM (by omega) H3.o g w2 HD.o.1 HD.o.2.1 HD.o.2.2 _ HB34.o).mono ?_; rintro x w5 ⟨rfl, hb5⟩; have HB5 := hd (bel HB4.o hb5); clear hb5)
      | (go_at_call 271; refine (C3.o _).mono ?_; rintro x w' ⟨rfl, rfl⟩))
    go_ret2
    exact ⟨HB4.o, ret_two (by omega) (by omega)⟩
  · have t1 : ¬ (dmin : Int) ≤ ((dmax / 10 : Nat) : Int) * 10 := by omega
    rw [if_neg k1, if_neg k1]
    clear k1
    generalize dmax / 10 = dd at *
    by_cases k2 : dmin < dmax
    · have t2 : (dmin : Int) < (dmax : Int) := by omega
      rw [if_pos k2]
      clear k2
      go_enter Tryz.func257, Tryz.ntmps257
      go_wp2_with (go_at_call 228; refine (HL.o _).mono ?_; rintro x w' ⟨rfl, rfl⟩)
      refine (HLP.o _).mono ?_; rintro x w' ⟨rfl, rfl⟩
      obtain ⟨g, hgg⟩ : ∃ g, g = w'.heap.size := ⟨_, rfl⟩
      have HW2 := hd (pre_world g i e lq w' HT.o hi hgg he0 he1 hlq0 hlq1 s HS.o)
      rw [← hgg]
      clear hgg
      go_wp2_with fail
      refine HW2.o.mono ?_; rintro x w2 ⟨rfl, d0, d1, d2, hbb⟩
      have HB2 := hd hbb
      have HD := hd (And.intro d0 (And.intro d1 d2))
      clear hbb d0 d1 d2
      go_wp2_with fail
      refine (HU.o mn umin hmn hmn0 H1.o g w2 HD.o.1 HD.o.2.1 HD.o.2.2 _ (Below.refl _ _)).mono ?_; rintro x w3 ⟨rfl, hb3⟩; have HB3 := hd hb3; clear hb3
      go_wp2_with (go_at_call 268; refine (N1.o _).mono ?_; rintro x w' ⟨rfl, rfl⟩)
      refine (C1.o _).mono ?_; rintro x w' ⟨rfl, rfl⟩
      go_wp2_with fail
      refine (HU.o mx umax hmx hmx0 H2.o g w2 HD.o.1 HD.o.2.1 HD.o.2.2 _ HB3.o).mono ?_; rintro x w4 ⟨rfl, hb4⟩; have HB4 := hd (bel HB2.o (bel HB3.o hb4)); have HB34 := hd (bel HB3.o hb4); clear hb4
      go_wp2_with fail
      refine (N2.o _).mono ?_; rintro x w' ⟨rfl, rfl⟩
      go_wp2_with fail
      refine (C2.o _).mono ?_; rintro x w' ⟨rfl, rfl⟩
      go_wp2_with (first
        | (go_at_call 267; refine (HU.o M um hM (by omega) H3.o g w2 HD.o.1 HD.o.2.1 HD.o.2.2 _ HB34.o).mono ?_; rintro x w5 ⟨rfl, hb5⟩; have HB5 := hd (bel HB4.o hb5); clear hb5)
        | (go_at_call 271; refine (C3.o _).mono ?_; rintro x w' ⟨rfl, rfl⟩))
      go_ret2
      exact ⟨HB5.o, ret_two (by omega) (by omega)⟩
    · have t2 : ¬ (dmin : Int) < (dmax : Int) := by omega
      rw [if_neg k2]
      clear k2
      go_enter Tryz.func257, Tryz.ntmps257
      go_wp2_with (go_at_call 228; refine (HL.o _).mono ?_; rintro x w' ⟨rfl, rfl⟩)
      refine (HLP.o _).mono ?_; rintro x w' ⟨rfl, rfl⟩
      obtain ⟨g, hgg⟩ : ∃ g, g = w'.heap.size := ⟨_, rfl⟩
      have HW2 := hd (pre_world g i e lq w' HT.o hi hgg he0 he1 hlq0 hlq1 s HS.o)
      rw [← hgg]
      clear hgg
      go_wp2_with fail
      refine HW2.o.mono ?_; rintro x w2 ⟨rfl, d0, d1, d2, hbb⟩
      have HB2 := hd hbb
      have HD := hd (And.intro d0 (And.intro d1 d2))
      clear hbb d0 d1 d2
      go_wp2_with fail
      refine (HU.o mn umin hmn hmn0 H1.o g w2 HD.o.1 HD.o.2.1 HD.o.2.2 _ (Below.refl _ _)).mono ?_; rintro x w3 ⟨rfl, hb3⟩; have HB3 := hd hb3; clear hb3
      go_wp2_with (go_at_call 268; refine (N1.o _).mono ?_; rintro x w' ⟨rfl, rfl⟩)
      refine (C1.o _).mono ?_; rintro x w' ⟨rfl, rfl⟩
      go_wp2_with fail
      refine (HU.o mx umax hmx hmx0 H2.o g w2 HD.o.1 HD.o.2.1 HD.o.2.2 _ HB3.o).mono ?_; rintro x w4 ⟨rfl, hb4⟩; have HB4 := hd (bel HB2.o (bel HB3.o hb4)); have HB34 := hd (bel HB3.o hb4); clear hb4
      go_wp2_with fail
      refine (N2.o _).mono ?_; rintro x w' ⟨rfl, rfl⟩
      go_wp2_with fail
      refine (C2.o _).mono ?_; rintro x w' ⟨rfl, rfl⟩
      go_wp2_with (first
        | (go_at_call 267; refine (HU.o M um hM (by omega) H3.o g w2 HD.o.1 HD.o.2.1 HD.o.2.2 _ HB34.o).mono ?_; rintro x w5 ⟨rfl, hb5⟩; have HB5 := hd (bel HB4.o hb5); clear hb5)
        | (go_at_call 271; refine (C3.o _).mono ?_; rintro x w' ⟨rfl, rfl⟩))
      go_ret2
      exact ⟨HB4.o, ret_two (by omega) (by omega)⟩
set_option maxHeartbeats 4000000 in
set_option maxRecDepth 100000 in
theorem shortC2 (M mn mx umin umax um od i s : Nat) (e lq : Int) (w : World) (hT : Tbl w) (hk : ((M : Int) == 9223372036854775808) = true) (z : Nat) (hE : e < -1085) (hz1 : 12 ≤ z) (hz2 : z ≤ 63) (hz : 11 + (-1085 - e) = (z : Int)) (hkk : decide (-1085 < e) = false) (hl : FS.l10 (e + z) = 348 - (i : Int)) (hmn1 : IntKind.u64.wrap ((M : Int) - IntKind.u64.wrap (2 ^ (z - 1))) = mn) (hmx1 : IntKind.u64.wrap ((M : Int) + IntKind.u64.wrap (2 ^ (z - 1))) = mx) (hod1 : bits .and .i64 (wrap64 ((M : Int) / 2 ^ z)) 1 = (od : Int)) 
    (hM : M < 18446744073709551616) (hM0 : 9223372036854775808 ≤ M) (hi : i < 696) (he0 : -2000 ≤ e) (he1 : e ≤ 1000)
    (hlq : FS.lp ((i : Int) - 348) = lq) (hlq0 : -2000 ≤ lq) (hlq1 : lq ≤ 2000) (hs : -(e + lq + 3) = (s : Int)) (hs63 : s ≤ 63) (hod : od ≤ 1)
    (hmn : mn < 18446744073709551616) (hmn0 : 4611686018427387904 ≤ mn) (hmx : mx < 18446744073709551616) (hmx0 : 4611686018427387904 ≤ mx)
    (h1 : FS.cut mn (FS.hiOf ((i : Int) - 348)) (FS.loOf ((i : Int) - 348)) s = umin) (h2 : FS.cut mx (FS.hiOf ((i : Int) - 348)) (FS.loOf ((i : Int) - 348)) s = umax) (h3 : FS.cut M (FS.hiOf ((i : Int) - 348)) (FS.loOf ((i : Int) - 348)) s = um)
    (b1 : umin ≤ 576460752303423489) (b2 : umax ≤ 576460752303423489) (b3 : um ≤ 576460752303423489) (b4 : 4 ≤ umax) :
    Calls Tryz.prog 257 #[.int .u64 M, .int .i64 e] w fun x w' => Below w.heap.size w w' ∧
      x = .returned (.tuple #[.int .u64 (FS.fineD ((umin + od + 3) / 4) ((umax - od) / 4) ((um + 1 + um / 4 % 2) / 4) : Nat), .int .i64 ((FS.fineT ((umin + od + 3) / 4) ((umax - od) / 4) (748 - i) : Nat) - 400 : Int)]) := by
  have HT := hd hT
  have HLT := hd hT.lt
  have HLP := hd (fun W => by have h := lp_any ((i : Int) - 348) (by omega) (by omega) W; rw [hlq] at h; exact h)
  have HPR := hd (fun W (hb : Below w.heap.size w W) => prescale_any w.heap.size i e lq (W.alloc (.cells #[.int .u64 0, .int .u64 0, .int .i64 0] 298)) ((hT.below hb).below ((Below.refl _ _).alloc (Nat.le_refl _) _)) hi hT.lt)
  have HU := hd (fun (x u : Nat) (hx : x < 18446744073709551616) (hx0 : 4611686018427387904 ≤ x) (hu : FS.cut x (FS.hiOf ((i : Int) - 348)) (FS.loOf ((i : Int) - 348)) s = u) g w2 h0 h1 h2 W hW => us_any x u i s g w2 W hi hx hx0 hs63 hu h0 h1 h2 hW)
  have H1 := hd h1
  have H2 := hd h2
  have H3 := hd h3
  have HS := hd hs
  clear hT hlq h1 h2 h3 hs HPR
  have N1 := hd (fun W => nudge1 umin od (by omega) hod W)
  have N2 := hd (fun W => nudge2 umax od (by omega) hod (by omega) W)
  have C1 := hd (fun W => ceil_any (umin + od) (by omega) W)
  have C2 := hd (fun W => floor_any (umax - od) (by omega) W)
  have C3 := hd (fun W => round_any um (by omega) W)
  have hb1 : (umin + od + 3) / 4 ≤ 144115188075855875 := by omega
  have hb2 : (umax - od) / 4 ≤ 144115188075855875 := by omega
  clear b1 b2 b3 b4
  generalize (umin + od + 3) / 4 = dmin at *
  generalize (umax - od) / 4 = dmax at *
  generalize (um + 1 + um / 4 % 2) / 4 = dr at *
  generalize umin + od = n1 at *
  generalize umax - od = n2 at *
  have HL := hd (fun W => by have h := l10_any (e + z) (by omega) (by omega) W; rw [hl] at h; exact h)
  clear hl
  have hneg : -(348 - (i : Int)) = (i : Int) - 348 := by omega
  have hq : (dmax : Int) / 10 = ((dmax / 10 : Nat) : Int) := by omega
  have hq2 : dmax / 10 ≤ 144115188075855875 := by omega
  have gD : FS.fineD dmin dmax dr = (if dmin ≤ dmax / 10 * 10 then dmax / 10 else if dmin < dmax then dr else dmin) := rfl
  have gT : FS.fineT dmin dmax (748 - i) = (if dmin ≤ dmax / 10 * 10 then 748 - i + 1 else 748 - i) := rfl
  rw [gD, gT]
  clear gD gT
  by_cases k1 : dmin ≤ dmax / 10 * 10
  · have t1 : (dmin : Int) ≤ ((dmax / 10 : Nat) : Int) * 10 := by omega
    rw [if_pos k1, if_pos k1]
    clear k1
    generalize dmax / 10 = dd at *
    go_enter Tryz.func257, Tryz.ntmps257
    go_wp2_with (go_at_call 228; refine (HL.o _).mono ?_; rintro x w' ⟨rfl, rfl⟩)
    refine (HLP.o _).mono ?_; rintro x w' ⟨rfl, rfl⟩
    obtain ⟨g, hgg⟩ : ∃ g, g = w'.heap.size := ⟨_, rfl⟩
    have HW2 := hd (pre_world g i e lq w' HT.o hi hgg he0 he1 hlq0 hlq1 s HS.o)
    rw [← hgg]
    clear hgg
    go_wp2_with fail
    refine HW2.o.mono ?_; rintro x w2 ⟨rfl, d0, d1, d2, hbb⟩
    have HB2 := hd hbb
    have HD := hd (And.intro d0 (And.intro d1 d2))
    clear hbb d0 d1 d2
    go_wp2_with fail
    refine (HU.o mn umin hmn hmn0 H1.o g w2 HD.o.1 HD.o.2.1 HD.o.2.2 _ (Below.refl _ _)).mono ?_; rintro x w3 ⟨rfl, hb3⟩; have HB3 := hd hb3; clear hb3
    go_wp2_with (go_at_call 268; refine (N1.o _).mono ?_; rintro x w' ⟨rfl, rfl⟩)
    refine (C1.o _).mono ?_; rintro x w' ⟨rfl, rfl⟩
    go_wp2_with fail
    refine (HU.o mx umax hmx hmx0 H2.o g w2 HD.o.1 HD.o.2.1 HD.o.2.2 _ HB3.o).mono ?_; rintro x w4 ⟨rfl, hb4⟩; have HB4 := hd (bel HB2.o (bel HB3.o hb4)); have HB34 := hd (bel HB3.o hb4); clear hb4
    go_wp2_with fail
    refine (N2.o _).mono ?_; rintro x w' ⟨rfl, rfl⟩
    go_wp2_with fail
    refine (C2.o _).mono ?_; rintro x w' ⟨rfl, rfl⟩
    go_wp2_with (first
      | (go_at_call 267; refine (HU.o M um hM (by omega) H3.o g w2 HD.o.1 HD.o.2.1 HD.o.2.2 _ HB34.o).mono ?_; rintro x w5 ⟨rfl, hb5⟩; have HB5 := hd (bel HB4.o hb5); clear hb5)
      | (go_at_call 271; refine (C3.o _).mono ?_; rintro x w' ⟨rfl, rfl⟩))
    go_ret2
    exact ⟨HB4.o, ret_two (by omega) (by omega)⟩
  · have t1 : ¬ (dmin : Int) ≤ ((dmax / 10 : Nat) : Int) * 10 := by omega
    rw [if_neg k1, if_neg k1]
    clear k1
    generalize dmax / 10 = dd at *
    by_cases k2 : dmin < dmax
    · have t2 : (dmin : Int) < (dmax : Int) := by omega
      rw [if_pos k2]
      clear k2
      go_enter Tryz.func257, Tryz.ntmps257
      go_wp2_with (go_at_call 228; refine (HL.o _).mono ?_; rintro x w' ⟨rfl, rfl⟩)
      refine (HLP.o _).mono ?_; rintro x w' ⟨rfl, rfl⟩
      obtain ⟨g, hgg⟩ : ∃ g, g = w'.heap.size := ⟨_, rfl⟩
      have HW2 := hd (pre_world g i e lq w' HT.o hi hgg he0 he1 hlq0 hlq1 s HS.o)
      rw [← hgg]
      clear hgg
      go_wp2_with fail
      refine HW2.o.mono ?_; rintro x w2 ⟨rfl, d0, d1, d2, hbb⟩
      have HB2 := hd hbb
      have HD := hd (And.intro d0 (And.intro d1 d2))
      clear hbb d0 d1 d2
      go_wp2_with fail
      refine (HU.o mn umin hmn hmn0 H1.o g w2 HD.o.1 HD.o.2.1 HD.o.2.2 _ (Below.refl _ _)).mono ?_; rintro x w3 ⟨rfl, hb3⟩; have HB3 := hd hb3; clear hb3
      go_wp2_with (go_at_call 268; refine (N1.o _).mono ?_; rintro x w' ⟨rfl, rfl⟩)
      refine (C1.o _).mono ?_; rintro x w' ⟨rfl, rfl⟩
      go_wp2_with fail
      refine (HU.o mx umax hmx hmx0 H2.o g w2 HD.o.1 HD.o.2.1 HD.o.2.2 _ HB3.o).mono ?_; rintro x w4 ⟨rfl, hb4⟩; have HB4 := hd (bel HB2.o (bel HB3.o hb4)); have HB34 := hd (bel HB3.o hb4); clear hb4
      go_wp2_with fail
      refine (N2.o _).mono ?_; rintro x w' ⟨rfl, rfl⟩
      go_wp2_with fail
      refine (C2.o _).mono ?_; rintro x w' ⟨rfl, rfl⟩
      go_wp2_with (first
        | (go_at_call 267; refine (HU.o M um hM (by omega) H3.o g w2 HD.o.1 HD.o.2.1 HD.o.2.2 _ HB34.o).mono ?_; rintro x w5 ⟨rfl, hb5⟩; have HB5 := hd (bel HB4.o hb5); clear hb5)
        | (go_at_call 271; refine (C3.o _).mono ?_; rintro x w' ⟨rfl, rfl⟩))
      go_ret2
      exact ⟨HB5.o, ret_two (by omega) (by omega)⟩
    · have t2 : ¬ (dmin : Int) < (dmax : Int) := by omega
      rw [if_neg k2]
      clear k2
      go_enter Tryz.func257, Tryz.ntmps257
      go_wp2_with (go_at_call 228; refine (HL.o _).mono ?_; rintro x w' ⟨rfl, rfl⟩)
      refine (HLP.o _).mono ?_; rintro x w' ⟨rfl, rfl⟩
      obtain ⟨g, hgg⟩ : ∃ g, g = w'.heap.size := ⟨_, rfl⟩
      have HW2 := hd (pre_world g i e lq w' HT.o hi hgg he0 he1 hlq0 hlq1 s HS.o)
      rw [← hgg]
      clear hgg
      go_wp2_with fail
      refine HW2.o.mono ?_; rintro x w2 ⟨rfl, d0, d1, d2, hbb⟩
      have HB2 := hd hbb
      have HD := hd (And.intro d0 (And.intro d1 d2))
      clear hbb d0 d1 d2
      go_wp2_with fail
      refine (HU.o mn umin hmn hmn0 H1.o g w2 HD.o.1 HD.o.2.1 HD.o.2.2 _ (Below.refl _ _)).mono ?_; rintro x w3 ⟨rfl, hb3⟩; have HB3 := hd hb3; clear hb3
      go_wp2_with (go_at_call 268; refine (N1.o _).mono ?_; rintro x w' ⟨rfl, rfl⟩)
      refine (C1.o _).mono ?_; rintro x w' ⟨rfl, rfl⟩
      go_wp2_with fail
      refine (HU.o mx umax hmx hmx0 H2.o g w2 HD.o.1 HD.o.2.1 HD.o.2.2 _ HB3.o).mono ?_; rintro x w4 ⟨rfl, hb4⟩; have HB4 := hd (bel HB2.o (bel HB3.o hb4)); have HB34 := hd (bel HB3.o hb4); clear hb4
      go_wp2_with fail
      refine (N2.o _).mono ?_; rintro x w' ⟨rfl, rfl⟩
      go_wp2_with fail
      refine (C2.o _).mono ?_; rintro x w' ⟨rfl, rfl⟩
      go_wp2_with (first
        | (go_at_call 267; refine (HU.o M um hM (by omega) H3.o g w2 HD.o.1 HD.o.2.1 HD.o.2.2 _ HB34.o).mono ?_; rintro x w5 ⟨rfl, hb5⟩; have HB5 := hd (bel HB4.o hb5); clear hb5)
        | (go_at_call 271; refine (C3.o _).mono ?_; rintro x w' ⟨rfl, rfl⟩))
      go_ret2
      exact ⟨HB4.o, ret_two (by omega) (by omega)⟩
end Go.Proofs.YteckfdohgiddgaaGreatDoor
namespace Go.Proofs.YteckfdohgiddgaaGreatDoor
open Go.RowKit
set_option linter.unusedVariables false
set_option linter.unusedSimpArgs false
theorem and1_i64 (n : Nat) (h : n < 9223372036854775808) : bits .and .i64 (n : Int) 1 = ((n % 2 : Nat) : Int) := by
  have h1 : (BitVec.ofInt 64 (n : Int)).toNat = n := ofInt_u64 n (by omega)
  have h2 : (BitVec.ofInt 64 (1 : Int)).toNat = 1 := by decide
  show IntKind.i64.wrap ((BitVec.ofInt 64 (n : Int) &&& BitVec.ofInt 64 (1 : Int)).toNat : Int) = _
  rw [BitVec.toNat_and, h1, h2, nat_mask1, IntKind.wrap_i64]
  omega
set_option maxHeartbeats 1000000 in
theorem short_any {e0 : Int} {m z : Nat} {sk : Bool} (F : FS.Flt e0 m z sk) (hz : z = 11 ∨ e0 = -1074) (hsk : sk = true ↔ m * 2 ^ z = 9223372036854775808 ∧ z = 11 ∧ e0 ≠ -1074) (w : World) (hT : Tbl w) :
    Calls Tryz.prog 257 #[.int .u64 (m * 2 ^ z : Nat), .int .i64 (e0 - z)] w fun x w' => Below w.heap.size w w' ∧
      ∃ a b r : Nat, FS.Fine (m % 2 == 0) (FS.Lo e0 m z sk) (FS.Hi e0 m z) (FS.Va e0 m z) (400 - FS.pOf e0 sk).toNat a b r ∧ b ≤ 144115188075855875 ∧ 53 ≤ (400 - FS.pOf e0 sk).toNat ∧ (400 - FS.pOf e0 sk).toNat ≤ 748 ∧
        x = .returned (.tuple #[.int .u64 (FS.fineD a b r : Nat), .int .i64 ((FS.fineT a b (400 - FS.pOf e0 sk).toNat : Nat) - 400 : Int)]) := by
  have fine := FS.fine_of F
  have FF := F
  obtain ⟨m0, he1, he2, hz1, hz2, hlo, hhi, hk⟩ := F
  have fc := FS.facts he1 he2
  have hP : -348 ≤ FS.pOf e0 sk ∧ FS.pOf e0 sk ≤ 347 ∧ 0 ≤ FS.lp (FS.pOf e0 sk) + e0 ∧ FS.lp (FS.pOf e0 sk) + e0 ≤ 3 := by
    unfold FS.pOf; cases sk
    · exact ⟨fc.p1, fc.p2, fc.p3, fc.p4⟩
    · exact ⟨fc.q1, fc.q2, fc.q3, fc.q4⟩
  obtain ⟨P1, P2, P3, P4⟩ := hP
  obtain ⟨i, hi⟩ : ∃ i : Nat, (i : Int) - 348 = FS.pOf e0 sk := ⟨(FS.pOf e0 sk + 348).toNat, by omega⟩
  have hi2 : i < 696 := by omega
  have hs : ((FS.sh e0 (FS.pOf e0 sk) z : Nat) : Int) = -(e0 - z + FS.lp (FS.pOf e0 sk) + 3) := by unfold FS.sh; omega
  have hs5 : 5 ≤ FS.sh e0 (FS.pOf e0 sk) z := by omega
  have hs63 : FS.sh e0 (FS.pOf e0 sk) z ≤ 63 := by omega
  obtain ⟨t1, t2, t3, t4⟩ := FS.two_z hz1
  have hpow : 2 ^ z ≤ 2 ^ 63 := Nat.pow_le_pow_right (by decide) hz2
  have hd64 : 2 ^ 64 = 2 ^ (64 - z) * 2 ^ z := by rw [← Nat.pow_add]; congr 1; omega
  have hm64 : (m + 1) * 2 ^ z ≤ 2 ^ 64 := by
    have : m < 2 ^ (64 - z) := by
      apply Nat.lt_of_mul_lt_mul_right (a := 2 ^ z)
      rw [← hd64]; exact hhi
    rw [hd64]; exact Nat.mul_le_mul_right _ this
  rw [Nat.add_mul, Nat.one_mul] at hm64
  have hhalf : FS.half z sk ≤ 2 ^ (z - 1) := by unfold FS.half; cases sk <;> simp <;> omega
  have hm1 : FS.mid m z = m * 2 ^ z := rfl
  simp only [Nat.reducePow] at hlo hhi hpow hm64
  have hx1 : FS.mid m z - FS.half z sk < 18446744073709551616 ∧ 4611686018427387904 ≤ FS.mid m z - FS.half z sk := by rw [hm1]; omega
  have hx2 : FS.mid m z + 2 ^ (z - 1) < 18446744073709551616 ∧ 4611686018427387904 ≤ FS.mid m z + 2 ^ (z - 1) := by rw [hm1]; omega
  have hhi64 : FS.hiOf (FS.pOf e0 sk) < 18446744073709551616 := FS.hi_lt P1 P2
  have c1 : FS.cutOf e0 z sk (FS.mid m z - FS.half z sk) ≤ 576460752303423489 := cut_le hx1.1 hhi64 hs5
  have c2 : FS.cutOf e0 z sk (FS.mid m z + 2 ^ (z - 1)) ≤ 576460752303423489 := cut_le hx2.1 hhi64 hs5
  have c3 : FS.cutOf e0 z sk (FS.mid m z) ≤ 576460752303423489 := cut_le hhi hhi64 hs5
  have c4 : 4 ≤ FS.cutOf e0 z sk (FS.mid m z + 2 ^ (z - 1)) := by
    have h1 := fine.a0
    have h2 := fine.ab
    unfold FS.dmaxOf at h2
    omega
  have hod : m % 2 ≤ 1 := by omega
  have hm63 : m < 9223372036854775808 := by
    have : m * 2 ≤ m * 2 ^ z := Nat.mul_le_mul_left _ (by rw [t1]; have := Nat.two_pow_pos (z - 1); omega)
    omega
  have done : ∀ {x : Ending} {w' : World}, Below w.heap.size w w' ∧ x = .returned (.tuple #[.int .u64 (FS.fineD ((FS.cutOf e0 z sk (FS.mid m z - FS.half z sk) + m % 2 + 3) / 4) ((FS.cutOf e0 z sk (FS.mid m z + 2 ^ (z - 1)) - m % 2) / 4) ((FS.cutOf e0 z sk (FS.mid m z) + 1 + FS.cutOf e0 z sk (FS.mid m z) / 4 % 2) / 4) : Nat), .int .i64 ((FS.fineT ((FS.cutOf e0 z sk (FS.mid m z - FS.half z sk) + m % 2 + 3) / 4) ((FS.cutOf e0 z sk (FS.mid m z + 2 ^ (z - 1)) - m % 2) / 4) (748 - i) : Nat) - 400 : Int)]) →
      Below w.heap.size w w' ∧ ∃ a b r : Nat, FS.Fine (m % 2 == 0) (FS.Lo e0 m z sk) (FS.Hi e0 m z) (FS.Va e0 m z) (400 - FS.pOf e0 sk).toNat a b r ∧ b ≤ 144115188075855875 ∧ 53 ≤ (400 - FS.pOf e0 sk).toNat ∧ (400 - FS.pOf e0 sk).toNat ≤ 748 ∧
        x = .returned (.tuple #[.int .u64 (FS.fineD a b r : Nat), .int .i64 ((FS.fineT a b (400 - FS.pOf e0 sk).toNat : Nat) - 400 : Int)]) := fun {x w'} ⟨h1, h2⟩ => by
    refine ⟨h1, _, _, _, fine, by unfold FS.dmaxOf; omega, by omega, by omega, ?_⟩
    rw [h2, show 748 - i = (400 - FS.pOf e0 sk).toNat by omega]
    rfl
  have hcut : ∀ x, FS.cut x (FS.hiOf ((i : Int) - 348)) (FS.loOf ((i : Int) - 348)) (FS.sh e0 (FS.pOf e0 sk) z) = FS.cutOf e0 z sk x := fun x => by rw [hi]; rfl
  have hlq0 : -2000 ≤ FS.lp (FS.pOf e0 sk) ∧ FS.lp (FS.pOf e0 sk) ≤ 2000 := by omega
  have hMi : ((m * 2 ^ z : Nat) : Int) - FS.half z sk = ((FS.mid m z - FS.half z sk : Nat) : Int) := by rw [hm1]; omega
  have hMx : ((m * 2 ^ z : Nat) : Int) + (2 ^ (z - 1) : Nat) = ((FS.mid m z + 2 ^ (z - 1) : Nat) : Int) := by rw [hm1]; omega
  by_cases hz11 : z = 11
  · subst hz11
    have hod1 : bits .and .i64 (((m * 2 ^ 11 : Nat) : Int) / 2048) 1 = ((m % 2 : Nat) : Int) := by
      rw [show ((m * 2 ^ 11 : Nat) : Int) / 2048 = (m : Int) by simp only [Nat.reducePow]; omega]; exact and1_i64 m hm63
    have he11 : e0 - ((11 : Nat) : Int) + 11 = e0 := by omega
    cases sk with
    | true =>
      obtain ⟨s1, _, s2⟩ := hsk.1 rfl
      have hl : FS.skw (e0 - ((11 : Nat) : Int) + 11) = 348 - (i : Int) := by rw [he11]; have : FS.pOf e0 true = - FS.skw e0 := rfl; omega
      exact (shortA (m * 2 ^ 11) (FS.mid m 11 - FS.half 11 true) (FS.mid m 11 + 2 ^ (11 - 1)) _ _ _ (m % 2) i (FS.sh e0 (FS.pOf e0 true) 11) (e0 - ((11 : Nat) : Int)) (FS.lp (FS.pOf e0 true)) w hT (by rw [s1]; simp) (decide_eq_true (by omega)) hl (by rw [← hMi]; rfl) (by rw [← hMx]; rfl) hod1
        hhi hlo hi2 (by omega) (by omega) (by rw [hi]) hlq0.1 hlq0.2 (by rw [hs]) hs63 hod hx1.1 hx1.2 hx2.1 hx2.2 (hcut _) (hcut _) (hcut _) c1 c2 c3 c4).mono fun _ _ h => done h
    | false =>
      have hl : FS.l10 (e0 - ((11 : Nat) : Int) + 11) = 348 - (i : Int) := by rw [he11]; have : FS.pOf e0 false = - FS.l10 e0 := rfl; omega
      by_cases hp : m * 2 ^ 11 = 9223372036854775808
      · have he : e0 = -1074 := by
          by_cases q : e0 = -1074
          · exact q
          · exact absurd (hsk.2 ⟨hp, rfl, q⟩) (by simp)
        exact (shortB2 (m * 2 ^ 11) (FS.mid m 11 - FS.half 11 false) (FS.mid m 11 + 2 ^ (11 - 1)) _ _ _ (m % 2) i (FS.sh e0 (FS.pOf e0 false) 11) (e0 - ((11 : Nat) : Int)) (FS.lp (FS.pOf e0 false)) w hT (by omega) (beq_iff_eq.2 (by rw [hp]; rfl)) (decide_eq_false (by omega)) hl (by rw [← hMi]; rfl) (by rw [← hMx]; rfl) hod1
          hhi hlo hi2 (by omega) (by omega) (by rw [hi]) hlq0.1 hlq0.2 (by rw [hs]) hs63 hod hx1.1 hx1.2 hx2.1 hx2.2 (hcut _) (hcut _) (hcut _) c1 c2 c3 c4).mono fun _ _ h => done h
      · exact (shortB1 (m * 2 ^ 11) (FS.mid m 11 - FS.half 11 false) (FS.mid m 11 + 2 ^ (11 - 1)) _ _ _ (m % 2) i (FS.sh e0 (FS.pOf e0 false) 11) (e0 - ((11 : Nat) : Int)) (FS.lp (FS.pOf e0 false)) w hT (by omega) (by rw [beq_eq_false_iff_ne]; exact fun e => hp (by omega)) hl (by rw [← hMi]; rfl) (by rw [← hMx]; rfl) hod1
          hhi hlo hi2 (by omega) (by omega) (by rw [hi]) hlq0.1 hlq0.2 (by rw [hs]) hs63 hod hx1.1 hx1.2 hx2.1 hx2.2 (hcut _) (hcut _) (hcut _) c1 c2 c3 c4).mono fun _ _ h => done h
  · have he : e0 = -1074 := by omega
    subst he
    have hsf : sk = false := by
      cases sk
      · rfl
      · exact absurd (hsk.1 rfl).2.1 hz11
    subst hsf
    have hhf : FS.half z false = 2 ^ (z - 1) := rfl
    rw [hhf] at hMi
    have hzz : (2 ^ (z - 1) : Nat) ≤ 9223372036854775808 := by omega
    have hpc : ((2 : Int) ^ (z - 1)) = ((2 ^ (z - 1) : Nat) : Int) := by push_cast; rfl
    have hw1 : IntKind.u64.wrap ((2 : Int) ^ (z - 1)) = ((2 ^ (z - 1) : Nat) : Int) := by rw [hpc, IntKind.wrap_u64]; omega
    have hmn1 : IntKind.u64.wrap (((m * 2 ^ z : Nat) : Int) - IntKind.u64.wrap (2 ^ (z - 1))) = ((FS.mid m z - FS.half z false : Nat) : Int) := by
      rw [hw1, hMi, IntKind.wrap_u64]; omega
    have hmx1 : IntKind.u64.wrap (((m * 2 ^ z : Nat) : Int) + IntKind.u64.wrap (2 ^ (z - 1))) = ((FS.mid m z + 2 ^ (z - 1) : Nat) : Int) := by
      rw [hw1, hMx, IntKind.wrap_u64]; omega
    have hod1 : bits .and .i64 (wrap64 (((m * 2 ^ z : Nat) : Int) / 2 ^ z)) 1 = ((m % 2 : Nat) : Int) := by
      have e1 : ((m * 2 ^ z : Nat) : Int) / 2 ^ z = (m : Int) := by
        rw [show ((2 : Int) ^ z) = ((2 ^ z : Nat) : Int) by push_cast; rfl, ← Int.natCast_ediv, Nat.mul_div_cancel _ (Nat.two_pow_pos z)]
      rw [e1, show wrap64 (m : Int) = (m : Int) by unfold wrap64; omega]
      exact and1_i64 m hm63
    have hl : FS.l10 (-1074 - (z : Int) + z) = 348 - (i : Int) := by rw [show (-1074 : Int) - z + z = -1074 by omega]; have : FS.pOf (-1074) false = - FS.l10 (-1074) := rfl; omega
    by_cases hp : m * 2 ^ z = 9223372036854775808
    · exact (shortC2 (m * 2 ^ z) (FS.mid m z - FS.half z false) (FS.mid m z + 2 ^ (z - 1)) _ _ _ (m % 2) i (FS.sh (-1074) (FS.pOf (-1074) false) z) (-1074 - (z : Int)) (FS.lp (FS.pOf (-1074) false)) w hT (beq_iff_eq.2 (by rw [hp]; rfl)) z (by omega) (by omega) hz2 (by omega) (decide_eq_false (by omega)) hl hmn1 hmx1 hod1
        hhi hlo hi2 (by omega) (by omega) (by rw [hi]) hlq0.1 hlq0.2 (by rw [hs]) hs63 hod hx1.1 hx1.2 hx2.1 hx2.2 (hcut _) (hcut _) (hcut _) c1 c2 c3 c4).mono fun _ _ h => done h
    · exact (shortC1 (m * 2 ^ z) (FS.mid m z - FS.half z false) (FS.mid m z + 2 ^ (z - 1)) _ _ _ (m % 2) i (FS.sh (-1074) (FS.pOf (-1074) false) z) (-1074 - (z : Int)) (FS.lp (FS.pOf (-1074) false)) w hT (by rw [beq_eq_false_iff_ne]; exact fun e => hp (by omega)) z (by omega) (by omega) hz2 (by omega) (decide_eq_false (by omega)) hl hmn1 hmx1 hod1
        hhi hlo hi2 (by omega) (by omega) (by rw [hi]) hlq0.1 hlq0.2 (by rw [hs]) hs63 hod hx1.1 hx1.2 hx2.1 hx2.2 (hcut _) (hcut _) (hcut _) c1 c2 c3 c4).mono fun _ _ h => done h
end Go.Proofs.YteckfdohgiddgaaGreatDoor
