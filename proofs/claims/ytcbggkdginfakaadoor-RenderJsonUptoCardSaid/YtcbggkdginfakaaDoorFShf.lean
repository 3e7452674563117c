/- internal/strconv.shortFloat at float64. -/
import Derived.Test.YtcbggkdginfakaaDoorFPrs
import Derived.Test.YtcbggkdginfakaaDoorBk
namespace Go.Proofs.YtcbggkdginfakaaDoor
open Go.RowKit
set_option linter.unusedVariables false
set_option linter.unusedSimpArgs false
theorem allHi : ((List.range 696).all fun i : Nat => decide (9223372036854775808 ≤ FS.hiOf ((i : Int) - 348))) = true := by decide +kernel
theorem hi_ge {p : Int} (h1 : -348 ≤ p) (h2 : p ≤ 347) : 9223372036854775808 ≤ FS.hiOf p := by
  have h := List.all_eq_true.1 allHi (p + 348).toNat (List.mem_range.2 (by omega))
  rw [decide_eq_true_eq, show (((p + 348).toNat : Nat) : Int) - 348 = p by omega] at h
  exact h
theorem lo_lt {p : Int} (h1 : -348 ≤ p) (h2 : p ≤ 347) : FS.loOf p < 18446744073709551616 := (FS.rowOf h1 h2).hl
theorem cut_le {x hi lo s : Nat} (hx : x < 18446744073709551616) (hh : hi < 18446744073709551616) (hs : 5 ≤ s) : FS.cut x hi lo s ≤ 576460752303423489 := by
  have h0 : x * hi / 18446744073709551616 < 18446744073709551616 := by
    have : x * hi ≤ 18446744073709551615 * 18446744073709551615 := Nat.mul_le_mul (by omega) (by omega)
    omega
  have h1 : ∀ a, a < 18446744073709551616 → a / 2 ^ s ≤ 576460752303423488 := fun a ha => by
    have h2 : 2 ^ 5 ≤ 2 ^ s := Nat.pow_le_pow_right (by decide) hs
    have h3 : a / 2 ^ s ≤ a / 2 ^ 5 := Nat.div_le_div_left h2 (by decide)
    omega
  have h4 : ∀ a b, a ≤ 576460752303423488 → b ≤ 1 → a ||| b ≤ 576460752303423489 := fun a b ha hb => by
    rcases (show b = 0 ∨ b = 1 by omega) with rfl | rfl
    · rw [Nat.or_zero]; omega
    · rw [FS.or_one]; split <;> omega
  unfold FS.cut
  simp only [Nat.reducePow]
  split
  · exact h4 _ _ (h1 _ h0) (Nat.le_refl _)
  · refine h4 _ _ (h1 _ ?_) ?_
    · split <;> omega
    · split <;> omega
theorem ret_two {a b : Nat} {c d : Int} (h : a = b) (h2 : c = d) : Ending.returned (.tuple #[.int .u64 (a : Int), .int .i64 c]) = .returned (.tuple #[.int .u64 (b : Int), .int .i64 d]) := by rw [h, h2]
theorem nudge1 (u od : Nat) (h : u + od < 18446744073709551616) (ho : od ≤ 1) (w : World) :
    Calls Tryd.prog 84 #[.int .u64 u, .int .i64 od] w fun e w' => e = .returned (.int .u64 ((u + od : Nat) : Int)) ∧ w' = w := by
  have h1 := nudge_any u od (by omega) (by omega) (by omega) (by omega) w
  rw [show (u : Int) + od = ((u + od : Nat) : Int) by omega] at h1
  exact h1
theorem nudge2 (u od : Nat) (h : u < 18446744073709551616) (ho : od ≤ 1) (h1 : od ≤ u) (w : World) :
    Calls Tryd.prog 84 #[.int .u64 u, .int .i64 (-(od : Int))] w fun e w' => e = .returned (.int .u64 ((u - od : Nat) : Int)) ∧ w' = w := by
  have h1 := nudge_any u (-(od : Int)) (by omega) (by omega) (by omega) (by omega) w
  rw [show (u : Int) + -(od : Int) = ((u - od : Nat) : Int) by omega] at h1
  exact h1
theorem us_any (x u i s g : Nat) (w2 W : World) (hi : i < 696) (hx : x < 18446744073709551616) (hx0 : 4611686018427387904 ≤ x) (hs : s ≤ 63) (hu : FS.cut x (FS.hiOf ((i : Int) - 348)) (FS.loOf ((i : Int) - 348)) s = u)
    (c0 : w2.cell? ⟨g, 0, none⟩ = some (.int .u64 (FS.hiOf ((i : Int) - 348)))) (c1 : w2.cell? ⟨g, 1, none⟩ = some (.int .u64 (FS.loOf ((i : Int) - 348)))) (c2 : w2.cell? ⟨g, 2, none⟩ = some (.int .i64 s)) (hW : Below w2.heap.size w2 W) :
    Calls Tryd.prog 83 #[.int .u64 x, .pointer (some ⟨g, 0, none⟩)] W fun e w' => e = .returned (.int .u64 u) ∧ Below W.heap.size W w' := by
  have hlt := World.block_lt_of_cell? w2 _ c0
  have hh := hi_ge (p := (i : Int) - 348) (by omega) (by omega)
  have h := uscale_any x (FS.hiOf ((i : Int) - 348)) (FS.loOf ((i : Int) - 348)) s g 0 W hx (FS.hi_lt (by omega) (by omega)) (lo_lt (by omega) (by omega)) (by
      have : 4611686018427387904 * 9223372036854775808 ≤ x * FS.hiOf ((i : Int) - 348) := Nat.mul_le_mul hx0 hh
      omega) hs ((hW.cell (p := ⟨g, 0, none⟩) hlt).trans c0) ((hW.cell (p := ⟨g, 1, none⟩) hlt).trans c1) ((hW.cell (p := ⟨g, 2, none⟩) hlt).trans c2)
  rw [hu] at h
  refine h.mono ?_
  rintro e w' ⟨rfl, n, rfl⟩
  exact ⟨rfl, bel_drew (Below.refl _ _) n⟩
theorem pre_world (g i : Nat) (e lq : Int) (w : World) (hT : Tbl w) (hi : i < 696) (hg : g = w.heap.size) (he0 : -2000 ≤ e) (he1 : e ≤ 1000) (hl0 : -2000 ≤ lq) (hl1 : lq ≤ 2000) (s : Nat) (hs : -(e + lq + 3) = (s : Int)) :
    Calls Tryd.prog 81 #[.pointer (some ⟨g, 0, none⟩), .int .i64 e, .int .i64 ((i : Int) - 348), .int .i64 lq] (w.alloc (.cells #[.int .u64 0, .int .u64 0, .int .i64 0] 125)) fun x w' => x = .returned (.tuple #[]) ∧
      w'.cell? ⟨g, 0, none⟩ = some (.int .u64 (FS.hiOf ((i : Int) - 348))) ∧ w'.cell? ⟨g, 1, none⟩ = some (.int .u64 (FS.loOf ((i : Int) - 348))) ∧ w'.cell? ⟨g, 2, none⟩ = some (.int .i64 s) ∧ Below w.heap.size w w' := by
  subst hg
  have hb : Below w.heap.size w (w.alloc (.cells #[.int .u64 0, .int .u64 0, .int .i64 0] 125)) := (Below.refl _ _).alloc (Nat.le_refl _) _
  refine (prescale_any w.heap.size i e lq _ (hT.below hb) hi hT.lt (.int .u64 0) (.int .u64 0) (.int .i64 0) (by simp) (by simp) (by simp) (by simp) (by simp) (by simp) (by omega) (by omega) (by omega) (by omega)).mono ?_
  rintro x w' ⟨rfl, rfl⟩
  rw [hs]
  have hk : Bk (w.alloc (.cells #[.int .u64 0, .int .u64 0, .int .i64 0] 125)) w.heap.size 125 [.int .u64 0, .int .u64 0, .int .i64 0] := heap_alloc_new w _
  have hk2 := ((hk.set 0 (.int .u64 (FS.hiOf ((i : Int) - 348)))).set 1 (.int .u64 (FS.loOf ((i : Int) - 348)))).set 2 (.int .i64 s)
  refine ⟨rfl, hk2.cell 0 (by simp), hk2.cell 1 (by simp), hk2.cell 2 (by simp), ?_⟩
  · exact ((hb.setCell (p := ⟨w.heap.size, 0, none⟩) (Nat.le_refl _) _).setCell (p := ⟨w.heap.size, 1, none⟩) (Nat.le_refl _) _).setCell (p := ⟨w.heap.size, 2, none⟩) (Nat.le_refl _) _
set_option maxHeartbeats 4000000 in
set_option maxRecDepth 100000 in
theorem shortB1 (M mn mx umin umax um od i s : Nat) (e lq : Int) (w : World) (hT : Tbl w) (hE : -1085 ≤ e) (hk : ((M : Int) == 9223372036854775808) = false) (hl : FS.l10 (e + 11) = 348 - (i : Int)) (hmn1 : (M : Int) - 1024 = mn) (hmx1 : (M : Int) + 1024 = mx) (hod1 : bits .and .i64 ((M : Int) / 2048) 1 = (od : Int))
    (hM : M < 18446744073709551616) (hM0 : 9223372036854775808 ≤ M) (hi : i < 696) (he0 : -2000 ≤ e) (he1 : e ≤ 1000)
    (hlq : FS.lp ((i : Int) - 348) = lq) (hlq0 : -2000 ≤ lq) (hlq1 : lq ≤ 2000) (hs : -(e + lq + 3) = (s : Int)) (hs63 : s ≤ 63) (hod : od ≤ 1)
    (hmn : mn < 18446744073709551616) (hmn0 : 4611686018427387904 ≤ mn) (hmx : mx < 18446744073709551616) (hmx0 : 4611686018427387904 ≤ mx)
    (h1 : FS.cut mn (FS.hiOf ((i : Int) - 348)) (FS.loOf ((i : Int) - 348)) s = umin) (h2 : FS.cut mx (FS.hiOf ((i : Int) - 348)) (FS.loOf ((i : Int) - 348)) s = umax) (h3 : FS.cut M (FS.hiOf ((i : Int) - 348)) (FS.loOf ((i : Int) - 348)) s = um)
    (b1 : umin ≤ 576460752303423489) (b2 : umax ≤ 576460752303423489) (b3 : um ≤ 576460752303423489) (b4 : 4 ≤ umax) :
    Calls Tryd.prog 75 #[.int .u64 M, .int .i64 e] w fun x w' => Below w.heap.size w w' ∧
      x = .returned (.tuple #[.int .u64 (FS.fineD ((umin + od + 3) / 4) ((umax - od) / 4) ((um + 1 + um / 4 % 2) / 4) : Nat), .int .i64 ((FS.fineT ((umin + od + 3) / 4) ((umax - od) / 4) (748 - i) : Nat) - 400 : Int)]) := by
  have HT := hd hT
  have HLT := hd hT.lt
  have HLP := hd (fun W => by have h := lp_any ((i : Int) - 348) (by omega) (by omega) W; rw [hlq] at h; exact h)
  have HPR := hd (fun W (hb : Below w.heap.size w W) => prescale_any w.heap.size i e lq (W.alloc (.cells #[.int .u64 0, .int .u64 0, .int .i64 0] 125)) ((hT.below hb).below ((Below.refl _ _).alloc (Nat.le_refl _) _)) hi hT.lt)
  have HU := hd (fun (x u : Nat) (hx : x < 18446744073709551616) (hx0 : 4611686018427387904 ≤ x) (hu : FS.cut x (FS.hiOf ((i : Int) - 348)) (FS.loOf ((i : Int) - 348)) s = u) g w2 h0 h1 h2 W hW => us_any x u i s g w2 W hi hx hx0 hs63 hu h0 h1 h2 hW)
  have H1 := hd h1
  have H2 := hd h2
  have H3 := hd h3
  have HS := hd hs
  clear hT hlq h1 h2 h3 hs HPR
  have N1 := hd (fun W => nudge1 umin od (by omega) hod W)
  have N2 := hd (fun W => nudge2 umax od (by omega) hod (by omega) W)
  have C1 := hd (fun W => ceil_any (umin + od) (by omega) W)
  have C2 := hd (fun W => floor_any (umax - od) (by omega) W)
  have C3 := hd (fun W => round_any um (by omega) W)
  have hb1 : (umin + od + 3) / 4 ≤ 144115188075855875 := by omega
  have hb2 : (umax - od) / 4 ≤ 144115188075855875 := by omega
  clear b1 b2 b3 b4
  generalize (umin + od + 3) / 4 = dmin at *
  generalize (umax - od) / 4 = dmax at *
  generalize (um + 1 + um / 4 % 2) / 4 = dr at *
  generalize umin + od = n1 at *
  generalize umax - od = n2 at *
  have HL := hd (fun W => by have h := l10_any (e + 11) (by omega) (by omega) W; rw [hl] at h; exact h)
  clear hl
  have hneg : -(348 - (i : Int)) = (i : Int) - 348 := by omega
  have hq : (dmax : Int) / 10 = ((dmax / 10 : Nat) : Int) := by omega
  have hq2 : dmax / 10 ≤ 144115188075855875 := by omega
  have gD : FS.fineD dmin dmax dr = (if dmin ≤ dmax / 10 * 10 then dmax / 10 else if dmin < dmax then dr else dmin) := rfl
  have gT : FS.fineT dmin dmax (748 - i) = (if dmin ≤ dmax / 10 * 10 then 748 - i + 1 else 748 - i) := rfl
  rw [gD, gT]
  clear gD gT
  by_cases k1 : dmin ≤ dmax / 10 * 10
  · have t1 : (dmin : Int) ≤ ((dmax / 10 : Nat) : Int) * 10 := by omega
    rw [if_pos k1, if_pos k1]
    clear k1
    generalize dmax / 10 = dd at *
    go_enter Tryd.func75, Tryd.ntmps75
    go_wp2_with (go_at_call 59; refine (HL.o _).mono ?_; rintro x w' ⟨rfl, rfl⟩)
    refine (HLP.o _).mono ?_; rintro x w' ⟨rfl, rfl⟩
    obtain ⟨g, hgg⟩ : ∃ g, g = w'.heap.size := ⟨_, rfl⟩
    have HW2 := hd (pre_world g i e lq w' HT.o hi hgg he0 he1 hlq0 hlq1 s HS.o)
    rw [← hgg]
    clear hgg
    go_wp2_with fail
    refine HW2.o.mono ?_; rintro x w2 ⟨rfl, d0, d1, d2, hbb⟩
    have HB2 := hd hbb
    have HD := hd (And.intro d0 (And.intro d1 d2))
    clear hbb d0 d1 d2
    go_wp2_with fail
    refine (HU.o mn umin hmn hmn0 H1.o g w2 HD.o.1 HD.o.2.1 HD.o.2.2 _ (Below.refl _ _)).mono ?_; rintro x w3 ⟨rfl, hb3⟩; have HB3 := hd hb3; clear hb3
    go_wp2_with (go_at_call 84; refine (N1.o _).mono ?_; rintro x w' ⟨rfl, rfl⟩)
    refine (C1.o _).mono ?_; rintro x w' ⟨rfl, rfl⟩
    go_wp2_with fail
    refine (HU.o mx umax hmx hmx0 H2.o g w2 HD.o.1 HD.o.2.1 HD.o.2.2 _ HB3.o).mono ?_; rintro x w4 ⟨rfl, hb4⟩; have HB4 := hd (bel HB2.o (bel HB3.o hb4)); have HB34 := hd (bel HB3.o hb4); clear hb4
    go_wp2_with fail
    refine (N2.o _).mono ?_; rintro x w' ⟨rfl, rfl⟩
    go_wp2_with fail
    refine (C2.o _).mono ?_; rintro x w' ⟨rfl, rfl⟩
    go_wp2_with (first
      | (go_at_call 83; refine (HU.o M um hM (by omega) H3.o g w2 HD.o.1 HD.o.2.1 HD.o.2.2 _ HB34.o).mono ?_; rintro x w5 ⟨rfl, hb5⟩; have HB5 := hd (bel HB4.o hb5); clear hb5)
      | (go_at_call 87; refine (C3.o _).mono ?_; rintro x w' ⟨rfl, rfl⟩))
    go_ret2
    exact ⟨HB4.o, ret_two (by omega) (by omega)⟩
  · have t1 : ¬ (dmin : Int) ≤ ((dmax / 10 : Nat) : Int) * 10 := by omega
    rw [if_neg k1, if_neg k1]
    clear k1
    generalize dmax / 10 = dd at *
    by_cases k2 : dmin < dmax
    · have t2 : (dmin : Int) < (dmax : Int) := by omega
      rw [if_pos k2]
      clear k2
      go_enter Tryd.func75, Tryd.ntmps75
      go_wp2_with (go_at_call 59; refine (HL.o _).mono ?_; rintro x w' ⟨rfl, rfl⟩)
      refine (HLP.o _).mono ?_; rintro x w' ⟨rfl, rfl⟩
      obtain ⟨g, hgg⟩ : ∃ g, g = w'.heap.size := ⟨_, rfl⟩
      have HW2 := hd (pre_world g i e lq w' HT.o hi hgg he0 he1 hlq0 hlq1 s HS.o)
      rw [← hgg]
      clear hgg
      go_wp2_with fail
      refine HW2.o.mono ?_; rintro x w2 ⟨rfl, d0, d1, d2, hbb⟩
      have HB2 := hd hbb
      have HD := hd (And.intro d0 (And.intro d1 d2))
      clear hbb d0 d1 d2
      go_wp2_with fail
      refine (HU.o mn umin hmn hmn0 H1.o g w2 HD.o.1 HD.o.2.1 HD.o.2.2 _ (Below.refl _ _)).mono ?_; rintro x w3 ⟨rfl, hb3⟩; have HB3 := hd hb3; clear hb3
      go_wp2_with (go_at_call 84; refine (N1.o _).mono ?_; rintro x w' ⟨rfl, rfl⟩)
      refine (C1.o _).mono ?_; rintro x w' ⟨rfl, rfl⟩
      go_wp2_with fail
      refine (HU.o mx umax hmx hmx0 H2.o g w2 HD.o.1 HD.o.2.1 HD.o.2.2 _ HB3.o).mono ?_; rintro x w4 ⟨rfl, hb4⟩; have HB4 := hd (bel HB2.o (bel HB3.o hb4)); have HB34 := hd (bel HB3.o hb4); clear hb4
      go_wp2_with fail
      refine (N2.o _).mono ?_; rintro x w' ⟨rfl, rfl⟩
      go_wp2_with fail
      refine (C2.o _).mono ?_; rintro x w' ⟨rfl, rfl⟩
      go_wp2_with (first
        | (go_at_call 83; refine (HU.o M um hM (by omega) H3.o g w2 HD.o.1 HD.o.2.1 HD.o.2.2 _ HB34.o).mono ?_; rintro x w5 ⟨rfl, hb5⟩; have HB5 := hd (bel HB4.o hb5); clear hb5)
        | (go_at_call 87; refine (C3.o _).mono ?_; rintro x w' ⟨rfl, rfl⟩))
      go_ret2
      exact ⟨HB5.o, ret_two (by omega) (by omega)⟩
    · have t2 : ¬ (dmin : Int) < (dmax : Int) := by omega
      rw [if_neg k2]
      clear k2
      go_enter Tryd.func75, Tryd.ntmps75
      go_wp2_with (go_at_call 59; refine (HL.o _).mono ?_; rintro x w' ⟨rfl, rfl⟩)
      refine (HLP.o _).mono ?_; rintro x w' ⟨rfl, rfl⟩
      obtain ⟨g, hgg⟩ : ∃ g, g = w'.heap.size := ⟨_, rfl⟩
      have HW2 := hd (pre_world g i e lq w' HT.o hi hgg he0 he1 hlq0 hlq1 s HS.o)
      rw [← hgg]
      clear hgg
      go_wp2_with fail
      refine HW2.o.mono ?_; rintro x w2 ⟨rfl, d0, d1, d2, hbb⟩
      have HB2 := hd hbb
      have HD := hd (And.intro d0 (And.intro d1 d2))
      clear hbb d0 d1 d2
      go_wp2_with fail
      refine (HU.o mn umin hmn hmn0 H1.o g w2 HD.o.1 HD.o.2.1 HD.o.2.2 _ (Below.refl _ _)).mono ?_; rintro x w3 ⟨rfl, hb3⟩; have HB3 := hd hb3; clear hb3
      go_wp2_with (go_at_call 84; refine (N1.o _).mono ?_; rintro x w' ⟨rfl, rfl⟩)
      refine (C1.o _).mono ?_; rintro x w' ⟨rfl, rfl⟩
      go_wp2_with fail
      refine (HU.o mx umax hmx hmx0 H2.o g w2 HD.o.1 HD.o.2.1 HD.o.2.2 _ HB3.o).mono ?_; rintro x w4 ⟨rfl, hb4⟩; have HB4 := hd (bel HB2.o (bel HB3.o hb4)); have HB34 := hd (bel HB3.o hb4); clear hb4
      go_wp2_with fail
      refine (N2.o _).mono ?_; rintro x w' ⟨rfl, rfl⟩
      go_wp2_with fail
      refine (C2.o _).mono ?_; rintro x w' ⟨rfl, rfl⟩
      go_wp2_with (first
        | (go_at_call 83; refine (HU.o M um hM (by omega) H3.o g w2 HD.o.1 HD.o.2.1 HD.o.2.2 _ HB34.o).mono ?_; rintro x w5 ⟨rfl, hb5⟩; have HB5 := hd (bel HB4.o hb5); clear hb5)
        | (go_at_call 87; refine (C3.o _).mono ?_; rintro x w' ⟨rfl, rfl⟩))
      go_ret2
      exact ⟨HB4.o, ret_two (by omega) (by omega)⟩
set_option maxHeartbeats 4000000 in
set_option maxRecDepth 100000 in
theorem shortB2 (M mn mx umin umax um od i s : Nat) (e lq : Int) (w : World) (hT : Tbl w) (hE : -1085 ≤ e) (hk : ((M : Int) == 9223372036854775808) = true) (hk2 : decide (-1085 < e) = false) (hl : FS.l10 (e + 11) = 348 - (i : Int)) (hmn1 : (M : Int) - 1024 = mn) (hmx1 : (M : Int) + 1024 = mx) (hod1 : bits .and .i64 ((M : Int) / 2048) 1 = (od : Int))
    (hM : M < 18446744073709551616) (hM0 : 9223372036854775808 ≤ M) (hi : i < 696) (he0 : -2000 ≤ e) (he1 : e ≤ 1000)
    (hlq : FS.lp ((i : Int) - 348) = lq) (hlq0 : -2000 ≤ lq) (hlq1 : lq ≤ 2000) (hs : -(e + lq + 3) = (s : Int)) (hs63 : s ≤ 63) (hod : od ≤ 1)
    (hmn : mn < 18446744073709551616) (hmn0 : 4611686018427387904 ≤ mn) (hmx : mx < 18446744073709551616) (hmx0 : 4611686018427387904 ≤ mx)
    (h1 : FS.cut mn (FS.hiOf ((i : Int) - 348)) (FS.loOf ((i : Int) - 348)) s = umin) (h2 : FS.cut mx (FS.hiOf ((i : Int) - 348)) (FS.loOf ((i : Int) - 348)) s = umax) (h3 : FS.cut M (FS.hiOf ((i : Int) - 348)) (FS.loOf ((i : Int) - 348)) s = um)
    (b1 : umin ≤ 576460752303423489) (b2 : umax ≤ 576460752303423489) (b3 : um ≤ 576460752303423489) (b4 : 4 ≤ umax) :
    Calls Tryd.prog 75 #[.int .u64 M, .int .i64 e] w fun x w' => Below w.heap.size w w' ∧
      x = .returned (.tuple #[.int .u64 (FS.fineD ((umin + od + 3) / 4) ((umax - od) / 4) ((um + 1 + um / 4 % 2) / 4) : Nat), .int .i64 ((FS.fineT ((umin + od + 3) / 4) ((umax - od) / 4) (748 - i) : Nat) - 400 : Int)]) := by
  have HT := hd hT
  have HLT := hd hT.lt
  have HLP := hd (fun W => by have h := lp_any ((i : Int) - 348) (by omega) (by omega) W; rw [hlq] at h; exact h)
  have HPR := hd (fun W (hb : Below w.heap.size w W) => prescale_any w.heap.size i e lq (W.alloc (.cells #[.int .u64 0, .int .u64 0, .int .i64 0] 125)) ((hT.below hb).below ((Below.refl _ _).alloc (Nat.le_refl _) _)) hi hT.lt)
  have HU := hd (fun (x u : Nat) (hx : x < 18446744073709551616) (hx0 : 4611686018427387904 ≤ x) (hu : FS.cut x (FS.hiOf ((i : Int) - 348)) (FS.loOf ((i : Int) - 348)) s = u) g w2 h0 h1 h2 W hW => us_any x u i s g w2 W hi hx hx0 hs63 hu h0 h1 h2 hW)
  have H1 := hd h1
  have H2 := hd h2
  have H3 := hd h3
  have HS := hd hs
  clear hT hlq h1 h2 h3 hs HPR
  have N1 := hd (fun W => nudge1 umin od (by omega) hod W)
  have N2 := hd (fun W => nudge2 umax od (by omega) hod (by omega) W)
  have C1 := hd (fun W => ceil_any (umin + od) (by omega) W)
  have C2 := hd (fun W => floor_any (umax - od) (by omega) W)
  have C3 := hd (fun W => round_any um (by omega) W)
  have hb1 : (umin + od + 3) / 4 ≤ 144115188075855875 := by omega
  have hb2 : (umax - od) / 4 ≤ 144115188075855875 := by omega
  clear b1 b2 b3 b4
  generalize (umin + od + 3) / 4 = dmin at *
  generalize (umax - od) / 4 = dmax at *
  generalize (um + 1 + um / 4 % 2) / 4 = dr at *
  generalize umin + od = n1 at *
  generalize umax - od = n2 at *
  have HL := hd (fun W => by have h := l10_any (e + 11) (by omega) (by omega) W; rw [hl] at h; exact h)
  clear hl
  have hneg : -(348 - (i : Int)) = (i : Int) - 348 := by omega
  have hq : (dmax : Int) / 10 = ((dmax / 10 : Nat) : Int) := by omega
  have hq2 : dmax / 10 ≤ 144115188075855875 := by omega
  have gD : FS.fineD dmin dmax dr = (if dmin ≤ dmax / 10 * 10 then dmax / 10 else if dmin < dmax then dr else dmin) := rfl
  have gT : FS.fineT dmin dmax (748 - i) = (if dmin ≤ dmax / 10 * 10 then 748 - i + 1 else 748 - i) := rfl
  rw [gD, gT]
  clear gD gT
  by_cases k1 : dmin ≤ dmax / 10 * 10
  · have t1 : (dmin : Int) ≤ ((dmax / 10 : Nat) : Int) * 10 := by omega
    rw [if_pos k1, if_pos k1]
    clear k1
    generalize dmax / 10 = dd at *
    go_enter Tryd.func75, Tryd.ntmps75
    go_wp2_with (go_at_call 59; refine (HL.o _).mono ?_; rintro x w' ⟨rfl, rfl⟩)
    refine (HLP.o _).mono ?_; rintro x w' ⟨rfl, rfl⟩
    obtain ⟨g, hgg⟩ : ∃ g, g = w'.heap.size := ⟨_, rfl⟩
    have HW2 := hd (pre_world g i e lq w' HT.o hi hgg he0 he1 hlq0 hlq1 s HS.o)
    rw [← hgg]
    clear hgg
    go_wp2_with fail
    refine HW2.o.mono ?_; rintro x w2 ⟨rfl, d0, d1, d2, hbb⟩
    have HB2 := hd hbb
    have HD := hd (And.intro d0 (And.intro d1 d2))
    clear hbb d0 d1 d2
    go_wp2_with fail
    refine (HU.o mn umin hmn hmn0 H1.o g w2 HD.o.1 HD.o.2.1 HD.o.2.2 _ (Below.refl _ _)).mono ?_; rintro x w3 ⟨rfl, hb3⟩; have HB3 := hd hb3; clear hb3
    go_wp2_with (go_at_call 84; refine (N1.o _).mono ?_; rintro x w' ⟨rfl, rfl⟩)
    refine (C1.o _).mono ?_; rintro x w' ⟨rfl, rfl⟩
    go_wp2_with fail
    refine (HU.o mx umax hmx hmx0 H2.o g w2 HD.o.1 HD.o.2.1 HD.o.2.2 _ HB3.o).mono ?_; rintro x w4 ⟨rfl, hb4⟩; have HB4 := hd (bel HB2.o (bel HB3.o hb4)); have HB34 := hd (bel HB3.o hb4); clear hb4
    go_wp2_with fail
    refine (N2.o _).mono ?_; rintro x w' ⟨rfl, rfl⟩
    go_wp2_with fail
    refine (C2.o _).mono ?_; rintro x w' ⟨rfl, rfl⟩
    go_wp2_with (first
      | (go_at_call 83; refine (HU.o M um hM (by omega) H3.o g w2 HD.o.1 HD.o.2.1 HD.o.2.2 _ HB34.o).mono ?_; rintro x w5 ⟨rfl, hb5⟩; have HB5 := hd (bel HB4.o hb5); clear hb5)
      | (go_at_call 87; refine (C3.o _).mono ?_; rintro x w' ⟨rfl, rfl⟩))
    go_ret2
    exact ⟨HB4.o, ret_two (by omega) (by omega)⟩
  · have t1 : ¬ (dmin : Int) ≤ ((dmax / 10 : Nat) : Int) * 10 := by omega
    rw [if_neg k1, if_neg k1]
    clear k1
    generalize dmax / 10 = dd at *
    by_cases k2 : dmin < dmax
    · have t2 : (dmin : Int) < (dmax : Int) := by omega
      rw [if_pos k2]
      clear k2
      go_enter Tryd.func75, Tryd.ntmps75
      go_wp2_with (go_at_call 59; refine (HL.o _).mono ?_; rintro x w' ⟨rfl, rfl⟩)
      refine (HLP.o _).mono ?_; rintro x w' ⟨rfl, rfl⟩
      obtain ⟨g, hgg⟩ : ∃ g, g = w'.heap.size := ⟨_, rfl⟩
      have HW2 := hd (pre_world g i e lq w' HT.o hi hgg he0 he1 hlq0 hlq1 s HS.o)
      rw [← hgg]
      clear hgg
      go_wp2_with fail
      refine HW2.o.mono ?_; rintro x w2 ⟨rfl, d0, d1, d2, hbb⟩
      have HB2 := hd hbb
      have HD := hd (And.intro d0 (And.intro d1 d2))
      clear hbb d0 d1 d2
      go_wp2_with fail
      refine (HU.o mn umin hmn hmn0 H1.o g w2 HD.o.1 HD.o.2.1 HD.o.2.2 _ (Below.refl _ _)).mono ?_; rintro x w3 ⟨rfl, hb3⟩; have HB3 := hd hb3; clear hb3
      go_wp2_with (go_at_call 84; refine (N1.o _).mono ?_; rintro x w' ⟨rfl, rfl⟩)
      refine (C1.o _).mono ?_; rintro x w' ⟨rfl, rfl⟩
      go_wp2_with fail
      refine (HU.o mx umax hmx hmx0 H2.o g w2 HD.o.1 HD.o.2.1 HD.o.2.2 _ HB3.o).mono ?_; rintro x w4 ⟨rfl, hb4⟩; have HB4 := hd (bel HB2.o (bel HB3.o hb4)); have HB34 := hd (bel HB3.o hb4); clear hb4
      go_wp2_with fail
      refine (N2.o _).mono ?_; rintro x w' ⟨rfl, rfl⟩
      go_wp2_with fail
      refine (C2.o _).mono ?_; rintro x w' ⟨rfl, rfl⟩
      go_wp2_with (first
        | (go_at_call 83; refine (HU.o M um hM (by omega) H3.o g w2 HD.o.1 HD.o.2.1 HD.o.2.2 _ HB34.o).mono ?_; rintro x w5 ⟨rfl, hb5⟩; have HB5 := hd (bel HB4.o hb5); clear hb5)
        | (go_at_call 87; refine (C3.o _).mono ?_; rintro x w' ⟨rfl, rfl⟩))
      go_ret2
      exact ⟨HB5.o, ret_two (by omega) (by omega)⟩
    · have t2 : ¬ (dmin : Int) < (dmax : Int) := by omega
      rw [if_neg k2]
      clear k2
      go_enter Tryd.func75, Tryd.ntmps75
      go_wp2_with (go_at_call 59; refine (HL.o _).mono ?_; rintro x w' ⟨rfl, rfl⟩)
      refine (HLP.o _).mono ?_; rintro x w' ⟨rfl, rfl⟩
      obtain ⟨g, hgg⟩ : ∃ g, g = w'.heap.size := ⟨_, rfl⟩
      have HW2 := hd (pre_world g i e lq w' HT.o hi hgg he0 he1 hlq0 hlq1 s HS.o)
      rw [← hgg]
      clear hgg
      go_wp2_with fail
      refine HW2.o.mono ?_; rintro x w2 ⟨rfl, d0, d1, d2, hbb⟩
      have HB2 := hd hbb
      have HD := hd (And.intro d0 (And.intro d1 d2))
      clear hbb d0 d1 d2
      go_wp2_with fail
      refine (HU.o mn umin hmn hmn0 H1.o g w2 HD.o.1 HD.o.2.1 HD.o.2.2 _ (Below.refl _ _)).mono ?_; rintro x w3 ⟨rfl, hb3⟩; have HB3 := hd hb3; clear hb3
      go_wp2_with (go_at_call 84; refine (N1.o _).mono ?_; rintro x w' ⟨rfl, rfl⟩)
      refine (C1.o _).mono ?_; rintro x w' ⟨rfl, rfl⟩
      go_wp2_with fail
      refine (HU.o mx umax hmx hmx0 H2.o g w2 HD.o.1 HD.o.2.1 HD.o.2.2 _ HB3.o).mono ?_; rintro x w4 ⟨rfl, hb4⟩; have HB4 := hd (bel HB2.o (bel HB3.o hb4)); have HB34 := hd (bel HB3.o hb4); clear hb4
      go_wp2_with fail
      refine (N2.o _).mono ?_; rintro x w' ⟨rfl, rfl⟩
      go_wp2_with fail
      refine (C2.o _).mono ?_; rintro x w' ⟨rfl, rfl⟩
      go_wp2_with (first
        | (go_at_call 83; refine (HU.o M um hM (by omega) H3.o g w2 HD.o.1 HD.o.2.1 HD.o.2.2 _ HB34.o).mono ?_; rintro x w5 ⟨rfl, hb5⟩; have HB5 := hd (bel HB4.o hb5); clear hb5)
        | (go_at_call 87; refine (C3.o _).mono ?_; rintro x w' ⟨rfl, rfl⟩))
      go_ret2
      exact ⟨HB4.o, ret_two (by omega) (by omega)⟩
set_option maxHeartbeats 4000000 in
set_option maxRecDepth 100000 in
theorem shortA (M mn mx umin umax um od i s : Nat) (e lq : Int) (w : World) (hT : Tbl w) (hk : ((M : Int) == 9223372036854775808) = true) (hk2 : decide (-1085 < e) = true) (hl : FS.skw (e + 11) = 348 - (i : Int)) (hmn1 : (M : Int) - 512 = mn) (hmx1 : (M : Int) + 1024 = mx) (hod1 : bits .and .i64 ((M : Int) / 2048) 1 = (od : Int))
    (hM : M < 18446744073709551616) (hM0 : 9223372036854775808 ≤ M) (hi : i < 696) (he0 : -2000 ≤ e) (he1 : e ≤ 1000)
    (hlq : FS.lp ((i : Int) - 348) = lq) (hlq0 : -2000 ≤ lq) (hlq1 : lq ≤ 2000) (hs : -(e + lq + 3) = (s : Int)) (hs63 : s ≤ 63) (hod : od ≤ 1)
    (hmn : mn < 18446744073709551616) (hmn0 : 4611686018427387904 ≤ mn) (hmx : mx < 18446744073709551616) (hmx0 : 4611686018427387904 ≤ mx)
    (h1 : FS.cut mn (FS.hiOf ((i : Int) - 348)) (FS.loOf ((i : Int) - 348)) s = umin) (h2 : FS.cut mx (FS.hiOf ((i : Int) - 348)) (FS.loOf ((i : Int) - 348)) s = umax) (h3 : FS.cut M (FS.hiOf ((i : Int) - 348)) (FS.loOf ((i : Int) - 348)) s = um)
    (b1 : umin ≤ 576460752303423489) (b2 : umax ≤ 576460752303423489) (b3 : um ≤ 576460752303423489) (b4 : 4 ≤ umax) :
    Calls Tryd.prog 75 #[.int .u64 M, .int .i64 e] w fun x w' => Below w.heap.size w w' ∧
      x = .returned (.tuple #[.int .u64 (FS.fineD ((umin + od + 3) / 4) ((umax - od) / 4) ((um + 1 + um / 4 % 2) / 4) : Nat), .int .i64 ((FS.fineT ((umin + od + 3) / 4) ((umax - od) / 4) (748 - i) : Nat) - 400 : Int)]) := by
  have HT := hd hT
  have HLT := hd hT.lt
  have HLP := hd (fun W => by have h := lp_any ((i : Int) - 348) (by omega) (by omega) W; rw [hlq] at h; exact h)
  have HPR := hd (fun W (hb : Below w.heap.size w W) => prescale_any w.heap.size i e lq (W.alloc (.cells #[.int .u64 0, .int .u64 0, .int .i64 0] 125)) ((hT.below hb).below ((Below.refl _ _).alloc (Nat.le_refl _) _)) hi hT.lt)
  have HU := hd (fun (x u : Nat) (hx : x < 18446744073709551616) (hx0 : 4611686018427387904 ≤ x) (hu : FS.cut x (FS.hiOf ((i : Int) - 348)) (FS.loOf ((i : Int) - 348)) s = u) g w2 h0 h1 h2 W hW => us_any x u i s g w2 W hi hx hx0 hs63 hu h0 h1 h2 hW)
  have H1 := hd h1
  have H2 := hd h2
  have H3 := hd h3
  have HS := hd hs
  clear hT hlq h1 h2 h3 hs HPR
  have N1 := hd (fun W => nudge1 umin od (by omega) hod W)
  have N2 := hd (fun W => nudge2 umax od (by omega) hod (by omega) W)
  have C1 := hd (fun W => ceil_any (umin + od) (by omega) W)
  have C2 := hd (fun W => floor_any (umax - od) (by omega) W)
  have C3 := hd (fun W => round_any um (by omega) W)
  have hb1 : (umin + od + 3) / 4 ≤ 144115188075855875 := by omega
  have hb2 : (umax - od) / 4 ≤ 144115188075855875 := by omega
  clear b1 b2 b3 b4
  generalize (umin + od + 3) / 4 = dmin at *
  generalize (umax - od) / 4 = dmax at *
  generalize (um + 1 + um / 4 % 2) / 4 = dr at *
  generalize umin + od = n1 at *
  generalize umax - od = n2 at *
  have HL := hd (fun W => by have h := skw_any (e + 11) (by omega) (by omega) W; rw [hl] at h; exact h)
  clear hl
  have hneg : -(348 - (i : Int)) = (i : Int) - 348 := by omega
  have hq : (dmax : Int) / 10 = ((dmax / 10 : Nat) : Int) := by omega
  have hq2 : dmax / 10 ≤ 144115188075855875 := by omega
  have gD : FS.fineD dmin dmax dr = (if dmin ≤ dmax / 10 * 10 then dmax / 10 else if dmin < dmax then dr else dmin) := rfl
  have gT : FS.fineT dmin dmax (748 - i) = (if dmin ≤ dmax / 10 * 10 then 748 - i + 1 else 748 - i) := rfl
  rw [gD, gT]
  clear gD gT
  by_cases k1 : dmin ≤ dmax / 10 * 10
  · have t1 : (dmin : Int) ≤ ((dmax / 10 : Nat) : Int) * 10 := by omega
    rw [if_pos k1, if_pos k1]
    clear k1
    generalize dmax / 10 = dd at *
    go_enter Tryd.func75, Tryd.ntmps75
    go_wp2_with (go_at_call 80; refine (HL.o _).mono ?_; rintro x w' ⟨rfl, rfl⟩)
    refine (HLP.o _).mono ?_; rintro x w' ⟨rfl, rfl⟩
    obtain ⟨g, hgg⟩ : ∃ g, g = w'.heap.size := ⟨_, rfl⟩
    have HW2 := hd (pre_world g i e lq w' HT.o hi hgg he0 he1 hlq0 hlq1 s HS.o)
    rw [← hgg]
    clear hgg
    go_wp2_with fail
    refine HW2.o.mono ?_; rintro x w2 ⟨rfl, d0, d1, d2, hbb⟩
    have HB2 := hd hbb
    have HD := hd (And.intro d0 (And.intro d1 d2))
    clear hbb d0 d1 d2
    go_wp2_with fail
    refine (HU.o mn umin hmn hmn0 H1.o g w2 HD.o.1 HD.o.2.1 HD.o.2.2 _ (Below.refl _ _)).mono ?_; rintro x w3 ⟨rfl, hb3⟩; have HB3 := hd hb3; clear hb3
    go_wp2_with (go_at_call 84; refine (N1.o _).mono ?_; rintro x w' ⟨rfl, rfl⟩)
    refine (C1.o _).mono ?_; rintro x w' ⟨rfl, rfl⟩
    go_wp2_with fail
    refine (HU.o mx umax hmx hmx0 H2.o g w2 HD.o.1 HD.o.2.1 HD.o.2.2 _ HB3.o).mono ?_; rintro x w4 ⟨rfl, hb4⟩; have HB4 := hd (bel HB2.o (bel HB3.o hb4)); have HB34 := hd (bel HB3.o hb4); clear hb4
    go_wp2_with fail
    refine (N2.o _).mono ?_; rintro x w' ⟨rfl, rfl⟩
    go_wp2_with fail
    refine (C2.o _).mono ?_; rintro x w' ⟨rfl, rfl⟩
    go_wp2_with (first
      | (go_at_call 83; refine (HU.o M um hM (by omega) H3.o g w2 HD.o.1 HD.o.2.1 HD.o.2.2 _ HB34.o).mono ?_; rintro x w5 ⟨rfl, hb5⟩; have HB5 := hd (bel HB4.o hb5); clear hb5)
      | (go_at_call 87; refine (C3.o _).mono ?_; rintro x w' ⟨rfl, rfl⟩))
    go_ret2
    exact ⟨HB4.o, ret_two (by omega) (by omega)⟩
  · have t1 : ¬ (dmin : Int) ≤ ((dmax / 10 : Nat) : Int) * 10 := by omega
    rw [if_neg k1, if_neg k1]
    clear k1
    generalize dmax / 10 = dd at *
    by_cases k2 : dmin < dmax
    · have t2 : (dmin : Int) < (dmax : Int) := by omega
      rw [if_pos k2]
      clear k2
      go_enter Tryd.func75, Tryd.ntmps75
      go_wp2_with (go_at_call 80; refine (HL.o _).mono ?_; rintro x w' ⟨rfl, rfl⟩)
      refine (HLP.o _).mono ?_; rintro x w' ⟨rfl, rfl⟩
      obtain ⟨g, hgg⟩ : ∃ g, g = w'.heap.size := ⟨_, rfl⟩
      have HW2 := hd (pre_world g i e lq w' HT.o hi hgg he0 he1 hlq0 hlq1 s HS.o)
      rw [← hgg]
      clear hgg
      go_wp2_with fail
      refine HW2.o.mono ?_; rintro x w2 ⟨rfl, d0, d1, d2, hbb⟩
      have HB2 := hd hbb
      have HD := hd (And.intro d0 (And.intro d1 d2))
      clear hbb d0 d1 d2
      go_wp2_with fail
      refine (HU.o mn umin hmn hmn0 H1.o g w2 HD.o.1 HD.o.2.1 HD.o.2.2 _ (Below.refl _ _)).mono ?_; rintro x w3 ⟨rfl, hb3⟩; have HB3 := hd hb3; clear hb3
      go_wp2_with (go_at_call 84; refine (N1.o _).mono ?_; rintro x w' ⟨rfl, rfl⟩)
      refine (C1.o _).mono ?_; rintro x w' ⟨rfl, rfl⟩
      go_wp2_with fail
      refine (HU.o mx umax hmx hmx0 H2.o g w2 HD.o.1 HD.o.2.1 HD.o.2.2 _ HB3.o).mono ?_; rintro x w4 ⟨rfl, hb4⟩; have HB4 := hd (bel HB2.o (bel HB3.o hb4)); have HB34 := hd (bel HB3.o hb4); clear hb4
      go_wp2_with fail
      refine (N2.o _).mono ?_; rintro x w' ⟨rfl, rfl⟩
      go_wp2_with fail
      refine (C2.o _).mono ?_; rintro x w' ⟨rfl, rfl⟩
      go_wp2_with (first
        | (go_at_call 83; refine (HU.o M um hM (by omega) H3.o g w2 HD.o.1 HD.o.2.1 HD.o.2.2 _ HB34.o).mono ?_; rintro x w5 ⟨rfl, hb5⟩; have HB5 := hd (bel HB4.o hb5); clear hb5)
        | (go_at_call 87; refine (C3.o _).mono ?_; rintro x w' ⟨rfl, rfl⟩))
      go_ret2
      exact ⟨HB5.o, ret_two (by omega) (by omega)⟩
    · have t2 : ¬ (dmin : Int) < (dmax : Int) := by omega
      rw [if_neg k2]
      clear k2
      go_enter Tryd.func75, Tryd.ntmps75
      go_wp2_with (go_at_call 80; refine (HL.o _).mono ?_; rintro x w' ⟨rfl, rfl⟩)
      refine (HLP.o _).mono ?_; rintro x w' ⟨rfl, rfl⟩
      obtain ⟨g, hgg⟩ : ∃ g, g = w'.heap.size := ⟨_, rfl⟩
      have HW2 := hd (pre_world g i e lq w' HT.o hi hgg he0 he1 hlq0 hlq1 s HS.o)
      rw [← hgg]
      clear hgg
      go_wp2_with fail
      refine HW2.o.mono ?_; rintro x w2 ⟨rfl, d0, d1, d2, hbb⟩
      have HB2 := hd hbb
      have HD := hd (And.intro d0 (And.intro d1 d2))
      clear hbb d0 d1 d2
      go_wp2_with fail
      refine (HU.o mn umin hmn hmn0 H1.o g w2 HD.o.1 HD.o.2.1 HD.o.2.2 _ (Below.refl _ _)).mono ?_; rintro x w3 ⟨rfl, hb3⟩; have HB3 := hd hb3; clear hb3
      go_wp2_with (go_at_call 84; refine (N1.o _).mono ?_; rintro x w' ⟨rfl, rfl⟩)
      refine (C1.o _).mono ?_; rintro x w' ⟨rfl, rfl⟩
      go_wp2_with fail
      refine (HU.o mx umax hmx hmx0 H2.o g w2 HD.o.1 HD.o.2.1 HD.o.2.2 _ HB3.o).mono ?_; rintro x w4 ⟨rfl, hb4⟩; have HB4 := hd (bel HB2.o (bel HB3.o hb4)); have HB34 := hd (bel HB3.o hb4); clear hb4
      go_wp2_with fail
      refine (N2.o _).mono ?_; rintro x w' ⟨rfl, rfl⟩
      go_wp2_with fail
      refine (C2.o _).mono ?_; rintro x w' ⟨rfl, rfl⟩
      go_wp2_with (first
        | (go_at_call 83; refine (HU.o M um hM (by omega) H3.o g w2 HD.o.1 HD.o.2.1 HD.o.2.2 _ HB34.o).mono ?_; rintro x w5 ⟨rfl, hb5⟩; have HB5 := hd (bel HB4.o hb5); clear hb5)
        | (go_at_call 87; refine (C3.o _).mono ?_; rintro x w' ⟨rfl, rfl⟩))
      go_ret2
      exact ⟨HB4.o, ret_two (by omega) (by omega)⟩
set_option maxHeartbeats 4000000 in
set_option maxRecDepth 100000 in
theorem shortC1 (M mn mx umin umax um od i s : Nat) (e lq : Int) (w : World) (hT : Tbl w) (hk : ((M : Int) == 9223372036854775808) = false) (z : Nat) (hE : e < -1085) (hz1 : 12 ≤ z) (hz2 : z ≤ 63) (hz : 11 + (-1085 - e) = (z : Int)) (hkk : decide (-1085 < e) = false) (hl : FS.l10 (e + z) = 348 - (i : Int)) (hmn1 : IntKind.u64.wrap ((M : Int) - IntKind.u64.wrap (2 ^ (z - 1))) = mn) (hmx1 : IntKind.u64.wrap ((M : Int) + IntKind.u64.wrap (2 ^ (z - 1))) = mx) (hod1 : bits .and .i64 (wrap64 ((M : Int) / 2 ^ z)) 1 = (od : Int)) 
    (hM : M < 18446744073709551616) (hM0 : 9223372036854775808 ≤ M) (hi : i < 696) (he0 : -2000 ≤ e) (he1 : e ≤ 1000)
    (hlq : FS.lp ((i : Int) - 348) = lq) (hlq0 : -2000 ≤ lq) (hlq1 : lq ≤ 2000) (hs : -(e + lq + 3) = (s : Int)) (hs63 : s ≤ 63) (hod : od ≤ 1)
    (hmn : mn < 18446744073709551616) (hmn0 : 4611686018427387904 ≤ mn) (hmx : mx < 18446744073709551616) (hmx0 : 4611686018427387904 ≤ mx)
    (h1 : FS.cut mn (FS.hiOf ((i : Int) - 348)) (FS.loOf ((i : Int) - 348)) s = umin) (h2 : FS.cut mx (FS.hiOf ((i : Int) - 348)) (FS.loOf ((i : Int) - 348)) s = umax) (h3 : FS.cut M (FS.hiOf ((i : Int) - 348)) (FS.loOf ((i : Int) - 348)) s = um)
    (b1 : umin ≤ 576460752303423489) (b2 : umax ≤ 576460752303423489) (b3 : um ≤ 576460752303423489) (b4 : 4 ≤ umax) :
    Calls Tryd.prog 75 #[.int .u64 M, .int .i64 e] w fun x w' => Below w.heap.size w w' ∧
      x = .returned (.tuple #[.int .u64 (FS.fineD ((umin + od + 3) / 4) ((umax - od) / 4) ((um + 1 + um / 4 % 2) / 4) : Nat), .int .i64 ((FS.fineT ((umin + od + 3) / 4) ((umax - od) / 4) (748 - i) : Nat) - 400 : Int)]) := by
  have HT := hd hT
  have HLT := hd hT.lt
  have HLP := hd (fun W => by have h := lp_any ((i : Int) - 348) (by omega) (by omega) W; rw [hlq] at h; exact h)
  have HPR := hd (fun W (hb : Below w.heap.size w W) => prescale_any w.heap.size i e lq (W.alloc (.cells #[.int .u64 0, .int .u64 0, .int .i64 0] 125)) ((hT.below hb).below ((Below.refl _ _).alloc (Nat.le_refl _) _)) hi hT.lt)
  have HU := hd (fun (x u : Nat) (hx : x < 18446744073709551616) (hx0 : 4611686018427387904 ≤ x) (hu : FS.cut x (FS.hiOf ((i : Int) - 348)) (FS.loOf ((i : Int) - 348)) s = u) g w2 h0 h1 h2 W hW => us_any x u i s g w2 W hi hx hx0 hs63 hu h0 h1 h2 hW)
  have H1 := hd h1
  have H2 := hd h2
  have H3 := hd h3
  have HS := hd hs
  clear hT hlq h1 h2 h3 hs HPR
  have N1 := hd (fun W => nudge1 umin od (by omega) hod W)
  have N2 := hd (fun W => nudge2 umax od (by omega) hod (by omega) W)
  have C1 := hd (fun W => ceil_any (umin + od) (by omega) W)
  have C2 := hd (fun W => floor_any (umax - od) (by omega) W)
  have C3 := hd (fun W => round_any um (by omega) W)
  have hb1 : (umin + od + 3) / 4 ≤ 144115188075855875 := by omega
  have hb2 : (umax - od) / 4 ≤ 144115188075855875 := by omega
  clear b1 b2 b3 b4
  generalize (umin + od + 3) / 4 = dmin at *
  generalize (umax - od) / 4 = dmax at *
  generalize (um + 1 + um / 4 % 2) / 4 = dr at *
  generalize umin + od = n1 at *
  generalize umax - od = n2 at *
  have HL := hd (fun W => by have h := l10_any (e + z) (by omega) (by omega) W; rw [hl] at h; exact h)
  clear hl
  have hneg : -(348 - (i : Int)) = (i : Int) - 348 := by omega
  have hq : (dmax : Int) / 10 = ((dmax / 10 : Nat) : Int) := by omega
  have hq2 : dmax / 10 ≤ 144115188075855875 := by omega
  have gD : FS.fineD dmin dmax dr = (if dmin ≤ dmax / 10 * 10 then dmax / 10 else if dmin < dmax then dr else dmin) := rfl
  have gT : FS.fineT dmin dmax (748 - i) = (if dmin ≤ dmax / 10 * 10 then 748 - i + 1 else 748 - i) := rfl
  rw [gD, gT]
  clear gD gT
  by_cases k1 : dmin ≤ dmax / 10 * 10
  · have t1 : (dmin : Int) ≤ ((dmax / 10 : Nat) : Int) * 10 := by omega
    rw [if_pos k1, if_pos k1]
    clear k1
    generalize dmax / 10 = dd at *
    go_enter Tryd.func75, Tryd.ntmps75
    go_wp2_with (go_at_call 59; refine (HL.o _).mono ?_; rintro x w' ⟨rfl, rfl⟩)
    refine (HLP.o _).mono ?_; rintro x w' ⟨rfl, rfl⟩
    obtain ⟨g, hgg⟩ : ∃ g, g = w'.heap.size := ⟨_, rfl⟩
    have HW2 := hd (pre_world g i e lq w' HT.o hi hgg he0 he1 hlq0 hlq1 s HS.o)
    rw [← hgg]
    clear hgg
    go_wp2_with fail
    refine HW2.o.mono ?_; rintro x w2 ⟨rfl, d0, d1, d2, hbb⟩
    have HB2 := hd hbb
    have HD := hd (And.intro d0 (And.intro d1 d2))
    clear hbb d0 d1 d2
    go_wp2_with fail
    refine (HU.o mn umin hmn hmn0 H1.o g w2 HD.o.1 HD.o.2.1 HD.o.2.2 _ (Below.refl _ _)).mono ?_; rintro x w3 ⟨rfl, hb3⟩; have HB3 := hd hb3; clear hb3
    go_wp2_with (go_at_call 84; refine (N1.o _).mono ?_; rintro x w' ⟨rfl, rfl⟩)
    refine (C1.o _).mono ?_; rintro x w' ⟨rfl, rfl⟩
    go_wp2_with fail
    refine (HU.o mx umax hmx hmx0 H2.o g w2 HD.o.1 HD.o.2.1 HD.o.2.2 _ HB3.o).mono ?_; rintro x w4 ⟨rfl, hb4⟩; have HB4 := hd (bel HB2.o (bel HB3.o hb4)); have HB34 := hd (bel HB3.o hb4); clear hb4
    go_wp2_with fail
    refine (N2.o _).mono ?_; rintro x w' ⟨rfl, rfl⟩
    go_wp2_with fail
    refine (C2.o _).mono ?_; rintro x w' ⟨rfl, rfl⟩
    go_wp2_with (first
      | (go_at_call 83; refine (HU.o M um hM (by omega) H3.o g w2 HD.o.1 HD.o.2.1 HD.o.2.2 _ HB34.o).mono ?_; rintro x w5 ⟨rfl, hb5⟩; have HB5 := hd (bel HB4.o hb5); clear hb5)
      | (go_at_call 87; refine (C3.o _).mono ?_; rintro x w' ⟨rfl, rfl⟩))
    go_ret2
    exact ⟨HB4.o, ret_two (by omega) (by omega)⟩
  · have t1 : ¬ (dmin : Int) ≤ ((dmax / 10 : Nat) : Int) * 10 := by omega
    rw [if_neg k1, if_neg k1]
    clear k1
    generalize dmax / 10 = dd at *
    by_cases k2 : dmin < dmax
    · have t2 : (dmin : Int) < (dmax : Int) := by omega
      rw [if_pos k2]
      clear k2
      go_enter Tryd.func75, Tryd.ntmps75
      go_wp2_with (go_at_call 59; refine (HL.o _).mono ?_; rintro x w' ⟨rfl, rfl⟩)
      refine (HLP.o _).mono ?_; rintro x w' ⟨rfl, rfl⟩
      obtain ⟨g, hgg⟩ : ∃ g, g = w'.heap.size := ⟨_, rfl⟩
      have HW2 := hd (pre_world g i e lq w' HT.o hi hgg he0 he1 hlq0 hlq1 s HS.o)
      rw [← hgg]
      clear hgg
      go_wp2_with fail
      refine HW2.o.mono ?_; rintro x w2 ⟨rfl, d0, d1, d2, hbb⟩
      have HB2 := hd hbb
      have HD := hd (And.intro d0 (And.intro d1 d2))
      clear hbb d0 d1 d2
      go_wp2_with fail
      refine (HU.o mn umin hmn hmn0 H1.o g w2 HD.o.1 HD.o.2.1 HD.o.2.2 _ (Below.refl _ _)).mono ?_; rintro x w3 ⟨rfl, hb3⟩; have HB3 := hd hb3; clear hb3
      go_wp2_with (go_at_call 84; refine (N1.o _).mono ?_; rintro x w' ⟨rfl, rfl⟩)
      refine (C1.o _).mono ?_; rintro x w' ⟨rfl, rfl⟩
      go_wp2_with fail
      refine (HU.o mx umax hmx hmx0 H2.o g w2 HD.o.1 HD.o.2.1 HD.o.2.2 _ HB3.o).mono ?_; rintro x w4 ⟨rfl, hb4⟩; have HB4 := hd (bel HB2.o (bel HB3.o hb4)); have HB34 := hd (bel HB3.o hb4); clear hb4
      go_wp2_with fail
      refine (N2.o _).mono ?_; rintro x w' ⟨rfl, rfl⟩
      go_wp2_with fail
      refine (C2.o _).mono ?_; rintro x w' ⟨rfl, rfl⟩
      go_wp2_with (first
        | (go_at_call 83; refine (HU.o M um hM (by omega) H3.o g w2 HD.o.1 HD.o.2.1 HD.o.2.2 _ HB34.o).mono ?_; rintro x w5 ⟨rfl, hb5⟩; have HB5 := hd (bel HB4.o hb5); clear hb5)
        | (go_at_call 87; refine (C3.o _).mono ?_; rintro x w' ⟨rfl, rfl⟩))
      go_ret2
      exact ⟨HB5.o, ret_two (by omega) (by omega)⟩
    · have t2 : ¬ (dmin : Int) < (dmax : Int) := by omega
      rw [if_neg k2]
      clear k2
      go_enter Tryd.func75, Tryd.ntmps75
      go_wp2_with (go_at_call 59; refine (HL.o _).mono ?_; rintro x w' ⟨rfl, rfl⟩)
      refine (HLP.o _).mono ?_; rintro x w' ⟨rfl, rfl⟩
      obtain ⟨g, hgg⟩ : ∃ g, g = w'.heap.size := ⟨_, rfl⟩
      have HW2 := hd (pre_world g i e lq w' HT.o hi hgg he0 he1 hlq0 hlq1 s HS.o)
      rw [← hgg]
      clear hgg
      go_wp2_with fail
      refine HW2.o.mono ?_; rintro x w2 ⟨rfl, d0, d1, d2, hbb⟩
      have HB2 := hd hbb
      have HD := hd (And.intro d0 (And.intro d1 d2))
      clear hbb d0 d1 d2
      go_wp2_with fail
      refine (HU.o mn umin hmn hmn0 H1.o g w2 HD.o.1 HD.o.2.1 HD.o.2.2 _ (Below.refl _ _)).mono ?_; rintro x w3 ⟨rfl, hb3⟩; have HB3 := hd hb3; clear hb3
      go_wp2_with (go_at_call 84; refine (N1.o _).mono ?_; rintro x w' ⟨rfl, rfl⟩)
      refine (C1.o _).mono ?_; rintro x w' ⟨rfl, rfl⟩
      go_wp2_with fail
      refine (HU.o mx umax hmx hmx0 H2.o g w2 HD.o.1 HD.o.2.1 HD.o.2.2 _ HB3.o).mono ?_; rintro x w4 ⟨rfl, hb4⟩; have HB4 := hd (bel HB2.o (bel HB3.o hb4)); have HB34 := hd (bel HB3.o hb4); clear hb4
      go_wp2_with fail
      refine (N2.o _).mono ?_; rintro x w' ⟨rfl, rfl⟩
      go_wp2_with fail
      refine (C2.o _).mono ?_; rintro x w' ⟨rfl, rfl⟩
      go_wp2_with (first
        | (go_at_call 83; refine (HU.o M um hM (by omega) H3.o g w2 HD.o.1 HD.o.2.1 HD.o.2.2 _ HB34.o).mono ?_; rintro x w5 ⟨rfl, hb5⟩; have HB5 := hd (bel HB4.o hb5); clear hb5)
        | (go_at_call 87; refine (C3.o _).mono ?_; rintro x w' ⟨rfl, rfl⟩))
      go_ret2
      exact ⟨HB4.o, ret_two (by omega) (by omega)⟩
set_option maxHeartbeats 4000000 in
set_option maxRecDepth 100000 in
theorem shortC2 (M mn mx umin umax um od i s : Nat) (e lq : Int) (w : World) (hT : Tbl w) (hk : ((M : Int) == 9223372036854775808) = true) (z : Nat) (hE : e < -1085) (hz1 : 12 ≤ z) (hz2 : z ≤ 63) (hz : 11 + (-1085 - e) = (z : Int)) (hkk : decide (-1085 < e) = false) (hl : FS.l10 (e + z) = 348 - (i : Int)) (hmn1 : IntKind.u64.wrap ((M : Int) - IntKind.u64.wrap (2 ^ (z - 1))) = mn) (hmx1 : IntKind.u64.wrap ((M : Int) + IntKind.u64.wrap (2 ^ (z - 1))) = mx) (hod1 : bits .and .i64 (wrap64 ((M : Int) / 2 ^ z)) 1 = (od : Int)) 
    (hM : M < 18446744073709551616) (hM0 : 9223372036854775808 ≤ M) (hi : i < 696) (he0 : -2000 ≤ e) (he1 : e ≤ 1000)
    (hlq : FS.lp ((i : Int) - 348) = lq) (hlq0 : -2000 ≤ lq) (hlq1 : lq ≤ 2000) (hs : -(e + lq + 3) = (s : Int)) (hs63 : s ≤ 63) (hod : od ≤ 1)
    (hmn : mn < 18446744073709551616) (hmn0 : 4611686018427387904 ≤ mn) (hmx : mx < 18446744073709551616) (hmx0 : 4611686018427387904 ≤ mx)
    (h1 : FS.cut mn (FS.hiOf ((i : Int) - 348)) (FS.loOf ((i : Int) - 348)) s = umin) (h2 : FS.cut mx (FS.hiOf ((i : Int) - 348)) (FS.loOf ((i : Int) - 348)) s = umax) (h3 : FS.cut M (FS.hiOf ((i : Int) - 348)) (FS.loOf ((i : Int) - 348)) s = um)
    (b1 : umin ≤ 576460752303423489) (b2 : umax ≤ 576460752303423489) (b3 : um ≤ 576460752303423489) (b4 : 4 ≤ umax) :
    Calls Tryd.prog 75 #[.int .u64 M, .int .i64 e] w fun x w' => Below w.heap.size w w' ∧
      x = .returned (.tuple #[.int .u64 (FS.fineD ((umin + od + 3) / 4) ((umax - od) / 4) ((um + 1 + um / 4 % 2) / 4) : Nat), .int .i64 ((FS.fineT ((umin + od + 3) / 4) ((umax - od) / 4) (748 - i) : Nat) - 400 : Int)]) := by
  have HT := hd hT
  have HLT := hd hT.lt
  have HLP := hd (fun W => by have h := lp_any ((i : Int) - 348) (by omega) (by omega) W; rw [hlq] at h; exact h)
  have HPR := hd (fun W (hb : Below w.heap.size w W) => prescale_any w.heap.size i e lq (W.alloc (.cells #[.int .u64 0, .int .u64 0, .int .i64 0] 125)) ((hT.below hb).below ((Below.refl _ _).alloc (Nat.le_refl _) _)) hi hT.lt)
  have HU := hd (fun (x u : Nat) (hx : x < 18446744073709551616) (hx0 : 4611686018427387904 ≤ x) (hu : FS.cut x (FS.hiOf ((i : Int) - 348)) (FS.loOf ((i : Int) - 348)) s = u) g w2 h0 h1 h2 W hW => us_any x u i s g w2 W hi hx hx0 hs63 hu h0 h1 h2 hW)
  have H1 := hd h1
  have H2 := hd h2
  have H3 := hd h3
  have HS := hd hs
  clear hT hlq h1 h2 h3 hs HPR
  have N1 := hd (fun W => nudge1 umin od (by omega) hod W)
  have N2 := hd (fun W => nudge2 umax od (by omega) hod (by omega) W)
  have C1 := hd (fun W => ceil_any (umin + od) (by omega) W)
  have C2 := hd (fun W => floor_any (umax - od) (by omega) W)
  have C3 := hd (fun W => round_any um (by omega) W)
  have hb1 : (umin + od + 3) / 4 ≤ 144115188075855875 := by omega
  have hb2 : (umax - od) / 4 ≤ 144115188075855875 := by omega
  clear b1 b2 b3 b4
  generalize (umin + od + 3) / 4 = dmin at *
  generalize (umax - od) / 4 = dmax at *
  generalize (um + 1 + um / 4 % 2) / 4 = dr at *
  generalize umin + od = n1 at *
  generalize umax - od = n2 at *
  have HL := hd (fun W => by have h := l10_any (e + z) (by omega) (by omega) W; rw [hl] at h; exact h)
  clear hl
  have hneg : -(348 - (i : Int)) = (i : Int) - 348 := by omega
  have hq : (dmax : Int) / 10 = ((dmax / 10 : Nat) : Int) := by omega
  have hq2 : dmax / 10 ≤ 144115188075855875 := by omega
  have gD : FS.fineD dmin dmax dr = (if dmin ≤ dmax / 10 * 10 then dmax / 10 else if dmin < dmax then dr else dmin) := rfl
  have gT : FS.fineT dmin dmax (748 - i) = (if dmin ≤ dmax / 10 * 10 then 748 - i + 1 else 748 - i) := rfl
  rw [gD, gT]
  clear gD gT
  by_cases k1 : dmin ≤ dmax / 10 * 10
  · have t1 : (dmin : Int) ≤ ((dmax / 10 : Nat) : Int) * 10 := by omega
    rw [if_pos k1, if_pos k1]
    clear k1
    generalize dmax / 10 = dd at *
    go_enter Tryd.func75, Tryd.ntmps75
    go_wp2_with (go_at_call 59; refine (HL.o _).mono ?_; rintro x w' ⟨rfl, rfl⟩)
    refine (HLP.o _).mono ?_; rintro x w' ⟨rfl, rfl⟩
    obtain ⟨g, hgg⟩ : ∃ g, g = w'.heap.size := ⟨_, rfl⟩
    have HW2 := hd (pre_world g i e lq w' HT.o hi hgg he0 he1 hlq0 hlq1 s HS.o)
    rw [← hgg]
    clear hgg
    go_wp2_with fail
    refine HW2.o.mono ?_; rintro x w2 ⟨rfl, d0, d1, d2, hbb⟩
    have HB2 := hd hbb
    have HD := hd (And.intro d0 (And.intro d1 d2))
    clear hbb d0 d1 d2
    go_wp2_with fail
    refine (HU.o mn umin hmn hmn0 H1.o g w2 HD.o.1 HD.o.2.1 HD.o.2.2 _ (Below.refl _ _)).mono ?_; rintro x w3 ⟨rfl, hb3⟩; have HB3 := hd hb3; clear hb3
    go_wp2_with (go_at_call 84; refine (N1.o _).mono ?_; rintro x w' ⟨rfl, rfl⟩)
    refine (C1.o _).mono ?_; rintro x w' ⟨rfl, rfl⟩
    go_wp2_with fail
    refine (HU.o mx umax hmx hmx0 H2.o g w2 HD.o.1 HD.o.2.1 HD.o.2.2 _ HB3.o).mono ?_; rintro x w4 ⟨rfl, hb4⟩; have HB4 := hd (bel HB2.o (bel HB3.o hb4)); have HB34 := hd (bel HB3.o hb4); clear hb4
    go_wp2_with fail
    refine (N2.o _).mono ?_; rintro x w' ⟨rfl, rfl⟩
    go_wp2_with fail
    refine (C2.o _).mono ?_; rintro x w' ⟨rfl, rfl⟩
    go_wp2_with (first
      | (go_at_call 83; refine (HU.o M um hM (by omega) H3.o g w2 HD.o.1 HD.o.2.1 HD.o.2.2 _ HB34.o).mono ?_; rintro x w5 ⟨rfl, hb5⟩; have HB5 := hd (bel HB4.o hb5); clear hb5)
      | (go_at_call 87; refine (C3.o _).mono ?_; rintro x w' ⟨rfl, rfl⟩))
    go_ret2
    exact ⟨HB4.o, ret_two (by omega) (by omega)⟩
  · have t1 : ¬ (dmin : Int) ≤ ((dmax / 10 : Nat) : Int) * 10 := by omega
    rw [if_neg k1, if_neg k1]
    clear k1
    generalize dmax / 10 = dd at *
    by_cases k2 : dmin < dmax
    · have t2 : (dmin : Int) < (dmax : Int) := by omega
      rw [if_pos k2]
      clear k2
      go_enter Tryd.func75, Tryd.ntmps75
      go_wp2_with (go_at_call 59; refine (HL.o _).mono ?_; rintro x w' ⟨rfl, rfl⟩)
      refine (HLP.o _).mono ?_; rintro x w' ⟨rfl, rfl⟩
      obtain ⟨g, hgg⟩ : ∃ g, g = w'.heap.size := ⟨_, rfl⟩
      have HW2 := hd (pre_world g i e lq w' HT.o hi hgg he0 he1 hlq0 hlq1 s HS.o)
      rw [← hgg]
      clear hgg
      go_wp2_with fail
      refine HW2.o.mono ?_; rintro x w2 ⟨rfl, d0, d1, d2, hbb⟩
      have HB2 := hd hbb
      have HD := hd (And.intro d0 (And.intro d1 d2))
      clear hbb d0 d1 d2
      go_wp2_with fail
      refine (HU.o mn umin hmn hmn0 H1.o g w2 HD.o.1 HD.o.2.1 HD.o.2.2 _ (Below.refl _ _)).mono ?_; rintro x w3 ⟨rfl, hb3⟩; have HB3 := hd hb3; clear hb3
      go_wp2_with (go_at_call 84; refine (N1.o _).mono ?_; rintro x w' ⟨rfl, rfl⟩)
      refine (C1.o _).mono ?_; rintro x w' ⟨rfl, rfl⟩
      go_wp2_with fail
      refine (HU.o mx umax hmx hmx0 H2.o g w2 HD.o.1 HD.o.2.1 HD.o.2.2 _ HB3.o).mono ?_; rintro x w4 ⟨rfl, hb4⟩; have HB4 := hd (bel HB2.o (bel HB3.o hb4)); have HB34 := hd (bel HB3.o hb4); clear hb4
      go_wp2_with fail
      refine (N2.o _).mono ?_; rintro x w' ⟨rfl, rfl⟩
      go_wp2_with fail
      refine (C2.o _).mono ?_; rintro x w' ⟨rfl, rfl⟩
      go_wp2_with (first
        | (go_at_call 83; refine (HU.o M um hM (by omega) H3.o g w2 HD.o.1 HD.o.2.1 HD.o.2.2 _ HB34.o).mono ?_; rintro x w5 ⟨rfl, hb5⟩; have HB5 := hd (bel HB4.o hb5); clear hb5)
        | (go_at_call 87; refine (C3.o _).mono ?_; rintro x w' ⟨rfl, rfl⟩))
      go_ret2
      exact ⟨HB5.o, ret_two (by omega) (by omega)⟩
    · have t2 : ¬ (dmin : Int) < (dmax : Int) := by omega
      rw [if_neg k2]
      clear k2
      go_enter Tryd.func75, Tryd.ntmps75
      go_wp2_with (go_at_call 59; refine (HL.o _).mono ?_; rintro x w' ⟨rfl, rfl⟩)
      refine (HLP.o _).mono ?_; rintro x w' ⟨rfl, rfl⟩
      obtain ⟨g, hgg⟩ : ∃ g, g = w'.heap.size := ⟨_, rfl⟩
      have HW2 := hd (pre_world g i e lq w' HT.o hi hgg he0 he1 hlq0 hlq1 s HS.o)
      rw [← hgg]
      clear hgg
      go_wp2_with fail
      refine HW2.o.mono ?_; rintro x w2 ⟨rfl, d0, d1, d2, hbb⟩
      have HB2 := hd hbb
      have HD := hd (And.intro d0 (And.intro d1 d2))
      clear hbb d0 d1 d2
      go_wp2_with fail
      refine (HU.o mn umin hmn hmn0 H1.o g w2 HD.o.1 HD.o.2.1 HD.o.2.2 _ (Below.refl _ _)).mono ?_; rintro x w3 ⟨rfl, hb3⟩; have HB3 := hd hb3; clear hb3
      go_wp2_with (go_at_call 84; refine (N1.o _).mono ?_; rintro x w' ⟨rfl, rfl⟩)
      refine (C1.o _).mono ?_; rintro x w' ⟨rfl, rfl⟩
      go_wp2_with fail
      refine (HU.o mx umax hmx hmx0 H2.o g w2 HD.o.1 HD.o.2.1 HD.o.2.2 _ HB3.o).mono ?_; rintro x w4 ⟨rfl, hb4⟩; have HB4 := hd (bel HB2.o (bel HB3.o hb4)); have HB34 := hd (bel HB3.o hb4); clear hb4
      go_wp2_with fail
      refine (N2.o _).mono ?_; rintro x w' ⟨rfl, rfl⟩
      go_wp2_with fail
      refine (C2.o _).mono ?_; rintro x w' ⟨rfl, rfl⟩
      go_wp2_with (first
        | (go_at_call 83; refine (HU.o M um hM (by omega) H3.o g w2 HD.o.1 HD.o.2.1 HD.o.2.2 _ HB34.o).mono ?_; rintro x w5 ⟨rfl, hb5⟩; have HB5 := hd (bel HB4.o hb5); clear hb5)
        | (go_at_call 87; refine (C3.o _).mono ?_; rintro x w' ⟨rfl, rfl⟩))
      go_ret2
      exact ⟨HB4.o, ret_two (by omega) (by omega)⟩
end Go.Proofs.YtcbggkdginfakaaDoor
