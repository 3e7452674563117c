/- num.Bits, Same, Order, ToInt and the reference's; weirlaw02.NumPlain's walk. -/
import Derived.Test.YtibmgmgdbicdlaaGreatDoorPAlive
import Derived.Test.YtibmgmgdbicdlaaGreatDoorFParts
import Derived.Test.YtibmgmgdbicdlaaGreatDoorPFst
namespace Go.Proofs.YtibmgmgdbicdlaaGreatDoor
open Go.RowKit
set_option linter.unusedVariables false
set_option linter.unusedSimpArgs false
theorem FO.isN_iff {f : Nat} : FO.isN f = true ↔ FS.ex f = 2047 ∧ FS.mt f ≠ 0 := by
  unfold FO.isN FO.rg FO.INF FS.ex FS.mt
  rw [decide_eq_true_iff]
  omega
theorem FS.bitsOf_eq (f : Nat) : FS.bitsOf f = if FO.isN f then 9221120237041090561 else f := by
  unfold FS.bitsOf
  by_cases c : FO.isN f = true
  · rw [if_pos c, if_pos (FO.isN_iff.1 c)]
  · rw [if_neg c, if_neg (fun h => c (FO.isN_iff.2 h))]
set_option maxRecDepth 10000 in
set_option maxHeartbeats 1000000 in
theorem bits_any (f : Nat) (w : World) (hf : f < 18446744073709551616) :
    Calls Tryz.prog 17 #[.float .f64 f] w fun e w' => e = .returned (.int .u64 (FS.bitsOf f : Int)) ∧ w = w' := by
  have q1 := mbits_run f
  have q2 := (FO.self_eq hf).2
  have e1 := hd (FS.bitsOf_eq f)
  cases c : FO.isN f
  · rw [c] at q2
    have e2 : Hd (FS.bitsOf f = f) := hd (by rw [e1.o, c]; rfl)
    clear e1 c hf
    go_enter Tryz.func17, Tryz.ntmps17
    go_wp2
    go_ret
    rw [e2.o]
    exact ⟨rfl, rfl⟩
  · rw [c] at q2
    have e2 : Hd (FS.bitsOf f = 9221120237041090561) := hd (by rw [e1.o, c]; rfl)
    clear e1 c hf
    go_enter Tryz.func17, Tryz.ntmps17
    go_wp2
    go_ret
    rw [e2.o]
    exact ⟨rfl, rfl⟩
def FO.same (f g : Nat) : Bool := FS.bitsOf f == FS.bitsOf g
theorem natCast_beq (a b : Nat) : ((a : Int) == (b : Int)) = (a == b) := by
  rw [Bool.eq_iff_iff, beq_iff_eq, beq_iff_eq]; omega
set_option maxRecDepth 10000 in
set_option maxHeartbeats 1000000 in
theorem same_any (f g : Nat) (w : World) (hf : f < 18446744073709551616) (hg : g < 18446744073709551616) :
    Calls Tryz.prog 21 #[.float .f64 f, .float .f64 g] w fun e w' => e = .returned (.bool (FO.same f g)) ∧ w = w' := by
  have H1 := hd (bits_any f w hf)
  have H2 := hd (bits_any g w hg)
  have h3 := natCast_beq (FS.bitsOf f) (FS.bitsOf g)
  have h4 : Hd (FO.same f g = (FS.bitsOf f == FS.bitsOf g)) := hd rfl
  generalize FS.bitsOf f = x at *
  generalize FS.bitsOf g = y at *
  clear hf hg
  go_enter Tryz.func21, Tryz.ntmps21
  go_wp2_with (first | (go_at_call 17; (with_reducible refine H1.o.mono ?_); rintro e w' ⟨rfl, rfl⟩) | (go_at_call 17; (with_reducible refine H2.o.mono ?_); rintro e w' ⟨rfl, rfl⟩))
  go_ret
  exact ⟨by rw [h4.o, ← h3]; rfl, rfl⟩
set_option maxRecDepth 10000 in
set_option maxHeartbeats 1000000 in
theorem refsame_any (f g : Nat) (w : World) (hf : f < 18446744073709551616) (hg : g < 18446744073709551616) :
    Calls Tryz.prog 22 #[.float .f64 f, .float .f64 g] w fun e w' => e = .returned (.bool (FO.same f g)) ∧ w = w' := by
  have H1 := hd (refbits_any f w hf)
  have H2 := hd (refbits_any g w hg)
  have h3 := natCast_beq (FS.bitsOf f) (FS.bitsOf g)
  have h4 : Hd (FO.same f g = (FS.bitsOf f == FS.bitsOf g)) := hd rfl
  generalize FS.bitsOf f = x at *
  generalize FS.bitsOf g = y at *
  clear hf hg
  go_enter Tryz.func22, Tryz.ntmps22
  go_wp2_with (first | (go_at_call 18; (with_reducible refine H1.o.mono ?_); rintro e w' ⟨rfl, rfl⟩) | (go_at_call 18; (with_reducible refine H2.o.mono ?_); rintro e w' ⟨rfl, rfl⟩))
  go_ret
  exact ⟨by rw [h4.o, ← h3]; rfl, rfl⟩
/-- NaN first, then by size -/
def FO.ord (f g : Nat) : Int := if FO.isN f && FO.isN g then 0 else if FO.isN f then -1 else if FO.isN g then 1 else if FO.kr f < FO.kr g then -1 else if FO.kr g < FO.kr f then 1 else 0
set_option maxRecDepth 10000 in
set_option maxHeartbeats 1000000 in
theorem order_any (f g : Nat) (w : World) (hf : f < 18446744073709551616) (hg : g < 18446744073709551616) :
    Calls Tryz.prog 23 #[.float .f64 f, .float .f64 g] w fun e w' => e = .returned (.int .i64 (FO.ord f g)) ∧ w = w' := by
  have a1 := (FO.self_eq hf).2
  have a2 := (FO.self_eq hg).2
  have a3 := FO.lt_eq hf hg
  have a4 := FO.gt_eq hf hg
  have a5 := (FO.self_eq hf).1
  have a6 := (FO.self_eq hg).1
  have h4 : Hd (FO.ord f g = _) := hd (by unfold FO.ord; rfl)
  clear hf hg
  cases c1 : FO.isN f <;> cases c2 : FO.isN g <;> rw [c1] at a1 a3 a4 h4 a5 <;> rw [c2] at a2 a3 a4 h4 a6 <;> clear c1 c2
  · by_cases l1 : FO.kr f < FO.kr g
    · have h5 : Hd (FO.ord f g = -1) := hd (by rw [h4.o]; simp [l1])
      have b3 : (FloatKind.f64.format.order f g == some Ordering.lt) = true := by rw [a3]; simp [l1]
      clear a3 a4 h4 l1
      go_enter Tryz.func23, Tryz.ntmps23
      go_wp2
      go_ret
      rw [h5.o]
      exact ⟨rfl, rfl⟩
    · have b3 : (FloatKind.f64.format.order f g == some Ordering.lt) = false := by rw [a3]; simp; omega
      by_cases l2 : FO.kr g < FO.kr f
      · have h5 : Hd (FO.ord f g = 1) := hd (by rw [h4.o]; simp [l1, l2])
        have b4 : (FloatKind.f64.format.order f g == some Ordering.gt) = true := by rw [a4]; simp [l2]
        clear a3 a4 h4 l1 l2
        go_enter Tryz.func23, Tryz.ntmps23
        go_wp2
        go_ret
        rw [h5.o]
        exact ⟨rfl, rfl⟩
      · have h5 : Hd (FO.ord f g = 0) := hd (by rw [h4.o]; simp [l1, l2])
        have b4 : (FloatKind.f64.format.order f g == some Ordering.gt) = false := by rw [a4]; simp; omega
        clear a3 a4 h4 l1 l2
        go_enter Tryz.func23, Tryz.ntmps23
        go_wp2
        go_ret
        rw [h5.o]
        exact ⟨rfl, rfl⟩
  · have h5 : Hd (FO.ord f g = 1) := hd (by rw [h4.o]; rfl)
    clear a3 a4 h4
    go_enter Tryz.func23, Tryz.ntmps23
    go_wp2
    go_ret
    rw [h5.o]
    exact ⟨rfl, rfl⟩
  · have h5 : Hd (FO.ord f g = -1) := hd (by rw [h4.o]; rfl)
    clear a3 a4 h4
    go_enter Tryz.func23, Tryz.ntmps23
    go_wp2
    go_ret
    rw [h5.o]
    exact ⟨rfl, rfl⟩
  · have h5 : Hd (FO.ord f g = 0) := hd (by rw [h4.o]; rfl)
    clear a3 a4 h4
    go_enter Tryz.func23, Tryz.ntmps23
    go_wp2
    go_ret
    rw [h5.o]
    exact ⟨rfl, rfl⟩
def FO.place (f : Nat) : Int := if FO.isN f then -9223372036854775808 else FO.kr f
set_option maxRecDepth 10000 in
set_option maxHeartbeats 1000000 in
theorem place_any (f : Nat) (w : World) (hf : f < 18446744073709551616) :
    Calls Tryz.prog 54 #[.float .f64 f] w fun e w' => e = .returned (.int .i64 (FO.place f)) ∧ w = w' := by
  have H1 := hd (refbits_any f w hf)
  have e1 := FS.bitsOf_eq f
  cases c : FO.isN f
  · rw [c, if_neg (by simp)] at e1
    have hne : ((f : Int) == 9221120237041090561) = false := by
      rw [beq_eq_false_iff_ne]; intro h
      have : f = 9221120237041090561 := by omega
      subst this
      revert c; decide
    have hrg : FO.rg f = f % 9223372036854775808 := rfl
    by_cases s : 9223372036854775808 ≤ f
    · have h5 : Hd (FO.place f = -((f : Int) - 9223372036854775808)) := hd (by unfold FO.place FO.kr FO.sg; rw [c, decide_eq_true s, hrg]; simp; omega)
      have g1 : ((f : Int) / 9223372036854775808 == 1) = true := by rw [beq_iff_eq]; omega
      have g2 : IntKind.u64.wrap ((f : Int) * 2) / 2 = (f : Int) - 9223372036854775808 := by rw [IntKind.wrap_u64]; omega
      have g3 : (f : Int) - 9223372036854775808 < 9223372036854775808 := by omega
      have g4 : 0 ≤ (f : Int) - 9223372036854775808 := by omega
      rw [e1] at H1
      clear e1 c hf s hrg
      generalize (f : Int) - 9223372036854775808 = z at *
      go_enter Tryz.func54, Tryz.ntmps54
      go_wp2_with (go_at_call 18; (with_reducible refine H1.o.mono ?_); rintro e w' ⟨rfl, rfl⟩)
      go_ret
      rw [h5.o]
      exact ⟨rfl, rfl⟩
    · have h5 : Hd (FO.place f = f) := hd (by unfold FO.place FO.kr FO.sg; rw [c, decide_eq_false s, hrg]; simp; omega)
      have g1 : ((f : Int) / 9223372036854775808 == 1) = false := by rw [beq_eq_false_iff_ne]; omega
      have g3 : (f : Int) < 9223372036854775808 := by omega
      rw [e1] at H1
      clear e1 c hf s hrg
      go_enter Tryz.func54, Tryz.ntmps54
      go_wp2_with (go_at_call 18; (with_reducible refine H1.o.mono ?_); rintro e w' ⟨rfl, rfl⟩)
      go_ret
      rw [h5.o]
      exact ⟨rfl, rfl⟩
  · rw [c, if_pos rfl] at e1
    have h5 : Hd (FO.place f = -9223372036854775808) := hd (by unfold FO.place; rw [c]; rfl)
    rw [e1] at H1
    clear e1 c hf
    go_enter Tryz.func54, Tryz.ntmps54
    go_wp2_with (go_at_call 18; (with_reducible refine H1.o.mono ?_); rintro e w' ⟨rfl, rfl⟩)
    go_ret
    rw [h5.o]
    exact ⟨rfl, rfl⟩
theorem FO.kr_lt {f : Nat} : -9223372036854775808 < FO.kr f ∧ FO.kr f < 9223372036854775808 := by
  unfold FO.kr FO.rg; split <;> omega
theorem FO.ord_place (f g : Nat) : FO.ord f g = if FO.place f < FO.place g then -1 else if FO.place g < FO.place f then 1 else 0 := by
  unfold FO.ord FO.place
  have h1 := @FO.kr_lt f
  have h2 := @FO.kr_lt g
  cases FO.isN f <;> cases FO.isN g <;> simp
  · rw [if_neg (by omega), if_pos (by omega)]
  · omega
set_option maxRecDepth 10000 in
set_option maxHeartbeats 1000000 in
theorem reforder_any (f g : Nat) (w : World) (hf : f < 18446744073709551616) (hg : g < 18446744073709551616) :
    Calls Tryz.prog 24 #[.float .f64 f, .float .f64 g] w fun e w' => e = .returned (.int .i64 (FO.ord f g)) ∧ w = w' := by
  have H1 := hd (place_any f w hf)
  have H2 := hd (place_any g w hg)
  have h4 := hd (FO.ord_place f g)
  generalize FO.place f = x at *
  generalize FO.place g = y at *
  clear hf hg
  rcases Int.lt_trichotomy x y with c | c | c
  · have h5 : Hd (FO.ord f g = -1) := hd (by rw [h4.o]; simp [c])
    clear h4
    go_enter Tryz.func24, Tryz.ntmps24
    go_wp2_with (first | (go_at_call 54; (with_reducible refine H1.o.mono ?_); rintro e w' ⟨rfl, rfl⟩) | (go_at_call 54; (with_reducible refine H2.o.mono ?_); rintro e w' ⟨rfl, rfl⟩))
    go_ret
    rw [h5.o]
    exact ⟨rfl, rfl⟩
  · have h5 : Hd (FO.ord f g = 0) := hd (by rw [h4.o]; subst c; simp)
    have c1 : ¬ x < y := by omega
    have c2 : ¬ y < x := by omega
    clear h4 c
    go_enter Tryz.func24, Tryz.ntmps24
    go_wp2_with (first | (go_at_call 54; (with_reducible refine H1.o.mono ?_); rintro e w' ⟨rfl, rfl⟩) | (go_at_call 54; (with_reducible refine H2.o.mono ?_); rintro e w' ⟨rfl, rfl⟩))
    go_ret
    rw [h5.o]
    exact ⟨rfl, rfl⟩
  · have h5 : Hd (FO.ord f g = 1) := hd (by rw [h4.o, if_neg (by omega), if_pos c])
    have c1 : ¬ x < y := by omega
    clear h4
    go_enter Tryz.func24, Tryz.ntmps24
    go_wp2_with (first | (go_at_call 54; (with_reducible refine H1.o.mono ?_); rintro e w' ⟨rfl, rfl⟩) | (go_at_call 54; (with_reducible refine H2.o.mono ?_); rintro e w' ⟨rfl, rfl⟩))
    go_ret
    rw [h5.o]
    exact ⟨rfl, rfl⟩
set_option maxRecDepth 10000 in
set_option maxHeartbeats 1000000 in
theorem toInt_any (f : Nat) (w : World) (hf : f < 18446744073709551616) :
    Calls Tryz.prog 15 #[.float .f64 f] w fun e w' => e = .returned (.tuple #[.int .i64 (FO.toI f).1, .bool (FO.toI f).2]) ∧ w = w' := by
  have h1 := FO.ok_eq hf
  cases c : (FO.toI f).2
  · rw [c] at h1
    have h2 : Hd ((FO.toI f).1 = 0) := hd (by
      unfold FO.toI at c ⊢
      split at c
      · cases c
      · rename_i h; rw [if_neg h]
        split at c
        · rename_i h; rw [if_pos h]
        · cases c)
    clear c hf
    rw [h2.o]
    generalize ha : (FloatKind.f64.format.order f 14114281232179134464 == some Ordering.gt) = a at *
    generalize hb : (FloatKind.f64.format.order f 14114281232179134464 == some Ordering.eq) = b at *
    generalize hc : (FloatKind.f64.format.order f 4890909195324358656 == some Ordering.lt) = c at *
    cases a <;> cases b <;> cases c <;> first | (exact absurd h1 (by decide)) | skip
    all_goals
      clear h1 h2
      go_enter Tryz.func15, Tryz.ntmps15
      go_wp2
      go_ret2
      exact ⟨rfl, rfl⟩
  · rw [c] at h1
    have h2 := FO.conv_eq hf c
    have h3 := fun W : World => run_convert_float_int (P := Tryz.prog) W 24 2 .f64 .i64 f _ (by kernel_rfl) (by kernel_rfl) h2
    clear c hf h2
    generalize (FO.toI f).1 = t at *
    generalize ha : (FloatKind.f64.format.order f 14114281232179134464 == some Ordering.gt) = a at *
    generalize hb : (FloatKind.f64.format.order f 14114281232179134464 == some Ordering.eq) = b at *
    generalize hc : (FloatKind.f64.format.order f 4890909195324358656 == some Ordering.lt) = c at *
    cases a <;> cases b <;> cases c <;> first | (exact absurd h1 (by decide)) | skip
    all_goals
      clear h1
      go_enter Tryz.func15, Tryz.ntmps15
      go_wp2
      go_ret2
      exact ⟨rfl, rfl⟩
theorem FO.vl_m {r : Nat} (h : r < FS.INF) : FS.mOf r * 2 ^ (FS.eOf r + 1074).toNat = FO.vl r := by
  rcases FS.split52 r h with c | ⟨K, t, rfl, ht, hK⟩
  · obtain ⟨e1, e2⟩ := FS.mOf_low c
    rw [e1, e2]; unfold FO.vl; rw [if_pos c]; exact Nat.mul_one r
  · obtain ⟨e1, e2⟩ := FS.mOf_high ht hK
    obtain ⟨e3, e4⟩ := FO.two52 K t ht
    rw [e1, e2]; unfold FO.vl; rw [if_neg (by omega), e3, e4]
theorem FO.eOf_hi {r : Nat} (h : r < FS.INF) : 10 < FS.eOf r ↔ FO.R63 ≤ r := by
  unfold FO.R63
  rcases FS.split52 r h with c | ⟨K, t, rfl, ht, hK⟩
  · obtain ⟨e1, e2⟩ := FS.mOf_low c
    omega
  · obtain ⟨e1, e2⟩ := FS.mOf_high ht hK
    omega
theorem FO.rg_bits {f : Nat} : IntKind.u64.wrap ((f : Int) * 2) / 2 = ((FO.rg f : Nat) : Int) := by
  unfold FO.rg
  rw [IntKind.wrap_u64]; omega
set_option maxRecDepth 100000 in
set_option maxHeartbeats 1000000 in
/-- too great, or no number -/
theorem reftoInt_no (f B r : Nat) (m : Nat) (e : Int) (w : World) (hB : FS.bitsOf f = B) (HB : Hd (Calls Tryz.prog 18 #[.float .f64 f] w fun e w' => e = .returned (.int .u64 (B : Int)) ∧ w = w'))
    (HP : Hd (∀ w, Calls Tryz.prog 52 #[.int .u64 (r : Int)] w fun x w' => x = .returned (.tuple #[.int .u64 (m : Int), .int .i64 e]) ∧ w = w')) (hr : IntKind.u64.wrap ((B : Int) * 2) / 2 = (r : Int))
    (h1 : ((B : Int) == 14114281232179134464) = false) (n : Bool) (hn : ((B : Int) == 9221120237041090561) = n) (hx : n = true ∨ 10 < e) :
    Calls Tryz.prog 16 #[.float .f64 f] w fun e w' => e = .returned (.tuple #[.int .i64 0, .bool false]) ∧ w = w' := by
  clear hB
  cases n
  · have hx := hx.resolve_left (by decide)
    go_enter Tryz.func16, Tryz.ntmps16
    go_wp2_with (first | (go_at_call 18; (with_reducible refine HB.o.mono ?_); rintro e w ⟨rfl, rfl⟩) | (go_at_call 52; refine (HP.o _).mono ?_; rintro e w' ⟨rfl, rfl⟩))
    go_ret2
    exact ⟨rfl, rfl⟩
  · clear hx
    go_enter Tryz.func16, Tryz.ntmps16
    go_wp2_with (first | (go_at_call 18; (with_reducible refine HB.o.mono ?_); rintro e w ⟨rfl, rfl⟩) | (go_at_call 52; refine (HP.o _).mono ?_; rintro e w' ⟨rfl, rfl⟩))
    go_ret2
    exact ⟨rfl, rfl⟩
set_option maxRecDepth 100000 in
set_option maxHeartbeats 1000000 in
theorem reftoInt_yes (f r : Nat) (m : Nat) (e : Int) (W : Nat) (w : World) (HB : Hd (Calls Tryz.prog 18 #[.float .f64 f] w fun e w' => e = .returned (.int .u64 (f : Int)) ∧ w = w'))
    (HP : Hd (∀ w, Calls Tryz.prog 52 #[.int .u64 (r : Int)] w fun x w' => x = .returned (.tuple #[.int .u64 (m : Int), .int .i64 e]) ∧ w = w')) (hr : IntKind.u64.wrap ((f : Int) * 2) / 2 = (r : Int))
    (h1 : ((f : Int) == 14114281232179134464) = false) (hn : ((f : Int) == 9221120237041090561) = false) (he : e ≤ 10) (he0 : -1074 ≤ e) (sg : Bool) (hs : ((f : Int) / 9223372036854775808 == 1) = sg) (hW : W < 9223372036854775808) (hm : m < 9007199254740992)
    (hw : m * 2 ^ e.toNat / 2 ^ (-e).toNat = W) :
    Calls Tryz.prog 16 #[.float .f64 f] w fun e w' => e = .returned (.tuple #[.int .i64 (if sg then -(W : Int) else W), .bool true]) ∧ w = w' := by
  have hWI : (W : Int) < 9223372036854775808 := by omega
  by_cases c : 0 ≤ e
  · obtain ⟨t, rfl⟩ : ∃ t : Nat, e = t := ⟨e.toNat, by omega⟩
    rw [Int.toNat_natCast, show (-(t : Int)).toNat = 0 by omega, Nat.pow_zero, Nat.div_one] at hw
    have q : IntKind.u64.wrap ((m : Int) * 2 ^ t) = (W : Int) := by
      rw [show ((m : Int) * 2 ^ t) = ((m * 2 ^ t : Nat) : Int) by push_cast; rfl, hw, IntKind.wrap_u64]; omega
    have ht : (t : Int) ≤ 10 := he
    have w1 : IntKind.i64.wrap (W : Int) = W := by simp [IntKind.wrap, IntKind.bits, IntKind.signed]; omega
    have w2 : wrap64 (W : Int) = W := by unfold wrap64; omega
    have w3 : wrap64 (-(W : Int)) = -(W : Int) := by unfold wrap64; omega
    clear hw hm he0 he hW hWI
    cases sg
    all_goals
      go_enter Tryz.func16, Tryz.ntmps16
      go_wp2_with (first | (go_at_call 18; (with_reducible refine HB.o.mono ?_); rintro e w ⟨rfl, rfl⟩) | (go_at_call 52; refine (HP.o _).mono ?_; rintro e w' ⟨rfl, rfl⟩))
      go_ret2
      exact ⟨rfl, rfl⟩
  · by_cases c2 : -64 < e
    · obtain ⟨t, rfl⟩ : ∃ t : Nat, e = -(t : Int) := ⟨(-e).toNat, by omega⟩
      rw [show (-(t : Int)).toNat = 0 by omega, Nat.pow_zero, Nat.mul_one, Int.neg_neg, Int.toNat_natCast] at hw
      have q : (m : Int) / 2 ^ t = (W : Int) := by
        rw [show ((m : Int) / 2 ^ t) = ((m / 2 ^ t : Nat) : Int) by push_cast; rfl, hw]
      have ht : (t : Int) < 64 := by omega
      have ht0 : (0 : Int) < t := by omega
      have hc : ¬ 0 ≤ -(t : Int) := c
      have w1 : IntKind.i64.wrap (W : Int) = W := by simp [IntKind.wrap, IntKind.bits, IntKind.signed]; omega
      have w2 : wrap64 (W : Int) = W := by unfold wrap64; omega
      have w3 : wrap64 (-(W : Int)) = -(W : Int) := by unfold wrap64; omega
      clear hw hm he0 he c hW hWI
      cases sg
      all_goals
        go_enter Tryz.func16, Tryz.ntmps16
        go_wp2_with (first | (go_at_call 18; (with_reducible refine HB.o.mono ?_); rintro e w ⟨rfl, rfl⟩) | (go_at_call 52; refine (HP.o _).mono ?_; rintro e w' ⟨rfl, rfl⟩))
        go_ret2
        exact ⟨rfl, rfl⟩
    · have hW0 : W = 0 := by
        rw [← hw, show e.toNat = 0 by omega, Nat.pow_zero, Nat.mul_one]
        apply Nat.div_eq_of_lt
        have : 2 ^ 64 ≤ 2 ^ (-e).toNat := Nat.pow_le_pow_right (by decide) (by omega)
        omega
      subst hW0
      clear hw hm hW hWI
      cases sg
      all_goals
        go_enter Tryz.func16, Tryz.ntmps16
        go_wp2_with (first | (go_at_call 18; (with_reducible refine HB.o.mono ?_); rintro e w ⟨rfl, rfl⟩) | (go_at_call 52; refine (HP.o _).mono ?_; rintro e w' ⟨rfl, rfl⟩))
        go_ret2
        exact ⟨rfl, rfl⟩
set_option maxRecDepth 100000 in
theorem reftoInt_min (w : World) :
    Calls Tryz.prog 16 #[.float .f64 14114281232179134464] w fun e w' => e = .returned (.tuple #[.int .i64 (-9223372036854775808), .bool true]) ∧ w = w' := by
  have HB := hd (refbits_any 14114281232179134464 w (by decide))
  have e : FS.bitsOf 14114281232179134464 = 14114281232179134464 := by decide
  rw [e] at HB
  go_enter Tryz.func16, Tryz.ntmps16
  go_wp2_with (first | (go_at_call 18; (with_reducible refine HB.o.mono ?_); rintro e w ⟨rfl, rfl⟩))
  go_ret2
  exact ⟨rfl, rfl⟩
theorem reftoInt_any (f : Nat) (w : World) (hf : f < 18446744073709551616) :
    Calls Tryz.prog 16 #[.float .f64 f] w fun e w' => e = .returned (.tuple #[.int .i64 (FO.toI f).1, .bool (FO.toI f).2]) ∧ w = w' := by
  by_cases c : f = 14114281232179134464
  · subst c; exact reftoInt_min w
  · have hB := refbits_any f w hf
    have eB := FS.bitsOf_eq f
    have hI : FS.INF = 9218868437227405312 := rfl
    have hr : FO.rg f < 9223372036854775808 := Nat.mod_lt _ (by decide)
    by_cases n : FO.isN f = true
    · have n1 : FO.INF < FO.rg f := of_decide_eq_true n
      have hI2 : FO.INF = 9218868437227405312 := rfl
      have h63 : FO.R63 = 4890909195324358656 := rfl
      have hT : FO.toI f = (0, false) := by unfold FO.toI; rw [if_neg c, if_pos (by omega)]
      rw [n, if_pos rfl] at eB
      rw [hT]
      rw [eB] at hB
      exact reftoInt_no f 9221120237041090561 9221120237041090561 _ _ w eB (hd hB) (hd (fun w => parts_any 9221120237041090561 w (by decide))) (by rw [IntKind.wrap_u64]; rfl) (by decide) true (by decide) (.inl rfl)
    · rw [if_neg n] at eB
      rw [eB] at hB
      have n1 : FO.rg f ≤ FO.INF := by
        have : ¬ FO.INF < FO.rg f := fun h => n (decide_eq_true h)
        omega
      have hI2 : FO.INF = 9218868437227405312 := rfl
      have h63 : FO.R63 = 4890909195324358656 := rfl
      have k1 : ((f : Int) == 14114281232179134464) = false := by rw [beq_eq_false_iff_ne]; omega
      have k2 : ((f : Int) == 9221120237041090561) = false := by
        rw [beq_eq_false_iff_ne]; intro h
        have : f = 9221120237041090561 := by omega
        subst this
        exact n (by decide)
      by_cases big : FO.R63 ≤ FO.rg f
      · have hT : FO.toI f = (0, false) := by unfold FO.toI; rw [if_neg c, if_pos big]
        rw [hT]
        refine reftoInt_no f f (FO.rg f) _ _ w eB (hd hB) (hd (fun w => parts_any (FO.rg f) w hr)) FO.rg_bits k1 false k2 (.inr ?_)
        by_cases i : FO.rg f = FO.INF
        · rw [i]; decide
        · exact (FO.eOf_hi (r := FO.rg f) (by omega)).2 big
      · have hT : FO.toI f = (if FO.sg f then -(FO.whole f : Int) else FO.whole f, true) := by unfold FO.toI; rw [if_neg c, if_neg big]
        rw [hT]
        have e10 : ¬ 10 < FS.eOf (FO.rg f) := fun h => big ((FO.eOf_hi (r := FO.rg f) (by omega)).1 h)
        have eg := FS.eOf_ge (FO.rg f)
        refine reftoInt_yes f (FO.rg f) _ _ (FO.whole f) w (hd hB) (hd (fun w => parts_any (FO.rg f) w hr)) FO.rg_bits k1 k2 (by omega) eg (FO.sg f) ?_ (FO.whole_lt (by omega)) ?_ ?_
        · unfold FO.sg
          by_cases s : 9223372036854775808 ≤ f
          · rw [decide_eq_true s, beq_iff_eq]; omega
          · rw [decide_eq_false s, beq_eq_false_iff_ne]; omega
        · unfold FS.mOf FS.mt; split <;> omega
        · exact FO.whole_of eg (FO.vl_m (by omega))
theorem frombits_any (a : Nat) (w : World) : Calls Tryz.prog 19 #[.int .u64 (a : Int)] w fun e w' => e = .returned (.float .f64 a) ∧ w = w' := by
  have q := mfrom_run a
  go_enter Tryz.func19, Tryz.ntmps19
  go_wp2
  go_ret
  exact ⟨rfl, rfl⟩
theorem same0_any (a : Nat) (w : World) : Calls Tryz.prog 20 #[.float .f64 a, .float .f64 a] w fun e w' => e = .returned (.bool true) ∧ w = w' := by
  have q := mbits_run a
  go_enter Tryz.func20, Tryz.ntmps20
  go_wp2
  go_ret
  exact ⟨rfl, rfl⟩
set_option maxRecDepth 100000 in
set_option maxHeartbeats 2000000 in
theorem numPlain_walk (a b : Nat) (w : World) (ha : a < 18446744073709551616) (hb : b < 18446744073709551616) (G : Glb w) (hT : Tbl w) :
    Calls Tryz.prog 3 #[.int .u64 (a : Int), .int .u64 (b : Int)] w fun e w' => e = .returned (.bool true) ∧ Below w.heap.size w w' := by
  have HA := hd (alive_any w G hT)
  have q1 := mfrom_run a
  have q2 := mfrom_run b
  have H1 := hd (fun w => toInt_any a w ha)
  have H2 := hd (fun w => reftoInt_any a w ha)
  have H3 := hd (fun w => bits_any a w ha)
  have H4 := hd (fun w => refbits_any a w ha)
  have H5 := hd (fun w => same_any a b w ha hb)
  have H6 := hd (fun w => refsame_any a b w ha hb)
  have H7 := hd (fun w => order_any a b w ha hb)
  have H8 := hd (fun w => reforder_any a b w ha hb)
  clear G hT ha hb
  generalize (FO.toI a).1 = n at *
  generalize (FO.toI a).2 = ok at *
  generalize FS.bitsOf a = ba at *
  generalize FO.same a b = sm at *
  generalize FO.ord a b = od at *
  cases ok <;> cases sm
  all_goals
    go_enter Tryz.func3, Tryz.ntmps3
    go_wp2_with (first
      | (go_at_call 13; refine HA.o.mono ?_; rintro e w1 ⟨rfl, h1⟩; have B1 := hd h1; clear h1)
      | (go_at_call 15; refine (H1.o _).mono ?_; rintro e w' ⟨rfl, rfl⟩)
      | (go_at_call 16; refine (H2.o _).mono ?_; rintro e w' ⟨rfl, rfl⟩)
      | (go_at_call 17; refine (H3.o _).mono ?_; rintro e w' ⟨rfl, rfl⟩)
      | (go_at_call 18; refine (H4.o _).mono ?_; rintro e w' ⟨rfl, rfl⟩)
      | (go_at_call 19; refine (frombits_any a _).mono ?_; rintro e w' ⟨rfl, rfl⟩)
      | (go_at_call 20; refine (same0_any a _).mono ?_; rintro e w' ⟨rfl, rfl⟩)
      | (go_at_call 21; refine (H5.o _).mono ?_; rintro e w' ⟨rfl, rfl⟩)
      | (go_at_call 22; refine (H6.o _).mono ?_; rintro e w' ⟨rfl, rfl⟩)
      | (go_at_call 23; refine (H7.o _).mono ?_; rintro e w' ⟨rfl, rfl⟩)
      | (go_at_call 24; refine (H8.o _).mono ?_; rintro e w' ⟨rfl, rfl⟩))
    go_ret
    exact ⟨rfl, B1.o⟩
end Go.Proofs.YtibmgmgdbicdlaaGreatDoor
