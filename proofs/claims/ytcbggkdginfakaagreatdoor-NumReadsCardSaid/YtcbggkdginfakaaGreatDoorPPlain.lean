/- num.Bits, Same, Order, ToInt and the reference's; weirlaw02.NumPlain's walk. -/
import Derived.Test.YtcbggkdginfakaaGreatDoorPAlive
import Derived.Test.YtcbggkdginfakaaGreatDoorFParts
import Derived.Test.YtcbggkdginfakaaGreatDoorPFst
namespace Go.Proofs.YtcbggkdginfakaaGreatDoor
open Go.RowKit
set_option linter.unusedVariables false
set_option linter.unusedSimpArgs false
theorem FO.isN_iff {f : Nat} : FO.isN f = true ↔ FS.ex f = 2047 ∧ FS.mt f ≠ 0 := by
  unfold FO.isN FO.rg FO.INF FS.ex FS.mt
  rw [decide_eq_true_iff]
  omega
theorem FS.bitsOf_eq (f : Nat) : FS.bitsOf f = if FO.isN f then 9221120237041090561 else f := by
  unfold FS.bitsOf
  by_cases c : FO.isN f = true
  · rw [if_pos c, if_pos (FO.isN_iff.1 c)]
  · rw [if_neg c, if_neg (fun h => c (FO.isN_iff.2 h))]
def FO.same (f g : Nat) : Bool := FS.bitsOf f == FS.bitsOf g
theorem natCast_beq (a b : Nat) : ((a : Int) == (b : Int)) = (a == b) := by
  rw [Bool.eq_iff_iff, beq_iff_eq, beq_iff_eq]; omega
set_option maxRecDepth 10000 in
set_option maxHeartbeats 1000000 in
theorem refsame_any (f g : Nat) (w : World) (hf : f < 18446744073709551616) (hg : g < 18446744073709551616) :
    Calls Tryz.prog 47 #[.float .f64 f, .float .f64 g] w fun e w' => e = .returned (.bool (FO.same f g)) ∧ w = w' := by
  have H1 := hd (refbits_any f w hf)
  have H2 := hd (refbits_any g w hg)
  have h3 := natCast_beq (FS.bitsOf f) (FS.bitsOf g)
  have h4 : Hd (FO.same f g = (FS.bitsOf f == FS.bitsOf g)) := hd rfl
  generalize FS.bitsOf f = x at *
  generalize FS.bitsOf g = y at *
  clear hf hg
  go_enter Tryz.func47, Tryz.ntmps47
  go_wp2_with (first | (go_at_call 90; (with_reducible refine H1.o.mono ?_); rintro e w' ⟨rfl, rfl⟩) | (go_at_call 90; (with_reducible refine H2.o.mono ?_); rintro e w' ⟨rfl, rfl⟩))
  go_ret
  exact ⟨by rw [h4.o, ← h3]; rfl, rfl⟩
/-- NaN first, then by size -/
def FO.ord (f g : Nat) : Int := if FO.isN f && FO.isN g then 0 else if FO.isN f then -1 else if FO.isN g then 1 else if FO.kr f < FO.kr g then -1 else if FO.kr g < FO.kr f then 1 else 0
set_option maxRecDepth 10000 in
set_option maxHeartbeats 1000000 in
theorem order_any (f g : Nat) (w : World) (hf : f < 18446744073709551616) (hg : g < 18446744073709551616) :
    Calls Tryz.prog 60 #[.float .f64 f, .float .f64 g] w fun e w' => e = .returned (.int .i64 (FO.ord f g)) ∧ w = w' := by
  have a1 := (FO.self_eq hf).2
  have a2 := (FO.self_eq hg).2
  have a3 := FO.lt_eq hf hg
  have a4 := FO.gt_eq hf hg
  have a5 := (FO.self_eq hf).1
  have a6 := (FO.self_eq hg).1
  have h4 : Hd (FO.ord f g = _) := hd (by unfold FO.ord; rfl)
  clear hf hg
  cases c1 : FO.isN f <;> cases c2 : FO.isN g <;> rw [c1] at a1 a3 a4 h4 a5 <;> rw [c2] at a2 a3 a4 h4 a6 <;> clear c1 c2
  · by_cases l1 : FO.kr f < FO.kr g
    · have h5 : Hd (FO.ord f g = -1) := hd (by rw [h4.o]; simp [l1])
      have b3 : (FloatKind.f64.format.order f g == some Ordering.lt) = true := by rw [a3]; simp [l1]
      clear a3 a4 h4 l1
      go_enter Tryz.func60, Tryz.ntmps60
      go_wp2
      go_ret
      rw [h5.o]
      exact ⟨rfl, rfl⟩
    · have b3 : (FloatKind.f64.format.order f g == some Ordering.lt) = false := by rw [a3]; simp; omega
      by_cases l2 : FO.kr g < FO.kr f
      · have h5 : Hd (FO.ord f g = 1) := hd (by rw [h4.o]; simp [l1, l2])
        have b4 : (FloatKind.f64.format.order f g == some Ordering.gt) = true := by rw [a4]; simp [l2]
        clear a3 a4 h4 l1 l2
        go_enter Tryz.func60, Tryz.ntmps60
        go_wp2
        go_ret
        rw [h5.o]
        exact ⟨rfl, rfl⟩
      · have h5 : Hd (FO.ord f g = 0) := hd (by rw [h4.o]; simp [l1, l2])
        have b4 : (FloatKind.f64.format.order f g == some Ordering.gt) = false := by rw [a4]; simp; omega
        clear a3 a4 h4 l1 l2
        go_enter Tryz.func60, Tryz.ntmps60
        go_wp2
        go_ret
        rw [h5.o]
        exact ⟨rfl, rfl⟩
  · have h5 : Hd (FO.ord f g = 1) := hd (by rw [h4.o]; rfl)
    clear a3 a4 h4
    go_enter Tryz.func60, Tryz.ntmps60
    go_wp2
    go_ret
    rw [h5.o]
    exact ⟨rfl, rfl⟩
  · have h5 : Hd (FO.ord f g = -1) := hd (by rw [h4.o]; rfl)
    clear a3 a4 h4
    go_enter Tryz.func60, Tryz.ntmps60
    go_wp2
    go_ret
    rw [h5.o]
    exact ⟨rfl, rfl⟩
  · have h5 : Hd (FO.ord f g = 0) := hd (by rw [h4.o]; rfl)
    clear a3 a4 h4
    go_enter Tryz.func60, Tryz.ntmps60
    go_wp2
    go_ret
    rw [h5.o]
    exact ⟨rfl, rfl⟩
def FO.place (f : Nat) : Int := if FO.isN f then -9223372036854775808 else FO.kr f
theorem FO.kr_lt {f : Nat} : -9223372036854775808 < FO.kr f ∧ FO.kr f < 9223372036854775808 := by
  unfold FO.kr FO.rg; split <;> omega
theorem FO.ord_place (f g : Nat) : FO.ord f g = if FO.place f < FO.place g then -1 else if FO.place g < FO.place f then 1 else 0 := by
  unfold FO.ord FO.place
  have h1 := @FO.kr_lt f
  have h2 := @FO.kr_lt g
  cases FO.isN f <;> cases FO.isN g <;> simp
  · rw [if_neg (by omega), if_pos (by omega)]
  · omega
theorem FO.vl_m {r : Nat} (h : r < FS.INF) : FS.mOf r * 2 ^ (FS.eOf r + 1074).toNat = FO.vl r := by
  rcases FS.split52 r h with c | ⟨K, t, rfl, ht, hK⟩
  · obtain ⟨e1, e2⟩ := FS.mOf_low c
    rw [e1, e2]; unfold FO.vl; rw [if_pos c]; exact Nat.mul_one r
  · obtain ⟨e1, e2⟩ := FS.mOf_high ht hK
    obtain ⟨e3, e4⟩ := FO.two52 K t ht
    rw [e1, e2]; unfold FO.vl; rw [if_neg (by omega), e3, e4]
theorem FO.eOf_hi {r : Nat} (h : r < FS.INF) : 10 < FS.eOf r ↔ FO.R63 ≤ r := by
  unfold FO.R63
  rcases FS.split52 r h with c | ⟨K, t, rfl, ht, hK⟩
  · obtain ⟨e1, e2⟩ := FS.mOf_low c
    omega
  · obtain ⟨e1, e2⟩ := FS.mOf_high ht hK
    omega
theorem FO.rg_bits {f : Nat} : IntKind.u64.wrap ((f : Int) * 2) / 2 = ((FO.rg f : Nat) : Int) := by
  unfold FO.rg
  rw [IntKind.wrap_u64]; omega
theorem same0_any (a : Nat) (w : World) : Calls Tryz.prog 23 #[.float .f64 a, .float .f64 a] w fun e w' => e = .returned (.bool true) ∧ w = w' := by
  have q := mbits_run a
  go_enter Tryz.func23, Tryz.ntmps23
  go_wp2
  go_ret
  exact ⟨rfl, rfl⟩
end Go.Proofs.YtcbggkdginfakaaGreatDoor
