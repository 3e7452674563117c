/- parts and Bits of the reference (weirref02/ref.go). shortest of the reference (weirref02/show.go). -/
import Derived.Test.YteckfdohgiddgaaGreatDoorFShow
import Derived.Test.YteckfdohgiddgaaGreatDoorFDG
namespace Go.Proofs.YteckfdohgiddgaaGreatDoor
open Go.RowKit
set_option linter.unusedVariables false
set_option linter.unusedSimpArgs false
set_option maxRecDepth 100000 in
set_option maxHeartbeats 1000000 in
theorem parts_any (b : Nat) (w : World) (hb : b < 9223372036854775808) :
    Calls Tryz.prog 148 #[.int .u64 (b : Int)] w fun e w' => e = .returned (.tuple #[.int .u64 (FS.mOf b : Int), .int .i64 (FS.eOf b)]) ∧ w = w' := by
  have hb1 : (b : Int) < 9223372036854775808 := by omega
  have hq1 : (b : Int) / 4503599627370496 < 2048 := by omega
  have hq0 : 0 ≤ (b : Int) / 4503599627370496 := by omega
  by_cases c : FS.ex b = 0
  · have c0 := c
    unfold FS.ex at c
    have hx : ((b : Int) / 4503599627370496 == 0) = true := by simp; omega
    have e1 : Hd (FS.mOf b = b ∧ FS.eOf b = -1074) := hd (by
      unfold FS.mOf FS.eOf FS.mt
      rw [if_pos c0, if_pos c0]
      omega)
    clear c c0
    go_enter Tryz.func148, Tryz.ntmps148
    go_wp2
    go_ret2
    rw [e1.o.1, e1.o.2]
    exact ⟨rfl, rfl⟩
  · have c0 := c
    unfold FS.ex at c
    have hx : ((b : Int) / 4503599627370496 == 0) = false := by simp; omega
    have q1 := and_mt b (by omega)
    have q2 := or_mt b
    have e1 : Hd ((FS.mOf b : Int) = ((FS.mt b + 4503599627370496 : Nat) : Int) ∧ FS.eOf b = (b : Int) / 4503599627370496 - 1075) := hd (by
      unfold FS.mOf FS.eOf
      rw [if_neg c0, if_neg c0]
      unfold FS.ex
      omega)
    clear c c0
    go_enter Tryz.func148, Tryz.ntmps148
    go_wp2
    go_ret2
    rw [e1.o.1, e1.o.2]
    exact ⟨rfl, rfl⟩
/-- the bits, one pattern for all NaNs -/
def FS.bitsOf (f : Nat) : Nat := if FS.ex f = 2047 ∧ FS.mt f ≠ 0 then 9221120237041090561 else f
set_option maxRecDepth 10000 in
set_option maxHeartbeats 1000000 in
theorem refbits_any (f : Nat) (w : World) (hf : f < 18446744073709551616) :
    Calls Tryz.prog 87 #[.float .f64 f] w fun e w' => e = .returned (.int .u64 (FS.bitsOf f : Int)) ∧ w = w' := by
  have q1 := mbits_run f
  have e1 : Hd (18437736874454810624 < IntKind.u64.wrap ((f : Int) * 2) → (FS.bitsOf f : Int) = 9221120237041090561) := hd fun h => by
    rw [IntKind.wrap_u64] at h
    have h2 : FS.ex f = 2047 ∧ FS.mt f ≠ 0 := by unfold FS.ex FS.mt; omega
    unfold FS.bitsOf; rw [if_pos h2]; rfl
  have e2 : Hd (IntKind.u64.wrap ((f : Int) * 2) ≤ 18437736874454810624 → (FS.bitsOf f : Int) = f) := hd fun h => by
    rw [IntKind.wrap_u64] at h
    have h2 : ¬ (FS.ex f = 2047 ∧ FS.mt f ≠ 0) := by unfold FS.ex FS.mt; omega
    unfold FS.bitsOf; rw [if_neg h2]
  go_enter Tryz.func87, Tryz.ntmps87
  go_wp2
  all_goals
    rename_i h
    go_ret
    first | rw [e1.o h] | rw [e2.o h]
    exact ⟨rfl, rfl⟩
end Go.Proofs.YteckfdohgiddgaaGreatDoor
namespace Go.Proofs.YteckfdohgiddgaaGreatDoor
open Go.RowKit
set_option linter.unusedVariables false
set_option linter.unusedSimpArgs false
theorem NV.al {w : World} {v : Value} {N : Nat} {ob : Obj} (h : NV w v N) : NV (w.alloc ob) v N := h.below ((Below.refl _ _).alloc (Nat.le_refl _) _)
theorem NV.as {w : World} {v : Value} {N M : Nat} (h : NV w v N) (e : N = M) : NV w v M := e ▸ h
namespace FS
end FS
end Go.Proofs.YteckfdohgiddgaaGreatDoor
