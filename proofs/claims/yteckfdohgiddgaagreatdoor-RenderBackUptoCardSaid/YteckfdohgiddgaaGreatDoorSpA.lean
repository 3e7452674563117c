/- Durations in plain lists; span.digit, span.run, unit.name, unit.size, unitAt, saturated and weirref03.digit, run, unit, many. -/
import Derived.Test.YteckfdohgiddgaaGreatDoorPPref
namespace Go.Proofs.YteckfdohgiddgaaGreatDoor
open Go.RowKit
set_option linter.unusedVariables false
set_option linter.unusedSimpArgs false
namespace SP
def ix (c : Nat) : Nat := if c = 121 then 0 else if c = 119 then 1 else if c = 100 then 2 else if c = 104 then 3 else if c = 109 then 4 else if c = 115 then 5 else 7
def h115 : List UInt8 → Bool
  | [] => false
  | c :: _ => decide (c.toNat = 115)
/-- the unit at the head: its number (7: none) and its length -/
def un : List UInt8 → Nat × Nat
  | [] => (7, 0)
  | c :: r => if c.toNat = 109 ∧ h115 r = true then (6, 2) else if ix c.toNat = 7 then (7, 0) else (ix c.toNat, 1)
def each : Nat → Nat
  | 0 => 31536000000
  | 1 => 604800000
  | 2 => 86400000
  | 3 => 3600000
  | 4 => 60000
  | 5 => 1000
  | _ => 1
def MD : Nat := 315360000000000
def dv (l : List UInt8) : Nat := l.foldl (fun a c => a * 10 + (c.toNat - 48)) 0
/-- the parts at the head, the units from next on: how long, how many milliseconds -/
def M (l : List UInt8) (next : Nat) : Nat × Nat :=
  if PN.spn PN.dg l = 0 ∨ (un (l.drop (PN.spn PN.dg l))).1 < next ∨ 7 ≤ (un (l.drop (PN.spn PN.dg l))).1 then (0, 0)
  else (PN.spn PN.dg l + (un (l.drop (PN.spn PN.dg l))).2 + (M (l.drop (PN.spn PN.dg l + (un (l.drop (PN.spn PN.dg l))).2)) ((un (l.drop (PN.spn PN.dg l))).1 + 1)).1,
    dv (l.take (PN.spn PN.dg l)) * each (un (l.drop (PN.spn PN.dg l))).1 + (M (l.drop (PN.spn PN.dg l + (un (l.drop (PN.spn PN.dg l))).2)) ((un (l.drop (PN.spn PN.dg l))).1 + 1)).2)
termination_by 8 - next
decreasing_by all_goals omega
/-- what a duration's text means: its error, its milliseconds -/
def err (l : List UInt8) : Int := if 64 < l.length then 1 else if l = [] ∨ (M l 0).1 ≠ l.length then 30 else if MD < (M l 0).2 then 31 else 0
def val (l : List UInt8) : Int := if err l = 0 then ((M l 0).2 : Int) else 0
end SP
theorem s3digit_any (c : Nat) (w : World) (h : c < 256) :
    Calls Tryz.prog 137 #[.int .u8 c] w fun e w' => e = .returned (.bool (PN.dg c)) ∧ w = w' := by
  by_cases h1 : 48 ≤ c ∧ c ≤ 57
  · have G : Hd (PN.dg c = true) := hd <| by unfold PN.dg; simp [h1]
    obtain ⟨a1, a2⟩ := h1
    go_enter Tryz.func137, Tryz.ntmps137
    go_wp2
    go_ret
    exact ⟨ret_bool (by first | exact G.o.symm | (rw [G.o]; simp; omega)), rfl⟩
  · have G : Hd (PN.dg c = false) := hd <| by unfold PN.dg; simp [h1]
    go_enter Tryz.func137, Tryz.ntmps137
    go_wp2
    all_goals first | (exfalso; omega) | (go_ret; exact ⟨ret_bool (by first | exact G.o.symm | (rw [G.o]; simp; omega)), rfl⟩)
set_option maxHeartbeats 1000000 in
theorem s3run_any (s : ByteArray) (i : Nat) (w : World) (hs : s.size ≤ 1125899906842624) (hi : i ≤ s.size) :
    Calls Tryz.prog 135 #[.string s, .int .i64 i] w fun e w' => e = .returned (.int .i64 ((i + PN.spn PN.dg (s.data.toList.drop i) : Nat) : Int)) ∧ w = w' := by
  go_enter Tryz.func135, Tryz.ntmps135
  go_wp2
  go_loop [1] (fun x => ∃ k : Nat, k ≤ s.size ∧ x = .int .i64 k ∧ Hd (k + PN.spn PN.dg (s.data.toList.drop k) = i + PN.spn PN.dg (s.data.toList.drop i))) (fun x => s.size - (intOf x).toNat)
  case atStart => exact ⟨i, hi, rfl, hd rfl⟩
  case round =>
    obtain ⟨k, hk, rfl, hG⟩ := hrel
    by_cases hlt : k < s.size
    · have HDR := hd (data_drop' s k hlt)
      have hc : (s[k]'hlt).toNat < 256 := (s[k]'hlt).toNat_lt
      have YES : Hd (PN.dg (s[k]'hlt).toNat = true → (k + 1) + PN.spn PN.dg (s.data.toList.drop (k + 1)) = i + PN.spn PN.dg (s.data.toList.drop i)) := hd fun h => by
        rw [← hG.o, HDR.o, PN.spn_yes h]; omega
      have NO : Hd (PN.dg (s[k]'hlt).toNat = false → k = i + PN.spn PN.dg (s.data.toList.drop i)) := hd fun h => by
        rw [← hG.o, HDR.o, PN.spn_no h]; rfl
      clear hG HDR
      cases hl : PN.dg (s[k]'hlt).toNat with
      | true =>
        have V := hd hl
        have G := hd (YES.o hl)
        clear YES NO hl
        go_wp2_with (go_at_call 137; refine (s3digit_any _ _ hc).mono ?_; rintro e w' ⟨rfl, rfl⟩; rw [V.o])
        go_round
        case rel => exact ⟨k + 1, by omega, by go_num, G⟩
        case measure => simp [intOf]; omega
      | false =>
        have V := hd hl
        have G := hd (NO.o hl)
        clear YES NO hl
        go_wp2_with (go_at_call 137; refine (s3digit_any _ _ hc).mono ?_; rintro e w' ⟨rfl, rfl⟩; rw [V.o])
        go_ret
        exact ⟨ret_int (by have := G.o; omega), rfl⟩
    · have G : Hd (k = i + PN.spn PN.dg (s.data.toList.drop i)) := hd <| by
        rw [← hG.o, List.drop_eq_nil_of_le (by rw [← Lib.size_eq]; omega), PN.spn_nil]; rfl
      go_wp2
      go_ret
      exact ⟨ret_int (by have := G.o; omega), rfl⟩
end Go.Proofs.YteckfdohgiddgaaGreatDoor
