/- The walks of utf.Literal: where a literal ends, by one word. The walk of utf. .. -/
import Derived.Test.YtieknenhfeejiaaGreatDoorUMa
import Derived.Test.YtieknenhfeejiaaGreatDoorBase3
import Derived.StillTailTactics
import Derived.Deep.RegionLaw
import Derived.Test.YtieknenhfeejiaaGreatDoorBase5
namespace Go.Proofs.YtieknenhfeejiaaGreatDoor
open Go.RowKit
set_option linter.unusedVariables false
set_option linter.unusedSimpArgs false
theorem ret_twoL {a b c d : Int} (h1 : a = c) (h2 : b = d) : Ending.returned (.tuple #[.int .i64 a, .int .i64 b]) = .returned (.tuple #[.int .i64 c, .int .i64 d]) := by rw [h1, h2]

set_option maxHeartbeats 800000 in
theorem lit_34 (s : ByteArray) (i : Nat) (w : World) (hs : s.size ≤ 1125899906842624) (hi : i < s.size) (hq : U.at' s i = 34) :
  Calls Tryz.prog 53 #[.string s, .int .i64 i] w fun e w' => e = .returned (.tuple #[.int .i64 (U.litR (U.lit s 34 (i + 1))).1, .int .i64 (U.litR (U.lit s 34 (i + 1))).2]) ∧ w = w' := by
 have hdd : decide (s.size ≤ i) = false := by simpa using hi
 have hq' : ((s[i]'hi).toNat : Int) = 34 := by rw [← U.at_eq s i hi, hq]; rfl
 clear hq
 go_enter Tryz.func53, Tryz.ntmps53
 go_wp2
 go_loop [7] (fun x => ∃ p : Nat, p ≤ s.size + 1 ∧ x = .int .i64 p ∧ Hd (U.lit s 34 p = U.lit s 34 (i + 1))) (fun x => s.size + 1 - (intOf x).toNat)
 case atStart => exact ⟨i + 1, by omega, by go_num, hd rfl⟩
 case round =>
  obtain ⟨p, hp, rfl, hl⟩ := hrel
  by_cases hlt : p < s.size
  ·have ep := U.at_eq s p hlt
   by_cases h1 : U.at' s p = 34
   ·have b1 : (((s[p]'hlt).toNat : Int) == 34) = true := by rw [← ep, h1]; rfl
    have G : Hd (U.litR (U.lit s 34 (i + 1)) = ((p : Int) + 1, 0)) := hd <| by rw [← hl.o, U.lit_hit s 34 p hlt h1]; rfl
    clear ep h1
    go_wp2
    go_ret2
    exact ⟨ret_twoL (by rw [G.o]) (by rw [G.o]), rfl⟩
   have b1 : (((s[p]'hlt).toNat : Int) == 34) = false := by rw [beq_eq_false_iff_ne, ← ep]; omega
   by_cases h2 : U.at' s p = 10
   ·have b2 : (((s[p]'hlt).toNat : Int) == 10) = true := by rw [← ep, h2]; rfl
    have G : Hd (U.litR (U.lit s 34 (i + 1)) = (0, 10)) := hd <| by rw [← hl.o, U.lit_nl s 34 p hlt h1 (by omega) h2]; rfl
    clear ep h1 h2
    go_wp2
    go_ret2
    exact ⟨ret_twoL (by rw [G.o]) (by rw [G.o]), rfl⟩
   have b2 : (((s[p]'hlt).toNat : Int) == 10) = false := by rw [beq_eq_false_iff_ne, ← ep]; omega
   by_cases h3 : U.at' s p = 92
   ·have b3 : (((s[p]'hlt).toNat : Int) == 92) = true := by rw [← ep, h3]; rfl
    by_cases h4 : p + 1 < s.size
    ·have ep1 := U.at_eq s (p + 1) h4
     by_cases h5 : U.at' s (p + 1) = 10
     ·have b5 : (((s[p + 1]'h4).toNat : Int) == 10) = true := by rw [← ep1, h5]; rfl
      have G : Hd (U.litR (U.lit s 34 (i + 1)) = (0, 10)) := hd <| by rw [← hl.o, U.lit_esc_nl s 34 p h4 h1 (by omega) h3 h5]; rfl
      clear ep ep1 h1 h2 h3 h5
      go_wp2
      go_ret2
      exact ⟨ret_twoL (by rw [G.o]) (by rw [G.o]), rfl⟩
     ·have b5 : (((s[p + 1]'h4).toNat : Int) == 10) = false := by rw [beq_eq_false_iff_ne, ← ep1]; omega
      have G : Hd (U.lit s 34 (p + 2) = U.lit s 34 (i + 1)) := hd <| by rw [← hl.o, U.lit_esc s 34 p hlt h1 (by omega) h3 (fun h => h5 h.2)]
      clear ep ep1 h1 h2 h3 h5
      go_wp2
      go_round
      case rel => exact ⟨p + 2, by omega, by go_num, G⟩
      case measure => simp [intOf]; omega
    ·have G : Hd (U.lit s 34 (p + 2) = U.lit s 34 (i + 1)) := hd <| by rw [← hl.o, U.lit_esc s 34 p hlt h1 (by omega) h3 (fun h => h4 h.1)]
     clear ep h1 h2 h3
     go_wp2
     go_round
     case rel => exact ⟨p + 2, by omega, by go_num, G⟩
     case measure => simp [intOf]; omega
   ·have b3 : (((s[p]'hlt).toNat : Int) == 92) = false := by rw [beq_eq_false_iff_ne, ← ep]; omega
    have G : Hd (U.lit s 34 (p + 1) = U.lit s 34 (i + 1)) := hd <| by rw [← hl.o, U.lit_step s 34 p hlt h1 (by omega) h2 h3]
    clear ep h1 h2 h3
    go_wp2
    go_round
    case rel => exact ⟨p + 1, by omega, by go_num, G⟩
    case measure => simp [intOf]; omega
  ·have G : Hd (U.litR (U.lit s 34 (i + 1)) = (0, 10)) := hd <| by rw [← hl.o, U.lit_end s 34 p hlt]; rfl
   go_wp2
   go_ret2
   exact ⟨ret_twoL (by rw [G.o]) (by rw [G.o]), rfl⟩

set_option maxHeartbeats 800000 in
theorem lit_39 (s : ByteArray) (i : Nat) (w : World) (hs : s.size ≤ 1125899906842624) (hi : i < s.size) (hq : U.at' s i = 39) :
  Calls Tryz.prog 53 #[.string s, .int .i64 i] w fun e w' => e = .returned (.tuple #[.int .i64 (U.litR (U.lit s 39 (i + 1))).1, .int .i64 (U.litR (U.lit s 39 (i + 1))).2]) ∧ w = w' := by
 have hdd : decide (s.size ≤ i) = false := by simpa using hi
 have hq' : ((s[i]'hi).toNat : Int) = 39 := by rw [← U.at_eq s i hi, hq]; rfl
 clear hq
 go_enter Tryz.func53, Tryz.ntmps53
 go_wp2
 go_loop [7] (fun x => ∃ p : Nat, p ≤ s.size + 1 ∧ x = .int .i64 p ∧ Hd (U.lit s 39 p = U.lit s 39 (i + 1))) (fun x => s.size + 1 - (intOf x).toNat)
 case atStart => exact ⟨i + 1, by omega, by go_num, hd rfl⟩
 case round =>
  obtain ⟨p, hp, rfl, hl⟩ := hrel
  by_cases hlt : p < s.size
  ·have ep := U.at_eq s p hlt
   by_cases h1 : U.at' s p = 39
   ·have b1 : (((s[p]'hlt).toNat : Int) == 39) = true := by rw [← ep, h1]; rfl
    have G : Hd (U.litR (U.lit s 39 (i + 1)) = ((p : Int) + 1, 0)) := hd <| by rw [← hl.o, U.lit_hit s 39 p hlt h1]; rfl
    clear ep h1
    go_wp2
    go_ret2
    exact ⟨ret_twoL (by rw [G.o]) (by rw [G.o]), rfl⟩
   have b1 : (((s[p]'hlt).toNat : Int) == 39) = false := by rw [beq_eq_false_iff_ne, ← ep]; omega
   by_cases h2 : U.at' s p = 10
   ·have b2 : (((s[p]'hlt).toNat : Int) == 10) = true := by rw [← ep, h2]; rfl
    have G : Hd (U.litR (U.lit s 39 (i + 1)) = (0, 10)) := hd <| by rw [← hl.o, U.lit_nl s 39 p hlt h1 (by omega) h2]; rfl
    clear ep h1 h2
    go_wp2
    go_ret2
    exact ⟨ret_twoL (by rw [G.o]) (by rw [G.o]), rfl⟩
   have b2 : (((s[p]'hlt).toNat : Int) == 10) = false := by rw [beq_eq_false_iff_ne, ← ep]; omega
   by_cases h3 : U.at' s p = 92
   ·have b3 : (((s[p]'hlt).toNat : Int) == 92) = true := by rw [← ep, h3]; rfl
    by_cases h4 : p + 1 < s.size
    ·have ep1 := U.at_eq s (p + 1) h4
     by_cases h5 : U.at' s (p + 1) = 10
     ·have b5 : (((s[p + 1]'h4).toNat : Int) == 10) = true := by rw [← ep1, h5]; rfl
      have G : Hd (U.litR (U.lit s 39 (i + 1)) = (0, 10)) := hd <| by rw [← hl.o, U.lit_esc_nl s 39 p h4 h1 (by omega) h3 h5]; rfl
      clear ep ep1 h1 h2 h3 h5
      go_wp2
      go_ret2
      exact ⟨ret_twoL (by rw [G.o]) (by rw [G.o]), rfl⟩
     ·have b5 : (((s[p + 1]'h4).toNat : Int) == 10) = false := by rw [beq_eq_false_iff_ne, ← ep1]; omega
      have G : Hd (U.lit s 39 (p + 2) = U.lit s 39 (i + 1)) := hd <| by rw [← hl.o, U.lit_esc s 39 p hlt h1 (by omega) h3 (fun h => h5 h.2)]
      clear ep ep1 h1 h2 h3 h5
      go_wp2
      go_round
      case rel => exact ⟨p + 2, by omega, by go_num, G⟩
      case measure => simp [intOf]; omega
    ·have G : Hd (U.lit s 39 (p + 2) = U.lit s 39 (i + 1)) := hd <| by rw [← hl.o, U.lit_esc s 39 p hlt h1 (by omega) h3 (fun h => h4 h.1)]
     clear ep h1 h2 h3
     go_wp2
     go_round
     case rel => exact ⟨p + 2, by omega, by go_num, G⟩
     case measure => simp [intOf]; omega
   ·have b3 : (((s[p]'hlt).toNat : Int) == 92) = false := by rw [beq_eq_false_iff_ne, ← ep]; omega
    have G : Hd (U.lit s 39 (p + 1) = U.lit s 39 (i + 1)) := hd <| by rw [← hl.o, U.lit_step s 39 p hlt h1 (by omega) h2 h3]
    clear ep h1 h2 h3
    go_wp2
    go_round
    case rel => exact ⟨p + 1, by omega, by go_num, G⟩
    case measure => simp [intOf]; omega
  ·have G : Hd (U.litR (U.lit s 39 (i + 1)) = (0, 10)) := hd <| by rw [← hl.o, U.lit_end s 39 p hlt]; rfl
   go_wp2
   go_ret2
   exact ⟨ret_twoL (by rw [G.o]) (by rw [G.o]), rfl⟩

set_option maxHeartbeats 800000 in
theorem lit_96 (s : ByteArray) (i : Nat) (w : World) (hs : s.size ≤ 1125899906842624) (hi : i < s.size) (hq : U.at' s i = 96) :
  Calls Tryz.prog 53 #[.string s, .int .i64 i] w fun e w' => e = .returned (.tuple #[.int .i64 (U.litR (U.lit s 96 (i + 1))).1, .int .i64 (U.litR (U.lit s 96 (i + 1))).2]) ∧ w = w' := by
 have hdd : decide (s.size ≤ i) = false := by simpa using hi
 have hq' : ((s[i]'hi).toNat : Int) = 96 := by rw [← U.at_eq s i hi, hq]; rfl
 clear hq
 go_enter Tryz.func53, Tryz.ntmps53
 go_wp2
 go_loop [7] (fun x => ∃ p : Nat, p ≤ s.size + 1 ∧ x = .int .i64 p ∧ Hd (U.lit s 96 p = U.lit s 96 (i + 1))) (fun x => s.size + 1 - (intOf x).toNat)
 case atStart => exact ⟨i + 1, by omega, by go_num, hd rfl⟩
 case round =>
  obtain ⟨p, hp, rfl, hl⟩ := hrel
  by_cases hlt : p < s.size
  ·have ep := U.at_eq s p hlt
   by_cases h1 : U.at' s p = 96
   ·have b1 : (((s[p]'hlt).toNat : Int) == 96) = true := by rw [← ep, h1]; rfl
    have G : Hd (U.litR (U.lit s 96 (i + 1)) = ((p : Int) + 1, 0)) := hd <| by rw [← hl.o, U.lit_hit s 96 p hlt h1]; rfl
    clear ep h1
    go_wp2
    go_ret2
    exact ⟨ret_twoL (by rw [G.o]) (by rw [G.o]), rfl⟩
   have b1 : (((s[p]'hlt).toNat : Int) == 96) = false := by rw [beq_eq_false_iff_ne, ← ep]; omega
   have G : Hd (U.lit s 96 (p + 1) = U.lit s 96 (i + 1)) := hd <| by rw [← hl.o, U.lit_raw s p hlt h1]
   clear ep h1
   go_wp2
   go_round
   case rel => exact ⟨p + 1, by omega, by go_num, G⟩
   case measure => simp [intOf]; omega
  ·have G : Hd (U.litR (U.lit s 96 (i + 1)) = (0, 10)) := hd <| by rw [← hl.o, U.lit_end s 96 p hlt]; rfl
   go_wp2
   go_ret2
   exact ⟨ret_twoL (by rw [G.o]) (by rw [G.o]), rfl⟩

theorem lit_no (s : ByteArray) (i : Nat) (w : World) (hs : s.size ≤ 1125899906842624) (hi : i < s.size) (hq : U.at' s i ≠ 34 ∧ U.at' s i ≠ 39 ∧ U.at' s i ≠ 96) :
  Calls Tryz.prog 53 #[.string s, .int .i64 i] w fun e w' => e = .returned (.tuple #[.int .i64 0, .int .i64 10]) ∧ w = w' := by
 have hdd : decide (s.size ≤ i) = false := by simpa using hi
 have ep := U.at_eq s i hi
 have b1 : (((s[i]'hi).toNat : Int) != 34) = true := by rw [bne_iff_ne, ← ep]; omega
 have b2 : (((s[i]'hi).toNat : Int) != 39) = true := by rw [bne_iff_ne, ← ep]; omega
 have b3 : (((s[i]'hi).toNat : Int) != 96) = true := by rw [bne_iff_ne, ← ep]; omega
 clear ep hq
 go_enter Tryz.func53, Tryz.ntmps53
 go_wp2
 go_ret2
 exact ⟨rfl, rfl⟩
theorem lit_any (s : ByteArray) (i : Int) (w : World) (hs : s.size ≤ 1125899906842624) :
  Calls Tryz.prog 53 #[.string s, .int .i64 i] w fun e w' => e = .returned (.tuple #[.int .i64 (U.literal s i).1, .int .i64 (U.literal s i).2]) ∧ w = w' := by
 by_cases h0 : i < 0
 ·rw [U.literal_out s i (.inl h0)]
  go_enter Tryz.func53, Tryz.ntmps53
  go_wp2
  go_ret2
  exact ⟨rfl, rfl⟩
 by_cases h1 : (s.size : Int) ≤ i
 ·rw [U.literal_out s i (.inr h1)]
  go_enter Tryz.func53, Tryz.ntmps53
  go_wp2
  go_ret2
  exact ⟨rfl, rfl⟩
 obtain ⟨n, hn⟩ := Int.eq_ofNat_of_zero_le (show 0 ≤ i by omega)
 have hn' : i = (n : Int) := hn
 subst hn'
 have hi : n < s.size := by omega
 by_cases hq : U.at' s n = 34 ∨ U.at' s n = 39 ∨ U.at' s n = 96
 ·rw [U.literal_in s n hi hq]
  rcases hq with h | h | h <;> rw [h]
  ·exact lit_34 s n w hs hi h
  ·exact lit_39 s n w hs hi h
  ·exact lit_96 s n w hs hi h
 ·rw [U.literal_no s n hi (by omega)]
  exact lit_no s n w hs hi (by omega)
end Go.Proofs.YtieknenhfeejiaaGreatDoor
namespace Go.Proofs.YtieknenhfeejiaaGreatDoor
open Go.RowKit
set_option linter.unusedVariables false
set_option linter.unusedSimpArgs false
def strR (r : List UInt8 × Int) : Ending := .returned (.tuple #[.string ⟨r.1.toArray⟩, .int .i64 r.2])
theorem ret_strR {a : ByteArray} {b : Int} {r : List UInt8 × Int} (h1 : a.data.toList = r.1) (h2 : b = r.2) : Ending.returned (.tuple #[.string a, .int .i64 b]) = strR r := by
 unfold strR; rw [h2, ← h1]

theorem unquote_utf (s : ByteArray) (w : World) (hs : s.size ≤ 140737488351232) (hv : U.valid s = false) :
  Calls Tryz.prog 23 #[.string s] w fun e w' => e = strR (U.unquote s) ∧ Below w.heap.size w w' := by
 have V := hd hv
 have G : Hd (U.unquote s = ([], 4)) := hd <| by unfold U.unquote; rw [if_pos hv]
 clear hv
 go_enter Tryz.func23, Tryz.ntmps23
 go_wp2_with (go_at_call 45; refine (Valid_any _ _ (by omega)).mono ?_; rintro e w1 ⟨rfl, hb1⟩; rw [V.o])
 go_ret2
 exact ⟨ret_strR (by rw [G.o]) (by rw [G.o]), by assumption⟩

theorem unquote_lit (s : ByteArray) (w : World) (hs : s.size ≤ 140737488351232) (hv : U.valid s = true) (hl : U.literal s 0 ≠ ((s.size : Int), 0)) :
  Calls Tryz.prog 23 #[.string s] w fun e w' => e = strR (U.unquote s) ∧ Below w.heap.size w w' := by
 have V := hd hv
 have G : Hd (U.unquote s = ([], 10)) := hd <| by unfold U.unquote; rw [if_neg (by simp [hv]), if_pos hl]
 clear hv
 by_cases h2 : (U.literal s 0).2 = 0
 ·have h1 : ((U.literal s 0).1 != (s.size : Int)) = true := by
   rw [bne_iff_ne]; intro h; exact hl (Prod.ext h h2)
  have h2' : ((U.literal s 0).2 != 0) = false := by rw [h2]; rfl
  clear hl h2
  go_enter Tryz.func23, Tryz.ntmps23
  go_wp2_with (first
   | (go_at_call 45; refine (Valid_any _ _ (by omega)).mono ?_; rintro e w1 ⟨rfl, hb1⟩; rw [V.o])
   | (go_at_call 53; refine (lit_any s 0 _ (by omega)).mono ?_; rintro e w' ⟨rfl, rfl⟩))
  go_ret2
  exact ⟨ret_strR (by rw [G.o]) (by rw [G.o]), by assumption⟩
 ·have h2' : ((U.literal s 0).2 != 0) = true := by rw [bne_iff_ne]; exact h2
  clear hl h2
  go_enter Tryz.func23, Tryz.ntmps23
  go_wp2_with (first
   | (go_at_call 45; refine (Valid_any _ _ (by omega)).mono ?_; rintro e w1 ⟨rfl, hb1⟩; rw [V.o])
   | (go_at_call 53; refine (lit_any s 0 _ (by omega)).mono ?_; rintro e w' ⟨rfl, rfl⟩))
  go_ret2
  exact ⟨ret_strR (by rw [G.o]) (by rw [G.o]), by assumption⟩

theorem U.lit_facts (s : ByteArray) (hl : U.literal s 0 = ((s.size : Int), 0)) : 2 ≤ s.size ∧ (U.at' s 0 = 34 ∨ U.at' s 0 = 39 ∨ U.at' s 0 = 96) := by
 by_cases h0 : s.size = 0
 ·rw [U.literal_out s 0 (.inr (by omega))] at hl; have := congrArg Prod.snd hl; simp [U.litR] at this
 by_cases hq : U.at' s 0 = 34 ∨ U.at' s 0 = 39 ∨ U.at' s 0 = 96
 ·have h := U.literal_in s 0 (by omega) hq
  have h' : U.literal s ((0 : Nat) : Int) = ((s.size : Int), 0) := hl
  rw [h'] at h
  cases hc : U.lit s (U.at' s 0) 1 with
  | none => rw [show (0 + 1 : Nat) = 1 from rfl, hc] at h; have := congrArg Prod.snd h; simp [U.litR] at this
  | some n =>
   rw [show (0 + 1 : Nat) = 1 from rfl, hc] at h
   have := U.lit_gt s _ _ 1 n rfl hc
   have e : (s.size : Int) = (n : Int) := congrArg Prod.fst h
   exact ⟨by omega, hq⟩
 ·have h := U.literal_no s 0 (by omega) (by omega)
  have h' : U.literal s ((0 : Nat) : Int) = ((s.size : Int), 0) := hl
  rw [h'] at h; have := congrArg Prod.snd h; simp [U.litR] at this

theorem unquote_raw (s : ByteArray) (w : World) (hs : s.size ≤ 140737488351232) (hv : U.valid s = true) (hl : U.literal s 0 = ((s.size : Int), 0)) (hq : U.at' s 0 = 96) :
  Calls Tryz.prog 23 #[.string s] w fun e w' => e = strR (U.unquote s) ∧ Below w.heap.size w w' := by
 have V := hd hv
 have L := hd hl
 obtain ⟨h2, _⟩ := U.lit_facts s hl
 have G : Hd (U.unquote s = ((s.extract 1 (s.size - 1)).data.toList, 0)) := hd <| by
  unfold U.unquote; rw [if_neg (by simp [hv]), if_neg (by simp [hl]), if_pos hq, U.ext_mid s h2]
 have e0 := U.at_eq s 0 (by omega)
 have hq' : ((s[0]'(by omega)).toNat : Int) = 96 := by rw [← e0, hq]; rfl
 have hz : ((s.size : Int) - 1).toNat = s.size - 1 := by omega
 have hi1 : (0 : Int) < (s.size : Int) := by omega
 have hi2 : (1 : Int) ≤ (s.size : Int) - 1 := by omega
 clear hv hl hq e0
 go_enter Tryz.func23, Tryz.ntmps23
 go_wp2_with (first
   | (go_at_call 45; refine (Valid_any _ _ (by omega)).mono ?_; rintro e w1 ⟨rfl, hb1⟩; rw [V.o])
   | (go_at_call 53; refine (lit_any s 0 _ (by omega)).mono ?_; rintro e w' ⟨rfl, rfl⟩; rw [L.o]))
 go_quiet (fail)
 go_wp2
 go_ret2
 exact ⟨ret_strR (by rw [G.o]) (by rw [G.o]), bel_drew (by assumption) _⟩

set_option maxHeartbeats 1600000 in
theorem unquote_esc (s : ByteArray) (w : World) (hs : s.size ≤ 140737488351232) (hv : U.valid s = true) (hl : U.literal s 0 = ((s.size : Int), 0)) (q : Nat) (hq : q = 34 ∨ q = 39) (hq0 : U.at' s 0 = q) :
  Calls Tryz.prog 23 #[.string s] w fun e w' => e = strR (U.unquote s) ∧ Below w.heap.size w w' := by
 have V := hd hv
 have L := hd hl
 obtain ⟨h2, _⟩ := U.lit_facts s hl
 have hG : U.unquote s = U.unqR (U.unq q (s.extract 1 (s.size - 1)).data.toList) := by
  unfold U.unquote; rw [if_neg (by simp [hv]), if_neg (by simp [hl]), if_neg (by omega), hq0, U.ext_mid s h2]
 have e0 := U.at_eq s 0 (by omega)
 have hq' : ((s[0]'(by omega)).toNat : Int) = (q : Int) := by rw [← e0, hq0]
 have hq96 : ((q : Int) == 96) = false := by rw [beq_eq_false_iff_ne]; omega
 have hz : ((s.size : Int) - 1).toNat = s.size - 1 := by omega
 have hi1 : (0 : Int) < (s.size : Int) := by omega
 have hi2 : (1 : Int) ≤ (s.size : Int) - 1 := by omega
 have hzt : (s.extract 1 (s.size - 1)).size = s.size - 2 := by rw [ByteArray.size_extract]; omega
 have HG := hd hG
 have hQ := hd hq
 have HZT := hd hzt
 clear hv hl hq e0 hG hq0 hzt
 go_enter Tryz.func23, Tryz.ntmps23
 go_wp2_with (first
   | (go_at_call 45; refine (Valid_any _ _ (by omega)).mono ?_; rintro e w1 ⟨rfl, hb1⟩; rw [V.o])
   | (go_at_call 53; refine (lit_any s 0 _ (by omega)).mono ?_; rintro e w' ⟨rfl, rfl⟩; rw [L.o]))
 go_quiet (fail)
 have hb1 : Below w.heap.size w w1 := by assumption
 have HB1 := hd (bel_drew hb1 0)
 have hz1 := hb1.size
 go_wp2_with (at_make; refine wpList_mk0 _ 63 5 (.int .u8 0) 1 1 Tryz.underlying63 info_u8 rfl _ _ rfl w.heap.size _ _ _ rfl rfl ?b1 ?b2 ?b3 ?_)
 case b1 => omega
 case b2 => omega
 case b3 => exact hz1
 intro w2 ho hg
 have hb2 : Below w.heap.size w w2 := bel_grown (bel_drew hb1 _) hg (fun k h => by cases h)
 have hz2 := hb2.size
 clear hg
 go_wp2
 generalize hT : s.extract 1 (s.size - 1) = t at *
 clear hT
 have hzt := HZT.o
 have HZ := hd hzt
 have hts : t.size ≤ 140737488351232 := by omega
 clear hzt
 go_loopw [8, 9] (fun v x wr => ∃ (p : Nat) (bs : List UInt8), p ≤ t.size ∧ x = .int .i64 p ∧ wr.ownsRow w.heap.size 5 1 v bs.length (cellsB bs) ∧ Below w.heap.size w wr ∧ bs.length ≤ p ∧ Hd ((U.unq q (t.data.toList.drop p)).map (bs ++ ·) = U.unq q t.data.toList)) (fun _ x _ => t.size - (intOf x).toNat)
 case atStart => exact ⟨0, [], Nat.zero_le _, rfl, ho, hb2, Nat.le_refl _, hd (by simp)⟩
 case round =>
  obtain ⟨p, bs, hp, rfl, how, hbw, hlen, hr⟩ := hrel
  have hzr := hbw.size
  by_cases hlt : p < t.size
  ·obtain ⟨c, hc, hdc⟩ := U.drop_cons t p hlt
   have eat := U.at_eq t p hlt
   by_cases h92 : U.at' t p = 92
   ·have b92 : (((t[p]'hlt).toNat : Int) != 92) = false := by rw [← eat, h92]; rfl
    have hed : (t.extract (p + 1) t.size).data.toList = t.data.toList.drop (p + 1) := U.ext_drop t (p + 1)
    have hes : (t.extract (p + 1) t.size).size ≤ 1125899906842624 := by rw [ByteArray.size_extract]; omega
    cases he : U.escL q (t.data.toList.drop (p + 1)) with
    | none =>
     have E : Hd (U.escL q (t.extract (p + 1) t.size).data.toList = none) := hd <| by rw [hed, he]
     have G : Hd (U.unquote s = ([], 11)) := hd <| by
      rw [HG.o, ← hr.o, hdc, U.unq_none q c _ (by rw [hc, h92]) he]; rfl
     clear he hed hdc hc h92 eat hr
     go_wp2_with (go_at_call 54; refine (escape_any q hQ.o (t.extract (p + 1) t.size) hes w.heap.size u8 bs.length (cellsB bs) wr how hzr (by omega)).mono ?_; intro e w3 hpost; unfold EscPost at hpost; rw [E.o] at hpost; obtain ⟨rfl, hb3⟩ := hpost)
     go_ret2
     exact ⟨ret_strR (by rw [G.o]) (by rw [G.o]), bel hbw (by assumption)⟩
    | some r =>
     obtain ⟨es, k⟩ := r
     have hk := U.escL_len q _ es k he
     have hdl : (t.data.toList.drop (p + 1)).length = t.size - (p + 1) := by rw [List.length_drop, ← Lib.size_eq]
     have E : Hd (U.escL q (t.extract (p + 1) t.size).data.toList = some (es, k)) := hd <| by rw [hed, he]
     have G : Hd ((U.unq q (t.data.toList.drop (p + 1 + k))).map ((bs ++ es) ++ ·) = U.unq q t.data.toList) := hd <| by
      rw [← hr.o, hdc, U.unq_some q c _ (by rw [hc, h92]) es k he, List.drop_drop, Option.map_map]
      congr 1
      funext x
      simp
     have hk0 : ((k : Int) == 0) = false := by rw [beq_eq_false_iff_ne]; omega
     have hkb : p + 1 + k ≤ t.size := by omega
     have hkl : bs.length + es.length ≤ p + 1 + k := by omega
     clear he hed hdc hc h92 eat hr hdl
     go_wp2_with (go_at_call 54; refine (escape_any q hQ.o (t.extract (p + 1) t.size) hes w.heap.size u8 bs.length (cellsB bs) wr how hzr (by omega)).mono ?_; intro e w3 hpost; unfold EscPost at hpost; rw [E.o] at hpost; obtain ⟨v3, rfl, ho3, hg3⟩ := hpost)
     have HO : Hd (w3.ownsRow w.heap.size 5 1 v3 (bs ++ es).length (cellsB (bs ++ es))) := hd <| by rw [cellsB_app, List.length_append]; assumption
     have hb3 : Below w.heap.size w w3 := bel_grown hbw (by assumption) (fun g hg' => (how.lt g hg').1)
     go_roundw
     case rel => exact ⟨p + 1 + k, bs ++ es, hkb, by go_num, HO.o, hb3, by rw [List.length_append]; exact hkl, G⟩
     case measure => simp [intOf]; omega
   ·have b92 : (((t[p]'hlt).toNat : Int) != 92) = true := by rw [bne_iff_ne, ← eat]; omega
    have G : Hd ((U.unq q (t.data.toList.drop (p + 1))).map ((bs ++ [c]) ++ ·) = U.unq q t.data.toList) := hd <| by
     rw [← hr.o, hdc, U.unq_plain q c _ (by rw [hc]; exact h92), Option.map_map]
     congr 1
     funext x
     simp
    have heq : ((t[p]'hlt).toNat : Int) = (U.at' t p : Int) := by rw [eat]
    have hcc : Hd (cellsB (bs ++ [c]) = cellsB bs ++ [.int .u8 (U.at' t p : Int)]) := hd <| by rw [cellsB_app]; simp only [cellsB, List.map_cons, List.map_nil]; rw [hc]
    rw [heq] at b92
    clear hdc hc h92 eat hr
    go_wp2_with (at_builtin; refine wpList_app_lit 63 5 (.int .u8 0) 1 1 Tryz.underlying63 info_u8 rfl (by decide) rfl _ _ rfl w.heap.size u8 bs.length (cellsB bs) wr #[.int .u8 (U.at' t p : Int)] 1 rfl rfl how rfl ?_ ?_ ?_ hzr ?_)
    any_goals (first | omega | (simp [Value.oneCell']; done))
    intro v3 w3 ho3 hg3
    have HO : Hd (w3.ownsRow w.heap.size 5 1 v3 (bs ++ [c]).length (cellsB (bs ++ [c]))) := hd <| by rw [hcc.o, List.length_append]; exact ho3
    have hb3 : Below w.heap.size w w3 := bel_grown hbw hg3 (fun g hg' => (how.lt g hg').1)
    clear ho3 hg3
    go_wp2
    go_roundw
    case rel => exact ⟨p + 1, bs ++ [c], by omega, by go_num, HO.o, hb3, by rw [List.length_append]; simp; omega, G⟩
    case measure => simp [intOf]; omega
  ·have G : Hd (U.unquote s = if U.valid ⟨bs.toArray⟩ then (bs, 0) else ([], 13)) := hd <| by
    rw [HG.o, ← hr.o, List.drop_of_length_le (by rw [← Lib.size_eq]; omega), U.unq_nil, Option.map_some, List.append_nil]; rfl
   have io := IsL.own how
   have hcv := run_string_of wr 63 9 5 Tryz.underlying63 Tryz.underlying5 Tryz.underlying9 u8 bs.length bs io
   have hcv2 : ∀ W : World, Below wr.heap.size wr W → (convert 63 9 u8).run Tryz.prog W = .ok (.string ⟨bs.toArray⟩) W := fun W hW => run_string_of W 63 9 5 Tryz.underlying63 Tryz.underlying5 Tryz.underlying9 u8 bs.length bs (io.below hW)
   have hbz : (⟨bs.toArray⟩ : ByteArray).size ≤ 1125899906842624 := by
    have : (⟨bs.toArray⟩ : ByteArray).size = bs.length := by rw [Lib.size_eq]
    omega
   clear hr io
   cases hvb : U.valid ⟨bs.toArray⟩ with
   | true =>
    have VB := hd hvb
    have G2 : Hd (U.unquote s = (bs, 0)) := hd <| by rw [G.o, hvb]; rfl
    clear hvb G
    go_wp2_with (go_at_call 45; refine (Valid_any _ _ hbz).mono ?_; rintro e w3 ⟨rfl, hb3⟩; rw [VB.o])
    go_ret2
    exact ⟨ret_strR (by rw [G2.o]) (by rw [G2.o]), bel hbw (by assumption)⟩
   | false =>
    have VB := hd hvb
    have G2 : Hd (U.unquote s = ([], 13)) := hd <| by rw [G.o, hvb]; rfl
    clear hvb G
    go_wp2_with (go_at_call 45; refine (Valid_any _ _ hbz).mono ?_; rintro e w3 ⟨rfl, hb3⟩; rw [VB.o])
    go_ret2
    exact ⟨ret_strR (by rw [G2.o]) (by rw [G2.o]), bel hbw (by assumption)⟩

theorem unquote_any (s : ByteArray) (w : World) (hs : s.size ≤ 140737488351232) :
  Calls Tryz.prog 23 #[.string s] w fun e w' => e = strR (U.unquote s) ∧ Below w.heap.size w w' := by
 cases hv : U.valid s with
 | false => exact unquote_utf s w hs hv
 | true =>
  by_cases hl : U.literal s 0 = ((s.size : Int), 0)
  ·rcases (U.lit_facts s hl).2 with h | h | h
   ·exact unquote_esc s w hs hv hl 34 (.inl rfl) h
   ·exact unquote_esc s w hs hv hl 39 (.inr rfl) h
   ·exact unquote_raw s w hs hv hl h
  ·exact unquote_lit s w hs hv hl
end Go.Proofs.YtieknenhfeejiaaGreatDoor
namespace Go.Proofs.YtieknenhfeejiaaGreatDoor
open Go.RowKit
set_option linter.unusedVariables false
set_option linter.unusedSimpArgs false

section
variable {P : Program} {ops : Array Oper} {o : Oper} {a : Act} {K : Act → World → Prop} {Q : Exit → Act → World → Prop} {E : Prop}
theorem step_app_lit (t e : TypeId) (z : Value) (size bytes : Nat) (ht : P.underlying t = some (.slice e)) (hinfo : (P.info? e).map (fun i => (i.zero, i.size, i.bytes)) = some (some z, size, bytes)) (hzs : z.cells.size = size) (hsz : 0 < size)
  (hgd : o.guard = none) (s x : Operand) (ho : o.op = .call { callee := .builtin .append, args := #[s, x], argTypes := #[t, t] })
  (B : Nat) (v : Value) (n : Nat) (xs : List Value) (W : World) (C : Array Value) (m : Nat) (hs : a.eval s = v) (hx : a.eval x = .slice (some ⟨W.heap.size, 0, none⟩) m m)
  (hown : W.ownsRow B e size v n xs) (hC : C.size = m * size) (h1 : ∀ u ∈ C.toList, u.oneCell' = true) (hb : (n + m) * bytes ≤ 140737488355328) (hn : n + m ≤ 140737488355328) (hB : B ≤ W.heap.size)
  (h : ∀ v' w', w'.ownsRow B e size v' (n + m) (xs ++ C.toList) → W.grownBy w' v.ownBlock → K (a.put o.dst v') w') :
  if Region.wanted o (yielded ops a.tmps) = true then Oper.wp P o a (W.alloc (.cells C e)).drew K Q else E := by
 have hw : Region.wanted o (yielded ops a.tmps) = true := by simp [Region.wanted, hgd]
 rw [if_pos hw]
 obtain ⟨i, hi, hz0, hz1, hz2⟩ := info_parts hinfo
 obtain ⟨v', w', hrun, h2, h3, _, h5⟩ := run_append_own_at (P := P) (W.alloc (.cells C e)).drew B t o.type e i z size bytes ht hi hz0 hz1 hz2 hzs hsz v n xs (hown.alloc _).drew ⟨W.heap.size, 0, none⟩ m m C.toList (by simpa using hC) (by
  intro j u hj
  rw [add_plain, Nat.zero_add]
  change (W.alloc (.cells C e)).cell? _ = _
  rw [World.cell?_alloc_mark]
  simpa using hj) h1 (by unfold maxLen; omega) hb (by change B ≤ (W.alloc (.cells C e)).heap.size; simp; omega)
 unfold Oper.wp execOp
 simp only [ho, resolve, invoke, builtin, Sem.run_bind, Sem.run_pure, Result.andThen_ok, List.map_toArray, List.map_cons, List.map_nil, hs, hx, hrun]
 exact h v' w' h2 (grown_of_alloc (W := W) (ob := .cells C e) ⟨h3.os, h3.tape, h3.output, h3.size, h3.block⟩)
end

end Go.Proofs.YtieknenhfeejiaaGreatDoor
namespace Go.Proofs.YtieknenhfeejiaaGreatDoor
open Go.RowKit
set_option linter.unusedVariables false
set_option linter.unusedSimpArgs false

end Go.Proofs.YtieknenhfeejiaaGreatDoor
namespace Go.Proofs.YtieknenhfeejiaaGreatDoor
open Go.RowKit
set_option linter.unusedVariables false
set_option linter.unusedSimpArgs false
def U.numR : Option Nat → Int
 | some v => v
 | none => -1
theorem refdigit_any (c : Nat) (w : World) (h : c < 256) :
  Calls Tryz.prog 134 #[.int .u8 c] w fun e w' => e = .returned (.int .i64 (U.dig c)) ∧ w = w' := by
 by_cases h1 : 48 ≤ c ∧ c ≤ 57
 ·have G : Hd (U.dig c = (c : Int) - 48) := hd <| by unfold U.dig; rw [if_pos h1]
  obtain ⟨a1, a2⟩ := h1
  go_enter Tryz.func134, Tryz.ntmps134
  go_wp2
  go_ret
  exact ⟨ret_int G.o.symm, rfl⟩
 by_cases h2 : 97 ≤ c ∧ c ≤ 102
 ·have G : Hd (U.dig c = (c : Int) - 97 + 10) := hd <| by unfold U.dig; rw [if_neg h1, if_pos h2]; omega
  obtain ⟨a1, a2⟩ := h2
  go_enter Tryz.func134, Tryz.ntmps134
  go_wp2
  go_ret
  exact ⟨ret_int G.o.symm, rfl⟩
 by_cases h3 : 65 ≤ c ∧ c ≤ 70
 ·have G : Hd (U.dig c = (c : Int) - 65 + 10) := hd <| by unfold U.dig; rw [if_neg h1, if_neg h2, if_pos h3]; omega
  obtain ⟨a1, a2⟩ := h3
  go_enter Tryz.func134, Tryz.ntmps134
  go_wp2
  go_ret
  exact ⟨ret_int G.o.symm, rfl⟩
 ·have G : Hd (U.dig c = -1) := hd <| by unfold U.dig; rw [if_neg h1, if_neg h2, if_neg h3]
  go_enter Tryz.func134, Tryz.ntmps134
  go_wp2
  all_goals first | (exfalso; omega) | (go_ret; exact ⟨ret_int G.o.symm, rfl⟩)


theorem number8 (s : ByteArray) (i k e : Nat) (zi zk ze : Int) (hzi : zi = i) (hzk : zk = k) (hze : ze = e) (w : World) (hs : s.size ≤ 1125899906842624) (hk : k ≤ 8) (hk1 : 1 ≤ k) (he : e ≤ s.size) (hi : i ≤ 1125899906842624) :
  Calls Tryz.prog 98 #[.string s, .int .i64 zi, .int .i64 zk, .int .i64 8, .int .i64 ze] w fun en w' => en = .returned (.int .i64 (U.numR (U.numL 8 k ((s.data.toList.take e).drop i)))) ∧ w = w' := by
 subst hzi hzk hze
 have hlen : ((s.data.toList.take e).drop i).length = e - i := by rw [List.length_drop, List.length_take, ← Lib.size_eq]; omega
 by_cases hl : e < i + k
 ·have G : Hd (U.numR (U.numL 8 k ((s.data.toList.take e).drop i)) = -1) := hd <| by unfold U.numL; rw [if_pos (by omega)]; rfl
  clear hlen
  go_enter Tryz.func98, Tryz.ntmps98
  go_wp2
  go_ret
  exact ⟨ret_int G.o.symm, rfl⟩
 have hdt : decide ((e : Int) < (i : Int) + (k : Int)) = false := by rw [decide_eq_false_iff_not]; omega
 have hle : i + k ≤ e := by omega
 have G0 : Hd (U.numL 8 k ((s.data.toList.take e).drop i) = U.numF 8 ((s.data.toList.drop i).take k) 0) := hd <| by
  unfold U.numL; rw [if_neg (by omega)]
  congr 1
  rw [List.drop_take, List.take_take, Nat.min_eq_left (by omega)]
 have hpk : (8 : Nat) ^ k ≤ 8 ^ 8 := Nat.pow_le_pow_right (by omega) hk
 have HPK := hd hpk
 have hzl : ((s.data.toList.drop i).take k).length = k := by rw [List.length_take, List.length_drop, ← Lib.size_eq]; omega
 have HL := hd hzl
 clear hlen hl hpk hzl
 go_enter Tryz.func98, Tryz.ntmps98
 go_wp2
 go_loop [11, 12] (fun x y => ∃ j v : Nat, j ≤ k ∧ y = .int .i64 j ∧ x = .int .i64 v ∧ Hd (v + 1 ≤ 8 ^ j) ∧ v ≤ 4294967296 ∧ Hd (U.numF 8 (((s.data.toList.drop i).take k).drop j) v = U.numF 8 ((s.data.toList.drop i).take k) 0)) (fun _ y => k - (intOf y).toNat)
 case atStart => exact ⟨0, 0, Nat.zero_le _, rfl, rfl, hd (by decide), by omega, hd rfl⟩
 case round =>
  obtain ⟨j, v, hj, rfl, rfl, hvp, hvb, hr⟩ := hrel
  by_cases hlt : j < k
  ·have hat := U.at_eq s (i + j) (by omega)
   obtain ⟨hk', hlat⟩ := list_at s (i + j) (by omega)
   have hdr : ((s.data.toList.drop i).take k).drop j = s.data.toList[i + j]'hk' :: ((s.data.toList.drop i).take k).drop (j + 1) := by
    rw [List.drop_eq_getElem_cons (by rw [HL.o]; exact hlt)]
    simp
   have hcb := U.at_lt s (i + j)
   have hdb := U.dig_bd (U.at' s (i + j))
   have heq : ((s[i + j]'(by omega)).toNat : Int) = (U.at' s (i + j) : Int) := by rw [hat]
   have hr' := hr.o
   rw [hdr] at hr'
   have hb1 : v * 8 + (U.dig (U.at' s (i + j))).toNat + 1 ≤ 8 ^ (j + 1) ∨ ¬ (0 ≤ U.dig (U.at' s (i + j)) ∧ U.dig (U.at' s (i + j)) < 8) := by
    by_cases hc : 0 ≤ U.dig (U.at' s (i + j)) ∧ U.dig (U.at' s (i + j)) < 8
    ·left
     have := hvp.o
     rw [Nat.pow_succ]
     have h2 := Nat.mul_le_mul_right 8 this
     rw [Nat.add_mul] at h2
     omega
    ·exact .inr hc
   have hpj : (8 : Nat) ^ (j + 1) ≤ 8 ^ k := Nat.pow_le_pow_right (by omega) (by omega)
   have HB1 := hd hb1
   have HPJ := hd hpj
   have HR := hd hr'
   have HLAT := hd hlat
   clear hat hdr hr hr' hb1 hpj hlat
   by_cases h1 : 0 ≤ U.dig (U.at' s (i + j)) ∧ U.dig (U.at' s (i + j)) < 8
   ·have G : Hd (U.numF 8 (((s.data.toList.drop i).take k).drop (j + 1)) (v * 8 + (U.dig (U.at' s (i + j))).toNat) = U.numF 8 ((s.data.toList.drop i).take k) 0) := hd <| by
     rw [← HR.o, U.numF, HLAT.o, if_pos ⟨h1.1, by simpa using h1.2⟩]
    have hp1 : v * 8 + (U.dig (U.at' s (i + j))).toNat + 1 ≤ 8 ^ (j + 1) := by
     rcases HB1.o with h | h
     ·exact h
     ·exact absurd h1 h
    have hle8 : v * 8 + (U.dig (U.at' s (i + j))).toNat ≤ 4294967296 := by
     have := Nat.le_trans hp1 (Nat.le_trans HPJ.o HPK.o)
     have h8 : (8 : Nat) ^ 8 ≤ 4294967296 := by decide
     omega
    have HP1 := hd hp1
    obtain ⟨d1, d2⟩ := h1
    clear hp1 HB1 HPJ HR HLAT
    go_wp2_with (go_at_call 134; refine (refdigit_any _ _ (by omega)).mono ?_; rintro e w' ⟨rfl, rfl⟩)
    go_round
    case rel => exact ⟨j + 1, v * 8 + (U.dig (U.at' s (i + j))).toNat, by omega, by go_num, by rw [show (((v * 8 + (U.dig (U.at' s (i + j))).toNat : Nat) : Int)) = (v : Int) * 8 + U.dig (U.at' s (i + j)) by omega], HP1, hle8, G⟩
    case measure => simp [intOf]; omega
   ·have G : Hd (U.numR (U.numL 8 k ((s.data.toList.take e).drop i)) = -1) := hd <| by
     rw [G0.o, ← HR.o, U.numF, HLAT.o, if_neg (by intro h; exact h1 ⟨h.1, by simpa using h.2⟩)]; rfl
    clear HB1 HPJ HR HLAT
    by_cases d1 : 0 ≤ U.dig (U.at' s (i + j))
    ·have d2 : ¬ U.dig (U.at' s (i + j)) < 8 := fun h => h1 ⟨d1, h⟩
     clear h1
     go_wp2_with (go_at_call 134; refine (refdigit_any _ _ (by omega)).mono ?_; rintro e w' ⟨rfl, rfl⟩)
     go_ret
     exact ⟨ret_int G.o.symm, rfl⟩
    ·clear h1
     go_wp2_with (go_at_call 134; refine (refdigit_any _ _ (by omega)).mono ?_; rintro e w' ⟨rfl, rfl⟩)
     go_ret
     exact ⟨ret_int G.o.symm, rfl⟩
  ·have G : Hd (U.numR (U.numL 8 k ((s.data.toList.take e).drop i)) = v) := hd <| by
    rw [G0.o, ← hr.o, List.drop_of_length_le (by rw [HL.o]; omega), U.numF]; rfl
   go_wp2
   go_ret
   exact ⟨ret_int G.o.symm, rfl⟩

theorem number16 (s : ByteArray) (i k e : Nat) (zi zk ze : Int) (hzi : zi = i) (hzk : zk = k) (hze : ze = e) (w : World) (hs : s.size ≤ 1125899906842624) (hk : k ≤ 8) (hk1 : 1 ≤ k) (he : e ≤ s.size) (hi : i ≤ 1125899906842624) :
  Calls Tryz.prog 98 #[.string s, .int .i64 zi, .int .i64 zk, .int .i64 16, .int .i64 ze] w fun en w' => en = .returned (.int .i64 (U.numR (U.numL 16 k ((s.data.toList.take e).drop i)))) ∧ w = w' := by
 subst hzi hzk hze
 have hlen : ((s.data.toList.take e).drop i).length = e - i := by rw [List.length_drop, List.length_take, ← Lib.size_eq]; omega
 by_cases hl : e < i + k
 ·have G : Hd (U.numR (U.numL 16 k ((s.data.toList.take e).drop i)) = -1) := hd <| by unfold U.numL; rw [if_pos (by omega)]; rfl
  clear hlen
  go_enter Tryz.func98, Tryz.ntmps98
  go_wp2
  go_ret
  exact ⟨ret_int G.o.symm, rfl⟩
 have hdt : decide ((e : Int) < (i : Int) + (k : Int)) = false := by rw [decide_eq_false_iff_not]; omega
 have hle : i + k ≤ e := by omega
 have G0 : Hd (U.numL 16 k ((s.data.toList.take e).drop i) = U.numF 16 ((s.data.toList.drop i).take k) 0) := hd <| by
  unfold U.numL; rw [if_neg (by omega)]
  congr 1
  rw [List.drop_take, List.take_take, Nat.min_eq_left (by omega)]
 have hpk : (16 : Nat) ^ k ≤ 16 ^ 8 := Nat.pow_le_pow_right (by omega) hk
 have HPK := hd hpk
 have hzl : ((s.data.toList.drop i).take k).length = k := by rw [List.length_take, List.length_drop, ← Lib.size_eq]; omega
 have HL := hd hzl
 clear hlen hl hpk hzl
 go_enter Tryz.func98, Tryz.ntmps98
 go_wp2
 go_loop [11, 12] (fun x y => ∃ j v : Nat, j ≤ k ∧ y = .int .i64 j ∧ x = .int .i64 v ∧ Hd (v + 1 ≤ 16 ^ j) ∧ v ≤ 4294967296 ∧ Hd (U.numF 16 (((s.data.toList.drop i).take k).drop j) v = U.numF 16 ((s.data.toList.drop i).take k) 0)) (fun _ y => k - (intOf y).toNat)
 case atStart => exact ⟨0, 0, Nat.zero_le _, rfl, rfl, hd (by decide), by omega, hd rfl⟩
 case round =>
  obtain ⟨j, v, hj, rfl, rfl, hvp, hvb, hr⟩ := hrel
  by_cases hlt : j < k
  ·have hat := U.at_eq s (i + j) (by omega)
   obtain ⟨hk', hlat⟩ := list_at s (i + j) (by omega)
   have hdr : ((s.data.toList.drop i).take k).drop j = s.data.toList[i + j]'hk' :: ((s.data.toList.drop i).take k).drop (j + 1) := by
    rw [List.drop_eq_getElem_cons (by rw [HL.o]; exact hlt)]
    simp
   have hcb := U.at_lt s (i + j)
   have hdb := U.dig_bd (U.at' s (i + j))
   have heq : ((s[i + j]'(by omega)).toNat : Int) = (U.at' s (i + j) : Int) := by rw [hat]
   have hr' := hr.o
   rw [hdr] at hr'
   have hb1 : v * 16 + (U.dig (U.at' s (i + j))).toNat + 1 ≤ 16 ^ (j + 1) ∨ ¬ (0 ≤ U.dig (U.at' s (i + j)) ∧ U.dig (U.at' s (i + j)) < 16) := by
    by_cases hc : 0 ≤ U.dig (U.at' s (i + j)) ∧ U.dig (U.at' s (i + j)) < 16
    ·left
     have := hvp.o
     rw [Nat.pow_succ]
     have h2 := Nat.mul_le_mul_right 16 this
     rw [Nat.add_mul] at h2
     omega
    ·exact .inr hc
   have hpj : (16 : Nat) ^ (j + 1) ≤ 16 ^ k := Nat.pow_le_pow_right (by omega) (by omega)
   have HB1 := hd hb1
   have HPJ := hd hpj
   have HR := hd hr'
   have HLAT := hd hlat
   clear hat hdr hr hr' hb1 hpj hlat
   by_cases h1 : 0 ≤ U.dig (U.at' s (i + j)) ∧ U.dig (U.at' s (i + j)) < 16
   ·have G : Hd (U.numF 16 (((s.data.toList.drop i).take k).drop (j + 1)) (v * 16 + (U.dig (U.at' s (i + j))).toNat) = U.numF 16 ((s.data.toList.drop i).take k) 0) := hd <| by
     rw [← HR.o, U.numF, HLAT.o, if_pos ⟨h1.1, by simpa using h1.2⟩]
    have hp1 : v * 16 + (U.dig (U.at' s (i + j))).toNat + 1 ≤ 16 ^ (j + 1) := by
     rcases HB1.o with h | h
     ·exact h
     ·exact absurd h1 h
    have hle8 : v * 16 + (U.dig (U.at' s (i + j))).toNat ≤ 4294967296 := by
     have := Nat.le_trans hp1 (Nat.le_trans HPJ.o HPK.o)
     have h8 : (16 : Nat) ^ 8 ≤ 4294967296 := by decide
     omega
    have HP1 := hd hp1
    obtain ⟨d1, d2⟩ := h1
    clear hp1 HB1 HPJ HR HLAT
    go_wp2_with (go_at_call 134; refine (refdigit_any _ _ (by omega)).mono ?_; rintro e w' ⟨rfl, rfl⟩)
    go_round
    case rel => exact ⟨j + 1, v * 16 + (U.dig (U.at' s (i + j))).toNat, by omega, by go_num, by rw [show (((v * 16 + (U.dig (U.at' s (i + j))).toNat : Nat) : Int)) = (v : Int) * 16 + U.dig (U.at' s (i + j)) by omega], HP1, hle8, G⟩
    case measure => simp [intOf]; omega
   ·have G : Hd (U.numR (U.numL 16 k ((s.data.toList.take e).drop i)) = -1) := hd <| by
     rw [G0.o, ← HR.o, U.numF, HLAT.o, if_neg (by intro h; exact h1 ⟨h.1, by simpa using h.2⟩)]; rfl
    clear HB1 HPJ HR HLAT
    by_cases d1 : 0 ≤ U.dig (U.at' s (i + j))
    ·exact absurd ⟨d1, by omega⟩ h1
    ·clear h1
     go_wp2_with (go_at_call 134; refine (refdigit_any _ _ (by omega)).mono ?_; rintro e w' ⟨rfl, rfl⟩)
     go_ret
     exact ⟨ret_int G.o.symm, rfl⟩
  ·have G : Hd (U.numR (U.numL 16 k ((s.data.toList.take e).drop i)) = v) := hd <| by
    rw [G0.o, ← hr.o, List.drop_of_length_le (by rw [HL.o]; omega), U.numF]; rfl
   go_wp2
   go_ret
   exact ⟨ret_int G.o.symm, rfl⟩

def U.pairL : List UInt8 → Nat → Option Nat
 | a :: b :: r, c => if a.toNat = c then some b.toNat else U.pairL r c
 | _, _ => none
theorem drop_cons' (t : ByteArray) (p : Nat) (h : p < t.size) : ∃ c : UInt8, c.toNat = U.at' t p ∧ t.data.toList.drop p = c :: t.data.toList.drop (p + 1) := by
 obtain ⟨h', e⟩ := list_at t p h
 exact ⟨_, e, List.drop_eq_getElem_cons h'⟩

theorem uletter_any (c : Nat) (z : Int) (hz : z = c) (s : ByteArray) (w : World) (hs : s.size ≤ 1125899906842624) (hc : c < 256) :
  Calls Tryz.prog 97 #[.int .u8 z, .string s] w fun e w' => e = .returned (.int .i64 (U.numR (U.pairL s.data.toList c))) ∧ w = w' := by
 subst hz
 go_enter Tryz.func97, Tryz.ntmps97
 go_wp2
 go_loop [5] (fun x => ∃ p : Nat, p ≤ s.size + 1 ∧ x = .int .i64 p ∧ Hd (U.pairL (s.data.toList.drop p) c = U.pairL s.data.toList c)) (fun x => s.size + 1 - (intOf x).toNat)
 case atStart => exact ⟨0, by omega, rfl, hd rfl⟩
 case round =>
  obtain ⟨p, hp, rfl, hr⟩ := hrel
  by_cases hlt : p + 1 < s.size
  ·obtain ⟨x, hx, hdx⟩ := drop_cons' s p (by omega)
   obtain ⟨y, hy, hdy⟩ := drop_cons' s (p + 1) hlt
   have e0 := U.at_eq s p (by omega)
   have e1 := U.at_eq s (p + 1) hlt
   have h1 : ((s[p]'(by omega)).toNat : Int) = (U.at' s p : Int) := by rw [e0]
   have h2 : ((s[p + 1]'hlt).toNat : Int) = (U.at' s (p + 1) : Int) := by rw [e1]
   have hlt1 := U.at_lt s (p + 1)
   have hr' := hr.o
   rw [hdx, hdy, U.pairL, hx, hy] at hr'
   have HR := hd hr'
   clear hdx hdy hr' hr hx hy e0 e1
   by_cases hq : U.at' s p = c
   ·have hb : ((U.at' s p : Int) == (c : Int)) = true := by rw [hq]; simp
    have G : Hd (U.numR (U.pairL s.data.toList c) = U.at' s (p + 1)) := hd <| by rw [← HR.o, if_pos hq]; rfl
    clear hq HR
    go_wp2
    go_ret
    exact ⟨ret_int G.o.symm, rfl⟩
   ·have hb : ((U.at' s p : Int) == (c : Int)) = false := by rw [beq_eq_false_iff_ne]; omega
    have G : Hd (U.pairL (s.data.toList.drop (p + 2)) c = U.pairL s.data.toList c) := hd <| by rw [← HR.o, if_neg hq]
    clear hq HR
    go_wp2
    go_round
    case rel => exact ⟨p + 2, by omega, by go_num, G⟩
    case measure => simp [intOf]; omega
  ·have G : Hd (U.numR (U.pairL s.data.toList c) = -1) := hd <| by
    rw [← hr.o]
    have hl : (s.data.toList.drop p).length ≤ 1 := by rw [List.length_drop, ← Lib.size_eq]; omega
    match hm : s.data.toList.drop p, hl with
    | [], _ => rfl
    | [a], _ => rfl
   go_wp2
   go_ret
   exact ⟨ret_int G.o.symm, rfl⟩
end Go.Proofs.YtieknenhfeejiaaGreatDoor
namespace Go.Proofs.YtieknenhfeejiaaGreatDoor
open Go.RowKit
set_option linter.unusedVariables false
set_option linter.unusedSimpArgs false

theorem wrap_u8 (x : Int) (h0 : 0 ≤ x) (h1 : x < 256) : IntKind.u8.wrap x = x := by
 rw [IntKind.wrap_u8]; omega
end Go.Proofs.YtieknenhfeejiaaGreatDoor
