/- The walks of utf.Literal: where a literal ends, by one word. -/
import Derived.Test.YthlpgnidjjclcaaUWalkA
import Derived.Test.YthlpgnidjjclcaaUEsc
import Derived.Test.YthlpgnidjjclcaaBase3
namespace Go.Proofs.Ythlpgnidjjclcaa
open Go.RowKit
set_option linter.unusedVariables false
set_option linter.unusedSimpArgs false
theorem ret_twoL {a b c d : Int} (h1 : a = c) (h2 : b = d) : Ending.returned (.tuple #[.int .i64 a, .int .i64 b]) = .returned (.tuple #[.int .i64 c, .int .i64 d]) := by rw [h1, h2]

set_option maxHeartbeats 800000 in
theorem lit_34 (s : ByteArray) (i : Nat) (w : World) (hs : s.size ≤ 1125899906842624) (hi : i < s.size) (hq : U.at' s i = 34) :
    Calls Try.prog 32 #[.string s, .int .i64 i] w fun e w' => e = .returned (.tuple #[.int .i64 (U.litR (U.lit s 34 (i + 1))).1, .int .i64 (U.litR (U.lit s 34 (i + 1))).2]) ∧ w = w' := by
  have hdd : decide (s.size ≤ i) = false := by simpa using hi
  have hq' : ((s[i]'hi).toNat : Int) = 34 := by rw [← U.at_eq s i hi, hq]; rfl
  clear hq
  go_enter Try.func32, Try.ntmps32
  go_wp2
  go_loop [7] (fun x => ∃ p : Nat, p ≤ s.size + 1 ∧ x = .int .i64 p ∧ Hd (U.lit s 34 p = U.lit s 34 (i + 1))) (fun x => s.size + 1 - (intOf x).toNat)
  case atStart => exact ⟨i + 1, by omega, by go_num, hd rfl⟩
  case round =>
    obtain ⟨p, hp, rfl, hl⟩ := hrel
    by_cases hlt : p < s.size
    · have ep := U.at_eq s p hlt
      by_cases h1 : U.at' s p = 34
      · have b1 : (((s[p]'hlt).toNat : Int) == 34) = true := by rw [← ep, h1]; rfl
        have G : Hd (U.litR (U.lit s 34 (i + 1)) = ((p : Int) + 1, 0)) := hd <| by rw [← hl.o, U.lit_hit s 34 p hlt h1]; rfl
        clear ep h1
        go_wp2
        go_ret2
        exact ⟨ret_twoL (by rw [G.o]) (by rw [G.o]), rfl⟩
      have b1 : (((s[p]'hlt).toNat : Int) == 34) = false := by rw [beq_eq_false_iff_ne, ← ep]; omega
      by_cases h2 : U.at' s p = 10
      · have b2 : (((s[p]'hlt).toNat : Int) == 10) = true := by rw [← ep, h2]; rfl
        have G : Hd (U.litR (U.lit s 34 (i + 1)) = (0, 10)) := hd <| by rw [← hl.o, U.lit_nl s 34 p hlt h1 (by omega) h2]; rfl
        clear ep h1 h2
        go_wp2
        go_ret2
        exact ⟨ret_twoL (by rw [G.o]) (by rw [G.o]), rfl⟩
      have b2 : (((s[p]'hlt).toNat : Int) == 10) = false := by rw [beq_eq_false_iff_ne, ← ep]; omega
      by_cases h3 : U.at' s p = 92
      · have b3 : (((s[p]'hlt).toNat : Int) == 92) = true := by rw [← ep, h3]; rfl
        by_cases h4 : p + 1 < s.size
        · have ep1 := U.at_eq s (p + 1) h4
          by_cases h5 : U.at' s (p + 1) = 10
          · have b5 : (((s[p + 1]'h4).toNat : Int) == 10) = true := by rw [← ep1, h5]; rfl
            have G : Hd (U.litR (U.lit s 34 (i + 1)) = (0, 10)) := hd <| by rw [← hl.o, U.lit_esc_nl s 34 p h4 h1 (by omega) h3 h5]; rfl
            clear ep ep1 h1 h2 h3 h5
            go_wp2
            go_ret2
            exact ⟨ret_twoL (by rw [G.o]) (by rw [G.o]), rfl⟩
          · have b5 : (((s[p + 1]'h4).toNat : Int) == 10) = false := by rw [beq_eq_false_iff_ne, ← ep1]; omega
            have G : Hd (U.lit s 34 (p + 2) = U.lit s 34 (i + 1)) := hd <| by rw [← hl.o, U.lit_esc s 34 p hlt h1 (by omega) h3 (fun h => h5 h.2)]
            clear ep ep1 h1 h2 h3 h5
            go_wp2
            go_round
            case rel => exact ⟨p + 2, by omega, by go_num, G⟩
            case measure => simp [intOf]; omega
        · have G : Hd (U.lit s 34 (p + 2) = U.lit s 34 (i + 1)) := hd <| by rw [← hl.o, U.lit_esc s 34 p hlt h1 (by omega) h3 (fun h => h4 h.1)]
          clear ep h1 h2 h3
          go_wp2
          go_round
          case rel => exact ⟨p + 2, by omega, by go_num, G⟩
          case measure => simp [intOf]; omega
      · have b3 : (((s[p]'hlt).toNat : Int) == 92) = false := by rw [beq_eq_false_iff_ne, ← ep]; omega
        have G : Hd (U.lit s 34 (p + 1) = U.lit s 34 (i + 1)) := hd <| by rw [← hl.o, U.lit_step s 34 p hlt h1 (by omega) h2 h3]
        clear ep h1 h2 h3
        go_wp2
        go_round
        case rel => exact ⟨p + 1, by omega, by go_num, G⟩
        case measure => simp [intOf]; omega
    · have G : Hd (U.litR (U.lit s 34 (i + 1)) = (0, 10)) := hd <| by rw [← hl.o, U.lit_end s 34 p hlt]; rfl
      go_wp2
      go_ret2
      exact ⟨ret_twoL (by rw [G.o]) (by rw [G.o]), rfl⟩

set_option maxHeartbeats 800000 in
theorem lit_39 (s : ByteArray) (i : Nat) (w : World) (hs : s.size ≤ 1125899906842624) (hi : i < s.size) (hq : U.at' s i = 39) :
    Calls Try.prog 32 #[.string s, .int .i64 i] w fun e w' => e = .returned (.tuple #[.int .i64 (U.litR (U.lit s 39 (i + 1))).1, .int .i64 (U.litR (U.lit s 39 (i + 1))).2]) ∧ w = w' := by
  have hdd : decide (s.size ≤ i) = false := by simpa using hi
  have hq' : ((s[i]'hi).toNat : Int) = 39 := by rw [← U.at_eq s i hi, hq]; rfl
  clear hq
  go_enter Try.func32, Try.ntmps32
  go_wp2
  go_loop [7] (fun x => ∃ p : Nat, p ≤ s.size + 1 ∧ x = .int .i64 p ∧ Hd (U.lit s 39 p = U.lit s 39 (i + 1))) (fun x => s.size + 1 - (intOf x).toNat)
  case atStart => exact ⟨i + 1, by omega, by go_num, hd rfl⟩
  case round =>
    obtain ⟨p, hp, rfl, hl⟩ := hrel
    by_cases hlt : p < s.size
    · have ep := U.at_eq s p hlt
      by_cases h1 : U.at' s p = 39
      · have b1 : (((s[p]'hlt).toNat : Int) == 39) = true := by rw [← ep, h1]; rfl
        have G : Hd (U.litR (U.lit s 39 (i + 1)) = ((p : Int) + 1, 0)) := hd <| by rw [← hl.o, U.lit_hit s 39 p hlt h1]; rfl
        clear ep h1
        go_wp2
        go_ret2
        exact ⟨ret_twoL (by rw [G.o]) (by rw [G.o]), rfl⟩
      have b1 : (((s[p]'hlt).toNat : Int) == 39) = false := by rw [beq_eq_false_iff_ne, ← ep]; omega
      by_cases h2 : U.at' s p = 10
      · have b2 : (((s[p]'hlt).toNat : Int) == 10) = true := by rw [← ep, h2]; rfl
        have G : Hd (U.litR (U.lit s 39 (i + 1)) = (0, 10)) := hd <| by rw [← hl.o, U.lit_nl s 39 p hlt h1 (by omega) h2]; rfl
        clear ep h1 h2
        go_wp2
        go_ret2
        exact ⟨ret_twoL (by rw [G.o]) (by rw [G.o]), rfl⟩
      have b2 : (((s[p]'hlt).toNat : Int) == 10) = false := by rw [beq_eq_false_iff_ne, ← ep]; omega
      by_cases h3 : U.at' s p = 92
      · have b3 : (((s[p]'hlt).toNat : Int) == 92) = true := by rw [← ep, h3]; rfl
        by_cases h4 : p + 1 < s.size
        · have ep1 := U.at_eq s (p + 1) h4
          by_cases h5 : U.at' s (p + 1) = 10
          · have b5 : (((s[p + 1]'h4).toNat : Int) == 10) = true := by rw [← ep1, h5]; rfl
            have G : Hd (U.litR (U.lit s 39 (i + 1)) = (0, 10)) := hd <| by rw [← hl.o, U.lit_esc_nl s 39 p h4 h1 (by omega) h3 h5]; rfl
            clear ep ep1 h1 h2 h3 h5
            go_wp2
            go_ret2
            exact ⟨ret_twoL (by rw [G.o]) (by rw [G.o]), rfl⟩
          · have b5 : (((s[p + 1]'h4).toNat : Int) == 10) = false := by rw [beq_eq_false_iff_ne, ← ep1]; omega
            have G : Hd (U.lit s 39 (p + 2) = U.lit s 39 (i + 1)) := hd <| by rw [← hl.o, U.lit_esc s 39 p hlt h1 (by omega) h3 (fun h => h5 h.2)]
            clear ep ep1 h1 h2 h3 h5
            go_wp2
            go_round
            case rel => exact ⟨p + 2, by omega, by go_num, G⟩
            case measure => simp [intOf]; omega
        · have G : Hd (U.lit s 39 (p + 2) = U.lit s 39 (i + 1)) := hd <| by rw [← hl.o, U.lit_esc s 39 p hlt h1 (by omega) h3 (fun h => h4 h.1)]
          clear ep h1 h2 h3
          go_wp2
          go_round
          case rel => exact ⟨p + 2, by omega, by go_num, G⟩
          case measure => simp [intOf]; omega
      · have b3 : (((s[p]'hlt).toNat : Int) == 92) = false := by rw [beq_eq_false_iff_ne, ← ep]; omega
        have G : Hd (U.lit s 39 (p + 1) = U.lit s 39 (i + 1)) := hd <| by rw [← hl.o, U.lit_step s 39 p hlt h1 (by omega) h2 h3]
        clear ep h1 h2 h3
        go_wp2
        go_round
        case rel => exact ⟨p + 1, by omega, by go_num, G⟩
        case measure => simp [intOf]; omega
    · have G : Hd (U.litR (U.lit s 39 (i + 1)) = (0, 10)) := hd <| by rw [← hl.o, U.lit_end s 39 p hlt]; rfl
      go_wp2
      go_ret2
      exact ⟨ret_twoL (by rw [G.o]) (by rw [G.o]), rfl⟩

set_option maxHeartbeats 800000 in
theorem lit_96 (s : ByteArray) (i : Nat) (w : World) (hs : s.size ≤ 1125899906842624) (hi : i < s.size) (hq : U.at' s i = 96) :
    Calls Try.prog 32 #[.string s, .int .i64 i] w fun e w' => e = .returned (.tuple #[.int .i64 (U.litR (U.lit s 96 (i + 1))).1, .int .i64 (U.litR (U.lit s 96 (i + 1))).2]) ∧ w = w' := by
  have hdd : decide (s.size ≤ i) = false := by simpa using hi
  have hq' : ((s[i]'hi).toNat : Int) = 96 := by rw [← U.at_eq s i hi, hq]; rfl
  clear hq
  go_enter Try.func32, Try.ntmps32
  go_wp2
  go_loop [7] (fun x => ∃ p : Nat, p ≤ s.size + 1 ∧ x = .int .i64 p ∧ Hd (U.lit s 96 p = U.lit s 96 (i + 1))) (fun x => s.size + 1 - (intOf x).toNat)
  case atStart => exact ⟨i + 1, by omega, by go_num, hd rfl⟩
  case round =>
    obtain ⟨p, hp, rfl, hl⟩ := hrel
    by_cases hlt : p < s.size
    · have ep := U.at_eq s p hlt
      by_cases h1 : U.at' s p = 96
      · have b1 : (((s[p]'hlt).toNat : Int) == 96) = true := by rw [← ep, h1]; rfl
        have G : Hd (U.litR (U.lit s 96 (i + 1)) = ((p : Int) + 1, 0)) := hd <| by rw [← hl.o, U.lit_hit s 96 p hlt h1]; rfl
        clear ep h1
        go_wp2
        go_ret2
        exact ⟨ret_twoL (by rw [G.o]) (by rw [G.o]), rfl⟩
      have b1 : (((s[p]'hlt).toNat : Int) == 96) = false := by rw [beq_eq_false_iff_ne, ← ep]; omega
      have G : Hd (U.lit s 96 (p + 1) = U.lit s 96 (i + 1)) := hd <| by rw [← hl.o, U.lit_raw s p hlt h1]
      clear ep h1
      go_wp2
      go_round
      case rel => exact ⟨p + 1, by omega, by go_num, G⟩
      case measure => simp [intOf]; omega
    · have G : Hd (U.litR (U.lit s 96 (i + 1)) = (0, 10)) := hd <| by rw [← hl.o, U.lit_end s 96 p hlt]; rfl
      go_wp2
      go_ret2
      exact ⟨ret_twoL (by rw [G.o]) (by rw [G.o]), rfl⟩

theorem lit_no (s : ByteArray) (i : Nat) (w : World) (hs : s.size ≤ 1125899906842624) (hi : i < s.size) (hq : U.at' s i ≠ 34 ∧ U.at' s i ≠ 39 ∧ U.at' s i ≠ 96) :
    Calls Try.prog 32 #[.string s, .int .i64 i] w fun e w' => e = .returned (.tuple #[.int .i64 0, .int .i64 10]) ∧ w = w' := by
  have hdd : decide (s.size ≤ i) = false := by simpa using hi
  have ep := U.at_eq s i hi
  have b1 : (((s[i]'hi).toNat : Int) != 34) = true := by rw [bne_iff_ne, ← ep]; omega
  have b2 : (((s[i]'hi).toNat : Int) != 39) = true := by rw [bne_iff_ne, ← ep]; omega
  have b3 : (((s[i]'hi).toNat : Int) != 96) = true := by rw [bne_iff_ne, ← ep]; omega
  clear ep hq
  go_enter Try.func32, Try.ntmps32
  go_wp2
  go_ret2
  exact ⟨rfl, rfl⟩
theorem lit_any (s : ByteArray) (i : Int) (w : World) (hs : s.size ≤ 1125899906842624) :
    Calls Try.prog 32 #[.string s, .int .i64 i] w fun e w' => e = .returned (.tuple #[.int .i64 (U.literal s i).1, .int .i64 (U.literal s i).2]) ∧ w = w' := by
  by_cases h0 : i < 0
  · rw [U.literal_out s i (.inl h0)]
    go_enter Try.func32, Try.ntmps32
    go_wp2
    go_ret2
    exact ⟨rfl, rfl⟩
  by_cases h1 : (s.size : Int) ≤ i
  · rw [U.literal_out s i (.inr h1)]
    go_enter Try.func32, Try.ntmps32
    go_wp2
    go_ret2
    exact ⟨rfl, rfl⟩
  obtain ⟨n, hn⟩ := Int.eq_ofNat_of_zero_le (show 0 ≤ i by omega)
  have hn' : i = (n : Int) := hn
  subst hn'
  have hi : n < s.size := by omega
  by_cases hq : U.at' s n = 34 ∨ U.at' s n = 39 ∨ U.at' s n = 96
  · rw [U.literal_in s n hi hq]
    rcases hq with h | h | h <;> rw [h]
    · exact lit_34 s n w hs hi h
    · exact lit_39 s n w hs hi h
    · exact lit_96 s n w hs hi h
  · rw [U.literal_no s n hi (by omega)]
    exact lit_no s n w hs hi (by omega)
end Go.Proofs.Ythlpgnidjjclcaa
