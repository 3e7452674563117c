/- The walk of utf.Place: line and column by one word. -/
import Derived.Test.YthlpgnidjjclcaaUWalkC
import Derived.Test.YthlpgnidjjclcaaUPlaceMath
namespace Go.Proofs.Ythlpgnidjjclcaa
open Go.RowKit
theorem ret_two {a b c d : Int} (h1 : a = c) (h2 : b = d) : Ending.returned (.tuple #[.int .i64 a, .int .i64 b]) = .returned (.tuple #[.int .i64 c, .int .i64 d]) := by rw [h1, h2]
set_option maxHeartbeats 800000 in
theorem place_in (s : ByteArray) (t : Nat) (w : World) (hs : s.size ≤ 1125899906842624) (ht : t ≤ s.size) (h0t : 0 < t) :
    Calls Try.prog 28 #[.string s, .int .i64 t] w fun e w' => e = .returned (.tuple #[.int .i64 (U.placeAt s t).1, .int .i64 (U.placeAt s t).2]) ∧ Below w.heap.size w w' := by
  have hT : (Hid (((U.placeAt s t).1 : Int) = (U.nl s t).1 ∧ (U.placeAt s t).2 = U.col s t (U.nl s t).2 1)) := ⟨rfl, rfl⟩
  go_enter Try.func28, Try.ntmps28
  go_wp2
  go_loop [4, 6, 7, 17] (fun l f _ x => ∃ k : Nat, k ≤ t ∧ x = .int .i64 k ∧ l = .int .i64 (U.nl s k).1 ∧ f = .int .i64 (U.nl s k).2) (fun _ _ _ x => t - (intOf x).toNat)
  case atStart => exact ⟨0, Nat.zero_le _, rfl, rfl, rfl⟩
  case round =>
    obtain ⟨k, hk, rfl, rfl, rfl⟩ := hrel
    have hnb := U.nl_bd s k
    by_cases hlt : k < t
    · have e := U.at_eq s k (by omega)
      by_cases h10 : U.at' s k = 10
      · have hb : (((s[k]'(by omega)).toNat : Int) == 10) = true := by rw [← e, h10]; rfl
        have G : Hid (U.nl s (k + 1) = ((U.nl s k).1 + 1, k + 1)) := U.nl_hit s k h10
        clear e h10
        go_wp2
        go_round
        case rel => exact ⟨k + 1, by omega, by go_num, by rw [G.out]; go_num, by rw [G.out]; go_num⟩
        case measure => simp [intOf]; omega
      · have hb : (((s[k]'(by omega)).toNat : Int) == 10) = false := by rw [beq_eq_false_iff_ne]; omega
        have G : Hid (U.nl s (k + 1) = U.nl s k) := U.nl_miss s k h10
        clear e h10
        go_wp2
        go_round
        case rel => exact ⟨k + 1, by omega, by go_num, by rw [G.out], by rw [G.out]⟩
        case measure => simp [intOf]; omega
    · obtain rfl : t = k := by omega
      go_wp2
      go_loopw [5, 8] (fun c x wr => ∃ p q : Nat, x = .int .i64 p ∧ c = .int .i64 q ∧ q ≤ p + 1 ∧ p ≤ t + 4 ∧ Hid (U.col s t p q = U.col s t (U.nl s t).2 1) ∧ Below w.heap.size w wr) (fun _ x _ => t - (intOf x).toNat)
      case atStart => exact ⟨_, 1, rfl, rfl, by omega, by omega, rfl, Below.refl _ _⟩
      case round =>
        obtain ⟨p, q, rfl, rfl, hq, hp, hc, hbel⟩ := hrel
        by_cases hlt2 : p < t
        · have hw4 := U.w0_le s p
          have N : Hid ((U.next s p).2 = (U.w0 s p : Int)) := by
            show _ = _
            rw [U.next_wid]; unfold U.wid U.w0; rw [if_pos (by omega)]
          by_cases hw1 : U.w0 s p ≤ 1
          · have hm : max 1 (U.w0 s p) = 1 := by omega
            have G : Hid (U.col s t (p + 1) (q + 1) = U.col s t (U.nl s t).2 1) := by
              show _ = _
              rw [← hc.out, U.col_step s t p q hlt2, hm, if_pos (by omega)]
            clear hm
            go_wp2_with (go_at_call 18; refine (next_any s p _ hs).mono ?_; rintro e w1 ⟨rfl, hb1⟩; rw [N.out])
            go_roundw
            case rel => exact ⟨p + 1, q + 1, by go_num, by go_num, by omega, by omega, G, bel hbel (by assumption)⟩
            case measure => simp [intOf]; omega
          · have hm : max 1 (U.w0 s p) = U.w0 s p := by omega
            by_cases hle : p + U.w0 s p ≤ t
            · have G : Hid (U.col s t (p + U.w0 s p) (q + 1) = U.col s t (U.nl s t).2 1) := by
                show _ = _
                rw [← hc.out, U.col_step s t p q hlt2, hm, if_pos hle]
              clear hm
              go_wp2_with (go_at_call 18; refine (next_any s p _ hs).mono ?_; rintro e w1 ⟨rfl, hb1⟩; rw [N.out])
              go_roundw
              case rel => exact ⟨p + U.w0 s p, q + 1, by go_num, by go_num, by omega, by omega, G, bel hbel (by assumption)⟩
              case measure => simp [intOf]; omega
            · have G : Hid (U.col s t (p + U.w0 s p) q = U.col s t (U.nl s t).2 1) := by
                show _ = _
                rw [← hc.out, U.col_step s t p q hlt2, hm, if_neg hle]
              clear hm
              go_wp2_with (go_at_call 18; refine (next_any s p _ hs).mono ?_; rintro e w1 ⟨rfl, hb1⟩; rw [N.out])
              go_roundw
              case rel => exact ⟨p + U.w0 s p, q, by go_num, rfl, by omega, by omega, G, bel hbel (by assumption)⟩
              case measure => simp [intOf]; omega
        · have G : Hid (U.col s t (U.nl s t).2 1 = q) := by show _ = _; rw [← hc.out, U.col_end s t p q hlt2]
          go_wp2
          go_ret2
          exact ⟨ret_two (by rw [hT.out.1]) (by rw [hT.out.2, G.out]), hbel⟩

set_option maxHeartbeats 800000 in
theorem place_hi (s : ByteArray) (i : Int) (w : World) (hs : s.size ≤ 1125899906842624) (hi : (s.size : Int) < i) (h0z : 0 < s.size) :
    Calls Try.prog 28 #[.string s, .int .i64 i] w fun e w' => e = .returned (.tuple #[.int .i64 (U.placeAt s s.size).1, .int .i64 (U.placeAt s s.size).2]) ∧ Below w.heap.size w w' := by
  have hT : (Hid (((U.placeAt s s.size).1 : Int) = (U.nl s s.size).1 ∧ (U.placeAt s s.size).2 = U.col s s.size (U.nl s s.size).2 1)) := ⟨rfl, rfl⟩
  go_enter Try.func28, Try.ntmps28
  go_wp2
  go_loop [4, 6, 7, 17] (fun l f _ x => ∃ k : Nat, k ≤ s.size ∧ x = .int .i64 k ∧ l = .int .i64 (U.nl s k).1 ∧ f = .int .i64 (U.nl s k).2) (fun _ _ _ x => s.size - (intOf x).toNat)
  case atStart => exact ⟨0, Nat.zero_le _, rfl, rfl, rfl⟩
  case round =>
    obtain ⟨k, hk, rfl, rfl, rfl⟩ := hrel
    have hnb := U.nl_bd s k
    by_cases hlt : k < s.size
    · have e := U.at_eq s k (by omega)
      by_cases h10 : U.at' s k = 10
      · have hb : (((s[k]'(by omega)).toNat : Int) == 10) = true := by rw [← e, h10]; rfl
        have G : Hid (U.nl s (k + 1) = ((U.nl s k).1 + 1, k + 1)) := U.nl_hit s k h10
        clear e h10
        go_wp2
        go_round
        case rel => exact ⟨k + 1, by omega, by go_num, by rw [G.out]; go_num, by rw [G.out]; go_num⟩
        case measure => simp [intOf]; omega
      · have hb : (((s[k]'(by omega)).toNat : Int) == 10) = false := by rw [beq_eq_false_iff_ne]; omega
        have G : Hid (U.nl s (k + 1) = U.nl s k) := U.nl_miss s k h10
        clear e h10
        go_wp2
        go_round
        case rel => exact ⟨k + 1, by omega, by go_num, by rw [G.out], by rw [G.out]⟩
        case measure => simp [intOf]; omega
    · obtain rfl : k = s.size := by omega
      go_wp2
      go_loopw [5, 8] (fun c x wr => ∃ p q : Nat, x = .int .i64 p ∧ c = .int .i64 q ∧ q ≤ p + 1 ∧ p ≤ s.size + 4 ∧ Hid (U.col s s.size p q = U.col s s.size (U.nl s s.size).2 1) ∧ Below w.heap.size w wr) (fun _ x _ => s.size - (intOf x).toNat)
      case atStart => exact ⟨_, 1, rfl, rfl, by omega, by omega, rfl, Below.refl _ _⟩
      case round =>
        obtain ⟨p, q, rfl, rfl, hq, hp, hc, hbel⟩ := hrel
        by_cases hlt2 : p < s.size
        · have hw4 := U.w0_le s p
          have N : Hid ((U.next s p).2 = (U.w0 s p : Int)) := by
            show _ = _
            rw [U.next_wid]; unfold U.wid U.w0; rw [if_pos (by omega)]
          by_cases hw1 : U.w0 s p ≤ 1
          · have hm : max 1 (U.w0 s p) = 1 := by omega
            have G : Hid (U.col s s.size (p + 1) (q + 1) = U.col s s.size (U.nl s s.size).2 1) := by
              show _ = _
              rw [← hc.out, U.col_step s s.size p q hlt2, hm, if_pos (by omega)]
            clear hm
            go_wp2_with (go_at_call 18; refine (next_any s p _ hs).mono ?_; rintro e w1 ⟨rfl, hb1⟩; rw [N.out])
            go_roundw
            case rel => exact ⟨p + 1, q + 1, by go_num, by go_num, by omega, by omega, G, bel hbel (by assumption)⟩
            case measure => simp [intOf]; omega
          · have hm : max 1 (U.w0 s p) = U.w0 s p := by omega
            by_cases hle : p + U.w0 s p ≤ s.size
            · have G : Hid (U.col s s.size (p + U.w0 s p) (q + 1) = U.col s s.size (U.nl s s.size).2 1) := by
                show _ = _
                rw [← hc.out, U.col_step s s.size p q hlt2, hm, if_pos hle]
              clear hm
              go_wp2_with (go_at_call 18; refine (next_any s p _ hs).mono ?_; rintro e w1 ⟨rfl, hb1⟩; rw [N.out])
              go_roundw
              case rel => exact ⟨p + U.w0 s p, q + 1, by go_num, by go_num, by omega, by omega, G, bel hbel (by assumption)⟩
              case measure => simp [intOf]; omega
            · have G : Hid (U.col s s.size (p + U.w0 s p) q = U.col s s.size (U.nl s s.size).2 1) := by
                show _ = _
                rw [← hc.out, U.col_step s s.size p q hlt2, hm, if_neg hle]
              clear hm
              go_wp2_with (go_at_call 18; refine (next_any s p _ hs).mono ?_; rintro e w1 ⟨rfl, hb1⟩; rw [N.out])
              go_roundw
              case rel => exact ⟨p + U.w0 s p, q, by go_num, rfl, by omega, by omega, G, bel hbel (by assumption)⟩
              case measure => simp [intOf]; omega
        · have G : Hid (U.col s s.size (U.nl s s.size).2 1 = q) := by show _ = _; rw [← hc.out, U.col_end s s.size p q hlt2]
          go_wp2
          go_ret2
          exact ⟨ret_two (by rw [hT.out.1]) (by rw [hT.out.2, G.out]), hbel⟩

theorem place_lo (s : ByteArray) (i : Int) (w : World) (hs : s.size ≤ 1125899906842624) (hi : i ≤ 0) :
    Calls Try.prog 28 #[.string s, .int .i64 i] w fun e w' => e = .returned (.tuple #[.int .i64 1, .int .i64 1]) ∧ Below w.heap.size w w' := by
  go_enter Try.func28, Try.ntmps28
  go_wp2
  all_goals
    refine wp_loop_rounds 1 ?_
    rw [rounds_succ]
    go_wp2
    refine wp_loop_rounds 1 ?_
    rw [rounds_succ]
    go_wp2
    go_ret2
    exact ⟨rfl, Below.refl _ _⟩
theorem place_nil (s : ByteArray) (i : Int) (w : World) (hs : s.size = 0) (hi : 0 < i) :
    Calls Try.prog 28 #[.string s, .int .i64 i] w fun e w' => e = .returned (.tuple #[.int .i64 1, .int .i64 1]) ∧ Below w.heap.size w w' := by
  go_enter Try.func28, Try.ntmps28
  go_wp2
  refine wp_loop_rounds 1 ?_
  rw [rounds_succ]
  go_wp2
  refine wp_loop_rounds 1 ?_
  rw [rounds_succ]
  go_wp2
  go_ret2
  exact ⟨rfl, Below.refl _ _⟩
theorem place_any (s : ByteArray) (i : Int) (w : World) (hs : s.size ≤ 1125899906842624) :
    Calls Try.prog 28 #[.string s, .int .i64 i] w fun e w' => e = .returned (.tuple #[.int .i64 (U.place s i).1, .int .i64 (U.place s i).2]) ∧ Below w.heap.size w w' := by
  have h11 : U.placeAt s 0 = (1, 1) := by unfold U.placeAt; rw [U.col_end _ _ _ _ (by simp)]; rfl
  by_cases h0 : i ≤ 0
  · have e : U.place s i = (1, 1) := by
      by_cases hz : i < 0
      · exact U.place_lo s i hz
      · obtain rfl : i = ((0 : Nat) : Int) := by omega
        rw [U.place_in s 0 (by omega), h11]
    rw [e]; exact place_lo s i w hs h0
  by_cases h1 : (s.size : Int) < i
  · rw [U.place_hi s i h1]
    by_cases hz : s.size = 0
    · rw [hz, h11]; exact place_nil s i w hz (by omega)
    · exact place_hi s i w hs h1 (by omega)
  obtain ⟨n, hn⟩ := Int.eq_ofNat_of_zero_le (show 0 ≤ i by omega)
  have hn' : i = (n : Int) := hn
  subst hn'
  rw [U.place_in s n (by omega)]
  exact place_in s n w hs (by omega) (by omega)
end Go.Proofs.Ythlpgnidjjclcaa
