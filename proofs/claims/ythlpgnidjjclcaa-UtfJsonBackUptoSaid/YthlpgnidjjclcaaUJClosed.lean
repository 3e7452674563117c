/- The walks of utf.closed and weirref01.closed. -/
import Derived.Test.YthlpgnidjjclcaaUJMath
namespace Go.Proofs.Ythlpgnidjjclcaa
open Go.RowKit
set_option linter.unusedVariables false
set_option linter.unusedSimpArgs false
theorem U.closed_low (s : ByteArray) (k : Nat) (hk : k < s.size) (h : U.at' s k < 32) : U.closedB s = false := by
  have : s.data.toList.all (fun c => decide (32 ≤ c.toNat)) = false := by
    rw [List.all_eq_false]
    obtain ⟨h', e⟩ := list_at s k hk
    exact ⟨_, List.getElem_mem h', by intro hx; have hx := of_decide_eq_true hx; rw [e] at hx; omega⟩
  unfold U.closedB; rw [this]; simp
theorem U.closed_all (s : ByteArray) (h0 : 0 < s.size) (hq : U.at' s 0 = 34) (h : ∀ k, k < s.size → 32 ≤ U.at' s k) : U.closedB s = U.jend s 1 := by
  have : s.data.toList.all (fun c => decide (32 ≤ c.toNat)) = true := by
    rw [List.all_eq_true]
    intro x hx
    obtain ⟨k, hk, rfl⟩ := List.getElem_of_mem hx
    have hk2 : k < s.size := by rw [Lib.size_eq]; exact hk
    obtain ⟨h', e⟩ := list_at s k hk2
    have := h k hk2
    simp only [decide_eq_true_eq]
    rw [e]; exact this
  unfold U.closedB; rw [this]; simp [h0, hq]
theorem U.closed_no (s : ByteArray) (h : U.at' s 0 ≠ 34) : U.closedB s = false := by unfold U.closedB; simp [h]
theorem U.closed_nil (s : ByteArray) (h : s.size = 0) : U.closedB s = false := by unfold U.closedB; simp [h]

theorem closed_any (s : ByteArray) (w : World) (hs : s.size ≤ 1125899906842624) :
    Calls Try.prog 54 #[.string s] w fun e w' => e = .returned (.bool (U.closedB s)) ∧ Below w.heap.size w w' := by
  by_cases h0 : s.size = 0
  · have G : Hd (U.closedB s = false) := hd (U.closed_nil s h0)
    have hne : s.toList.isEmpty = true := by rw [ByteArray.toList_eq, List.isEmpty_iff]; exact List.eq_nil_of_length_eq_zero (by rw [← Lib.size_eq]; exact h0)
    clear h0
    go_enter Try.func54, Try.ntmps54
    go_wp2
    go_ret
    exact ⟨ret_bool (by rw [G.o]), Below.refl _ _⟩
  have h0' : 0 < s.size := by omega
  have hne : s.toList.isEmpty = false := by
    rw [ByteArray.toList_eq, List.isEmpty_eq_false_iff]
    intro h
    have := congrArg List.length h
    rw [← Lib.size_eq] at this
    exact h0 this
  have e0 := U.at_eq s 0 h0'
  have hi0 : ((s[0]'h0').toNat : Int) = (U.at' s 0 : Int) := by rw [e0]
  clear e0 h0
  by_cases hq : U.at' s 0 = 34
  · have bq : ((U.at' s 0 : Int) != 34) = false := by rw [hq]; rfl
    have HQ := hd hq
    clear hq
    go_enter Try.func54, Try.ntmps54
    go_wp2_with (refine wpList_bytes_of _ 9 62 5 _ Try.underlying9 Try.underlying62 Try.underlying5 rfl _ rfl rfl ?_)
    intro cap w1 hb1 hz1 hcell
    have HC := hd hcell
    clear hcell
    go_wp2
    go_loop [16] (fun x => ∃ k : Nat, k ≤ s.size ∧ x = .int .i64 k ∧ Hd (∀ j, j < k → 32 ≤ U.at' s j)) (fun x => s.size - (intOf x).toNat)
    case atStart => exact ⟨0, Nat.zero_le _, rfl, hd (fun j h => absurd h (by omega))⟩
    case round =>
      obtain ⟨k, hk, rfl, hr⟩ := hrel
      by_cases hlt : k < s.size
      · have c1 := HC.o k hlt
        have hcb := U.at_lt s k
        by_cases h32 : U.at' s k < 32
        · have G : Hd (U.closedB s = false) := hd (U.closed_low s k hlt h32)
          go_wp2
          go_ret
          exact ⟨ret_bool (by rw [G.o]), hb1⟩
        · have G : Hd (∀ j, j < k + 1 → 32 ≤ U.at' s j) := hd fun j hj => by
            by_cases h : j = k
            · rw [h]; omega
            · exact hr.o j (by omega)
          go_wp2
          go_round
          case rel => exact ⟨k + 1, by omega, by go_num, G⟩
          case measure => simp [intOf]; omega
      · have CB : Hd (U.closedB s = U.jend s 1) := hd (U.closed_all s h0' HQ.o (fun j hj => hr.o j (by omega)))
        clear hr
        go_wp2
        go_loop [5] (fun x => ∃ i : Nat, i ≤ s.size + 1 ∧ x = .int .i64 i ∧ Hd (U.jend s i = U.jend s 1)) (fun x => s.size + 1 - (intOf x).toNat)
        case atStart => exact ⟨1, by omega, rfl, hd rfl⟩
        case round =>
          obtain ⟨i, hi, rfl, hr⟩ := hrel
          by_cases hlt : i < s.size
          · have ei := U.at_eq s i hlt
            have h1 : ((s[i]'hlt).toNat : Int) = (U.at' s i : Int) := by rw [ei]
            clear ei
            by_cases h92 : U.at' s i = 92
            · have b1 : ((U.at' s i : Int) == 92) = true := by rw [h92]; rfl
              have b2 : ((U.at' s i : Int) == 34) = false := by rw [h92]; rfl
              have G : Hd (U.jend s (i + 2) = U.jend s 1) := hd <| by rw [← hr.o, U.jend_esc s i hlt h92]
              clear h92
              go_wp2
              go_round
              case rel => exact ⟨i + 2, by omega, by go_num, G⟩
              case measure => simp [intOf]; omega
            have b1 : ((U.at' s i : Int) == 92) = false := by rw [beq_eq_false_iff_ne]; omega
            by_cases h34 : U.at' s i = 34
            · have b2 : ((U.at' s i : Int) == 34) = true := by rw [h34]; rfl
              have G : Hd (U.closedB s = decide (i + 1 = s.size)) := hd <| by rw [CB.o, ← hr.o, U.jend_hit s i hlt h34]
              clear h92 h34
              by_cases hend : i + 1 = s.size
              · have b3 : ((i : Int) == (s.size : Int) - 1) = true := by rw [beq_iff_eq]; omega
                have G2 : Hd (U.closedB s = true) := hd (by rw [G.o, decide_eq_true hend])
                clear hend
                go_wp2
                go_ret
                exact ⟨ret_bool (by rw [G2.o]), hb1⟩
              · have b3 : ((i : Int) == (s.size : Int) - 1) = false := by rw [beq_eq_false_iff_ne]; omega
                have G2 : Hd (U.closedB s = false) := hd (by rw [G.o, decide_eq_false hend])
                clear hend
                go_wp2
                go_ret
                exact ⟨ret_bool (by rw [G2.o]), hb1⟩
            · have b2 : ((U.at' s i : Int) == 34) = false := by rw [beq_eq_false_iff_ne]; omega
              have G : Hd (U.jend s (i + 1) = U.jend s 1) := hd <| by rw [← hr.o, U.jend_step s i hlt h34 h92]
              clear h92 h34
              go_wp2
              go_round
              case rel => exact ⟨i + 1, by omega, by go_num, G⟩
              case measure => simp [intOf]; omega
          · have G2 : Hd (U.closedB s = false) := hd <| by rw [CB.o, ← hr.o, U.jend_end s i hlt]
            go_wp2
            go_ret
            exact ⟨ret_bool (by rw [G2.o]), hb1⟩
  · have bq : ((U.at' s 0 : Int) != 34) = true := by rw [bne_iff_ne]; omega
    have G : Hd (U.closedB s = false) := hd (U.closed_no s hq)
    clear hq
    go_enter Try.func54, Try.ntmps54
    go_wp2
    go_ret
    exact ⟨ret_bool (by rw [G.o]), Below.refl _ _⟩

theorem refclosed_any (s : ByteArray) (w : World) (hs : s.size ≤ 1125899906842624) :
    Calls Try.prog 57 #[.string s] w fun e w' => e = .returned (.bool (U.closedB s)) ∧ Below w.heap.size w w' := by
  by_cases h2 : s.size < 2
  · have G : Hd (U.closedB s = false) := hd <| by
      by_cases h0 : s.size = 0
      · exact U.closed_nil s h0
      · unfold U.closedB; rw [U.jend_end s 1 (by omega)]; simp
    go_enter Try.func57, Try.ntmps57
    go_wp2
    go_ret
    exact ⟨ret_bool (by rw [G.o]), Below.refl _ _⟩
  have h0' : 0 < s.size := by omega
  have e0 := U.at_eq s 0 h0'
  have hi0 : ((s[0]'h0').toNat : Int) = (U.at' s 0 : Int) := by rw [e0]
  clear e0
  by_cases hq : U.at' s 0 = 34
  · have bq : ((U.at' s 0 : Int) != 34) = false := by rw [hq]; rfl
    have HQ := hd hq
    clear hq
    go_enter Try.func57, Try.ntmps57
    go_wp2
    go_loop [3] (fun x => ∃ k : Nat, k ≤ s.size ∧ x = .int .i64 k ∧ Hd (∀ j, j < k → 32 ≤ U.at' s j)) (fun x => s.size - (intOf x).toNat)
    case atStart => exact ⟨0, Nat.zero_le _, rfl, hd (fun j h => absurd h (by omega))⟩
    case round =>
      obtain ⟨k, hk, rfl, hr⟩ := hrel
      by_cases hlt : k < s.size
      · have ek := U.at_eq s k hlt
        have hik : ((s[k]'hlt).toNat : Int) = (U.at' s k : Int) := by rw [ek]
        clear ek
        have hcb := U.at_lt s k
        by_cases h32 : U.at' s k < 32
        · have G : Hd (U.closedB s = false) := hd (U.closed_low s k hlt h32)
          go_wp2
          go_ret
          exact ⟨ret_bool (by rw [G.o]), Below.refl _ _⟩
        · have G : Hd (∀ j, j < k + 1 → 32 ≤ U.at' s j) := hd fun j hj => by
            by_cases h : j = k
            · rw [h]; omega
            · exact hr.o j (by omega)
          go_wp2
          go_round
          case rel => exact ⟨k + 1, by omega, by go_num, G⟩
          case measure => simp [intOf]; omega
      · have CB : Hd (U.closedB s = U.jend s 1) := hd (U.closed_all s h0' HQ.o (fun j hj => hr.o j (by omega)))
        clear hr
        go_wp2
        go_loop [4] (fun x => ∃ i : Nat, i ≤ s.size + 1 ∧ x = .int .i64 i ∧ Hd (U.jend s i = U.jend s 1)) (fun x => s.size + 1 - (intOf x).toNat)
        case atStart => exact ⟨1, by omega, rfl, hd rfl⟩
        case round =>
          obtain ⟨i, hi, rfl, hr⟩ := hrel
          by_cases hlt : i < s.size
          · have ei := U.at_eq s i hlt
            have h1 : ((s[i]'hlt).toNat : Int) = (U.at' s i : Int) := by rw [ei]
            clear ei
            by_cases h92 : U.at' s i = 92
            · have b1 : ((U.at' s i : Int) == 92) = true := by rw [h92]; rfl
              have b2 : ((U.at' s i : Int) == 34) = false := by rw [h92]; rfl
              have G : Hd (U.jend s (i + 2) = U.jend s 1) := hd <| by rw [← hr.o, U.jend_esc s i hlt h92]
              clear h92
              go_wp2
              go_round
              case rel => exact ⟨i + 2, by omega, by go_num, G⟩
              case measure => simp [intOf]; omega
            have b1 : ((U.at' s i : Int) == 92) = false := by rw [beq_eq_false_iff_ne]; omega
            by_cases h34 : U.at' s i = 34
            · have b2 : ((U.at' s i : Int) == 34) = true := by rw [h34]; rfl
              have G : Hd (U.closedB s = decide (i + 1 = s.size)) := hd <| by rw [CB.o, ← hr.o, U.jend_hit s i hlt h34]
              clear h92 h34
              by_cases hend : i + 1 = s.size
              · have b3 : ((i : Int) == (s.size : Int) - 1) = true := by rw [beq_iff_eq]; omega
                have G2 : Hd (U.closedB s = true) := hd (by rw [G.o, decide_eq_true hend])
                clear hend
                go_wp2
                go_ret
                exact ⟨ret_bool (by rw [G2.o]), Below.refl _ _⟩
              · have b3 : ((i : Int) == (s.size : Int) - 1) = false := by rw [beq_eq_false_iff_ne]; omega
                have G2 : Hd (U.closedB s = false) := hd (by rw [G.o, decide_eq_false hend])
                clear hend
                go_wp2
                go_ret
                exact ⟨ret_bool (by rw [G2.o]), Below.refl _ _⟩
            · have b2 : ((U.at' s i : Int) == 34) = false := by rw [beq_eq_false_iff_ne]; omega
              have G : Hd (U.jend s (i + 1) = U.jend s 1) := hd <| by rw [← hr.o, U.jend_step s i hlt h34 h92]
              clear h92 h34
              go_wp2
              go_round
              case rel => exact ⟨i + 1, by omega, by go_num, G⟩
              case measure => simp [intOf]; omega
          · have G2 : Hd (U.closedB s = false) := hd <| by rw [CB.o, ← hr.o, U.jend_end s i hlt]
            go_wp2
            go_ret
            exact ⟨ret_bool (by rw [G2.o]), Below.refl _ _⟩
  · have bq : ((U.at' s 0 : Int) != 34) = true := by rw [bne_iff_ne]; omega
    have G : Hd (U.closedB s = false) := hd (U.closed_no s hq)
    clear hq
    go_enter Try.func57, Try.ntmps57
    go_wp2
    go_ret
    exact ⟨ret_bool (by rw [G.o]), Below.refl _ _⟩
end Go.Proofs.Ythlpgnidjjclcaa
