/- The walks of utf.digit and utf.digits. -/
import Derived.Test.YthlpgnidjjclcaaUWalkA
import Derived.Test.YthlpgnidjjclcaaUEsc
import Derived.Test.YthlpgnidjjclcaaBase4
import Derived.Test.YthlpgnidjjclcaaUWalkC
namespace Go.Proofs.Ythlpgnidjjclcaa
open Go.RowKit
set_option linter.unusedVariables false
set_option linter.unusedSimpArgs false
/-- the number of k digits at the head of l, given up where it gets great -/
def U.numQ (base k : Nat) (l : List UInt8) : Option Nat := if l.length < k then none else U.numP base (l.take k) 0
def digR : Option Nat → Int × Bool
  | some v => (v, true)
  | none => (0, false)
theorem ret_dig {a c : Int} {b d : Bool} (h1 : a = c) (h2 : b = d) : Ending.returned (.tuple #[.int .i32 a, .bool b]) = .returned (.tuple #[.int .i32 c, .bool d]) := by rw [h1, h2]

theorem digit_any (c : Nat) (w : World) (h : c < 256) :
    Calls Try.prog 66 #[.int .u8 c] w fun e w' => e = .returned (.int .i32 (U.dig c)) ∧ w = w' := by
  by_cases h1 : 48 ≤ c ∧ c ≤ 57
  · have G : Hd (U.dig c = (c : Int) - 48) := hd <| by unfold U.dig; rw [if_pos h1]
    obtain ⟨a1, a2⟩ := h1
    go_enter Try.func66, Try.ntmps66
    go_wp2
    go_ret
    exact ⟨ret_int G.o.symm, rfl⟩
  by_cases h2 : 97 ≤ c ∧ c ≤ 102
  · have G : Hd (U.dig c = (c : Int) - 97 + 10) := hd <| by unfold U.dig; rw [if_neg h1, if_pos h2]; omega
    obtain ⟨a1, a2⟩ := h2
    go_enter Try.func66, Try.ntmps66
    go_wp2
    go_ret
    exact ⟨ret_int G.o.symm, rfl⟩
  by_cases h3 : 65 ≤ c ∧ c ≤ 70
  · have G : Hd (U.dig c = (c : Int) - 65 + 10) := hd <| by unfold U.dig; rw [if_neg h1, if_neg h2, if_pos h3]; omega
    obtain ⟨a1, a2⟩ := h3
    go_enter Try.func66, Try.ntmps66
    go_wp2
    go_ret
    exact ⟨ret_int G.o.symm, rfl⟩
  · have G : Hd (U.dig c = -1) := hd <| by unfold U.dig; rw [if_neg h1, if_neg h2, if_neg h3]
    go_enter Try.func66, Try.ntmps66
    go_wp2
    all_goals first | (exfalso; omega) | (go_ret; exact ⟨ret_int G.o.symm, rfl⟩)

theorem digits8 (s : ByteArray) (n : Nat) (z : Int) (hz : z = n) (w : World) (hs : s.size ≤ 1125899906842624) (hn : n ≤ 8) :
    Calls Try.prog 62 #[.string s, .int .i64 z, .int .i32 8] w fun e w' => e = .returned (.tuple #[.int .i32 (digR (U.numQ 8 n s.data.toList)).1, .bool (digR (U.numQ 8 n s.data.toList)).2]) ∧ Below w.heap.size w w' := by
  subst hz
  by_cases hl : s.size < n
  · have G : Hd (U.numQ 8 n s.data.toList = none) := hd <| by unfold U.numQ; rw [if_pos (by rw [← Lib.size_eq]; exact hl)]
    go_enter Try.func62, Try.ntmps62
    go_wp2
    go_ret2
    exact ⟨ret_dig (by rw [G.o]; rfl) (by rw [G.o]; rfl), Below.refl _ _⟩
  have G0 : Hd (U.numQ 8 n s.data.toList = U.numP 8 (s.data.toList.take n) 0) := hd <| by unfold U.numQ; rw [if_neg (by rw [← Lib.size_eq]; exact hl)]
  have hzl : (s.data.toList.take n).length = n := by rw [List.length_take, ← Lib.size_eq]; omega
  have HL := hd hzl
  clear hzl
  go_enter Try.func62, Try.ntmps62
  go_wp2_with (refine wpList_bytes_of _ 9 62 5 _ Try.underlying9 Try.underlying62 Try.underlying5 rfl _ rfl rfl ?_)
  intro cap w1 hb1 hz1 hcell
  have hmin : min n s.size = n := by omega
  rw [hmin] at hcell ⊢
  clear hmin
  have HC := hd hcell
  clear hcell
  go_wp2
  go_loop [8, 21] (fun x y => ∃ k v : Nat, k ≤ n ∧ y = .int .i64 k ∧ x = .int .i32 v ∧ v ≤ 134217743 ∧ Hd (U.numP 8 ((s.data.toList.take n).drop k) v = U.numP 8 (s.data.toList.take n) 0)) (fun _ y => n - (intOf y).toNat)
  case atStart => exact ⟨0, 0, Nat.zero_le _, rfl, rfl, by omega, hd rfl⟩
  case round =>
    obtain ⟨k, v, hk, rfl, rfl, hv, hr⟩ := hrel
    by_cases hlt : k < n
    · have c1 := HC.o k hlt
      rw [U.at_ext s 0 n k (by omega) (by omega), Nat.zero_add] at c1
      obtain ⟨hk', hat⟩ := list_at s k (by omega)
      have hdr : (s.data.toList.take n).drop k = s.data.toList[k]'hk' :: (s.data.toList.take n).drop (k + 1) := by
        rw [List.drop_eq_getElem_cons (by rw [HL.o]; exact hlt)]
        simp
      have hcb := U.at_lt s k
      have hdb := U.dig_bd (U.at' s k)
      rw [hdr] at hr
      have HR : ∀ _ : Unit, U.numP 8 (s.data.toList[k]'hk' :: (s.data.toList.take n).drop (k + 1)) v = U.numP 8 (s.data.toList.take n) 0 := hr
      clear hdr hr
      by_cases h1 : 0 ≤ U.dig (U.at' s k) ∧ U.dig (U.at' s k) < 8 ∧ v ≤ 8388607
      · have G : Hd (U.numP 8 ((s.data.toList.take n).drop (k + 1)) (v * 8 + (U.dig (U.at' s k)).toNat) = U.numP 8 (s.data.toList.take n) 0) := hd <| by
          rw [← HR (), U.numP, hat, if_pos ⟨h1.1, by simpa using h1.2.1, h1.2.2⟩]
        obtain ⟨d1, d2, d3⟩ := h1
        have hcv : 0 ≤ (v : Int) ∧ (v : Int) ≤ 8388607 := by omega
        obtain ⟨v1, v2⟩ := hcv
        clear HR hat
        go_wp2_with (go_at_call 66; refine (digit_any _ _ (by omega)).mono ?_; rintro e w' ⟨rfl, rfl⟩)
        go_round
        case rel => exact ⟨k + 1, v * 8 + (U.dig (U.at' s k)).toNat, by omega, by go_num, by rw [show (((v * 8 + (U.dig (U.at' s k)).toNat : Nat) : Int)) = (v : Int) * 8 + U.dig (U.at' s k) by omega], by omega, G⟩
        case measure => simp [intOf]; omega
      · have G : Hd (U.numQ 8 n s.data.toList = none) := hd <| by
          rw [G0.o, ← HR (), U.numP, hat, if_neg (by intro h; exact h1 ⟨h.1, by simpa using h.2.1, h.2.2⟩)]
        clear HR hat
        by_cases d1 : 0 ≤ U.dig (U.at' s k)
        · by_cases d2 : U.dig (U.at' s k) < 8
          · have v2 : ¬ (v : Int) ≤ 8388607 := by intro h; exact h1 ⟨d1, d2, by omega⟩
            clear h1
            go_wp2_with (go_at_call 66; refine (digit_any _ _ (by omega)).mono ?_; rintro e w' ⟨rfl, rfl⟩)
            go_ret2
            exact ⟨ret_dig (by rw [G.o]; rfl) (by rw [G.o]; rfl), hb1⟩
          · clear h1
            go_wp2_with (go_at_call 66; refine (digit_any _ _ (by omega)).mono ?_; rintro e w' ⟨rfl, rfl⟩)
            go_ret2
            exact ⟨ret_dig (by rw [G.o]; rfl) (by rw [G.o]; rfl), hb1⟩
        · clear h1
          go_wp2_with (go_at_call 66; refine (digit_any _ _ (by omega)).mono ?_; rintro e w' ⟨rfl, rfl⟩)
          go_ret2
          exact ⟨ret_dig (by rw [G.o]; rfl) (by rw [G.o]; rfl), hb1⟩
    · have G : Hd (U.numQ 8 n s.data.toList = some v) := hd <| by
        rw [G0.o, ← hr.o, List.drop_of_length_le (by rw [HL.o]; omega), U.numP]
      go_wp2
      go_ret2
      exact ⟨ret_dig (by rw [G.o]; rfl) (by rw [G.o]; rfl), hb1⟩

theorem digits16 (s : ByteArray) (n : Nat) (z : Int) (hz : z = n) (w : World) (hs : s.size ≤ 1125899906842624) (hn : n ≤ 8) :
    Calls Try.prog 62 #[.string s, .int .i64 z, .int .i32 16] w fun e w' => e = .returned (.tuple #[.int .i32 (digR (U.numQ 16 n s.data.toList)).1, .bool (digR (U.numQ 16 n s.data.toList)).2]) ∧ Below w.heap.size w w' := by
  subst hz
  by_cases hl : s.size < n
  · have G : Hd (U.numQ 16 n s.data.toList = none) := hd <| by unfold U.numQ; rw [if_pos (by rw [← Lib.size_eq]; exact hl)]
    go_enter Try.func62, Try.ntmps62
    go_wp2
    go_ret2
    exact ⟨ret_dig (by rw [G.o]; rfl) (by rw [G.o]; rfl), Below.refl _ _⟩
  have G0 : Hd (U.numQ 16 n s.data.toList = U.numP 16 (s.data.toList.take n) 0) := hd <| by unfold U.numQ; rw [if_neg (by rw [← Lib.size_eq]; exact hl)]
  have hzl : (s.data.toList.take n).length = n := by rw [List.length_take, ← Lib.size_eq]; omega
  have HL := hd hzl
  clear hzl
  go_enter Try.func62, Try.ntmps62
  go_wp2_with (refine wpList_bytes_of _ 9 62 5 _ Try.underlying9 Try.underlying62 Try.underlying5 rfl _ rfl rfl ?_)
  intro cap w1 hb1 hz1 hcell
  have hmin : min n s.size = n := by omega
  rw [hmin] at hcell ⊢
  clear hmin
  have HC := hd hcell
  clear hcell
  go_wp2
  go_loop [8, 21] (fun x y => ∃ k v : Nat, k ≤ n ∧ y = .int .i64 k ∧ x = .int .i32 v ∧ v ≤ 134217743 ∧ Hd (U.numP 16 ((s.data.toList.take n).drop k) v = U.numP 16 (s.data.toList.take n) 0)) (fun _ y => n - (intOf y).toNat)
  case atStart => exact ⟨0, 0, Nat.zero_le _, rfl, rfl, by omega, hd rfl⟩
  case round =>
    obtain ⟨k, v, hk, rfl, rfl, hv, hr⟩ := hrel
    by_cases hlt : k < n
    · have c1 := HC.o k hlt
      rw [U.at_ext s 0 n k (by omega) (by omega), Nat.zero_add] at c1
      obtain ⟨hk', hat⟩ := list_at s k (by omega)
      have hdr : (s.data.toList.take n).drop k = s.data.toList[k]'hk' :: (s.data.toList.take n).drop (k + 1) := by
        rw [List.drop_eq_getElem_cons (by rw [HL.o]; exact hlt)]
        simp
      have hcb := U.at_lt s k
      have hdb := U.dig_bd (U.at' s k)
      rw [hdr] at hr
      have HR : ∀ _ : Unit, U.numP 16 (s.data.toList[k]'hk' :: (s.data.toList.take n).drop (k + 1)) v = U.numP 16 (s.data.toList.take n) 0 := hr
      clear hdr hr
      by_cases h1 : 0 ≤ U.dig (U.at' s k) ∧ U.dig (U.at' s k) < 16 ∧ v ≤ 8388607
      · have G : Hd (U.numP 16 ((s.data.toList.take n).drop (k + 1)) (v * 16 + (U.dig (U.at' s k)).toNat) = U.numP 16 (s.data.toList.take n) 0) := hd <| by
          rw [← HR (), U.numP, hat, if_pos ⟨h1.1, by simpa using h1.2.1, h1.2.2⟩]
        obtain ⟨d1, d2, d3⟩ := h1
        have hcv : 0 ≤ (v : Int) ∧ (v : Int) ≤ 8388607 := by omega
        obtain ⟨v1, v2⟩ := hcv
        clear HR hat
        go_wp2_with (go_at_call 66; refine (digit_any _ _ (by omega)).mono ?_; rintro e w' ⟨rfl, rfl⟩)
        go_round
        case rel => exact ⟨k + 1, v * 16 + (U.dig (U.at' s k)).toNat, by omega, by go_num, by rw [show (((v * 16 + (U.dig (U.at' s k)).toNat : Nat) : Int)) = (v : Int) * 16 + U.dig (U.at' s k) by omega], by omega, G⟩
        case measure => simp [intOf]; omega
      · have G : Hd (U.numQ 16 n s.data.toList = none) := hd <| by
          rw [G0.o, ← HR (), U.numP, hat, if_neg (by intro h; exact h1 ⟨h.1, by simpa using h.2.1, h.2.2⟩)]
        clear HR hat
        by_cases d1 : 0 ≤ U.dig (U.at' s k)
        · by_cases d2 : U.dig (U.at' s k) < 16
          · have v2 : ¬ (v : Int) ≤ 8388607 := by intro h; exact h1 ⟨d1, d2, by omega⟩
            clear h1
            go_wp2_with (go_at_call 66; refine (digit_any _ _ (by omega)).mono ?_; rintro e w' ⟨rfl, rfl⟩)
            go_ret2
            exact ⟨ret_dig (by rw [G.o]; rfl) (by rw [G.o]; rfl), hb1⟩
          · clear h1
            go_wp2_with (go_at_call 66; refine (digit_any _ _ (by omega)).mono ?_; rintro e w' ⟨rfl, rfl⟩)
            go_ret2
            exact ⟨ret_dig (by rw [G.o]; rfl) (by rw [G.o]; rfl), hb1⟩
        · clear h1
          go_wp2_with (go_at_call 66; refine (digit_any _ _ (by omega)).mono ?_; rintro e w' ⟨rfl, rfl⟩)
          go_ret2
          exact ⟨ret_dig (by rw [G.o]; rfl) (by rw [G.o]; rfl), hb1⟩
    · have G : Hd (U.numQ 16 n s.data.toList = some v) := hd <| by
        rw [G0.o, ← hr.o, List.drop_of_length_le (by rw [HL.o]; omega), U.numP]
      go_wp2
      go_ret2
      exact ⟨ret_dig (by rw [G.o]; rfl) (by rw [G.o]; rfl), hb1⟩
end Go.Proofs.Ythlpgnidjjclcaa
