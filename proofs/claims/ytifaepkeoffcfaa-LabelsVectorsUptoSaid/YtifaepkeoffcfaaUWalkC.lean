/- The walks of weirref01.Next, Valid and utf.Next: all by one word, U.next, U.valid. -/
import Derived.Test.YtifaepkeoffcfaaUWalkB
namespace Go.Proofs.Ytifaepkeoffcfaa
open Go.RowKit

namespace U
/-- the rune that begins at a place, and its width; -1 and 0: none -/
def next (s : ByteArray) (i : Int) : Int × Int :=
  if 0 ≤ i ∧ i < s.size then (if bad s i.toNat then (-1, 0) else (run s i.toNat, (Utf8.decode s i.toNat).2)) else (-1, 0)
theorem next_out (s : ByteArray) (i : Int) (h : i < 0 ∨ s.size ≤ i) : next s i = (-1, 0) := by
  unfold next; rw [if_neg (by omega)]
theorem next_bad (s : ByteArray) (i : Nat) (h : bad s i = true) : next s i = (-1, 0) := by
  unfold next; split <;> simp [h]
theorem next_good (s : ByteArray) (i : Nat) (hi : i < s.size) (h : bad s i = false) : next s i = ((run s i : Int), ((Utf8.decode s i).2 : Int)) := by
  unfold next; rw [if_pos (by omega)]; simp [h]
theorem next_wid (s : ByteArray) (i : Nat) : (next s i).2 = wid s i := by
  unfold next wid
  by_cases h : i < s.size
  · rw [if_pos (by omega), if_pos h]; simp only [Int.toNat_natCast]; split <;> rfl
  · rw [if_neg (by omega), if_neg h]; rfl
theorem run_bd (s : ByteArray) (i : Nat) : run s i ≤ 2147483647 := decode_le s i
end U

theorem ret_next {a b c d : Int} (h1 : a = c) (h2 : b = d) : Ending.returned (.tuple #[.int .i32 a, .int .i64 b]) = .returned (.tuple #[.int .i32 c, .int .i64 d]) := by rw [h1, h2]

theorem refNext_in (s : ByteArray) (i : Nat) (W : World) (hs : s.size ≤ 1125899906842624) (hi : i < s.size) :
    Calls Try.prog 71 #[.string s, .int .i64 i] W fun e W' => e = .returned (.tuple #[.int .i32 (U.next s i).1, .int .i64 (U.next s i).2]) ∧ Below W.heap.size W W' := by
  have hd : decide (s.size ≤ i) = false := by simpa using hi
  go_enter Try.func71, Try.ntmps71
  go_wp2
  go_loopw [6] (fun x wr => ∃ k : Nat, 1 ≤ k ∧ k ≤ 5 ∧ x = .int .i64 k ∧ Hid (∀ j, 1 ≤ j → j < k → i + j ≤ s.size → U.hit s i j = false) ∧ Below W.heap.size W wr) (fun x _ => 5 - (intOf x).toNat)
  case atStart => exact ⟨1, by omega, by omega, rfl, (fun j h1 h2 => by omega), Below.refl _ _⟩
  case round =>
    obtain ⟨k, hk1, hk5, rfl, hno, hbel⟩ := hrel
    by_cases hk : k ≤ 4 ∧ i + k ≤ s.size
    · obtain ⟨hk4, hik⟩ := hk
      have hg := gs_bd s i k ⟨hk1, hk4⟩
      cases c1 : (((U.formB (U.gs s i k)).size : Int) == (k : Int)) with
      | false =>
        have hh : U.hit s i k = false := by
          unfold U.hit
          have : ((U.formB (U.gs s i k)).size == k) = false := by rw [beq_eq_false_iff_ne] at c1 ⊢; omega
          rw [this]; rfl
        have G : Hid (∀ j, 1 ≤ j → j < k + 1 → i + j ≤ s.size → U.hit s i j = false) := fun j h1 h2 h3 => by
          by_cases e : j = k
          · rw [e]; exact hh
          · exact hno.out j h1 (by omega) h3
        clear hh
        go_wp2_with (first
          | (go_at_call 82; refine (guess_any s i k _ hs ⟨hk1, hk4⟩ hik).mono ?_; rintro e w' ⟨rfl, rfl⟩)
          | (go_at_call 83; refine (Form_any _ _ (by omega) (by omega)).mono ?_; rintro e w1 ⟨rfl, hb1⟩))
        go_roundw
        case rel => exact ⟨k + 1, by omega, by omega, by go_num, G, hbel.trans ((show Below _ _ _ by assumption).mono hbel.size)⟩
        case measure => simp [intOf]; omega
      | true =>
        cases c2 : ((s.extract i (i + k)).toList == (U.formB (U.gs s i k)).toList) with
        | false =>
          have hh : U.hit s i k = false := by
            unfold U.hit
            rw [c2, Bool.and_false]
          have G : Hid (∀ j, 1 ≤ j → j < k + 1 → i + j ≤ s.size → U.hit s i j = false) := fun j h1 h2 h3 => by
            by_cases e : j = k
            · rw [e]; exact hh
            · exact hno.out j h1 (by omega) h3
          clear hh
          go_wp2_with (first
            | (go_at_call 82; refine (guess_any s i k _ hs ⟨hk1, hk4⟩ hik).mono ?_; rintro e w' ⟨rfl, rfl⟩)
            | (go_at_call 83; refine (Form_any _ _ (by omega) (by omega)).mono ?_; rintro e w1 ⟨rfl, hb1⟩))
          go_roundw
          case rel => exact ⟨k + 1, by omega, by omega, by go_num, G, hbel.trans ((show Below _ _ _ by assumption).mono hbel.size)⟩
          case measure => simp [intOf]; omega
        | true =>
          have hh : U.hit s i k = true := by
            unfold U.hit
            have : ((U.formB (U.gs s i k)).size == k) = true := by rw [beq_iff_eq] at c1 ⊢; omega
            rw [this, c2]; rfl
          obtain ⟨d0, d1, d2⟩ := U.hit_dec s i k ⟨hk1, hk4⟩ hik hh
          have G : Hid (U.next s i = (U.gs s i k, (k : Int))) := by
            show _ = _
            rw [U.next_good s i hi d2]
            unfold U.run
            rw [d1]
            simp only [Int.toNat_of_nonneg d0]
          clear hh d1 d2
          go_wp2_with (first
            | (go_at_call 82; refine (guess_any s i k _ hs ⟨hk1, hk4⟩ hik).mono ?_; rintro e w' ⟨rfl, rfl⟩)
            | (go_at_call 83; refine (Form_any _ _ (by omega) (by omega)).mono ?_; rintro e w1 ⟨rfl, hb1⟩))
          go_ret2
          exact ⟨ret_next (by rw [G.out]) (by rw [G.out]), hbel.trans ((show Below _ _ _ by assumption).mono hbel.size)⟩
    · have G : Hid (U.next s i = (-1, 0)) := U.next_bad s i (U.no_hit s i hi fun j h1 h2 h3 => hno.out j h1 (by omega) h3)
      by_cases hk4 : k ≤ 4
      · have : ¬ (i + k ≤ s.size) := fun h => hk ⟨hk4, h⟩
        clear hk
        go_wp2
        go_ret2
        exact ⟨ret_next (by rw [G.out]) (by rw [G.out]), hbel⟩
      · clear hk
        go_wp2
        go_ret2
        exact ⟨ret_next (by rw [G.out]) (by rw [G.out]), hbel⟩

theorem refNext_any (s : ByteArray) (i : Int) (W : World) (hs : s.size ≤ 1125899906842624) :
    Calls Try.prog 71 #[.string s, .int .i64 i] W fun e W' => e = .returned (.tuple #[.int .i32 (U.next s i).1, .int .i64 (U.next s i).2]) ∧ Below W.heap.size W W' := by
  by_cases h0 : i < 0
  · have G : Hid (U.next s i = (-1, 0)) := U.next_out s i (Or.inl h0)
    go_enter Try.func71, Try.ntmps71
    go_wp2
    go_ret2
    exact ⟨ret_next (by rw [G.out]) (by rw [G.out]), Below.refl _ _⟩
  by_cases h1 : (s.size : Int) ≤ i
  · have G : Hid (U.next s i = (-1, 0)) := U.next_out s i (Or.inr h1)
    go_enter Try.func71, Try.ntmps71
    go_wp2
    go_ret2
    exact ⟨ret_next (by rw [G.out]) (by rw [G.out]), Below.refl _ _⟩
  obtain ⟨n, rfl⟩ := Int.eq_ofNat_of_zero_le (show 0 ≤ i by omega)
  exact refNext_in s n W hs (by omega)

theorem refValid_any (s : ByteArray) (W : World) (hs : s.size ≤ 1125899906842624) :
    Calls Try.prog 59 #[.string s] W fun e W' => e = .returned (.bool (U.valid s)) ∧ Below W.heap.size W W' := by
  go_enter Try.func59, Try.ntmps59
  go_wp2
  go_loopw [3] (fun x wr => ∃ p : Nat, p ≤ s.size ∧ x = .int .i64 p ∧ Hid (U.vfrom s p = U.valid s) ∧ Below W.heap.size W wr) (fun x _ => s.size - (intOf x).toNat)
  case atStart => exact ⟨0, by omega, rfl, rfl, Below.refl _ _⟩
  case round =>
    obtain ⟨p, hp, rfl, hv, hbel⟩ := hrel
    by_cases hlt : p < s.size
    · cases hb : U.bad s p with
      | true =>
        have N : Hid (U.next s p = (-1, 0)) := U.next_bad s p hb
        have G : Hid (U.valid s = false) := by show _ = _; rw [← hv.out, U.vfrom_bad s p hlt hb]
        clear hb
        go_wp2_with (go_at_call 71; refine (refNext_any s p _ hs).mono ?_; rintro e w1 ⟨rfl, hb1⟩; rw [N.out])
        go_ret
        exact ⟨ret_bool G.out.symm, hbel.trans ((show Below _ _ _ by assumption).mono hbel.size)⟩
      | false =>
        have N : Hid (U.next s p = ((U.run s p : Int), ((Utf8.decode s p).2 : Int))) := U.next_good s p hlt hb
        have G : Hid (U.vfrom s (p + (Utf8.decode s p).2) = U.valid s) := by show _ = _; rw [← hv.out, U.vfrom_step s p hlt hb]
        clear hb
        have hle := U.dec_le s p hlt
        have hdp := U.dec_pos s p
        have hne : (((Utf8.decode s p).2 : Int) == 0) = false := by rw [beq_eq_false_iff_ne]; omega
        go_wp2_with (go_at_call 71; refine (refNext_any s p _ hs).mono ?_; rintro e w1 ⟨rfl, hb1⟩; rw [N.out])
        go_roundw
        case rel => exact ⟨p + (Utf8.decode s p).2, hle, by go_num, G, hbel.trans ((show Below _ _ _ by assumption).mono hbel.size)⟩
        case measure => simp [intOf]; omega
    · have G : Hid (U.valid s = true) := by show _ = _; rw [← hv.out, U.vfrom_end s p hlt]
      go_wp2
      go_ret
      exact ⟨ret_bool G.out.symm, hbel⟩

namespace U
theorem at_out (s : ByteArray) (k : Nat) (h : s.size ≤ k) : at' s k = 0 := by
  unfold at'
  simp only [ByteArray.get!, Array.getElem!_eq_getD, Array.getD]
  rw [dif_neg (show ¬ k < s.data.size from Nat.not_lt.2 h)]
  rfl
theorem at_ext (s : ByteArray) (a b k : Nat) (hb : b ≤ s.size) (hk : a + k < b) : at' (s.extract a b) k = at' s (a + k) := by
  have hz : (s.extract a b).size = b - a := by rw [ByteArray.size_extract]; omega
  have h1 := Lib.extract_data s a b
  have h2 : (s.extract a b).data.toList[k]? = s.data.toList[a+k]? := by
    rw [h1, List.getElem?_take, if_pos (by omega), List.getElem?_drop]
  rw [data_get _ _ (by omega), data_get _ _ (by omega)] at h2
  unfold at'
  rw [Option.some.inj h2]
theorem dec_ext (s : ByteArray) (i e : Nat) (hi : i < s.size) (he : e = min s.size (i + 4)) : Utf8.decode (s.extract i e) 0 = Utf8.decode s i := by
  have hz : (s.extract i e).size = e - i := by rw [ByteArray.size_extract]; omega
  have h : ∀ k, k < 4 → at' (s.extract i e) k = at' s (i + k) := by
    intro k hk
    by_cases c : i + k < e
    · exact at_ext s i e k (by omega) c
    · rw [at_out _ _ (by omega), at_out _ _ (by omega)]
  have g0 := h 0 (by omega); have g1 := h 1 (by omega); have g2 := h 2 (by omega); have g3 := h 3 (by omega)
  have z : ∀ k, 1 ≤ k → k < 4 → ((0 + k < (s.extract i e).size) ↔ (i + k < s.size)) := fun k _ _ => by omega
  rw [decode_eq, decode_eq]
  simp only [Nat.zero_add, Nat.add_zero] at g0 g1 g2 g3 z ⊢
  have z1 := z 1 (by omega) (by omega); have z2 := z 2 (by omega) (by omega); have z3 := z 3 (by omega) (by omega)
  simp only [g0, g1, g2, g3, z1, z2, z3]
end U

end Go.Proofs.Ytifaepkeoffcfaa
