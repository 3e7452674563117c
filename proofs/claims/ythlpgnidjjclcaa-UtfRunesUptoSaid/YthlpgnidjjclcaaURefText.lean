/- The walk of weirref01.Text: the text of runes, or the refusal. -/
import Derived.Test.YthlpgnidjjclcaaURefAll
namespace Go.Proofs.Ythlpgnidjjclcaa
open Go.RowKit
set_option linter.unusedVariables false
set_option linter.unusedSimpArgs false
set_option maxHeartbeats 1000000 in
theorem refText_any (v : Value) (n : Nat) (xs : List Int) (w : World) (hx : IsL 1 w v n (ints32 xs)) (hn : n ≤ 17592186044416) (hwf : ∀ r ∈ xs, -2147483648 ≤ r ∧ r ≤ 2147483647) :
    Calls Try.prog 50 #[v] w fun e w' => e = strR (U.text xs) ∧ Below w.heap.size w w' := by
  obtain ⟨l1, A, c, rfl, r1⟩ := hx
  rw [ints32_len, Nat.mul_one] at l1
  have HX := hd l1
  have HR := hd r1
  have HW := hd hwf
  clear l1 r1 hwf
  go_enter Try.func50, Try.ntmps50
  go_wp2
  go_loopw [4, 5] (fun v x wr => ∃ k : Nat, k ≤ n ∧ x = .int .i64 k ∧ wr.ownsRow w.heap.size 5 1 v (U.encs (xs.take k)).length (cellsB (U.encs (xs.take k))) ∧ Below w.heap.size w wr ∧ (U.encs (xs.take k)).length ≤ 4 * k ∧ Hd (U.allRunes (xs.take k) = true)) (fun _ x _ => n - (intOf x).toNat)
  case atStart => exact ⟨0, Nat.zero_le _, rfl, World.ownsRow_nil _ _ _ _, Below.refl _ _, by simp [U.encs], hd rfl⟩
  case round =>
    obtain ⟨k, hk, rfl, how, hbw, hlen, hall⟩ := hrel
    have hzr := hbw.size
    by_cases hlt : k < n
    · have hkx : k < xs.length := by rw [HX.o]; exact hlt
      obtain ⟨b, off, rfl, c0⟩ := HR.o k (by rw [ints32_len]; exact hkx)
      have hbl : b < w.heap.size := World.block_lt_of_cell? w _ c0
      have d0 := (hbw.cell (p := ⟨b, off + k, none⟩) hbl).trans c0
      rw [show (ints32 xs)[k]'(by rw [ints32_len]; exact hkx) = .int .i32 (xs[k]'hkx) from by simp [ints32]] at d0
      have HT := hd (U.encs_take xs k hkx)
      have HA := hd (U.allRunes_take xs k hkx)
      have HN := hd (U.allRunes_not xs k hkx)
      obtain ⟨hw1, hw2⟩ := HW.o _ (List.getElem_mem hkx)
      clear c0
      generalize hr : xs[k]'hkx = r at *
      clear hr
      have HB0 := hd hbw
      cases hv : Utf8.valid r with
      | true =>
        have V := hd hv
        have hle : (Utf8.encode r).toList.length ≤ 4 := by
          obtain ⟨m, rfl, _⟩ := U.valid_nat r hv
          exact U.enc_len m hv
        have HLE := hd hle
        have HF : Hd ((U.formB r).data.toList = (Utf8.encode r).toList) := hd <| by unfold U.formB; rw [V.o]; exact (ByteArray.toList_eq _).symm
        have HZ : Hd ((U.formB r).size = (Utf8.encode r).toList.length) := hd <| by rw [Lib.size_eq, HF.o]
        clear hv hle
        go_wp2_with (first
          | (at_builtin; refine wpList_app_str _ 62 9 5 Try.underlying62 Try.underlying9 info_u8 rfl _ _ rfl w.heap.size u4 _ _ rfl how4 (U.formB r) rfl ?d1 hz4 ?_)
          | (go_at_call 59; refine (IsRune_any r _ (by omega) (by omega)).mono ?_; rintro e w' ⟨rfl, rfl⟩; rw [V.o])
          | (go_at_call 47; refine (Form_any r _ (by omega) (by omega)).mono ?_; rintro e w4 ⟨rfl, hb4⟩; have how4 := own_below how hb4; have HB4 := hd (bel HB0.o hb4); have hz4 := HB4.o.size; clear hb4))
        case d1 => have := HZ.o; have := HLE.o; omega
        intro v5 w5 ho5 hg5
        rw [HF.o, ← cellsB_app, ← HT.o, HZ.o, ← List.length_append, ← HT.o] at ho5
        have HO := hd ho5
        have HB5 := hd (bel_grown HB4.o hg5 (fun g hg' => (how4.lt g hg').1))
        have HL : (U.encs (xs.take (k + 1))).length ≤ 4 * (k + 1) := by
          have := HLE.o
          rw [HT.o, List.length_append]; omega
        have HAL : Hd (U.allRunes (xs.take (k + 1)) = true) := hd <| by rw [HA.o, hall.o, V.o]; rfl
        clear ho5 hg5
        go_wp2
        go_roundw
        case rel => exact ⟨k + 1, by omega, by go_num, HO.o, HB5.o, HL, HAL⟩
        case measure => simp [intOf]; omega
      | false =>
        have V := hd hv
        have G : Hd (U.text xs = ([], 12)) := hd <| by unfold U.text; rw [HN.o hv]; rfl
        clear hv
        go_wp2_with (go_at_call 59; refine (IsRune_any r _ (by omega) (by omega)).mono ?_; rintro e w' ⟨rfl, rfl⟩; rw [V.o])
        go_ret2
        exact ⟨ret_strR (by rw [G.o]) (by rw [G.o]), HB0.o⟩
    · have e : xs.take k = xs := List.take_of_length_le (by rw [HX.o]; omega)
      rw [e] at how hall
      have G : Hd (U.text xs = (U.encs xs, 0)) := hd <| by unfold U.text; rw [hall.o]; rfl
      have hcv := run_string_of wr 62 9 5 Try.underlying62 Try.underlying5 Try.underlying9 _ _ (U.encs xs) (IsL.own how)
      go_wp2
      go_ret2
      exact ⟨ret_strR (by rw [G.o]) (by rw [G.o]), hbw⟩
end Go.Proofs.Ythlpgnidjjclcaa
