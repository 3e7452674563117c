/- The walk of weirlaw01.texts1: Text of one list, handed in with spare room, written over behind the call and handed in again. -/
import Derived.Test.YthlpgnidjjclcaaURefText
import Derived.Test.YthlpgnidjjclcaaBk
namespace Go.Proofs.Ythlpgnidjjclcaa
open Go.RowKit
set_option linter.unusedVariables false
set_option linter.unusedSimpArgs false
theorem num_self (x : Int) (w : World) : Calls Try.prog 25 #[.int .i64 x] w fun e w' => e = .returned (.int .i64 x) ∧ w = w' := by
  go_enter Try.func25, Try.ntmps25
  go_wp2
  go_ret
  exact ⟨rfl, rfl⟩
theorem ints32_take (l : List Int) (k : Nat) : (ints32 l).take k = ints32 (l.take k) := by simp [ints32]
theorem ints32_rep (k : Nat) (x : Int) : ints32 (List.replicate k x) = List.replicate k (.int .i32 x) := by simp [ints32]
theorem all98 (n : Nat) : U.allRunes (List.replicate n 98) = true := by
  unfold U.allRunes
  rw [List.all_eq_true]
  intro x hx
  rw [List.eq_of_mem_replicate hx]; decide
theorem mk0_list (k : Nat) : (madeCells (Value.int .i32 0).cells (k * 1)).toList.length = k := by simp [madeCells]
set_option maxRecDepth 100000 in
set_option maxHeartbeats 2000000 in
theorem texts1_any (v : Value) (n : Nat) (xs : List Int) (w : World) (hx : IsL 1 w v n (ints32 xs)) (hn : n ≤ 1048576) (hwf : ∀ r ∈ xs, -2147483648 ≤ r ∧ r ≤ 2147483647) :
    Calls Try.prog 27 #[v] w fun e w' => e = .returned (.bool true) ∧ Below w.heap.size w w' := by
  have hlx : xs.length = n := by have := hx.1; rw [ints32_len] at this; omega
  have HLX := hd hlx
  have HX := hd hx
  have HW := hd hwf
  have H98 : Hd (U.text (List.replicate n 98) = (U.encs (List.replicate n 98), 0)) := hd <| by unfold U.text; rw [all98]; rfl
  obtain ⟨_, A, c, rfl, r1⟩ := hx
  have HR := hd r1
  clear hlx hwf r1
  obtain ⟨tx, htx⟩ : ∃ tx, tx = U.text xs := ⟨_, rfl⟩
  have HTX := hd htx
  clear htx
  go_enter Try.func27, Try.ntmps27
  go_wp2_with (first
    | (at_make; refine wpList_mkn _ 23 21 (.int .i32 0) 1 4 Try.underlying23 info_i32 rfl _ _ rfl w.heap.size _ _ (n + 8) rfl rfl ?b1 ?b2 ?b3 ?_)
    | (go_at_call 50; refine (refText_any _ n xs _ HX.o (by omega) HW.o).mono ?_; rintro e w1 ⟨rfl, hb1⟩; unfold strR; rw [← HTX.o]))
  case b1 => omega
  case b2 => omega
  case b3 => exact Below.size (B := w.heap.size) (by assumption)
  intro w2 ho hg
  obtain ⟨g, hgG⟩ : ∃ g, g = w1.heap.size := ⟨_, rfl⟩
  rw [← hgG] at ho ⊢
  obtain ⟨L0, hk2, hl0⟩ : ∃ L0, Bk w2 g 21 L0 ∧ L0.length = n + 8 := ⟨_, Bk.of_own ho, by simp [madeCells]⟩
  have hgw : w.heap.size ≤ g := by rw [hgG]; exact hb1.size
  have HB2 : Hd (Below w.heap.size w w2) := hd (bel_grown hb1 hg (fun k h => by cases h))
  have HK2 := hd hk2
  have HL0 := hd hl0
  clear ho hg hgG hk2 hl0 hb1
  have hz32 : (Try.prog.info? 21).map (·.size) = some 1 := by kernel_rfl
  go_wp2_with (refine wpList_copy_splice rfl (.tmp 27) (.tmp 28) 23 23 rfl 21 Try.underlying23 hz32 (some ⟨g, 0, none⟩) A (n + 8) (n + 8) n c rfl rfl g 0 L0 21 HK2.o (ints32 xs) ?h1 ?h2 ?h3 ?h4 w.heap.size w HB2.o hgw ?_)
  case h1 => rw [ints32_len, HLX.o, Nat.min_eq_min]; omega
  case h2 =>
    intro h0
    obtain ⟨b, off, rfl, hb, hc⟩ := HR.o.head (by rw [ints32_len, HLX.o]; exact h0)
    refine ⟨_, rfl, fun j u hj => ?_⟩
    obtain ⟨hj1, rfl⟩ := List.getElem?_eq_some_iff.1 hj
    rw [add_plain]
    exact (HB2.o.cell (p := ⟨b, off + j, none⟩) hb).trans (hc j hj1)
  case h3 => rw [ints32_len, HLX.o, HL0.o]; omega
  case h4 => exact ints32_one _
  intro w3 hk3 hb3
  have HK3 : Hd (Bk w3 g 21 (ints32 xs ++ L0.drop n)) := hd <| by
    have h1 := hk3.out
    unfold splice at h1
    rw [Nat.zero_add, ints32_len, HLX.o, List.take_zero, List.nil_append] at h1
    exact h1
  have HB3 := hd hb3
  clear hk3 hb3
  go_wp2
  go_loopw [6] (fun x wr => ∃ (i : Nat) (M : List Value), n ≤ i ∧ i ≤ n + 8 ∧ x = .int .i64 i ∧ Hd (Bk wr g 21 M) ∧ Hd (M.length = n + 8) ∧ Hd (M.take n = ints32 xs) ∧ Hd (∀ a, n ≤ a → a < i → M[a]? = some (.int .i32 77)) ∧ Hd (Below w.heap.size w wr)) (fun x _ => n + 8 - (intOf x).toNat)
  case atStart => exact ⟨n, _, Nat.le_refl _, by omega, rfl, HK3, hd (by rw [List.length_append, ints32_len, HLX.o, List.length_drop, HL0.o]; omega), hd (by rw [List.take_append_of_le_length (by rw [ints32_len, HLX.o]; exact Nat.le_refl _), List.take_of_length_le (by rw [ints32_len, HLX.o]; exact Nat.le_refl _)]), hd (fun a h1 h2 => by omega), HB3⟩
  case round =>
    obtain ⟨i, M, hi0, hi, rfl, hK, hL, hT, hS, hB⟩ := hrel
    by_cases hlt : i < n + 8
    · have c0 := hK.o.cell i (by rw [hL.o]; exact hlt)
      have f0 := hK.o.frozen i
      have HK' := hd (hK.o.set i (.int .i32 77))
      have HB' := hd (hB.o.setCell (p := ⟨g, i, none⟩) hgw (.int .i32 77))
      have hln := hlt
      generalize M[i]'_ = old at *
      go_wp2
      go_roundw
      case rel =>
        refine ⟨i + 1, _, by omega, by omega, by go_num, HK', hd (by rw [List.length_set]; exact hL.o), hd (by rw [List.take_set_of_le hi0]; exact hT.o), hd (fun a h1 h2 => ?_), HB'⟩
        by_cases hai : a = i
        · subst hai; exact List.getElem?_set_self (by rw [hL.o]; exact hln)
        · rw [List.getElem?_set_ne (Ne.symm hai)]; exact hS.o a h1 (by omega)
      case measure => simp [intOf]; omega
    · have HI : Hd (IsL 1 wr (.slice (some ⟨g, 0, none⟩) n (n + 8)) n (ints32 xs)) := hd <| by
        have := hK.o.isL n (n + 8) (by rw [hL.o]; omega)
        rw [hT.o] at this; exact this
      have HS2 : Hd (∀ a, n ≤ a → a < n + 8 → M[a]? = some (.int .i32 77)) := hd fun a h1 h2 => hS.o a h1 (by omega)
      clear hS hT
      go_wp2_with (first
        | (go_at_call 22; refine (text_any _ n xs _ HI.o (by omega)).mono ?_; rintro e w4 ⟨rfl, hb4⟩; unfold strR; rw [← HTX.o]; have HI4 := hd (HI.o.below hb4); have HK4 := hd (hK.o.below hb4); have HB4 := hd (bel hB.o hb4); clear hb4)
        | (go_at_call 25; refine (num_self _ _).mono ?_; rintro e w' ⟨rfl, rfl⟩)
        | (go_at_call 17; refine (same_any _ _ n n xs xs _ HI4.o (HX.o.below HB4.o) (by omega)).mono ?_; rintro e w' ⟨rfl, hb5⟩; rw [show (xs == xs) = true from by simp]; have HK5 := hd (HK4.o.below hb5); have HB5 := hd (bel HB4.o hb5); have HI5 := hd (HI4.o.below hb5); clear hb5))
      have hlt0 := hlt
      clear hlt hi0 hi
      go_loop [10] (fun x => ∃ i : Nat, n ≤ i ∧ i ≤ n + 8 ∧ x = .int .i64 i) (fun x => n + 8 - (intOf x).toNat)
      case atStart => exact ⟨n, Nat.le_refl _, by omega, rfl⟩
      case round =>
        clear hlt0
        obtain ⟨i, hi0, hi, rfl⟩ := hrel
        by_cases hlt : i < n + 8
        · have c0 := HK5.o.cell i (by rw [hL.o]; exact hlt)
          have e0 : M[i]'(by rw [hL.o]; exact hlt) = .int .i32 77 := by
            have := HS2.o i hi0 hlt
            rw [List.getElem?_eq_getElem (by rw [hL.o]; exact hlt)] at this
            exact Option.some_inj.1 this
          rw [e0] at c0
          clear e0
          go_wp2
          go_round
          case rel => exact ⟨i + 1, by omega, by omega, by go_num⟩
          case measure => simp [intOf]; omega
        · go_wp2_with (go_at_call 22; refine (text_any _ n xs _ HI5.o (by omega)).mono ?_; rintro e w6 ⟨rfl, hb6⟩; unfold strR; rw [← HTX.o]; have HK6 := hd (HK5.o.below hb6); have HB6 := hd (bel HB5.o hb6); clear hb6)
          clear hlt hi0 hi
          go_loopw [85] (fun x wr => ∃ (i : Nat) (M' : List Value), i ≤ n ∧ x = .int .i64 i ∧ Hd (Bk wr g 21 M') ∧ Hd (M'.length = n + 8) ∧ Hd (M'.take i = List.replicate i (.int .i32 98)) ∧ Hd (Below w.heap.size w wr)) (fun x _ => n - (intOf x).toNat)
          case atStart => exact ⟨0, M, Nat.zero_le _, rfl, HK6, hL, hd rfl, HB6⟩
          case round =>
            clear hL
            obtain ⟨i, M', hi, rfl, hK, hL, hT, hB⟩ := hrel
            by_cases hlt : i < n
            · have hlen : i < M'.length := by rw [hL.o]; omega
              have c0 := hK.o.cell i hlen
              have f0 := hK.o.frozen i
              have HK' := hd (hK.o.set i (.int .i32 98))
              have HB' := hd (hB.o.setCell (p := ⟨g, i, none⟩) hgw (.int .i32 98))
              have HT' : Hd ((M'.set i (.int .i32 98)).take (i + 1) = List.replicate (i + 1) (.int .i32 98)) := hd <| by
                rw [List.take_succ_eq_append_getElem (by simpa using hlen), List.getElem_set_self, List.take_set_of_le (Nat.le_refl _), hT.o, List.replicate_succ']
              generalize M'[i]'hlen = old at *
              clear hlen
              go_wp2
              go_roundw
              case rel => exact ⟨i + 1, _, by omega, by go_num, HK', hd (by rw [List.length_set]; exact hL.o), HT', HB'⟩
              case measure => simp [intOf]; omega
            · have HJ : Hd (IsL 1 wr (.slice (some ⟨g, 0, none⟩) n (n + 8)) n (ints32 (List.replicate n 98))) := hd <| by
                have := hK.o.isL n (n + 8) (by rw [hL.o]; omega)
                rw [show i = n by omega] at hT
                rw [hT.o] at this
                rw [ints32_rep]; exact this
              go_wp2_with (first
                | (go_at_call 50; refine (refText_any _ n (List.replicate n 98) _ HJ.o (by omega) (fun r hr => by rw [List.eq_of_mem_replicate hr]; decide)).mono ?_; rintro e w7 ⟨rfl, hb7⟩; unfold strR; rw [H98.o]; have HJ7 := hd (HJ.o.below hb7); have HB7 := hd (bel hB.o hb7); clear hb7)
                | (go_at_call 22; refine (text_any _ n (List.replicate n 98) _ HJ7.o (by omega)).mono ?_; rintro e w8 ⟨rfl, hb8⟩; unfold strR; rw [H98.o]; have HB8 := hd (bel HB7.o hb8); clear hb8)
                | (go_at_call 25; refine (num_self _ _).mono ?_; rintro e w' ⟨rfl, rfl⟩))
              go_ret
              exact ⟨rfl, HB8.o⟩
end Go.Proofs.Ythlpgnidjjclcaa
