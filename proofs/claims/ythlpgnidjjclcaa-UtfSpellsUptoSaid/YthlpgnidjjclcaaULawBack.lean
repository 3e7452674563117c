/- UtfBack: the law's walk. -/
import Derived.Test.YthlpgnidjjclcaaUText
import Derived.Test.YthlpgnidjjclcaaUWalkC
import Derived.Test.YthlpgnidjjclcaaUInts
namespace Go.Proofs.Ythlpgnidjjclcaa
open Go.RowKit
set_option linter.unusedVariables false
set_option linter.unusedSimpArgs false
/-- a list that is not empty, as a slice value and its cells -/
theorem IsL.some {w : World} {v : Value} {n : Nat} {xs : List Int} (h : IsL 1 w v n (ints32 xs)) (h0 : 0 < n) :
    ∃ b off c, v = .slice (some ⟨b, off, none⟩) n c ∧ xs.length = n ∧ ∀ k (h : k < xs.length), w.cell? ⟨b, off + k, none⟩ = some (.int .i32 (xs[k]'h)) := by
  obtain ⟨l1, A, c, rfl, r1⟩ := h
  rw [ints32_len, Nat.mul_one] at l1
  obtain ⟨b, off, rfl, _, c1⟩ := r1.head (by rw [ints32_len]; omega)
  refine ⟨b, off, c, rfl, l1, fun k hk => ?_⟩
  have := c1 k (by rw [ints32_len]; exact hk)
  simpa [ints32] using this
theorem U.wd_len (r : Int) (hv : Utf8.valid r = true) : U.wd r = ((Utf8.encode r).toList.length : Int) ∧ 1 ≤ (Utf8.encode r).toList.length := by
  obtain ⟨n, rfl, _⟩ := U.valid_nat r hv
  rw [U.enc_len_eq n hv]
  unfold U.wd
  repeat' split
  all_goals omega
/-- what Next says at the k-th rune's place and in the midst of its form -/
theorem U.next_of (rs : List Int) (h : U.allRunes rs = true) (k : Nat) (hk : k < rs.length) :
    U.next ⟨(U.encs rs).toArray⟩ ((U.encs (rs.take k)).length : Int) = (rs[k], U.wd rs[k]) ∧
    ∀ i : Nat, 0 < i → (i : Int) < U.wd rs[k] → U.next ⟨(U.encs rs).toArray⟩ (((U.encs (rs.take k)).length : Int) + i) = (-1, 0) := by
  obtain ⟨h1, h2, h3⟩ := U.encs_at rs h k hk
  have hv : Utf8.valid (rs[k]) = true := by unfold U.allRunes at h; exact List.all_eq_true.1 h _ (List.getElem_mem _)
  obtain ⟨w1, w2⟩ := U.wd_len _ hv
  have hz : (U.encs (rs.take k)).length < (⟨(U.encs rs).toArray⟩ : ByteArray).size := by
    rw [U.mk_size]
    have := U.encs_take rs k hk
    have e : U.encs rs = U.encs (rs.take (k + 1)) ++ U.encs (rs.drop (k + 1)) := by rw [← U.encs_app, List.take_append_drop]
    rw [e, this, List.length_append, List.length_append]; omega
  constructor
  · rw [U.next_good _ _ hz h1]
    unfold U.run
    rw [h2, h3, w1]
  · intro i h0 hi
    have := U.next_bad ⟨(U.encs rs).toArray⟩ ((U.encs (rs.take k)).length + i) (U.mid_bad _ _ _ h1 (by omega) (by rw [h3]; omega))
    rw [← this]; congr 1
theorem right_any (v : Value) (n : Nat) (xs : List Int) (w : World) (hx : IsL 1 w v n (ints32 xs)) (hn : n ≤ 17592186044416) (h0 : 0 < n) :
    Calls Try.prog 30 #[v] w (RightPost w xs) := by
  obtain ⟨b, off, c, rfl, l, hc⟩ := hx.some h0
  exact right_at b off n c xs w l hn hc
theorem U.allRunes_filter (xs : List Int) : U.allRunes (xs.filter fun r => Utf8.valid r) = true := by
  unfold U.allRunes
  rw [List.all_eq_true]
  intro x hx
  exact (List.mem_filter.1 hx).2

/-- the law behind the writing: every rune is read back at its place -/
theorem back_walk (va : Value) (n : Nat) (xs : List Int) (w : World) (hx : IsL 1 w va n (ints32 xs)) (hn : n ≤ 1048576) :
    Calls Try.prog 8 #[va] w fun e w' => e = .returned (.bool true) ∧ Below w.heap.size w w' := by
  have hlx : xs.length = n := by have := hx.1; rw [ints32_len] at this; omega
  generalize hrs : ((97 :: 1114111 :: xs : List Int).filter fun r => Utf8.valid r) = rs
  have hall : U.allRunes rs = true := by rw [← hrs]; exact U.allRunes_filter _
  have hlr : rs.length ≤ n + 2 := by
    rw [← hrs]
    refine Nat.le_trans (List.length_filter_le _ _) ?_
    simp; omega
  have h0r : 0 < rs.length := by
    rw [← hrs, List.filter_cons, if_pos (by decide)]; simp
  have hT := U.encs_len rs hall
  have HT : Hd (U.text rs = (U.encs rs, 0)) := hd <| by unfold U.text; rw [hall]; rfl
  have HV := hd (U.encs_valid rs hall)
  have HR := hd (U.encs_runes rs hall)
  have HS := hd hrs
  have HN := hd (U.next_of rs hall)
  have HE := hd (U.encs_take rs)
  have HW : Hd (∀ k (hk : k < rs.length), U.wd rs[k] = ((Utf8.encode rs[k]).toList.length : Int) ∧ 1 ≤ (Utf8.encode rs[k]).toList.length) := hd fun k hk => U.wd_len _ (by unfold U.allRunes at hall; exact List.all_eq_true.1 hall _ (List.getElem_mem _))
  have HL : Hd (∀ k, k ≤ rs.length → (U.encs (rs.take k)).length ≤ (U.encs rs).length) := hd fun k hk => by
    have e : U.encs rs = U.encs (rs.take k) ++ U.encs (rs.drop k) := by rw [← U.encs_app, List.take_append_drop]
    rw [e, List.length_append]; omega
  have hbz : (⟨(U.encs rs).toArray⟩ : ByteArray).size ≤ 35184372088832 := by rw [U.mk_size]; omega
  have HB := hd hbz
  clear hall hrs hbz
  go_enter Try.func8, Try.ntmps8
  go_wp2_with (at_builtin; refine wpList_app_any _ 23 21 (.int .i32 0) 1 4 Try.underlying23 info_i32 rfl (by decide) rfl _ _ rfl w.heap.size (.slice (some ⟨w.heap.size, 0, none⟩) 2 2) 2 (ints32 [97, 1114111]) rfl (World.ownsRow_lit w #[.int .i32 97, .int .i32 1114111] 2 (Nat.le_refl _) (by decide) rfl) va _ _ rfl (hx.below ((Below.refl _ _).alloc (Nat.le_refl _) _)) ?c1 ?c2 ?c3 ?c4 ?_)
  case c1 => exact ints32_one _
  case c2 => omega
  case c3 => omega
  case c4 => simp
  intro v1 w1 ho1 hg1
  have hb1 : Below w.heap.size w w1 := ((Below.refl _ _).alloc (Nat.le_refl _) _).grown hg1 (by simp) (fun k hk => by simp [Value.ownBlock] at hk; omega)
  rw [← ints32_app] at ho1
  have i1 := IsL.own ho1
  clear ho1 hg1
  go_wp2_with (go_at_call 30; refine (right_any v1 (2 + n) _ _ i1 (by omega) (by omega)).mono ?_; rintro e w2 ⟨v2, rfl, ho2, hb2⟩)
  rw [show ([97, 1114111] ++ xs : List Int) = 97 :: 1114111 :: xs from rfl, HS.o] at ho2
  have i2 := IsL.own ho2
  have hbw2 := bel hb1 hb2
  clear ho2 hb2 i1
  obtain ⟨b, off, c, rfl, _, hc⟩ := i2.some h0r
  have hcb : ∀ k (h : k < rs.length), b < w2.heap.size := fun k h => World.block_lt_of_cell? w2 _ (hc k h)
  have HC := hd hc
  have HI := hd i2
  have hbb := hcb 0 h0r
  have HBW := hd hbw2
  clear hc i2 hcb hbw2 hb1
  go_wp2_with (first
    | (go_at_call 22; refine (text_any _ _ rs _ HI.o (by omega)).mono ?_; rintro e w3 ⟨rfl, hb3⟩; unfold strR; rw [HT.o])
    | (go_at_call 19; refine (Valid_any _ _ (by have := HB.o; omega)).mono ?_; rintro e w4 ⟨rfl, hb4⟩; rw [HV.o]))
  have hb34 : Below w2.heap.size w2 w4 := bel hb3 hb4
  refine (Runes_yes ⟨(U.encs rs).toArray⟩ _ HB.o HV.o).mono ?_
  rintro e w5 ⟨va5, rfl, ho5, hb5⟩
  have i5 := IsL.own ho5
  rw [cellsR_map, HR.o] at i5
  have hrl : (U.runes ⟨(U.encs rs).toArray⟩).length = rs.length := by have := congrArg List.length HR.o; simpa using this
  have hb35 := bel hb34 hb5
  have i2' := HI.o.below hb35
  have HB5 := hd hb35
  clear ho5 hb5 hb34 hb3 hb4 hb35
  go_wp2_with (go_at_call 17; refine (same_any va5 _ _ _ rs rs _ i5 i2' (by omega)).mono ?_; rintro e w6 ⟨rfl, hb6⟩; rw [show (rs == rs) = true from by simp])
  have hb56 : Below w2.heap.size w2 w6 := bel HB5.o (by assumption)
  clear i5 i2' hrl
  go_loopw [7, 44] (fun v x wr => ∃ k : Nat, k ≤ rs.length ∧ x = .int .i64 k ∧ v = .int .i64 ((U.encs (rs.take k)).length : Int) ∧ Below w2.heap.size w2 wr) (fun _ x _ => rs.length - (intOf x).toNat)
  case atStart => exact ⟨0, Nat.zero_le _, rfl, rfl, hb56⟩
  case round =>
    obtain ⟨k, hk, rfl, rfl, hbw⟩ := hrel
    by_cases hlt : k < rs.length
    · have c0 := HC.o k hlt
      have d0 := (hbw.cell (p := ⟨b, off + k, none⟩) hbb).trans c0
      have HNk := hd (HN.o k hlt)
      have HEk := hd (HE.o k hlt)
      have hwk := HW.o k hlt
      have hl1 := HL.o (k + 1) (by omega)
      rw [HEk.o, List.length_append] at hl1
      clear c0
      generalize hr : rs[k]'hlt = r at *
      clear hr
      have HBk := hd hbw
      have hnew : ((U.encs (rs.take k)).length : Int) + U.wd r = ((U.encs (rs.take (k + 1))).length : Int) := by
        rw [HEk.o, List.length_append, hwk.1]; omega
      have HNEW := hd hnew
      have hw1 := hwk.1
      have hw2 := hwk.2
      have hw4 : (Utf8.encode r).toList.length ≤ 1125899906842624 := by omega
      generalize hpp : (U.encs (rs.take k)).length = pp at *
      clear hpp hnew hwk HEk
      go_wp2
      go_loopw [10] (fun x wi => ∃ i : Nat, (i : Int) ≤ U.wd r ∧ x = .int .i64 i ∧ Below w2.heap.size w2 wi) (fun x _ => (U.wd r).toNat - (intOf x).toNat)
      case atStart => exact ⟨0, by omega, rfl, HBk.o⟩
      case round =>
        obtain ⟨i, hi, rfl, hbi⟩ := hrel
        have HBi := hd hbi
        by_cases hil : (i : Int) < U.wd r
        · by_cases hi0 : i = 0
          · subst hi0
            have N1 := hd HNk.o.1
            go_wp2_with (first
              | (go_at_call 31; refine (lawWidth_any r _).mono ?_; rintro e w' ⟨rfl, rfl⟩)
              | (go_at_call 18; refine (next_any _ _ _ (by have := HB.o; omega)).mono ?_; rintro e w7 ⟨rfl, hb7⟩; rw [N1.o]; have HB7 := hd (bel HBi.o hb7)))
            go_roundw
            case rel => exact ⟨1, by omega, by go_num, HB7.o⟩
            case measure => simp [intOf]; omega
          · have N2 := hd (HNk.o.2 i (by omega) hil)
            go_wp2_with (first
              | (go_at_call 31; refine (lawWidth_any r _).mono ?_; rintro e w' ⟨rfl, rfl⟩)
              | (go_at_call 18; refine (next_any _ _ _ (by have := HB.o; omega)).mono ?_; rintro e w7 ⟨rfl, hb7⟩; rw [N2.o]; have HB7 := hd (bel HBi.o hb7)))
            go_roundw
            case rel => exact ⟨i + 1, by omega, by go_num, HB7.o⟩
            case measure => simp [intOf]; omega
        · have hie : (i : Int) = U.wd r := by omega
          go_wp2_with (go_at_call 31; refine (lawWidth_any r _).mono ?_; rintro e w' ⟨rfl, rfl⟩)
          go_roundw
          case rel => exact ⟨k + 1, by omega, by go_num, by have := HNEW.o; rw [hw1] at this; rw [← this], HBi.o⟩
          case measure => simp [intOf]; omega
    · have hke : k = rs.length := by omega
      have hkl : Hd (((U.encs (rs.take k)).length : Int) = ((⟨(U.encs rs).toArray⟩ : ByteArray).size : Int)) := hd <| by
        rw [U.mk_size, List.take_of_length_le (by omega)]
      go_wp2
      go_ret
      exact ⟨rfl, bel HBW.o hbw⟩
theorem back_law (W : World) {H : Type} (v : Value) (d : DataW H) (h : Rows.uptoBulk d ≤ 1048576 → ∃ l, IsInts .i32 W v l) (hb : Rows.uptoBulk d + 0 ≤ 1048576) :
    Calls Try.prog 8 #[v] W fun e W' => e = .returned (.bool true) ∧ Below W.heap.size W W' := by
  obtain ⟨l, hl, hn, _⟩ := h hb
  exact back_walk v l.length l W hl hn
end Go.Proofs.Ythlpgnidjjclcaa
