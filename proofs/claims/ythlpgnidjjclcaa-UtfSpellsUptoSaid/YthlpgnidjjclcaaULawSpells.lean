/- UtfSpells: the law's walk. -/
import Derived.Test.YthlpgnidjjclcaaUSpell
import Derived.Test.YthlpgnidjjclcaaBase5
namespace Go.Proofs.Ythlpgnidjjclcaa
open Go.RowKit
set_option linter.unusedVariables false
set_option linter.unusedSimpArgs false
set_option maxHeartbeats 1600000 in
theorem spells_walk_34 (va : Value) (n : Nat) (xs : List Int) (A : Option Addr) (nh ch : Nat) (hs : List Int) (w : World) (hx : IsL 1 w va n (ints32 xs)) (hn : n ≤ 1048576)
    (hr : Rd w A (hs.map (Value.int .i64))) (hl : hs.length = nh) (hnh : nh ≤ 1048576) :
    Calls Try.prog 10 #[va, .slice A nh ch, .bool false] w fun e w' => e = .returned (.bool true) ∧ Below w.heap.size w w' := by
  have hlx : xs.length = n := by have := hx.1; rw [ints32_len] at this; omega
  generalize hrs : ((97 :: xs : List Int).filter fun r => Utf8.valid r) = rs
  have hall : U.allRunes rs = true := by rw [← hrs]; exact U.allRunes_filter _
  have hlr : rs.length ≤ n + 1 := by
    rw [← hrs]
    refine Nat.le_trans (List.length_filter_le _ _) ?_
    simp; omega
  have h0r : 0 < rs.length := by
    rw [← hrs, List.filter_cons, if_pos (by decide)]; simp
  have HS := hd hrs
  have HV := hd (U.encs_valid rs hall)
  have HE := hd (U.encs_take rs)
  have HA : Hd (∀ k (hk : k < rs.length), Utf8.valid rs[k] = true) := hd fun k hk => by unfold U.allRunes at hall; exact List.all_eq_true.1 hall _ (List.getElem_mem _)
  have HR := hd hr
  clear hrs hall hr
  go_enter Try.func10, Try.ntmps10
  go_wp2_with (at_builtin; refine wpList_app_any _ 23 21 (.int .i32 0) 1 4 Try.underlying23 info_i32 rfl (by decide) rfl _ _ rfl w.heap.size (.slice (some ⟨w.heap.size, 0, none⟩) 1 1) 1 (ints32 [97]) rfl (World.ownsRow_lit w #[.int .i32 97] 1 (Nat.le_refl _) (by decide) rfl) va _ _ rfl (hx.below ((Below.refl _ _).alloc (Nat.le_refl _) _)) ?c1 ?c2 ?c3 ?c4 ?_)
  case c1 => exact ints32_one _
  case c2 => omega
  case c3 => omega
  case c4 => simp
  intro v1 w1 ho1 hg1
  have hb1 : Below w.heap.size w w1 := ((Below.refl _ _).alloc (Nat.le_refl _) _).grown hg1 (by simp) (fun k hk => by simp [Value.ownBlock] at hk; omega)
  rw [← ints32_app] at ho1
  have i1 := IsL.own ho1
  clear ho1 hg1
  go_wp2_with (go_at_call 30; refine (right_any v1 (1 + n) _ _ i1 (by omega) (by omega)).mono ?_; rintro e w2 ⟨v2, rfl, ho2, hb2⟩; rw [show ([97] ++ xs : List Int) = 97 :: xs from rfl, HS.o] at ho2; have HI := hd (IsL.own ho2); have HB2 := hd (bel hb1 hb2); clear ho2 hb2)
  have hbb1 := (HB2.o).size
  obtain ⟨b, off, c, rfl, _, hc⟩ := HI.o.some h0r
  have hbb := World.block_lt_of_cell? w2 _ (hc 0 h0r)
  have HC := hd hc
  clear hc
  go_wp2
  have hlit : (w2.alloc (.cells #[.int .u8 34] 5)).ownsRow w2.heap.size 5 1 (.slice (some ⟨w2.heap.size, 0, none⟩) 1 1) 1 (cellsB [34]) := World.ownsRow_lit w2 #[.int .u8 34] 1 (Nat.le_refl _) (by decide) rfl
  have HLIT := hd hlit
  clear hlit
  have HBM : Hd (Below w2.heap.size w2 (w2.alloc (.cells #[.int .u8 34] 5))) := hd ((Below.refl _ _).alloc (Nat.le_refl _) _)
  go_loopw [9, 24] (fun v x wr => ∃ (k : Nat) (S : List UInt8), k ≤ rs.length ∧ x = .int .i64 k ∧ wr.ownsRow w2.heap.size 5 1 v (S.length + 1) (cellsB (34 :: S)) ∧ S.length ≤ 64 * k ∧ Below w2.heap.size w2 wr ∧ Hd (U.Sp 34 (U.encs (rs.take k)) S)) (fun _ x _ => rs.length - (intOf x).toNat)
  case atStart => exact ⟨0, [], Nat.zero_le _, rfl, HLIT.o, Nat.le_refl _, HBM.o, hd (U.sp_nil 34)⟩
  case round =>
    obtain ⟨k, S, hk, rfl, how, hS, hbw, hsp⟩ := hrel
    have HBw := hd hbw
    have hzr := hbw.size
    by_cases hlt : k < rs.length
    · have d0 := (hbw.cell (p := ⟨b, off + k, none⟩) hbb).trans (HC.o k hlt)
      have V := HA.o k hlt
      have HT := HE.o k hlt
      generalize rs[k]'hlt = r at *
      obtain ⟨m, rfl, hm⟩ := U.valid_nat r V
      have HVV := hd V
      have HTT := hd HT
      clear V HT
      cases hkn : decide (k < nh) with
      | true =>
        have hkn2 : k < nh := of_decide_eq_true hkn
        have hkl : k < (hs.map (Value.int .i64)).length := by rw [List.length_map]; have := of_decide_eq_true hkn; omega
        obtain ⟨b2, off2, rfl, c2⟩ := HR.o k hkl
        have hb2 := World.block_lt_of_cell? w _ c2
        have d2 := ((bel HB2.o hbw).cell (p := ⟨b2, off2 + k, none⟩) hb2).trans c2
        rw [List.getElem_map] at d2
        generalize hs[k]'(by simpa using hkl) = how2 at *
        clear c2 hkl
        go_wp2_with (first
          | (at_builtin; refine wpList_app_str _ 62 9 5 Try.underlying62 Try.underlying9 info_u8 rfl _ _ rfl w2.heap.size u9 _ _ rfl (own_below how hb4) _ rfl ?d1 ?d2 ?_)
          | (go_at_call 36; refine (spell_any m how2 34 _ HVV.o (by decide)).mono ?_; rintro e w4 ⟨T, rfl, hT, hTl, hb4⟩))
        case d1 => rw [U.mk_size]; omega
        case d2 => exact Nat.le_trans hzr (hb4.size)
        intro v5 w5 ho5 hg5
        have HB5 : Hd (Below w2.heap.size w2 w5) := hd (bel_grown (bel HBw.o hb4) hg5 (fun g hg' => (how.lt g hg').1))
        have HO : Hd (w5.ownsRow w2.heap.size 5 1 v5 ((S ++ T).length + 1) (cellsB (34 :: (S ++ T)))) := hd <| by
          rw [← cellsB_app] at ho5
          rw [List.length_append, Nat.add_right_comm]
          exact ho5
        have G : Hd (U.Sp 34 (U.encs (rs.take (k + 1))) (S ++ T)) := hd <| by rw [HTT.o]; exact U.sp_app hsp.o hT
        have hl5 : (S ++ T).length ≤ 64 * (k + 1) := by rw [List.length_append]; omega
        clear ho5 hg5 how
        go_wp2
        go_roundw
        case rel => exact ⟨k + 1, S ++ T, by omega, by go_num, HO.o, hl5, HB5.o, G⟩
        case measure => simp [intOf]; omega
      | false =>
        go_wp2_with (first
          | (at_builtin; refine wpList_app_str _ 62 9 5 Try.underlying62 Try.underlying9 info_u8 rfl _ _ rfl w2.heap.size u9 _ _ rfl (own_below how hb4) _ rfl ?d1 ?d2 ?_)
          | (go_at_call 36; refine (spell_any m 0 34 _ HVV.o (by decide)).mono ?_; rintro e w4 ⟨T, rfl, hT, hTl, hb4⟩))
        case d1 => rw [U.mk_size]; omega
        case d2 => exact Nat.le_trans hzr (hb4.size)
        intro v5 w5 ho5 hg5
        have HB5 : Hd (Below w2.heap.size w2 w5) := hd (bel_grown (bel HBw.o hb4) hg5 (fun g hg' => (how.lt g hg').1))
        have HO : Hd (w5.ownsRow w2.heap.size 5 1 v5 ((S ++ T).length + 1) (cellsB (34 :: (S ++ T)))) := hd <| by
          rw [← cellsB_app] at ho5
          rw [List.length_append, Nat.add_right_comm]
          exact ho5
        have G : Hd (U.Sp 34 (U.encs (rs.take (k + 1))) (S ++ T)) := hd <| by rw [HTT.o]; exact U.sp_app hsp.o hT
        have hl5 : (S ++ T).length ≤ 64 * (k + 1) := by rw [List.length_append]; omega
        clear ho5 hg5 how
        go_wp2
        go_roundw
        case rel => exact ⟨k + 1, S ++ T, by omega, by go_num, HO.o, hl5, HB5.o, G⟩
        case measure => simp [intOf]; omega
    · have e : rs.take k = rs := List.take_of_length_le (by omega)
      rw [e] at hsp
      have HU := hd (U.sp_unquote 34 (by decide) _ S hsp.o HV.o)
      clear hsp e
      go_wp2_with (at_builtin; refine wpList_app_lit 62 5 (.int .u8 0) 1 1 Try.underlying62 info_u8 rfl (by decide) rfl _ _ rfl w2.heap.size u9 (S.length + 1) (cellsB (34 :: S)) wr #[.int .u8 34] 1 rfl rfl how rfl ?e1 ?e2 ?e3 hzr ?_)
      case e1 => rfl
      case e2 => omega
      case e3 => omega
      intro v5 w5 ho5 hg5
      have HB5 : Hd (Below w2.heap.size w2 w5) := hd (bel_grown HBw.o hg5 (fun g hg' => (how.lt g hg').1))
      rw [show cellsB (34 :: S) ++ (#[Value.int .u8 34] : Array Value).toList = cellsB (34 :: S ++ [34]) from by rw [cellsB_app]; rfl] at ho5
      have hcv1 := run_string_of w5 62 9 5 Try.underlying62 Try.underlying5 Try.underlying9 _ _ (34 :: S ++ [34]) (IsL.own ho5)
      have hz : (⟨(34 :: S ++ [34]).toArray⟩ : ByteArray).size ≤ 140737488351232 := by rw [U.mk_size]; simp; omega
      have HU2 : Hd (U.unquote ⟨(34 :: S ++ [34]).toArray⟩ = (U.encs rs, 0)) := hd HU.o
      clear ho5 hg5 how HU
      generalize (⟨(34 :: S ++ [34]).toArray⟩ : ByteArray) = str at *
      have HZ := hd hz
      clear hz
      go_wp2_with (go_at_call 34; refine (unquote_any str _ HZ.o).mono ?_; rintro e w6 ⟨rfl, hb6⟩; unfold strR; rw [HU2.o]; have HB6 := hd (bel HB5.o hb6); have hcv2 := run_runes_of w6 _ _ rs (HI.o.below HB6.o); clear hb6)
      go_ret
      exact ⟨rfl, bel HB2.o HB6.o⟩
set_option maxHeartbeats 1600000 in
theorem spells_walk_39 (va : Value) (n : Nat) (xs : List Int) (A : Option Addr) (nh ch : Nat) (hs : List Int) (w : World) (hx : IsL 1 w va n (ints32 xs)) (hn : n ≤ 1048576)
    (hr : Rd w A (hs.map (Value.int .i64))) (hl : hs.length = nh) (hnh : nh ≤ 1048576) :
    Calls Try.prog 10 #[va, .slice A nh ch, .bool true] w fun e w' => e = .returned (.bool true) ∧ Below w.heap.size w w' := by
  have hlx : xs.length = n := by have := hx.1; rw [ints32_len] at this; omega
  generalize hrs : ((97 :: xs : List Int).filter fun r => Utf8.valid r) = rs
  have hall : U.allRunes rs = true := by rw [← hrs]; exact U.allRunes_filter _
  have hlr : rs.length ≤ n + 1 := by
    rw [← hrs]
    refine Nat.le_trans (List.length_filter_le _ _) ?_
    simp; omega
  have h0r : 0 < rs.length := by
    rw [← hrs, List.filter_cons, if_pos (by decide)]; simp
  have HS := hd hrs
  have HV := hd (U.encs_valid rs hall)
  have HE := hd (U.encs_take rs)
  have HA : Hd (∀ k (hk : k < rs.length), Utf8.valid rs[k] = true) := hd fun k hk => by unfold U.allRunes at hall; exact List.all_eq_true.1 hall _ (List.getElem_mem _)
  have HR := hd hr
  clear hrs hall hr
  go_enter Try.func10, Try.ntmps10
  go_wp2_with (at_builtin; refine wpList_app_any _ 23 21 (.int .i32 0) 1 4 Try.underlying23 info_i32 rfl (by decide) rfl _ _ rfl w.heap.size (.slice (some ⟨w.heap.size, 0, none⟩) 1 1) 1 (ints32 [97]) rfl (World.ownsRow_lit w #[.int .i32 97] 1 (Nat.le_refl _) (by decide) rfl) va _ _ rfl (hx.below ((Below.refl _ _).alloc (Nat.le_refl _) _)) ?c1 ?c2 ?c3 ?c4 ?_)
  case c1 => exact ints32_one _
  case c2 => omega
  case c3 => omega
  case c4 => simp
  intro v1 w1 ho1 hg1
  have hb1 : Below w.heap.size w w1 := ((Below.refl _ _).alloc (Nat.le_refl _) _).grown hg1 (by simp) (fun k hk => by simp [Value.ownBlock] at hk; omega)
  rw [← ints32_app] at ho1
  have i1 := IsL.own ho1
  clear ho1 hg1
  go_wp2_with (go_at_call 30; refine (right_any v1 (1 + n) _ _ i1 (by omega) (by omega)).mono ?_; rintro e w2 ⟨v2, rfl, ho2, hb2⟩; rw [show ([97] ++ xs : List Int) = 97 :: xs from rfl, HS.o] at ho2; have HI := hd (IsL.own ho2); have HB2 := hd (bel hb1 hb2); clear ho2 hb2)
  have hbb1 := (HB2.o).size
  obtain ⟨b, off, c, rfl, _, hc⟩ := HI.o.some h0r
  have hbb := World.block_lt_of_cell? w2 _ (hc 0 h0r)
  have HC := hd hc
  clear hc
  go_wp2
  have hlit : (w2.alloc (.cells #[.int .u8 39] 5)).ownsRow w2.heap.size 5 1 (.slice (some ⟨w2.heap.size, 0, none⟩) 1 1) 1 (cellsB [39]) := World.ownsRow_lit w2 #[.int .u8 39] 1 (Nat.le_refl _) (by decide) rfl
  have HLIT := hd hlit
  clear hlit
  have HBM : Hd (Below w2.heap.size w2 (w2.alloc (.cells #[.int .u8 39] 5))) := hd ((Below.refl _ _).alloc (Nat.le_refl _) _)
  go_loopw [9, 24] (fun v x wr => ∃ (k : Nat) (S : List UInt8), k ≤ rs.length ∧ x = .int .i64 k ∧ wr.ownsRow w2.heap.size 5 1 v (S.length + 1) (cellsB (39 :: S)) ∧ S.length ≤ 64 * k ∧ Below w2.heap.size w2 wr ∧ Hd (U.Sp 39 (U.encs (rs.take k)) S)) (fun _ x _ => rs.length - (intOf x).toNat)
  case atStart => exact ⟨0, [], Nat.zero_le _, rfl, HLIT.o, Nat.le_refl _, HBM.o, hd (U.sp_nil 39)⟩
  case round =>
    obtain ⟨k, S, hk, rfl, how, hS, hbw, hsp⟩ := hrel
    have HBw := hd hbw
    have hzr := hbw.size
    by_cases hlt : k < rs.length
    · have d0 := (hbw.cell (p := ⟨b, off + k, none⟩) hbb).trans (HC.o k hlt)
      have V := HA.o k hlt
      have HT := HE.o k hlt
      generalize rs[k]'hlt = r at *
      obtain ⟨m, rfl, hm⟩ := U.valid_nat r V
      have HVV := hd V
      have HTT := hd HT
      clear V HT
      cases hkn : decide (k < nh) with
      | true =>
        have hkn2 : k < nh := of_decide_eq_true hkn
        have hkl : k < (hs.map (Value.int .i64)).length := by rw [List.length_map]; have := of_decide_eq_true hkn; omega
        obtain ⟨b2, off2, rfl, c2⟩ := HR.o k hkl
        have hb2 := World.block_lt_of_cell? w _ c2
        have d2 := ((bel HB2.o hbw).cell (p := ⟨b2, off2 + k, none⟩) hb2).trans c2
        rw [List.getElem_map] at d2
        generalize hs[k]'(by simpa using hkl) = how2 at *
        clear c2 hkl
        go_wp2_with (first
          | (at_builtin; refine wpList_app_str _ 62 9 5 Try.underlying62 Try.underlying9 info_u8 rfl _ _ rfl w2.heap.size u9 _ _ rfl (own_below how hb4) _ rfl ?d1 ?d2 ?_)
          | (go_at_call 36; refine (spell_any m how2 39 _ HVV.o (by decide)).mono ?_; rintro e w4 ⟨T, rfl, hT, hTl, hb4⟩))
        case d1 => rw [U.mk_size]; omega
        case d2 => exact Nat.le_trans hzr (hb4.size)
        intro v5 w5 ho5 hg5
        have HB5 : Hd (Below w2.heap.size w2 w5) := hd (bel_grown (bel HBw.o hb4) hg5 (fun g hg' => (how.lt g hg').1))
        have HO : Hd (w5.ownsRow w2.heap.size 5 1 v5 ((S ++ T).length + 1) (cellsB (39 :: (S ++ T)))) := hd <| by
          rw [← cellsB_app] at ho5
          rw [List.length_append, Nat.add_right_comm]
          exact ho5
        have G : Hd (U.Sp 39 (U.encs (rs.take (k + 1))) (S ++ T)) := hd <| by rw [HTT.o]; exact U.sp_app hsp.o hT
        have hl5 : (S ++ T).length ≤ 64 * (k + 1) := by rw [List.length_append]; omega
        clear ho5 hg5 how
        go_wp2
        go_roundw
        case rel => exact ⟨k + 1, S ++ T, by omega, by go_num, HO.o, hl5, HB5.o, G⟩
        case measure => simp [intOf]; omega
      | false =>
        go_wp2_with (first
          | (at_builtin; refine wpList_app_str _ 62 9 5 Try.underlying62 Try.underlying9 info_u8 rfl _ _ rfl w2.heap.size u9 _ _ rfl (own_below how hb4) _ rfl ?d1 ?d2 ?_)
          | (go_at_call 36; refine (spell_any m 0 39 _ HVV.o (by decide)).mono ?_; rintro e w4 ⟨T, rfl, hT, hTl, hb4⟩))
        case d1 => rw [U.mk_size]; omega
        case d2 => exact Nat.le_trans hzr (hb4.size)
        intro v5 w5 ho5 hg5
        have HB5 : Hd (Below w2.heap.size w2 w5) := hd (bel_grown (bel HBw.o hb4) hg5 (fun g hg' => (how.lt g hg').1))
        have HO : Hd (w5.ownsRow w2.heap.size 5 1 v5 ((S ++ T).length + 1) (cellsB (39 :: (S ++ T)))) := hd <| by
          rw [← cellsB_app] at ho5
          rw [List.length_append, Nat.add_right_comm]
          exact ho5
        have G : Hd (U.Sp 39 (U.encs (rs.take (k + 1))) (S ++ T)) := hd <| by rw [HTT.o]; exact U.sp_app hsp.o hT
        have hl5 : (S ++ T).length ≤ 64 * (k + 1) := by rw [List.length_append]; omega
        clear ho5 hg5 how
        go_wp2
        go_roundw
        case rel => exact ⟨k + 1, S ++ T, by omega, by go_num, HO.o, hl5, HB5.o, G⟩
        case measure => simp [intOf]; omega
    · have e : rs.take k = rs := List.take_of_length_le (by omega)
      rw [e] at hsp
      have HU := hd (U.sp_unquote 39 (by decide) _ S hsp.o HV.o)
      clear hsp e
      go_wp2_with (at_builtin; refine wpList_app_lit 62 5 (.int .u8 0) 1 1 Try.underlying62 info_u8 rfl (by decide) rfl _ _ rfl w2.heap.size u9 (S.length + 1) (cellsB (39 :: S)) wr #[.int .u8 39] 1 rfl rfl how rfl ?e1 ?e2 ?e3 hzr ?_)
      case e1 => rfl
      case e2 => omega
      case e3 => omega
      intro v5 w5 ho5 hg5
      have HB5 : Hd (Below w2.heap.size w2 w5) := hd (bel_grown HBw.o hg5 (fun g hg' => (how.lt g hg').1))
      rw [show cellsB (39 :: S) ++ (#[Value.int .u8 39] : Array Value).toList = cellsB (39 :: S ++ [39]) from by rw [cellsB_app]; rfl] at ho5
      have hcv1 := run_string_of w5 62 9 5 Try.underlying62 Try.underlying5 Try.underlying9 _ _ (39 :: S ++ [39]) (IsL.own ho5)
      have hz : (⟨(39 :: S ++ [39]).toArray⟩ : ByteArray).size ≤ 140737488351232 := by rw [U.mk_size]; simp; omega
      have HU2 : Hd (U.unquote ⟨(39 :: S ++ [39]).toArray⟩ = (U.encs rs, 0)) := hd HU.o
      clear ho5 hg5 how HU
      generalize (⟨(39 :: S ++ [39]).toArray⟩ : ByteArray) = str at *
      have HZ := hd hz
      clear hz
      go_wp2_with (go_at_call 34; refine (unquote_any str _ HZ.o).mono ?_; rintro e w6 ⟨rfl, hb6⟩; unfold strR; rw [HU2.o]; have HB6 := hd (bel HB5.o hb6); have hcv2 := run_runes_of w6 _ _ rs (HI.o.below HB6.o); clear hb6)
      go_ret
      exact ⟨rfl, bel HB2.o HB6.o⟩

theorem spells_law (W : World) {H : Type} (v : Value) (d : DataW H) (v1 : Value) (d1 : DataW H) (v2 : Value) (d2 : DataW H) (h : Rows.uptoBulk d ≤ 1048576 → ∃ l, IsInts .i32 W v l) (h1 : Rows.uptoBulk d1 ≤ 1048576 → ∃ l, IsInts .i64 W v1 l) (h2 : ∃ b : Bool, v2 = .bool b)
    (hb : Rows.uptoBulk d + (Rows.uptoBulk d1 + (Rows.uptoBulk d2 + 0)) ≤ 1048576) :
    Calls Try.prog 10 #[v, v1, v2] W fun e W' => e = .returned (.bool true) ∧ Below W.heap.size W W' := by
  obtain ⟨l, hl, hn, _⟩ := h (by omega)
  obtain ⟨hs, ⟨hz, A, c, rfl, r⟩, hn1, _⟩ := h1 (by omega)
  obtain ⟨b, rfl⟩ := h2
  cases b
  · exact spells_walk_34 v l.length l A hs.length c hs W hl hn r rfl hn1
  · exact spells_walk_39 v l.length l A hs.length c hs W hl hn r rfl hn1

section
open Go.ChangeShapes Go.WideShapes
variable {H : Type} {enc : TypeId × Value → H} {P : Program} {w : World} {base : Nat}
theorem open_bool1 {t : TypeId} (ht : P.underlying t = some .bool) {v : Value} {d : DataW H} {p : List MemPlace} (hv : Value.okWide P w .any base t v) (h : DataW.Trod enc P w 0 (fun _ => true) true t v d p) (_ : ∀ n ∈ d.weights P t, n ≤ reachBytes) : ∃ b : Bool, v = .bool b := by
  obtain ⟨b, hb, _⟩ := open_bool ht hv h
  exact ⟨b, hb⟩
end
end Go.Proofs.Ythlpgnidjjclcaa
