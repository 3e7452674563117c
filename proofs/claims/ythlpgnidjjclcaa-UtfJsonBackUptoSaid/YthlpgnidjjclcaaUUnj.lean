/- The walk of utf.Unjson. -/
import Derived.Test.YthlpgnidjjclcaaUJEsc
import Derived.Test.YthlpgnidjjclcaaUJClosed
namespace Go.Proofs.Ythlpgnidjjclcaa
open Go.RowKit
set_option linter.unusedVariables false
set_option linter.unusedSimpArgs false

theorem unj_utf (s : ByteArray) (w : World) (hs : s.size ≤ 140737488351232) (hv : U.valid s = false) :
    Calls Try.prog 38 #[.string s] w fun e w' => e = strR (U.unjson s) ∧ Below w.heap.size w w' := by
  have V := hd hv
  have G : Hd (U.unjson s = ([], 4)) := hd <| by unfold U.unjson; rw [if_pos hv]
  clear hv
  go_enter Try.func38, Try.ntmps38
  go_wp2_with (go_at_call 19; refine (Valid_any _ _ (by omega)).mono ?_; rintro e w1 ⟨rfl, hb1⟩; rw [V.o])
  go_ret2
  exact ⟨ret_strR (by rw [G.o]) (by rw [G.o]), by assumption⟩

theorem unj_open (s : ByteArray) (w : World) (hs : s.size ≤ 140737488351232) (hv : U.valid s = true) (hc : U.closedB s = false) :
    Calls Try.prog 38 #[.string s] w fun e w' => e = strR (U.unjson s) ∧ Below w.heap.size w w' := by
  have V := hd hv
  have C := hd hc
  have G : Hd (U.unjson s = ([], 10)) := hd <| by unfold U.unjson; rw [if_neg (by simp [hv]), if_pos hc]
  clear hv hc
  go_enter Try.func38, Try.ntmps38
  go_wp2_with (first
    | (go_at_call 19; refine (Valid_any _ _ (by omega)).mono ?_; rintro e w1 ⟨rfl, hb1⟩; rw [V.o])
    | (go_at_call 54; refine (closed_any _ _ (by omega)).mono ?_; rintro e w2 ⟨rfl, hb2⟩; rw [C.o]))
  go_ret2
  exact ⟨ret_strR (by rw [G.o]) (by rw [G.o]), bel (by assumption) (by assumption)⟩

theorem U.closed_facts (s : ByteArray) (h : U.closedB s = true) : 2 ≤ s.size ∧ U.at' s 0 = 34 ∧ U.jend s 1 = true := by
  unfold U.closedB at h
  simp only [Bool.and_eq_true, decide_eq_true_eq] at h
  have := U.jend_lt s 1 h.2.2.2
  exact ⟨by omega, h.2.1, h.2.2.2⟩

set_option maxHeartbeats 1600000 in
theorem unj_yes (s : ByteArray) (w : World) (hs : s.size ≤ 140737488351232) (hv : U.valid s = true) (hcl : U.closedB s = true) :
    Calls Try.prog 38 #[.string s] w fun e w' => e = strR (U.unjson s) ∧ Below w.heap.size w w' := by
  have V := hd hv
  have C := hd hcl
  obtain ⟨h2, _, hj1⟩ := U.closed_facts s hcl
  have hG : U.unjson s = U.unjR (U.unqJ (s.extract 1 (s.size - 1)).data.toList) := by
    unfold U.unjson; rw [if_neg (by simp [hv]), if_neg (by simp [hcl])]
  have hz : ((s.size : Int) - 1).toNat = s.size - 1 := by omega
  have hi2 : (1 : Int) ≤ (s.size : Int) - 1 := by omega
  have hzt : (s.extract 1 (s.size - 1)).size = s.size - 2 := by rw [ByteArray.size_extract]; omega
  have hmid := U.ext_mid s h2
  have hatx : ∀ p, p < s.size - 2 → U.at' (s.extract 1 (s.size - 1)) p = U.at' s (p + 1) := fun p hp => by
    have h := U.at_ext s 1 (s.size - 1) p (by omega) (by omega)
    rw [Nat.add_comm 1 p] at h
    exact h
  have HG := hd hG
  have HZT := hd hzt
  have HM := hd hmid
  have HA := hd hatx
  have HJ := hd hj1
  clear hv hcl hG hzt hmid hatx hj1
  go_enter Try.func38, Try.ntmps38
  go_wp2_with (first
    | (go_at_call 19; refine (Valid_any _ _ (by omega)).mono ?_; rintro e w1 ⟨rfl, hb1⟩; rw [V.o])
    | (go_at_call 54; refine (closed_any _ _ (by omega)).mono ?_; rintro e w2 ⟨rfl, hb2⟩; rw [C.o])
    | (at_make; refine wpList_mk0 _ 62 5 (.int .u8 0) 1 1 Try.underlying62 info_u8 rfl _ _ rfl w.heap.size _ _ _ rfl rfl ?b1 ?b2 ?b3 ?_))
  case b1 => omega
  case b2 => omega
  case b3 => exact (bel (by assumption) (by assumption) : Below w.heap.size w w2).size
  have hb2 : Below w.heap.size w w2 := bel (by assumption) (by assumption)
  have hz2 := hb2.size
  intro w3 ho hg
  have hb3 : Below w.heap.size w w3 := bel_grown hb2 hg (fun k h => by cases h)
  clear hg
  go_wp2
  generalize hT : s.extract 1 (s.size - 1) = t at *
  clear hT
  have hzt := HZT.o
  have hts : t.size ≤ 140737488351232 := by omega
  have hts2 : t.size + 2 = s.size := by omega
  have HT2 := hd hts2
  clear hzt hts2
  go_loopw [5, 6] (fun v x wr => ∃ (p : Nat) (bs : List UInt8), p ≤ t.size ∧ x = .int .i64 p ∧ wr.ownsRow w.heap.size 5 1 v bs.length (cellsB bs) ∧ Below w.heap.size w wr ∧ bs.length ≤ p ∧ Hd ((U.unqJ (t.data.toList.drop p)).map (bs ++ ·) = U.unqJ t.data.toList) ∧ Hd (U.jend s (p + 1) = true)) (fun _ x _ => t.size - (intOf x).toNat)
  case atStart => exact ⟨0, [], Nat.zero_le _, rfl, ho, hb3, Nat.le_refl _, hd (by simp), HJ⟩
  case round =>
    obtain ⟨p, bs, hp, rfl, how, hbw, hlen, hr, hj⟩ := hrel
    have hzr := hbw.size
    by_cases hlt : p < t.size
    · obtain ⟨c, hc, hdc⟩ := U.drop_cons t p hlt
      have eat := U.at_eq t p hlt
      have hts2 := HT2.o
      have hsat : U.at' t p = U.at' s (p + 1) := HA.o p (by omega)
      have hjp := hj.o
      by_cases h92 : U.at' t p = 92
      · have b92 : (((t[p]'hlt).toNat : Int) != 92) = false := by rw [← eat, h92]; rfl
        have hed : (t.extract (p + 1) t.size).data.toList = t.data.toList.drop (p + 1) := U.ext_drop t (p + 1)
        have hes : (t.extract (p + 1) t.size).size ≤ 1125899906842624 := by rw [ByteArray.size_extract]; omega
        have hjs : U.jend s (p + 1 + 2) = true := by rw [← U.jend_esc s (p + 1) (U.jend_lt s _ hjp) (by rw [← hsat, h92])]; exact hjp
        have hlt2 := U.jend_lt s _ hjs
        have h0e : 0 < (t.extract (p + 1) t.size).size := by rw [ByteArray.size_extract]; omega
        have hp1 : p + 1 < t.size := by omega
        have hsd : t.data.toList.drop (p + 1) = (s.data.toList.take (s.size - 1)).drop (p + 1 + 1) := by
          have e1 : 1 + (s.size - 2) = s.size - 1 := by omega
          rw [HM.o, List.take_drop, e1, List.drop_drop, Nat.add_comm 1 (p + 1)]
        cases he : U.escJ (t.data.toList.drop (p + 1)) with
        | none =>
          have E : Hd (U.escJ (t.extract (p + 1) t.size).data.toList = none) := hd <| by rw [hed, he]
          have G : Hd (U.unjson s = ([], 11)) := hd <| by
            rw [HG.o, ← hr.o, hdc, U.unqJ_none c _ (by rw [hc, h92]) he]; rfl
          clear he hed hdc hc h92 eat hr hsat hjp hjs hsd hj hts2 hlt2
          go_wp2_with (go_at_call 55; refine (jesc_any (t.extract (p + 1) t.size) hes w.heap.size u5 bs.length (cellsB bs) wr how hzr (by omega) h0e).mono ?_; intro e w4 hpost; unfold EscPost at hpost; rw [E.o] at hpost; obtain ⟨rfl, hb4⟩ := hpost)
          go_ret2
          exact ⟨ret_strR (by rw [G.o]) (by rw [G.o]), bel hbw (by assumption)⟩
        | some r =>
          obtain ⟨es, k⟩ := r
          have hk := U.escJ_go s (p + 1) es k hjp (by rw [← hsat, h92]) (by rw [← hsd, he])
          have E : Hd (U.escJ (t.extract (p + 1) t.size).data.toList = some (es, k)) := hd <| by rw [hed, he]
          have G : Hd ((U.unqJ (t.data.toList.drop (p + 1 + k))).map ((bs ++ es) ++ ·) = U.unqJ t.data.toList) := hd <| by
            rw [← hr.o, hdc, U.unqJ_some c _ (by rw [hc, h92]) es k he, List.drop_drop, Option.map_map]
            congr 1
            funext x
            simp
          have hk0 : ((k : Int) == 0) = false := by rw [beq_eq_false_iff_ne]; omega
          have hkb : p + 1 + k ≤ t.size := by omega
          have hkl : bs.length + es.length ≤ p + 1 + k := by omega
          have hj2 : Hd (U.jend s (p + 1 + k + 1) = true) := hd <| by rw [show p + 1 + k + 1 = p + 1 + 1 + k by omega]; exact hk.2.2.2
          obtain ⟨hk1, hk2, hk3, _⟩ := hk
          clear he hed hdc hc h92 eat hr hsat hjp hjs hsd hj hts2 hlt2
          go_wp2_with (go_at_call 55; refine (jesc_any (t.extract (p + 1) t.size) hes w.heap.size u5 bs.length (cellsB bs) wr how hzr (by omega) h0e).mono ?_; intro e w4 hpost; unfold EscPost at hpost; rw [E.o] at hpost; obtain ⟨v3, rfl, ho3, hg3⟩ := hpost)
          have HO : Hd (∀ (w4 : World) (v3 : Value), w4.ownsRow w.heap.size 5 1 v3 (bs.length + es.length) (cellsB bs ++ cellsB es) → w4.ownsRow w.heap.size 5 1 v3 (bs ++ es).length (cellsB (bs ++ es))) := hd <| fun w4 v3 h => by rw [cellsB_app, List.length_append]; exact h
          go_roundw
          case rel => exact ⟨p + 1 + k, bs ++ es, hkb, by go_num, HO.o _ _ (by assumption), bel_grown hbw (by assumption) (fun g hg' => (how.lt g hg').1), by rw [List.length_append]; exact hkl, G, hj2⟩
          case measure => simp [intOf]; omega
      · have b92 : (((t[p]'hlt).toNat : Int) != 92) = true := by rw [bne_iff_ne, ← eat]; omega
        have G : Hd ((U.unqJ (t.data.toList.drop (p + 1))).map ((bs ++ [c]) ++ ·) = U.unqJ t.data.toList) := hd <| by
          rw [← hr.o, hdc, U.unqJ_plain c _ (by rw [hc]; exact h92), Option.map_map]
          congr 1
          funext x
          simp
        have hj2 : Hd (U.jend s (p + 1 + 1) = true) := hd <| by
          have hn34 : U.at' s (p + 1) ≠ 34 := by
            intro h
            have := U.jend_hit s (p + 1) (U.jend_lt s _ hjp) h
            rw [hjp] at this
            have := of_decide_eq_true this.symm
            omega
          rw [← U.jend_step s (p + 1) (U.jend_lt s _ hjp) hn34 (by rw [← hsat]; exact h92)]; exact hjp
        have heq : ((t[p]'hlt).toNat : Int) = (U.at' t p : Int) := by rw [eat]
        have hcc : Hd (cellsB (bs ++ [c]) = cellsB bs ++ [.int .u8 (U.at' t p : Int)]) := hd <| by rw [cellsB_app]; simp only [cellsB, List.map_cons, List.map_nil]; rw [hc]
        rw [heq] at b92
        clear hdc hc h92 eat hr hsat hjp hj hts2
        go_wp2_with (at_builtin; refine wpList_app_lit 62 5 (.int .u8 0) 1 1 Try.underlying62 info_u8 rfl (by decide) rfl _ _ rfl w.heap.size u5 bs.length (cellsB bs) wr #[.int .u8 (U.at' t p : Int)] 1 rfl rfl how rfl ?_ ?_ ?_ hzr ?_)
        any_goals (first | omega | (simp [Value.oneCell']; done))
        intro v3 w4 ho3 hg3
        have HO : Hd (w4.ownsRow w.heap.size 5 1 v3 (bs ++ [c]).length (cellsB (bs ++ [c]))) := hd <| by rw [hcc.o, List.length_append]; exact ho3
        have hb4 : Below w.heap.size w w4 := bel_grown hbw hg3 (fun g hg' => (how.lt g hg').1)
        clear ho3 hg3
        go_wp2
        go_roundw
        case rel => exact ⟨p + 1, bs ++ [c], by omega, by go_num, HO.o, hb4, by rw [List.length_append]; simp; omega, G, hj2⟩
        case measure => simp [intOf]; omega
    · have G : Hd (U.unjson s = (bs, 0)) := hd <| by
        rw [HG.o, ← hr.o, List.drop_of_length_le (by rw [← Lib.size_eq]; omega), U.unqJ_nil, Option.map_some, List.append_nil]; rfl
      have io := IsL.own how
      have hcv := run_string_of wr 62 9 5 Try.underlying62 Try.underlying5 Try.underlying9 u5 bs.length bs io
      clear hr io
      go_wp2
      go_ret2
      exact ⟨ret_strR (by rw [G.o]) (by rw [G.o]), hbw⟩

theorem unj_any (s : ByteArray) (w : World) (hs : s.size ≤ 140737488351232) :
    Calls Try.prog 38 #[.string s] w fun e w' => e = strR (U.unjson s) ∧ Below w.heap.size w w' := by
  cases hv : U.valid s with
  | false => exact unj_utf s w hs hv
  | true =>
    cases hc : U.closedB s with
    | false => exact unj_open s w hs hv hc
    | true => exact unj_yes s w hs hv hc
end Go.Proofs.Ythlpgnidjjclcaa
