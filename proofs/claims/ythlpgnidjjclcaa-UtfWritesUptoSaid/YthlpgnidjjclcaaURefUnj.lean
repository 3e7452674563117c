/- The walk of weirref01.Unjson. -/
import Derived.Test.YthlpgnidjjclcaaURefJEsc
import Derived.Test.YthlpgnidjjclcaaUUnj
import Derived.Test.YthlpgnidjjclcaaBase5
namespace Go.Proofs.Ythlpgnidjjclcaa
open Go.RowKit
set_option linter.unusedVariables false
set_option linter.unusedSimpArgs false

theorem refunj_utf (s : ByteArray) (w : World) (hs : s.size ≤ 140737488351232) (hv : U.valid s = false) :
    Calls Try.prog 42 #[.string s] w fun e w' => e = strR (U.unjson s) ∧ Below w.heap.size w w' := by
  have V := hd hv
  have G : Hd (U.unjson s = ([], 4)) := hd <| by unfold U.unjson; rw [if_pos hv]
  clear hv
  go_enter Try.func42, Try.ntmps42
  go_wp2_with (go_at_call 21; refine (refValid_any _ _ (by omega)).mono ?_; rintro e w1 ⟨rfl, hb1⟩; rw [V.o])
  go_ret2
  exact ⟨ret_strR (by rw [G.o]) (by rw [G.o]), by assumption⟩

theorem refunj_open (s : ByteArray) (w : World) (hs : s.size ≤ 140737488351232) (hv : U.valid s = true) (hc : U.closedB s = false) :
    Calls Try.prog 42 #[.string s] w fun e w' => e = strR (U.unjson s) ∧ Below w.heap.size w w' := by
  have V := hd hv
  have C := hd hc
  have G : Hd (U.unjson s = ([], 10)) := hd <| by unfold U.unjson; rw [if_neg (by simp [hv]), if_pos hc]
  clear hv hc
  go_enter Try.func42, Try.ntmps42
  go_wp2_with (first
    | (go_at_call 21; refine (refValid_any _ _ (by omega)).mono ?_; rintro e w1 ⟨rfl, hb1⟩; rw [V.o])
    | (go_at_call 57; refine (refclosed_any _ _ (by omega)).mono ?_; rintro e w2 ⟨rfl, hb2⟩; rw [C.o]))
  go_ret2
  exact ⟨ret_strR (by rw [G.o]) (by rw [G.o]), bel (by assumption) (by assumption)⟩

set_option maxHeartbeats 1600000 in
theorem refunj_yes (s : ByteArray) (w : World) (hs : s.size ≤ 140737488351232) (hv : U.valid s = true) (hcl : U.closedB s = true) :
    Calls Try.prog 42 #[.string s] w fun e w' => e = strR (U.unjson s) ∧ Below w.heap.size w w' := by
  have V := hd hv
  have C := hd hcl
  obtain ⟨h2, _, hj1⟩ := U.closed_facts s hcl
  have hG : U.unjson s = U.unjR (U.unqJ ((s.data.toList.take (s.size - 1)).drop 1)) := by
    unfold U.unjson; rw [if_neg (by simp [hv]), if_neg (by simp [hcl]), U.ext_mid s h2, List.drop_take, show s.size - 1 - 1 = s.size - 2 from by omega]
  have HG := hd hG
  have HJ := hd hj1
  clear hv hcl hG hj1
  go_enter Try.func42, Try.ntmps42
  go_wp2_with (first
    | (go_at_call 21; refine (refValid_any _ _ (by omega)).mono ?_; rintro e w1 ⟨rfl, hb1⟩; rw [V.o])
    | (go_at_call 57; refine (refclosed_any _ _ (by omega)).mono ?_; rintro e w2 ⟨rfl, hb2⟩; rw [C.o]))
  have hb2 : Below w.heap.size w w2 := bel (by assumption) (by assumption)
  go_loopw [4, 5] (fun v x wr => ∃ (p : Nat) (bs : List UInt8), 1 ≤ p ∧ p ≤ s.size - 1 ∧ x = .int .i64 p ∧ wr.ownsRow w.heap.size 5 1 v bs.length (cellsB bs) ∧ Below w.heap.size w wr ∧ bs.length ≤ p ∧ Hd ((U.unqJ ((s.data.toList.take (s.size - 1)).drop p)).map (bs ++ ·) = U.unqJ ((s.data.toList.take (s.size - 1)).drop 1)) ∧ Hd (U.jend s p = true)) (fun _ x _ => s.size - (intOf x).toNat)
  case atStart => exact ⟨1, [], Nat.le_refl _, by omega, rfl, World.ownsRow_nil _ _ _ _, hb2, by simp, hd (by simp), HJ⟩
  case round =>
    obtain ⟨p, bs, hp1, hp, rfl, how, hbw, hlen, hr, hj⟩ := hrel
    have hzr := hbw.size
    have hjp := hj.o
    by_cases hlt : p < s.size - 1
    · have hps : p < s.size := by omega
      obtain ⟨c, hc, hdc⟩ := take_cons s (s.size - 1) p hlt (by omega)
      have eat := U.at_eq s p hps
      by_cases h92 : U.at' s p = 92
      · have b92 : (((s[p]'hps).toNat : Int) != 92) = false := by rw [← eat, h92]; rfl
        cases he : U.escJ ((s.data.toList.take (s.size - 1)).drop (p + 1)) with
        | none =>
          have E : Hd (U.escR (U.escJ ((s.data.toList.take (s.size - 1)).drop (p + 1))) = ([], 0)) := hd <| by rw [he]; rfl
          have G : Hd (U.unjson s = ([], 11)) := hd <| by
            rw [HG.o, ← hr.o, hdc, U.unqJ_none c _ (by rw [hc, h92]) he]; rfl
          clear he hdc hc h92 eat hr hjp hj
          go_wp2_with (go_at_call 58; refine (rjesc_any s p (s.size - 1) _ _ rfl (by omega) wr hs (by omega) (by omega)).mono ?_; rintro e w3 ⟨rfl, hb3⟩; unfold strR; rw [E.o])
          go_ret2
          exact ⟨ret_strR (by rw [G.o]) (by rw [G.o]), bel hbw hb3⟩
        | some r =>
          obtain ⟨es, k⟩ := r
          have hk := U.escJ_go s p es k hjp h92 he
          have E : Hd (U.escR (U.escJ ((s.data.toList.take (s.size - 1)).drop (p + 1))) = (es, (k : Int) + 1)) := hd <| by rw [he]; rfl
          have G : Hd ((U.unqJ ((s.data.toList.take (s.size - 1)).drop (p + 1 + k))).map ((bs ++ es) ++ ·) = U.unqJ ((s.data.toList.take (s.size - 1)).drop 1)) := hd <| by
            rw [← hr.o, hdc, U.unqJ_some c _ (by rw [hc, h92]) es k he, List.drop_drop, Option.map_map]
            congr 1
            funext x
            simp
          have hk0 : (((k : Int) + 1) == 0) = false := by rw [beq_eq_false_iff_ne]; omega
          have hj2 : Hd (U.jend s (p + 1 + k) = true) := hd hk.2.2.2
          obtain ⟨hk1, hk2, hk3, _⟩ := hk
          have hkb : p + 1 + k ≤ s.size - 1 := by omega
          have hkl : bs.length + es.length ≤ p + 1 + k := by omega
          have hez : (⟨es.toArray⟩ : ByteArray).size = es.length := by rw [Lib.size_eq]
          have hsz2 : bs.length + (⟨es.toArray⟩ : ByteArray).size ≤ 140737488355328 := by omega
          have HEZ := hd hez
          clear he hdc hc h92 eat hr hez hjp hj
          go_wp2_with (first
            | (go_at_call 58; refine (rjesc_any s p (s.size - 1) _ _ rfl (by omega) wr hs (by omega) (by omega)).mono ?_; rintro e w3 ⟨rfl, hb3⟩; unfold strR; rw [E.o]; have ho3 := own_below how hb3; have hzr3 := Nat.le_trans hzr hb3.size)
            | (at_builtin; refine wpList_app_str _ 62 9 5 Try.underlying62 Try.underlying9 info_u8 rfl _ _ rfl w.heap.size u4 _ _ rfl ho3 ⟨es.toArray⟩ rfl hsz2 hzr3 ?_))
          intro v3 w4 ho4 hg4
          have HO : Hd (w4.ownsRow w.heap.size 5 1 v3 (bs ++ es).length (cellsB (bs ++ es))) := hd <| by rw [cellsB_app, List.length_append, ← HEZ.o]; exact ho4
          have hb4 : Below w.heap.size w w4 := bel_grown (bel hbw (by assumption)) hg4 (fun g hg' => (how.lt g hg').1)
          clear ho4 hg4
          go_wp2
          go_roundw
          case rel => exact ⟨p + 1 + k, bs ++ es, by omega, hkb, by rw [show ((p + 1 + k : Nat) : Int) = (p : Int) + ((k : Int) + 1) by omega], HO.o, hb4, by rw [List.length_append]; exact hkl, G, hj2⟩
          case measure => simp [intOf]; omega
      · have b92 : (((s[p]'hps).toNat : Int) != 92) = true := by rw [bne_iff_ne, ← eat]; omega
        have G : Hd ((U.unqJ ((s.data.toList.take (s.size - 1)).drop (p + 1))).map ((bs ++ [c]) ++ ·) = U.unqJ ((s.data.toList.take (s.size - 1)).drop 1)) := hd <| by
          rw [← hr.o, hdc, U.unqJ_plain c _ (by rw [hc]; exact h92), Option.map_map]
          congr 1
          funext x
          simp
        have hj2 : Hd (U.jend s (p + 1) = true) := hd <| by
          have hn34 : U.at' s p ≠ 34 := by
            intro h
            have := U.jend_hit s p hps h
            rw [hjp] at this
            have := of_decide_eq_true this.symm
            omega
          rw [← U.jend_step s p hps hn34 h92]; exact hjp
        have heq : ((s[p]'hps).toNat : Int) = (U.at' s p : Int) := by rw [eat]
        have hcc : Hd (cellsB (bs ++ [c]) = cellsB bs ++ [.int .u8 (U.at' s p : Int)]) := hd <| by rw [cellsB_app]; simp only [cellsB, List.map_cons, List.map_nil]; rw [hc]
        rw [heq] at b92
        clear hdc hc h92 eat hr hjp hj
        go_wp2_with (at_builtin; refine wpList_app_lit 62 5 (.int .u8 0) 1 1 Try.underlying62 info_u8 rfl (by decide) rfl _ _ rfl w.heap.size u4 bs.length (cellsB bs) wr #[.int .u8 (U.at' s p : Int)] 1 rfl rfl how rfl ?_ ?_ ?_ hzr ?_)
        any_goals (first | omega | (simp [Value.oneCell']; done))
        intro v3 w3 ho3 hg3
        have HO : Hd (w3.ownsRow w.heap.size 5 1 v3 (bs ++ [c]).length (cellsB (bs ++ [c]))) := hd <| by rw [hcc.o, List.length_append]; exact ho3
        have hb3 : Below w.heap.size w w3 := bel_grown hbw hg3 (fun g hg' => (how.lt g hg').1)
        clear ho3 hg3
        go_wp2
        go_roundw
        case rel => exact ⟨p + 1, bs ++ [c], by omega, by omega, by go_num, HO.o, hb3, by rw [List.length_append]; simp; omega, G, hj2⟩
        case measure => simp [intOf]; omega
    · have G : Hd (U.unjson s = (bs, 0)) := hd <| by
        rw [HG.o, ← hr.o, List.drop_of_length_le (by rw [List.length_take, ← Lib.size_eq]; omega), U.unqJ_nil, Option.map_some, List.append_nil]; rfl
      have io := IsL.own how
      have hcv := run_string_of wr 62 9 5 Try.underlying62 Try.underlying5 Try.underlying9 u4 bs.length bs io
      clear hr io hjp hj
      go_wp2
      go_ret2
      exact ⟨ret_strR (by rw [G.o]) (by rw [G.o]), hbw⟩

theorem refunj_any (s : ByteArray) (w : World) (hs : s.size ≤ 140737488351232) :
    Calls Try.prog 42 #[.string s] w fun e w' => e = strR (U.unjson s) ∧ Below w.heap.size w w' := by
  cases hv : U.valid s with
  | false => exact refunj_utf s w hs hv
  | true =>
    cases hc : U.closedB s with
    | false => exact refunj_open s w hs hv hc
    | true => exact refunj_yes s w hs hv hc
end Go.Proofs.Ythlpgnidjjclcaa
