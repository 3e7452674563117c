/- The walk of weirref01.Unquote: a literal's value by the same word. -/
import Derived.Test.YthlpgnidjjclcaaURefEsc
import Derived.Test.YthlpgnidjjclcaaULitR
import Derived.Test.YthlpgnidjjclcaaBase5
namespace Go.Proofs.Ythlpgnidjjclcaa
open Go.RowKit
set_option linter.unusedVariables false
set_option linter.unusedSimpArgs false
theorem refunq_utf (s : ByteArray) (w : World) (hs : s.size ≤ 140737488351232) (hv : U.valid s = false) :
    Calls Try.prog 35 #[.string s] w fun e w' => e = strR (U.unquote s) ∧ Below w.heap.size w w' := by
  have V := hd hv
  have G : Hd (U.unquote s = ([], 4)) := hd <| by unfold U.unquote; rw [if_pos hv]
  clear hv
  go_enter Try.func35, Try.ntmps35
  go_wp2_with (go_at_call 21; refine (refValid_any _ _ (by omega)).mono ?_; rintro e w1 ⟨rfl, hb1⟩; rw [V.o])
  go_ret2
  exact ⟨ret_strR (by rw [G.o]) (by rw [G.o]), by assumption⟩

theorem refunq_lit (s : ByteArray) (w : World) (hs : s.size ≤ 140737488351232) (hv : U.valid s = true) (hl : U.literal s 0 ≠ ((s.size : Int), 0)) :
    Calls Try.prog 35 #[.string s] w fun e w' => e = strR (U.unquote s) ∧ Below w.heap.size w w' := by
  have V := hd hv
  have G : Hd (U.unquote s = ([], 10)) := hd <| by unfold U.unquote; rw [if_neg (by simp [hv]), if_pos hl]
  clear hv
  by_cases h2 : (U.literal s 0).2 = 0
  · have h1 : ((U.literal s 0).1 != (s.size : Int)) = true := by
      rw [bne_iff_ne]; intro h; exact hl (Prod.ext h h2)
    have h2' : ((U.literal s 0).2 != 0) = false := by rw [h2]; rfl
    clear hl h2
    go_enter Try.func35, Try.ntmps35
    go_wp2_with (first
      | (go_at_call 21; refine (refValid_any _ _ (by omega)).mono ?_; rintro e w1 ⟨rfl, hb1⟩; rw [V.o])
      | (go_at_call 33; refine (refLit_any s 0 _ (by omega)).mono ?_; rintro e w' ⟨rfl, rfl⟩))
    go_ret2
    exact ⟨ret_strR (by rw [G.o]) (by rw [G.o]), by assumption⟩
  · have h2' : ((U.literal s 0).2 != 0) = true := by rw [bne_iff_ne]; exact h2
    clear hl h2
    go_enter Try.func35, Try.ntmps35
    go_wp2_with (first
      | (go_at_call 21; refine (refValid_any _ _ (by omega)).mono ?_; rintro e w1 ⟨rfl, hb1⟩; rw [V.o])
      | (go_at_call 33; refine (refLit_any s 0 _ (by omega)).mono ?_; rintro e w' ⟨rfl, rfl⟩))
    go_ret2
    exact ⟨ret_strR (by rw [G.o]) (by rw [G.o]), by assumption⟩

theorem refunq_raw (s : ByteArray) (w : World) (hs : s.size ≤ 140737488351232) (hv : U.valid s = true) (hl : U.literal s 0 = ((s.size : Int), 0)) (hq : U.at' s 0 = 96) :
    Calls Try.prog 35 #[.string s] w fun e w' => e = strR (U.unquote s) ∧ Below w.heap.size w w' := by
  have V := hd hv
  have L := hd hl
  obtain ⟨h2, _⟩ := U.lit_facts s hl
  have G : Hd (U.unquote s = ((s.extract 1 (s.size - 1)).data.toList, 0)) := hd <| by
    unfold U.unquote; rw [if_neg (by simp [hv]), if_neg (by simp [hl]), if_pos hq, U.ext_mid s h2]
  have e0 := U.at_eq s 0 (by omega)
  have hq' : ((s[0]'(by omega)).toNat : Int) = 96 := by rw [← e0, hq]; rfl
  have hz : ((s.size : Int) - 1).toNat = s.size - 1 := by omega
  have hi1 : (0 : Int) < (s.size : Int) := by omega
  have hi2 : (1 : Int) ≤ (s.size : Int) - 1 := by omega
  clear hv hl hq e0
  go_enter Try.func35, Try.ntmps35
  go_wp2_with (first
      | (go_at_call 21; refine (refValid_any _ _ (by omega)).mono ?_; rintro e w1 ⟨rfl, hb1⟩; rw [V.o])
      | (go_at_call 33; refine (refLit_any s 0 _ (by omega)).mono ?_; rintro e w' ⟨rfl, rfl⟩; rw [L.o]))
  go_ret2
  exact ⟨ret_strR (by rw [G.o]) (by rw [G.o]), by assumption⟩

set_option maxHeartbeats 1600000 in
theorem refunq_esc (s : ByteArray) (w : World) (hs : s.size ≤ 140737488351232) (hv : U.valid s = true) (hl : U.literal s 0 = ((s.size : Int), 0)) (q : Nat) (hq : q = 34 ∨ q = 39) (hq0 : U.at' s 0 = q) :
    Calls Try.prog 35 #[.string s] w fun e w' => e = strR (U.unquote s) ∧ Below w.heap.size w w' := by
  have V := hd hv
  have L := hd hl
  obtain ⟨h2, _⟩ := U.lit_facts s hl
  have hG : U.unquote s = U.unqR (U.unq q ((s.data.toList.take (s.size - 1)).drop 1)) := by
    unfold U.unquote; rw [if_neg (by simp [hv]), if_neg (by simp [hl]), if_neg (by omega), hq0, List.drop_take, show s.size - 1 - 1 = s.size - 2 from by omega]
  have e0 := U.at_eq s 0 (by omega)
  have hq' : ((s[0]'(by omega)).toNat : Int) = (q : Int) := by rw [← e0, hq0]
  have hq96 : ((q : Int) == 96) = false := by rw [beq_eq_false_iff_ne]; omega
  have hi1 : (0 : Int) < (s.size : Int) := by omega
  have HG := hd hG
  have hQ := hd hq
  clear hv hl hq e0 hG hq0
  go_enter Try.func35, Try.ntmps35
  go_wp2_with (first
      | (go_at_call 21; refine (refValid_any _ _ (by omega)).mono ?_; rintro e w1 ⟨rfl, hb1⟩; rw [V.o])
      | (go_at_call 33; refine (refLit_any s 0 _ (by omega)).mono ?_; rintro e w' ⟨rfl, rfl⟩; rw [L.o]))
  have hb1 : Below w.heap.size w w1 := by assumption
  go_loopw [7, 8] (fun v x wr => ∃ (p : Nat) (bs : List UInt8), 1 ≤ p ∧ p ≤ s.size - 1 ∧ x = .int .i64 p ∧ wr.ownsRow w.heap.size 5 1 v bs.length (cellsB bs) ∧ Below w.heap.size w wr ∧ bs.length ≤ p ∧ Hd ((U.unq q ((s.data.toList.take (s.size - 1)).drop p)).map (bs ++ ·) = U.unq q ((s.data.toList.take (s.size - 1)).drop 1))) (fun _ x _ => s.size - (intOf x).toNat)
  case atStart => exact ⟨1, [], Nat.le_refl _, by omega, rfl, World.ownsRow_nil _ _ _ _, hb1, by simp, hd (by simp)⟩
  case round =>
    obtain ⟨p, bs, hp1, hp, rfl, how, hbw, hlen, hr⟩ := hrel
    have hzr := hbw.size
    by_cases hlt : p < s.size - 1
    · have hps : p < s.size := by omega
      obtain ⟨c, hc, hdc⟩ := take_cons s (s.size - 1) p hlt (by omega)
      have eat := U.at_eq s p hps
      by_cases h92 : U.at' s p = 92
      · have b92 : (((s[p]'hps).toNat : Int) != 92) = false := by rw [← eat, h92]; rfl
        cases he : U.escL q ((s.data.toList.take (s.size - 1)).drop (p + 1)) with
        | none =>
          have E : Hd (U.escR (U.escL q ((s.data.toList.take (s.size - 1)).drop (p + 1))) = ([], 0)) := hd <| by rw [he]; rfl
          have G : Hd (U.unquote s = ([], 11)) := hd <| by
            rw [HG.o, ← hr.o, hdc, U.unq_none q c _ (by rw [hc, h92]) he]; rfl
          clear he hdc hc h92 eat hr
          go_wp2_with (go_at_call 52; refine (resc_any q hQ.o s p (s.size - 1) _ _ rfl (by omega) wr hs (by omega) (by omega)).mono ?_; rintro e w3 ⟨rfl, hb3⟩; unfold strR; rw [E.o])
          go_ret2
          exact ⟨ret_strR (by rw [G.o]) (by rw [G.o]), bel hbw hb3⟩
        | some r =>
          obtain ⟨es, k⟩ := r
          have hk := U.escL_len q _ es k he
          have hdl : ((s.data.toList.take (s.size - 1)).drop (p + 1)).length = s.size - 1 - (p + 1) := by rw [List.length_drop, List.length_take, ← Lib.size_eq]; omega
          have E : Hd (U.escR (U.escL q ((s.data.toList.take (s.size - 1)).drop (p + 1))) = (es, (k : Int) + 1)) := hd <| by rw [he]; rfl
          have G : Hd ((U.unq q ((s.data.toList.take (s.size - 1)).drop (p + 1 + k))).map ((bs ++ es) ++ ·) = U.unq q ((s.data.toList.take (s.size - 1)).drop 1)) := hd <| by
            rw [← hr.o, hdc, U.unq_some q c _ (by rw [hc, h92]) es k he, List.drop_drop, Option.map_map]
            congr 1
            funext x
            simp
          have hk0 : (((k : Int) + 1) == 0) = false := by rw [beq_eq_false_iff_ne]; omega
          have hkb : p + 1 + k ≤ s.size - 1 := by omega
          have hkl : bs.length + es.length ≤ p + 1 + k := by omega
          have hez : (⟨es.toArray⟩ : ByteArray).size = es.length := by rw [Lib.size_eq]
          have hsz2 : bs.length + (⟨es.toArray⟩ : ByteArray).size ≤ 140737488355328 := by omega
          have HEZ := hd hez
          clear he hdc hc h92 eat hr hdl hez
          go_wp2_with (first
            | (go_at_call 52; refine (resc_any q hQ.o s p (s.size - 1) _ _ rfl (by omega) wr hs (by omega) (by omega)).mono ?_; rintro e w3 ⟨rfl, hb3⟩; unfold strR; rw [E.o]; have ho3 := own_below how hb3; have hzr3 := Nat.le_trans hzr hb3.size)
            | (at_builtin; refine wpList_app_str _ 62 9 5 Try.underlying62 Try.underlying9 info_u8 rfl _ _ rfl w.heap.size u7 _ _ rfl ho3 ⟨es.toArray⟩ rfl hsz2 hzr3 ?_))
          intro v3 w4 ho4 hg4
          have HO : Hd (w4.ownsRow w.heap.size 5 1 v3 (bs ++ es).length (cellsB (bs ++ es))) := hd <| by rw [cellsB_app, List.length_append, ← HEZ.o]; exact ho4
          have hb4 : Below w.heap.size w w4 := bel_grown (bel hbw (by assumption)) hg4 (fun g hg' => (how.lt g hg').1)
          clear ho4 hg4
          go_wp2
          go_roundw
          case rel => exact ⟨p + 1 + k, bs ++ es, by omega, hkb, by rw [show ((p + 1 + k : Nat) : Int) = (p : Int) + ((k : Int) + 1) by omega], HO.o, hb4, by rw [List.length_append]; exact hkl, G⟩
          case measure => simp [intOf]; omega
      · have b92 : (((s[p]'hps).toNat : Int) != 92) = true := by rw [bne_iff_ne, ← eat]; omega
        have G : Hd ((U.unq q ((s.data.toList.take (s.size - 1)).drop (p + 1))).map ((bs ++ [c]) ++ ·) = U.unq q ((s.data.toList.take (s.size - 1)).drop 1)) := hd <| by
          rw [← hr.o, hdc, U.unq_plain q c _ (by rw [hc]; exact h92), Option.map_map]
          congr 1
          funext x
          simp
        have heq : ((s[p]'hps).toNat : Int) = (U.at' s p : Int) := by rw [eat]
        have hcc : Hd (cellsB (bs ++ [c]) = cellsB bs ++ [.int .u8 (U.at' s p : Int)]) := hd <| by rw [cellsB_app]; simp only [cellsB, List.map_cons, List.map_nil]; rw [hc]
        rw [heq] at b92
        clear hdc hc h92 eat hr
        go_wp2_with (at_builtin; refine wpList_app_lit 62 5 (.int .u8 0) 1 1 Try.underlying62 info_u8 rfl (by decide) rfl _ _ rfl w.heap.size u7 bs.length (cellsB bs) wr #[.int .u8 (U.at' s p : Int)] 1 rfl rfl how rfl ?_ ?_ ?_ hzr ?_)
        any_goals (first | omega | (simp [Value.oneCell']; done))
        intro v3 w3 ho3 hg3
        have HO : Hd (w3.ownsRow w.heap.size 5 1 v3 (bs ++ [c]).length (cellsB (bs ++ [c]))) := hd <| by rw [hcc.o, List.length_append]; exact ho3
        have hb3 : Below w.heap.size w w3 := bel_grown hbw hg3 (fun g hg' => (how.lt g hg').1)
        clear ho3 hg3
        go_wp2
        go_roundw
        case rel => exact ⟨p + 1, bs ++ [c], by omega, by omega, by go_num, HO.o, hb3, by rw [List.length_append]; simp; omega, G⟩
        case measure => simp [intOf]; omega
    · have G : Hd (U.unquote s = if U.valid ⟨bs.toArray⟩ then (bs, 0) else ([], 13)) := hd <| by
        rw [HG.o, ← hr.o, List.drop_of_length_le (by rw [List.length_take, ← Lib.size_eq]; omega), U.unq_nil, Option.map_some, List.append_nil]; rfl
      have io := IsL.own how
      have hcv := run_string_of wr 62 9 5 Try.underlying62 Try.underlying5 Try.underlying9 u7 bs.length bs io
      have hcv2 : ∀ W : World, Below wr.heap.size wr W → (convert 62 9 u7).run Try.prog W = .ok (.string ⟨bs.toArray⟩) W := fun W hW => run_string_of W 62 9 5 Try.underlying62 Try.underlying5 Try.underlying9 u7 bs.length bs (io.below hW)
      have hbz : (⟨bs.toArray⟩ : ByteArray).size ≤ 1125899906842624 := by
        have : (⟨bs.toArray⟩ : ByteArray).size = bs.length := by rw [Lib.size_eq]
        omega
      clear hr io
      cases hvb : U.valid ⟨bs.toArray⟩ with
      | true =>
        have VB := hd hvb
        have G2 : Hd (U.unquote s = (bs, 0)) := hd <| by rw [G.o, hvb]; rfl
        clear hvb G
        go_wp2_with (go_at_call 21; refine (refValid_any _ _ hbz).mono ?_; rintro e w3 ⟨rfl, hb3⟩; rw [VB.o])
        go_ret2
        exact ⟨ret_strR (by rw [G2.o]) (by rw [G2.o]), bel hbw (by assumption)⟩
      | false =>
        have VB := hd hvb
        have G2 : Hd (U.unquote s = ([], 13)) := hd <| by rw [G.o, hvb]; rfl
        clear hvb G
        go_wp2_with (go_at_call 21; refine (refValid_any _ _ hbz).mono ?_; rintro e w3 ⟨rfl, hb3⟩; rw [VB.o])
        go_ret2
        exact ⟨ret_strR (by rw [G2.o]) (by rw [G2.o]), bel hbw (by assumption)⟩

theorem refunq_any (s : ByteArray) (w : World) (hs : s.size ≤ 140737488351232) :
    Calls Try.prog 35 #[.string s] w fun e w' => e = strR (U.unquote s) ∧ Below w.heap.size w w' := by
  cases hv : U.valid s with
  | false => exact refunq_utf s w hs hv
  | true =>
    by_cases hl : U.literal s 0 = ((s.size : Int), 0)
    · rcases (U.lit_facts s hl).2 with h | h | h
      · exact refunq_esc s w hs hv hl 34 (.inl rfl) h
      · exact refunq_esc s w hs hv hl 39 (.inr rfl) h
      · exact refunq_raw s w hs hv hl h
    · exact refunq_lit s w hs hv hl
end Go.Proofs.Ythlpgnidjjclcaa
