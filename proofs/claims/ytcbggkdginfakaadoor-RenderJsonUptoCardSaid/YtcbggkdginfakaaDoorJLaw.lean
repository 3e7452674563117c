/- RenderJson: the law's walk. -/
import Derived.Test.YtcbggkdginfakaaDoorJNm
import Derived.Test.YtcbggkdginfakaaDoorJFailE
import Derived.Test.YtcbggkdginfakaaDoorRMLen
namespace Go.Proofs.YtcbggkdginfakaaDoor
open Go.RowKit Go.ChangeShapes Go.WideShapes Go.Deep
set_option linter.unusedVariables false
set_option linter.unusedSimpArgs false
open RJ
theorem own_sl {W : World} {B : Nat} {v : Value} {m : Nat} {bs : List UInt8} (h : W.ownsRow B 5 1 v m (cellsB bs)) : ∃ A c, v = .slice A bs.length c ∧ bs.length ≤ c ∧ IsL 1 W (.slice A bs.length c) bs.length (cellsB bs) := by
  have hm : m = bs.length := by have := h.1; rw [cellsB_len] at this; omega
  subst hm
  have hI := IsL.own h
  rcases h.2 with ⟨rfl, h0⟩ | ⟨g, cap, cur, rfl, _, _, hc, _⟩
  · refine ⟨none, 0, by rw [h0], by omega, ?_⟩
    rw [h0]
    rw [h0] at hI
    exact hI
  · exact ⟨_, cap, rfl, hc, hI⟩
theorem T.ans_len2 (s e p : Int) (he0 : -9223372036854775808 ≤ e) (he1 : e ≤ 9223372036854775807) (hp0 : -9223372036854775808 ≤ p) (hp1 : p ≤ 9223372036854775807) : (T.ans (T.ty s) e p).length ≤ 1000 := by
  have h1 := T.it_len e he0 he1
  have h2 := T.it_len p hp0 hp1
  have h3 := (ty_pl s).2
  unfold T.ans
  split <;> simp <;> omega
/-- a text read back is the text, where it is one -/
theorem RJ.fx_self {s : ByteArray} (h : U.valid s = true) : fx s = s := by unfold fx; rw [if_pos h]
set_option maxRecDepth 100000 in
set_option maxHeartbeats 8000000 in
theorem rjson_walk (r : RS.Res) (w : World) (hL : r.Lo w) (hOk : RS.tot r ≤ 1048576 → r.Ok w) (hT : Tbl w) (hP : Pow w.heap.size w)
    (nA : Option Addr) (nc : Nat) (l : List ByteArray) (hl : IsL 1 w (.slice nA l.length nc) l.length (cellsS l)) (hs : ∀ x ∈ l, x.size ≤ 1048576) (hn : l.length ≤ 1048576)
    (st : Int) (hst0 : -9223372036854775808 ≤ st) (hst1 : st ≤ 9223372036854775807) :
    Calls Tryd.prog 3 #[r.val, .slice nA l.length nc, .int .i64 st] w fun e w' => e = .returned (.bool true) ∧ Below w.heap.size w w' := by
  obtain ⟨W, hW⟩ : ∃ W, W = w.alloc (.cells r.cells.toArray 26) := ⟨_, rfl⟩
  have HBW : Hd (Below w.heap.size w W) := hd (by rw [hW]; exact (Below.refl _ _).alloc (Nat.le_refl _) _)
  have hWz : W.heap.size = w.heap.size + 1 := by rw [hW]; simp
  have HBX : Hd (∀ W', Below W.heap.size W W' → ∀ j (hj : j < 6), W'.cell? ⟨w.heap.size, j, none⟩ = some (r.cells[j]'hj)) := hd fun W' h j hj => by
    rw [h.cell (p := ⟨w.heap.size, j, none⟩) (show w.heap.size < W.heap.size by omega), hW, World.cell?_alloc_mark, ← Array.getElem?_toList, List.getElem?_eq_getElem hj]
  have HBw : Hd (∀ W', Below W.heap.size W W' → Below w.heap.size w W') := hd fun W' hb => HBW.o.trans (hb.mono (by omega))
  have HL := hd hL
  have HK := hd hOk
  have HP := hd hP
  have HNL := hd hl
  have HNS := hd hs
  obtain ⟨r0, hr0⟩ : ∃ r0, r0 = r := ⟨_, rfl⟩
  have HR0 := hd hr0
  clear hL hOk hT hP hl hs hr0
  obtain ⟨ty, t, v, tx, eA, ec, E, mA, mc, M⟩ := r
  unfold RS.Res.val
  unfold RS.Res.cells at HBX hW ⊢
  go_enter Tryd.func3, Tryd.ntmps3
  go_wp2_with fail
  rw [← hW]
  clear hW
  refine (rawake_any _).mono ?_
  rintro e w1 ⟨rfl, hb1⟩
  have HB1 := hd hb1
  clear hb1
  have b0 := HBX.o w1 HB1.o 0 (by decide)
  have b1 := HBX.o w1 HB1.o 1 (by decide)
  have b2 := HBX.o w1 HB1.o 2 (by decide)
  have b3 := HBX.o w1 HB1.o 3 (by decide)
  have b4 := HBX.o w1 HB1.o 4 (by decide)
  have b5 := HBX.o w1 HB1.o 5 (by decide)
  simp only [List.getElem_cons_zero, List.getElem_cons_succ] at b0 b1 b2 b3 b4 b5
  go_wp2_with fail
  refine (rparts_any 1048576 (Nat.le_refl _) ⟨ty, t, v, tx, eA, ec, E, mA, mc, M⟩ _ (HL.o.below (HBw.o _ HB1.o))).mono ?_
  rintro e w3 ⟨⟨n, rfl, hpa⟩, hb3⟩
  have HPA := hd hpa
  have HB3 := hd (bel HB1.o hb3)
  clear hb3 hpa b0 b1 b2 b3 b4 b5
  by_cases hbig : n ≤ 1048576
  · have hb : ¬ (1048576 : Int) < (n : Int) := by omega
    have HR := hd (HK.o (by rw [← HPA.o hbig]; exact hbig))
    have c0 := HBX.o w3 HB3.o 0 (by decide)
    have c1 := HBX.o w3 HB3.o 1 (by decide)
    have c2 := HBX.o w3 HB3.o 2 (by decide)
    have c3 := HBX.o w3 HB3.o 3 (by decide)
    have c4 := HBX.o w3 HB3.o 4 (by decide)
    have c5 := HBX.o w3 HB3.o 5 (by decide)
    simp only [List.getElem_cons_zero, List.getElem_cons_succ] at c0 c1 c2 c3 c4 c5
    obtain ⟨q0, hq0⟩ : ∃ q, q = RS.bytes ⟨ty, t, v, tx, eA, ec, E, mA, mc, M⟩ := ⟨_, rfl⟩
    obtain ⟨q1, hq1⟩ : ∃ q, q = R.ans (l.map R.t) := ⟨_, rfl⟩
    obtain ⟨q2, hq2⟩ : ∃ q, q = T.ans (T.ty st) st st := ⟨_, rfl⟩
    have W0 := hd (show ∀ W', Below W.heap.size W W' → Calls Tryd.prog 7 #[RS.Res.val ⟨ty, t, v, tx, eA, ec, E, mA, mc, M⟩] W' fun e w' => (∃ v m, e = .returned v ∧ w'.ownsRow W'.heap.size 5 1 v m (cellsB q0)) ∧ Below W'.heap.size W' w' from fun W' hb => by rw [hq0]; exact res_own _ W' (HR.o.below (HBw.o W' hb)))
    have W1 := hd (show ∀ W', Below W.heap.size W W' → Calls Tryd.prog 8 #[.slice nA l.length nc] W' fun e w' => (∃ v m, e = .returned v ∧ w'.ownsRow W'.heap.size 5 1 v m (cellsB q1)) ∧ Below W'.heap.size W' w' from fun W' hb => by rw [hq1]; exact names_own l nA l.length nc W' (HNL.o.below (HBw.o W' hb)) HNS.o hn)
    have W2 := hd (show ∀ W', Below W.heap.size W W' → Calls Tryd.prog 9 #[.int .i64 st, .int .i64 st, .int .i64 st] W' fun e w' => (∃ v m, e = .returned v ∧ w'.ownsRow W'.heap.size 5 1 v m (cellsB q2)) ∧ Below W'.heap.size W' w' from fun W' hb => by rw [hq2]; exact failure_own st st st W' hst0 hst1 hst0 hst1 (fun W'' h => HP.o W'' ((HBw.o W' hb).trans (h.mono (HBw.o W' hb).size))))
    have E0 := hd (show RJ.Enc 16 q0 _ by rw [hq0]; exact enc_res _ HR.o)
    have E1 := hd (show RJ.Enc 16 q1 _ by rw [hq1]; exact enc_names l (by omega) (fun s h => by have := HNS.o s h; omega))
    have E2 := hd (show RJ.Enc 16 q2 _ by rw [hq2]; exact enc_fail st st st hst0 hst1 hst0 hst1)
    have Q0 := hd (show q0.length ≤ 70368744177664 by rw [hq0]; exact RS.bytes_le HR.o)
    have Q1 := hd (show q1.length ≤ 70368744177664 by rw [hq1]; exact R.names_le HNS.o hn)
    have Q2 := hd (show q2.length ≤ 70368744177664 by rw [hq2]; have := T.ans_len2 st st st hst0 hst1 hst0 hst1; omega)
    unfold RS.Res.val RS.Res.cells at W0
    clear hbig HPA HK hq0 hq1 hq2 HR HP HL
    go_wp2_with (first
      | (go_at_call 7; refine (W0.o _ HB3.o).mono ?_; rintro e wl0 ⟨⟨v, m, rfl, h⟩, hb⟩; obtain ⟨A0, c0', rfl, hc, hI⟩ := own_sl h; have I0 := hd hI; have C0 := hd hc; have HL0 := hd (bel HB3.o hb); clear h hb hI hc)
      | (go_at_call 6; with_reducible refine (jread_any q0 _ E0.o A0 c0' I0.o C0.o (by have := Q0.o; omega)).mono ?_; rintro e wr0 ⟨k0, s0, B0, n0, m0, D0, p0, o0, rfl, hj, hb⟩; have J0 := hd hj; have HR0 := hd (bel HL0.o hb); have LR0 := hd hb; clear hb hj)
      | (go_at_call 8; refine (W1.o _ (show Below W.heap.size W _ from HR0.o.alloc HR0.o.size _)).mono ?_; rintro e wl1 ⟨⟨v, m, rfl, h⟩, hb⟩; obtain ⟨A1, c1', rfl, hc, hI⟩ := own_sl h; have I1 := hd hI; have C1 := hd hc; have HL1 := hd (bel (show Below W.heap.size W _ from HR0.o.alloc HR0.o.size _) hb); clear h hb hI hc)
      | (go_at_call 6; with_reducible refine (jread_any q1 _ E1.o A1 c1' I1.o C1.o (by have := Q1.o; omega)).mono ?_; rintro e wr1 ⟨k1, s1, B1, n1, m1, D1, p1, o1, rfl, hj, hb⟩; have J1 := hd hj; have HR1 := hd (bel HL1.o hb); have LR1 := hd hb; have M1 := hd ((Below.refl wr1.heap.size wr1).alloc (Nat.le_refl _) (.cells #[.int .i64 k1, .string s1, .slice B1 n1 m1, .slice D1 p1 o1] 32)); have KB := hd (RJ.mk_bk wr1 (.int .i64 k1) (.string s1) (.slice B1 n1 m1) (.slice D1 p1 o1)); clear hb hj)
      | (go_at_call 9; refine (W2.o _ (show Below W.heap.size W _ from HR1.o.alloc HR1.o.size _)).mono ?_; rintro e wl2 ⟨⟨v, m, rfl, h⟩, hb⟩; obtain ⟨A2, c2', rfl, hc, hI⟩ := own_sl h; have I2 := hd hI; have C2 := hd hc; have HL2 := hd (bel (show Below W.heap.size W _ from HR1.o.alloc HR1.o.size _) hb); replace M1 := hd (bel M1.o hb); replace KB := hd (KB.o.below hb); clear h hb hI hc)
      | (go_at_call 6; with_reducible refine (jread_any q2 _ E2.o A2 c2' I2.o C2.o (by have := Q2.o; omega)).mono ?_; rintro e wr2 ⟨k2, s2, B2, n2, m2, D2, p2, o2, rfl, hj, hb⟩; have J2 := hd hj; have HR2 := hd (bel HL2.o hb); have LR2 := hd hb; replace M1 := hd ((bel M1.o hb).alloc (bel M1.o hb).size (.cells #[.int .i64 k2, .string s2, .slice B2 n2 m2, .slice D2 p2 o2] 32)); replace KB := hd ((KB.o.below hb).below ((Below.refl wr2.heap.size wr2).alloc (Nat.le_refl _) (.cells #[.int .i64 k2, .string s2, .slice B2 n2 m2, .slice D2 p2 o2] 32))); obtain rfl : p2 = 3 := RJ.obj_len hj; obtain ⟨rfl, g, A9, m9, rfl, _, h7, h8⟩ := RJ.nm_cells J1.o; have d7 := h7 _ (fun k hk => M1.o.block k hk.2); have H7 := hd h7; have H8 := hd h8; have d3 := KB.o.cell 3 (by simp); simp only [List.getElem_cons_succ, List.getElem_cons_zero] at d3; clear h7 h8; clear hb hj))
    obtain ⟨wf, hwf⟩ : ∃ wf, wf = wr2.alloc (.cells #[.int .i64 k2, .string s2, .slice B2 n2 m2, .slice D2 3 o2] 32) := ⟨_, rfl⟩
    have HBF := hd (show Below W.heap.size W wf by rw [hwf]; exact HR2.o.alloc HR2.o.size _)
    rw [← hwf] at M1 KB ⊢
    clear hwf d7 d3
    go_loopw [78] (fun x wr => ∃ i : Nat, i ≤ l.length ∧ x = .int .i64 i ∧ Hd (Below wf.heap.size wf wr)) (fun x _ => l.length - (intOf x).toNat)
    case atStart => exact ⟨0, Nat.zero_le _, rfl, hd (Below.refl _ _)⟩
    case round =>
      obtain ⟨i, hi, rfl, HBL⟩ := hrel
      by_cases hlt : i < l.length
      · have hltI : (i : Int) < (l.length : Int) := by omega
        obtain ⟨_, A', c', eA', hrd⟩ := HNL.o
        obtain ⟨b, off, rfl, hbb, hcell⟩ := hrd.head (by rw [cellsS, List.length_map]; omega)
        simp only [Value.slice.injEq, true_and] at eA'
        obtain ⟨rfl, rfl⟩ := eA'
        have hc0 := hcell i (by rw [cellsS, List.length_map]; exact hlt)
        have HBWR := hd (bel HBF.o HBL.o)
        have dn := ((HBw.o _ HBWR.o).cell (p := ⟨b, off + i, none⟩) hbb).trans hc0
        simp only [cellsS, List.getElem_map] at dn
        have MW := hd (bel M1.o HBL.o)
        have hsz := HNS.o _ (List.getElem_mem hlt)
        obtain ⟨g2, rfl, _, h9⟩ := H8.o i hlt
        by_cases hv : U.valid l[i] = true
        · have HV := hd hv
          have HFX := hd (RJ.fx_self hv)
          have H9 := hd h9
          clear hcell hc0 h9 hv
          generalize l[i] = s at *
          go_wp2_with (go_at_call 10; refine (refValid_any _ _ (by omega)).mono ?_; rintro e w8 ⟨rfl, hb8⟩; rw [HV.o]; have MX := hd (bel MW.o hb8); have HBX8 := hd (bel HBL.o hb8); have d7 := H7.o w8 (fun k hk => MX.o.block k hk.2); have d9 := H9.o w8 (fun k hk => MX.o.block k hk.2); rw [HFX.o] at d9; have d3 := (KB.o.below HBX8.o).cell 3 (by simp); simp only [List.getElem_cons_succ, List.getElem_cons_zero] at d3; clear hb8)
          go_roundw
          case rel => exact ⟨i + 1, by omega, by go_num, HBX8⟩
          case measure => simp [intOf]; omega
        · have hv2 : U.valid l[i] = false := by simpa using hv
          have HV := hd hv2
          clear hcell hc0 h9 hv hv2
          generalize l[i] = s at *
          go_wp2_with (go_at_call 10; refine (refValid_any _ _ (by omega)).mono ?_; rintro e w8 ⟨rfl, hb8⟩; rw [HV.o]; have HBX8 := hd (bel HBL.o hb8); clear hb8)
          go_roundw
          case rel => exact ⟨i + 1, by omega, by go_num, HBX8⟩
          case measure => simp [intOf]; omega
      · obtain rfl : i = l.length := by omega
        go_wp2
        go_ret
        exact ⟨rfl, HBw.o _ (bel HBF.o HBL.o)⟩
  · have hb : (1048576 : Int) < (n : Int) := by omega
    go_wp2_with (refine (rawake_any _).mono ?_; rintro e w4 ⟨rfl, hb4⟩; have HB4 := hd (bel HB3.o hb4); clear hb4)
    go_ret
    exact ⟨rfl, HBw.o _ HB4.o⟩
end Go.Proofs.YtcbggkdginfakaaDoor
