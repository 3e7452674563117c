/- RenderResults: the law's walk. -/
import Derived.Test.YtibmgmgdbicdlaaGreatDoorRRRef
import Derived.Test.YtibmgmgdbicdlaaGreatDoorRRC
import Derived.Test.YtibmgmgdbicdlaaGreatDoorRNamesW
namespace Go.Proofs.YtibmgmgdbicdlaaGreatDoor
open Go.RowKit Go.ChangeShapes Go.WideShapes Go.Deep
set_option linter.unusedVariables false
set_option linter.unusedSimpArgs false
theorem RS.Res.Lo.below {w w' : World} {r : RS.Res} (h : r.Lo w) (hb : Below w.heap.size w w') : r.Lo w' := by
  refine ⟨fun i hi => ?_, fun i hi => ?_, h.nE, h.nS, h.lE, h.lS⟩
  · obtain ⟨b, off, e, hl, h1, h2⟩ := h.E i hi
    exact ⟨b, off, e, Nat.lt_of_lt_of_le hl hb.size, (hb.cell (p := ⟨b, off + i * 2, none⟩) hl).trans h1, (hb.cell (p := ⟨b, off + i * 2 + 1, none⟩) hl).trans h2⟩
  · obtain ⟨b, off, e, hl, h1, h2⟩ := h.S i hi
    exact ⟨b, off, e, Nat.lt_of_lt_of_le hl hb.size, (hb.cell (p := ⟨b, off + i * 2, none⟩) hl).trans h1, (hb.cell (p := ⟨b, off + i * 2 + 1, none⟩) hl).trans h2⟩
set_option maxRecDepth 100000 in
set_option maxHeartbeats 2000000 in
theorem rres_walk (r : RS.Res) (w : World) (hL : r.Lo w) (hOk : RS.tot r ≤ 1048576 → r.Ok w) (hT : Tbl w) :
    Calls Tryz.prog 10 #[r.val] w fun e w' => e = .returned (.bool true) ∧ Below w.heap.size w w' := by
  obtain ⟨W, hW⟩ : ∃ W, W = w.alloc (.cells r.cells.toArray 59) := ⟨_, rfl⟩
  have HBW : Hd (Below w.heap.size w W) := hd (by rw [hW]; exact (Below.refl _ _).alloc (Nat.le_refl _) _)
  have hWz : W.heap.size = w.heap.size + 1 := by rw [hW]; simp
  have HBX : Hd (∀ W', Below W.heap.size W W' → ∀ j (hj : j < 6), W'.cell? ⟨w.heap.size, j, none⟩ = some (r.cells[j]'hj)) := hd fun W' h j hj => by
    rw [h.cell (p := ⟨w.heap.size, j, none⟩) (show w.heap.size < W.heap.size by omega), hW, World.cell?_alloc_mark, ← Array.getElem?_toList, List.getElem?_eq_getElem hj]
  have HL := hd hL
  have HT := hd hT
  have HK := hd hOk
  obtain ⟨q, hq⟩ : ∃ q, q = RS.bytes r := ⟨_, rfl⟩
  have HQ := hd hq
  have HKL := hd RS.k_lit
  clear hL hT hOk hq
  have HV : Hd (r.val = r.val) := hd rfl
  obtain ⟨ty, t, v, tx, eA, ec, E, sA, sc, S⟩ := r
  unfold RS.Res.val at HV ⊢
  unfold RS.Res.cells at HBX HV hW ⊢
  go_enter Tryz.func10, Tryz.ntmps10
  go_wp2_with fail
  rw [← hW]
  clear hW
  refine (rawake_any _).mono ?_
  rintro e w1 ⟨rfl, hb1⟩
  have HB1 := hd hb1
  clear hb1
  go_wp2_with fail
  refine (res_any RS.lit _ (RS.lit_ok _ (HT.o.below (HBW.o.trans (HB1.o.mono (by omega)))))).mono ?_
  rintro e w2 ⟨⟨v2, m2, rfl, h2⟩, hb2⟩
  rw [HKL.o] at h2
  have hcv := conv_isL h2
  unfold RS.aw at hcv
  have HB2 := hd (bel HB1.o hb2)
  clear hb2 h2
  have b0 := HBX.o w2 HB2.o 0 (by decide)
  have b1 := HBX.o w2 HB2.o 1 (by decide)
  have b2 := HBX.o w2 HB2.o 2 (by decide)
  have b3 := HBX.o w2 HB2.o 3 (by decide)
  have b4 := HBX.o w2 HB2.o 4 (by decide)
  have b5 := HBX.o w2 HB2.o 5 (by decide)
  simp only [List.getElem_cons_zero, List.getElem_cons_succ] at b0 b1 b2 b3 b4 b5
  go_wp2_with fail
  refine (rparts_any 1048576 (Nat.le_refl _) ⟨ty, t, v, tx, eA, ec, E, sA, sc, S⟩ _ (HL.o.below (HBW.o.trans (HB2.o.mono (by omega))))).mono ?_
  rintro e w3 ⟨⟨n, rfl, hpa⟩, hb3⟩
  have HPA := hd hpa
  have HB3 := hd (bel HB2.o hb3)
  clear hb3 hpa b0 b1 b2 b3 b4 b5 hcv
  have HBZ : Hd (∀ W', Below W.heap.size W W' → W'.cell? ⟨w.heap.size, 0, none⟩ = some (.int .i64 ty) ∧ W'.cell? ⟨w.heap.size, 1, none⟩ = some (.int .i64 t) ∧ W'.cell? ⟨w.heap.size, 2, none⟩ = some (.float .f64 v) ∧ W'.cell? ⟨w.heap.size, 3, none⟩ = some (.string tx) ∧ W'.cell? ⟨w.heap.size, 4, none⟩ = some (.slice eA E.length ec) ∧ W'.cell? ⟨w.heap.size, 5, none⟩ = some (.slice sA S.length sc)) := hd fun W' hb => ⟨HBX.o W' hb 0 (by decide), HBX.o W' hb 1 (by decide), HBX.o W' hb 2 (by decide), HBX.o W' hb 3 (by decide), HBX.o W' hb 4 (by decide), HBX.o W' hb 5 (by decide)⟩
  by_cases hbig : n ≤ 1048576
  · have hb : ¬ (1048576 : Int) < (n : Int) := by omega
    have HR := hd (HK.o (by rw [← HPA.o hbig]; exact hbig))
    have HBw : Hd (∀ W', Below W.heap.size W W' → Below w.heap.size w W') := hd fun W' hb => HBW.o.trans (hb.mono (by omega))
    obtain ⟨b0, b1, b2, b3, b4, b5⟩ := HBZ.o w3 HB3.o
    clear HBX HPA HK hbig
    go_wp2_with fail
    have HB3D := hd (show Below W.heap.size W w3.drew from (HB3.o.drew))
    go_region_law (first
      | (go_simp; go_at_call 39; refine (res_any ⟨ty, t, v, tx, eA, ec, E, sA, sc, S⟩ _ (HR.o.below (HBw.o _ (by first | exact HBR.o | exact HB3D.o)))).mono ?_; rintro e w4 ⟨⟨v4, m4, rfl, h4⟩, hb4⟩; rw [← HQ.o] at h4; have HN := hd h4; have hcv4 := conv_isL h4; have HBN := hd (bel (show Below W.heap.size W _ by first | exact HBR.o | exact HB3D.o) hb4); (try have hcv5 := conv_isL (HRR.o.below hb4)); (obtain ⟨x0, x1, x2, x3, x4, x5⟩ := HBZ.o _ HBN.o); clear hb4 h4)
      | (go_simp; go_at_call 41; refine (refres_any ⟨ty, t, v, tx, eA, ec, E, sA, sc, S⟩ _ (HR.o.below (HBw.o _ (by first | exact HBN.o | exact HB3D.o)))).mono ?_; rintro e w5 ⟨⟨v5, m5, rfl, h5⟩, hb5⟩; rw [← HQ.o] at h5; have HRR := hd h5; have hcv6 := conv_isL h5; have HBR := hd (bel (show Below W.heap.size W _ by first | exact HBN.o | exact HB3D.o) hb5); (try have hcv7 := conv_isL (HN.o.below hb5)); (obtain ⟨y0, y1, y2, y3, y4, y5⟩ := HBZ.o _ HBR.o); clear hb5 h5))
    all_goals go_wp2
    all_goals go_ret
    all_goals exact ⟨rfl, HBw.o _ HBR.o⟩
  · have hb : (1048576 : Int) < (n : Int) := by omega
    go_wp2
    go_ret
    exact ⟨rfl, HBW.o.trans (HB3.o.mono (by omega))⟩
end Go.Proofs.YtibmgmgdbicdlaaGreatDoor
