/- weirref29.Result. -/
import Derived.Test.YtcbggkdginfakaaGreatDoorRRA
import Derived.Lib.SlBytesConst
import Derived.Deep.RegionLaw
import Derived.Deep.AppendLies
namespace Go.Proofs.YtcbggkdginfakaaGreatDoor
open Go.RowKit
set_option linter.unusedVariables false
set_option linter.unusedSimpArgs false
theorem isL_litm (w : World) (C : Array Value) (e : TypeId) (fz : Nat × Nat) (xs : List Value) (n : Nat) (hn : xs.length = n) (hC : C.toList = xs) : IsL 1 (w.alloc (.cells C e fz)) (.slice (some ⟨w.heap.size, 0, none⟩) n n) n xs := by
  refine ⟨by omega, _, _, rfl, fun k hk => ⟨_, _, rfl, ?_⟩⟩
  rw [Nat.zero_add, World.cell?_alloc_mark, ← Array.getElem?_toList, hC, List.getElem?_eq_getElem hk]
theorem step_app_litR {P : Program} {ops : Array Oper} {o : Oper} {a : Act} {K : Act → World → Prop} {Q : Exit → Act → World → Prop} {F : Prop} (t e : TypeId) (z : Value) (size bytes : Nat) (ht : P.underlying t = some (.slice e)) (hinfo : (P.info? e).map (fun i => (i.zero, i.size, i.bytes)) = some (some z, size, bytes)) (hzs : z.cells.size = size) (hsz : 0 < size)
    (hgd : o.guard = none) (s x : Operand) (ho : o.op = .call { callee := .builtin .append, args := #[s, x], argTypes := #[t, t] })
    (B : Nat) (v : Value) (n : Nat) (xs : List Value) (W : World) (C : Array Value) (m : Nat) (hs : a.eval s = v) (hx : a.eval x = .slice (some ⟨W.heap.size, 0, none⟩) m m)
    (hown : W.ownsRow B e size v n xs) (hC : C.size = m * size) (h1 : ∀ u ∈ C.toList, u.oneCell' = true) (hm : 0 < m) (hb : (n + m) * bytes ≤ 140737488355328) (hn : n + m ≤ 140737488355328) (hB : B ≤ W.heap.size)
    (h : ∀ g cap w', w'.ownsRow B e size (.slice (some ⟨g, 0, none⟩) (n + m) cap) (n + m) (xs ++ C.toList) → W.grownBy w' v.ownBlock → K (a.put o.dst (.slice (some ⟨g, 0, none⟩) (n + m) cap)) w') :
    if Region.wanted o (yielded ops a.tmps) = true then Oper.wp P o a (W.alloc (.cells C e)) K Q else F := by
  obtain ⟨i, hi, hz0, hz1, hz2⟩ := info_parts hinfo
  refine step_append_lies _ hgd s x t ho B e i z size bytes ht hi hz0 hz1 hz2 hzs hsz v n xs hs (hown.alloc _) ⟨W.heap.size, 0, none⟩ m m C.toList hx (by simpa using hC) ?_ h1 hm (by unfold maxLen; omega) hb (by simp; omega) _ rfl fun g cap w' h2 h3 _ _ => h g cap w' h2 (grown_of_alloc h3)
  intro j u hj
  rw [add_plain, Nat.zero_add, World.cell?_alloc_mark]
  simpa using hj
@[go_sem] theorem run_store_floatR {P : Program} {w : World} {a : Addr} {m : Mode} (k : FloatKind) (b : Nat) : (store a (.float k b) m).run P w = stored P w a (.float k b) m := run_store P w a _ m rfl
def RS.nullA : Array Value := (cellsB RS.null).toArray
theorem datas_any (name body : List UInt8) (s : ByteArray) (hs : s.data.toList = body) (hn : name.length ≤ 20) (hb : body.length ≤ 35184372088832) (w : World) :
    Calls Tryz.prog 50 #[.string ⟨name.toArray⟩, .string s] w fun e' w' => (∃ v m, e' = .returned v ∧ IsL 1 w' v m (cellsB (RS.whole name body))) ∧ Below w.heap.size w w' := by
  have : s = ⟨body.toArray⟩ := by subst hs; rfl
  rw [this]
  exact data_any name body hn hb w
set_option maxRecDepth 100000 in
set_option maxHeartbeats 2000000 in
theorem refres1_any (r : RS.Res) (w : World) (hk : r.Ok w) (ht : r.ty = 1) :
    Calls Tryz.prog 13 #[r.val] w fun e w' => (∃ v m, e = .returned v ∧ IsL 1 w' v m (cellsB (RS.bytes r))) ∧ Below w.heap.size w w' := by
  obtain ⟨W, hW⟩ : ∃ W, W = w.alloc (.cells r.cells.toArray 26) := ⟨_, rfl⟩
  have HBW : Hd (Below w.heap.size w W) := hd (by rw [hW]; exact (Below.refl _ _).alloc (Nat.le_refl _) _)
  have hWz : W.heap.size = w.heap.size + 1 := by rw [hW]; simp
  have HK := hd (hk.below HBW.o)
  have HBX : Hd (∀ W', Below W.heap.size W W' → ∀ j (hj : j < 6), W'.cell? ⟨w.heap.size, j, none⟩ = some (r.cells[j]'hj)) := hd fun W' h j hj => by
    rw [h.cell (p := ⟨w.heap.size, j, none⟩) (show w.heap.size < W.heap.size by omega), hW, World.cell?_alloc_mark, ← Array.getElem?_toList, List.getElem?_eq_getElem hj]
  clear hk
  obtain ⟨ty, t, v, tx, eA, ec, E, sA, sc, S⟩ := r
  simp only at ht HK
  subst ht
  have HA : Hd (RS.bytes ⟨1, t, v, tx, eA, ec, E, sA, sc, S⟩ = RS.whole RS.nScalar (RS.pt t v)) := hd (by unfold RS.bytes; simp)
  rw [HA.o]
  clear HA
  unfold RS.Res.val
  unfold RS.Res.cells at HBX hW ⊢
  have b0 := HBX.o W (Below.refl _ _) 0 (by decide)
  have b1 := HBX.o W (Below.refl _ _) 1 (by decide)
  have b2 := HBX.o W (Below.refl _ _) 2 (by decide)
  have b3 := HBX.o W (Below.refl _ _) 3 (by decide)
  have b4 := HBX.o W (Below.refl _ _) 4 (by decide)
  have b5 := HBX.o W (Below.refl _ _) 5 (by decide)
  simp only [List.getElem_cons_zero, List.getElem_cons_succ] at b0 b1 b2 b3 b4 b5
  go_enter Tryz.func13, Tryz.ntmps13
  go_wp2_with (rw [← hW]; clear hW)
  refine (refpoint_any t v HK.o.t0 HK.o.t1 HK.o.v _).mono ?_
  rintro e' w2 ⟨rfl, h2⟩
  have H2 := hd h2
  clear h2
  go_wp2_with fail
  refine (data_any RS.nScalar (RS.pt t v) (by decide) (by have := RS.pt_len t v HK.o.t0 HK.o.t1; omega) _).mono ?_
  rintro e' w9 ⟨⟨v9, m9, rfl, h9⟩, hb9⟩
  have HQ := hd h9
  have HB9 := hd (HBW.o.trans ((bel H2.o hb9).mono (by omega)))
  clear h9 hb9
  go_wp2
  go_ret
  exact ⟨⟨_, _, rfl, HQ.o⟩, HB9.o⟩
set_option maxRecDepth 100000 in
set_option maxHeartbeats 2000000 in
theorem refres2_any (r : RS.Res) (w : World) (hk : r.Ok w) (ht : r.ty = 2) :
    Calls Tryz.prog 13 #[r.val] w fun e w' => (∃ v m, e = .returned v ∧ IsL 1 w' v m (cellsB (RS.bytes r))) ∧ Below w.heap.size w w' := by
  obtain ⟨W, hW⟩ : ∃ W, W = w.alloc (.cells r.cells.toArray 26) := ⟨_, rfl⟩
  have HBW : Hd (Below w.heap.size w W) := hd (by rw [hW]; exact (Below.refl _ _).alloc (Nat.le_refl _) _)
  have hWz : W.heap.size = w.heap.size + 1 := by rw [hW]; simp
  have HK := hd (hk.below HBW.o)
  have HBX : Hd (∀ W', Below W.heap.size W W' → ∀ j (hj : j < 6), W'.cell? ⟨w.heap.size, j, none⟩ = some (r.cells[j]'hj)) := hd fun W' h j hj => by
    rw [h.cell (p := ⟨w.heap.size, j, none⟩) (show w.heap.size < W.heap.size by omega), hW, World.cell?_alloc_mark, ← Array.getElem?_toList, List.getElem?_eq_getElem hj]
  clear hk
  obtain ⟨ty, t, v, tx, eA, ec, E, sA, sc, S⟩ := r
  simp only at ht HK
  subst ht
  have HA : Hd (RS.bytes ⟨2, t, v, tx, eA, ec, E, sA, sc, S⟩ = RS.whole RS.nString ((91 :: (T.sec t ++ 44 :: (R.t tx ++ [93]))))) := hd (by unfold RS.bytes; simp)
  rw [HA.o]
  clear HA
  unfold RS.Res.val
  unfold RS.Res.cells at HBX hW ⊢
  have b0 := HBX.o W (Below.refl _ _) 0 (by decide)
  have b1 := HBX.o W (Below.refl _ _) 1 (by decide)
  have b2 := HBX.o W (Below.refl _ _) 2 (by decide)
  have b3 := HBX.o W (Below.refl _ _) 3 (by decide)
  have b4 := HBX.o W (Below.refl _ _) 4 (by decide)
  have b5 := HBX.o W (Below.refl _ _) 5 (by decide)
  simp only [List.getElem_cons_zero, List.getElem_cons_succ] at b0 b1 b2 b3 b4 b5
  go_enter Tryz.func13, Tryz.ntmps13
  go_wp2_with (rw [← hW]; clear hW)
  have HSL : Hd ((91 :: (T.sec t ++ 44 :: (R.t tx ++ [93]))).length ≤ 35184372088832) := hd (by have := T.sec_len t HK.o.t0 HK.o.t1; have := R.t_len tx; have : tx.size ≤ 1048576 := HK.o.tx; simp only [List.length_cons, List.length_append, List.length_nil]; omega)
  have hsl := T.sec_len t HK.o.t0 HK.o.t1
  have htl := R.t_len tx
  have htx : tx.size ≤ 1048576 := HK.o.tx
  have c00 : ¬ 9223372036854775807 < 1 + (T.sec t).length := by omega
  have c01 : ¬ 9223372036854775807 < 1 + (T.sec t).length + 1 := by omega
  have c1 : ¬ 9223372036854775807 < 1 + (T.sec t).length + 1 + (R.t tx).length := by omega
  have c2 : ¬ 9223372036854775807 < 1 + (T.sec t).length + 1 + (R.t tx).length + 1 := by omega
  have HC : Hd ((⟨#[91]⟩ ++ ⟨(T.sec t).toArray⟩ ++ ⟨#[44]⟩ ++ ⟨(R.t tx).toArray⟩ ++ ⟨#[93]⟩ : ByteArray).data.toList = 91 :: (T.sec t ++ 44 :: (R.t tx ++ [93]))) := hd (by simp [ByteArray.data_append])
  have HD := hd (fun W' (hb : Below W.heap.size W W') => And.intro (HBX.o W' hb 1 (by decide)) (HBX.o W' hb 3 (by decide)))
  have HSEC := hd (rsec_any t HK.o.t0 HK.o.t1)
  have HTX := hd (fun W' => reftext_any tx W' HK.o.tx)
  clear hsl htl htx HBX b0 b2 b4 b5
  go_region_law (first
    | (go_simp; go_at_call 52; refine (HSEC.o _).mono ?_; rintro e' w3 ⟨rfl, hb3⟩; have HB3 := hd (bel (show Below W.heap.size W _ by first | exact HB4.o | exact (Below.refl W.heap.size W).drew) hb3); (try (obtain ⟨x1, x3⟩ := HD.o _ HB3.o; simp only [List.getElem_cons_zero, List.getElem_cons_succ] at x1 x3)); clear hb3)
    | (go_simp; go_at_call 53; refine (HTX.o _).mono ?_; rintro e' w4 ⟨rfl, hb4⟩; have HB4 := hd (bel (show Below W.heap.size W _ by first | exact HB3.o | exact (Below.refl W.heap.size W).drew) hb4); (try (obtain ⟨y1, y3⟩ := HD.o _ HB4.o; simp only [List.getElem_cons_zero, List.getElem_cons_succ] at y1 y3)); clear hb4)
    | (go_simp; go_at_call 50; refine (datas_any RS.nString _ _ HC.o (by decide) HSL.o _).mono ?_; rintro e' w9 ⟨⟨v9, m9, rfl, h9⟩, hb9⟩; have HQ := hd h9; have HB9 : Hd (Below w.heap.size w w9) := hd (HBW.o.trans ((bel (show Below W.heap.size W _ by first | exact HB3.o | exact HB4.o) hb9).mono (by omega))); clear h9 hb9))
  all_goals go_wp2
  all_goals go_ret
  all_goals exact ⟨⟨v9, m9, rfl, HQ.o⟩, HB9.o⟩
set_option maxRecDepth 100000 in
set_option maxHeartbeats 2000000 in
theorem refres3_any (r : RS.Res) (w : World) (hk : r.Ok w) (ht : r.ty = 3) :
    Calls Tryz.prog 13 #[r.val] w fun e w' => (∃ v m, e = .returned v ∧ IsL 1 w' v m (cellsB (RS.bytes r))) ∧ Below w.heap.size w w' := by
  obtain ⟨W, hW⟩ : ∃ W, W = w.alloc (.cells r.cells.toArray 26) := ⟨_, rfl⟩
  have HBW : Hd (Below w.heap.size w W) := hd (by rw [hW]; exact (Below.refl _ _).alloc (Nat.le_refl _) _)
  have hWz : W.heap.size = w.heap.size + 1 := by rw [hW]; simp
  have HK := hd (hk.below HBW.o)
  have HBX : Hd (∀ W', Below W.heap.size W W' → ∀ j (hj : j < 6), W'.cell? ⟨w.heap.size, j, none⟩ = some (r.cells[j]'hj)) := hd fun W' h j hj => by
    rw [h.cell (p := ⟨w.heap.size, j, none⟩) (show w.heap.size < W.heap.size by omega), hW, World.cell?_alloc_mark, ← Array.getElem?_toList, List.getElem?_eq_getElem hj]
  clear hk
  obtain ⟨ty, t, v, tx, eA, ec, E, sA, sc, S⟩ := r
  simp only at ht HK
  subst ht
  have HA : Hd (RS.bytes ⟨3, t, v, tx, eA, ec, E, sA, sc, S⟩ = RS.whole RS.nVector (R.lst (E.map (RS.el t)))) := hd (by unfold RS.bytes; simp)
  rw [HA.o]
  clear HA
  unfold RS.Res.val
  unfold RS.Res.cells at HBX hW ⊢
  have b0 := HBX.o W (Below.refl _ _) 0 (by decide)
  have b1 := HBX.o W (Below.refl _ _) 1 (by decide)
  have b2 := HBX.o W (Below.refl _ _) 2 (by decide)
  have b3 := HBX.o W (Below.refl _ _) 3 (by decide)
  have b4 := HBX.o W (Below.refl _ _) 4 (by decide)
  have b5 := HBX.o W (Below.refl _ _) 5 (by decide)
  simp only [List.getElem_cons_zero, List.getElem_cons_succ] at b0 b1 b2 b3 b4 b5
  go_enter Tryz.func13, Tryz.ntmps13
  go_wp2_with (rw [← hW]; clear hW)
  obtain ⟨n, hn⟩ : ∃ n, n = E.length := ⟨_, rfl⟩
  obtain ⟨ys, hys⟩ : ∃ ys, ys = (E.map (RS.el t)).map R.bt := ⟨_, rfl⟩
  have HY := hd hys
  have HYL : Hd (ys.length = n) := hd (by rw [HY.o, List.length_map, List.length_map, hn])
  have HN := hd hn
  have hn2 : n ≤ 1048576 := by rw [hn]; exact HK.o.nE
  rw [← hn] at b4 ⊢
  clear hys hn
  go_loopw [3, 40] (fun v x w2 => ∃ (k : Nat), k ≤ n ∧ x = .int .i64 k ∧ Hd (w2.ownsRow W.heap.size 9 1 v k (cellsS (ys.take k))) ∧ Hd (Below W.heap.size W w2)) (fun _ x _ => n - (intOf x).toNat)
  case atStart => exact ⟨0, Nat.zero_le _, rfl, hd ⟨rfl, .inl ⟨rfl, rfl⟩⟩, hd (Below.refl _ _)⟩
  case round =>
    clear b0 b1 b2 b3 b4 b5
    obtain ⟨k, hk, rfl, HO, HB⟩ := hrel
    have x1 := HBX.o wr HB.o 1 (by decide)
    have x4 := HBX.o wr HB.o 4 (by decide)
    simp only [List.getElem_cons_zero, List.getElem_cons_succ] at x1 x4
    by_cases hlt : k < n
    · have hkx : k < E.length := by rw [← HN.o]; exact hlt
      obtain ⟨b, off, rfl, hbl, q0, q1, hL, hS, hf⟩ := HK.o.E.at_ k hkx
      have hw : E[k].l.length + 1 ≤ RS.wt RS.gE E := RS.wt_mem RS.gE E E[k] (List.getElem_mem hkx)
      have hw2 : RS.wt RS.gE E ≤ 1048576 := HK.o.wE
      have hln : E[k].l.length ≤ 1048576 := by omega
      have d0 := (HB.o.cell (p := ⟨b, off + k * 2, none⟩) hbl).trans q0
      have d1 := (HB.o.cell (p := ⟨b, off + k * 2 + 1, none⟩) hbl).trans q1
      have hst := R.st_len E[k].l hS
      have hpt := RS.pt_len t E[k].f HK.o.t0 HK.o.t1
      have HKK : Hd (cellsS (ys.take (k + 1)) = cellsS (ys.take k) ++ [.string ⟨(RS.el t E[k]).toArray⟩]) := hd (by rw [strS ys k (by rw [HYL.o]; exact hlt)]; simp [HY.o, R.bt])
      have HEL : Hd (RS.el t E[k] = RS.kMetric ++ R.st E[k].l ++ RS.kValue ++ RS.pt t E[k].f ++ [125]) := hd rfl
      rw [HEL.o] at HKK
      have HLL := hd hL
      have HSS := hd hS
      have HFF := hd hf
      have H0 := hd HK.o.t0
      have H1 := hd HK.o.t1
      clear q0 q1 hL hS hf hw hw2 HEL
      unfold RS.El.sl at d0 HLL
      generalize E[k]'hkx = x at *
      obtain ⟨xA, xc, xl, xf⟩ := x
      simp only at d0 d1 HLL HSS HFF HKK hst hpt hln
      have g1 : (R.st xl).length ≤ 14000000000000 := by omega
      have c1 : ¬ 9223372036854775807 < 10 + (R.st xl).length := by omega
      have c2 : ¬ 9223372036854775807 < 10 + (R.st xl).length + 9 := by omega
      have c3 : ¬ 9223372036854775807 < 10 + (R.st xl).length + 9 + (RS.pt t xf).length := by omega
      have c4 : ¬ 9223372036854775807 < 10 + (R.st xl).length + 9 + (RS.pt t xf).length + 1 := by omega
      go_wp2_with fail
      obtain ⟨W1, hW1⟩ : ∃ W1, W1 = wr.alloc (.cells #[.slice xA xl.length xc, .float .f64 xf] 57) := ⟨_, rfl⟩
      have HB1 : Hd (Below wr.heap.size wr W1) := hd (by rw [hW1]; exact (Below.refl _ _).alloc (Nat.le_refl _) _)
      have z0 : W1.cell? ⟨wr.heap.size, 0, none⟩ = some (.slice xA xl.length xc) := by rw [hW1]; simp
      have z1 : W1.cell? ⟨wr.heap.size, 1, none⟩ = some (.float .f64 xf) := by rw [hW1]; simp
      have hz : wr.heap.size < W1.heap.size := by rw [hW1]; simp
      have y1 : W1.cell? ⟨w.heap.size, 1, none⟩ = some (.int .i64 t) := (HB1.o.cell (p := ⟨w.heap.size, 1, none⟩) (World.block_lt_of_cell? wr _ x1)).trans x1
      have HBB : Hd (Below W.heap.size W W1) := hd (bel HB.o HB1.o)
      have HOO := hd (own_below HO.o HB1.o)
      rw [← hW1]
      clear hW1
      have HY2 := hd (fun W' (hb : Below W1.heap.size W1 W') => And.intro ((hb.cell (p := ⟨w.heap.size, 1, none⟩) (World.block_lt_of_cell? W1 _ y1)).trans y1) ((hb.cell (p := ⟨wr.heap.size, 1, none⟩) hz).trans z1))
      have HSET := hd (fun W' (hb : Below W.heap.size W W') => refset_any xl _ xl.length W' (HLL.o.below hb) HSS.o hln)
      have HPT := hd (refpoint_any t xf H0.o H1.o HFF.o)
      have HDR := hd ((Below.refl W1.heap.size W1).drew)
      have HZW := hd HBB.o.size
      go_region_law (first
        | (refine step_app_litR 36 9 (.string ⟨#[]⟩) 1 16 Tryz.underlying36 info_str rfl (by decide) rfl _ _ rfl W.heap.size _ k (cellsS (ys.take k)) _ _ 1 rfl rfl (own_below HOO.o HB6.o) rfl (by simp [Value.oneCell']) (by decide) (by omega) (by omega) (Nat.le_trans HZW.o HB6.o.size) ?_; intro g7 cap7 w7 ho7 hg7)
        | (go_simp; go_at_call 54; refine (HSET.o _ (HBB.o.trans (HDR.o.mono HZW.o))).mono ?_; rintro e' w5 ⟨rfl, hb5⟩; have HB5 := hd (bel HDR.o hb5); (obtain ⟨p1, p2⟩ := HY2.o _ HB5.o); clear hb5)
        | (go_simp; go_at_call 51; refine (HPT.o _).mono ?_; rintro e' w6 ⟨rfl, hb6⟩; have HB6 := hd (bel HB5.o hb6); clear hb6))
      all_goals (
        have HO7 : Hd (w7.ownsRow W.heap.size 9 1 (.slice (some ⟨g7, 0, none⟩) (k + 1) cap7) (k + 1) (cellsS (ys.take (k + 1)))) := hd (by
          rw [HKK.o]
          have h := ho7
          have hc : (⟨#[123, 34, 109, 101, 116, 114, 105, 99, 34, 58]⟩ ++ ⟨(R.st xl).toArray⟩ ++ ⟨#[44, 34, 118, 97, 108, 117, 101, 34, 58]⟩ ++ ⟨(RS.pt t xf).toArray⟩ ++ ⟨#[125]⟩ : ByteArray) = ⟨(RS.kMetric ++ R.st xl ++ RS.kValue ++ RS.pt t xf ++ [125]).toArray⟩ := by apply ByteArray.ext; simp [ByteArray.data_append, RS.kMetric, RS.kValue]
          rw [← hc]
          exact h)
        have HB7 : Hd (Below W.heap.size W w7) := hd ((bel HBB.o HB6.o).grown hg7 (Nat.le_trans HZW.o HB6.o.size) (fun g hg => ((own_below HOO.o HB6.o).lt g hg).1))
        clear ho7 hg7
        go_simp
        go_wp2
        go_roundw
        case rel => exact ⟨k + 1, by omega, by go_num, HO7, HB7⟩
        case measure => simp [intOf]; omega)
    · have hkn : k = n := by omega
      subst hkn
      have h1 := IsL.own HO.o
      rw [List.take_of_length_le (by rw [HYL.o]; exact Nat.le_refl _)] at h1
      have HI := hd h1
      have HEB := hd HK.o.eB
      have HWE := hd HK.o.wE
      have HZB : Hd (∀ j, j ≤ k → R.sz (ys.take j) ≤ 35184405643264) := hd fun j hj => by
        rw [HY.o, List.map_map]
        have h2 := RS.sz_wt_take (RS.el t) RS.gE E HEB.o j
        have h3 := Nat.mul_le_mul_right 12582919 HWE.o
        exact Nat.le_trans h2 (Nat.le_trans h3 (by decide))
      have HJB : Hd (∀ j, j ≤ k → (R.jn ((ys.map fun x => x.data.toList).take j)).length ≤ 35184405643264) := hd fun j hj => by rw [HY.o, R.bt_map]; exact Nat.le_trans (HK.o.eJ j) (by decide)
      have HLE := hd (RS.lst_le HK.o.eJ)
      have HYB : Hd (ys.map (fun x => x.data.toList) = E.map (RS.el t)) := hd (by rw [HY.o, R.bt_map])
      clear h1
      go_wp2_with (first
        | (go_at_call 55; refine (reflist2_any u3 k ys _ HI.o hn2 HZB.o HJB.o).mono ?_; rintro e' w8 ⟨rfl, hb8⟩; rw [HYB.o]; have HB8 := hd (bel HB.o hb8); clear hb8)
        | (go_at_call 50; refine (data_any RS.nVector (R.lst (E.map (RS.el t))) (by decide) (Nat.le_trans HLE.o (by decide)) _).mono ?_; rintro e' w9 ⟨⟨v9, m9, rfl, h9⟩, hb9⟩; have HQ := hd h9; have HB9 := hd (HBW.o.trans ((bel HB8.o hb9).mono (by omega))); clear h9 hb9))
      go_ret
      exact ⟨⟨v9, m9, rfl, HQ.o⟩, HB9.o⟩
set_option maxRecDepth 100000 in
set_option maxHeartbeats 2000000 in
theorem refres4_any (r : RS.Res) (w : World) (hk : r.Ok w) (ht : r.ty = 4) :
    Calls Tryz.prog 13 #[r.val] w fun e w' => (∃ v m, e = .returned v ∧ IsL 1 w' v m (cellsB (RS.bytes r))) ∧ Below w.heap.size w w' := by
  obtain ⟨W, hW⟩ : ∃ W, W = w.alloc (.cells r.cells.toArray 26) := ⟨_, rfl⟩
  have HBW : Hd (Below w.heap.size w W) := hd (by rw [hW]; exact (Below.refl _ _).alloc (Nat.le_refl _) _)
  have hWz : W.heap.size = w.heap.size + 1 := by rw [hW]; simp
  have HK := hd (hk.below HBW.o)
  have HBX : Hd (∀ W', Below W.heap.size W W' → ∀ j (hj : j < 6), W'.cell? ⟨w.heap.size, j, none⟩ = some (r.cells[j]'hj)) := hd fun W' h j hj => by
    rw [h.cell (p := ⟨w.heap.size, j, none⟩) (show w.heap.size < W.heap.size by omega), hW, World.cell?_alloc_mark, ← Array.getElem?_toList, List.getElem?_eq_getElem hj]
  clear hk
  obtain ⟨ty, t, v, tx, eA, ec, E, sA, sc, S⟩ := r
  simp only at ht HK
  subst ht
  have HA : Hd (RS.bytes ⟨4, t, v, tx, eA, ec, E, sA, sc, S⟩ = RS.whole RS.nMatrix (R.lst (S.map RS.se))) := hd (by unfold RS.bytes; simp)
  rw [HA.o]
  clear HA
  unfold RS.Res.val
  unfold RS.Res.cells at HBX hW ⊢
  have b0 := HBX.o W (Below.refl _ _) 0 (by decide)
  have b1 := HBX.o W (Below.refl _ _) 1 (by decide)
  have b2 := HBX.o W (Below.refl _ _) 2 (by decide)
  have b3 := HBX.o W (Below.refl _ _) 3 (by decide)
  have b4 := HBX.o W (Below.refl _ _) 4 (by decide)
  have b5 := HBX.o W (Below.refl _ _) 5 (by decide)
  simp only [List.getElem_cons_zero, List.getElem_cons_succ] at b0 b1 b2 b3 b4 b5
  go_enter Tryz.func13, Tryz.ntmps13
  go_wp2_with (rw [← hW]; clear hW)
  obtain ⟨n, hn⟩ : ∃ n, n = S.length := ⟨_, rfl⟩
  obtain ⟨ys, hys⟩ : ∃ ys, ys = (S.map RS.se).map R.bt := ⟨_, rfl⟩
  have HY := hd hys
  have HYL : Hd (ys.length = n) := hd (by rw [HY.o, List.length_map, List.length_map, hn])
  have HN := hd hn
  have hn2 : n ≤ 1048576 := by rw [hn]; exact HK.o.nS
  rw [← hn] at b5 ⊢
  clear hys hn
  go_loopw [6, 68] (fun v x w2 => ∃ (k : Nat), k ≤ n ∧ x = .int .i64 k ∧ Hd (w2.ownsRow W.heap.size 9 1 v k (cellsS (ys.take k))) ∧ Hd (Below W.heap.size W w2)) (fun _ x _ => n - (intOf x).toNat)
  case atStart => exact ⟨0, Nat.zero_le _, rfl, hd ⟨rfl, .inl ⟨rfl, rfl⟩⟩, hd (Below.refl _ _)⟩
  case round =>
    clear b0 b1 b2 b3 b4 b5
    obtain ⟨k, hk, rfl, HO, HB⟩ := hrel
    by_cases hlt : k < n
    · have hkx : k < S.length := by rw [← HN.o]; exact hlt
      obtain ⟨b, off, rfl, hbl, q0, q1, hL, hS, hP⟩ := HK.o.S.at_ k hkx
      have hw : S[k].l.length + S[k].ps.length + 1 ≤ RS.wt RS.gS S := RS.wt_mem RS.gS S S[k] (List.getElem_mem hkx)
      have hw2 : RS.wt RS.gS S ≤ 1048576 := HK.o.wS
      have hln : S[k].l.length ≤ 1048576 := by omega
      have hpn : S[k].ps.length ≤ 1048576 := by omega
      have d0 := (HB.o.cell (p := ⟨b, off + k * 2, none⟩) hbl).trans q0
      have d1 := (HB.o.cell (p := ⟨b, off + k * 2 + 1, none⟩) hbl).trans q1
      have hst := R.st_len S[k].l hS
      have hok : ∀ x ∈ S[k].ps, x.ok := fun x hx => by obtain ⟨i, hi, rfl⟩ := List.mem_iff_getElem.1 hx; exact (hP.at_ i hi).choose_spec.choose_spec.2.2.2.2.2
      have hpt := RS.pts_len S[k].ps hok
      have HJP := hd (RS.pts_jn S[k].ps hok)
      have HKK : Hd (cellsS (ys.take (k + 1)) = cellsS (ys.take k) ++ [.string ⟨(RS.se S[k]).toArray⟩]) := hd (by rw [strS ys k (by rw [HYL.o]; exact hlt)]; simp [HY.o, R.bt])
      have HEL : Hd (RS.se S[k] = RS.kMetric ++ R.st S[k].l ++ RS.kValues ++ RS.pts S[k].ps ++ [125]) := hd rfl
      rw [HEL.o] at HKK
      have HLL := hd hL
      have HSS := hd hS
      have HPP := hd hP
      have HOK := hd hok
      clear q0 q1 hL hS hP hw hw2 HEL hok
      unfold RS.Sr.sl at d0 HLL
      unfold RS.Sr.sp at d1
      generalize S[k]'hkx = x at *
      obtain ⟨xA, xc, xl, pA, pc, ps⟩ := x
      simp only at d0 d1 HLL HSS HPP HKK hst hpt hln hpn HJP HOK
      have g1 : (R.st xl).length ≤ 14000000000000 := by omega
      have g2 : (RS.pts ps).length ≤ 400000000 := by omega
      have c1 : ¬ 9223372036854775807 < 10 + (R.st xl).length := by omega
      have c2 : ¬ 9223372036854775807 < 10 + (R.st xl).length + 10 := by omega
      have c3 : ¬ 9223372036854775807 < 10 + (R.st xl).length + 10 + (RS.pts ps).length := by omega
      have c4 : ¬ 9223372036854775807 < 10 + (R.st xl).length + 10 + (RS.pts ps).length + 1 := by omega
      go_wp2_with fail
      obtain ⟨W1, hW1⟩ : ∃ W1, W1 = wr.alloc (.cells #[.slice xA xl.length xc, .slice pA ps.length pc] 60) := ⟨_, rfl⟩
      have HB1 : Hd (Below wr.heap.size wr W1) := hd (by rw [hW1]; exact (Below.refl _ _).alloc (Nat.le_refl _) _)
      have z0 : W1.cell? ⟨wr.heap.size, 0, none⟩ = some (.slice xA xl.length xc) := by rw [hW1]; simp
      have hz : wr.heap.size < W1.heap.size := by rw [hW1]; simp
      have HBB : Hd (Below W.heap.size W W1) := hd (bel HB.o HB1.o)
      have HOO := hd (own_below HO.o HB1.o)
      rw [← hW1]
      clear hW1
      have HZ8 : Hd (∀ W', Below W1.heap.size W1 W' → W'.cell? ⟨wr.heap.size, 0, none⟩ = some (.slice xA xl.length xc)) := hd (fun W' hb => (hb.cell (p := ⟨wr.heap.size, 0, none⟩) hz).trans z0)
      obtain ⟨m, hm⟩ : ∃ m, m = ps.length := ⟨_, rfl⟩
      obtain ⟨zs, hzs⟩ : ∃ zs, zs = (ps.map fun p => RS.pt p.t p.f).map R.bt := ⟨_, rfl⟩
      have HZS := hd hzs
      have HZL : Hd (zs.length = m) := hd (by rw [HZS.o, List.length_map, List.length_map, hm])
      have HM := hd hm
      have hm2 : m ≤ 1048576 := by rw [hm]; exact hpn
      rw [← hm] at d1 ⊢
      clear hzs hm
      go_loopw [9, 75] (fun v x w2 => ∃ (i : Nat), i ≤ m ∧ x = .int .i64 i ∧ Hd (w2.ownsRow W1.heap.size 9 1 v i (cellsS (zs.take i))) ∧ Hd (Below W1.heap.size W1 w2)) (fun _ x _ => m - (intOf x).toNat)
      case atStart => exact ⟨0, Nat.zero_le _, rfl, hd ⟨rfl, .inl ⟨rfl, rfl⟩⟩, hd (Below.refl _ _)⟩
      case round =>
        obtain ⟨i, hi, rfl, HO2, HB2⟩ := hrel
        by_cases hlt2 : i < m
        · have hix : i < ps.length := by rw [← HM.o]; exact hlt2
          obtain ⟨b2, off2, rfl, hbl2, q0, q1, q2, o1, o2, o3⟩ := HPP.o.at_ i hix
          have HBC := hd (bel HBB.o HB2.o)
          have e0 := (HBC.o.cell (p := ⟨b2, off2 + i * 3, none⟩) hbl2).trans q0
          have e1 := (HBC.o.cell (p := ⟨b2, off2 + i * 3 + 1, none⟩) hbl2).trans q1
          have e2 := (HBC.o.cell (p := ⟨b2, off2 + i * 3 + 2, none⟩) hbl2).trans q2
          have HKZ : Hd (cellsS (zs.take (i + 1)) = cellsS (zs.take i) ++ [.string ⟨(RS.pt ps[i].t ps[i].f).toArray⟩]) := hd (by rw [strS zs i (by rw [HZL.o]; exact hlt2)]; simp [HZS.o, R.bt])
          have HPT := hd (refpoint_any ps[i].t ps[i].f o1 o2 o3)
          clear q0 q1 q2 o1 o2 o3 d0 d1
          generalize ps[i]'hix = y at *
          obtain ⟨yt, yf, yst⟩ := y
          simp only at e0 e1 e2 HKZ HPT
          go_wp2_with fail
          have HBS := hd ((Below.refl wr.heap.size wr).alloc (Nat.le_refl _) (.cells #[.int .i64 yt, .float .f64 yf, .bool yst] 65))
          refine (HPT.o _).mono ?_
          rintro e' w5 ⟨rfl, hb5⟩
          have HB5 := hd (bel (bel HB2.o HBS.o) hb5)
          have HO5 := hd (own_below (own_below HO2.o HBS.o) hb5)
          clear hb5
          go_wp2_with (at_builtin; refine wpList_app_litH 36 9 (.string ⟨#[]⟩) 1 16 Tryz.underlying36 info_str rfl (by decide) rfl _ _ rfl W1.heap.size u9 i (cellsS (zs.take i)) w5 #[.string ⟨(RS.pt yt yf).toArray⟩] 1 _ rfl rfl rfl HO5.o rfl (by simp [Value.oneCell']) (by omega) (by omega) HB5.o.size ?_)
          intro v6 w6 ho6 hg6
          have HB6 := hd (HB5.o.grown hg6 HB5.o.size (fun g hg => (HO5.o.lt g hg).1))
          have HO6 : Hd (w6.ownsRow W1.heap.size 9 1 v6 (i + 1) (cellsS (zs.take (i + 1)))) := hd (by rw [HKZ.o]; exact ho6)
          clear ho6 hg6
          go_wp2
          go_roundw
          case rel => exact ⟨i + 1, by omega, by go_num, HO6, HB6⟩
          case measure => simp [intOf]; omega
        · have him : i = m := by omega
          subst him
          have HBC := hd (bel HBB.o HB2.o)
          have z8 := HZ8.o wr HB2.o
          have h1 := IsL.own HO2.o
          rw [List.take_of_length_le (by rw [HZL.o]; exact Nat.le_refl _)] at h1
          have HI := hd h1
          have HSET := hd (refset_any xl _ xl.length wr (HLL.o.below HBC.o) HSS.o hln)
          have HZB : Hd (∀ j, j ≤ i → R.sz (zs.take j) ≤ 35184405643264) := hd fun j hj => by
            have h2 := R.sz_le 357 (zs.take j) (fun y hy => by
              have hy2 := List.mem_of_mem_take hy
              rw [HZS.o] at hy2
              obtain ⟨y1, hy1, rfl⟩ := List.mem_map.1 hy2
              obtain ⟨y3, hy3, rfl⟩ := List.mem_map.1 hy1
              exact RS.pt_len _ _ (HOK.o y3 hy3).1 (HOK.o y3 hy3).2.1)
            have h3 : (zs.take j).length ≤ j := by rw [List.length_take]; omega
            omega
          have HJB : Hd (∀ j, j ≤ i → (R.jn ((zs.map fun x => x.data.toList).take j)).length ≤ 35184405643264) := hd fun j hj => by
            rw [HZS.o, R.bt_map]
            have := HJP.o j
            omega
          have HYB : Hd (R.lst (zs.map (fun x => x.data.toList)) = RS.pts ps) := hd (by rw [HZS.o, R.bt_map]; rfl)
          clear h1 d0 d1
          go_wp2_with fail
          refine HSET.o.mono ?_
          rintro e' w3 ⟨rfl, hb3⟩
          have HB3 := hd (bel HB2.o hb3)
          have HI3 := hd (HI.o.below hb3)
          clear hb3
          go_wp2_with fail
          refine (reflist2_any u9 i zs _ HI3.o hm2 HZB.o HJB.o).mono ?_
          rintro e' w4 ⟨rfl, hb4⟩
          rw [HYB.o]
          have HB4 := hd (bel HB3.o hb4)
          have HO4 := hd (own_below HOO.o HB4.o)
          have HBD := hd (bel HBB.o HB4.o)
          clear hb4
          have hc : (⟨#[123, 34, 109, 101, 116, 114, 105, 99, 34, 58]⟩ ++ ⟨(R.st xl).toArray⟩ ++ ⟨#[44, 34, 118, 97, 108, 117, 101, 115, 34, 58]⟩ ++ ⟨(RS.pts ps).toArray⟩ ++ ⟨#[125]⟩ : ByteArray) = ⟨(RS.kMetric ++ R.st xl ++ RS.kValues ++ RS.pts ps ++ [125]).toArray⟩ := by apply ByteArray.ext; simp [ByteArray.data_append, RS.kMetric, RS.kValues]
          have HC := hd hc
          clear hc
          go_wp2_with (at_builtin; refine wpList_app_litH 36 9 (.string ⟨#[]⟩) 1 16 Tryz.underlying36 info_str rfl (by decide) rfl _ _ rfl W.heap.size u6 k (cellsS (ys.take k)) w4 _ 1 _ rfl rfl rfl HO4.o rfl (by simp [Value.oneCell']) (by omega) (by omega) HBD.o.size ?_)
          intro v7 w7 ho7 hg7
          have HB7 := hd (HBD.o.grown hg7 HBD.o.size (fun g hg => (HO4.o.lt g hg).1))
          have HO7 : Hd (w7.ownsRow W.heap.size 9 1 v7 (k + 1) (cellsS (ys.take (k + 1)))) := hd (by rw [HKK.o, ← HC.o]; have h := ho7; rw [← hWz] at h; exact h)
          clear ho7 hg7
          go_wp2
          go_roundw
          case rel => exact ⟨k + 1, by omega, by go_num, HO7, HB7⟩
          case measure => simp [intOf]; omega
    · have hkn : k = n := by omega
      subst hkn
      have h1 := IsL.own HO.o
      rw [List.take_of_length_le (by rw [HYL.o]; exact Nat.le_refl _)] at h1
      have HI := hd h1
      have HEB := hd HK.o.sB
      have HWE := hd HK.o.wS
      have HZB : Hd (∀ j, j ≤ k → R.sz (ys.take j) ≤ 35184405643264) := hd fun j hj => by
        rw [HY.o, List.map_map]
        have h2 := RS.sz_wt_take RS.se RS.gS S HEB.o j
        have h3 := Nat.mul_le_mul_right 12582919 HWE.o
        exact Nat.le_trans h2 (Nat.le_trans h3 (by decide))
      have HJB : Hd (∀ j, j ≤ k → (R.jn ((ys.map fun x => x.data.toList).take j)).length ≤ 35184405643264) := hd fun j hj => by rw [HY.o, R.bt_map]; exact Nat.le_trans (HK.o.sJ j) (by decide)
      have HLE := hd (RS.lst_le HK.o.sJ)
      have HYB : Hd (ys.map (fun x => x.data.toList) = S.map RS.se) := hd (by rw [HY.o, R.bt_map])
      clear h1
      go_wp2_with (first
        | (go_at_call 55; refine (reflist2_any u6 k ys _ HI.o hn2 HZB.o HJB.o).mono ?_; rintro e' w8 ⟨rfl, hb8⟩; rw [HYB.o]; have HB8 := hd (bel HB.o hb8); clear hb8)
        | (go_at_call 50; refine (data_any RS.nMatrix (R.lst (S.map RS.se)) (by decide) (Nat.le_trans HLE.o (by decide)) _).mono ?_; rintro e' w9 ⟨⟨v9, m9, rfl, h9⟩, hb9⟩; have HQ := hd h9; have HB9 := hd (HBW.o.trans ((bel HB8.o hb9).mono (by omega))); clear h9 hb9))
      go_ret
      exact ⟨⟨v9, m9, rfl, HQ.o⟩, HB9.o⟩
set_option maxRecDepth 100000 in
set_option maxHeartbeats 2000000 in
theorem refres0_any (r : RS.Res) (w : World) (hk : r.Ok w) (t1 : r.ty ≠ 1) (t2 : r.ty ≠ 2) (t3 : r.ty ≠ 3) (t4 : r.ty ≠ 4) :
    Calls Tryz.prog 13 #[r.val] w fun e w' => (∃ v m, e = .returned v ∧ IsL 1 w' v m (cellsB (RS.bytes r))) ∧ Below w.heap.size w w' := by
  obtain ⟨W, hW⟩ : ∃ W, W = w.alloc (.cells r.cells.toArray 26) := ⟨_, rfl⟩
  have HBW : Hd (Below w.heap.size w W) := hd (by rw [hW]; exact (Below.refl _ _).alloc (Nat.le_refl _) _)
  have hWz : W.heap.size = w.heap.size + 1 := by rw [hW]; simp
  have HK := hd (hk.below HBW.o)
  have HBX : Hd (∀ W', Below W.heap.size W W' → ∀ j (hj : j < 6), W'.cell? ⟨w.heap.size, j, none⟩ = some (r.cells[j]'hj)) := hd fun W' h j hj => by
    rw [h.cell (p := ⟨w.heap.size, j, none⟩) (show w.heap.size < W.heap.size by omega), hW, World.cell?_alloc_mark, ← Array.getElem?_toList, List.getElem?_eq_getElem hj]
  clear hk
  obtain ⟨ty, t, v, tx, eA, ec, E, sA, sc, S⟩ := r
  simp only at t1 t2 t3 t4 HK
  have q1 : (ty == 1) = false := by simpa using t1
  have q2 : (ty == 2) = false := by simpa using t2
  have q3 : (ty == 3) = false := by simpa using t3
  have q4 : (ty == 4) = false := by simpa using t4
  have HA : Hd (RS.bytes ⟨ty, t, v, tx, eA, ec, E, sA, sc, S⟩ = RS.null) := hd (by unfold RS.bytes; rw [if_neg t1, if_neg t2, if_neg t3, if_neg t4])
  rw [HA.o]
  clear HA
  unfold RS.Res.val
  unfold RS.Res.cells at HBX hW ⊢
  have b0 := HBX.o W (Below.refl _ _) 0 (by decide)
  have b1 := HBX.o W (Below.refl _ _) 1 (by decide)
  have b2 := HBX.o W (Below.refl _ _) 2 (by decide)
  have b3 := HBX.o W (Below.refl _ _) 3 (by decide)
  have b4 := HBX.o W (Below.refl _ _) 4 (by decide)
  have b5 := HBX.o W (Below.refl _ _) 5 (by decide)
  simp only [List.getElem_cons_zero, List.getElem_cons_succ] at b0 b1 b2 b3 b4 b5
  go_enter Tryz.func13, Tryz.ntmps13
  have kc := Lib.run_convert_bytes_const (P := Tryz.prog) W 32 5 RS.nullA 32 32 Tryz.underlying32 Tryz.underlying5
  have HQ : Hd (IsL 1 (W.alloc (.cells RS.nullA 5 (RS.nullA.size, RS.nullA.size + 1))) (.slice (some ⟨W.heap.size, 0, none⟩) 32 32) 32 (cellsB RS.null)) := hd (isL_litm W RS.nullA 5 _ (cellsB RS.null) 32 rfl rfl)
  have HB9 : Hd (Below w.heap.size w (W.alloc (.cells RS.nullA 5 (RS.nullA.size, RS.nullA.size + 1)))) := hd (HBW.o.alloc HBW.o.size _)
  rw [hWz] at kc HQ
  unfold RS.nullA RS.null cellsB at kc
  simp at kc
  go_wp2_with (rw [← hW]; clear hW)
  go_ret
  exact ⟨⟨.slice (some ⟨w.heap.size + 1, 0, none⟩) 32 32, rfl, 32, HQ.o⟩, HB9.o⟩
theorem refres_any (r : RS.Res) (w : World) (hk : r.Ok w) :
    Calls Tryz.prog 13 #[r.val] w fun e w' => (∃ v m, e = .returned v ∧ IsL 1 w' v m (cellsB (RS.bytes r))) ∧ Below w.heap.size w w' := by
  by_cases h1 : r.ty = 1
  · exact refres1_any r w hk h1
  by_cases h2 : r.ty = 2
  · exact refres2_any r w hk h2
  by_cases h3 : r.ty = 3
  · exact refres3_any r w hk h3
  by_cases h4 : r.ty = 4
  · exact refres4_any r w hk h4
  exact refres0_any r w hk h1 h2 h3 h4
end Go.Proofs.YtcbggkdginfakaaGreatDoor
