/- LabelsKeeps: the law's walk. -/
import Derived.Test.YtifaepkeoffcfaaLAsk
import Derived.Test.YtifaepkeoffcfaaLSame
import Derived.Test.YtifaepkeoffcfaaLKeepW
import Derived.Test.YtifaepkeoffcfaaLRefWith
import Derived.Test.YtifaepkeoffcfaaLApart
import Derived.Deep.RegionLaw
import Derived.Deep.RegionHeld3
namespace Go.Proofs.Ytifaepkeoffcfaa
open Go.RowKit
set_option linter.unusedVariables false
set_option linter.unusedSimpArgs false
theorem k_with : L.withL [(⟨#[99]⟩, ⟨#[51]⟩)] ⟨#[98]⟩ ⟨#[50]⟩ = [(⟨#[98]⟩, ⟨#[50]⟩), (⟨#[99]⟩, ⟨#[51]⟩)] := by decide +kernel
theorem info_str1 : (Try.prog.info? 9).map (fun i => (i.zero, i.size, i.bytes)) = some (some (.string ⟨#[]⟩), 1, 16) := by kernel_rfl
theorem cellsL_set2 (l r : List Lb) (i : Nat) (h : i < l.length) (u : ByteArray) : (cellsL (l ++ r)).set (i * 2 + 1) (.string u) = cellsL (l.set i ((l[i]'h).1, u) ++ r) := by
  induction l generalizing i with
  | nil => simp at h
  | cons x l ih =>
    cases i with
    | zero => rfl
    | succ i =>
      have h2 : i < l.length := by simpa using h
      have := ih i h2
      rw [show (i + 1) * 2 + 1 = (i * 2 + 1) + 1 + 1 from by omega, List.cons_append, cellsL_cons, List.set_cons_succ, List.set_cons_succ, this]
      rfl
theorem grownBy_setCell2 {a w : World} {g i : Nat} (h : a.grownBy w (some g)) (v : Value) : a.grownBy (w.setCell ⟨g, i, none⟩ v) (some g) :=
  ⟨h.os, h.tape, h.output, by rw [World.size_setCell]; exact h.size, fun k hk hne => (Below.heap_setCell w ⟨g, i, none⟩ v k (fun e => hne (by rw [e]))).trans (h.block k hk hne)⟩
theorem cellsS_one (l : List ByteArray) : ∀ u ∈ cellsS l, u.oneCell' = true := by
  intro u hu
  unfold cellsS at hu
  obtain ⟨s, _, rfl⟩ := List.mem_map.1 hu
  rfl
theorem Lin.pushR2 {w w' : World} {B : Nat} {e : TypeId} {size k : Nat} {h : Nat → Value} {c : Nat → Nat} {Z : Nat → List Value} (L : Lin w B e size k h c Z) {T : Value} {c1 : Nat} {Z1 : List Value}
    (ho : w'.ownsRow w.heap.size e size T c1 Z1) (hb : Below w.heap.size w w') (hB : B ≤ w.heap.size) : Lin w' B e size (k + 1) (upd h k T) (upd c k c1) (upd Z k Z1) :=
  L.push (own_mono ho hB) hb (fun g hg => (ho.lt g hg).1)
set_option maxRecDepth 100000 in
set_option maxHeartbeats 4000000 in
theorem keeps_walk (va : Value) (qs : List LAsk) (w : World) (hq : IsLAsks w va qs) :
    Calls Try.prog 3 #[va] w fun e w' => e = .returned (.bool true) ∧ Below w.heap.size w w' := by
  obtain ⟨A, c, rfl, hn, hc⟩ := hq
  have HC := hd hc
  have KW := hd k_with
  unfold maxLen at hn
  clear hc
  go_enter Try.func3, Try.ntmps3
  go_wp2_with fail
  refine (with_any _ 1 [(⟨#[99]⟩, ⟨#[51]⟩)] ⟨#[98]⟩ ⟨#[50]⟩ _ (IsL.own (World.ownsRow_lit (base := w.heap.size) w #[.string ⟨#[99]⟩, .string ⟨#[51]⟩] 1 (Nat.le_refl _) (by decide) rfl)) (by decide)).mono ?_
  rintro e w1 ⟨x, rfl, ho1, hb1⟩
  rw [KW.o] at ho1
  have h1 := IsL.own ho1
  obtain ⟨Ax, cx, rfl⟩ := h1.shape
  obtain ⟨b1, o1, rfl, _, q1, _⟩ := IsLb.at_ h1 0 (by decide)
  have HB1 : Hd (Below w.heap.size w w1) := hd (((Below.refl w.heap.size w).alloc (Nat.le_refl _) _).trans (hb1.mono (by simp)))
  clear ho1 hb1 h1
  simp only [List.getElem_cons_zero, Nat.zero_mul, Nat.add_zero, List.length_cons, List.length_nil, Nat.zero_add, Nat.reduceAdd] at q1 ⊢
  go_wp2
  clear q1
  go_loopw [35] (fun x wr => ∃ k : Nat, k ≤ qs.length ∧ x = .int .i64 k ∧ Hd (Below w.heap.size w wr)) (fun x _ => qs.length - (intOf x).toNat)
  case atStart => exact ⟨0, Nat.zero_le _, rfl, HB1⟩
  case round =>
    clear HB1
    obtain ⟨k, hk, rfl, HB0⟩ := hrel
    by_cases hlt : k < qs.length
    · obtain ⟨b, off, A1, c1, A2, c2, rfl, d0, d1, d2, d3, d4, hL, hN, hS, hm⟩ := HC.o k hlt
      have hbl : b < w.heap.size := World.block_lt_of_cell? w _ d0
      replace d0 := (HB0.o.cell (p := ⟨b, off + k * 5, none⟩) hbl).trans d0
      replace d1 := (HB0.o.cell (p := ⟨b, off + k * 5 + 1, none⟩) hbl).trans d1
      replace d2 := (HB0.o.cell (p := ⟨b, off + k * 5 + 2, none⟩) hbl).trans d2
      replace d3 := (HB0.o.cell (p := ⟨b, off + k * 5 + 3, none⟩) hbl).trans d3
      replace d4 := (HB0.o.cell (p := ⟨b, off + k * 5 + 4, none⟩) hbl).trans d4
      generalize qs[k]'hlt = q at *
      obtain ⟨l, nm, vl, ns, wo⟩ := q
      simp only at d0 d1 d2 d3 d4 hL hN hS hm
      obtain ⟨n, hnl⟩ : ∃ n, n = l.length := ⟨_, rfl⟩
      obtain ⟨m, hml⟩ : ∃ m, m = ns.length := ⟨_, rfl⟩
      rw [← hnl] at d0 hL
      rw [← hml] at d3 hN hm
      obtain ⟨W0, hW0⟩ : ∃ W0, W0 = wr.alloc (.cells #[.slice A1 n c1, .string nm, .string vl, .slice A2 m c2, .bool wo] 29) := ⟨_, rfl⟩
      obtain ⟨hbx, hhbx⟩ : ∃ hbx, hbx = wr.heap.size := ⟨_, rfl⟩
      have HX : Hd (∀ w', Below W0.heap.size W0 w' → w'.cell? ⟨hbx, 0, none⟩ = some (.slice A1 n c1) ∧ w'.cell? ⟨hbx, 1, none⟩ = some (.string nm) ∧ w'.cell? ⟨hbx, 2, none⟩ = some (.string vl) ∧ w'.cell? ⟨hbx, 3, none⟩ = some (.slice A2 m c2) ∧ w'.cell? ⟨hbx, 4, none⟩ = some (.bool wo)) := hd <| by
        intro w' hb
        have hk : Bk w' hbx 29 [.slice A1 n c1, .string nm, .string vl, .slice A2 m c2, .bool wo] := by
          refine Bk.below ?_ hb
          rw [hW0, hhbx]
          show (wr.heap.push _)[wr.heap.size]? = _
          simp
        exact ⟨hk.cell 0 (by simp), hk.cell 1 (by simp), hk.cell 2 (by simp), hk.cell 3 (by simp), hk.cell 4 (by simp)⟩
      have HBW : Hd (Below w.heap.size w W0) := hd (by rw [hW0]; exact HB0.o.alloc HB0.o.size _)
      have HL := hd (hL.below HBW.o)
      have HN := hd (hN.below HBW.o)
      have HS := hd hS
      have hn2 : n ≤ 1048576 := by rw [hnl]; exact hS.1
      have HNL := hd hnl
      have HML := hd hml
      clear hL hN hS HB0 hnl hml
      go_wp2_with fail
      rw [← hW0, ← hhbx]
      clear hW0 hhbx d0 d1 d2 d3 d4 HC hbl
      refine (lent_any _ n l _ HL.o (by omega)).mono ?_
      rintro e w1 ⟨g, rfl, hg, hG, hb1⟩
      have HB1 := hd hb1
      have HG1 := hd hG
      have HG1L := hG.lt
      clear hG hb1
      obtain ⟨e0, e1, e2, e3, e4⟩ := HX.o _ HB1.o
      obtain ⟨f0, f1, f2, f3, f4⟩ := HX.o _ (HB1.o.alloc HB1.o.size (.cells #[] 9))
      have HNA := hd (HN.o.below (HB1.o.alloc HB1.o.size (.cells #[] 9)))
      have HE0 : Hd ((w1.alloc (.cells #[] 9)).ownsRow w1.heap.size 9 1 (.slice (some ⟨w1.heap.size, 0, none⟩) 0 0) 0 []) := hd (World.ownsRow_lit w1 #[] 0 (Nat.le_refl _) (by decide) rfl)
      go_wp2_with (at_builtin; refine wpList_app_any _ 27 9 (.string ⟨#[]⟩) 1 16 Try.underlying27 info_str1 rfl (by decide) rfl _ _ rfl w1.heap.size (.slice (some ⟨w1.heap.size, 0, none⟩) 0 0) 0 [] rfl HE0.o (.slice A2 m c2) m (cellsS ns) rfl HNA.o (cellsS_one ns) (by omega) (by omega) (by simp) ?_)
      intro v2 w2 ho2 hg2
      have hb12 : Below w1.heap.size w1 w2 := ((Below.refl _ _).alloc (Nat.le_refl _) _).grown hg2 (by simp) (fun q hq => (HE0.o.lt q hq).1)
      have HB2 := hd (bel HB1.o hb12)
      have HG2 := hd (HG1.o.below hb12)
      have HG2L := HG2.o.lt
      have HM2 := hd (IsL.own ho2)
      have HMO2 := hd ho2
      clear hb12 ho2 hg2 e0 e1 e2 e3 e4 f0 f1 f2 f3 f4 HNA HE0 HB1 HG1
      obtain ⟨e0, e1, e2, e3, e4⟩ := HX.o _ HB2.o
      go_wp2_with fail
      refine (refWith_any _ n l nm vl _ (HL.o.below HB2.o) (by omega)).mono ?_
      rintro e w3 ⟨xw, rfl, how, hb3⟩
      have HB3 := hd (bel HB2.o hb3)
      have HG3 := hd (HG2.o.below hb3)
      have HM3 := hd (HM2.o.below hb3)
      have HW3 := hd (IsL.own how)
      have HWO3 := hd how
      have HMO3 := hd (own_below HMO2.o hb3)
      clear how hb3 HG2 HM2 HB2 HMO2 e0 e1 e2 e3 e4
      obtain ⟨e0, e1, e2, e3, e4⟩ := HX.o _ HB3.o
      go_wp2_with fail
      refine (refKeep_any _ n l _ m ns wo _ (HL.o.below HB3.o) (HN.o.below HB3.o) (by omega) (by omega)).mono ?_
      rintro e w4 ⟨xk, rfl, hok, hb4⟩
      have HB4 := hd (bel HB3.o hb4)
      have HG4 := hd (HG3.o.below hb4)
      have HM4 := hd (HM3.o.below hb4)
      have HW4 := hd (HW3.o.below hb4)
      have HK4 := hd (IsL.own hok)
      have HWO4 := hd (own_below HWO3.o hb4)
      have HMO4 := hd (own_below HMO3.o hb4)
      have HKO4 := hd hok
      have HSZ4 := hd (show g < w1.heap.size ∧ g < w2.heap.size ∧ g < w3.heap.size from ⟨HG1L, HG2L, HG3.o.lt⟩)
      clear hok hb4 HG3 HM3 HW3 HB3 HWO3 HMO3 e0 e1 e2 e3 e4
      obtain ⟨A3, c3, rfl⟩ := HM4.o.shape
      have HI4 : Hd (IsL 2 w4 (.slice (some ⟨g, 0, none⟩) n (n + 40)) n (cellsL l)) := hd <| by
        have h := HG4.o.isLN 2 n (n + 40) (by rw [cellsL_len, List.length_append, HNL.o]; omega)
        rw [cellsL_take, List.take_append_of_le_length (by rw [HNL.o]; exact Nat.le_refl _), List.take_of_length_le (by rw [HNL.o]; exact Nat.le_refl _)] at h
        exact h
      have HC4 : Hd (Below w4.heap.size w4 w4) := hd (Below.refl _ _)
      have L0 : Hd (Lin w4 w4.heap.size 26 2 0 (fun _ => .slice none 0 0) (fun _ => 0) (fun _ => cellsL [])) := hd ⟨fun i h => by omega, fun i j h => by omega⟩
      obtain ⟨e0, e1, e2, e3, e4⟩ := HX.o _ (bel HB4.o HC4.o)
      go_wp2_with fail
      refine (with_any _ n l nm vl _ (HI4.o.below HC4.o) (by omega)).mono ?_
      rintro e w5 ⟨x1, rfl, ho, hb⟩
      obtain ⟨Y1, y1, rfl⟩ := own_shape ho
      have L1 := hd (L0.o.pushR2 ho hb HC4.o.size)
      have HC5 := hd (bel HC4.o hb)
      clear ho hb L0 HC4 e0 e1 e2 e3 e4
      obtain ⟨e0, e1, e2, e3, e4⟩ := HX.o _ (bel HB4.o HC5.o)
      go_wp2_with fail
      refine (with_any _ n l nm vl _ (HI4.o.below HC5.o) (by omega)).mono ?_
      rintro e w6 ⟨x2, rfl, ho, hb⟩
      obtain ⟨Y2, y2, rfl⟩ := own_shape ho
      have L2 := hd (L1.o.pushR2 ho hb HC5.o.size)
      have HC6 := hd (bel HC5.o hb)
      clear ho hb L1 HC5 e0 e1 e2 e3 e4
      obtain ⟨e0, e1, e2, e3, e4⟩ := HX.o _ (bel HB4.o HC6.o)
      go_wp2_with fail
      refine (keep_any _ n l _ m ns wo _ (HI4.o.below HC6.o) (HM4.o.below HC6.o) (by omega) (by omega)).mono ?_
      rintro e w7 ⟨x3, rfl, ho, hb⟩
      obtain ⟨Y3, y3, rfl⟩ := own_shape ho
      have L3 := hd (L2.o.pushR2 ho hb HC6.o.size)
      have HC7 := hd (bel HC6.o hb)
      clear ho hb L2 HC6 e0 e1 e2 e3 e4
      obtain ⟨e0, e1, e2, e3, e4⟩ := HX.o _ (bel HB4.o HC7.o)
      go_wp2_with fail
      refine (keep_any _ n l _ m ns wo _ (HI4.o.below HC7.o) (HM4.o.below HC7.o) (by omega) (by omega)).mono ?_
      rintro e w8 ⟨x4, rfl, ho, hb⟩
      obtain ⟨Y4, y4, rfl⟩ := own_shape ho
      have L4 := hd (L3.o.pushR2 ho hb HC7.o.size)
      have HC8 := hd (bel HC7.o hb)
      clear ho hb L3 HC7 e0 e1 e2 e3 e4
      obtain ⟨e0, e1, e2, e3, e4⟩ := HX.o _ (bel HB4.o HC8.o)
      go_wp2_with fail
      refine (with_any _ n l nm ⟨#[]⟩ _ (HI4.o.below HC8.o) (by omega)).mono ?_
      rintro e w9 ⟨x5, rfl, ho, hb⟩
      obtain ⟨Y5, y5, rfl⟩ := own_shape ho
      have L5 := hd (L4.o.pushR2 ho hb HC8.o.size)
      have HC9 := hd (bel HC8.o hb)
      clear ho hb L4 HC8 e0 e1 e2 e3 e4
      obtain ⟨e0, e1, e2, e3, e4⟩ := HX.o _ (bel HB4.o HC9.o)
      go_wp2_with fail
      refine (keep_any _ n l _ m ns (!wo) _ (HI4.o.below HC9.o) (HM4.o.below HC9.o) (by omega) (by omega)).mono ?_
      rintro e w10 ⟨x6, rfl, ho, hb⟩
      obtain ⟨Y6, y6, rfl⟩ := own_shape ho
      have L6 := hd (L5.o.pushR2 ho hb HC9.o.size)
      have HC10 := hd (bel HC9.o hb)
      clear ho hb L5 HC9 e0 e1 e2 e3 e4
      obtain ⟨e0, e1, e2, e3, e4⟩ := HX.o _ (bel HB4.o HC10.o)
      go_wp2_with fail
      refine (with_any _ n l ⟨#[108, 101, 110, 116]⟩ vl _ (HI4.o.below HC10.o) (by omega)).mono ?_
      rintro e w11 ⟨x7, rfl, ho, hb⟩
      obtain ⟨Y7, y7, rfl⟩ := own_shape ho
      have L7 := hd (L6.o.pushR2 ho hb HC10.o.size)
      have HC11 := hd (bel HC10.o hb)
      clear ho hb L6 HC10 e0 e1 e2 e3 e4
      have HLB : Hd (∀ a v, (L.withL l a v).length ≤ 1048577) := hd fun a v => by
        have h := L.withGo_len a v l v.toList.isEmpty
        have h2 := HS.o.1
        unfold L.withL
        omega
      have HKB : Hd (∀ b, (L.keepL l ns b).length ≤ 1048577) := hd fun b => by
        have h : (L.keepL l ns b).length ≤ l.length := List.length_filter_le _ _
        have h2 := HS.o.1
        omega
      have HW11 := hd (HW4.o.below HC11.o)
      have HK11 := hd (HK4.o.below HC11.o)
      have HD11 : Hd (Below w11.heap.size w11 w11) := hd (Below.refl _ _)
      have HR1 : Hd (IsL 2 w11 (.slice Y1 (L.withL l nm vl).length y1) (L.withL l nm vl).length (cellsL (L.withL l nm vl))) := hd (IsL.own (L7.o.own 0 (by omega)))
      have HR2 : Hd (IsL 2 w11 (.slice Y2 (L.withL l nm vl).length y2) (L.withL l nm vl).length (cellsL (L.withL l nm vl))) := hd (IsL.own (L7.o.own 1 (by omega)))
      have HR3 : Hd (IsL 2 w11 (.slice Y3 (L.keepL l ns wo).length y3) (L.keepL l ns wo).length (cellsL (L.keepL l ns wo))) := hd (IsL.own (L7.o.own 2 (by omega)))
      have HR4 : Hd (IsL 2 w11 (.slice Y4 (L.keepL l ns wo).length y4) (L.keepL l ns wo).length (cellsL (L.keepL l ns wo))) := hd (IsL.own (L7.o.own 3 (by omega)))
      have HR5 : Hd (IsL 2 w11 (.slice Y5 (L.withL l nm ⟨#[]⟩).length y5) (L.withL l nm ⟨#[]⟩).length (cellsL (L.withL l nm ⟨#[]⟩))) := hd (IsL.own (L7.o.own 4 (by omega)))
      have HR6 : Hd (IsL 2 w11 (.slice Y6 (L.keepL l ns (!wo)).length y6) (L.keepL l ns (!wo)).length (cellsL (L.keepL l ns (!wo)))) := hd (IsL.own (L7.o.own 5 (by omega)))
      go_wp2_with fail
      refine (lsame_any _ _ _ _ (L.withL l nm vl) (L.withL l nm vl) _ (HR1.o.below HD11.o) (HW11.o.below HD11.o) (by have := HLB.o nm vl; omega)).mono ?_
      rintro e w12 ⟨rfl, hb⟩
      rw [decide_eq_true rfl]
      have HD12 := hd (bel HD11.o hb)
      clear hb HD11
      go_wp2_with fail
      refine (lsame_any _ _ _ _ (L.withL l nm vl) (L.withL l nm vl) _ (HR2.o.below HD12.o) (HW11.o.below HD12.o) (by have := HLB.o nm vl; omega)).mono ?_
      rintro e w13 ⟨rfl, hb⟩
      rw [decide_eq_true rfl]
      have HD13 := hd (bel HD12.o hb)
      clear hb HD12
      go_wp2_with fail
      refine (lsame_any _ _ _ _ (L.keepL l ns wo) (L.keepL l ns wo) _ (HR3.o.below HD13.o) (HK11.o.below HD13.o) (by have := HKB.o wo; omega)).mono ?_
      rintro e w14 ⟨rfl, hb⟩
      rw [decide_eq_true rfl]
      have HD14 := hd (bel HD13.o hb)
      clear hb HD13
      go_wp2_with fail
      refine (lsame_any _ _ _ _ (L.keepL l ns wo) (L.keepL l ns wo) _ (HR4.o.below HD14.o) (HK11.o.below HD14.o) (by have := HKB.o wo; omega)).mono ?_
      rintro e w15 ⟨rfl, hb⟩
      rw [decide_eq_true rfl]
      have HD15 := hd (bel HD14.o hb)
      clear hb HD14
      obtain ⟨e0, e1, e2, e3, e4⟩ := HX.o _ (bel (bel HB4.o HC11.o) HD15.o)
      go_wp2_with fail
      refine (refWith_any _ n l nm ⟨#[]⟩ _ (HL.o.below (bel (bel HB4.o HC11.o) HD15.o)) (by omega)).mono ?_
      rintro e w16 ⟨z1, rfl, ho, hb⟩
      have Hz1 := hd (IsL.own ho)
      have HD16 := hd (bel HD15.o hb)
      clear ho hb HD15 e0 e1 e2 e3 e4
      go_wp2_with fail
      refine (lsame_any _ _ _ _ (L.withL l nm ⟨#[]⟩) (L.withL l nm ⟨#[]⟩) _ (HR5.o.below HD16.o) (Hz1.o) (by have := HLB.o nm ⟨#[]⟩; omega)).mono ?_
      rintro e w17 ⟨rfl, hb⟩
      rw [decide_eq_true rfl]
      have HD17 := hd (bel HD16.o hb)
      clear hb HD16
      obtain ⟨e0, e1, e2, e3, e4⟩ := HX.o _ (bel (bel HB4.o HC11.o) HD17.o)
      go_wp2_with fail
      refine (refKeep_any _ n l _ m ns (!wo) _ (HL.o.below (bel (bel HB4.o HC11.o) HD17.o)) (HN.o.below (bel (bel HB4.o HC11.o) HD17.o)) (by omega) (by omega)).mono ?_
      rintro e w18 ⟨z2, rfl, ho, hb⟩
      have Hz2 := hd (IsL.own ho)
      have HD18 := hd (bel HD17.o hb)
      clear ho hb HD17 e0 e1 e2 e3 e4
      go_wp2_with fail
      refine (lsame_any _ _ _ _ (L.keepL l ns (!wo)) (L.keepL l ns (!wo)) _ (HR6.o.below HD18.o) (Hz2.o) (by have := HKB.o (!wo); omega)).mono ?_
      rintro e w19 ⟨rfl, hb⟩
      rw [decide_eq_true rfl]
      have HD19 := hd (bel HD18.o hb)
      clear hb HD18
      obtain ⟨xx, hxx⟩ : ∃ xx : Nat → List Lb, xx = upd (upd (upd (upd (upd (upd (upd (fun _ => []) 0 (L.withL l nm vl)) 1 (L.withL l nm vl)) 2 (L.keepL l ns wo)) 3 (L.keepL l ns wo)) 4 (L.withL l nm ⟨#[]⟩)) 5 (L.keepL l ns (!wo))) 6 (L.withL l ⟨#[108, 101, 110, 116]⟩ vl) := ⟨_, rfl⟩
      have HLX := hd (show Lin w11 w4.heap.size 26 2 7 _ _ (fun a => cellsL (xx a)) from by
        rw [hxx]
        have h := L7.o
        simp only [Nat.zero_add] at h
        rw [show (fun _ : Nat => cellsL []) = (fun a => cellsL ((fun _ => []) a)) from rfl, updC, updC, updC, updC, updC, updC, updC] at h
        exact h)
      clear hxx
      have HEK := hd (bel HC11.o HD19.o)
      have HLA := hd ((HLX.o.below HD19.o).below ((Below.refl w19.heap.size w19).alloc (Nat.le_refl _) (.cells #[.slice Y1 (L.withL l nm vl).length y1, .slice Y2 (L.withL l nm vl).length y2, .slice Y3 (L.keepL l ns wo).length y3, .slice Y4 (L.keepL l ns wo).length y4, .slice Y5 (L.withL l nm ⟨#[]⟩).length y5, .slice Y6 (L.keepL l ns (!wo)).length y6, .slice Y7 (L.withL l ⟨#[108, 101, 110, 116]⟩ vl).length y7] 23)))
      go_wp2_with fail
      refine (lapart_any w4.heap.size 7 w19.heap.size 7 _ _ xx _ (World.ownsRow_lit w19 #[.slice Y1 (L.withL l nm vl).length y1, .slice Y2 (L.withL l nm vl).length y2, .slice Y3 (L.keepL l ns wo).length y3, .slice Y4 (L.keepL l ns wo).length y4, .slice Y5 (L.withL l nm ⟨#[]⟩).length y5, .slice Y6 (L.keepL l ns (!wo)).length y6, .slice Y7 (L.withL l ⟨#[108, 101, 110, 116]⟩ vl).length y7] 7 HEK.o.size (by decide) rfl) HLA.o (by decide) ?_ (by have := HEK.o.size; simp; omega)).mono ?_
      · intro i hi
        have g1 := HLB.o nm vl
        have g2 := HLB.o nm ⟨#[]⟩
        have g3 := HLB.o ⟨#[108, 101, 110, 116]⟩ vl
        have g4 := HKB.o wo
        have g5 := HKB.o (!wo)
        have h7 : i = 0 ∨ i = 1 ∨ i = 2 ∨ i = 3 ∨ i = 4 ∨ i = 5 ∨ i = 6 := by omega
        rcases h7 with rfl | rfl | rfl | rfl | rfl | rfl | rfl
        · exact Nat.le_trans g1 (by decide)
        · exact Nat.le_trans g1 (by decide)
        · exact Nat.le_trans g4 (by decide)
        · exact Nat.le_trans g4 (by decide)
        · exact Nat.le_trans g2 (by decide)
        · exact Nat.le_trans g5 (by decide)
        · exact Nat.le_trans g3 (by decide)
      rintro e v1 ⟨rfl, hb⟩
      have HE1 := hd ((HEK.o.alloc HEK.o.size _).trans hb)
      clear hb HLA HLX HEK
      obtain ⟨e0, e1, e2, e3, e4⟩ := HX.o _ (bel HB4.o HE1.o)
      go_wp2_with fail
      refine (whole_any g _ n l _ (HG4.o.below HE1.o) (HL.o.below (bel HB4.o HE1.o)) (by omega)).mono ?_
      rintro e ws ⟨rfl, hb⟩
      have HES := hd (bel HE1.o hb)
      clear hb HE1 e0 e1 e2 e3 e4
      go_wp2
      go_loopw [161] (fun x wq => ∃ j : Nat, j ≤ m ∧ x = .int .i64 j ∧ Hd (Below ws.heap.size ws wq)) (fun x _ => m - (intOf x).toNat)
      case atStart => exact ⟨0, Nat.zero_le _, rfl, hd (Below.refl _ _)⟩
      case round =>
        obtain ⟨j, hj, rfl, HQ⟩ := hrel
        by_cases hjm : j < m
        · have hjn : j < ns.length := by rw [← HML.o]; exact hjm
          have HQ0 := hd (bel HES.o HQ.o)
          obtain ⟨e0, e1, e2, e3, e4⟩ := HX.o _ (bel HB4.o HQ0.o)
          obtain ⟨b3, o3, rfl, _, c3'⟩ := strs_at (HM4.o.below HQ0.o) j hjn
          obtain ⟨b4, o4, rfl, _, c4'⟩ := strs_at (HN.o.below (bel HB4.o HQ0.o)) j hjn
          generalize ns[j]'hjn = sj at *
          go_wp2_with fail
          go_quiet (fail)
          go_wp2
          go_roundw
          case rel => exact ⟨j + 1, by omega, by go_num, by first | exact hd (bel_drew HQ.o _) | exact hd HQ.o.drew⟩
          case measure => simp [intOf]; omega
        · obtain ⟨wt, rfl⟩ : ∃ wt : World, wt = wr := ⟨_, rfl⟩
          have HT := hd (bel HES.o HQ.o)
          obtain ⟨e0, e1, e2, e3, e4⟩ := HX.o _ (bel HB4.o HT.o)
          have HHT : Hd (wt.drew.cell? ⟨hbx, 1, none⟩ = some (.string nm) ∧ wt.drew.cell? ⟨hbx, 2, none⟩ = some (.string vl) ∧ wt.drew.cell? ⟨hbx, 4, none⟩ = some (.bool wo) ∧ Below wt.heap.size wt wt.drew) := hd ⟨e1, e2, e4, (Below.refl _ _).drew⟩
          clear e0 e1 e2 e3 e4 HQ
          go_wp2_with fail
          go_region_held3 (fun w' => w'.cell? ⟨hbx, 1, none⟩ = some (.string nm) ∧ w'.cell? ⟨hbx, 2, none⟩ = some (.string vl) ∧ w'.cell? ⟨hbx, 4, none⟩ = some (.bool wo) ∧ Below wt.heap.size wt w') (first | exact HHT.o | (refine ⟨?_, ?_, ?_, bel (show _ ∧ _ ∧ _ ∧ Below wt.heap.size wt _ by assumption).2.2.2 (by assumption)⟩ <;> (obtain ⟨_, _, _, _, _⟩ := HX.o _ (bel HB4.o (bel HT.o (bel (show _ ∧ _ ∧ _ ∧ Below wt.heap.size wt _ by assumption).2.2.2 (by assumption)))); assumption)))
            (first
              | (go_at_call 11; refine (with_any _ n l nm vl _ (HI4.o.below (bel HT.o (show _ ∧ _ ∧ _ ∧ Below wt.heap.size wt _ by assumption).2.2.2)) (by omega)).mono ?_; rintro e wa ⟨xa, rfl, hoa, hba⟩)
              | (go_at_call 15; refine (keep_any _ n l _ m ns wo _ (HI4.o.below (bel HT.o (show _ ∧ _ ∧ _ ∧ Below wt.heap.size wt _ by assumption).2.2.2)) (HM4.o.below (bel HT.o (show _ ∧ _ ∧ _ ∧ Below wt.heap.size wt _ by assumption).2.2.2)) (by omega) (by omega)).mono ?_; rintro e wb ⟨xb, rfl, hob, hbb⟩))
          have hHL : wb.cell? ⟨hbx, 1, none⟩ = some (.string nm) ∧ wb.cell? ⟨hbx, 2, none⟩ = some (.string vl) ∧ wb.cell? ⟨hbx, 4, none⟩ = some (.bool wo) ∧ Below wt.heap.size wt wb := by assumption
          have HTB := hd (bel HT.o hHL.2.2.2)
          have HAO := hd (own_below hoa hbb)
          have HBO := hd hob
          have HAS := hd (show wt.heap.size ≤ wt.drew.heap.size from Nat.le_refl _)
          have HWB := hd (own_below HWO4.o HTB.o)
          have HKB2 := hd (own_below HKO4.o HTB.o)
          have HMB := hd (own_below HMO4.o HTB.o)
          have HGB := hd (HG4.o.below HTB.o)
          have HBB := hd (bel HB4.o HTB.o)
          have HSZ := hd (show g < wt.heap.size ∧ wt.heap.size ≤ wa.heap.size from ⟨by have h := HG4.o.lt; have h2 := HT.o.size; omega, hba.size⟩)
          clear hHL hoa hob hba hbb HHT
          go_wp2
          go_loopw [188] (fun x wq => ∃ (i : Nat) (lx : List Lb), i ≤ n ∧ x = .int .i64 i ∧ Hd (lx.length = n ∧ ∀ y ∈ lx, y.2.size ≤ 1048577) ∧ Hd (Bk wq g 26 (cellsL (lx ++ lentL 40))) ∧ Hd (∀ j (h : j < lx.length), i ≤ j → (lx[j]'h).2.size ≤ 1048576) ∧ Hd (wb.grownBy wq (some g))) (fun x _ => n - (intOf x).toNat)
          case atStart =>
            refine ⟨0, l, Nat.zero_le _, rfl, hd ⟨HNL.o.symm, fun y hy => ?_⟩, HGB, hd fun j hj _ => (HS.o.2 _ (List.getElem_mem hj)).2, hd (World.grownBy.refl _ _)⟩
            have := (HS.o.2 y hy).2
            omega
          case round =>
            obtain ⟨i, lx, hi, rfl, hlx, hG, hrest, hgr⟩ := hrel
            by_cases hin : i < n
            · have hil : i < lx.length := by rw [hlx.o.1]; exact hin
              have hil2 : i < (lx ++ lentL 40).length := by rw [List.length_append]; omega
              obtain ⟨p1, p2⟩ := cellsL_at (lx ++ lentL 40) i hil2
              have hle : i * 2 + 1 < (cellsL (lx ++ lentL 40)).length := by rw [cellsL_len]; omega
              have c0 := hG.o.cell (i * 2 + 1) hle
              rw [List.getElem?_eq_getElem hle] at p2
              rw [Option.some.inj p2, show (lx ++ lentL 40)[i]'hil2 = lx[i]'hil from List.getElem_append_left hil] at c0
              have f0 := hG.o.frozen (i * 2 + 1)
              have hsz := hrest.o i hil (Nat.le_refl _)
              have HNEW : Hd (∀ u : ByteArray, (cellsL (lx ++ lentL 40)).set (i * 2 + 1) (.string u) = cellsL (lx.set i ((lx[i]'hil).1, u) ++ lentL 40)) := hd fun u => cellsL_set2 lx (lentL 40) i hil u
              have z1 : ¬ 9223372036854775807 < (lx[i]'hil).2.size + 1 := by omega
              have z2 : ¬ 281474976710656 < (lx[i]'hil).2.size + 1 := by omega
              clear p1 p2 hle hil2
              go_wp2
              go_roundw
              case rel =>
                refine ⟨i + 1, lx.set i ((lx[i]'hil).1, (lx[i]'hil).2 ++ (⟨#[120]⟩ : ByteArray)), by omega, by go_num, hd ⟨by rw [List.length_set]; exact hlx.o.1, fun y hy => ?_⟩, hd ?_, hd fun j hj hij => ?_, hd (grownBy_setCell2 hgr.o _)⟩
                · rcases List.mem_or_eq_of_mem_set hy with h | h
                  · exact hlx.o.2 y h
                  · subst h
                    show (_ ++ _ : ByteArray).size ≤ _
                    rw [ByteArray.size_append]
                    have : (⟨#[120]⟩ : ByteArray).size = 1 := rfl
                    omega
                · rw [← HNEW.o]; exact hG.o.set _ _
                · rw [List.length_set] at hj
                  rw [List.getElem_set_ne (by omega)]
                  exact hrest.o j hj (by omega)
              case measure => simp [intOf]; omega
            · obtain ⟨wz, rfl⟩ : ∃ wz : World, wz = wr := ⟨_, rfl⟩
              have HZ := hd (HBB.o.grown hgr.o HBB.o.size (fun q hq => by have h : g = q := Option.some.inj hq; omega))
              have hs4 := HSZ4.o
              have hs5 := HSZ.o
              have hs6 := HAS.o
              have RA := hd (IsL.own (HAO.o.kept hgr.o (.inr fun e => by have := (HAO.o.lt g e).1; omega)))
              have RB := hd (IsL.own (HBO.o.kept hgr.o (.inr fun e => by have := (HBO.o.lt g e).1; omega)))
              have RW := hd (IsL.own (HWB.o.kept hgr.o (.inr fun e => by have := (HWB.o.lt g e).1; omega)))
              have RK := hd (IsL.own (HKB2.o.kept hgr.o (.inr fun e => by have := (HKB2.o.lt g e).1; omega)))
              have RM := hd (IsL.own (HMB.o.kept hgr.o (.inr fun e => by have := (HMB.o.lt g e).1; omega)))
              have RI : Hd (IsL 2 wz (.slice (some ⟨g, 0, none⟩) n (n + 40)) n (cellsL lx)) := hd <| by
                have h := hG.o.isLN 2 n (n + 40) (by rw [cellsL_len, List.length_append, hlx.o.1]; omega)
                rw [cellsL_take, List.take_append_of_le_length (by rw [hlx.o.1]; exact Nat.le_refl _), List.take_of_length_le (by rw [hlx.o.1]; exact Nat.le_refl _)] at h
                exact h
              have hw1 := HLB.o nm vl
              have hk1 := HKB.o wo
              have hw2 : (L.withL lx nm vl).length ≤ 1048577 := by
                have h := L.withGo_len nm vl lx vl.toList.isEmpty
                have h2 := hlx.o.1
                unfold L.withL
                omega
              have hk2 : (L.keepL lx ns wo).length ≤ 1048577 := by
                have h : (L.keepL lx ns wo).length ≤ lx.length := List.length_filter_le _ _
                have h2 := hlx.o.1
                omega
              have HSS : Hd (∀ w', Below wz.heap.size wz w' → w'.cell? ⟨hbx, 1, none⟩ = some (.string nm) ∧ w'.cell? ⟨hbx, 2, none⟩ = some (.string vl) ∧ w'.cell? ⟨hbx, 4, none⟩ = some (.bool wo)) := hd fun w' h => by
                obtain ⟨_, f1, f2, _, f4⟩ := HX.o _ (bel HZ.o h)
                exact ⟨f1, f2, f4⟩
              have B0 : Hd (Below wz.heap.size wz wz.drew) := hd (Below.refl _ _).drew
              clear HGB HMB HKB2 HWB HAO HBO HAS HSZ HTB HBB hgr hG hrest
              go_wp2_with fail
              go_region_held3 (fun w' => w'.cell? ⟨hbx, 1, none⟩ = some (.string nm) ∧ w'.cell? ⟨hbx, 2, none⟩ = some (.string vl) ∧ w'.cell? ⟨hbx, 4, none⟩ = some (.bool wo)) (first | exact HSS.o _ B8.o | exact HSS.o _ B7.o | exact HSS.o _ B6.o | exact HSS.o _ B5.o | exact HSS.o _ B4.o | exact HSS.o _ B3.o | exact HSS.o _ B2.o | exact HSS.o _ B1.o | exact HSS.o _ B0.o)
                (first
                  | (go_at_call 16; refine (lsame_any xe xf _ _ (L.keepL lx ns wo) (L.keepL lx ns wo) _ HE7.o HF7.o (by omega)).mono ?_; rintro e wl ⟨rfl, hb⟩; rw [decide_eq_true rfl]; have B8 := hd (bel B7.o hb); clear hb)
                  | (go_at_call 14; refine (refKeep_any _ n lx _ m ns wo _ (RI.o.below B6.o) (RM.o.below B6.o) (by omega) (by omega)).mono ?_; rintro e wf ⟨xf, rfl, ho, hb⟩; have B7 := hd (bel B6.o hb); have HE7 := hd (HE6.o.below hb); have HF7 := hd (IsL.own ho); clear ho hb)
                  | (go_at_call 15; refine (keep_any _ n lx _ m ns wo _ (RI.o.below B5.o) (RM.o.below B5.o) (by omega) (by omega)).mono ?_; rintro e we ⟨xe, rfl, ho, hb⟩; have B6 := hd (bel B5.o hb); have HE6 := hd (IsL.own ho); clear ho hb)
                  | (go_at_call 16; refine (lsame_any xc xd _ _ (L.withL lx nm vl) (L.withL lx nm vl) _ HC4'.o HD4'.o (by omega)).mono ?_; rintro e wk5 ⟨rfl, hb⟩; rw [decide_eq_true rfl]; have B5 := hd (bel B4.o hb); clear hb HC4')
                  | (go_at_call 13; refine (refWith_any _ n lx nm vl _ (RI.o.below B3.o) (by omega)).mono ?_; rintro e wd ⟨xd, rfl, ho, hb⟩; have B4 := hd (bel B3.o hb); have HC4' := hd (HC3'.o.below hb); have HD4' := hd (IsL.own ho); clear ho hb)
                  | (go_at_call 11; refine (with_any _ n lx nm vl _ (RI.o.below B2.o) (by omega)).mono ?_; rintro e wc ⟨xc, rfl, ho, hb⟩; have B3 := hd (bel B2.o hb); have HC3' := hd (IsL.own ho); clear ho hb)
                  | (go_at_call 16; refine (lsame_any xb xk _ _ (L.keepL l ns wo) (L.keepL l ns wo) _ (RB.o.below B1.o) (RK.o.below B1.o) (by omega)).mono ?_; rintro e wk2 ⟨rfl, hb⟩; rw [decide_eq_true rfl]; have B2 := hd (bel B1.o hb); clear hb)
                  | (go_at_call 16; refine (lsame_any xa xw _ _ (L.withL l nm vl) (L.withL l nm vl) _ (RA.o.below B0.o) (RW.o.below B0.o) (by omega)).mono ?_; rintro e wk1 ⟨rfl, hb⟩; rw [decide_eq_true rfl]; have B1 := hd (bel B0.o hb); clear hb))
              have HFB := hd (bel HBW.o (bel HZ.o B8.o))
              go_wp2
              go_roundw
              case rel => exact ⟨k + 1, by omega, by go_num, HFB⟩
              case measure => simp [intOf]; omega
    · go_wp2
      go_ret
      exact ⟨rfl, HB0.o⟩
theorem keeps_all (W : World) {H : Type} (v : Value) (d : DataW H) (h : Rows.uptoBulk d ≤ 1048576 → ∃ l, IsLAsks W v l) (hb : Rows.uptoBulk d + 0 ≤ 1048576) :
    Calls Try.prog 3 #[v] W fun e W' => e = .returned (.bool true) ∧ Below W.heap.size W W' := by
  obtain ⟨l, hl⟩ := h (by omega)
  exact keeps_walk v l W hl
end Go.Proofs.Ytifaepkeoffcfaa
