/- LabelsMakes: the law's walk. -/
import Derived.Test.YtifaepkeoffcfaaLAsk
import Derived.Test.YtifaepkeoffcfaaLPush
import Derived.Test.YtifaepkeoffcfaaLAwake
import Derived.Test.YtifaepkeoffcfaaLApart
import Derived.Test.YtifaepkeoffcfaaLCutMath
namespace Go.Proofs.Ytifaepkeoffcfaa
open Go.RowKit
set_option linter.unusedVariables false
set_option linter.unusedSimpArgs false
def sw23 (i : Nat) : Nat := if i = 2 then 3 else if i = 3 then 2 else i
set_option maxRecDepth 100000 in
set_option maxHeartbeats 8000000 in
theorem makes_walk (va : Value) (qs : List LAsk) (w : World) (hq : IsLAsks w va qs) :
    Calls Try.prog 8 #[va] w fun e w' => e = .returned (.bool true) ∧ Below w.heap.size w w' := by
  obtain ⟨A, c, rfl, hn, hc⟩ := hq
  have HC := hd hc
  unfold maxLen at hn
  clear hc
  go_enter Try.func8, Try.ntmps8
  go_wp2_with fail
  refine (awake_any _).mono ?_
  rintro e w1 ⟨rfl, hb1⟩
  have HB1 := hd hb1
  clear hb1
  go_wp2
  go_loopw [26] (fun x wr => ∃ k : Nat, k ≤ qs.length ∧ x = .int .i64 k ∧ Hd (Below w.heap.size w wr)) (fun x _ => qs.length - (intOf x).toNat)
  case atStart => exact ⟨0, Nat.zero_le _, rfl, HB1⟩
  case round =>
    clear HB1
    obtain ⟨k, hk, rfl, HB0⟩ := hrel
    by_cases hlt : k < qs.length
    · obtain ⟨b, off, A1, c1, A2, c2, rfl, d0, d1, d2, d3, d4, hL, hN, hS, hm, hcp⟩ := HC.o k hlt
      have hbl : b < w.heap.size := World.block_lt_of_cell? w _ d0
      replace d0 := (HB0.o.cell (p := ⟨b, off + k * 5, none⟩) hbl).trans d0
      replace d1 := (HB0.o.cell (p := ⟨b, off + k * 5 + 1, none⟩) hbl).trans d1
      replace d2 := (HB0.o.cell (p := ⟨b, off + k * 5 + 2, none⟩) hbl).trans d2
      replace d3 := (HB0.o.cell (p := ⟨b, off + k * 5 + 3, none⟩) hbl).trans d3
      replace d4 := (HB0.o.cell (p := ⟨b, off + k * 5 + 4, none⟩) hbl).trans d4
      generalize qs[k]'hlt = q at *
      obtain ⟨l, nm, vl, ns, wo⟩ := q
      simp only at d0 d1 d2 d3 d4 hL hN hS hm hcp
      obtain ⟨n, hnl⟩ : ∃ n, n = l.length := ⟨_, rfl⟩
      obtain ⟨m, hml⟩ : ∃ m, m = ns.length := ⟨_, rfl⟩
      rw [← hnl] at d0 hL hcp
      rw [← hml] at d3 hN hm
      obtain ⟨W0, hW0⟩ : ∃ W0, W0 = wr.alloc (.cells #[.slice A1 n c1, .string nm, .string vl, .slice A2 m c2, .bool wo] 29) := ⟨_, rfl⟩
      obtain ⟨hbx, hhbx⟩ : ∃ hbx, hbx = wr.heap.size := ⟨_, rfl⟩
      have HX : Hd (∀ w', Below W0.heap.size W0 w' → w'.cell? ⟨hbx, 0, none⟩ = some (.slice A1 n c1) ∧ w'.cell? ⟨hbx, 1, none⟩ = some (.string nm)) := hd <| by
        intro w' hb
        have hk : Bk w' hbx 29 [.slice A1 n c1, .string nm, .string vl, .slice A2 m c2, .bool wo] := by
          refine Bk.below ?_ hb
          rw [hW0, hhbx]
          show (wr.heap.push _)[wr.heap.size]? = _
          simp
        exact ⟨hk.cell 0 (by simp), hk.cell 1 (by simp)⟩
      have HBW : Hd (Below w.heap.size w W0) := hd (by rw [hW0]; exact HB0.o.alloc HB0.o.size _)
      have HL := hd (hL.below HBW.o)
      have HS := hd hS
      have hn2 : n ≤ 1048576 := by rw [hnl]; exact hS.1
      have HNL := hd hnl
      have HSZ : Hd (∀ y ∈ l, y.1.size ≤ 1125899906842624 ∧ y.2.size ≤ 1125899906842624) := hd fun y hy => by have := hS.2 y hy; omega
      have HML : Hd ((L.made l).length ≤ 1048576) := hd (by have := L.made_len l; omega)
      clear hL hN hS HB0 hnl hml
      go_wp2_with fail
      rw [← hW0, ← hhbx]
      clear hW0 hhbx d0 d1 d2 d3 d4 HC hbl
      refine (lent_any _ n l _ HL.o (by omega)).mono ?_
      rintro e w1 ⟨g, rfl, hg, hG, hb1⟩
      have B1 := hd hb1
      have HG1 := hd hG
      have HG1L := hd hG.lt
      clear hG hb1
      have hee : (L.mkErr l != L.mkErr l) = false := by simp
      obtain ⟨e0, e1⟩ := HX.o _ B1.o
      go_wp2_with fail
      refine (refMake_any A1 n c1 l _ (HL.o.below B1.o) hcp (by omega) HSZ.o).mono ?_
      rintro e w2 ⟨xw, rfl, how, hb⟩
      have B2 := hd (bel B1.o hb)
      have HLE := hd hb.size
      have HG2 := hd (HG1.o.below hb)
      have HW2 := hd how
      clear how hb HG1 e0 e1
      have HI2 : Hd (IsL 2 w2 (.slice (some ⟨g, 0, none⟩) n (n + 40)) n (cellsL l)) := hd <| by
        have h := HG2.o.isLN 2 n (n + 40) (by rw [cellsL_len, List.length_append, HNL.o]; omega)
        rw [cellsL_take, List.take_append_of_le_length (by rw [HNL.o]; exact Nat.le_refl _), List.take_of_length_le (by rw [HNL.o]; exact Nat.le_refl _)] at h
        exact h
      have HC2 : Hd (Below w2.heap.size w2 w2) := hd (Below.refl _ _)
      have L0 : Hd (Lin w2 w2.heap.size 26 2 0 (fun _ => .slice none 0 0) (fun _ => 0) (fun _ => cellsL [])) := hd ⟨fun i h => by omega, fun i j h => by omega⟩
      go_wp2_with fail
      refine (make_any (some ⟨g, 0, none⟩) n (n + 40) l _ (HI2.o.below HC2.o) (by omega) HSZ.o).mono ?_
      rintro e w3 ⟨x1, rfl, ho, hb⟩
      obtain ⟨Y1, y1, rfl⟩ := own_shape ho
      have L1 := hd (L0.o.pushNew ho hb HC2.o.size)
      have HC3 := hd (bel HC2.o hb)
      clear ho hb L0
      go_wp2_with fail
      refine (make_any (some ⟨g, 0, none⟩) n (n + 40) l _ (HI2.o.below HC3.o) (by omega) HSZ.o).mono ?_
      rintro e w4 ⟨x2, rfl, ho, hb⟩
      obtain ⟨Y2, y2, rfl⟩ := own_shape ho
      have L2 := hd (L1.o.pushNew ho hb HC3.o.size)
      have HC4 := hd (bel HC3.o hb)
      clear ho hb L1 HC3
      go_wp2_with fail
      refine (make_any (some ⟨w4.heap.size, 0, none⟩) 1 1 [(⟨#[122]⟩, ⟨#[122]⟩)] _ (IsL.own (World.ownsRow_lit (base := w4.heap.size) w4 #[.string ⟨#[122]⟩, .string ⟨#[122]⟩] 1 (Nat.le_refl _) (by decide) rfl)) (by decide) (by intro y hy; simp at hy; rcases hy with rfl <;> decide)).mono ?_
      rintro e w5 ⟨x3, rfl, ho, hb⟩
      obtain ⟨Y3, y3, rfl⟩ := own_shape ho
      have L3 := hd ((L2.o.below ((Below.refl w4.heap.size w4).alloc (Nat.le_refl _) (.cells #[.string ⟨#[122]⟩, .string ⟨#[122]⟩] 26))).pushNew ho hb (Nat.le_trans HC4.o.size (by simp)))
      have HC5 := hd ((HC4.o.alloc HC4.o.size (.cells #[.string ⟨#[122]⟩, .string ⟨#[122]⟩] 26)).trans (hb.mono (Nat.le_trans HC4.o.size (by simp))))
      clear ho hb L2 HC4
      go_wp2_with fail
      refine (make_any (some ⟨g, 0, none⟩) n (n + 40) l _ (HI2.o.below HC5.o) (by omega) HSZ.o).mono ?_
      rintro e w6 ⟨x4, rfl, ho, hb⟩
      obtain ⟨Y4, y4, rfl⟩ := own_shape ho
      have L4 := hd (L3.o.pushNew ho hb HC5.o.size)
      have HC6 := hd (bel HC5.o hb)
      clear ho hb L3 HC5
      have HW6 := hd (IsL.own (own_below HW2.o HC6.o))
      have HD6 : Hd (Below w6.heap.size w6 w6) := hd (Below.refl _ _)
      have HR1 : Hd (IsL 2 w6 (.slice Y1 (L.made l).length y1) (L.made l).length (cellsL (L.made l))) := hd (IsL.own (L4.o.own 0 (by omega)))
      have HR2 : Hd (IsL 2 w6 (.slice Y2 (L.made l).length y2) (L.made l).length (cellsL (L.made l))) := hd (IsL.own (L4.o.own 1 (by omega)))
      have HR4 : Hd (IsL 2 w6 (.slice Y4 (L.made l).length y4) (L.made l).length (cellsL (L.made l))) := hd (IsL.own (L4.o.own 3 (by omega)))
      go_wp2_with fail
      refine (lsame_any _ _ _ _ (L.made l) (L.made l) _ (HR1.o.below HD6.o) (HW6.o.below HD6.o) (by have := HML.o; omega)).mono ?_
      rintro e w7 ⟨rfl, hb⟩
      rw [decide_eq_true rfl]
      have HD7 := hd (bel HD6.o hb)
      clear hb HD6
      go_wp2_with fail
      refine (lsame_any _ _ _ _ (L.made l) (L.made l) _ (HR2.o.below HD7.o) (HW6.o.below HD7.o) (by have := HML.o; omega)).mono ?_
      rintro e w8 ⟨rfl, hb⟩
      rw [decide_eq_true rfl]
      have HD8 := hd (bel HD7.o hb)
      clear hb HD7
      go_wp2_with fail
      refine (lsame_any _ _ _ _ (L.made l) (L.made l) _ (HR4.o.below HD8.o) (HW6.o.below HD8.o) (by have := HML.o; omega)).mono ?_
      rintro e w9 ⟨rfl, hb⟩
      rw [decide_eq_true rfl]
      have HD9 := hd (bel HD8.o hb)
      clear hb HD8
      obtain ⟨xx, hxx⟩ : ∃ xx : Nat → List Lb, xx = upd (upd (upd (upd (fun _ => []) 0 (L.made l)) 1 (L.made l)) 2 (L.made [(⟨#[122]⟩, ⟨#[122]⟩)])) 3 (L.made l) := ⟨_, rfl⟩
      have HLX := hd (show Lin w6 w2.heap.size 26 2 4 _ _ (fun a => cellsL (xx a)) from by
        rw [hxx]
        have h := L4.o
        simp only [Nat.zero_add] at h
        rw [show (fun _ : Nat => cellsL []) = (fun a => cellsL ((fun _ => []) a)) from rfl, updC, updC, updC, updC] at h
        exact h)
      clear hxx
      have HMZ : Hd ((L.made [(⟨#[122]⟩, ⟨#[122]⟩)]).length ≤ 1) := hd (L.made_len _)
      have HEK := hd (bel HC6.o HD9.o)
      have HLA := hd (((HLX.o.below HD9.o).below ((Below.refl w9.heap.size w9).alloc (Nat.le_refl _) (.cells #[.slice Y1 (L.made l).length y1, .slice Y2 (L.made l).length y2, .slice Y4 (L.made l).length y4, .slice Y3 (L.made [(⟨#[122]⟩, ⟨#[122]⟩)]).length y3] 23))).perm sw23 (by intro i hi; unfold sw23; split <;> (try split) <;> omega) (by intro i j hi hj hne; unfold sw23; split <;> split <;> (try split) <;> (try split) <;> omega))
      go_wp2_with fail
      refine (lapart_any w2.heap.size 4 w9.heap.size 4 _ _ (fun a => xx (sw23 a)) _ (World.ownsRow_lit w9 #[.slice Y1 (L.made l).length y1, .slice Y2 (L.made l).length y2, .slice Y4 (L.made l).length y4, .slice Y3 (L.made [(⟨#[122]⟩, ⟨#[122]⟩)]).length y3] 4 HEK.o.size (by decide) rfl) HLA.o (by decide) ?_ (by have := HEK.o.size; simp; omega)).mono ?_
      · intro i hi
        have g1 := HML.o
        have g2 := HMZ.o
        have h4 : i = 0 ∨ i = 1 ∨ i = 2 ∨ i = 3 := by omega
        rcases h4 with rfl | rfl | rfl | rfl
        · exact Nat.le_trans g1 (by decide)
        · exact Nat.le_trans g1 (by decide)
        · exact Nat.le_trans g1 (by decide)
        · exact Nat.le_trans g2 (by decide)
      rintro e v1 ⟨rfl, hb⟩
      have HE1 := hd ((HEK.o.alloc HEK.o.size _).trans hb)
      clear hb HLA HLX HEK
      obtain ⟨e0, e1⟩ := HX.o _ (bel B2.o HE1.o)
      go_wp2_with fail
      refine (whole_any g _ n l _ (HG2.o.below HE1.o) (HL.o.below (bel B2.o HE1.o)) (by omega)).mono ?_
      rintro e v2 ⟨rfl, hb⟩
      have HE2 := hd (bel HE1.o hb)
      clear hb HE1 e0 e1
      have CV1 := hd (fun p : BelW v2 => vld_any _ n l p.w (HI2.o.below (bel HE2.o p.h)) (by omega) HSZ.o)
      have CV2 := hd (fun p : BelW v2 => refVld_any _ n l p.w (HL.o.below (bel B2.o (bel HE2.o p.h))) (by omega) HSZ.o)
      have CG1 := hd (fun p : BelW v2 => get_any _ n l nm p.w (HI2.o.below (bel HE2.o p.h)) (by omega))
      have CG2 := hd (fun p : BelW v2 => refGet_any _ n l nm p.w (HL.o.below (bel B2.o (bel HE2.o p.h))) (by omega))
      have CW := hd (fun p : BelW v2 => whole_any g _ n l p.w (HG2.o.below (bel HE2.o p.h)) (HL.o.below (bel B2.o (bel HE2.o p.h))) (by omega))
      generalize hbv : L.vld l = bv at *
      generalize hgv : L.get nm l = gv at *
      have hb1 : (bv != bv) = false := by simp
      have hb2 : (gv.toList == gv.toList) = true := by simp
      clear hbv hgv
      go_wp2_with fail
      refine wp_region_below (by kernel_rfl) (by kernel_rfl) ?_
      have f0 := fun p : BelW v2 => (HX.o _ (bel B2.o (bel HE2.o p.h))).1
      have f1 := fun p : BelW v2 => (HX.o _ (bel B2.o (bel HE2.o p.h))).2
      repeat (go_big_quiet_step (first | (go_at_call 33; exact Calls.below_of (CV1.o _)) | (go_at_call 34; exact Calls.below_of (CV2.o _)) | (go_at_call 35; exact Calls.below_of (CG1.o _)) | (go_at_call 36; exact Calls.below_of (CG2.o _)) | (go_at_call 18; exact Calls.below_of (CW.o _))))
      refine wpQuiet_nil ?_
      rintro _ ⟨p, rfl⟩
      clear f0 f1 CV1 CV2 CG1 CG2 CW hb1 hb2
      have HE3 := hd (bel HE2.o p.h)
      clear HE2
      go_wp2_with fail
      refine (make_any (some ⟨g, 0, none⟩) n (n + 40) l _ (HI2.o.below HE3.o) (by omega) HSZ.o).mono ?_
      rintro e v3 ⟨xd, rfl, ho, hb⟩
      have HE4 := hd (bel HE3.o hb)
      have HD4 := hd ho
      have HG4 := hd (HG2.o.below HE4.o)
      have HW4 := hd (own_below HW2.o HE4.o)
      have HGL := hd (show g < w1.heap.size ∧ w1.heap.size ≤ w2.heap.size ∧ w2.heap.size ≤ p.w.heap.size from ⟨HG1L.o, HLE.o, HE3.o.size⟩)
      clear ho hb HE3
      go_wp2
      go_loopw [140] (fun x wq => ∃ (i : Nat) (lx : List Lb), i ≤ n ∧ x = .int .i64 i ∧ Hd (lx.length = n ∧ ∀ y ∈ lx, y.1.size ≤ 1048577 ∧ y.2.size ≤ 1048577) ∧ Hd (Bk wq g 26 (cellsL (lx ++ lentL 40))) ∧ Hd (∀ j (h : j < lx.length), i ≤ j → (lx[j]'h).2.size ≤ 1048576) ∧ Hd (v3.grownBy wq (some g))) (fun x _ => n - (intOf x).toNat)
      case atStart =>
        refine ⟨0, l, Nat.zero_le _, rfl, hd ⟨HNL.o.symm, fun y hy => ?_⟩, HG4, hd fun j hj _ => (HS.o.2 _ (List.getElem_mem hj)).2, hd (World.grownBy.refl _ _)⟩
        have := HS.o.2 y hy
        omega
      case round =>
        obtain ⟨i, lx, hi, rfl, hlx, hG, hrest, hgr⟩ := hrel
        by_cases hin : i < n
        · have hil : i < lx.length := by rw [hlx.o.1]; exact hin
          have hil2 : i < (lx ++ lentL 40).length := by rw [List.length_append]; omega
          obtain ⟨p1, p2⟩ := cellsL_at (lx ++ lentL 40) i hil2
          have hle : i * 2 + 1 < (cellsL (lx ++ lentL 40)).length := by rw [cellsL_len]; omega
          have c0 := hG.o.cell (i * 2 + 1) hle
          rw [List.getElem?_eq_getElem hle] at p2
          rw [Option.some.inj p2, show (lx ++ lentL 40)[i]'hil2 = lx[i]'hil from List.getElem_append_left hil] at c0
          have f0 := hG.o.frozen (i * 2 + 1)
          have hsz := hrest.o i hil (Nat.le_refl _)
          have HNEW : Hd (∀ u : ByteArray, (cellsL (lx ++ lentL 40)).set (i * 2 + 1) (.string u) = cellsL (lx.set i ((lx[i]'hil).1, u) ++ lentL 40)) := hd fun u => cellsL_setV lx (lentL 40) i hil u
          have z1 : ¬ 9223372036854775807 < (lx[i]'hil).2.size + 1 := by omega
          have z2 : ¬ 281474976710656 < (lx[i]'hil).2.size + 1 := by omega
          clear p1 p2 hle hil2
          go_wp2
          go_roundw
          case rel =>
            refine ⟨i + 1, lx.set i ((lx[i]'hil).1, (lx[i]'hil).2 ++ (⟨#[120]⟩ : ByteArray)), by omega, by go_num, hd ⟨by rw [List.length_set]; exact hlx.o.1, fun y hy => ?_⟩, hd ?_, hd fun j hj hij => ?_, hd (grownBy_setV hgr.o _)⟩
            · rcases List.mem_or_eq_of_mem_set hy with h | h
              · exact hlx.o.2 y h
              · subst h
                refine ⟨(hlx.o.2 _ (List.getElem_mem hil)).1, ?_⟩
                show (_ ++ _ : ByteArray).size ≤ _
                rw [ByteArray.size_append]
                have : (⟨#[120]⟩ : ByteArray).size = 1 := rfl
                omega
            · rw [← HNEW.o]; exact hG.o.set _ _
            · rw [List.length_set] at hj
              rw [List.getElem_set_ne (by omega)]
              exact hrest.o j hj (by omega)
          case measure => simp [intOf]; omega
        · obtain ⟨wz, rfl⟩ : ∃ wz : World, wz = wr := ⟨_, rfl⟩
          have HBB := hd (bel HBW.o (bel B2.o HE4.o))
          have hs4 := HGL.o
          have HZ := hd (HBB.o.grown hgr.o HBB.o.size (fun q hq => by have h : g = q := Option.some.inj hq; have h2 := HBW.o.size; omega))
          have RD := hd (IsL.own (HD4.o.kept hgr.o (.inr fun e => by have := (HD4.o.lt g e).1; omega)))
          have RW := hd (IsL.own (HW4.o.kept hgr.o (.inr fun e => by have := (HW4.o.lt g e).1; omega)))
          have RI : Hd (IsL 2 wz (.slice (some ⟨g, 0, none⟩) n (n + 40)) n (cellsL lx)) := hd <| by
            have h := hG.o.isLN 2 n (n + 40) (by rw [cellsL_len, List.length_append, hlx.o.1]; omega)
            rw [cellsL_take, List.take_append_of_le_length (by rw [hlx.o.1]; exact Nat.le_refl _), List.take_of_length_le (by rw [hlx.o.1]; exact Nat.le_refl _)] at h
            exact h
          have HSX : Hd (∀ y ∈ lx, y.1.size ≤ 1125899906842624 ∧ y.2.size ≤ 1125899906842624) := hd fun y hy => by have := hlx.o.2 y hy; omega
          have HMX : Hd ((L.made lx).length ≤ 1048576) := hd (by have := L.made_len lx; have := hlx.o.1; omega)
          have hex : (L.mkErr l != L.mkErr l) = false := by simp
          have hex2 : (L.mkErr lx != L.mkErr lx) = false := by simp
          clear HD4 HW4 hgr hG hrest HBB hlx
          go_wp2_with fail
          refine (refMake_any (some ⟨g, 0, none⟩) n (n + 40) lx _ RI.o (by omega) (by omega) HSX.o).mono ?_
          rintro e z1 ⟨xn, rfl, ho, hb⟩
          have Z1 := hd hb
          have HN1 := hd (IsL.own ho)
          clear ho hb
          go_wp2_with fail
          refine (make_any (some ⟨g, 0, none⟩) n (n + 40) lx _ (RI.o.below Z1.o) (by omega) HSX.o).mono ?_
          rintro e z2 ⟨xh, rfl, ho, hb⟩
          have Z2 := hd (bel Z1.o hb)
          have HN2 := hd (HN1.o.below hb)
          have HH2 := hd (IsL.own ho)
          clear ho hb HN1 Z1
          go_wp2_with fail
          refine (lsame_any _ _ _ _ (L.made l) (L.made l) _ (RD.o.below Z2.o) (RW.o.below Z2.o) (by have := HML.o; omega)).mono ?_
          rintro e z3 ⟨rfl, hb⟩
          rw [decide_eq_true rfl]
          have Z3 := hd (bel Z2.o hb)
          have HN3 := hd (HN2.o.below hb)
          have HH3 := hd (HH2.o.below hb)
          clear hb HN2 HH2 Z2
          go_wp2_with fail
          refine (lsame_any _ _ _ _ (L.made lx) (L.made lx) _ HH3.o HN3.o (by have := HMX.o; omega)).mono ?_
          rintro e z4 ⟨rfl, hb⟩
          rw [decide_eq_true rfl]
          have Z4 := hd (bel Z3.o hb)
          clear hb HN3 HH3 Z3
          go_wp2_with fail
          refine (vld_any _ n lx _ (RI.o.below Z4.o) (by omega) HSX.o).mono ?_
          rintro e z5 ⟨rfl, hb⟩
          have Z5 := hd (bel Z4.o hb)
          clear hb Z4
          go_wp2_with fail
          refine (refVld_any _ n lx _ (RI.o.below Z5.o) (by omega) HSX.o).mono ?_
          rintro e z6 ⟨rfl, hb⟩
          have Z6 := hd (bel Z5.o hb)
          clear hb Z5
          generalize L.vld lx = bz at *
          have hbz : (bz != bz) = false := by simp
          have HFB := hd (bel HZ.o Z6.o)
          clear Z6 RD RW RI HZ
          go_wp2
          go_roundw
          case rel => exact ⟨k + 1, by omega, by go_num, HFB⟩
          case measure => simp [intOf]; omega
    · go_wp2
      go_ret
      exact ⟨rfl, HB0.o⟩
theorem makes_all (W : World) {H : Type} (v : Value) (d : DataW H) (h : Rows.uptoBulk d ≤ 1048576 → ∃ l, IsLAsks W v l) (hb : Rows.uptoBulk d + 0 ≤ 1048576) :
    Calls Try.prog 8 #[v] W fun e W' => e = .returned (.bool true) ∧ Below W.heap.size W W' := by
  obtain ⟨l, hl⟩ := h (by omega)
  exact makes_walk v l W hl
end Go.Proofs.Ytifaepkeoffcfaa
