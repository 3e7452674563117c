/- LabelsCuts: the law's walk. -/
import Derived.Test.YtifaepkeoffcfaaLCutMath
import Derived.Test.YtifaepkeoffcfaaLAwake
import Derived.Test.YtifaepkeoffcfaaBk
import Derived.Test.YtifaepkeoffcfaaLAskR
namespace Go.Proofs.Ytifaepkeoffcfaa
open Go.RowKit
set_option linter.unusedVariables false
set_option linter.unusedSimpArgs false
theorem ByteArray.isEmpty_lit : (⟨#[]⟩ : ByteArray).toList.isEmpty = true := by rw [L.e_nil]; rfl
set_option maxRecDepth 100000 in
set_option maxHeartbeats 8000000 in
theorem cuts_walk (A1 A2 : Option Addr) (c1 c2 n m : Nat) (l : List Lb) (nm vl : ByteArray) (ns : List ByteArray) (wo : Bool) (w : World)
    (hl : IsL 2 w (.slice A1 n c1) n (cellsL l)) (hs : IsL 1 w (.slice A2 m c2) m (cellsS ns)) (hn : n ≤ 4398046510976) (hm : m ≤ 8796093021952) (hS : ∀ y ∈ l, y.1.size ≤ 1125899906842624 ∧ y.2.size ≤ 1125899906842624) :
    Calls Try.prog 10 #[.agg #[.slice A1 n c1, .string nm, .string vl, .slice A2 m c2, .bool wo]] w fun e w' => e = .returned (.bool true) ∧ Below w.heap.size w w' := by
  have HNL := hd (IsLb.len hl)
  obtain ⟨W0, hW0⟩ : ∃ W0, W0 = w.alloc (.cells #[.slice A1 n c1, .string nm, .string vl, .slice A2 m c2, .bool wo] 29) := ⟨_, rfl⟩
  obtain ⟨bx, hbx⟩ : ∃ bx, bx = w.heap.size := ⟨_, rfl⟩
  have HX : Hd (∀ w', Below W0.heap.size W0 w' → w'.cell? ⟨bx, 0, none⟩ = some (.slice A1 n c1) ∧ w'.cell? ⟨bx, 1, none⟩ = some (.string nm) ∧ w'.cell? ⟨bx, 2, none⟩ = some (.string vl) ∧ w'.cell? ⟨bx, 3, none⟩ = some (.slice A2 m c2)) := hd <| by
    intro w' hb
    have hk : Bk w' bx 29 [.slice A1 n c1, .string nm, .string vl, .slice A2 m c2, .bool wo] := by
      refine Bk.below ?_ hb
      rw [hW0, hbx]
      show (w.heap.push _)[w.heap.size]? = _
      simp
    exact ⟨hk.cell 0 (by simp), hk.cell 1 (by simp), hk.cell 2 (by simp), hk.cell 3 (by simp)⟩
  have HBW : Hd (Below w.heap.size w W0) := hd (by rw [hW0]; exact (Below.refl _ _).alloc (Nat.le_refl _) _)
  have HL := hd (hl.below HBW.o)
  have HN := hd (hs.below HBW.o)
  have HS := hd hS
  have HML := hd (L.made_len l)
  have HMS := hd (L.made_sound l)
  have HMM := hd (L.made_mem l)
  clear hl hs hS
  go_enter Try.func10, Try.ntmps10
  go_wp2_with fail
  rw [← hW0, ← hbx]
  have HW0 := hd hW0
  clear hW0 hbx
  refine (awake_any _).mono ?_
  rintro e w1 ⟨rfl, hb1⟩
  have B1 := hd hb1
  clear hb1
  obtain ⟨e0, e1, e2, e3⟩ := HX.o _ B1.o
  go_wp2_with fail
  go_quiet (fail)
  have B2 := hd (bel_drew B1.o nq)
  clear e0 e1 e2 e3 B1
  go_wp2_with fail
  refine (make_any A1 n c1 l _ (HL.o.below B2.o) hn HS.o).mono ?_
  rintro e w3 ⟨x, rfl, ho, hb⟩
  have B3 := hd (bel B2.o hb)
  have HM3 := hd (IsL.own ho)
  clear ho hb B2
  generalize hM : L.made l = M at *
  obtain ⟨N, hNn⟩ : ∃ N, N = M.length := ⟨_, rfl⟩
  have HNM := hd hNn
  rw [← hNn] at HM3
  have hNle : N ≤ n := by rw [hNn, ← HNL.o]; exact HML.o
  obtain ⟨AM, cM, rfl⟩ := HM3.o.shape
  have HSM : Hd (∀ y ∈ M, y.1.size ≤ 1125899906842624 ∧ y.2.size ≤ 1125899906842624) := hd fun y hy => HS.o y (HMM.o y hy)
  clear hM hNn HML
  by_cases h0 : L.mkErr l = 0
  · have eb : (L.mkErr l != 0) = false := by rw [h0]; rfl
    clear h0
    go_wp2_with fail
    refine (with_any _ N M nm vl _ HM3.o (by omega)).mono ?_
    rintro e w4 ⟨x4, rfl, ho, hb⟩
    obtain ⟨K, hK⟩ : ∃ K, K = (L.withL M nm vl).length := ⟨_, rfl⟩
    have HK := hd hK
    have hK1 : K ≤ N + 1 := by rw [hK, HNM.o]; exact L.withL_le M nm vl
    have hK2 : N ≤ K + 1 := by rw [hK, HNM.o]; exact L.withL_ge HMS.o.s.dist nm vl
    rw [← hK] at ho
    obtain ⟨A4, c4, rfl⟩ := own_shape ho
    have HW4 := hd (IsL.own ho)
    have B4 := hd (bel B3.o hb)
    have HM4 := hd (HM3.o.below hb)
    have HGW := hd (L.withL_get M nm vl)
    clear ho hb hK B3 HM3
    go_wp2_with fail
    refine (get_any _ K _ nm _ HW4.o (by omega)).mono ?_
    rintro e w5 ⟨rfl, hb⟩
    rw [HGW.o]
    have B5 := hd (bel B4.o hb)
    have HM5 := hd (HM4.o.below hb)
    have HW5 := hd (HW4.o.below hb)
    clear hb B4 HM4 HW4
    have hvv : (vl.toList == vl.toList) = true := by simp
    go_wp2
    go_loopw [46] (fun x wr => ∃ k : Nat, k ≤ N ∧ x = .int .i64 k ∧ Hd (Below w5.heap.size w5 wr)) (fun x _ => N - (intOf x).toNat)
    case atStart => exact ⟨0, Nat.zero_le _, rfl, hd (Below.refl _ _)⟩
    case round =>
      obtain ⟨k, hk, rfl, HB⟩ := hrel
      have hzr := HB.o.size
      by_cases hlt : k < N
      · have hkl : k < M.length := by rw [← HNM.o]; exact hlt
        obtain ⟨b, off, rfl, hbl, q1, q2⟩ := IsLb.at_ HM5.o k hkl
        have d1 := (HB.o.cell (p := ⟨b, off + k * 2, none⟩) hbl).trans q1
        have d2 := (HB.o.cell (p := ⟨b, off + k * 2 + 1, none⟩) hbl).trans q2
        have HXM := hd (L.get_mem HMS.o.s.dist _ (List.getElem_mem hkl))
        have HGO := hd (fun h => (L.withL_get_other M (n := nm) (v := vl) (a := (M[k]'hkl).1) h))
        clear q1 q2
        generalize M[k]'hkl = x at *
        obtain ⟨x1, x2⟩ := x
        simp only at d1 d2 HXM HGO
        obtain ⟨V, hV⟩ : ∃ V, V = wr.alloc (.cells #[.string x1, .string x2] 26) := ⟨_, rfl⟩
        obtain ⟨g, hg⟩ : ∃ g, g = wr.heap.size := ⟨_, rfl⟩
        have f1 : V.cell? ⟨g, 0, none⟩ = some (.string x1) := by rw [hV, hg]; simp
        have f2 : V.cell? ⟨g, 1, none⟩ = some (.string x2) := by rw [hV, hg]; simp
        have HBV : Hd (Below w5.heap.size w5 V) := hd (by rw [hV]; exact HB.o.alloc hzr _)
        have HC := hd (And.intro f1 f2)
        have HV := hd hV
        have HG := hd hg
        clear f1 f2 hV hg
        by_cases hxn : x1 = nm
        · have he : (x1.toList == nm.toList) = true := by rw [hxn]; simp
          have he2 : x1.toList = nm.toList := by rw [hxn]
          clear hxn
          go_wp2_with fail
          rw [← HV.o, ← HG.o]
          refine wp_region_below (by kernel_rfl) (by kernel_rfl) ?_
          have f1 := fun p : BelW V => p.cell (HC.o).1
          repeat (go_big_quiet_step (fail))
          refine wpQuiet_nil ?_
          rintro _ ⟨p, rfl⟩
          clear f1
          have HB2 := hd (bel HBV.o p.h)
          go_wp2
          go_roundw
          case rel => exact ⟨k + 1, by omega, by go_num, HB2⟩
          case measure => simp [intOf]; omega
        · have he : (x1.toList == nm.toList) = false := bytes_ne hxn
          have he2 : ¬ x1.toList = nm.toList := fun h => hxn (toList_inj.1 h)
          have CG := hd (fun p : BelW V => by have h := get_any _ K _ x1 p.w (HW5.o.below (bel HBV.o p.h)) (by omega); rw [HGO.o (Ne.symm hxn), HXM.o] at h; exact h)
          have hx2 : (x2.toList == x2.toList) = true := by simp
          clear hxn
          go_wp2_with fail
          rw [← HV.o, ← HG.o]
          refine wp_region_below (by kernel_rfl) (by kernel_rfl) ?_
          have f1 := fun p : BelW V => p.cell (HC.o).1
          have f2 := fun p : BelW V => p.cell (HC.o).2
          repeat (go_big_quiet_step (first | (go_at_call 35; exact Calls.below_of (CG.o _))))
          refine wpQuiet_nil ?_
          rintro _ ⟨p, rfl⟩
          clear f1 f2
          have HB2 := hd (bel HBV.o p.h)
          go_wp2
          go_roundw
          case rel => exact ⟨k + 1, by omega, by go_num, HB2⟩
          case measure => simp [intOf]; omega
      · obtain ⟨w6, rfl⟩ : ∃ w6 : World, w6 = wr := ⟨_, rfl⟩
        have B6 := hd (bel B5.o HB.o)
        have HM6 := hd (HM5.o.below HB.o)
        have HN6 := hd (HN.o.below B6.o)
        clear HB HW5 HM5 B5
        have hkk1 : decide ((N : Int) + 1 < (K : Int)) = false := by rw [decide_eq_false_iff_not]; omega
        have hkk2 : decide ((K : Int) < (N : Int) - 1) = false := by rw [decide_eq_false_iff_not]; omega
        have hkk3 : decide (N + 1 < K) = false := by rw [decide_eq_false_iff_not]; omega
        go_wp2_with fail
        refine (keep_any _ N M _ m ns false _ HM6.o HN6.o (by omega) hm).mono ?_
        rintro e w7 ⟨x7, rfl, ho, hb⟩
        obtain ⟨I, hI⟩ : ∃ I, I = (L.keepL M ns false).length := ⟨_, rfl⟩
        have HI := hd hI
        have hI1 : I ≤ N := by rw [hI, HNM.o]; exact L.keep_len _ _ _
        rw [← hI] at ho
        obtain ⟨A7, c7, rfl⟩ := own_shape ho
        have HI7 := hd (IsL.own ho)
        have B7 := hd (bel B6.o hb)
        have HM7 := hd (HM6.o.below hb)
        clear ho hb hI B6 HM6 HN6
        have HN7 := hd (HN.o.below B7.o)
        go_wp2_with fail
        refine (keep_any _ N M _ m ns true _ HM7.o HN7.o (by omega) hm).mono ?_
        rintro e w8 ⟨x8, rfl, ho, hb⟩
        obtain ⟨J, hJ⟩ : ∃ J, J = (L.keepL M ns true).length := ⟨_, rfl⟩
        have HJ := hd hJ
        have hJ1 : J ≤ N := by rw [hJ, HNM.o]; exact L.keep_len _ _ _
        rw [← hJ] at ho
        obtain ⟨A8, c8, rfl⟩ := own_shape ho
        have HJ8 := hd (IsL.own ho)
        have B8 := hd (bel B7.o hb)
        have HM8 := hd (HM7.o.below hb)
        have HI8 := hd (HI7.o.below hb)
        clear ho hb hJ B7 HM7 HI7 HN7
        have HSI : Hd (∀ y ∈ L.keepL M ns false, y.1.size ≤ 1125899906842624 ∧ y.2.size ≤ 1125899906842624) := hd fun y hy => HSM.o y (L.keep_in.1 hy).1
        have HSJ : Hd (∀ y ∈ L.keepL M ns true, y.1.size ≤ 1125899906842624 ∧ y.2.size ≤ 1125899906842624) := hd fun y hy => HSM.o y (L.keep_out.1 hy).1
        have HVI := hd (HMS.o.keep ns false).vld
        have HVJ := hd (HMS.o.keep ns true).vld
        have HGJ := hd (L.keep_metric M ns)
        have HSUM := hd (L.cut_sum HMS.o ns)
        have HEA := hd (L.cut_each HMS.o ns)
        rw [← HI.o, ← HJ.o, ← HNM.o] at HSUM
        generalize L.keepL M ns false = KI at *
        generalize L.keepL M ns true = KJ at *
        go_wp2_with fail
        refine (vld_any _ I KI _ HI8.o (by omega) HSI.o).mono ?_
        rintro e w9 ⟨rfl, hb⟩
        rw [HVI.o]
        have B9 := hd (bel B8.o hb)
        have HM9 := hd (HM8.o.below hb)
        have HI9 := hd (HI8.o.below hb)
        have HJ9 := hd (HJ8.o.below hb)
        clear hb B8 HM8 HI8 HJ8
        go_wp2_with fail
        refine (vld_any _ J KJ _ HJ9.o (by omega) HSJ.o).mono ?_
        rintro e w10 ⟨rfl, hb⟩
        rw [HVJ.o]
        have B10 := hd (bel B9.o hb)
        have HM10 := hd (HM9.o.below hb)
        have HI10 := hd (HI9.o.below hb)
        have HJ10 := hd (HJ9.o.below hb)
        clear hb B9 HM9 HI9 HJ9
        go_wp2_with fail
        refine (get_any _ J KJ L.metric _ HJ10.o (by omega)).mono ?_
        rintro e w11 ⟨rfl, hb⟩
        rw [HGJ.o]
        have B11 := hd (bel B10.o hb)
        have HM11 := hd (HM10.o.below hb)
        have HI11 := hd (HI10.o.below hb)
        have HJ11 := hd (HJ10.o.below hb)
        clear hb B10 HM10 HI10 HJ10
        have hnil : (⟨#[]⟩ : ByteArray).toList = [] := L.e_nil
        go_wp2_with fail
        refine (get_any _ N M L.metric _ HM11.o (by omega)).mono ?_
        rintro e w12 ⟨rfl, hb⟩
        have B12 := hd (bel B11.o hb)
        have HM12 := hd (HM11.o.below hb)
        have HI12 := hd (HI11.o.below hb)
        have HJ12 := hd (HJ11.o.below hb)
        clear hb B11 HM11 HI11 HJ11
        generalize L.get L.metric M = g1 at *
        cases h1 : g1.toList.isEmpty with
        | true =>
          have hem := empty_of h1
          rw [h1] at HSUM
          have hz1 : ((I : Int) + (J : Int) != (N : Int)) = false := by
            have h := HSUM.o
            simp only [Bool.not_true, Bool.false_and, Bool.false_eq_true, if_false] at h
            rw [bne_eq_false_iff_eq]; omega
          obtain ⟨wz, rfl⟩ : ∃ wz : World, wz = w12 := ⟨_, rfl⟩
          have BZ := B12
          have HMZ := HM12
          have HIZ := HI12
          have HJZ := HJ12
          clear HSUM B12 HM12 HI12 HJ12
          go_wp2
          go_loopw [118] (fun x wr => ∃ k : Nat, k ≤ N ∧ x = .int .i64 k ∧ Hd (Below wz.heap.size wz wr)) (fun x _ => N - (intOf x).toNat)
          case atStart => exact ⟨0, Nat.zero_le _, rfl, hd (Below.refl _ _)⟩
          case round =>
            obtain ⟨k, hk, rfl, HB⟩ := hrel
            have hzr := HB.o.size
            by_cases hlt : k < N
            · have hkl : k < M.length := by rw [← HNM.o]; exact hlt
              obtain ⟨b, off, rfl, hbl, q1, q2⟩ := IsLb.at_ HMZ.o k hkl
              have d1 := (HB.o.cell (p := ⟨b, off + k * 2, none⟩) hbl).trans q1
              have d2 := (HB.o.cell (p := ⟨b, off + k * 2 + 1, none⟩) hbl).trans q2
              have HE := hd (HEA.o _ (List.getElem_mem hkl))
              have hx2 := HMS.o.val _ (List.getElem_mem hkl)
              clear q1 q2
              generalize M[k]'hkl = x at *
              obtain ⟨x1, x2⟩ := x
              simp only at d1 d2 HE hx2
              have hxx : (x2.toList == x2.toList) = true := by simp
              have hem := nonempty_of hx2
              have hnx : (([] : List UInt8) == x2.toList) = false := by rw [beq_eq_false_iff_ne]; exact fun e => hem e.symm
              have hnx2 : ¬ ([] : List UInt8) = x2.toList := fun e => hem e.symm
              have HBV : Hd (Below wz.heap.size wz (wr.alloc (.cells #[.string x1, .string x2] 26))) := hd (HB.o.alloc hzr _)
              have HBX : Hd ((wr.alloc (.cells #[.string x1, .string x2] 26)).cell? ⟨wr.heap.size, 0, none⟩ = some (.string x1) ∧ (wr.alloc (.cells #[.string x1, .string x2] 26)).cell? ⟨wr.heap.size, 1, none⟩ = some (.string x2)) := hd (by constructor <;> simp)
              go_wp2_with fail
              refine (get_any _ I KI x1 _ (HIZ.o.below HBV.o) (by omega)).mono ?_
              rintro e y1 ⟨rfl, hb⟩
              have HBY := hd (bel HBV.o hb)
              have r1 := (hb.cell (p := ⟨wr.heap.size, 0, none⟩) (by simp)).trans (HBX.o).1
              have r2 := (hb.cell (p := ⟨wr.heap.size, 1, none⟩) (by simp)).trans (HBX.o).2
              have HR := hd (And.intro r1 r2)
              have hsy := hd (show wr.heap.size < y1.heap.size from Nat.lt_of_lt_of_le (by simp) hb.size)
              clear hb
              rcases HE.o with ⟨g3, g4⟩ | ⟨g3, g4⟩ | ⟨g3, g4⟩
              · rw [g4]
                clear g3 g4 HE
                go_wp2
                go_roundw
                case rel => exact ⟨k + 1, by omega, by go_num, HBY⟩
                case measure => simp [intOf]; omega
              · rw [g3]
                have HG4 := hd g4
                clear g3 g4 HE
                go_wp2_with fail
                refine (get_any _ J KJ x1 _ (HJZ.o.below HBY.o) (by omega)).mono ?_
                rintro e y2 ⟨rfl, hb⟩
                rw [HG4.o]
                have HBY2 := hd (bel HBY.o hb)
                have s2 := (hb.cell (p := ⟨wr.heap.size, 1, none⟩) hsy.o).trans (HR.o).2
                clear hb r1 r2
                go_wp2
                go_roundw
                case rel => exact ⟨k + 1, by omega, by go_num, HBY2⟩
                case measure => simp [intOf]; omega
              · rw [g3]
                have HG4 := hd (show L.get x1 KJ = ⟨#[]⟩ by rw [g4]; exact HGJ.o)
                have hmt : x1.toList = [95, 95, 110, 97, 109, 101, 95, 95] := by rw [g4]; decide +kernel
                have hmt2 : (x1.toList == [95, 95, 110, 97, 109, 101, 95, 95]) = true := by rw [hmt]; rfl
                clear g3 g4 HE
                go_wp2_with fail
                refine (get_any _ J KJ x1 _ (HJZ.o.below HBY.o) (by omega)).mono ?_
                rintro e y2 ⟨rfl, hb⟩
                rw [HG4.o]
                have HBY2 := hd (bel HBY.o hb)
                have s1 := (hb.cell (p := ⟨wr.heap.size, 0, none⟩) hsy.o).trans (HR.o).1
                have s2 := (hb.cell (p := ⟨wr.heap.size, 1, none⟩) hsy.o).trans (HR.o).2
                clear hb r1 r2
                go_wp2
                go_roundw
                case rel => exact ⟨k + 1, by omega, by go_num, HBY2⟩
                case measure => simp [intOf]; omega
            · go_wp2
              go_ret
              exact ⟨rfl, bel HBW.o (bel BZ.o HB.o)⟩
        | false =>
          have hem := nonempty_of h1
          go_wp2_with fail
          refine (get_any _ I KI L.metric _ HI12.o (by omega)).mono ?_
          rintro e wz ⟨rfl, hb⟩
          have BZ := hd (bel B12.o hb)
          have HMZ := hd (HM12.o.below hb)
          have HIZ := hd (HI12.o.below hb)
          have HJZ := hd (HJ12.o.below hb)
          clear hb B12 HM12 HI12 HJ12
          generalize L.get L.metric KI = g2 at *
          rw [h1] at HSUM
          cases h2 : g2.toList.isEmpty with
          | true =>
            have hem2 := empty_of h2
            rw [h2] at HSUM
            have hz1 : ((I : Int) + (J : Int) + 1 != (N : Int)) = false := by
              have h := HSUM.o
              simp at h
              rw [bne_eq_false_iff_eq]; omega
            clear HSUM
            go_wp2
            go_loopw [118] (fun x wr => ∃ k : Nat, k ≤ N ∧ x = .int .i64 k ∧ Hd (Below wz.heap.size wz wr)) (fun x _ => N - (intOf x).toNat)
            case atStart => exact ⟨0, Nat.zero_le _, rfl, hd (Below.refl _ _)⟩
            case round =>
              obtain ⟨k, hk, rfl, HB⟩ := hrel
              have hzr := HB.o.size
              by_cases hlt : k < N
              · have hkl : k < M.length := by rw [← HNM.o]; exact hlt
                obtain ⟨b, off, rfl, hbl, q1, q2⟩ := IsLb.at_ HMZ.o k hkl
                have d1 := (HB.o.cell (p := ⟨b, off + k * 2, none⟩) hbl).trans q1
                have d2 := (HB.o.cell (p := ⟨b, off + k * 2 + 1, none⟩) hbl).trans q2
                have HE := hd (HEA.o _ (List.getElem_mem hkl))
                have hx2 := HMS.o.val _ (List.getElem_mem hkl)
                clear q1 q2
                generalize M[k]'hkl = x at *
                obtain ⟨x1, x2⟩ := x
                simp only at d1 d2 HE hx2
                have hxx : (x2.toList == x2.toList) = true := by simp
                have hem := nonempty_of hx2
                have hnx : (([] : List UInt8) == x2.toList) = false := by rw [beq_eq_false_iff_ne]; exact fun e => hem e.symm
                have hnx2 : ¬ ([] : List UInt8) = x2.toList := fun e => hem e.symm
                have HBV : Hd (Below wz.heap.size wz (wr.alloc (.cells #[.string x1, .string x2] 26))) := hd (HB.o.alloc hzr _)
                have HBX : Hd ((wr.alloc (.cells #[.string x1, .string x2] 26)).cell? ⟨wr.heap.size, 0, none⟩ = some (.string x1) ∧ (wr.alloc (.cells #[.string x1, .string x2] 26)).cell? ⟨wr.heap.size, 1, none⟩ = some (.string x2)) := hd (by constructor <;> simp)
                go_wp2_with fail
                refine (get_any _ I KI x1 _ (HIZ.o.below HBV.o) (by omega)).mono ?_
                rintro e y1 ⟨rfl, hb⟩
                have HBY := hd (bel HBV.o hb)
                have r1 := (hb.cell (p := ⟨wr.heap.size, 0, none⟩) (by simp)).trans (HBX.o).1
                have r2 := (hb.cell (p := ⟨wr.heap.size, 1, none⟩) (by simp)).trans (HBX.o).2
                have HR := hd (And.intro r1 r2)
                have hsy := hd (show wr.heap.size < y1.heap.size from Nat.lt_of_lt_of_le (by simp) hb.size)
                clear hb
                rcases HE.o with ⟨g3, g4⟩ | ⟨g3, g4⟩ | ⟨g3, g4⟩
                · rw [g4]
                  clear g3 g4 HE
                  go_wp2
                  go_roundw
                  case rel => exact ⟨k + 1, by omega, by go_num, HBY⟩
                  case measure => simp [intOf]; omega
                · rw [g3]
                  have HG4 := hd g4
                  clear g3 g4 HE
                  go_wp2_with fail
                  refine (get_any _ J KJ x1 _ (HJZ.o.below HBY.o) (by omega)).mono ?_
                  rintro e y2 ⟨rfl, hb⟩
                  rw [HG4.o]
                  have HBY2 := hd (bel HBY.o hb)
                  have s2 := (hb.cell (p := ⟨wr.heap.size, 1, none⟩) hsy.o).trans (HR.o).2
                  clear hb r1 r2
                  go_wp2
                  go_roundw
                  case rel => exact ⟨k + 1, by omega, by go_num, HBY2⟩
                  case measure => simp [intOf]; omega
                · rw [g3]
                  have HG4 := hd (show L.get x1 KJ = ⟨#[]⟩ by rw [g4]; exact HGJ.o)
                  have hmt : x1.toList = [95, 95, 110, 97, 109, 101, 95, 95] := by rw [g4]; decide +kernel
                  have hmt2 : (x1.toList == [95, 95, 110, 97, 109, 101, 95, 95]) = true := by rw [hmt]; rfl
                  clear g3 g4 HE
                  go_wp2_with fail
                  refine (get_any _ J KJ x1 _ (HJZ.o.below HBY.o) (by omega)).mono ?_
                  rintro e y2 ⟨rfl, hb⟩
                  rw [HG4.o]
                  have HBY2 := hd (bel HBY.o hb)
                  have s1 := (hb.cell (p := ⟨wr.heap.size, 0, none⟩) hsy.o).trans (HR.o).1
                  have s2 := (hb.cell (p := ⟨wr.heap.size, 1, none⟩) hsy.o).trans (HR.o).2
                  clear hb r1 r2
                  go_wp2
                  go_roundw
                  case rel => exact ⟨k + 1, by omega, by go_num, HBY2⟩
                  case measure => simp [intOf]; omega
              · go_wp2
                go_ret
                exact ⟨rfl, bel HBW.o (bel BZ.o HB.o)⟩
          | false =>
            have hem2 := nonempty_of h2
            rw [h2] at HSUM
            have hz1 : ((I : Int) + (J : Int) != (N : Int)) = false := by
              have h := HSUM.o
              simp at h
              rw [bne_eq_false_iff_eq]; omega
            clear HSUM
            go_wp2
            go_loopw [118] (fun x wr => ∃ k : Nat, k ≤ N ∧ x = .int .i64 k ∧ Hd (Below wz.heap.size wz wr)) (fun x _ => N - (intOf x).toNat)
            case atStart => exact ⟨0, Nat.zero_le _, rfl, hd (Below.refl _ _)⟩
            case round =>
              obtain ⟨k, hk, rfl, HB⟩ := hrel
              have hzr := HB.o.size
              by_cases hlt : k < N
              · have hkl : k < M.length := by rw [← HNM.o]; exact hlt
                obtain ⟨b, off, rfl, hbl, q1, q2⟩ := IsLb.at_ HMZ.o k hkl
                have d1 := (HB.o.cell (p := ⟨b, off + k * 2, none⟩) hbl).trans q1
                have d2 := (HB.o.cell (p := ⟨b, off + k * 2 + 1, none⟩) hbl).trans q2
                have HE := hd (HEA.o _ (List.getElem_mem hkl))
                have hx2 := HMS.o.val _ (List.getElem_mem hkl)
                clear q1 q2
                generalize M[k]'hkl = x at *
                obtain ⟨x1, x2⟩ := x
                simp only at d1 d2 HE hx2
                have hxx : (x2.toList == x2.toList) = true := by simp
                have hem := nonempty_of hx2
                have hnx : (([] : List UInt8) == x2.toList) = false := by rw [beq_eq_false_iff_ne]; exact fun e => hem e.symm
                have hnx2 : ¬ ([] : List UInt8) = x2.toList := fun e => hem e.symm
                have HBV : Hd (Below wz.heap.size wz (wr.alloc (.cells #[.string x1, .string x2] 26))) := hd (HB.o.alloc hzr _)
                have HBX : Hd ((wr.alloc (.cells #[.string x1, .string x2] 26)).cell? ⟨wr.heap.size, 0, none⟩ = some (.string x1) ∧ (wr.alloc (.cells #[.string x1, .string x2] 26)).cell? ⟨wr.heap.size, 1, none⟩ = some (.string x2)) := hd (by constructor <;> simp)
                go_wp2_with fail
                refine (get_any _ I KI x1 _ (HIZ.o.below HBV.o) (by omega)).mono ?_
                rintro e y1 ⟨rfl, hb⟩
                have HBY := hd (bel HBV.o hb)
                have r1 := (hb.cell (p := ⟨wr.heap.size, 0, none⟩) (by simp)).trans (HBX.o).1
                have r2 := (hb.cell (p := ⟨wr.heap.size, 1, none⟩) (by simp)).trans (HBX.o).2
                have HR := hd (And.intro r1 r2)
                have hsy := hd (show wr.heap.size < y1.heap.size from Nat.lt_of_lt_of_le (by simp) hb.size)
                clear hb
                rcases HE.o with ⟨g3, g4⟩ | ⟨g3, g4⟩ | ⟨g3, g4⟩
                · rw [g4]
                  clear g3 g4 HE
                  go_wp2
                  go_roundw
                  case rel => exact ⟨k + 1, by omega, by go_num, HBY⟩
                  case measure => simp [intOf]; omega
                · rw [g3]
                  have HG4 := hd g4
                  clear g3 g4 HE
                  go_wp2_with fail
                  refine (get_any _ J KJ x1 _ (HJZ.o.below HBY.o) (by omega)).mono ?_
                  rintro e y2 ⟨rfl, hb⟩
                  rw [HG4.o]
                  have HBY2 := hd (bel HBY.o hb)
                  have s2 := (hb.cell (p := ⟨wr.heap.size, 1, none⟩) hsy.o).trans (HR.o).2
                  clear hb r1 r2
                  go_wp2
                  go_roundw
                  case rel => exact ⟨k + 1, by omega, by go_num, HBY2⟩
                  case measure => simp [intOf]; omega
                · rw [g3]
                  have HG4 := hd (show L.get x1 KJ = ⟨#[]⟩ by rw [g4]; exact HGJ.o)
                  have hmt : x1.toList = [95, 95, 110, 97, 109, 101, 95, 95] := by rw [g4]; decide +kernel
                  have hmt2 : (x1.toList == [95, 95, 110, 97, 109, 101, 95, 95]) = true := by rw [hmt]; rfl
                  clear g3 g4 HE
                  go_wp2_with fail
                  refine (get_any _ J KJ x1 _ (HJZ.o.below HBY.o) (by omega)).mono ?_
                  rintro e y2 ⟨rfl, hb⟩
                  rw [HG4.o]
                  have HBY2 := hd (bel HBY.o hb)
                  have s1 := (hb.cell (p := ⟨wr.heap.size, 0, none⟩) hsy.o).trans (HR.o).1
                  have s2 := (hb.cell (p := ⟨wr.heap.size, 1, none⟩) hsy.o).trans (HR.o).2
                  clear hb r1 r2
                  go_wp2
                  go_roundw
                  case rel => exact ⟨k + 1, by omega, by go_num, HBY2⟩
                  case measure => simp [intOf]; omega
              · go_wp2
                go_ret
                exact ⟨rfl, bel HBW.o (bel BZ.o HB.o)⟩
  · have eb : (L.mkErr l != 0) = true := by rw [bne_iff_ne]; exact h0
    clear h0
    go_wp2
    go_ret
    exact ⟨rfl, bel HBW.o B3.o⟩
theorem cuts_all (W : World) {H : Type} (v : Value) (d : DataW H) (h : ∃ l nm vl ns wo, IsAskV W v l nm vl ns wo) :
    Calls Try.prog 10 #[v] W fun e W' => e = .returned (.bool true) ∧ Below W.heap.size W W' := by
  obtain ⟨l, nm, vl, ns, wo, A1, c1, A2, c2, rfl, _, hL, hn, hS, hN, hm⟩ := h
  unfold reachBytes at hn hm
  exact cuts_walk A1 A2 c1 c2 _ _ l nm vl ns wo W hL hN (by omega) (by omega) (fun y hy => by
    have := hS y hy
    unfold reachBytes at this
    omega)
end Go.Proofs.Ytifaepkeoffcfaa
