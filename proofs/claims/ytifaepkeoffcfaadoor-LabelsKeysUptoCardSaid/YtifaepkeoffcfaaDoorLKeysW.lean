/- LabelsKeys: the law's walk. -/
import Derived.Test.YtifaepkeoffcfaaDoorLKeysA
import Derived.Test.YtifaepkeoffcfaaDoorLSame
import Derived.Test.YtifaepkeoffcfaaDoorBQuiet
import Derived.Deep.RegionHeld3
namespace Go.Proofs.YtifaepkeoffcfaaDoor
open Go.RowKit
set_option linter.unusedVariables false
set_option linter.unusedSimpArgs false
def awkA : List Lb := [(⟨#[97]⟩, ⟨#[49]⟩)]
theorem k_a1 : L.keepL awkA [] true = awkA := by decide +kernel
theorem k_a2 : L.keepL [] [] true = [] := rfl
theorem k_a3 : L.keepL awkA [] false = [] := by decide +kernel
theorem info_strk : (Tryd.prog.info? 9).map (fun i => (i.zero, i.size, i.bytes)) = some (some (.string ⟨#[]⟩), 1, 16) := by kernel_rfl
theorem info_slk : (Tryd.prog.info? 30).map (fun i => (i.zero, i.size, i.bytes)) = some (some (.slice none 0 0), 1, 24) := by kernel_rfl
def keptOf (qs : List LAsk) (j : Nat) : List Lb := match qs[j]? with | some q => L.keepL q.l q.ns q.wo | none => []
theorem keptOf_at (qs : List LAsk) (j : Nat) (h : j < qs.length) : keptOf qs j = L.keepL (qs[j]'h).l (qs[j]'h).ns (qs[j]'h).wo := by
  unfold keptOf; rw [List.getElem?_eq_getElem h]
set_option maxRecDepth 100000 in
set_option maxHeartbeats 8000000 in
theorem keys_walk (va : Value) (qs : List LAsk) (w : World) (hq : IsLAsks w va qs) (hN : qs.length ≤ 1048576) (hT : Tab w.heap.size w) :
    Calls Tryd.prog 4 #[va] w fun e w' => e = .returned (.bool true) ∧ Below w.heap.size w w' := by
  obtain ⟨A, c, rfl, hn, hc⟩ := hq
  have HC := hd hc
  have HT := hd hT
  have K1 := hd k_a1
  have K2 := hd k_a2
  have K3 := hd k_a3
  have hf1 : ((L.kstr awkA).toList == (L.kstr []).toList) = false := by rw [L.kstr_eq]; decide +kernel
  have hf2 : ((L.kstr []).toList == (L.kstr []).toList) = true := by rw [L.kstr_eq]; rfl
  obtain ⟨N, hNn⟩ : ∃ N, N = qs.length := ⟨_, rfl⟩
  have HNN := hd hNn
  have hA : Value.slice A qs.length c = .slice A N c := by rw [hNn]
  rw [hA]
  rw [← hNn] at hN
  clear hc hT hn hNn hA
  go_enter Tryd.func4, Tryd.ntmps4
  go_wp2_with fail
  obtain ⟨w1, hw1⟩ : ∃ w1, w1 = w.alloc (.cells #[.string ⟨#[97]⟩, .string ⟨#[49]⟩] 29) := ⟨_, rfl⟩
  have HA1 : Hd (IsL 2 w1 (.slice (some ⟨w.heap.size, 0, none⟩) 1 1) 1 (cellsL awkA)) := hd (by rw [hw1]; exact IsL.own (World.ownsRow_lit (base := w.heap.size) w #[.string ⟨#[97]⟩, .string ⟨#[49]⟩] 1 (Nat.le_refl _) (by decide) rfl))
  have B1 : Hd (Below w.heap.size w w1) := hd (by rw [hw1]; exact (Below.refl _ _).alloc (Nat.le_refl _) _)
  rw [← hw1]
  clear hw1
  refine (keyS_any _ 1 awkA _ 0 [] true _ HA1.o (IsL.nil 1 _ none 0) (by decide) (by decide) (by intro y hy; simp [awkA] at hy; subst hy; decide) (Tab.on2 HT.o B1.o)).mono ?_
  rintro e w2 ⟨rfl, hb⟩
  rw [K1.o]
  have B2 := hd (bel B1.o hb)
  have HA2 := hd (HA1.o.below hb)
  clear hb B1 HA1
  go_wp2_with fail
  refine (keyS_any _ 0 [] _ 0 [] true _ (IsL.nil 2 _ none 0) (IsL.nil 1 _ none 0) (by decide) (by decide) (fun y hy => by cases hy) (Tab.on2 HT.o B2.o)).mono ?_
  rintro e w3 ⟨rfl, hb⟩
  rw [K2.o]
  have B3 := hd (bel B2.o hb)
  have HA3 := hd (HA2.o.below hb)
  clear hb B2 HA2
  go_wp2_with fail
  refine (keyS_any _ 1 awkA _ 0 [] false _ HA3.o (IsL.nil 1 _ none 0) (by decide) (by decide) (by intro y hy; simp [awkA] at hy; subst hy; decide) (Tab.on2 HT.o B3.o)).mono ?_
  rintro e w4 ⟨rfl, hb⟩
  rw [K3.o]
  have B4 := hd (bel B3.o hb)
  clear hb B3 HA3
  go_wp2_with fail
  refine (keyS_any _ 0 [] _ 0 [] true _ (IsL.nil 2 _ none 0) (IsL.nil 1 _ none 0) (by decide) (by decide) (fun y hy => by cases hy) (Tab.on2 HT.o B4.o)).mono ?_
  rintro e w5 ⟨rfl, hb⟩
  rw [K2.o]
  have B5 := hd (bel B4.o hb)
  have hz5 := B5.o.size
  clear hb B4
  go_wp2_with (first
    | (at_make; refine wpList_mkn _ 32 9 (.string ⟨#[]⟩) 1 16 Tryd.underlying32 info_strk rfl _ _ rfl w.heap.size _ _ N rfl rfl ?b1 ?b2 ?b3 ?_))
  case b1 => omega
  case b2 => omega
  case b3 => exact hz5
  intro w6 ho6 hg6
  have B6 := hd (bel_grown B5.o hg6 (fun k h => by cases h))
  have hz6 := B6.o.size
  have hsz6 : w5.heap.size < w6.heap.size := (ho6.lt _ rfl).2
  have HO6 := hd ho6
  clear ho6 hg6
  go_wp2_with (first
    | (at_make; refine wpList_mkn _ 33 30 (.slice none 0 0) 1 24 Tryd.underlying33 info_slk rfl _ _ rfl w.heap.size _ _ N rfl rfl ?b4 ?b5 ?b6 ?_))
  case b4 => omega
  case b5 => omega
  case b6 => exact hz6
  intro w7 ho7 hg7
  have B7 := hd (bel_grown B6.o hg7 (fun k h => by cases h))
  have HKP : Hd (Kept w w7 w5.heap.size w6.heap.size N 0 0 (keptOf qs) (fun _ => .slice none 0 0)) := hd (by
    have h6 := own_below HO6.o ((Below.refl _ _).grown hg7 (Nat.le_refl _) (fun k h => by cases h))
    refine ⟨?_, ?_, fun j hj => absurd hj (by omega), by omega, ⟨hz5, hz6⟩, B7.o⟩
    · rw [← made_s]; exact Bk.of_own h6
    · rw [← made_v]; exact Bk.of_own ho7)
  clear ho7 hg7 HO6 B7 B6 B5
  generalize w5.heap.size = gk at *
  generalize w6.heap.size = gp at *
  clear hsz6 hz5 hz6
  go_wp2
  go_loopw [32] (fun x wr => ∃ (k : Nat) (V : Nat → Value), k ≤ N ∧ x = .int .i64 k ∧ Hd (Kept w wr gk gp N k k (keptOf qs) V)) (fun x _ => N - (intOf x).toNat)
  case atStart => exact ⟨0, _, Nat.zero_le _, rfl, HKP⟩
  case round =>
    clear HKP
    obtain ⟨k, V, hk, rfl, HK0⟩ := hrel
    by_cases hlt : k < N
    · have hkq : k < qs.length := by rw [← HNN.o]; exact hlt
      obtain ⟨b, off, A1, c1, A2, c2, rfl, d0, d1, d2, d3, d4, hL, hN2, hS, hm, hcp⟩ := HC.o k hkq
      have HKK := hd (keptOf_at qs k hkq)
      have hbl : b < w.heap.size := World.block_lt_of_cell? w _ d0
      replace d0 := (HK0.o.bel.cell (p := ⟨b, off + k * 5, none⟩) hbl).trans d0
      replace d1 := (HK0.o.bel.cell (p := ⟨b, off + k * 5 + 1, none⟩) hbl).trans d1
      replace d2 := (HK0.o.bel.cell (p := ⟨b, off + k * 5 + 2, none⟩) hbl).trans d2
      replace d3 := (HK0.o.bel.cell (p := ⟨b, off + k * 5 + 3, none⟩) hbl).trans d3
      replace d4 := (HK0.o.bel.cell (p := ⟨b, off + k * 5 + 4, none⟩) hbl).trans d4
      generalize qs[k]'hkq = q at *
      obtain ⟨l, nm, vl, ns, wo⟩ := q
      simp only at d0 d1 d2 d3 d4 hL hN2 hS hm hcp HKK
      obtain ⟨n, hnl⟩ : ∃ n, n = l.length := ⟨_, rfl⟩
      obtain ⟨m, hml⟩ : ∃ m, m = ns.length := ⟨_, rfl⟩
      rw [← hnl] at d0 hL hcp
      rw [← hml] at d3 hN2 hm
      have hzr := HK0.o.bel.size
      obtain ⟨W0, hW0⟩ : ∃ W0, W0 = wr.alloc (.cells #[.slice A1 n c1, .string nm, .string vl, .slice A2 m c2, .bool wo] 35) := ⟨_, rfl⟩
      obtain ⟨bx, hbx⟩ : ∃ bx, bx = wr.heap.size := ⟨_, rfl⟩
      have HXB : Hd (Bk W0 bx 35 [.slice A1 n c1, .string nm, .string vl, .slice A2 m c2, .bool wo]) := hd <| by
        unfold Bk
        rw [hW0, hbx]
        show (wr.heap.push _)[wr.heap.size]? = _
        simp
      have HKW : Hd (Kept w W0 gk gp N k k (keptOf qs) V) := hd (by rw [hW0]; exact HK0.o.below ((Below.refl _ _).alloc (Nat.le_refl _) _))
      have HL := hd hL
      have HN := hd hN2
      have HS := hd hS
      have hn2 : n ≤ 1048576 := by rw [hnl]; exact hS.1
      have HNL := hd hnl
      have HSZ : Hd (∀ y ∈ l, y.1.size ≤ 1048577 ∧ y.2.size ≤ 1048577) := hd fun y hy => by have := hS.2 y hy; omega
      have HVL : Hd (∀ j, j < k → ∀ g, (V j).ownBlock = some g → g < W0.heap.size) := hd fun j hj g hg => ((HKW.o.own j hj).lt g hg).2
      clear hL hN2 hS hnl hml HK0 HC
      have e0 := HXB.o.cell 0 (by simp)
      have e3 := HXB.o.cell 3 (by simp)
      have e4 := HXB.o.cell 4 (by simp)
      simp only [List.getElem_cons_zero, List.getElem_cons_succ] at e0 e3 e4
      go_wp2_with fail
      rw [← hW0, ← hbx]
      clear hW0 hbx d0 d1 d2 d3 d4 hbl
      refine (lent_any _ n l _ (HL.o.below HKW.o.bel) (by omega)).mono ?_
      rintro e v1 ⟨g, rfl, hg, hG, hb⟩
      have B1 := hd hb
      have HG1 := hd hG
      have HK1 := hd (HKW.o.below hb)
      have HX1 := hd (HXB.o.below hb)
      have HI1 := hd (lent_isL HG1.o HNL.o)
      clear hG hb e0 e3 e4
      have e0 := HX1.o.cell 0 (by simp)
      have e3 := HX1.o.cell 3 (by simp)
      have e4 := HX1.o.cell 4 (by simp)
      simp only [List.getElem_cons_zero, List.getElem_cons_succ] at e0 e3 e4
      go_wp2_with fail
      refine (keyS_any _ n l _ m ns wo _ HI1.o (HN.o.below HK1.o.bel) (by omega) hm HSZ.o (Tab.on2 HT.o HK1.o.bel)).mono ?_
      rintro e v2 ⟨rfl, hb⟩
      have B2 := hd (bel B1.o hb)
      have HG2 := hd (HG1.o.below hb)
      have HK2 := hd (HK1.o.below hb)
      have HX2 := hd (HX1.o.below hb)
      have HKL : Hd ((keptOf qs k).length ≤ 1048576) := hd (by rw [HKK.o]; have := L.keep_len l ns wo; have := HNL.o; omega)
      rw [← HKK.o]
      clear hb e0 e3 e4 HG1 HK1 HX1 HI1 B1
      have hk0 : (0 : Int) ≤ (k : Int) := by omega
      have hkN : (k : Int) < (N : Int) := by omega
      have o1 := HK2.o.keyOld hlt
      have fr1 := HK2.o.keys.frozen k
      have HK2s := hd (HK2.o.setKey hlt)
      have hgs : v2.grownBy (v2.setCell ⟨gk, k, none⟩ (.string (L.kstr (keptOf qs k)))) (some gk) := grownBy_setV (World.grownBy.refl _ _) _
      have HX2s := hd (HX2.o.grown hgs (HX2.o.ne_type HK2.o.keys (by decide)))
      have HG2s := hd (HG2.o.grown hgs (HG2.o.ne_type HK2.o.keys (by decide)))
      have HSZ2 := hd (show W0.heap.size ≤ (v2.setCell ⟨gk, k, none⟩ (.string (L.kstr (keptOf qs k)))).heap.size from by rw [World.size_setCell]; exact B2.o.size)
      have e0 := HX2s.o.cell 0 (by simp)
      have e3 := HX2s.o.cell 3 (by simp)
      have e4 := HX2s.o.cell 4 (by simp)
      simp only [List.getElem_cons_zero, List.getElem_cons_succ] at e0 e3 e4
      clear hgs HX2 HG2 HK2 B2
      go_wp2_with fail
      refine (refKeep_any _ n l _ m ns wo _ (HL.o.below HK2s.o.bel) (HN.o.below HK2s.o.bel) (by omega) (by omega)).mono ?_
      rintro e v3 ⟨xk, rfl, ho, hb⟩
      have HK3 := hd (HK2s.o.below hb)
      have HX3 := hd (HX2s.o.below hb)
      have HG3 := hd (HG2s.o.below hb)
      rw [← HKK.o] at ho
      have HO3 := hd (own_mono ho HK2s.o.bel.size)
      have HXG : Hd (xk.ownBlock ≠ some g) := hd (fun e => by have h1 := (ho.lt g e).1; have h2 := HG2s.o.lt; omega)
      obtain ⟨Y, y, rfl⟩ := own_shape ho
      clear ho hb e0 e3 e4 o1 fr1 HX2s HG2s HK2s HSZ2
      have o2 := HK3.o.valOld hlt
      have fr2 := HK3.o.vals.frozen k
      have HK3s := hd (HK3.o.setVal hlt HO3.o)
      have hgs : v3.grownBy (v3.setCell ⟨gp, k, none⟩ (.slice Y (keptOf qs k).length y)) (some gp) := grownBy_setV (World.grownBy.refl _ _) _
      have HX3s := hd (HX3.o.grown hgs (HX3.o.ne_type HK3.o.vals (by decide)))
      have HG3s := hd (HG3.o.grown hgs (HG3.o.ne_type HK3.o.vals (by decide)))
      have HVG : Hd (∀ j, j < k + 1 → (upd V k (.slice Y (keptOf qs k).length y) j).ownBlock ≠ some g) := hd fun j hj => by
        by_cases ej : j = k
        · subst ej; rw [upd_at]; exact HXG.o
        · rw [upd_ne _ _ _ _ ej]; intro e; have := HVL.o j (by omega) g e; omega
      have HVK : Hd (upd V k (.slice Y (keptOf qs k).length y) k = .slice Y (keptOf qs k).length y) := hd (upd_at _ _ _)
      have e0 := HX3s.o.cell 0 (by simp)
      simp only [List.getElem_cons_zero] at e0
      clear hgs HX3 HG3 HK3 HO3 HXG HVL
      generalize upd V k (.slice Y (keptOf qs k).length y) = V' at *
      go_wp2_with fail
      refine (whole_any g _ n l _ HG3s.o (HL.o.below HK3s.o.bel) (by omega)).mono ?_
      rintro e v4 ⟨rfl, hb⟩
      have HK4 := hd (HK3s.o.below hb)
      have HX4 := hd (HX3s.o.below hb)
      have HG4 := hd (HG3s.o.below hb)
      clear hb e0 o2 fr2 HK3s HX3s HG3s
      go_wp2
      go_loopw [68] (fun x wq => ∃ j : Nat, j ≤ k ∧ x = .int .i64 j ∧ Hd (Below v4.heap.size v4 wq)) (fun x _ => k - (intOf x).toNat)
      case atStart => exact ⟨0, Nat.zero_le _, rfl, hd (Below.refl _ _)⟩
      case round =>
        obtain ⟨j, hj, rfl, HB⟩ := hrel
        by_cases hjk : j < k
        · have HKq := hd (HK4.o.below HB.o)
          obtain ⟨wq, rfl⟩ : ∃ wq : World, wq = wr := ⟨_, rfl⟩
          have CS := hd (fun p : BelW wq => lsame_any (V' k) (V' j) _ _ (keptOf qs k) (keptOf qs j) p.w (IsL.own ((HKq.o.below p.h).own k (by omega))) (IsL.own ((HKq.o.below p.h).own j (by omega))) (by have := HKL.o; omega))
          have eb := L.kstr_eq (keptOf qs k) (keptOf qs j)
          generalize decide (keptOf qs k = keptOf qs j) = bb at *
          have hbb : (bb != bb) = false := by simp
          have hj0 : (0 : Int) ≤ (j : Int) := by omega
          have hjN : (j : Int) < (N : Int) := by omega
          go_wp2_with fail
          refine wp_region_below (by kernel_rfl) (by kernel_rfl) ?_
          have f1 := fun p : BelW wq => (HKq.o.below p.h).keyAt k hlt (by omega)
          have f2 := fun p : BelW wq => (HKq.o.below p.h).keyAt j (by omega) (by omega)
          have f3 := fun p : BelW wq => (HKq.o.below p.h).valAt k hlt (by omega)
          have f4 := fun p : BelW wq => (HKq.o.below p.h).valAt j (by omega) (by omega)
          repeat (go_big_quiet_step (first | (go_at_call 11; exact Calls.below_of (CS.o _))))
          refine wpQuiet_nil ?_
          rintro _ ⟨p, rfl⟩
          clear f1 f2 f3 f4 eb CS
          have HB2 := hd (bel HB.o p.h)
          go_wp2
          go_roundw
          case rel => exact ⟨j + 1, by omega, by go_num, HB2⟩
          case measure => simp [intOf]; omega
        · obtain ⟨wt, rfl⟩ : ∃ wt : World, wt = wr := ⟨_, rfl⟩
          have HK5 := hd (HK4.o.below HB.o)
          have HX5 := hd (HX4.o.below HB.o)
          have HG5 := hd (HG4.o.below HB.o)
          clear HB HK4 HX4 HG4
          go_wp2
          go_loopw [93] (fun x wq => ∃ (i : Nat) (lx : List Lb), i ≤ n ∧ x = .int .i64 i ∧ Hd (lx.length = n ∧ ∀ y ∈ lx, y.1.size ≤ 1048577 ∧ y.2.size ≤ 1048577) ∧ Hd (Bk wq g 29 (cellsL (lx ++ lentL 40))) ∧ Hd (∀ j (h : j < lx.length), i ≤ j → (lx[j]'h).2.size ≤ 1048576) ∧ Hd (wt.grownBy wq (some g))) (fun x _ => n - (intOf x).toNat)
          case atStart =>
            refine ⟨0, l, Nat.zero_le _, rfl, hd ⟨HNL.o.symm, fun y hy => ?_⟩, HG5, hd fun j hj _ => (HS.o.2 _ (List.getElem_mem hj)).2, hd (World.grownBy.refl _ _)⟩
            have := HS.o.2 y hy
            omega
          case round =>
            obtain ⟨i, lx, hi, rfl, hlx, hG, hrest, hgr⟩ := hrel
            by_cases hin : i < n
            · have hil : i < lx.length := by rw [hlx.o.1]; exact hin
              have hil2 : i < (lx ++ lentL 40).length := by rw [List.length_append]; omega
              obtain ⟨p1, p2⟩ := cellsL_at (lx ++ lentL 40) i hil2
              have hle : i * 2 + 1 < (cellsL (lx ++ lentL 40)).length := by rw [cellsL_len]; omega
              have c0 := hG.o.cell (i * 2 + 1) hle
              rw [List.getElem?_eq_getElem hle] at p2
              rw [Option.some.inj p2, show (lx ++ lentL 40)[i]'hil2 = lx[i]'hil from List.getElem_append_left hil] at c0
              have f0 := hG.o.frozen (i * 2 + 1)
              have hsz := hrest.o i hil (Nat.le_refl _)
              have HNEW : Hd (∀ u : ByteArray, (cellsL (lx ++ lentL 40)).set (i * 2 + 1) (.string u) = cellsL (lx.set i ((lx[i]'hil).1, u) ++ lentL 40)) := hd fun u => cellsL_setV lx (lentL 40) i hil u
              have z1 : ¬ 9223372036854775807 < (lx[i]'hil).2.size + 1 := by omega
              have z2 : ¬ 281474976710656 < (lx[i]'hil).2.size + 1 := by omega
              clear p1 p2 hle hil2
              go_wp2
              go_roundw
              case rel =>
                refine ⟨i + 1, lx.set i ((lx[i]'hil).1, (lx[i]'hil).2 ++ (⟨#[120]⟩ : ByteArray)), by omega, by go_num, hd ⟨by rw [List.length_set]; exact hlx.o.1, fun y hy => ?_⟩, hd ?_, hd fun j hj hij => ?_, hd (grownBy_setV hgr.o _)⟩
                · rcases List.mem_or_eq_of_mem_set hy with h | h
                  · exact hlx.o.2 y h
                  · subst h
                    refine ⟨(hlx.o.2 _ (List.getElem_mem hil)).1, ?_⟩
                    show (_ ++ _ : ByteArray).size ≤ _
                    rw [ByteArray.size_append]
                    have : (⟨#[120]⟩ : ByteArray).size = 1 := rfl
                    omega
                · rw [← HNEW.o]; exact hG.o.set _ _
                · rw [List.length_set] at hj
                  rw [List.getElem_set_ne (by omega)]
                  exact hrest.o j hj (by omega)
              case measure => simp [intOf]; omega
            · obtain ⟨wz, rfl⟩ : ∃ wz : World, wz = wr := ⟨_, rfl⟩
              have HKz := hd (HK5.o.lent HG5.o hgr.o (by have := HKW.o.bel.size; omega) HVG.o)
              have HXz := hd (HX5.o.grown hgr.o (HX5.o.ne_type HG5.o (by decide)))
              have RI := hd (lent_isL hG.o hlx.o.1.symm)
              have HSX : Hd (∀ y ∈ lx, y.1.size ≤ 1048577 ∧ y.2.size ≤ 1048577) := hd hlx.o.2
              have HMX : Hd ((L.keepL lx ns wo).length ≤ 1048576) := hd (by have := L.keep_len lx ns wo; have := hlx.o.1; omega)
              have HBB : Hd (∃ bb, ((L.kstr (L.keepL lx ns wo)).toList == (L.kstr (keptOf qs k)).toList) = bb ∧ decide (L.keepL lx ns wo = keptOf qs k) = bb) := hd ⟨_, L.kstr_eq _ _, rfl⟩
              obtain ⟨bb, eb, eb2⟩ := HBB.o
              have HEB := hd eb2
              have hbb : (bb != bb) = false := by simp
              have HSS : Hd (∀ w', Below wz.heap.size wz w' → w'.cell? ⟨bx, 3, none⟩ = some (.slice A2 m c2) ∧ w'.cell? ⟨bx, 4, none⟩ = some (.bool wo) ∧ w'.cell? ⟨gk, k, none⟩ = some (.string (L.kstr (keptOf qs k))) ∧ w'.cell? ⟨gp, k, none⟩ = some (V' k)) := hd fun w' h =>
                ⟨(HXz.o.below h).cell 3 (by simp), (HXz.o.below h).cell 4 (by simp), (HKz.o.below h).keyAt k hlt (by omega), (HKz.o.below h).valAt k hlt (by omega)⟩
              have B0 : Hd (Below wz.heap.size wz wz.drew) := hd (Below.refl _ _).drew
              clear eb2 HBB hgr hG hrest hlx HK5 HX5 HG5 HVG
              go_wp2_with fail
              go_region_held3 (fun w' => w'.cell? ⟨bx, 3, none⟩ = some (.slice A2 m c2) ∧ w'.cell? ⟨bx, 4, none⟩ = some (.bool wo) ∧ w'.cell? ⟨gk, k, none⟩ = some (.string (L.kstr (keptOf qs k))) ∧ w'.cell? ⟨gp, k, none⟩ = some (V' k)) (first | exact HSS.o _ B3.o | exact HSS.o _ B2.o | exact HSS.o _ B1.o | exact HSS.o _ B0.o)
                (first
                  | (go_at_call 11; refine (lsame_any xq (V' k) _ _ (L.keepL lx ns wo) (keptOf qs k) _ HQ2.o (IsL.own (own_below (HKz.o.own k (by omega)) B2.o)) (by have := HMX.o; omega)).mono ?_; rintro e y3 ⟨rfl, hb⟩; rw [HEB.o]; have B3 := hd (bel B2.o hb); clear hb)
                  | (go_at_call 9; refine (refKeep_any _ n lx _ m ns wo _ (RI.o.below B1.o) (HN.o.below (bel HKz.o.bel B1.o)) (by omega) (by omega)).mono ?_; rintro e y2 ⟨xq, rfl, ho, hb⟩; have B2 := hd (bel B1.o hb); have HQ2 := hd (IsL.own ho); clear ho hb)
                  | (go_at_call 7; refine (keyS_any _ n lx _ m ns wo _ (RI.o.below B0.o) (HN.o.below (bel HKz.o.bel B0.o)) (by omega) hm HSX.o (Tab.on2 HT.o (bel HKz.o.bel B0.o))).mono ?_; rintro e y1 ⟨rfl, hb⟩; have B1 := hd (bel B0.o hb); clear hb))
              have HKf := hd (HKz.o.below B3.o)
              clear eb HKz HXz RI HSS B0 B1 B2 B3 HQ2
              go_wp2
              go_roundw
              case rel => exact ⟨k + 1, V', by omega, by go_num, HKf⟩
              case measure => simp [intOf]; omega
    · go_wp2
      go_ret
      exact ⟨rfl, HK0.o.bel⟩
theorem keys_all (W : World) {H : Type} (v : Value) (d : DataW H) (h : Rows.uptoBulk d ≤ 1048576 → ∃ l, IsLAsks W v l ∧ l.length ≤ 1048576) (hb : Rows.uptoBulk d + 0 ≤ 1048576) (hT : Tab W.heap.size W) :
    Calls Tryd.prog 4 #[v] W fun e W' => e = .returned (.bool true) ∧ Below W.heap.size W W' := by
  obtain ⟨l, hl, hn⟩ := h (by omega)
  exact keys_walk v l W hl hn hT
end Go.Proofs.YtifaepkeoffcfaaDoor
