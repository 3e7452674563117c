/- LabelsVectors: the law's walk. -/
import Derived.Test.YtifaepkeoffcfaaVLawA
import Derived.Test.YtifaepkeoffcfaaVApart0
namespace Go.Proofs.Ytifaepkeoffcfaa
open Go.RowKit Go.Sort
set_option linter.unusedVariables false
set_option linter.unusedSimpArgs false
theorem order_two : (FloatKind.f64.format.order 4611686018427387904 4611686018427387904 != some Ordering.eq) = false := by decide +kernel
def E0 (h : Nat) : List El := [⟨some ⟨h, 0, none⟩, 1, [(⟨#[98]⟩, ⟨#[49]⟩)], 4607182418800017408⟩, ⟨none, 0, [], 4611686018427387904⟩]
theorem E0_ans (h : Nat) : VAns (E0 h) 0 [([], 4611686018427387904), ([(⟨#[98]⟩, ⟨#[49]⟩)], 4607182418800017408)] :=
  .inr ⟨rfl, [⟨none, 0, [], 4611686018427387904⟩, ⟨some ⟨h, 0, none⟩, 1, [(⟨#[98]⟩, ⟨#[49]⟩)], 4607182418800017408⟩], rfl,
    List.Perm.swap _ _ _, List.pairwise_cons.2 ⟨fun y hy => by rw [List.mem_singleton] at hy; subst hy; show L.cmps [] [(⟨#[98]⟩, ⟨#[49]⟩)] < 0; decide +kernel, List.pairwise_singleton ..⟩,
    fun x hx => by
      simp only [E0, List.mem_cons, List.not_mem_nil, or_false] at hx
      rcases hx with rfl | rfl
      · show L.vld [(⟨#[98]⟩, ⟨#[49]⟩)] = true; decide +kernel
      · show L.vld [] = true; decide +kernel⟩
theorem E0_sz (h : Nat) : SzE (E0 h) := fun x hx => by
  simp only [E0, List.mem_cons, List.not_mem_nil, or_false] at hx
  rcases hx with rfl | rfl
  · exact ⟨show (1 : Nat) ≤ _ by decide, fun y hy => by simp only [List.mem_cons, List.not_mem_nil, or_false] at hy; subst hy; exact ⟨by decide, by decide⟩⟩
  · exact ⟨show (0 : Nat) ≤ _ by decide, fun y hy => by cases hy⟩
theorem E0_isV (w : World) : IsV ((w.alloc (.cells #[.string ⟨#[98]⟩, .string ⟨#[49]⟩] 26)).alloc (.cells #[.slice (some ⟨w.heap.size, 0, none⟩) 1 1, .float .f64 4607182418800017408, .slice none 0 0, .float .f64 4611686018427387904] 50)) (.slice (some ⟨w.heap.size + 1, 0, none⟩) 2 2) 2 (E0 w.heap.size) := by
  have h1 := World.ownsRow_lit (base := w.heap.size) (e := 26) (size := 2) w #[.string ⟨#[98]⟩, .string ⟨#[49]⟩] 1 (Nat.le_refl _) (by decide) rfl
  have h2 := World.ownsRow_lit (base := w.heap.size) (e := 50) (size := 2) (w.alloc (.cells #[.string ⟨#[98]⟩, .string ⟨#[49]⟩] 26)) #[.slice (some ⟨w.heap.size, 0, none⟩) 1 1, .float .f64 4607182418800017408, .slice none 0 0, .float .f64 4611686018427387904] 2 (by simp) (by decide) rfl
  rw [World.size_alloc] at h2
  refine IsV.own h2 fun x hx => ?_
  simp only [E0, List.mem_cons, List.not_mem_nil, or_false] at hx
  rcases hx with rfl | rfl
  · exact IsL.own (h1.alloc _)
  · exact IsL.nil 2 _ none 0
theorem two_of {R : List El} {p q : List Lb × Nat} (h : R.map El.d = [p, q]) : ∃ x y, R = [x, y] ∧ x.f = p.2 := by
  match R, h with
  | [x, y], h => exact ⟨x, y, rfl, congrArg Prod.snd (List.cons.inj h).1⟩
theorem len_two {A B : List El} (h : A.map El.d = B.map El.d) : A.length = B.length := by have := congrArg List.length h; simpa using this
theorem at_two {A B : List El} (h : A.map El.d = B.map El.d) {i : Nat} (ha : i < A.length) (hb : i < B.length) : A[i].f = B[i].f := by
  have h1 : (A.map El.d)[i]? = (B.map El.d)[i]? := by rw [h]
  rw [List.getElem?_map, List.getElem?_map, List.getElem?_eq_getElem ha, List.getElem?_eq_getElem hb] at h1
  exact congrArg Prod.snd (Option.some.inj h1)
theorem szE_data {E P : List El} (h : P.map El.d = E.map El.d) (hS : SzE E) : SzE P := fun x hx => by
  obtain ⟨y, hy, e⟩ := mem_data h.symm hx
  rw [← e]; exact hS y hy
set_option maxRecDepth 100000 in
set_option maxHeartbeats 4000000 in
theorem vectors_walk (va : Value) (E : List El) (w : World) (hq : IsElems w va E) :
    Calls Try.prog 7 #[va] w fun e w' => e = .returned (.bool true) ∧ Below w.heap.size w w' := by
  obtain ⟨A, c, rfl, hV, hnc, hn, hS⟩ := hq
  have HV := hd hV
  have HSM := hd hS
  have HS : Hd (SzE E) := hd fun x hx => ⟨by have := (hS x hx).1; omega, fun y hy => by have := (hS x hx).2 y hy; omega⟩
  obtain ⟨n, hnE⟩ : ∃ n, n = E.length := ⟨_, rfl⟩
  rw [← hnE] at HV hnc hn ⊢
  have HN := hd hnE
  have HQ := hd order_two
  clear hV hS hnE
  go_enter Try.func7, Try.ntmps7
  go_wp2_with fail
  refine (vecU_any 2 _ 2 (E0 w.heap.size) _ (E0_isV w) (by decide) (E0_sz _)).mono ?_
  rintro e w1 ⟨A1, m1, c1, R1, code, rfl, ha1, ho1, hl1, hb1⟩
  obtain ⟨rfl, hd1⟩ := ha1.ext (E0_ans _)
  have HB1 : Hd (Below w.heap.size w w1) := hd ((((Below.refl w.heap.size w).alloc (Nat.le_refl _) _).alloc (by simp) _).trans (hb1.mono (by simp; omega)))
  obtain ⟨x, y, rfl, hx⟩ := two_of hd1
  have hV1 := IsV.own ho1 hl1.isL
  have hm1 : m1 = 2 := hV1.len.symm
  subst hm1
  obtain ⟨b1, o1, rfl, _, _, q1⟩ := hV1.at_ 0 (Nat.zero_lt_succ 1)
  rw [List.getElem_cons_zero, hx, Nat.zero_mul, Nat.add_zero] at q1
  clear ha1 ho1 hl1 hb1 hd1 hx hV1
  have hq2 := HQ.o
  go_wp2_with fail
  clear q1 hq2
  refine (refVecU_any n A c E _ (HV.o.below HB1.o) hnc (by omega) HS.o).mono ?_
  rintro e w2 ⟨A2, m, c2, Rw, cd, rfl, haw, hvw, hb2⟩
  have HAW := hd haw
  have HVW := hd hvw
  have HB2 := hd (bel HB1.o hb2)
  have HM := hd hvw.len
  have hmn : m ≤ n := by rw [← hvw.len, HN.o]; exact haw.len
  clear haw hvw hb2 HB1 HQ
  go_wp2_with fail
  refine (copied_any n A c E _ (HV.o.below HB2.o) (by omega) (fun x hx => (HS.o x hx).1)).mono ?_
  rintro e w3 ⟨G, P, rfl, hpd, hpo, hpl, hb3⟩
  have HPD := hd hpd
  have HPO := hd hpo
  have HPL := hd hpl
  have HB3 := hd hb3
  have HVP : Hd (IsV w3 (.slice (some ⟨G, 0, none⟩) n n) n P) := hd (IsV.own hpo hpl.isL)
  have HSP : Hd (SzE P) := hd (szE_data hpd HS.o)
  clear hpd hpo hpl hb3
  go_wp2_with fail
  refine (vecU_any n _ n P _ HVP.o (by omega) HSP.o).mono ?_
  rintro e w4 ⟨A4, m4, c4, Ra, cd4, rfl, haa, hoa, hla, hb4⟩
  obtain ⟨hc, hda⟩ := (haa.data HPD.o).ext HAW.o
  have hc2 := hc.symm
  have hm4 : m = m4 := by rw [← HM.o, ← (IsV.own hoa hla.isL).len]; exact (len_two hda).symm
  subst hc2
  subst hm4
  have HOA := hd hoa
  have HLA := hd hla
  have HDA := hd hda
  have HB4 := hd hb4
  clear hc haa hoa hla hda hb4
  go_wp2_with fail
  refine (vecU_any n _ n P _ (HVP.o.below HB4.o) (by omega) HSP.o).mono ?_
  rintro e w5 ⟨A5, m5, c5, Rb, cd5, rfl, haa, hob, hlb, hb5⟩
  obtain ⟨hc, hda⟩ := (haa.data HPD.o).ext HAW.o
  have hc2 := hc.symm
  have hm5 : m = m5 := by rw [← HM.o, ← (IsV.own hob hlb.isL).len]; exact (len_two hda).symm
  subst hc2
  subst hm5
  have HOA5 := hd (own_below HOA.o hb5)
  have HLA5 := hd (HLA.o.below hb5)
  have HLT : Hd (∀ x ∈ Ra, ∀ g, x.sl.ownBlock = some g → g < w4.heap.size) := hd fun x hx g hg => (((LinE.iff.1 HLA.o).1 x hx).lt g hg).2
  have HLTA : Hd (∀ g, (Value.slice A4 m c4).ownBlock = some g → g < w4.heap.size) := hd fun g hg => (HOA.o.lt g hg).2
  have HOB := hd hob
  have HLB := hd hlb
  have HDB := hd hda
  have HB35 := hd (bel HB4.o hb5)
  have HSZ := hd (And.intro HB4.o.size hb5.size)
  clear hc haa hob hlb hda hb5 HOA HLA HB4
  have hex : (cd != cd) = false := by simp
  have HZM : Hd (∀ x ∈ Rw, x.l.length ≤ 1048576) := hd fun x hx => by
    obtain ⟨y, hy, e⟩ := HAW.o.mem hx
    rw [← e]; exact (HSM.o y hy).1
  have HZA : Hd (∀ x ∈ Ra, x.l.length ≤ 1048576) := hd fun x hx => by
    obtain ⟨y, hy, e⟩ := mem_data HDA.o.symm hx
    rw [← e]; exact HZM.o y hy
  have HZB : Hd (∀ x ∈ Rb, x.l.length ≤ 1048576) := hd fun x hx => by
    obtain ⟨y, hy, e⟩ := mem_data HDB.o.symm hx
    rw [← e]; exact HZM.o y hy
  have HZP : Hd (∀ x ∈ P, x.l.length ≤ 1048576) := hd fun x hx => by
    obtain ⟨y, hy, e⟩ := mem_data HPD.o.symm hx
    rw [← e]; exact (HSM.o y hy).1
  go_wp2_with fail
  refine (alike_any m c4 c2 A4 A2 Ra Rw _ (IsV.own HOA5.o HLA5.o.isL) (HVW.o.below (bel HB3.o HB35.o)) HDA.o (by omega) (fun x hx => by have := HZA.o x hx; omega)).mono ?_
  rintro e w6 ⟨rfl, hb6⟩
  have HB6 := hd hb6
  clear hb6
  go_wp2_with fail
  refine (alike_any m c5 c2 A5 A2 Rb Rw _ ((IsV.own HOB.o HLB.o.isL).below HB6.o) (HVW.o.below (bel (bel HB3.o HB35.o) HB6.o)) HDB.o (by omega) (fun x hx => by have := HZB.o x hx; omega)).mono ?_
  rintro e w7 ⟨rfl, hb7⟩
  have HB7 := hd (bel HB6.o hb7)
  clear hb7 HB6
  go_wp2_with fail
  refine (alike_any n n c _ A P E _ (HVP.o.below (bel HB35.o HB7.o)) (HV.o.below (bel HB2.o (bel HB3.o (bel HB35.o HB7.o)))) HPD.o (by omega) (fun x hx => by have := HZP.o x hx; omega)).mono ?_
  rintro e w8 ⟨rfl, hb8⟩
  have HB8 := hd (bel HB7.o hb8)
  have HOA8 := hd (own_below HOA5.o HB8.o)
  have HLA8 := hd (HLA5.o.below HB8.o)
  have HOB8 := hd (own_below HOB.o HB8.o)
  have HLB8 := hd (HLB.o.below HB8.o)
  have HB38 := hd (bel HB35.o HB8.o)
  clear hb8 HB7 HB8 HOA5 HLA5 HOB HLB HB35
  go_wp2
  have HRA : Hd (Ra.length = m) := hd ((len_two HDA.o).trans HM.o)
  have HRB : Hd (Rb.length = m) := hd ((len_two HDB.o).trans HM.o)
  go_loopg [11, 91] m (fun kx o x wr => ∃ (i : Nat) (Ao : Option Addr) (co : Nat), i ≤ m ∧ x = .int .i64 i ∧ m - i ≤ kx ∧ o = .slice Ao (2 * i) co ∧ Hd (wr.ownsRow w8.heap.size 23 1 (.slice Ao (2 * i) co) (2 * i) ((List.range (2 * i)).map fun j => (pickE Ra Rb j).sl)) ∧ Hd (i = 0 → Ao = none ∧ co = 0) ∧ Hd (Below w8.heap.size w8 wr))
  case atStart => exact ⟨0, none, 0, Nat.zero_le _, rfl, Nat.le_refl _, rfl, hd (World.ownsRow_nil _ _ _ _), hd (fun _ => ⟨rfl, rfl⟩), hd (Below.refl _ _)⟩
  case round =>
    obtain ⟨i, Ao, co, hi, rfl, hkx, rfl, HO, H0, HBR⟩ := hrel
    by_cases him : i < m
    · have himz : (i : Int) < (m : Int) := by omega
      have hiA : i < Ra.length := by rw [HRA.o]; exact him
      have hiB : i < Rb.length := by rw [HRB.o]; exact him
      have HOR := hd (own_below HO.o ((Below.refl _ _).drew))
      obtain ⟨b1, o1, rfl, hb1, d1, _⟩ := ((IsV.own HOA8.o HLA8.o.isL).below (bel HBR.o (Below.refl _ _).drew)).at_ i hiA
      obtain ⟨b2, o2, rfl, hb2, d2, _⟩ := ((IsV.own HOB8.o HLB8.o.isL).below (bel HBR.o (Below.refl _ _).drew)).at_ i hiB
      have HPS := hd (pick_snoc hiA hiB)
      have HBD := hd (show Below w8.heap.size w8 wr.drew from bel HBR.o (Below.refl _ _).drew)
      have HSZ8 := hd HBD.o.size
      generalize Ra[i]'hiA = xa at *
      generalize Rb[i]'hiB = xb at *
      obtain ⟨pa, ca, la, fa⟩ := xa
      obtain ⟨pb, cb, lb, fb⟩ := xb
      simp only [El.sl] at d1 d2
      go_wp2_with fail
      go_region_law (first
        | (refine step_app_lit 36 23 (.slice none 0 0) 1 24 Try.underlying36 info_sll rfl (by decide) rfl _ _ rfl w8.heap.size (.slice Ao (2 * i) co) (2 * i) _ _ #[.slice pa la.length ca, .slice pb lb.length cb] 2 rfl rfl HOR.o rfl (by simp [Value.oneCell']) (by decide) (by omega) (by omega) HSZ8.o ?_; intro g6 cap6 w6 ho6 hg6)
        | fail)
      all_goals (
        have HO6 : Hd (w6.ownsRow w8.heap.size 23 1 (.slice (some ⟨g6, 0, none⟩) (2 * i + 2) cap6) (2 * i + 2) ((List.range (2 * (i + 1))).map fun j => (pickE Ra Rb j).sl)) := hd (by rw [← HPS.o]; exact ho6)
        have HB6 := hd (bel_grown HBD.o hg6 (fun g hg => (HOR.o.lt g hg).1))
        clear ho6 hg6 d1 d2
        go_simp
        go_wp2
        go_roundg (m - (i + 1))
        case measure => omega
        case rel => exact ⟨i + 1, _, _, by omega, by go_num, by omega, rfl, HO6, hd (fun h => absurd h (Nat.succ_ne_zero _)), HB6⟩)
    · have hime : i = m := by omega
      have HIM := hd hime
      rw [hime] at HO H0 ⊢
      clear hime him
      have HBR3 := hd (bel HB38.o HBR.o)
      have HSZ3 := hd HBR3.o.size
      have HAP : Hd (Calls Try.prog 17 #[.slice Ao (2 * m) co] wr fun e w' => e = .returned (.bool true) ∧ Bl w3.heap.size 26 23 wr w') := hd (by
        by_cases h0 : m = 0
        · obtain ⟨rfl, rfl⟩ := H0.o h0
          subst h0
          exact (lapart_nil wr).mono fun _ _ ⟨h1, h2⟩ => ⟨h1, (Bl.refl _ _ _ _).below h2 HSZ3.o⟩
        · obtain ⟨g, cap, hv, _, _⟩ := HO.o.form (by omega)
          rw [hv] at HO ⊢
          exact lapart_bl w3.heap.size (2 * m) g cap _ _ _ wr (own_mono HO.o HB38.o.size) (lin2 (HLA8.o.below HBR.o) (HLB8.o.below HBR.o) HLT.o HSZ.o.1 m HRA.o HRB.o) (by omega) (fun j hj => by
            unfold pickE
            split
            · have := HZA.o (Ra.getD (j / 2) default) (by simp [show j / 2 < Ra.length by rw [HRA.o]; omega]); omega
            · have := HZB.o (Rb.getD (j / 2) default) (by simp [show j / 2 < Rb.length by rw [HRB.o]; omega]); omega) HSZ3.o)
      clear HLT H0 HO HLA8 HLB8
      go_wp2_with fail
      refine HAP.o.mono ?_
      rintro e w9 ⟨rfl, hbl9⟩
      have HB9 := hd (show Below w3.heap.size w3 w9 from HBR3.o.trans hbl9.b)
      have HOA9 := hd (hbl9.keep (own_below HOA8.o HBR.o) (by decide) (by decide))
      have HOB9 := hd (hbl9.keep (own_below HOB8.o HBR.o) (by decide) (by decide))
      clear hbl9 HAP HOA8 HOB8 HBR HBR3 HSZ3 HB38 hkx hi
      go_wp2_with fail
      refine (alike_any n n c _ A P E _ (HVP.o.below HB9.o) (HV.o.below (bel HB2.o (bel HB3.o HB9.o))) HPD.o (by omega) (fun x hx => by have := HZP.o x hx; omega)).mono ?_
      rintro e w10 ⟨rfl, hb10⟩
      have HB10 := hd (bel HB9.o hb10)
      have HOA10 := hd (own_below HOA9.o hb10)
      have HOB10 := hd (own_below HOB9.o hb10)
      clear hb10 HB9 HOA9 HOB9
      go_wp2
      go_loopg [119] m (fun kx x wr => ∃ (i : Nat) (X : List Value), i ≤ m ∧ x = .int .i64 i ∧ m - i ≤ kx ∧ Hd (wr.ownsRow w3.heap.size 50 2 (.slice A4 m c4) m X) ∧ Hd (wr.ownsRow w4.heap.size 50 2 (.slice A5 m c5) m (cellsE Rb)) ∧ Hd (Below w3.heap.size w3 wr))
      case atStart => exact ⟨0, _, Nat.zero_le _, rfl, Nat.le_refl _, HOA10, HOB10, HB10⟩
      case round =>
        clear HB10 HOA10 HOB10
        obtain ⟨i, X, hi, rfl, hkx, HOA, HOB, HB⟩ := hrel
        by_cases him : i < m
        · have himz : (i : Int) < (m : Int) := by omega
          have hXl : X.length = m * 2 := HOA.o.1
          obtain ⟨g, cap, hv, _, _⟩ := HOA.o.form (by omega)
          simp only [Value.slice.injEq, true_and] at hv
          obtain ⟨rfl, rfl⟩ := hv
          obtain ⟨u1, hu1⟩ : ∃ u, wr.cell? ⟨g, i * 2, none⟩ = some u := ⟨_, by rw [HOA.o.cellAt _ (by omega), List.getElem?_eq_getElem (by omega)]⟩
          obtain ⟨u2, hu2⟩ : ∃ u, wr.cell? ⟨g, i * 2 + 1, none⟩ = some u := ⟨_, by rw [HOA.o.cellAt _ (by omega), List.getElem?_eq_getElem (by omega)]⟩
          have q1 := HOA.o.frozenAt (i * 2)
          have q2 := HOA.o.frozenAt (i * 2 + 1)
          have HZ3 := hd HB.o.size
          have HS1 := hd (HOA.o.stored (i * 2) (.slice none 0 0))
          have HS2 := hd (HS1.o.1.stored (i * 2 + 1) (.float .f64 13842939354630062080))
          have HGR := hd (HS1.o.2.trans HS2.o.2)
          have HOB2 := hd (HOB.o.kept HGR.o (.inr fun e => by have h1 := (HOB.o.lt g e).1; have h2 := HLTA.o g rfl; omega))
          have HB2' := hd (HB.o.grown HGR.o HB.o.size (fun q hq => (HOA.o.lt q hq).1))
          go_wp2
          go_roundg (m - (i + 1))
          case measure => omega
          case rel => exact ⟨i + 1, _, by omega, by go_num, by omega, hd HS2.o.1, HOB2, HB2'⟩
        · have hime : i = m := by omega
          have himz : ¬ (i : Int) < (m : Int) := by omega
          clear hi hkx him hime
          have hsz := HB.o.size
          go_wp2_with (at_builtin; refine wpList_app_litH 44 50 (.agg #[.slice none 0 0, .float .f64 0]) 2 32 Try.underlying44 info_elem rfl (by decide) rfl _ _ rfl w3.heap.size (.slice A4 m c4) m X _ #[.slice none 0 0, .float .f64 13842939354630062080, .slice none 0 0, .float .f64 13842939354630062080] 2 _ rfl rfl rfl (HOA.o) rfl (by simp [Value.oneCell']) (by omega) (by omega) (by first | exact hsz | (simp; omega)) ?_)
          intro v11 w11 ho11 hg11
          have HB11 := hd (bel_grown HB.o hg11 (fun q hq => (HOA.o.lt q hq).1))
          have HOB11 := hd (HOB.o.kept hg11 (by
            cases hq : (Value.slice A4 m c4).ownBlock with
            | none =>
              cases hq2 : (Value.slice A5 m c5).ownBlock with
              | none => exact .inl rfl
              | some g => exact .inr (fun e => by cases e)
            | some g => exact .inr (fun e => by have h1 := (HOB.o.lt g e).1; have h2 := HLTA.o g hq; omega)))
          obtain ⟨A11, c11, rfl⟩ := own_shape ho11
          have hsz11 := HB11.o.size
          clear ho11 hg11 HOA HOB HB hsz
          go_wp2
          go_loopg [134] m (fun kx x wr => ∃ i : Nat, i ≤ m ∧ x = .int .i64 i ∧ m - i ≤ kx ∧ Hd (Below w11.heap.size w11 wr))
          case atStart => exact ⟨0, Nat.zero_le _, rfl, Nat.le_refl _, hd (Below.refl _ _)⟩
          case round =>
            obtain ⟨i, hi, rfl, hkx, HBR⟩ := hrel
            have HB3R := hd (bel HB11.o HBR.o)
            by_cases him : i < m
            · have himz : (i : Int) < (m : Int) := by omega
              have hiB : i < Rb.length := by rw [HRB.o]; exact him
              have hiW : i < Rw.length := by rw [HM.o]; exact him
              obtain ⟨g, cap, hv, _, _⟩ := (own_below HOB11.o HBR.o).form (by omega)
              simp only [Value.slice.injEq, true_and] at hv
              obtain ⟨rfl, rfl⟩ := hv
              have d1 : wr.cell? ⟨g, i * 2 + 1, none⟩ = some (.float .f64 (Rb[i]'hiB).f) := by
                rw [(own_below HOB11.o HBR.o).cellAt _ (by omega)]
                exact (cellsE_at Rb i hiB).2
              obtain ⟨b2, o2, rfl, _, _, d2⟩ := (HVW.o.below (bel HB3.o HB3R.o)).at_ i hiW
              rw [at_two HDB.o hiB hiW] at d1
              generalize (Rw[i]'hiW).f = f at *
              have HALI := hd (fun W (hb : Below wr.heap.size wr W) => alike_any n n c (some ⟨G, 0, none⟩) A P E W (HVP.o.below (bel HB3R.o hb)) (HV.o.below (bel HB2.o (bel HB3.o (bel HB3R.o hb)))) HPD.o (by omega) (fun x hx => by have := HZP.o x hx; omega))
              by_cases hf : (FloatKind.f64.format.order f 13842939354630062080 == some Ordering.eq) = true
              · have hf2 : (FloatKind.f64.format.order f 13842939354630062080 != some Ordering.eq) = false := by simpa using hf
                go_wp2_with (go_at_call 29; refine (HALI.o _ (Below.refl _ _)).mono ?_; rintro e w12 ⟨rfl, hb12⟩; have HB12 := hd (bel HBR.o hb12); clear hb12)
                go_roundg (m - (i + 1))
                case measure => omega
                case rel => exact ⟨i + 1, by omega, by go_num, by omega, HB12⟩
              · have hf3 : (FloatKind.f64.format.order f 13842939354630062080 == some Ordering.eq) = false := by simpa using hf
                clear hf
                go_wp2_with (go_at_call 29; refine (HALI.o _ (Below.refl _ _)).mono ?_; rintro e w12 ⟨rfl, hb12⟩; have HB12 := hd (bel HBR.o hb12); clear hb12)
                go_roundg (m - (i + 1))
                case measure => omega
                case rel => exact ⟨i + 1, by omega, by go_num, by omega, HB12⟩
            · have himz : ¬ (i : Int) < (m : Int) := by omega
              clear hi hkx him HOB11 HBR
              go_wp2_with fail
              clear himz
              refine (vecU_any n _ n P _ (HVP.o.below HB3R.o) (by omega) HSP.o).mono ?_
              rintro e w12 ⟨A12, m12, c12, Rc, cd12, rfl, haa, hoc, hlc, hb12⟩
              obtain ⟨hc, hdc⟩ := (haa.data HPD.o).ext HAW.o
              have hc2 := hc.symm
              have hm12 : m = m12 := by rw [← HM.o, ← (IsV.own hoc hlc.isL).len]; exact (len_two hdc).symm
              subst hc2
              subst hm12
              have HOC := hd hoc
              have HLC := hd hlc
              have HDC := hd hdc
              have HB312 := hd (bel HB3R.o hb12)
              have HPO12 := hd (own_below HPO.o HB312.o)
              have HPL12 := hd (HPL.o.below HB312.o)
              have HGLT := hd (show G < wr.heap.size from Nat.lt_of_lt_of_le (HPO.o.lt G rfl).2 HB3R.o.size)
              have HGLE := hd (show w2.heap.size ≤ G from (HPO.o.lt G rfl).1)
              have HLLT : Hd (∀ x ∈ P, ∀ g, x.sl.ownBlock = some g → w2.heap.size ≤ g ∧ g < wr.heap.size) := hd fun x hx g hg => by
                have := ((LinE.iff.1 HPL.o).1 x hx).lt g hg
                exact ⟨this.1, Nat.lt_of_lt_of_le this.2 HB3R.o.size⟩
              have H12 := hd (show w2.heap.size ≤ w12.heap.size from Nat.le_trans HB3.o.size HB312.o.size)
              have HPN : Hd (P.length = n) := hd HVP.o.len
              clear hc haa hoc hlc hdc hb12 HB3R
              obtain ⟨wv, rfl⟩ : ∃ wv : World, wv = wr := ⟨_, rfl⟩
              go_wp2_with fail
              go_loopg [165] n (fun kx x wq => ∃ (i : Nat) (Q : List El), i ≤ n ∧ x = .int .i64 i ∧ n - i ≤ kx ∧ Hd (Q.length = n) ∧ Hd (wq.ownsRow w2.heap.size 50 2 (.slice (some ⟨G, 0, none⟩) n n) n (cellsE Q)) ∧ Hd (LinE wq w2.heap.size 26 Q) ∧ Hd (Kp w2.heap.size wv.heap.size w12 wq) ∧
                Hd (∀ x ∈ Q, x.l.length ≤ 1048576 ∧ ∀ y ∈ x.l, y.1.size ≤ 1048577 ∧ y.2.size ≤ 1048577) ∧ Hd (∀ j (h : j < Q.length), i ≤ j → ∀ y ∈ (Q[j]'h).l, y.2.size ≤ 1048576) ∧ Hd (∀ x ∈ Q, ∀ g, x.sl.ownBlock = some g → w2.heap.size ≤ g ∧ g < wv.heap.size))
              case atStart =>
                refine ⟨0, P, Nat.zero_le _, rfl, Nat.le_refl _, HPN, HPO12, HPL12, hd (Kp.refl _ _ _), hd fun x hx => ?_, hd fun j hj _ y hy => ?_, HLLT⟩
                · obtain ⟨z, hz, e⟩ := mem_data HPD.o.symm hx
                  rw [← e]
                  exact ⟨(HSM.o z hz).1, fun y hy => by have := (HSM.o z hz).2 y hy; omega⟩
                · obtain ⟨z, hz, e⟩ := mem_data HPD.o.symm (List.getElem_mem hj)
                  rw [← e] at hy
                  exact ((HSM.o z hz).2 y hy).2
              case round =>
                clear HPO12 HPL12 HLLT HPN HPO HPL HVP HSP
                obtain ⟨i, Q, hi, rfl, hkx, HQL, HO, HL, HK, HSZQ, HRS, HLB⟩ := hrel
                obtain ⟨wq, rfl⟩ : ∃ wq : World, wq = wr := ⟨_, rfl⟩
                by_cases hin : i < n
                · have hinz : (i : Int) < (n : Int) := by omega
                  have hiQ : i < Q.length := by rw [HQL.o]; exact hin
                  have c0 : wq.cell? ⟨G, i * 2, none⟩ = some (Q[i]'hiQ).sl := by
                    rw [HO.o.cellAt _ (by omega)]; exact (cellsE_at Q i hiQ).1
                  have HXM := hd (List.getElem_mem hiQ)
                  have HSX := hd (HSZQ.o _ HXM.o)
                  have HRX := hd (HRS.o i hiQ (Nat.le_refl _))
                  have HL0 : Hd (LinE wq w2.heap.size 26 (Q.set i { Q[i]'hiQ with l := (Q[i]'hiQ).l })) := hd (by
                    rw [show ({ Q[i]'hiQ with l := (Q[i]'hiQ).l } : El) = Q[i]'hiQ from rfl, List.set_getElem_self]; exact HL.o)
                  obtain ⟨x, hxe⟩ : ∃ x, x = Q[i]'hiQ := ⟨_, rfl⟩
                  obtain ⟨lq, hlq⟩ : ∃ lq, lq = (Q[i]'hiQ).l.length := ⟨_, rfl⟩
                  have HLQ := hd hlq
                  have hsl : (Q[i]'hiQ).sl = .slice (Q[i]'hiQ).p lq (Q[i]'hiQ).c := by rw [hlq]; rfl
                  have HSL := hd hsl
                  obtain ⟨pq, hpq⟩ : ∃ pq, pq = (Q[i]'hiQ).p := ⟨_, rfl⟩
                  obtain ⟨cq, hcq⟩ : ∃ cq, cq = (Q[i]'hiQ).c := ⟨_, rfl⟩
                  rw [hsl, ← hpq, ← hcq] at c0
                  rw [← hpq, ← hcq] at HSL
                  have hlqs : lq ≤ 1048576 := by rw [hlq]; exact HSX.o.1
                  clear hlq hsl hpq hcq hxe HL
                  go_wp2_with fail
                  go_loopg [174] lq (fun ky y wz => ∃ (j : Nat) (M : List Lb), j ≤ lq ∧ y = .int .i64 j ∧ lq - j ≤ ky ∧ Hd (M.length = lq) ∧ Hd (wz.ownsRow w2.heap.size 50 2 (.slice (some ⟨G, 0, none⟩) n n) n (cellsE Q)) ∧ Hd (LinE wz w2.heap.size 26 (Q.set i { Q[i]'hiQ with l := M })) ∧ Hd (Kp w2.heap.size wv.heap.size w12 wz) ∧
                    Hd (∀ y ∈ M, y.1.size ≤ 1048577 ∧ y.2.size ≤ 1048577) ∧ Hd (∀ t (h : t < M.length), j ≤ t → (M[t]'h).2.size ≤ 1048576))
                  case atStart => exact ⟨0, (Q[i]'hiQ).l, Nat.zero_le _, rfl, Nat.le_refl _, hd HLQ.o.symm, HO, HL0, HK, hd HSX.o.2, hd fun t ht _ => HRX.o _ (List.getElem_mem ht)⟩
                  case round =>
                    clear HO HL0 HK HSX HRX c0
                    obtain ⟨j, M, hj, rfl, hky, HML, HO, HL, HK, HSM2, HRM⟩ := hrel
                    obtain ⟨wz, rfl⟩ : ∃ wz : World, wz = wr := ⟨_, rfl⟩
                    by_cases hjl : j < lq
                    · have hjz : (j : Int) < (lq : Int) := by omega
                      have c0 : wz.cell? ⟨G, i * 2, none⟩ = some (.slice pq lq cq) := by
                        rw [HO.o.cellAt _ (by omega), ← HSL.o]; exact (cellsE_at Q i hiQ).1
                      have HOW : Hd (wz.ownsRow w2.heap.size 26 2 (.slice pq lq cq) lq (cellsL M)) := hd (by
                        have h := LinE.put_at hiQ HL.o (by rw [HML.o, HLQ.o])
                        rw [HSL.o, ← HLQ.o] at h; exact h)
                      have HGB : Hd (∀ g, (Value.slice pq lq cq).ownBlock = some g → w2.heap.size ≤ g ∧ g < wv.heap.size) := hd (by rw [← HSL.o]; exact HLB.o _ HXM.o)
                      obtain ⟨g, cap, hv, _, _⟩ := HOW.o.form (by omega)
                      simp only [Value.slice.injEq, true_and] at hv
                      obtain ⟨rfl, rfl⟩ := hv
                      have hjM : j < M.length := by rw [HML.o]; exact hjl
                      obtain ⟨_, e2, _, e4⟩ := own_at HOW.o j hjM
                      have hsz := HRM.o j hjM (Nat.le_refl _)
                      have HST : Hd (∀ u : ByteArray, (wz.setCell ⟨g, j * 2 + 1, none⟩ (.string u)).ownsRow w2.heap.size 26 2 (.slice (some ⟨g, 0, none⟩) lq cq) lq (cellsL (M.set j ((M[j]'hjM).1, u))) ∧ wz.grownBy (wz.setCell ⟨g, j * 2 + 1, none⟩ (.string u)) (some g)) := hd fun u => by
                        obtain ⟨a1, a2⟩ := HOW.o.stored (j * 2 + 1) (.string u)
                        have h := cellsL_setV M [] j hjM u
                        rw [List.append_nil, List.append_nil] at h
                        rw [h] at a1
                        exact ⟨a1, a2⟩
                      have z1 : ¬ 9223372036854775807 < (M[j]'hjM).2.size + 1 := by omega
                      have z2 : ¬ 281474976710656 < (M[j]'hjM).2.size + 1 := by omega
                      go_wp2_with fail
                      go_roundg (lq - (j + 1))
                      case measure => omega
                      case rel =>
                        have S := HST.o ((M[j]'hjM).2 ++ (⟨#[120]⟩ : ByteArray))
                        have hgb := HGB.o g rfl
                        refine ⟨j + 1, M.set j ((M[j]'hjM).1, (M[j]'hjM).2 ++ (⟨#[120]⟩ : ByteArray)), by omega, by go_num, by omega, hd (by rw [List.length_set]; exact HML.o), hd (HO.o.kept S.2 (own_type_ne HO.o HOW.o (by decide))), hd (LinE.put2 hiQ HL.o (by rw [HML.o, HLQ.o]) (by rw [List.length_set, HML.o, HLQ.o]) (by rw [HSL.o, ← HLQ.o]; exact S.1) (by rw [HSL.o]; exact S.2)), hd (HK.o.step S.2 hgb.1 hgb.2 H12.o), hd fun y hy => ?_, hd fun t ht hjt => ?_⟩
                        · rcases List.mem_or_eq_of_mem_set hy with h | h
                          · exact HSM2.o y h
                          · subst h
                            refine ⟨(HSM2.o _ (List.getElem_mem hjM)).1, ?_⟩
                            show (_ ++ _ : ByteArray).size ≤ _
                            rw [ByteArray.size_append]
                            have : (⟨#[120]⟩ : ByteArray).size = 1 := rfl
                            omega
                        · rw [List.length_set] at ht
                          rw [List.getElem_set_ne (by omega)]
                          exact HRM.o t ht (by omega)
                    · have hjz : ¬ (j : Int) < (lq : Int) := by omega
                      clear hj hky hjl
                      have HQX := hd (show cellsE (Q.set i { Q[i]'hiQ with l := M }) = cellsE Q from cellsE_same Q i hiQ _ (El.put_sl _ _ (by rw [HML.o, HLQ.o])) rfl)
                      have hiX : i < (Q.set i { Q[i]'hiQ with l := M }).length := by rw [List.length_set]; exact hiQ
                      obtain ⟨u2, hu2⟩ : ∃ u, wz.cell? ⟨G, i * 2 + 1, none⟩ = some u := ⟨_, by rw [HO.o.cellAt _ (by omega), List.getElem?_eq_getElem (by rw [cellsE_len, HQL.o]; omega)]⟩
                      have q2 := HO.o.frozenAt (i * 2 + 1)
                      have HST := hd (HO.o.stored (i * 2 + 1) (.float .f64 4621256167635550208))
                      have HOT : Hd ((wz.setCell ⟨G, i * 2 + 1, none⟩ (.float .f64 4621256167635550208)).ownsRow w2.heap.size 50 2 (.slice (some ⟨G, 0, none⟩) n n) n (cellsE ((Q.set i { Q[i]'hiQ with l := M }).set i { (Q.set i { Q[i]'hiQ with l := M })[i]'hiX with f := 4621256167635550208 }))) := hd (by
                        rw [← cellsE_setF _ i hiX, HQX.o]; exact HST.o.1)
                      have HLT2 := hd ((HL.o.typed HO.o (by decide) HST.o.2).fset hiX 4621256167635550208)
                      have HKT := hd (HK.o.step HST.o.2 HGLE.o HGLT.o H12.o)
                      go_wp2_with fail
                      go_roundg (n - (i + 1))
                      case measure => omega
                      case rel =>
                        refine ⟨i + 1, _, by omega, by go_num, by omega, hd (by rw [List.length_set, List.length_set]; exact HQL.o), HOT, HLT2, HKT, hd fun x hx => ?_, hd fun t ht hit y hy => ?_, hd fun x hx g hg => ?_⟩
                        · rcases List.mem_or_eq_of_mem_set hx with h | h
                          · rcases List.mem_or_eq_of_mem_set h with h | h
                            · exact HSZQ.o x h
                            · subst h; exact ⟨by show M.length ≤ _; rw [HML.o]; exact hlqs, HSM2.o⟩
                          · subst h
                            simp only [List.getElem_set_self]
                            exact ⟨by show M.length ≤ _; rw [HML.o]; exact hlqs, HSM2.o⟩
                        · rw [List.length_set, List.length_set] at ht
                          rw [List.getElem_set_ne (by omega), List.getElem_set_ne (by omega)] at hy
                          exact HRS.o t ht (by omega) y hy
                        · rcases List.mem_or_eq_of_mem_set hx with h | h
                          · rcases List.mem_or_eq_of_mem_set h with h | h
                            · exact HLB.o x h g hg
                            · subst h
                              rw [El.put_sl _ _ (by rw [HML.o, HLQ.o])] at hg
                              exact HLB.o _ HXM.o g hg
                          · subst h
                            simp only [List.getElem_set_self] at hg
                            have e : ({ Q[i]'hiQ with l := M, f := 4621256167635550208 } : El).sl = (Q[i]'hiQ).sl := El.put_sl _ _ (by rw [HML.o, HLQ.o])
                            exact HLB.o _ HXM.o g (by rw [← e]; exact hg)
                · have hinz : ¬ (i : Int) < (n : Int) := by omega
                  have HVQ : Hd (IsV wq (.slice (some ⟨G, 0, none⟩) n n) n Q) := hd (IsV.own HO.o HL.o.isL)
                  have HSQ : Hd (SzE Q) := hd fun x hx => ⟨by have := (HSZQ.o x hx).1; omega, fun y hy => by have := (HSZQ.o x hx).2 y hy; omega⟩
                  have HZQ : Hd (∀ x ∈ Q, x.l.length ≤ 1048576) := hd fun x hx => (HSZQ.o x hx).1
                  have HVC := hd (IsV.own (HK.o.own HOC.o (Nat.le_refl _)) (HK.o.linE HLC.o (Nat.le_refl _)).isL)
                  have HB2Q := hd (show Below w2.heap.size w2 wq from (bel HB3.o HB312.o).trans HK.o.b)
                  clear hi hkx hin HO HL HK HSZQ HRS HLB HOC HLC
                  go_wp2_with fail
                  clear hinz
                  refine (refVecU_any n _ n Q _ HVQ.o (Nat.le_refl _) (by omega) HSQ.o).mono ?_
                  rintro e w13 ⟨A13, m13, c13, Rn, cd13, rfl, han, hvn, hb13⟩
                  have HAN := hd han
                  have HVN := hd hvn
                  have HB13 := hd hb13
                  have HMN := hd hvn.len
                  have hmn13 : m13 ≤ n := by rw [← hvn.len, ← HVQ.o.len]; exact han.len
                  clear han hvn hb13
                  go_wp2_with fail
                  refine (vecU_any n _ n Q _ (HVQ.o.below HB13.o) (by omega) HSQ.o).mono ?_
                  rintro e w14 ⟨A14, m14, c14, Rd, cd14, rfl, had, hod, hld, hb14⟩
                  obtain ⟨hc, hdd⟩ := had.ext HAN.o
                  have hc2 := hc.symm
                  have hm14 : m13 = m14 := by rw [← HMN.o, ← (IsV.own hod hld.isL).len]; exact (len_two hdd).symm
                  subst hc2
                  subst hm14
                  have HVD := hd (IsV.own hod hld.isL)
                  have HDD := hd hdd
                  have HB14 := hd (bel HB13.o hb14)
                  have HVN14 := hd (HVN.o.below hb14)
                  have HZN : Hd (∀ x ∈ Rd, x.l.length ≤ 1048576) := hd fun x hx => by
                    obtain ⟨y, hy, e⟩ := had.mem hx
                    rw [← e]; exact HZQ.o y hy
                  have HZC : Hd (∀ x ∈ Rc, x.l.length ≤ 1048576) := hd fun x hx => by
                    obtain ⟨y, hy, e⟩ := mem_data HDC.o.symm hx
                    rw [← e]; exact HZM.o y hy
                  have t1 : (cd == cd) = true := by simp
                  have t2 : (cd13 == cd13) = true := by simp
                  clear hc had hod hld hdd hb14 HB13 HVN
                  go_wp2_with fail
                  refine (alike_any m c12 c2 A12 A2 Rc Rw _ (HVC.o.below HB14.o) (HVW.o.below (HB2Q.o.trans (HB14.o.mono HB2Q.o.size))) HDC.o (by omega) (fun x hx => by have := HZC.o x hx; omega)).mono ?_
                  rintro e w15 ⟨rfl, hb15⟩
                  have HB15 := hd hb15
                  clear hb15
                  go_wp2_with fail
                  refine (alike_any m13 c14 c13 A14 A13 Rd Rn _ (HVD.o.below HB15.o) (HVN14.o.below HB15.o) HDD.o (by omega) (fun x hx => by have := HZN.o x hx; omega)).mono ?_
                  rintro e w16 ⟨rfl, hb16⟩
                  have HB16 := hd (show Below w.heap.size w w16 from bel (bel (bel HB2.o HB2Q.o) HB14.o) (bel HB15.o hb16))
                  clear hb16 HB15
                  have t3 : (2 : Int) ≤ (m : Int) + 2 := by omega
                  go_wp2_with fail
                  go_ret
                  exact ⟨rfl, HB16.o⟩
theorem vectors_all {H : Type} (w : World) (va : Value) (d : DataW H) (o : Rows.uptoBulk d ≤ 1048576 → ∃ E, IsElems w va E) (hb : Rows.uptoBulk d ≤ 1048576) :
    Calls Try.prog 7 #[va] w fun e w' => e = .returned (.bool true) ∧ Below w.heap.size w w' := by
  obtain ⟨E, hq⟩ := o hb
  exact vectors_walk va E w hq
end Go.Proofs.Ytifaepkeoffcfaa
