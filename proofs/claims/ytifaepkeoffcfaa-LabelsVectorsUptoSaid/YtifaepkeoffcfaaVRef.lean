/- weirref16.sorted and weirref16.Vector at this program. -/
import Derived.Test.YtifaepkeoffcfaaVBase
import Derived.Test.YtifaepkeoffcfaaLRefVld
import Derived.Deep.LoopGhost
namespace Go.Proofs.Ytifaepkeoffcfaa
open Go.RowKit Go.Sort
set_option linter.unusedVariables false
set_option linter.unusedSimpArgs false
theorem cellsE_take (l : List El) (k : Nat) : (cellsE l).take (k * 2) = cellsE (l.take k) := by
  induction l generalizing k with
  | nil => simp [cellsE]
  | cons x l ih =>
    cases k with
    | zero => simp [cellsE]
    | succ k =>
      rw [cellsE_cons, show (k + 1) * 2 = k * 2 + 1 + 1 by omega, List.take_succ_cons, List.take_succ_cons, ih k, List.take_succ_cons, cellsE_cons]
theorem cellsE_drop (l : List El) (k : Nat) : (cellsE l).drop (k * 2) = cellsE (l.drop k) := by
  induction l generalizing k with
  | nil => simp [cellsE]
  | cons x l ih =>
    cases k with
    | zero => simp
    | succ k =>
      rw [cellsE_cons, show (k + 1) * 2 = k * 2 + 1 + 1 by omega, List.drop_succ_cons, List.drop_succ_cons, ih k, List.drop_succ_cons]
theorem IsV.take {w : World} {b off n c : Nat} {E : List El} (h : IsV w (.slice (some ⟨b, off, none⟩) n c) n E) (k : Nat) (hk : k ≤ n) (c' : Nat) : IsV w (.slice (some ⟨b, off, none⟩) k c') k (E.take k) := by
  refine ⟨?_, fun x hx => h.2 x (List.mem_of_mem_take hx)⟩
  obtain ⟨hl, A, c0, e, r⟩ := h.1
  simp only [Value.slice.injEq, true_and] at e
  obtain ⟨rfl, _⟩ := e
  have hz := h.len
  refine ⟨by rw [cellsE_len, List.length_take]; omega, _, _, rfl, fun j hj0 => ?_⟩
  have hj := hj0
  rw [cellsE_len, List.length_take] at hj
  obtain ⟨b1, o1, e1, hc⟩ := r j (by rw [cellsE_len]; omega)
  refine ⟨b1, o1, e1, ?_⟩
  rw [hc]
  congr 1
  have : (cellsE (E.take k))[j]? = (cellsE E)[j]? := by rw [← cellsE_take, List.getElem?_take, if_pos (by omega)]
  rw [List.getElem?_eq_getElem hj0, List.getElem?_eq_getElem (show j < (cellsE E).length by rw [cellsE_len]; omega)] at this
  exact (Option.some.inj this).symm
theorem IsV.drop {w : World} {b off n c : Nat} {E : List El} (h : IsV w (.slice (some ⟨b, off, none⟩) n c) n E) (k : Nat) (hk : k ≤ n) (c' : Nat) : IsV w (.slice (some ⟨b, off + k * 2, none⟩) (n - k) c') (n - k) (E.drop k) := by
  refine ⟨?_, fun x hx => h.2 x (List.mem_of_mem_drop hx)⟩
  obtain ⟨hl, A, c0, e, r⟩ := h.1
  simp only [Value.slice.injEq, true_and] at e
  obtain ⟨rfl, _⟩ := e
  have hz := h.len
  refine ⟨by rw [cellsE_len, List.length_drop]; omega, _, _, rfl, fun j hj0 => ?_⟩
  have hj := hj0
  rw [cellsE_len, List.length_drop] at hj
  obtain ⟨b1, o1, e1, hc⟩ := r (k * 2 + j) (by rw [cellsE_len]; omega)
  simp only [Option.some.injEq, Addr.mk.injEq, and_true] at e1
  obtain ⟨rfl, rfl⟩ := e1
  refine ⟨b, off + k * 2, rfl, ?_⟩
  rw [Nat.add_assoc, hc]
  congr 1
  have : (cellsE (E.drop k))[j]? = (cellsE E)[k * 2 + j]? := by rw [← cellsE_drop, List.getElem?_drop]
  rw [List.getElem?_eq_getElem hj0, List.getElem?_eq_getElem (show k * 2 + j < (cellsE E).length by rw [cellsE_len]; omega)] at this
  exact (Option.some.inj this).symm
namespace V
def le (x y : El) : Prop := L.cmps x.l y.l ≤ 0
theorem le_refl (x : El) : le x x := by unfold le; rw [L.cmps_zero.2 rfl]; omega
theorem le_total {x y : El} (h : ¬ le x y) : le y x := by unfold le at *; rw [L.cmps_neg]; omega
theorem le_trans {x y z : El} (h1 : le x y) (h2 : le y z) : le x z := by
  unfold le at *
  by_cases e1 : L.cmps x.l y.l = 0
  · rw [L.cmps_zero.1 e1]; exact h2
  · by_cases e2 : L.cmps y.l z.l = 0
    · rw [← L.cmps_zero.1 e2]; exact h1
    · have := L.cmps_trans (a := x.l) (b := y.l) (c := z.l) (by omega) (by omega); omega
/-- what merging has laid when i of A and j of B are taken -/
structure Mg (A B : List El) (i j : Nat) (O : List El) : Prop where
  p : O.Perm (A.take i ++ B.take j)
  s : O.Pairwise le
  b : ∀ x ∈ O, ∀ y ∈ A.drop i ++ B.drop j, le x y
theorem Mg.start (A B : List El) : Mg A B 0 0 [] := ⟨by simp, List.Pairwise.nil, fun x h => by cases h⟩
theorem Mg.len {A B : List El} {i j : Nat} {O : List El} (h : Mg A B i j O) (hi : i ≤ A.length) (hj : j ≤ B.length) : O.length = i + j := by
  have := h.p.length_eq
  rw [List.length_append, List.length_take, List.length_take] at this
  omega
theorem sorted_head {A : List El} (hA : A.Pairwise le) {i : Nat} (hi : i < A.length) : ∀ y ∈ A.drop i, le A[i] y := by
  rw [List.drop_eq_getElem_cons hi]
  intro y hy
  rcases List.mem_cons.1 hy with rfl | hy
  · exact le_refl _
  · have := List.Pairwise.sublist (List.drop_sublist i A) hA
    rw [List.drop_eq_getElem_cons hi] at this
    exact (List.pairwise_cons.1 this).1 y hy
theorem Mg.stepA {A B : List El} {i j : Nat} {O : List El} (hA : A.Pairwise le) (hB : B.Pairwise le) (h : Mg A B i j O) (hi : i < A.length) (hc : j = B.length ∨ ∃ hj : j < B.length, le A[i] B[j]) : Mg A B (i + 1) j (O ++ [A[i]]) := by
  refine ⟨?_, ?_, ?_⟩
  · rw [List.take_succ_eq_append_getElem hi]
    refine (h.p.append_right _).trans ?_
    rw [List.append_assoc, List.append_assoc]
    exact List.Perm.append_left _ List.perm_append_comm
  · refine List.pairwise_append.2 ⟨h.s, List.pairwise_singleton .., fun x hx y hy => ?_⟩
    rw [List.mem_singleton] at hy
    subst hy
    exact h.b x hx _ (List.mem_append.2 (.inl (by rw [List.drop_eq_getElem_cons hi]; exact List.mem_cons_self ..)))
  · intro x hx y hy
    have hy2 : y ∈ A.drop i ++ B.drop j := by
      rcases List.mem_append.1 hy with h1 | h1
      · exact List.mem_append.2 (.inl (by rw [List.drop_eq_getElem_cons hi]; exact List.mem_cons_of_mem _ h1))
      · exact List.mem_append.2 (.inr h1)
    rcases List.mem_append.1 hx with hx | hx
    · exact h.b x hx y hy2
    · rw [List.mem_singleton] at hx
      subst hx
      rcases List.mem_append.1 hy2 with h1 | h1
      · exact sorted_head hA hi y h1
      · rcases hc with rfl | ⟨hj, hc⟩
        · simp at h1
        · exact le_trans hc (sorted_head hB hj y h1)
theorem Mg.stepB {A B : List El} {i j : Nat} {O : List El} (hA : A.Pairwise le) (hB : B.Pairwise le) (h : Mg A B i j O) (hj : j < B.length) (hc : i = A.length ∨ ∃ hi : i < A.length, ¬ le A[i] B[j]) : Mg A B i (j + 1) (O ++ [B[j]]) := by
  refine ⟨?_, ?_, ?_⟩
  · rw [List.take_succ_eq_append_getElem hj, ← List.append_assoc]
    exact h.p.append_right _
  · refine List.pairwise_append.2 ⟨h.s, List.pairwise_singleton .., fun x hx y hy => ?_⟩
    rw [List.mem_singleton] at hy
    subst hy
    exact h.b x hx _ (List.mem_append.2 (.inr (by rw [List.drop_eq_getElem_cons hj]; exact List.mem_cons_self ..)))
  · intro x hx y hy
    have hy2 : y ∈ A.drop i ++ B.drop j := by
      rcases List.mem_append.1 hy with h1 | h1
      · exact List.mem_append.2 (.inl h1)
      · exact List.mem_append.2 (.inr (by rw [List.drop_eq_getElem_cons hj]; exact List.mem_cons_of_mem _ h1))
    rcases List.mem_append.1 hx with hx | hx
    · exact h.b x hx y hy2
    · rw [List.mem_singleton] at hx
      subst hx
      rcases List.mem_append.1 hy2 with h1 | h1
      · rcases hc with rfl | ⟨hi, hc⟩
        · simp at h1
        · exact le_trans (le_total hc) (sorted_head hA hi y h1)
      · exact sorted_head hB hj y h1
theorem Mg.end_ {A B : List El} {O : List El} (h : Mg A B A.length B.length O) : O.Perm (A ++ B) := by
  have := h.p
  rwa [List.take_length, List.take_length] at this
end V
theorem info_elem : (Try.prog.info? 50).map (fun i => (i.zero, i.size, i.bytes)) = some (some (.agg #[.slice none 0 0, .float .f64 0]), 2, 32) := by kernel_rfl
/-- the sets' sizes -/
def SzE (E : List El) : Prop := ∀ x ∈ E, x.l.length ≤ 1099511627776 ∧ ∀ y ∈ x.l, y.1.size ≤ 1125899906842624 ∧ y.2.size ≤ 1125899906842624
theorem IsV.own {w : World} {B : Nat} {T : TypeId} {v : Value} {n : Nat} {E : List El} (h : w.ownsRow B T 2 v n (cellsE E)) (hx : ∀ x ∈ E, IsL 2 w x.sl x.l.length (cellsL x.l)) : IsV w v n E := ⟨IsL.own h, hx⟩
def SortedOK (n : Nat) (va : Value) (E : List El) (w : World) : Prop :=
  Calls Try.prog 56 #[va] w fun e w' => ∃ v' R, e = .returned v' ∧ w'.ownsRow w.heap.size 50 2 v' n (cellsE R) ∧ R.Perm E ∧ R.Pairwise V.le ∧ Below w.heap.size w w'
set_option maxHeartbeats 4000000 in
set_option maxRecDepth 100000 in
theorem sorted_step (n : Nat) (A : Option Addr) (c : Nat) (E : List El) (w : World) (hV : IsV w (.slice A n c) n E) (hnc : n ≤ c) (hn : n ≤ 1099511627776) (hS : SzE E)
    (ih : ∀ (m : Nat) (A' : Option Addr) (c' : Nat) (E' : List El) (W : World), m < n → IsV W (.slice A' m c') m E' → m ≤ c' → m ≤ 1099511627776 → SzE E' → SortedOK m (.slice A' m c') E' W) : SortedOK n (.slice A n c) E w := by
  unfold SortedOK
  have HV := hd hV
  have HN := hd hV.len
  have HS := hd hS
  have IH := hd ih
  clear hS ih
  by_cases h2 : n < 2
  · have h2z : (n : Int) < 2 := by omega
    clear hV
    go_enter Try.func56, Try.ntmps56
    go_wp2_with (at_builtin; refine wpList_app_any _ 44 50 (.agg #[.slice none 0 0, .float .f64 0]) 2 32 Try.underlying44 info_elem rfl (by decide) rfl _ _ rfl w.heap.size (.slice none 0 0) 0 [] rfl (World.ownsRow_nil _ _ _ _) (.slice A n c) n (cellsE E) rfl (HV.o.1) (cellsE_one E) (by omega) (by omega) (by simp) ?_)
    intro v3 w3 ho3 hg3
    have HB3 := hd (bel_grown (Below.refl _ _) hg3 (fun k h => by simp [Value.ownBlock] at h))
    go_wp2
    go_ret
    refine ⟨v3, E, rfl, by simpa using ho3, List.Perm.refl _, ?_, HB3.o⟩
    have := HN.o
    match E with
    | [] => exact List.Pairwise.nil
    | [x] => exact List.pairwise_singleton ..
    | x :: y :: r => simp at this; omega
  · have h2z : ¬ (n : Int) < 2 := by omega
    obtain ⟨b, off, rfl, hb⟩ : ∃ b off, A = some ⟨b, off, none⟩ ∧ b < w.heap.size := by
      obtain ⟨b, off, e, hb, _⟩ := hV.at_ 0 (by rw [hV.len]; omega)
      exact ⟨b, off, e, hb⟩
    clear hV
    go_enter Try.func56, Try.ntmps56
    obtain ⟨h, hh1, hh2⟩ : ∃ h : Nat, (n : Int) / 2 = (h : Int) ∧ (2 * h ≤ n ∧ n ≤ 2 * h + 1) := ⟨n / 2, by omega, by omega, by omega⟩
    have hh3 : (n : Int).tdiv 2 = (h : Int) := by rw [Int.tdiv_eq_ediv_of_nonneg (by omega)]; exact hh1
    have HA : Hd (Calls Try.prog 56 #[.slice (some ⟨b, off, none⟩) h c] w _) := hd (IH.o h _ c (E.take h) w (by omega) (HV.o.take h (by omega) c) (by omega) (by omega) (fun x hx => HS.o x (List.mem_of_mem_take hx)))
    go_wp2_with fail
    refine HA.o.mono ?_
    rintro e w1 ⟨v1, P, rfl, ho1, hp1, hs1, hb1⟩; obtain ⟨A1, c1, rfl⟩ := own_shape ho1; have HO1 := hd ho1; have HP1 := hd (And.intro hp1 hs1); have HB1 := hd hb1; clear ho1 hp1 hs1 hb1
    go_wp2_with fail
    obtain ⟨m, rfl⟩ : ∃ m, n = h + m := ⟨n - h, by omega⟩
    rw [show h + m - h = m by omega]
    have HB : Hd (Calls Try.prog 56 #[.slice (some ⟨b, off + h * 2, none⟩) m (c - h)] w1 _) := hd (IH.o m _ (c - h) (E.drop h) w1 (by omega) (by have := (HV.o.below HB1.o).drop h (by omega) (c - h); rwa [show h + m - h = m by omega] at this) (by omega) (by omega) (fun x hx => HS.o x (List.mem_of_mem_drop hx)))
    refine HB.o.mono ?_
    rintro e w2 ⟨v2, R, rfl, ho2, hp2, hs2, hb2⟩; obtain ⟨A2, c2, rfl⟩ := own_shape ho2
    have HBW := hd (bel HB1.o hb2)
    have HVA := hd (IsV.own (own_below HO1.o hb2) (fun x hx => ((HV.o.below HB1.o).below hb2).2 x (List.mem_of_mem_take (HP1.o.1.mem_iff.1 hx))))
    have HVB := hd (IsV.own ho2 (fun x hx => ((HV.o.below HB1.o).below hb2).2 x (List.mem_of_mem_drop (hp2.mem_iff.1 hx))))
    have HP2 := hd (And.intro hp2 hs2)
    have HSA : Hd (SzE P) := hd (fun x hx => HS.o x (List.mem_of_mem_take (HP1.o.1.mem_iff.1 hx)))
    have HSB : Hd (SzE R) := hd (fun x hx => HS.o x (List.mem_of_mem_drop (hp2.mem_iff.1 hx)))
    clear HA HB HO1 HB1 ho2 hp2 hs2 hb2 IH hh1 hh3
    go_wp2
    go_loopg [3, 7, 8] (h + m) (fun kx l vi vj wr => ∃ (i j : Nat) (O : List El), vi = .int .i64 i ∧ vj = .int .i64 j ∧ i ≤ h ∧ j ≤ m ∧ h + m - (i + j) ≤ kx ∧ Hd (wr.ownsRow w2.heap.size 50 2 l (i + j) (cellsE O)) ∧ Hd (Below w2.heap.size w2 wr) ∧ Hd (V.Mg P R i j O))
    case atStart => exact ⟨0, 0, [], rfl, rfl, Nat.zero_le _, Nat.zero_le _, by omega, hd (World.ownsRow_nil _ _ _ _), hd (Below.refl _ _), hd (V.Mg.start _ _)⟩
    case round =>
      obtain ⟨i, j, O, rfl, rfl, hi, hj, hkx, HO, HB2, HG⟩ := hrel
      have HPL := hd HVA.o.len
      have HRL := hd HVB.o.len
      have HVA2 := hd (HVA.o.below HB2.o)
      have HVB2 := hd (HVB.o.below HB2.o)
      have hiz : (i : Int) < (h : Int) ↔ i < h := by omega
      by_cases hjl : j < m
      · have hjz : (j : Int) < (m : Int) := by omega
        have hjne : ((j : Int) == (m : Int)) = false := by simp; omega
        have hjd : ¬ (j : Int) = (m : Int) := by omega
        by_cases hil : i < h
        · have hilz : (i : Int) < (h : Int) := by omega
          clear hiz
          have HGA := hd (fun hh => HG.o.stepA HP1.o.2 HP2.o.2 (by rw [HPL.o]; exact hil) (.inr ⟨by rw [HRL.o]; exact hjl, hh⟩))
          have HGB := hd (fun hh => HG.o.stepB HP1.o.2 HP2.o.2 (by rw [HRL.o]; exact hjl) (.inr ⟨by rw [HPL.o]; exact hil, hh⟩))
          have hiP : i < P.length := by rw [HPL.o]; exact hil
          obtain ⟨b1, o1, rfl, hA1, a1, a2⟩ := HVA2.o.at_ i hiP
          have HXA := hd (HVA2.o.2 _ (List.getElem_mem hiP))
          have HSX := hd (HSA.o _ (List.getElem_mem hiP))
          generalize P[i]'hiP = x at *
          obtain ⟨xp, xc, xl, xf⟩ := x
          simp only [El.sl] at a1 a2 HXA HSX
          have HCA := hd (And.intro a1 a2)
          clear a1 a2
          have hjR : j < R.length := by rw [HRL.o]; exact hjl
          obtain ⟨b2, o2, rfl, hB1, a1, a2⟩ := HVB2.o.at_ j hjR
          have HXB := hd (HVB2.o.2 _ (List.getElem_mem hjR))
          have HSY := hd (HSB.o _ (List.getElem_mem hjR))
          generalize R[j]'hjR = y at *
          obtain ⟨yp, yc, yl, yf⟩ := y
          simp only [El.sl] at a1 a2 HXB HSY
          have HCB := hd (And.intro a1 a2)
          clear a1 a2
          have C1 := hd (fun p : BelW wr => refCompare_any _ _ _ _ xl yl p.w (HXA.o.below p.h) (HXB.o.below p.h) (by have := HSX.o.1; omega) (by have := HSY.o.1; omega))
          by_cases hc : L.cmps xl yl ≤ 0
          · have HG := hd (HGA.o hc)
            clear HGA HGB
            go_wp2_with fail
            refine wp_region_below (by kernel_rfl) (by kernel_rfl) ?_
            have f1 := fun p : BelW wr => p.cell (HCA.o).1
            have f2 := fun p : BelW wr => p.cell (HCB.o).1
            repeat (go_big_quiet_step (first | (go_at_call 20; exact Calls.below_of (C1.o _))))
            refine wpQuiet_nil ?_
            rintro _ ⟨⟨w4, hb4⟩, rfl⟩
            clear f1 f2
            have HO4 := hd (own_below HO.o hb4)
            have HB4 := hd (bel HB2.o hb4)
            have HZ4 := hd (HB4.o.size)
            have d1 := (hb4.cell (p := ⟨b1, o1 + i * 2, none⟩) hA1).trans (HCA.o).1
            have d2 := (hb4.cell (p := ⟨b1, o1 + i * 2 + 1, none⟩) hA1).trans (HCA.o).2
            clear hb4
            go_wp2_with (at_builtin; refine wpList_app_litH 44 50 (.agg #[.slice none 0 0, .float .f64 0]) 2 32 Try.underlying44 info_elem rfl (by decide) rfl _ _ rfl w2.heap.size u3 (i + j) (cellsE O) _ #[.slice xp xl.length xc, .float .f64 xf] 1 _ rfl rfl rfl (HO4.o) rfl (by simp [Value.oneCell']) (by omega) (by omega) (by first | exact HZ4.o | (have := HZ4.o; omega) | (have := HZ4.o; simp; omega)) ?_)
            intro v5 w5 ho5 hg5
            have HB5 := hd (bel_grown HB4.o hg5 (fun g h => (HO4.o.lt g h).1))
            have HO5 : Hd (w5.ownsRow w2.heap.size 50 2 v5 (i + j + 1) (cellsE (O ++ [(⟨xp, xc, xl, xf⟩ : El)]))) := hd (by rw [cellsE_app]; simpa [cellsE, El.sl] using ho5)
            clear hg5 ho5 d1 d2
            go_wp2
            go_roundg (h + m - (i + j + 1))
            case measure => omega
            case rel => exact ⟨i + 1, _, _, by go_num, by go_num, by omega, by omega, by omega, by rw [show i + 1 + j = i + j + 1 by omega]; exact HO5, HB5, HG⟩
          · have HG := hd (HGB.o hc)
            clear HGA HGB
            go_wp2_with fail
            refine wp_region_below (by kernel_rfl) (by kernel_rfl) ?_
            have f1 := fun p : BelW wr => p.cell (HCA.o).1
            have f2 := fun p : BelW wr => p.cell (HCB.o).1
            repeat (go_big_quiet_step (first | (go_at_call 20; exact Calls.below_of (C1.o _))))
            refine wpQuiet_nil ?_
            rintro _ ⟨⟨w4, hb4⟩, rfl⟩
            clear f1 f2
            have HO4 := hd (own_below HO.o hb4)
            have HB4 := hd (bel HB2.o hb4)
            have HZ4 := hd (HB4.o.size)
            have d1 := (hb4.cell (p := ⟨b2, o2 + j * 2, none⟩) hB1).trans (HCB.o).1
            have d2 := (hb4.cell (p := ⟨b2, o2 + j * 2 + 1, none⟩) hB1).trans (HCB.o).2
            clear hb4
            go_wp2_with (at_builtin; refine wpList_app_litH 44 50 (.agg #[.slice none 0 0, .float .f64 0]) 2 32 Try.underlying44 info_elem rfl (by decide) rfl _ _ rfl w2.heap.size u3 (i + j) (cellsE O) _ #[.slice yp yl.length yc, .float .f64 yf] 1 _ rfl rfl rfl (HO4.o) rfl (by simp [Value.oneCell']) (by omega) (by omega) (by first | exact HZ4.o | (have := HZ4.o; omega) | (have := HZ4.o; simp; omega)) ?_)
            intro v5 w5 ho5 hg5
            have HB5 := hd (bel_grown HB4.o hg5 (fun g h => (HO4.o.lt g h).1))
            have HO5 : Hd (w5.ownsRow w2.heap.size 50 2 v5 (i + j + 1) (cellsE (O ++ [(⟨yp, yc, yl, yf⟩ : El)]))) := hd (by rw [cellsE_app]; simpa [cellsE, El.sl] using ho5)
            clear hg5 ho5 d1 d2
            go_wp2
            go_roundg (h + m - (i + j + 1))
            case measure => omega
            case rel => exact ⟨i, j + 1, _, by go_num, by go_num, by omega, by omega, by omega, HO5, HB5, HG⟩
        · have hilz : ¬ (i : Int) < (h : Int) := by omega
          clear hiz
          have HG := hd (HG.o.stepB HP1.o.2 HP2.o.2 (by rw [HRL.o]; exact hjl) (.inl (by rw [HPL.o]; omega)))
          have hjR : j < R.length := by rw [HRL.o]; exact hjl
          obtain ⟨b2, o2, rfl, hB1, a1, a2⟩ := HVB2.o.at_ j hjR
          have HXB := hd (HVB2.o.2 _ (List.getElem_mem hjR))
          have HSY := hd (HSB.o _ (List.getElem_mem hjR))
          generalize R[j]'hjR = y at *
          obtain ⟨yp, yc, yl, yf⟩ := y
          simp only [El.sl] at a1 a2 HXB HSY
          have HCB := hd (And.intro a1 a2)
          clear a1 a2
          go_wp2_with fail
          refine wp_region_below (by kernel_rfl) (by kernel_rfl) ?_
          repeat (go_big_quiet_step (fail))
          refine wpQuiet_nil ?_
          rintro _ ⟨⟨w4, hb4⟩, rfl⟩
          have HO4 := hd (own_below HO.o hb4)
          have HB4 := hd (bel HB2.o hb4)
          have HZ4 := hd (HB4.o.size)
          have d1 := (hb4.cell (p := ⟨b2, o2 + j * 2, none⟩) hB1).trans (HCB.o).1
          have d2 := (hb4.cell (p := ⟨b2, o2 + j * 2 + 1, none⟩) hB1).trans (HCB.o).2
          clear hb4
          go_wp2_with (at_builtin; refine wpList_app_litH 44 50 (.agg #[.slice none 0 0, .float .f64 0]) 2 32 Try.underlying44 info_elem rfl (by decide) rfl _ _ rfl w2.heap.size u3 (i + j) (cellsE O) _ #[.slice yp yl.length yc, .float .f64 yf] 1 _ rfl rfl rfl (HO4.o) rfl (by simp [Value.oneCell']) (by omega) (by omega) (by first | exact HZ4.o | (have := HZ4.o; omega) | (have := HZ4.o; simp; omega)) ?_)
          intro v5 w5 ho5 hg5
          have HB5 := hd (bel_grown HB4.o hg5 (fun g h => (HO4.o.lt g h).1))
          have HO5 : Hd (w5.ownsRow w2.heap.size 50 2 v5 (i + j + 1) (cellsE (O ++ [(⟨yp, yc, yl, yf⟩ : El)]))) := hd (by rw [cellsE_app]; simpa [cellsE, El.sl] using ho5)
          clear hg5 ho5 d1 d2
          go_wp2
          go_roundg (h + m - (i + j + 1))
          case measure => omega
          case rel => exact ⟨i, j + 1, _, by go_num, by go_num, by omega, by omega, by omega, HO5, HB5, HG⟩
      · have hjm : j = m := by omega
        subst hjm
        by_cases hil : i < h
        · have hilz : (i : Int) < (h : Int) := by omega
          clear hiz
          have HG := hd (HG.o.stepA HP1.o.2 HP2.o.2 (by rw [HPL.o]; exact hil) (.inl (by rw [HRL.o])))
          have hiP : i < P.length := by rw [HPL.o]; exact hil
          obtain ⟨b1, o1, rfl, hA1, a1, a2⟩ := HVA2.o.at_ i hiP
          have HXA := hd (HVA2.o.2 _ (List.getElem_mem hiP))
          have HSX := hd (HSA.o _ (List.getElem_mem hiP))
          generalize P[i]'hiP = x at *
          obtain ⟨xp, xc, xl, xf⟩ := x
          simp only [El.sl] at a1 a2 HXA HSX
          have HCA := hd (And.intro a1 a2)
          clear a1 a2
          go_wp2_with fail
          refine wp_region_below (by kernel_rfl) (by kernel_rfl) ?_
          repeat (go_big_quiet_step (fail))
          refine wpQuiet_nil ?_
          rintro _ ⟨⟨w4, hb4⟩, rfl⟩
          have HO4 := hd (own_below HO.o hb4)
          have HB4 := hd (bel HB2.o hb4)
          have HZ4 := hd (HB4.o.size)
          have d1 := (hb4.cell (p := ⟨b1, o1 + i * 2, none⟩) hA1).trans (HCA.o).1
          have d2 := (hb4.cell (p := ⟨b1, o1 + i * 2 + 1, none⟩) hA1).trans (HCA.o).2
          clear hb4
          go_wp2_with (at_builtin; refine wpList_app_litH 44 50 (.agg #[.slice none 0 0, .float .f64 0]) 2 32 Try.underlying44 info_elem rfl (by decide) rfl _ _ rfl w2.heap.size u3 (i + j) (cellsE O) _ #[.slice xp xl.length xc, .float .f64 xf] 1 _ rfl rfl rfl (HO4.o) rfl (by simp [Value.oneCell']) (by omega) (by omega) (by first | exact HZ4.o | (have := HZ4.o; omega) | (have := HZ4.o; simp; omega)) ?_)
          intro v5 w5 ho5 hg5
          have HB5 := hd (bel_grown HB4.o hg5 (fun g h => (HO4.o.lt g h).1))
          have HO5 : Hd (w5.ownsRow w2.heap.size 50 2 v5 (i + j + 1) (cellsE (O ++ [(⟨xp, xc, xl, xf⟩ : El)]))) := hd (by rw [cellsE_app]; simpa [cellsE, El.sl] using ho5)
          clear hg5 ho5 d1 d2
          go_wp2
          go_roundg (h + j - (i + j + 1))
          case measure => omega
          case rel => exact ⟨i + 1, _, _, by go_num, by go_num, by omega, by omega, by omega, by rw [show i + 1 + j = i + j + 1 by omega]; exact HO5, HB5, HG⟩
        · have hih : i = h := by omega
          subst hih
          clear hiz
          go_wp2
          go_ret
          refine ⟨u3, O, rfl, own_mono HO.o HBW.o.size, ?_, HG.o.s, bel HBW.o HB2.o⟩
          have h3 := HG.o
          rw [← HPL.o, ← HRL.o] at h3
          refine h3.end_.trans ((List.Perm.append HP1.o.1 HP2.o.1).trans ?_)
          rw [List.take_append_drop]
theorem refSorted_any (n : Nat) (A : Option Addr) (c : Nat) (E : List El) (w : World) (hV : IsV w (.slice A n c) n E) (hnc : n ≤ c) (hn : n ≤ 1099511627776) (hS : SzE E) : SortedOK n (.slice A n c) E w := by
  induction n using Nat.strongRecOn generalizing A c E w with
  | _ n ih => exact sorted_step n A c E w hV hnc hn hS fun m A' c' E' W hm h1 h2 h3 h4 => ih m hm A' c' E' W h1 h2 h3 h4
/-- how a vector is answered: the error, and what it holds -/
structure VOK (E R : List El) : Prop where
  p : (R.map El.d).Perm (E.map El.d)
  s : R.Pairwise fun x y => L.cmps x.l y.l < 0
  v : ∀ x ∈ E, L.vld x.l = true
def VNo (E : List El) : Prop := ∀ R : List El, ¬ VOK E R
theorem VOK.ext {E R R' : List El} (h : VOK E R) (h' : VOK E R') : R.map El.d = R'.map El.d := by
  have hp : (R.map El.d).Perm (R'.map El.d) := h.p.trans h'.p.symm
  have s1 : (R.map El.d).Pairwise fun x y => L.cmps x.1 y.1 < 0 := List.pairwise_map.2 h.s
  have s2 : (R'.map El.d).Pairwise fun x y => L.cmps x.1 y.1 < 0 := List.pairwise_map.2 h'.s
  refine List.Perm.eq_of_pairwise (fun a b _ _ h1 h2 => ?_) s1 s2 hp
  rw [L.cmps_neg] at h2
  omega
theorem VNo.bad {E : List El} {x : El} (hx : x ∈ E) (h : L.vld x.l = false) : VNo E := fun R hR => by
  have := hR.v x hx
  rw [h] at this
  cases this
theorem VNo.twice {E R : List El} (hp : (R.map El.d).Perm (E.map El.d)) {i : Nat} (hi : i + 1 < R.length) (h : L.cmps R[i].l R[i + 1].l = 0) : VNo E := fun Q hQ => by
  have s1 : (Q.map El.d).Pairwise fun x y => x.1 ≠ y.1 := List.pairwise_map.2 (hQ.s.imp fun {a b} h e => by
    have e2 : a.l = b.l := e
    rw [e2, L.cmps_zero.2 rfl] at h; omega)
  have s2 : (R.map El.d).Pairwise fun x y => x.1 ≠ y.1 := ((hQ.p.trans hp.symm).pairwise_iff (fun h => Ne.symm h)).1 s1
  have s3 := List.pairwise_map.1 s2
  have := List.pairwise_iff_getElem.1 s3 i (i + 1) (by omega) hi (by omega)
  exact this (L.cmps_zero.1 h)
theorem VOK.of {E R : List El} (hp : (R.map El.d).Perm (E.map El.d)) (hv : ∀ x ∈ E, L.vld x.l = true) (hs : R.Pairwise V.le) (h : ∀ i (hi : i + 1 < R.length), L.cmps R[i].l R[i + 1].l ≠ 0) : VOK E R := by
  refine ⟨hp, ?_, hv⟩
  have hlt : ∀ i (hi : i + 1 < R.length), L.cmps R[i].l R[i + 1].l < 0 := fun i hi => by
    have h1 := List.pairwise_iff_getElem.1 hs i (i + 1) (by omega) hi (by omega)
    have h2 := h i hi
    unfold V.le at h1
    omega
  have hall : ∀ d i (hi : i + 1 + d < R.length), L.cmps (R[i]'(by omega)).l (R[i + 1 + d]).l < 0 := by
    intro d
    induction d with
    | zero => exact fun i hi => hlt i hi
    | succ d ih => exact fun i hi => L.cmps_trans (ih i (by omega)) (hlt (i + 1 + d) hi)
  refine List.pairwise_iff_getElem.2 fun i j hi hj hij => ?_
  have := hall (j - (i + 1)) i (by omega)
  have e : i + 1 + (j - (i + 1)) = j := by omega
  simpa only [e] using this
set_option maxHeartbeats 4000000 in
set_option maxRecDepth 100000 in
theorem refVector_any (n : Nat) (A : Option Addr) (c : Nat) (E : List El) (w : World) (hV : IsV w (.slice A n c) n E) (hnc : n ≤ c) (hn : n ≤ 1099511627776) (hS : SzE E) :
    Calls Try.prog 27 #[.slice A n c] w fun e w' => Below w.heap.size w w' ∧ ((e = .returned (.tuple #[.slice none 0 0, .int .i64 5]) ∧ VNo E) ∨ ∃ v' R, e = .returned (.tuple #[v', .int .i64 0]) ∧ w'.ownsRow w.heap.size 50 2 v' n (cellsE R) ∧ VOK E R ∧ R.Perm E) := by
  have HV := hd hV
  have HN := hd hV.len
  have HS := hd hS
  clear hV hS
  go_enter Try.func27, Try.ntmps27
  go_wp2
  go_loopg [4] n (fun kx vi wr => ∃ i : Nat, vi = .int .i64 i ∧ i ≤ n ∧ n - i ≤ kx ∧ Hd (Below w.heap.size w wr) ∧ Hd (∀ x ∈ E.take i, L.vld x.l = true))
  case atStart => exact ⟨0, rfl, Nat.zero_le _, Nat.le_refl _, hd (Below.refl _ _), hd (by simp)⟩
  case round =>
    obtain ⟨i, rfl, hi, hkx, HB, HG⟩ := hrel
    by_cases hil : i < n
    · have hilz : (i : Int) < (n : Int) := by omega
      have hiP : i < E.length := by rw [HN.o]; exact hil
      have HVA2 := hd (HV.o.below HB.o)
      obtain ⟨b1, o1, rfl, hA1, a1, a2⟩ := HVA2.o.at_ i hiP
      have HXA := hd (HVA2.o.2 _ (List.getElem_mem hiP))
      have HSX := hd (HS.o _ (List.getElem_mem hiP))
      have HXM := hd (List.getElem_mem hiP)
      have HTK := hd (List.take_succ_eq_append_getElem hiP)
      generalize E[i]'hiP = x at *
      obtain ⟨xp, xc, xl, xf⟩ := x
      simp only [El.sl] at a1 a2 HXA HSX HXM HTK
      have HC := hd (refVld_any _ _ xl wr HXA.o (by have := HSX.o.1; omega) HSX.o.2)
      cases hv : L.vld xl with
      | false =>
        rw [hv] at HC
        have HNO := hd (VNo.bad HXM.o hv)
        go_wp2_with (go_at_call 34; refine HC.o.mono ?_; rintro e w4 ⟨rfl, hb4⟩; have HB4 := hd (bel HB.o hb4); clear hb4)
        go_ret2
        exact ⟨HB4.o, .inl ⟨rfl, HNO.o⟩⟩
      | true =>
        rw [hv] at HC
        have HV1 := hd hv
        clear hv
        go_wp2_with (go_at_call 34; refine HC.o.mono ?_; rintro e w4 ⟨rfl, hb4⟩; have HB4 := hd (bel HB.o hb4); clear hb4)
        go_roundg (n - (i + 1))
        case measure => omega
        case rel => exact ⟨i + 1, by go_num, by omega, by omega, HB4, hd (by
          rw [HTK.o]; intro y hy
          rcases List.mem_append.1 hy with h | h
          · exact HG.o y h
          · rw [List.mem_singleton] at h; subst h; exact HV1.o)⟩
    · have hin : i = n := by omega
      subst hin
      have HVD : Hd (∀ x ∈ E, L.vld x.l = true) := hd (by have := HG.o; rwa [List.take_of_length_le (by rw [HN.o]; omega)] at this)
      have HSO := hd (refSorted_any i A c E wr (HV.o.below HB.o) hnc hn HS.o)
      clear HG
      go_wp2_with (go_at_call 56; refine HSO.o.mono ?_; rintro e w2 ⟨v2, R, rfl, ho2, hp2, hs2, hb2⟩; obtain ⟨A2, c2, rfl⟩ := own_shape ho2)
      have HP2 := hd (And.intro hp2 hs2)
      have HB2 := hd (bel HB.o hb2)
      have HVR := hd (IsV.own ho2 (fun x hx => ((HV.o.below HB.o).below hb2).2 x (hp2.mem_iff.1 hx)))
      have HSR : Hd (SzE R) := hd (fun x hx => HS.o x (hp2.mem_iff.1 hx))
      have HOR := hd (own_mono ho2 HB.o.size)
      have HRL := hd HVR.o.len
      clear HSO hp2 hs2 hb2 ho2 HB hkx hi hil
      go_wp2
      go_loopg [6] i (fun kx vj wr2 => ∃ j : Nat, vj = .int .i64 ((j : Int) + 1) ∧ (j < i ∨ j = 0) ∧ i - j ≤ kx ∧ Hd (Below w2.heap.size w2 wr2) ∧ Hd (∀ q (hq : q + 1 < R.length), q < j → L.cmps R[q].l R[q + 1].l ≠ 0))
      case atStart => exact ⟨0, rfl, by omega, by omega, hd (Below.refl _ _), hd (fun q _ h => absurd h (Nat.not_lt_zero _))⟩
      case round =>
        obtain ⟨j, rfl, hj, hkx, HB, HG⟩ := hrel
        by_cases hji : j + 1 < i
        · have hjz : (j : Int) + 1 < (i : Int) := by omega
          have hjR : j + 1 < R.length := by rw [HRL.o]; exact hji
          have e1 : ((j : Int) + 1 - 1) = j := by omega
          have e2 : ((j : Int) + 1).toNat = j + 1 := by omega
          have HVA2 := hd (HVR.o.below HB.o)
          obtain ⟨b1, o1, rfl, hA1, a1, _⟩ := HVA2.o.at_ j (by omega)
          obtain ⟨b2, o2, e3, _, a3, _⟩ := HVA2.o.at_ (j + 1) hjR
          simp only [Option.some.injEq, Addr.mk.injEq, and_true] at e3
          obtain ⟨rfl, rfl⟩ := e3
          have HXA := hd (HVA2.o.2 _ (List.getElem_mem (show j < R.length by omega)))
          have HXB := hd (HVA2.o.2 _ (List.getElem_mem hjR))
          have HSX := hd (HSR.o _ (List.getElem_mem (show j < R.length by omega)))
          have HSY := hd (HSR.o _ (List.getElem_mem hjR))
          have HGJ := hd (fun (h : L.cmps (R[j]'(by omega)).l (R[j + 1]'hjR).l ≠ 0) q (hq : q + 1 < R.length) (hlt : q < j + 1) => show L.cmps R[q].l R[q + 1].l ≠ 0 by
            by_cases e : q = j
            · subst e; exact h
            · exact HG.o q hq (by omega))
          have HNO := hd (fun (h : L.cmps (R[j]'(by omega)).l (R[j + 1]'hjR).l = 0) => VNo.twice (HP2.o.1.map El.d) hjR h)
          generalize R[j]'(by omega) = x at *
          generalize R[j + 1]'hjR = y at *
          obtain ⟨xp, xc, xl, xf⟩ := x
          obtain ⟨yp, yc, yl, yf⟩ := y
          simp only [El.sl] at a1 a3 HXA HXB HSX HSY
          simp only at HGJ HNO
          have HCA := hd (And.intro a1 a3)
          clear a1 a3
          have C1 := hd (fun p : BelW wr => refCompare_any _ _ _ _ xl yl p.w (HXA.o.below p.h) (HXB.o.below p.h) (by have := HSX.o.1; omega) (by have := HSY.o.1; omega))
          have HJ := hd hj
          have HKX := hd hkx
          clear hj hkx
          by_cases hc : L.cmps xl yl = 0
          · rw [hc] at C1
            go_wp2_with fail
            refine wp_region_below (by kernel_rfl) (by kernel_rfl) ?_
            have f1 := fun p : BelW wr => p.cell (HCA.o).1
            have f2 := fun p : BelW wr => p.cell (HCA.o).2
            repeat (go_big_quiet_step (first | (go_at_call 20; exact Calls.below_of (C1.o _))))
            refine wpQuiet_nil ?_
            rintro _ ⟨⟨w4, hb4⟩, rfl⟩
            clear f1 f2
            have HB4 := hd (bel HB.o hb4)
            clear hb4
            go_wp2
            go_ret2
            exact ⟨bel HB2.o HB4.o, .inl ⟨rfl, HNO.o hc⟩⟩
          · have hcz : ¬ L.cmps xl yl = 0 := hc
            go_wp2_with fail
            refine wp_region_below (by kernel_rfl) (by kernel_rfl) ?_
            have f1 := fun p : BelW wr => p.cell (HCA.o).1
            have f2 := fun p : BelW wr => p.cell (HCA.o).2
            repeat (go_big_quiet_step (first | (go_at_call 20; exact Calls.below_of (C1.o _))))
            refine wpQuiet_nil ?_
            rintro _ ⟨⟨w4, hb4⟩, rfl⟩
            clear f1 f2
            have HB4 := hd (bel HB.o hb4)
            clear hb4
            go_wp2
            go_roundg (i - (j + 1))
            case measure => have := HKX.o; omega
            case rel => exact ⟨j + 1, by go_num, by omega, by omega, HB4, hd (HGJ.o hc)⟩
        · have hjz : ¬ (j : Int) + 1 < (i : Int) := by omega
          go_wp2
          go_ret2
          exact ⟨bel HB2.o HB.o, .inr ⟨_, rfl, R, own_below HOR.o HB.o, VOK.of (HP2.o.1.map El.d) HVD.o HP2.o.2 (fun q hq => HG.o q hq (by rw [HRL.o] at hq; omega)), HP2.o.1⟩⟩
end Go.Proofs.Ytifaepkeoffcfaa
