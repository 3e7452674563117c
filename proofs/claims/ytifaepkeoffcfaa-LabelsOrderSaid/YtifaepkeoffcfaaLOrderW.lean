/- LabelsOrder: the law's walk. -/
import Derived.Test.YtifaepkeoffcfaaLAwake
import Derived.Test.YtifaepkeoffcfaaLOpen
namespace Go.Proofs.Ytifaepkeoffcfaa
open Go.RowKit
set_option linter.unusedVariables false
set_option linter.unusedSimpArgs false
theorem k_cmp1 : L.cmps [(⟨#[97]⟩, ⟨#[49]⟩)] [] = 1 := rfl
theorem L.cmps_law (a b c : List Lb) : 0 < L.cmps a b ∨ (L.cmps a b ≤ 0 ∧ 0 < L.cmps b c) ∨ (L.cmps a b ≤ 0 ∧ L.cmps b c ≤ 0 ∧ L.cmps a c < 0) ∨ (L.cmps a b ≤ 0 ∧ L.cmps b c ≤ 0 ∧ L.cmps a c = 0 ∧ 0 ≤ L.cmps a b + L.cmps b c) := by
  by_cases h1 : 0 < L.cmps a b
  · exact .inl h1
  by_cases h2 : 0 < L.cmps b c
  · exact .inr (.inl ⟨by omega, h2⟩)
  refine .inr (.inr ?_)
  by_cases h3 : L.cmps a b = 0
  · have e := L.cmps_zero.1 h3
    subst e
    by_cases h4 : L.cmps a c = 0
    · exact .inr ⟨by omega, by omega, h4, by omega⟩
    · exact .inl ⟨by omega, by omega, by omega⟩
  · by_cases h4 : L.cmps b c = 0
    · have e := L.cmps_zero.1 h4
      subst e
      exact .inl ⟨by omega, by omega, by omega⟩
    · exact .inl ⟨by omega, by omega, L.cmps_trans (b := b) (by omega) (by omega)⟩
set_option maxRecDepth 100000 in
set_option maxHeartbeats 4000000 in
theorem order_core (va vb vc : Value) (na nb nc : Nat) (a b c : List Lb) (w : World) (ha : IsL 2 w va na (cellsL a)) (hb : IsL 2 w vb nb (cellsL b)) (hc : IsL 2 w vc nc (cellsL c))
    (hna : na ≤ 4398046510976) (hnb : nb ≤ 4398046510976) (hnc : nc ≤ 4398046510976) (x y z : Int) (p : Bool) (hx : L.cmps a b = x) (hy : L.cmps b c = y) (hz : L.cmps a c = z) (e0 : (x == 0) = p)
    (x1 : -1 ≤ x) (x2 : x ≤ 1) (y1 : -1 ≤ y) (y2 : y ≤ 1) (z1 : -1 ≤ z) (z2 : z ≤ 1) (e1 : (z == 0) = decide (0 ≤ z ∧ z ≤ 0))
    (hcase : 0 < x ∨ (x ≤ 0 ∧ 0 < y) ∨ (x ≤ 0 ∧ y ≤ 0 ∧ z < 0) ∨ (x ≤ 0 ∧ y ≤ 0 ∧ z = 0 ∧ 0 ≤ x + y)) :
    Calls Try.prog 9 #[va, vb, vc] w fun e w' => e = .returned (.bool true) ∧ Below w.heap.size w w' := by
  have HA := hd ha
  have HB := hd hb
  have HC := hd hc
  have HXY := hd (And.intro hx (And.intro hy hz))
  have HBA : Hd (L.cmps b a = -x) := hd (by rw [L.cmps_neg, hx])
  have HSM : Hd (decide (a = b) = p) := hd (by rw [← e0, ← hx, Bool.eq_iff_iff, decide_eq_true_eq, beq_iff_eq, L.cmps_zero])
  have HD : Hd (L.cmps a (a ++ [(⟨#[122]⟩, ⟨#[122]⟩)]) = -1) := hd (L.cmps_snoc _ a)
  have KC := hd k_cmp1
  have KA := hd (IsLb.len ha)
  have hne : ((-x) != (-x)) = false := by simp
  obtain ⟨A1, c1, rfl⟩ := ha.shape
  obtain ⟨A2, c2, rfl⟩ := hb.shape
  obtain ⟨A3, c3, rfl⟩ := hc.shape
  have H0 : Hd (z = 0 → (z == 0) = true) := hd (fun h => by rw [h]; rfl)
  have H1 : Hd (z < 0 → (z == 0) = false) := hd (fun h => by rw [beq_eq_false_iff_ne]; omega)
  clear ha hb hc hx hy hz e1
  go_enter Try.func9, Try.ntmps9
  go_wp2_with fail
  refine (awake_any _).mono ?_
  rintro e w1 ⟨rfl, hb1⟩
  have B1 := hd hb1
  clear hb1
  go_wp2_with fail
  refine (compare_any _ _ 1 0 [(⟨#[97]⟩, ⟨#[49]⟩)] [] _ (IsL.own (World.ownsRow_lit (base := w1.heap.size) w1 #[.string ⟨#[97]⟩, .string ⟨#[49]⟩] 1 (Nat.le_refl _) (by decide) rfl)) (IsL.nil 2 _ none 0) (by decide) (by decide)).mono ?_
  rintro e w2 ⟨rfl, hb2⟩
  rw [KC.o]
  have B2 : Hd (Below w.heap.size w w2) := hd (bel (B1.o.alloc B1.o.size _) hb2)
  clear hb2
  go_wp2_with fail
  refine (compare_any _ _ na nb a b _ (HA.o.below B2.o) (HB.o.below B2.o) (by omega) (by omega)).mono ?_
  rintro e w3 ⟨rfl, hb3⟩
  rw [HXY.o.1]
  have B3 := hd (bel B2.o hb3)
  clear hb3
  go_wp2_with fail
  refine (compare_any _ _ nb nc b c _ (HB.o.below B3.o) (HC.o.below B3.o) (by omega) (by omega)).mono ?_
  rintro e w4 ⟨rfl, hb4⟩
  rw [HXY.o.2.1]
  have B4 := hd (bel B3.o hb4)
  clear hb4
  go_wp2_with fail
  refine (compare_any _ _ na nc a c _ (HA.o.below B4.o) (HC.o.below B4.o) (by omega) (by omega)).mono ?_
  rintro e w5 ⟨rfl, hb5⟩
  rw [HXY.o.2.2]
  have B5 := hd (bel B4.o hb5)
  clear hb5
  go_wp2_with fail
  refine (compare_any _ _ nb na b a _ (HB.o.below B5.o) (HA.o.below B5.o) (by omega) (by omega)).mono ?_
  rintro e w6 ⟨rfl, hb6⟩
  rw [HBA.o]
  have B6 := hd (bel B5.o hb6)
  clear hb6
  go_wp2_with fail
  refine (lsame_any _ _ na nb a b _ (HA.o.below B6.o) (HB.o.below B6.o) (by omega)).mono ?_
  rintro e w7 ⟨rfl, hb7⟩
  rw [HSM.o]
  have B7 := hd (bel B6.o hb7)
  clear hb7
  have HE0 : Hd ((w7.alloc (.cells #[] 26)).ownsRow w7.heap.size 26 2 (.slice (some ⟨w7.heap.size, 0, none⟩) 0 0) 0 []) := hd (World.ownsRow_lit w7 #[] 0 (Nat.le_refl _) (by decide) rfl)
  have HA7 := hd (HA.o.below (B7.o.alloc B7.o.size (.cells #[] 26)))
  have hpp : (p != p) = false := by simp
  have bx1 : decide (x < -1) = false := by rw [decide_eq_false_iff_not]; omega
  have bx2 : decide (1 < x) = false := by rw [decide_eq_false_iff_not]; omega
  rcases hcase with h | ⟨h, h'⟩ | ⟨h, h', h''⟩ | ⟨h, h', h'', h3⟩
  case' inr.inr.inl => have eb := H1.o h''
  case' inr.inr.inr =>
    have eb := H0.o h''
    have hz3 : z ≤ 0 := Int.le_of_eq h''
    have hz4 : 0 ≤ z := Int.le_of_eq h''.symm
    have bz : decide (0 < z) = false := decide_eq_false (Int.not_lt.2 hz3)
    clear h''
  all_goals
    go_wp2_with (at_builtin; refine wpList_app_any _ 23 26 (.agg #[.string ⟨#[]⟩, .string ⟨#[]⟩]) 2 32 Try.underlying23 info_label rfl (by decide) rfl _ _ rfl w7.heap.size (.slice (some ⟨w7.heap.size, 0, none⟩) 0 0) 0 [] rfl HE0.o (.slice A1 na c1) na (cellsL a) rfl HA7.o (cellsL_one a) (by omega) (by omega) (by simp) ?_)
    intro v8 w8 ho8 hg8
    have hb8 : Below w7.heap.size w7 w8 := ((Below.refl _ _).alloc (Nat.le_refl _) _).grown hg8 (by simp) (fun q hq => (HE0.o.lt q hq).1)
    have B8 := hd (bel B7.o hb8)
    have HO8 := hd ho8
    have hs8 := hd hb8.size
    clear ho8 hg8 hb8
    go_wp2_with (at_builtin; refine wpList_app_litH 23 26 (.agg #[.string ⟨#[]⟩, .string ⟨#[]⟩]) 2 32 Try.underlying23 info_label rfl (by decide) rfl _ _ rfl w7.heap.size v8 na (cellsL a) _ #[.string ⟨#[122]⟩, .string ⟨#[122]⟩] 1 _ rfl rfl rfl (HO8.o) rfl (by simp [Value.oneCell']) (by omega) (by omega) hs8.o ?_)
    intro v9 w9 ho9 hg9
    have B9 := hd (bel_grown B8.o hg9 (fun g h => Nat.le_trans B7.o.size (HO8.o.lt g h).1))
    have HO9 : Hd (IsL 2 w9 v9 (na + 1) (cellsL (a ++ [(⟨#[122]⟩, ⟨#[122]⟩)]))) := hd (by
      have := IsL.own ho9
      rw [cellsL_app]
      simpa [cellsL] using this)
    clear ho9 hg9
    go_wp2_with fail
    refine (compare_any _ _ na (na + 1) a (a ++ [(⟨#[122]⟩, ⟨#[122]⟩)]) _ (HA.o.below B9.o) HO9.o (by omega) (by omega)).mono ?_
    rintro e w10 ⟨rfl, hb10⟩
    rw [HD.o]
    have B10 := hd (bel B9.o hb10)
    clear hb10
    go_wp2
    go_ret
    exact ⟨rfl, B10.o⟩
set_option maxRecDepth 100000 in
theorem open_lbs1 {H : Type} {enc : TypeId × Value → H} {w : World} {base : Nat} {v : Value} {d : DataW H} {p : List MemPlace} (hv : Value.okWide Try.prog w .any base 23 v) (h : DataW.Trod enc Try.prog w 0 (fun _ => true) true 23 v d p)
    (hw : ∀ n ∈ d.weights Try.prog 23, n ≤ reachBytes) : ∃ l, IsLbs w v l := by
  obtain ⟨A, len, cap, rfl⟩ := WideShapes.okWide_slice Try.underlying23 hv
  obtain ⟨fuel, hf⟩ := h
  exact open_lbs (x := (d, p)) hf hw
theorem order_all (W : World) {H : Type} (v0 : Value) (d0 : DataW H) (v1 : Value) (d1 : DataW H) (v2 : Value) (d2 : DataW H) (h0 : ∃ l, IsLbs W v0 l) (h1 : ∃ l, IsLbs W v1 l) (h2 : ∃ l, IsLbs W v2 l) :
    Calls Try.prog 9 #[v0, v1, v2] W fun e W' => e = .returned (.bool true) ∧ Below W.heap.size W W' := by
  obtain ⟨a, ha, na⟩ := h0
  obtain ⟨b, hb, nb⟩ := h1
  obtain ⟨c, hc, nc⟩ := h2
  unfold reachBytes at na nb nc
  have xb := L.cmps_bd a b
  have yb := L.cmps_bd b c
  have zb := L.cmps_bd a c
  exact order_core v0 v1 v2 _ _ _ a b c W ha hb hc (by omega) (by omega) (by omega) _ _ _ _ rfl rfl rfl rfl xb.1 xb.2 yb.1 yb.2 zb.1 zb.2 (by rw [Bool.eq_iff_iff, beq_iff_eq, decide_eq_true_eq]; omega) (L.cmps_law a b c)
end Go.Proofs.Ytifaepkeoffcfaa
