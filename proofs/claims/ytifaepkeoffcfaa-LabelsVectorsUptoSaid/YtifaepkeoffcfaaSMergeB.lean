/- slices.symMergeCmpFunc over elements, at this program: the great way, and the whole. -/
import Derived.Test.YtifaepkeoffcfaaSMergeA
import Derived.Test.YtifaepkeoffcfaaSStab2
import Derived.Deep.CutRange
namespace Go.Proofs.Ytifaepkeoffcfaa
open Go.RowKit Go.Sort Go.Shelf Go.Lib
set_option linter.unusedVariables false
set_option linter.unusedSimpArgs false
set_option linter.unusedSectionVars false
variable {α : Type} [Inhabited α] {enc : α → List Value} {w0 : World} {B : Nat} {n c g : Nat} {cf : α → α → Int}
/-- what symMerge does -/
def MergeOK (enc : α → List Value) (cf : α → α → Int) (w0 : World) (B n c g : Nat) (d : Array α) (a m b : Nat) (w : World) : Prop :=
  Calls Try.prog 81 #[.slice (some ⟨g, 0, none⟩) n c, .int .i64 a, .int .i64 m, .int .i64 b, .func (.func 55) #[] #[]] w fun e w' => e = .returned (.tuple #[]) ∧ ∃ d', PermIn a b d d' ∧ SortedIn (ltOf cf) a b d' ∧ SR enc w0 B 50 n c g d' w'
set_option maxHeartbeats 4000000 in
set_option maxRecDepth 100000 in
theorem mergeM_any (K : SK enc w0 B 50 n c g) (hS : SWO (ltOf cf)) (HC : CmpOK enc cf w0 g) (d : Array α) (a m b : Nat) (w : World) (h : SR enc w0 B 50 n c g d w) (ham : a + 1 < m) (hmb : m + 1 < b) (hb : b ≤ n) (hn : n ≤ 4398046510976)
    (h1 : SortedIn (ltOf cf) a m d) (h2 : SortedIn (ltOf cf) m b d)
    (IH : ∀ (d' : Array α) (a' m' b' : Nat) (w' : World), b' - a' < b - a → SR enc w0 B 50 n c g d' w' → a' < m' → m' < b' → b' ≤ n → SortedIn (ltOf cf) a' m' d' → SortedIn (ltOf cf) m' b' d' → MergeOK enc cf w0 B n c g d' a' m' b' w') :
    MergeOK enc cf w0 B n c g d a m b w := by
  have mixed : Try.prog.follows .mixedOrders = true := by kernel_rfl
  have S0 := hd h
  have hs0 := h.size
  have HC0 := hd HC
  have H1 := hd h1
  have H2 := hd h2
  have HSW := hd hS
  have HIH := hd IH
  clear h HC h1 h2 hS IH
  have hd1 : ((m : Int) - (a : Int) == 1) = false := by rw [beq_eq_false_iff_ne]; omega
  have hd2 : ((b : Int) - (m : Int) == 1) = false := by rw [beq_eq_false_iff_ne]; omega
  obtain ⟨mid, hmid⟩ : ∃ mid, mid = (a + b) / 2 := ⟨_, rfl⟩
  have qm : ((a : Int) + (b : Int)) / 2 = (mid : Int) := by omega
  have hm1 : a < mid := by omega
  have hm2 : mid < b := by omega
  have HM := hd hmid
  clear hmid
  unfold MergeOK
  go_enter Try.func81, Try.ntmps81
  go_upto_if 140 with fail
  clear hd1 hd2
  go_cut [20, 21] from 138 to 146 (fun s t wx => ∃ s0 r0 : Nat, s = .int .i64 s0 ∧ t = .int .i64 r0 ∧ ((m > mid ∧ s0 = mid + m - b ∧ r0 = mid) ∨ (m ≤ mid ∧ s0 = a ∧ r0 = m)) ∧ wx = w)
  case first =>
    by_cases hc : mid < m
    · have hz : (mid : Int) < (m : Int) := by omega
      have q1 : (mid : Int) + (m : Int) - (b : Int) = ((mid + m - b : Nat) : Int) := by omega
      go_wp2
      go_meet
      case rel => exact ⟨mid + m - b, mid, by go_num, rfl, Or.inl ⟨hc, rfl, rfl⟩, rfl⟩
    · have hz : ¬ (mid : Int) < (m : Int) := by omega
      go_wp2
      go_meet
      case rel => exact ⟨a, m, rfl, rfl, Or.inr ⟨by omega, rfl, rfl⟩, rfl⟩
  case rest =>
    obtain ⟨s0, r0, rfl, rfl, hsr, rfl⟩ := hcut
    have h01 : a ≤ s0 := by omega
    have h02 : s0 ≤ r0 := by omega
    have h03 : r0 ≤ m := by omega
    have h04 : r0 ≤ mid := by omega
    have HSR := hd hsr
    have p0 : m + r0 ≤ mid + m - 1 + 1 := by omega
    have p1 : mid + m - 1 < b + s0 := by omega
    clear hsr
    have hq : ((mid : Int) + (m : Int) - 1) = ((mid + m - 1 : Nat) : Int) := by omega
    obtain ⟨pp, hpp⟩ : ∃ pp, pp = mid + m - 1 := ⟨_, rfl⟩
    rw [← hpp] at hq
    have hp1 : m + r0 ≤ pp + 1 := by omega
    have hp2 : pp < b + s0 := by omega
    have HPP := hd hpp
    clear hpp p0 p1
    go_wp2
    go_loopg [20, 21] (m) (fun kx s t wr => ∃ (i j : Nat), s = .int .i64 i ∧ t = .int .i64 j ∧ s0 ≤ i ∧ i ≤ j ∧ j ≤ r0 ∧ j - i ≤ kx ∧ Hd (SR enc w0 B 50 n c g d wr) ∧ Hd (∀ k, s0 ≤ k → k < i → ltOf cf d[pp - k]! d[k]! = false) ∧ Hd (∀ k, j ≤ k → k < r0 → ltOf cf d[pp - k]! d[k]! = true))
    case atStart => exact ⟨s0, r0, rfl, rfl, Nat.le_refl _, h02, Nat.le_refl _, by omega, S0, hd fun _ _ _ => by omega, hd fun _ _ _ => by omega⟩
    case round =>
      clear S0
      obtain ⟨i, j, rfl, rfl, hmi, hij, hjb, hkx, HS, HL, HU⟩ := hrel
      by_cases hlt : i < j
      · obtain ⟨k, hk⟩ : ∃ k, k = (i + j) / 2 := ⟨_, rfl⟩
        have qh : ((i : Int) + (j : Int)) / 2 = (k : Int) := by omega
        have hz : (i : Int) < (j : Int) := by omega
        have k1 : i ≤ k := by omega
        have k2 : k < j := by omega
        have HK := hd hk
        clear hk
        obtain ⟨l, hl⟩ : ∃ l, l = pp - k := ⟨_, rfl⟩
        have ql : (pp : Int) - (k : Int) = (l : Int) := by omega
        have l1 : m ≤ l := by omega
        have l2 : l < b := by omega
        have HLL := hd hl
        clear hl
        obtain ⟨p1, p2, p3, p4, hx⟩ := K.two d[l]!
        obtain ⟨q1, q2, q3, q4, hy⟩ := K.two d[k]!
        have CS := hd (HC0.o.at' HS.o hx hy)
        obtain ⟨c1, c2, _, _⟩ := HS.o.cells2 l (by omega) hx
        obtain ⟨c3, c4, _, _⟩ := HS.o.cells2 k (by omega) hy
        clear hx hy
        obtain ⟨r, hr⟩ : ∃ r, r = cf d[l]! d[k]! := ⟨_, rfl⟩
        rw [← hr] at CS
        have HR := hd hr
        clear hr
        have e1 : ((k : Int)).toNat = k := by omega
        have e2 : (0 : Int) ≤ (k : Int) := by omega
        have e3 : (k : Int) < (n : Int) := by omega
        have e4 : ((l : Int)).toNat = l := by omega
        have e5 : (0 : Int) ≤ (l : Int) := by omega
        have e6 : (l : Int) < (n : Int) := by omega
        have e7 : IntKind.i64.wrap (l : Int) = (l : Int) := by rw [IntKind.wrap_i64]; omega
        obtain ⟨wq, rfl⟩ : ∃ wq : World, wq = wr := ⟨_, rfl⟩
        by_cases hlv : r < 0
        · have hlv2 : (!decide (r < 0)) = false := by rw [decide_eq_true hlv]; rfl
          go_wp2_with fail
          refine wp_region_below (by kernel_rfl) (by kernel_rfl) ?_
          have f1 := fun p : BelW wq => p.cell c1
          have f2 := fun p : BelW wq => p.cell c2
          have f3 := fun p : BelW wq => p.cell c3
          have f4 := fun p : BelW wq => p.cell c4
          clear c1 c2 c3 c4
          repeat (go_big_quiet_step (first | (go_at_call 55; exact Calls.below_of (CS.o _))))
          refine wpQuiet_nil ?_
          rintro _ ⟨p, rfl⟩
          clear f1 f2 f3 f4 CS
          have HS2 := hd (HS.o.below p.h)
          go_wp2
          go_roundg (k - i)
          case measure => omega
          case rel =>
            refine ⟨i, k, rfl, rfl, hmi, by omega, by omega, Nat.le_refl _, HS2, HL, hd fun q h1 h2 => ?_⟩
            have hka := ltOf_true (cf := cf) (x := d[l]!) (y := d[k]!) (by rw [← HR.o]; omega)
            rw [HLL.o] at hka
            have := HLL.o
            exact St.srch_hi HSW.o H1.o H2.o (by omega) h1 (by omega) (by omega) (by omega) (by omega) hka
        · have hlv2 : (!decide (r < 0)) = true := by rw [decide_eq_false hlv]; rfl
          go_wp2_with fail
          refine wp_region_below (by kernel_rfl) (by kernel_rfl) ?_
          have f1 := fun p : BelW wq => p.cell c1
          have f2 := fun p : BelW wq => p.cell c2
          have f3 := fun p : BelW wq => p.cell c3
          have f4 := fun p : BelW wq => p.cell c4
          clear c1 c2 c3 c4
          repeat (go_big_quiet_step (first | (go_at_call 55; exact Calls.below_of (CS.o _))))
          refine wpQuiet_nil ?_
          rintro _ ⟨p, rfl⟩
          clear f1 f2 f3 f4 CS
          have HS2 := hd (HS.o.below p.h)
          go_wp2
          go_roundg (j - (k + 1))
          case measure => omega
          case rel =>
            refine ⟨k + 1, j, by go_num, rfl, by omega, by omega, hjb, Nat.le_refl _, HS2, hd fun q h1 h2 => ?_, HU⟩
            have hka := ltOf_false (cf := cf) (x := d[l]!) (y := d[k]!) (by rw [← HR.o]; omega)
            rw [HLL.o] at hka
            have := HLL.o
            exact St.srch_lo HSW.o H1.o H2.o (by omega) (show q ≤ k by omega) (by omega) (by omega) (by omega) (by omega) hka
      · have hz : ¬ (i : Int) < (j : Int) := by omega
        have hij2 : i = j := by omega
        subst hij2
        clear hkx hz hlt hij
        obtain ⟨en, hen⟩ : ∃ en, en = mid + m - i := ⟨_, rfl⟩
        have qe : (mid : Int) + (m : Int) - (i : Int) = (en : Int) := by omega
        have i1 : i ≤ m := by omega
        have i2 : i ≤ mid := by omega
        have i3 : a ≤ i := by omega
        have n1 : m ≤ en := by omega
        have n2 : mid ≤ en := by omega
        have HSR0 := HSR.o
        have n3 : en ≤ b := by omega
        clear HSR0
        have HEN := hd hen
        clear hen
        obtain ⟨wq, rfl⟩ : ∃ wq : World, wq = wr := ⟨_, rfl⟩
        go_upto_region 39 with fail
        go_cut [185] from 178 to 185 (fun v wx => v = .bool (decide (i < m ∧ m < en)) ∧ wx = wq)
        case first =>
          by_cases c1 : i < m
          · have z1 : (i : Int) < (m : Int) := by omega
            by_cases c2 : m < en
            · have z2 : (m : Int) < (en : Int) := by omega
              go_wp2
              go_meet
              case rel => exact ⟨by rw [decide_eq_true (And.intro c1 c2)], rfl⟩
            · have z2 : ¬ (m : Int) < (en : Int) := by omega
              go_wp2
              go_meet
              case rel => exact ⟨by rw [decide_eq_false (p := i < m ∧ m < en) (by omega)], rfl⟩
          · have z1 : ¬ (i : Int) < (m : Int) := by omega
            go_wp2
            go_meet
            case rel => exact ⟨by rw [decide_eq_false (p := i < m ∧ m < en) (by omega)], rfl⟩
        case rest =>
          obtain ⟨rfl, rfl⟩ := hcut
          go_upto_if 185 with fail
          go_cut [] from 178 to 191 (fun wx => ∃ d1, St.IsRot d d1 m (m - i) (en - m) ∧ Hd (SR enc w0 B 50 n c g d1 wx))
          case first =>
            by_cases cc : i < m ∧ m < en
            · have hdc : decide (i < m ∧ m < en) = true := decide_eq_true cc
              go_wp2_with (go_at_call 97; refine (rotate_any K d _ i m en _ HS.o cc.1 cc.2 (by omega) hn).mono ?_; rintro e w2 ⟨rfl, d1, hr1, hs1⟩; have HS1 := hd hs1; clear hs1)
              go_meet
              case rel => exact ⟨d1, hr1, HS1⟩
            · have hdc : decide (i < m ∧ m < en) = false := decide_eq_false cc
              go_wp2
              go_meet
              case rel => exact ⟨d, St.isRot_none d m _ _ (by omega) (by omega), HS⟩
          case rest =>
          obtain ⟨d1, hr1, HS1⟩ := hcut
          clear HS
          have HMS := hd (St.merge_step (start0 := s0) (r0 := r0) (s := i) HSW.o (a := a) (m := m) (b := b) (by omega) (by omega) (by rw [hs0]; exact hb) (by rw [← HM.o]; exact HSR.o) H1.o H2.o hmi hjb (fun k h1 h2 => by rw [← HM.o, ← HPP.o]; exact HL.o k h1 h2) (fun k h1 h2 => by rw [← HM.o, ← HPP.o]; exact HU.o k h1 h2) (by rw [← HM.o, ← HEN.o]; exact hr1))
          rw [← HM.o, ← HEN.o] at HMS
          clear hr1
          obtain ⟨wq, rfl⟩ : ∃ wq : World, wq = wc := ⟨_, rfl⟩
          go_upto_region 41 with fail
          go_cut [199] from 192 to 199 (fun v wx => v = .bool (decide (a < i ∧ i < mid)) ∧ wx = wq)
          case first =>
            by_cases c1 : a < i
            · have z1 : (a : Int) < (i : Int) := by omega
              by_cases c2 : i < mid
              · have z2 : (i : Int) < (mid : Int) := by omega
                go_wp2
                go_meet
                case rel => exact ⟨by rw [decide_eq_true (And.intro c1 c2)], rfl⟩
              · have z2 : ¬ (i : Int) < (mid : Int) := by omega
                go_wp2
                go_meet
                case rel => exact ⟨by rw [decide_eq_false (p := a < i ∧ i < mid) (by omega)], rfl⟩
            · have z1 : ¬ (a : Int) < (i : Int) := by omega
              go_wp2
              go_meet
              case rel => exact ⟨by rw [decide_eq_false (p := a < i ∧ i < mid) (by omega)], rfl⟩
          case rest =>
            obtain ⟨rfl, rfl⟩ := hcut
            go_upto_if 199 with fail
            go_cut [] from 192 to 205 (fun wx => ∃ d2, PermIn a mid d1 d2 ∧ SortedIn (ltOf cf) a mid d2 ∧ Hd (SR enc w0 B 50 n c g d2 wx))
            case first =>
              by_cases cc : a < i ∧ i < mid
              · have hdc : decide (a < i ∧ i < mid) = true := decide_eq_true cc
                skip
                go_wp2_with (go_at_call 81; refine (HIH.o d1 a i mid _ (by omega) HS1.o cc.1 cc.2 (by omega) HMS.o.2.1 HMS.o.2.2.1).mono ?_; rintro e w2 ⟨rfl, d2, hp2, hs2, hr2⟩; have HS2 := hd hr2; clear hr2)
                go_meet
                case rel => exact ⟨d2, hp2, hs2, HS2⟩
              · have hdc : decide (a < i ∧ i < mid) = false := decide_eq_false cc
                go_wp2
                go_meet
                case rel => exact ⟨d1, permIn_refl _ _ _, St.sorted_none HMS.o.2.1 HMS.o.2.2.1 cc (by omega) (by omega), HS1⟩
            case rest =>
            obtain ⟨d2, hp2, hs2, HS2⟩ := hcut
            clear HS1
            have HQ2 := hd (And.intro hp2 hs2)
            clear hp2 hs2
            obtain ⟨wq, rfl⟩ : ∃ wq : World, wq = wc := ⟨_, rfl⟩
            go_upto_region 43 with fail
            go_cut [213] from 206 to 213 (fun v wx => v = .bool (decide (mid < en ∧ en < b)) ∧ wx = wq)
            case first =>
              by_cases c1 : mid < en
              · have z1 : (mid : Int) < (en : Int) := by omega
                by_cases c2 : en < b
                · have z2 : (en : Int) < (b : Int) := by omega
                  go_wp2
                  go_meet
                  case rel => exact ⟨by rw [decide_eq_true (And.intro c1 c2)], rfl⟩
                · have z2 : ¬ (en : Int) < (b : Int) := by omega
                  go_wp2
                  go_meet
                  case rel => exact ⟨by rw [decide_eq_false (p := mid < en ∧ en < b) (by omega)], rfl⟩
              · have z1 : ¬ (mid : Int) < (en : Int) := by omega
                go_wp2
                go_meet
                case rel => exact ⟨by rw [decide_eq_false (p := mid < en ∧ en < b) (by omega)], rfl⟩
            case rest =>
              obtain ⟨rfl, rfl⟩ := hcut
              have hsz1 := HMS.o.1.1
              have HSZ := hd hsz1
              clear hsz1
              by_cases cc : mid < en ∧ en < b
              · have hdc : decide (mid < en ∧ en < b) = true := decide_eq_true cc
                go_wp2_with (go_at_call 81; refine (HIH.o d2 mid en b _ (by omega) HS2.o cc.1 cc.2 (by omega) (St.sorted_out HMS.o.2.2.2.1 HQ2.o.1 (Or.inr (Nat.le_refl _))) (St.sorted_out HMS.o.2.2.2.2.1 HQ2.o.1 (Or.inr (by omega)))).mono ?_; rintro e w2 ⟨rfl, d3, hp3, hs3, hr3⟩; have HS3 := hd hr3; have HQ3 := hd (And.intro hp3 hs3); clear hr3 hp3 hs3)
                go_end0
                obtain ⟨r1, r2⟩ := St.merge_end (by omega) (by omega) (by rw [HSZ.o, hs0]; exact hb) HMS.o.1 HMS.o.2.2.2.2.2.1 HQ2.o.1 HQ2.o.2 HQ3.o.1 HQ3.o.2
                exact ⟨rfl, d3, r1, r2, HS3.o⟩
              · have hdc : decide (mid < en ∧ en < b) = false := decide_eq_false cc
                go_wp2
                go_end0
                obtain ⟨r1, r2⟩ := St.merge_end (by omega) (by omega) (by rw [HSZ.o, hs0]; exact hb) HMS.o.1 HMS.o.2.2.2.2.2.1 HQ2.o.1 HQ2.o.2 (permIn_refl _ _ _) (St.sorted_none (St.sorted_out HMS.o.2.2.2.1 HQ2.o.1 (Or.inr (Nat.le_refl _))) (St.sorted_out HMS.o.2.2.2.2.1 HQ2.o.1 (Or.inr (by omega))) cc (by omega) (by omega))
                exact ⟨rfl, d2, r1, r2, HS2.o⟩
end Go.Proofs.Ytifaepkeoffcfaa
