/- slices.symMergeCmpFunc whole, insertionSortCmpFunc over elements, at this program. -/
import Derived.Test.YtifaepkeoffcfaaSMergeB
namespace Go.Proofs.Ytifaepkeoffcfaa
open Go.RowKit Go.Sort Go.Shelf Go.Lib
set_option linter.unusedVariables false
set_option linter.unusedSimpArgs false
set_option linter.unusedSectionVars false
variable {α : Type} [Inhabited α] {enc : α → List Value} {w0 : World} {B : Nat} {n c g : Nat} {cf : α → α → Int}
theorem merge_any (K : SK enc w0 B 50 n c g) (hS : SWO (ltOf cf)) (HC : CmpOK enc cf w0 g) (hn : n ≤ 4398046510976) : ∀ (N : Nat) (d : Array α) (a m b : Nat) (w : World), b - a < N → SR enc w0 B 50 n c g d w → a < m → m < b → b ≤ n →
    SortedIn (ltOf cf) a m d → SortedIn (ltOf cf) m b d → MergeOK enc cf w0 B n c g d a m b w
  | 0, _, _, _, _, _, hN, _, _, _, _, _, _ => absurd hN (Nat.not_lt_zero _)
  | N + 1, d, a, m, b, w, hN, h, ham, hmb, hb, h1, h2 => by
    by_cases e1 : m = a + 1
    · exact mergeL_any K hS HC d a m b w h e1 hmb hb hn h2
    · by_cases e2 : b = m + 1
      · exact mergeR_any K hS HC d a m b w h (by omega) e2 hb hn h1
      · exact mergeM_any K hS HC d a m b w h (by omega) (by omega) hb hn h1 h2 fun d' a' m' b' w' hlt hr x1 x2 x3 x4 x5 => merge_any K hS HC hn N d' a' m' b' w' (by omega) hr x1 x2 x3 x4 x5
set_option maxHeartbeats 4000000 in
set_option maxRecDepth 100000 in
theorem ins_any (K : SK enc w0 B 50 n c g) (hS : SWO (ltOf cf)) (HC : CmpOK enc cf w0 g) (d : Array α) (a b : Nat) (w : World) (h : SR enc w0 B 50 n c g d w) (hab : a ≤ b) (hb : b ≤ n) (hn : n ≤ 4398046510976) :
    Calls Try.prog 80 #[.slice (some ⟨g, 0, none⟩) n c, .int .i64 a, .int .i64 b, .func (.func 55) #[] #[]] w fun e w' => e = .returned (.tuple #[]) ∧ ∃ d', PermIn a b d d' ∧ SortedIn (ltOf cf) a b d' ∧ SR enc w0 B 50 n c g d' w' := by
  have mixed : Try.prog.follows .mixedOrders = true := by kernel_rfl
  have S0 := hd h
  have hs0 := h.size
  have HC0 := hd HC
  have HSW := hd hS
  clear h HC hS
  go_enter Try.func80, Try.ntmps80
  go_wp2
  go_loopg [8] (b - a) (fun kx s wr => ∃ (i : Nat) (di : Array α), s = .int .i64 i ∧ a < i ∧ i ≤ b + 1 ∧ b + 1 - i ≤ kx + 1 ∧ (b < i → b = a ∧ i = a + 1) ∧ Hd (SR enc w0 B 50 n c g di wr) ∧ Hd (PermIn a b d di) ∧ Hd (i ≤ b → SortedIn (ltOf cf) a i di))
  case atStart => exact ⟨a + 1, d, by go_num, by omega, by omega, by omega, by omega, S0, hd (permIn_refl _ _ _), hd fun _ i j _ _ _ => by omega⟩
  case round =>
    clear S0
    obtain ⟨i, di, rfl, hai, hib, hkx, hbi, HS, HP, HO⟩ := hrel
    by_cases hlt : i < b
    · have hltz : (i : Int) < (b : Int) := by omega
      clear hbi
      go_wp2
      go_loopg [9] i (fun g2 vj wr2 => ∃ (j : Nat) (dj : Array α), vj = .int .i64 j ∧ a ≤ j ∧ j ≤ i ∧ j ≤ g2 ∧ Hd (SR enc w0 B 50 n c g dj wr2) ∧ Hd (PermIn a b di dj) ∧ Hd (St.Gap (ltOf cf) a j (i + 1) dj))
      case atStart => exact ⟨i, di, rfl, by omega, Nat.le_refl _, Nat.le_refl _, HS, hd (permIn_refl _ _ _), hd (St.gap_start (HO.o (by omega)))⟩
      case round =>
        clear HS
        obtain ⟨j, dj, rfl, haj, hji, hg2, HS, HP2, HG⟩ := hrel
        by_cases hja : a < j
        · obtain ⟨jp, rfl⟩ : ∃ jp, j = jp + 1 := ⟨j - 1, by omega⟩
          have hjaz' : (a : Int) < (jp : Int) + 1 := by omega
          have hjaz : decide ((a : Int) < (jp : Int) + 1) = true := decide_eq_true hjaz'
          obtain ⟨p1, p2, p3, p4, hx⟩ := K.two dj[jp + 1]!
          obtain ⟨q1, q2, q3, q4, hy⟩ := K.two dj[jp]!
          have CS := hd (HC0.o.at' HS.o hx hy)
          obtain ⟨c1, c2, _, _⟩ := HS.o.cells2 (jp + 1) (by omega) hx
          obtain ⟨c3, c4, _, _⟩ := HS.o.cells2 jp (by omega) hy
          have HXY := hd (And.intro hx hy)
          clear hx hy
          obtain ⟨r, hr⟩ : ∃ r, r = cf dj[jp + 1]! dj[jp]! := ⟨_, rfl⟩
          rw [← hr] at CS
          have HR := hd hr
          clear hr
          have e1 : ((jp : Int)).toNat = jp := by omega
          have e2 : (0 : Int) ≤ (jp : Int) := by omega
          have e3 : (jp : Int) < (n : Int) := by omega
          have e4 : ((jp : Int) + 1).toNat = jp + 1 := by omega
          have e5 : (0 : Int) ≤ (jp : Int) + 1 := by omega
          have e6 : (jp : Int) + 1 < (n : Int) := by omega
          have e7 : IntKind.i64.wrap (jp : Int) = (jp : Int) := by rw [IntKind.wrap_i64]; omega
          obtain ⟨wq, rfl⟩ : ∃ wq : World, wq = wr := ⟨_, rfl⟩
          by_cases hlv : r < 0
          · have hlv2 : decide (r < 0) = true := decide_eq_true hlv
            go_wp2_with fail
            refine wp_region_below (by kernel_rfl) (by kernel_rfl) ?_
            have f1 := fun p : BelW wq => p.cell c1
            have f2 := fun p : BelW wq => p.cell c2
            have f3 := fun p : BelW wq => p.cell c3
            have f4 := fun p : BelW wq => p.cell c4
            clear c1 c2 c3 c4
            repeat (go_big_quiet_step (first | (go_at_call 55; exact Calls.below_of (CS.o _))))
            refine wpQuiet_nil ?_
            rintro _ ⟨p, rfl⟩
            clear f1 f2 f3 f4 CS
            have HS2 := hd (HS.o.below p.h)
            have S2 := hd (HS2.o.swap4 K (jp + 1) jp (by omega) (by omega) HXY.o.1 HXY.o.2)
            obtain ⟨c1, c2, f1, f2⟩ := HS2.o.cells2 (jp + 1) (by omega) HXY.o.1
            obtain ⟨c3, c4, f3, f4⟩ := HS2.o.cells2 jp (by omega) HXY.o.2
            generalize p.w = wv at *
            go_wp2_with fail
            go_big_region
            clear c1 c2 c3 c4 f1 f2 f3 f4
            generalize World.drew _ = w2 at S2 ⊢
            go_wp2
            go_roundg jp
            case measure => omega
            case rel => exact ⟨jp, _, by go_num, by omega, by omega, Nat.le_refl _, S2, hd (permIn_trans _ _ _ _ _ HP2.o (swp_permIn _ _ _ _ _ (by omega) (by omega) (by omega) (by omega) (by rw [HS2.o.size]; exact hb))), hd (St.gap_step HSW.o HG.o (by rw [HS2.o.size]; omega) (by omega) (ltOf_true (by rw [← HR.o]; exact hlv)))⟩
          · have hlv2 : decide (r < 0) = false := decide_eq_false hlv
            go_wp2_with fail
            refine wp_region_below (by kernel_rfl) (by kernel_rfl) ?_
            have f1 := fun p : BelW wq => p.cell c1
            have f2 := fun p : BelW wq => p.cell c2
            have f3 := fun p : BelW wq => p.cell c3
            have f4 := fun p : BelW wq => p.cell c4
            clear c1 c2 c3 c4
            repeat (go_big_quiet_step (first | (go_at_call 55; exact Calls.below_of (CS.o _))))
            refine wpQuiet_nil ?_
            rintro _ ⟨p, rfl⟩
            clear f1 f2 f3 f4 CS
            have HS2 := hd (HS.o.below p.h)
            generalize p.w = wv at *
            go_wp2
            go_roundg (b - (i + 1))
            case measure => omega
            case rel => exact ⟨i + 1, dj, by go_num, by omega, by omega, by omega, by omega, HS2, hd (permIn_trans _ _ _ _ _ HP.o HP2.o), hd fun _ => St.gap_end HSW.o HG.o (Or.inr (by simp only [Nat.add_sub_cancel]; exact ltOf_false (by rw [← HR.o]; omega)))⟩
        · have hjaz' : ¬ (a : Int) < (j : Int) := by omega
          have hjaz : decide ((a : Int) < (j : Int)) = false := decide_eq_false hjaz'
          obtain ⟨wq, rfl⟩ : ∃ wq : World, wq = wr := ⟨_, rfl⟩
          go_wp2_with fail
          refine wp_region_below (by kernel_rfl) (by kernel_rfl) ?_
          repeat (go_big_quiet_step (fail))
          refine wpQuiet_nil ?_
          rintro _ ⟨p, rfl⟩
          have HS2 := hd (HS.o.below p.h)
          generalize p.w = wv at *
          go_wp2
          go_roundg (b - (i + 1))
          case measure => omega
          case rel => exact ⟨i + 1, dj, by go_num, by omega, by omega, by omega, by omega, HS2, hd (permIn_trans _ _ _ _ _ HP.o HP2.o), hd fun _ => St.gap_end HSW.o HG.o (Or.inl (by omega))⟩
    · have hltz : ¬ (i : Int) < (b : Int) := by omega
      go_wp2
      go_end0
      refine ⟨rfl, di, HP.o, ?_, HS.o⟩
      by_cases e : i = b
      · rw [← e]; exact HO.o (by omega)
      · intro x y _ _ _; omega
end Go.Proofs.Ytifaepkeoffcfaa
