/- slices.symMergeCmpFunc over elements, at this program: one element to the left, one to the right. -/
import Derived.Test.YtifaepkeoffcfaaSSwap
namespace Go.Proofs.Ytifaepkeoffcfaa
open Go.RowKit Go.Sort Go.Shelf Go.Lib
set_option linter.unusedVariables false
set_option linter.unusedSimpArgs false
set_option linter.unusedSectionVars false
variable {α : Type} [Inhabited α] {enc : α → List Value} {w0 : World} {B : Nat} {n c g : Nat} {cf : α → α → Int}
/-- what the comparing closure answers, in every world of the sort's -/
def CmpOK (enc : α → List Value) (cf : α → α → Int) (w0 : World) (g : Nat) : Prop :=
  ∀ W, w0.grownBy W (some g) → ∀ x y, Calls Try.prog 55 #[.agg (enc x).toArray, .agg (enc y).toArray] W fun e w' => e = .returned (.int .i64 (cf x y)) ∧ Below W.heap.size W w'
theorem CmpOK.at' (H : CmpOK enc cf w0 g) {d : Array α} {W : World} (S : SR enc w0 B 50 n c g d W) {x y : α} {p1 q1 : Option Addr} {p2 p3 p4 q2 q3 q4 : Nat} (hx : enc x = [.slice p1 p2 p3, .float .f64 p4]) (hy : enc y = [.slice q1 q2 q3, .float .f64 q4]) :
    ∀ p : BelW W, Calls Try.prog 55 #[.agg #[.slice p1 p2 p3, .float .f64 p4], .agg #[.slice q1 q2 q3, .float .f64 q4]] p.w fun e w' => e = .returned (.int .i64 (cf x y)) ∧ Below p.w.heap.size p.w w' := fun p => by
  have := H p.w (S.below p.h).gr x y
  rw [hx, hy] at this
  exact this
theorem ltOf_true {x y : α} (h : cf x y < 0) : ltOf cf x y = true := decide_eq_true h
theorem ltOf_false {x y : α} (h : ¬ cf x y < 0) : ltOf cf x y = false := decide_eq_false h
set_option maxHeartbeats 4000000 in
set_option maxRecDepth 100000 in
theorem mergeL_any (K : SK enc w0 B 50 n c g) (hS : SWO (ltOf cf)) (HC : CmpOK enc cf w0 g) (d : Array α) (a m b : Nat) (w : World) (h : SR enc w0 B 50 n c g d w) (ham : m = a + 1) (hmb : m < b) (hb : b ≤ n) (hn : n ≤ 4398046510976)
    (h2 : SortedIn (ltOf cf) m b d) :
    Calls Try.prog 81 #[.slice (some ⟨g, 0, none⟩) n c, .int .i64 a, .int .i64 m, .int .i64 b, .func (.func 55) #[] #[]] w fun e w' => e = .returned (.tuple #[]) ∧ ∃ d', PermIn a b d d' ∧ SortedIn (ltOf cf) a b d' ∧ SR enc w0 B 50 n c g d' w' := by
  have mixed : Try.prog.follows .mixedOrders = true := by kernel_rfl
  have S0 := hd h
  have hs0 := h.size
  have HC0 := hd HC
  have H2 := hd h2
  have HSW := hd hS
  clear h HC h2 hS
  have hd1 : ((m : Int) - (a : Int) == 1) = true := by rw [beq_iff_eq]; omega
  have HAM := hd ham
  have am1 : a < m := by omega
  clear ham
  go_enter Try.func81, Try.ntmps81
  go_wp2
  clear hd1
  go_loopg [10, 11] (b - m) (fun kx s t wr => ∃ (i j : Nat), s = .int .i64 i ∧ t = .int .i64 j ∧ m ≤ i ∧ i ≤ j ∧ j ≤ b ∧ j - i ≤ kx ∧ Hd (SR enc w0 B 50 n c g d wr) ∧ Hd (∀ k, m ≤ k → k < i → ltOf cf d[k]! d[a]! = true) ∧ Hd (∀ k, j ≤ k → k < b → ltOf cf d[k]! d[a]! = false))
  case atStart => exact ⟨m, b, rfl, rfl, Nat.le_refl _, by omega, Nat.le_refl _, Nat.le_refl _, S0, hd fun _ _ _ => by omega, hd fun _ _ _ => by omega⟩
  case round =>
    clear S0
    obtain ⟨i, j, rfl, rfl, hmi, hij, hjb, hkx, HS, HL, HU⟩ := hrel
    by_cases hlt : i < j
    · obtain ⟨k, hk⟩ : ∃ k, k = (i + j) / 2 := ⟨_, rfl⟩
      have qh : ((i : Int) + (j : Int)) / 2 = (k : Int) := by omega
      have hz : (i : Int) < (j : Int) := by omega
      have k1 : i ≤ k := by omega
      have k2 : k < j := by omega
      have HK := hd hk
      clear hk
      obtain ⟨p1, p2, p3, p4, hx⟩ := K.two d[k]!
      obtain ⟨q1, q2, q3, q4, hy⟩ := K.two d[a]!
      have CS := hd (HC0.o.at' HS.o hx hy)
      obtain ⟨c1, c2, _, _⟩ := HS.o.cells2 k (by omega) hx
      obtain ⟨c3, c4, _, _⟩ := HS.o.cells2 a (by omega) hy
      clear hx hy
      obtain ⟨r, hr⟩ : ∃ r, r = cf d[k]! d[a]! := ⟨_, rfl⟩
      rw [← hr] at CS
      have HR := hd hr
      clear hr
      have e1 : ((k : Int)).toNat = k := by omega
      have e2 : (0 : Int) ≤ (k : Int) := by omega
      have e3 : (k : Int) < (n : Int) := by omega
      have e4 : ((a : Int)).toNat = a := by omega
      have e5 : (0 : Int) ≤ (a : Int) := by omega
      have e6 : (a : Int) < (n : Int) := by omega
      obtain ⟨wq, rfl⟩ : ∃ wq : World, wq = wr := ⟨_, rfl⟩
      by_cases hlv : r < 0
      · go_wp2_with fail
        refine wp_region_below (by kernel_rfl) (by kernel_rfl) ?_
        have f1 := fun p : BelW wq => p.cell c1
        have f2 := fun p : BelW wq => p.cell c2
        have f3 := fun p : BelW wq => p.cell c3
        have f4 := fun p : BelW wq => p.cell c4
        clear c1 c2 c3 c4
        repeat (go_big_quiet_step (first | (go_at_call 55; exact Calls.below_of (CS.o _))))
        refine wpQuiet_nil ?_
        rintro _ ⟨p, rfl⟩
        clear f1 f2 f3 f4 CS
        have HS2 := hd (HS.o.below p.h)
        go_wp2
        go_roundg (j - (k + 1))
        case measure => omega
        case rel =>
          refine ⟨k + 1, j, by go_num, rfl, by omega, by omega, hjb, Nat.le_refl _, HS2, hd fun q h1 h2 => ?_, HU⟩
          have hka := ltOf_true (cf := cf) (x := d[k]!) (y := d[a]!) (by rw [← HR.o]; exact hlv)
          by_cases hq : q = k
          · rw [hq]; exact hka
          · exact St.le_lt HSW.o (H2.o q k h1 (by omega) (by omega)) hka
      · go_wp2_with fail
        refine wp_region_below (by kernel_rfl) (by kernel_rfl) ?_
        have f1 := fun p : BelW wq => p.cell c1
        have f2 := fun p : BelW wq => p.cell c2
        have f3 := fun p : BelW wq => p.cell c3
        have f4 := fun p : BelW wq => p.cell c4
        clear c1 c2 c3 c4
        repeat (go_big_quiet_step (first | (go_at_call 55; exact Calls.below_of (CS.o _))))
        refine wpQuiet_nil ?_
        rintro _ ⟨p, rfl⟩
        clear f1 f2 f3 f4 CS
        have HS2 := hd (HS.o.below p.h)
        go_wp2
        go_roundg (k - i)
        case measure => omega
        case rel =>
          refine ⟨i, k, rfl, rfl, hmi, by omega, by omega, Nat.le_refl _, HS2, HL, hd fun q h1 h2 => ?_⟩
          have hka := ltOf_false (cf := cf) (x := d[k]!) (y := d[a]!) (by rw [← HR.o]; omega)
          by_cases hq : q = k
          · rw [hq]; exact hka
          · exact HSW.o.ntrans _ _ _ (H2.o k q (by omega) (by omega) h2) hka
    · have hz : ¬ (i : Int) < (j : Int) := by omega
      have hij2 : i = j := by omega
      subst hij2
      clear hkx hz hlt hij
      go_wp2
      go_loopg [13] (b) (fun kx s wr => ∃ (k : Nat), s = .int .i64 k ∧ a ≤ k ∧ k ≤ i - 1 ∧ i - 1 - k ≤ kx ∧ Hd (SR enc w0 B 50 n c g (St.shUp d a (k - a)) wr))
      case atStart => exact ⟨a, rfl, Nat.le_refl _, by omega, by omega, hd (by rw [Nat.sub_self]; exact HS.o)⟩
      case round =>
        clear HS
        obtain ⟨k, rfl, hak, hki, hkx, HS⟩ := hrel
        by_cases hlt : k < i - 1
        · have hz : (k : Int) < (i : Int) - 1 := by omega
          obtain ⟨dk, hdk⟩ : ∃ dk, dk = St.shUp d a (k - a) := ⟨_, rfl⟩
          rw [← hdk] at HS
          have HDK := hd hdk
          clear hdk
          obtain ⟨p1, p2, p3, p4, hx⟩ := K.two dk[k]!
          obtain ⟨q1, q2, q3, q4, hy⟩ := K.two dk[k + 1]!
          have S2 := hd (HS.o.swap4 K k (k + 1) (by omega) (by omega) hx hy)
          obtain ⟨c1, c2, f1, f2⟩ := HS.o.cells2 k (by omega) hx
          obtain ⟨c3, c4, f3, f4⟩ := HS.o.cells2 (k + 1) (by omega) hy
          clear HS hx hy
          have e1 : ((k : Int)).toNat = k := by omega
          have e2 : (0 : Int) ≤ (k : Int) := by omega
          have e3 : (k : Int) < (n : Int) := by omega
          have e4 : ((k : Int) + 1).toNat = k + 1 := by omega
          have e5 : (0 : Int) ≤ (k : Int) + 1 := by omega
          have e6 : (k : Int) + 1 < (n : Int) := by omega
          have e7 : IntKind.i64.wrap ((k : Int) + 1) = (k : Int) + 1 := by rw [IntKind.wrap_i64]; omega
          go_wp2_with fail
          go_big_region
          clear c1 c2 c3 c4 f1 f2 f3 f4
          generalize World.drew _ = w2 at S2 ⊢
          go_wp2
          go_roundg (i - 1 - (k + 1))
          case measure => omega
          case rel => exact ⟨k + 1, by go_num, by omega, by omega, Nat.le_refl _, hd (by have := S2.o; rw [HDK.o] at this; rw [show k + 1 - a = (k - a) + 1 by omega, St.shUp, show a + (k - a) = k by omega]; exact this)⟩
        · have hz : ¬ (k : Int) < (i : Int) - 1 := by omega
          have hke : k = i - 1 := by omega
          subst hke
          go_wp2
          refine bodyPost_ret (results_none rfl _ _ _) rfl ?_
          have ham := HAM.o
          refine ⟨rfl, _, St.shUp_perm d a a b (Nat.le_refl _) (by omega) _ (by omega), St.shUp_sorted HSW.o (by omega) (by omega) (by omega) (by rw [← ham]; exact H2.o) (fun q h1 h2 => HL.o q (by omega) h2) HU.o, HS.o⟩
set_option maxHeartbeats 4000000 in
set_option maxRecDepth 100000 in
theorem mergeR_any (K : SK enc w0 B 50 n c g) (hS : SWO (ltOf cf)) (HC : CmpOK enc cf w0 g) (d : Array α) (a m b : Nat) (w : World) (h : SR enc w0 B 50 n c g d w) (ham : a + 1 < m) (hmb : b = m + 1) (hb : b ≤ n) (hn : n ≤ 4398046510976)
    (h1 : SortedIn (ltOf cf) a m d) :
    Calls Try.prog 81 #[.slice (some ⟨g, 0, none⟩) n c, .int .i64 a, .int .i64 m, .int .i64 b, .func (.func 55) #[] #[]] w fun e w' => e = .returned (.tuple #[]) ∧ ∃ d', PermIn a b d d' ∧ SortedIn (ltOf cf) a b d' ∧ SR enc w0 B 50 n c g d' w' := by
  have mixed : Try.prog.follows .mixedOrders = true := by kernel_rfl
  have S0 := hd h
  have hs0 := h.size
  have HC0 := hd HC
  have H1 := hd h1
  have HSW := hd hS
  clear h HC h1 hS
  have hd1 : ((m : Int) - (a : Int) == 1) = false := by rw [beq_eq_false_iff_ne]; omega
  have hd2 : ((b : Int) - (m : Int) == 1) = true := by rw [beq_iff_eq]; omega
  have HBM := hd hmb
  have bm1 : m < b := by omega
  have am1 : a < m := by omega
  clear hmb ham
  go_enter Try.func81, Try.ntmps81
  go_wp2
  clear hd1 hd2
  go_loopg [14, 15] (m - a) (fun kx s t wr => ∃ (i j : Nat), s = .int .i64 i ∧ t = .int .i64 j ∧ a ≤ i ∧ i ≤ j ∧ j ≤ m ∧ j - i ≤ kx ∧ Hd (SR enc w0 B 50 n c g d wr) ∧ Hd (∀ k, a ≤ k → k < i → ltOf cf d[m]! d[k]! = false) ∧ Hd (∀ k, j ≤ k → k < m → ltOf cf d[m]! d[k]! = true))
  case atStart => exact ⟨a, m, rfl, rfl, Nat.le_refl _, by omega, Nat.le_refl _, Nat.le_refl _, S0, hd fun _ _ _ => by omega, hd fun _ _ _ => by omega⟩
  case round =>
    clear S0
    obtain ⟨i, j, rfl, rfl, hmi, hij, hjb, hkx, HS, HL, HU⟩ := hrel
    by_cases hlt : i < j
    · obtain ⟨k, hk⟩ : ∃ k, k = (i + j) / 2 := ⟨_, rfl⟩
      have qh : ((i : Int) + (j : Int)) / 2 = (k : Int) := by omega
      have hz : (i : Int) < (j : Int) := by omega
      have k1 : i ≤ k := by omega
      have k2 : k < j := by omega
      have HK := hd hk
      clear hk
      obtain ⟨p1, p2, p3, p4, hx⟩ := K.two d[m]!
      obtain ⟨q1, q2, q3, q4, hy⟩ := K.two d[k]!
      have CS := hd (HC0.o.at' HS.o hx hy)
      obtain ⟨c1, c2, _, _⟩ := HS.o.cells2 m (by omega) hx
      obtain ⟨c3, c4, _, _⟩ := HS.o.cells2 k (by omega) hy
      clear hx hy
      obtain ⟨r, hr⟩ : ∃ r, r = cf d[m]! d[k]! := ⟨_, rfl⟩
      rw [← hr] at CS
      have HR := hd hr
      clear hr
      have e1 : ((k : Int)).toNat = k := by omega
      have e2 : (0 : Int) ≤ (k : Int) := by omega
      have e3 : (k : Int) < (n : Int) := by omega
      have e4 : ((m : Int)).toNat = m := by omega
      have e5 : (0 : Int) ≤ (m : Int) := by omega
      have e6 : (m : Int) < (n : Int) := by omega
      obtain ⟨wq, rfl⟩ : ∃ wq : World, wq = wr := ⟨_, rfl⟩
      by_cases hlv : r < 0
      · have hlv2 : (!decide (r < 0)) = false := by rw [decide_eq_true hlv]; rfl
        go_wp2_with fail
        refine wp_region_below (by kernel_rfl) (by kernel_rfl) ?_
        have f1 := fun p : BelW wq => p.cell c1
        have f2 := fun p : BelW wq => p.cell c2
        have f3 := fun p : BelW wq => p.cell c3
        have f4 := fun p : BelW wq => p.cell c4
        clear c1 c2 c3 c4
        repeat (go_big_quiet_step (first | (go_at_call 55; exact Calls.below_of (CS.o _))))
        refine wpQuiet_nil ?_
        rintro _ ⟨p, rfl⟩
        clear f1 f2 f3 f4 CS
        have HS2 := hd (HS.o.below p.h)
        go_wp2
        go_roundg (k - i)
        case measure => omega
        case rel =>
          refine ⟨i, k, rfl, rfl, hmi, by omega, by omega, Nat.le_refl _, HS2, HL, hd fun q h1 h2 => ?_⟩
          have hka := ltOf_true (cf := cf) (x := d[m]!) (y := d[k]!) (by rw [← HR.o]; omega)
          by_cases hq : q = k
          · rw [hq]; exact hka
          · exact St.lt_le HSW.o hka (H1.o k q (by omega) (by omega) h2)
      · have hlv2 : (!decide (r < 0)) = true := by rw [decide_eq_false hlv]; rfl
        go_wp2_with fail
        refine wp_region_below (by kernel_rfl) (by kernel_rfl) ?_
        have f1 := fun p : BelW wq => p.cell c1
        have f2 := fun p : BelW wq => p.cell c2
        have f3 := fun p : BelW wq => p.cell c3
        have f4 := fun p : BelW wq => p.cell c4
        clear c1 c2 c3 c4
        repeat (go_big_quiet_step (first | (go_at_call 55; exact Calls.below_of (CS.o _))))
        refine wpQuiet_nil ?_
        rintro _ ⟨p, rfl⟩
        clear f1 f2 f3 f4 CS
        have HS2 := hd (HS.o.below p.h)
        go_wp2
        go_roundg (j - (k + 1))
        case measure => omega
        case rel =>
          refine ⟨k + 1, j, by go_num, rfl, by omega, by omega, hjb, Nat.le_refl _, HS2, hd fun q h1 h2 => ?_, HU⟩
          have hka := ltOf_false (cf := cf) (x := d[m]!) (y := d[k]!) (by rw [← HR.o]; omega)
          by_cases hq : q = k
          · rw [hq]; exact hka
          · exact HSW.o.ntrans _ _ _ hka (H1.o q k h1 (by omega) (by omega))
    · have hz : ¬ (i : Int) < (j : Int) := by omega
      have hij2 : i = j := by omega
      subst hij2
      clear hkx hz hlt hij
      go_wp2
      go_loopg [17] (m) (fun kx s wr => ∃ (k : Nat), s = .int .i64 k ∧ i ≤ k ∧ k ≤ m ∧ k - i ≤ kx ∧ Hd (SR enc w0 B 50 n c g (St.shDn d m (m - k)) wr))
      case atStart => exact ⟨m, rfl, hjb, Nat.le_refl _, by omega, hd (by rw [Nat.sub_self]; exact HS.o)⟩
      case round =>
        clear HS
        obtain ⟨k1, rfl, hak, hki, hkx, HS⟩ := hrel
        by_cases hlt : i < k1
        · obtain ⟨k, rfl⟩ : ∃ k, k1 = k + 1 := ⟨k1 - 1, by omega⟩
          have hz : (i : Int) < (k : Int) + 1 := by omega
          obtain ⟨dk, hdk⟩ : ∃ dk, dk = St.shDn d m (m - (k + 1)) := ⟨_, rfl⟩
          rw [← hdk] at HS
          have HDK := hd hdk
          clear hdk
          obtain ⟨p1, p2, p3, p4, hx⟩ := K.two dk[k + 1]!
          obtain ⟨q1, q2, q3, q4, hy⟩ := K.two dk[k]!
          have S2 := hd (HS.o.swap4 K (k + 1) k (by omega) (by omega) hx hy)
          obtain ⟨c1, c2, f1, f2⟩ := HS.o.cells2 (k + 1) (by omega) hx
          obtain ⟨c3, c4, f3, f4⟩ := HS.o.cells2 k (by omega) hy
          clear HS hx hy
          have e1 : ((k : Int)).toNat = k := by omega
          have e2 : (0 : Int) ≤ (k : Int) := by omega
          have e3 : (k : Int) < (n : Int) := by omega
          have e4 : ((k : Int) + 1).toNat = k + 1 := by omega
          have e5 : (0 : Int) ≤ (k : Int) + 1 := by omega
          have e6 : (k : Int) + 1 < (n : Int) := by omega
          have e7 : IntKind.i64.wrap (k : Int) = (k : Int) := by rw [IntKind.wrap_i64]; omega
          go_wp2_with fail
          go_big_region
          clear c1 c2 c3 c4 f1 f2 f3 f4
          generalize World.drew _ = w2 at S2 ⊢
          go_wp2
          go_roundg (k - i)
          case measure => omega
          case rel => exact ⟨k, by go_num, by omega, by omega, Nat.le_refl _, hd (by have := S2.o; rw [HDK.o] at this; rw [show m - k = (m - (k + 1)) + 1 by omega, St.shDn, show m - (m - (k + 1)) = k + 1 by omega]; exact this)⟩
        · have hz : ¬ (i : Int) < (k1 : Int) := by omega
          have hke : k1 = i := by omega
          subst hke
          go_wp2
          refine bodyPost_ret (results_none rfl _ _ _) rfl ?_
          have hbm := HBM.o
          refine ⟨rfl, _, St.shDn_perm d m a b (by omega) (by omega) _ (by omega), ?_, HS.o⟩
          rw [hbm]
          exact St.shDn_sorted HSW.o hmi hjb (by omega) H1.o HL.o HU.o
end Go.Proofs.Ytifaepkeoffcfaa
