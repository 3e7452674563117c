/- slices.swapRangeCmpFunc and rotateCmpFunc over elements, at this program. -/
import Derived.Test.YtifaepkeoffcfaaSRow
import Derived.Deep.LoopGhost
namespace Go.Proofs.Ytifaepkeoffcfaa
open Go.RowKit Go.Sort Go.Shelf Go.Lib
set_option linter.unusedVariables false
set_option linter.unusedSimpArgs false
set_option linter.unusedSectionVars false
variable {α : Type} [Inhabited α] {enc : α → List Value} {w0 : World} {B : Nat} {n c g : Nat}
theorem swapRange_any (K : SK enc w0 B 50 n c g) (d : Array α) (fv : Value) (a b m : Nat) (w : World) (h : SR enc w0 B 50 n c g d w) (hab : a + m ≤ b) (hb : b + m ≤ n) (hn : n ≤ 4398046510976) :
    Calls Try.prog 104 #[.slice (some ⟨g, 0, none⟩) n c, .int .i64 a, .int .i64 b, .int .i64 m, fv] w fun e w' => e = .returned (.tuple #[]) ∧ SR enc w0 B 50 n c g (St.swapR d a b m) w' := by
  have mixed : Try.prog.follows .mixedOrders = true := by kernel_rfl
  have S0 := hd h
  clear h
  go_enter Try.func104, Try.ntmps104
  go_wp2
  go_loopg [10] (m) (fun kx s wr => ∃ i : Nat, s = .int .i64 i ∧ i ≤ m ∧ m - i ≤ kx ∧ Hd (SR enc w0 B 50 n c g (St.swapR d a b i) wr))
  case atStart => exact ⟨0, rfl, Nat.zero_le _, Nat.le_refl _, S0⟩
  case round =>
    clear S0
    obtain ⟨i, rfl, him, hkx, S1⟩ := hrel
    by_cases hlt : i < m
    · have hltz : (i : Int) < (m : Int) := by omega
      go_wp2_with fail
      have ea : ((a : Int) + (i : Int)).toNat = a + i := by omega
      have pa : (0 : Int) ≤ (a : Int) + (i : Int) := by omega
      have ba : (a : Int) + (i : Int) < (n : Int) := by omega
      have ra : IntKind.i64.wrap ((a : Int) + (i : Int)) = (a : Int) + (i : Int) := by rw [IntKind.wrap_i64]; omega
      have eb : ((b : Int) + (i : Int)).toNat = b + i := by omega
      have pb : (0 : Int) ≤ (b : Int) + (i : Int) := by omega
      have bb : (b : Int) + (i : Int) < (n : Int) := by omega
      have rb : IntKind.i64.wrap ((b : Int) + (i : Int)) = (b : Int) + (i : Int) := by rw [IntKind.wrap_i64]; omega
      obtain ⟨dk, hdk⟩ : ∃ dk, dk = St.swapR d a b i := ⟨_, rfl⟩
      rw [← hdk] at S1
      have HDK := hd hdk
      clear hdk
      obtain ⟨p1, p2, p3, p4, hx⟩ := K.two dk[a + i]!
      obtain ⟨q1, q2, q3, q4, hy⟩ := K.two dk[b + i]!
      have S2 := hd (S1.o.swap4 K (a + i) (b + i) (by omega) (by omega) hx hy)
      obtain ⟨c1, c2, f1, f2⟩ := S1.o.cells2 (a + i) (by omega) hx
      obtain ⟨c3, c4, f3, f4⟩ := S1.o.cells2 (b + i) (by omega) hy
      clear S1 hx hy
      go_big_region
      clear c1 c2 c3 c4 f1 f2 f3 f4
      generalize World.drew _ = w2 at S2 ⊢
      go_wp2
      go_roundg (m - (i + 1))
      case measure => omega
      case rel => exact ⟨i + 1, by go_num, by omega, Nat.le_refl _, hd (by have := S2.o; rw [HDK.o] at this; exact this)⟩
    · have hltz : ¬ (i : Int) < (m : Int) := by omega
      go_wp2
      go_end0
      have : i = m := by omega
      subst this
      exact ⟨rfl, S1.o⟩
theorem rotate_any (K : SK enc w0 B 50 n c g) (d : Array α) (fv : Value) (a m b : Nat) (w : World) (h : SR enc w0 B 50 n c g d w) (ham : a < m) (hmb : m < b) (hb : b ≤ n) (hn : n ≤ 4398046510976) :
    Calls Try.prog 97 #[.slice (some ⟨g, 0, none⟩) n c, .int .i64 a, .int .i64 m, .int .i64 b, fv] w fun e w' => e = .returned (.tuple #[]) ∧ ∃ d', St.IsRot d d' m (m - a) (b - m) ∧ SR enc w0 B 50 n c g d' w' := by
  have S0 := hd h
  have hs0 := h.size
  clear h
  go_enter Try.func97, Try.ntmps97
  go_wp2
  go_loopg [10, 11] (b - a) (fun kx s t wr => ∃ (i j : Nat) (dk : Array α), s = .int .i64 i ∧ t = .int .i64 j ∧ 0 < i ∧ 0 < j ∧ i ≤ m ∧ m + j ≤ n ∧ i + j ≤ kx ∧ Hd (SR enc w0 B 50 n c g dk wr) ∧ Hd (∀ d', St.IsRot dk d' m i j → St.IsRot d d' m (m - a) (b - m)))
  case atStart => exact ⟨m - a, b - m, d, by go_num, by go_num, by omega, by omega, by omega, by omega, by omega, S0, hd fun _ h => h⟩
  case round =>
    clear S0
    obtain ⟨i, j, dk, rfl, rfl, hi0, hj0, him, hjn, hkx, S1, HR⟩ := hrel
    have hsk := S1.o.size
    by_cases hij : i = j
    · subst hij
      have q1 : (m : Int) - (i : Int) = ((m - i : Nat) : Int) := by omega
      have hne : ((i : Int) != (i : Int)) = false := by simp
      go_wp2_with (go_at_call 104; refine (swapRange_any K dk _ (m - i) m i _ S1.o (by omega) (by omega) hn).mono ?_; rintro e w2 ⟨rfl, h2⟩)
      go_end0
      exact ⟨rfl, _, HR.o _ (St.isRot_eq dk m i him (by rw [hsk]; exact hjn)), h2⟩
    · have hne : ((i : Int) != (j : Int)) = true := by rw [bne_iff_ne]; omega
      by_cases hgt : j < i
      · have hz : (j : Int) < (i : Int) := by omega
        have q1 : (m : Int) - (i : Int) = ((m - i : Nat) : Int) := by omega
        have q3 : (i : Int) - (j : Int) = ((i - j : Nat) : Int) := by omega
        go_wp2_with (go_at_call 104; refine (swapRange_any K dk _ (m - i) m j _ S1.o (by omega) (by omega) hn).mono ?_; rintro e w2 ⟨rfl, h2⟩; have S2 := hd h2; clear h2)
        go_roundg (i - j + j)
        case measure => omega
        case rel => exact ⟨i - j, j, _, by go_num, rfl, by omega, hj0, by omega, hjn, Nat.le_refl _, S2, hd fun d' h => HR.o _ (St.isRot_gt him hgt (by rw [hsk]; exact hjn) h)⟩
      · have hz : ¬ (j : Int) < (i : Int) := by omega
        have q1 : (m : Int) - (i : Int) = ((m - i : Nat) : Int) := by omega
        have q2 : (m : Int) + (j : Int) - (i : Int) = ((m + j - i : Nat) : Int) := by omega
        have q3 : (j : Int) - (i : Int) = ((j - i : Nat) : Int) := by omega
        go_wp2_with (go_at_call 104; refine (swapRange_any K dk _ (m - i) (m + j - i) i _ S1.o (by omega) (by omega) hn).mono ?_; rintro e w2 ⟨rfl, h2⟩; have S2 := hd h2; clear h2)
        go_roundg (i + (j - i))
        case measure => omega
        case rel => exact ⟨i, j - i, _, rfl, by go_num, hi0, by omega, him, by omega, Nat.le_refl _, S2, hd fun d' h => HR.o _ (St.isRot_lt him (by omega) (by rw [hsk]; exact hjn) h)⟩
end Go.Proofs.Ytifaepkeoffcfaa
