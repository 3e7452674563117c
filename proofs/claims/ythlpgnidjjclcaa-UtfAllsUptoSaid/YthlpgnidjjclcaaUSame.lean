/- The walk of weirlaw01.same. -/
import Derived.Test.YthlpgnidjjclcaaURunes
import Derived.Test.YthlpgnidjjclcaaBase3
namespace Go.Proofs.Ythlpgnidjjclcaa
open Go.RowKit
def ints32 (l : List Int) : List Value := l.map (Value.int .i32)
theorem ints32_len (l : List Int) : (ints32 l).length = l.length := by simp [ints32]

theorem same_ne (A B : Option Addr) (n m ca cb : Nat) (w : World) (hne : n ≠ m) :
    Calls Try.prog 17 #[.slice A n ca, .slice B m cb] w fun e w' => e = .returned (.bool false) ∧ w = w' := by
  have hd : (!((n : Int) == (m : Int))) = true := by simp; omega
  have hd' : ((n : Int) == (m : Int)) = false := by simp; omega
  clear hne
  go_enter Try.func17, Try.ntmps17
  go_wp2
  go_ret
  exact ⟨rfl, rfl⟩
theorem same_nil (A B : Option Addr) (ca cb : Nat) (w : World) :
    Calls Try.prog 17 #[.slice A 0 ca, .slice B 0 cb] w fun e w' => e = .returned (.bool true) ∧ w = w' := by
  go_enter Try.func17, Try.ntmps17
  go_wp2
  refine wp_loop_rounds 1 ?_
  rw [rounds_succ]
  go_wp2
  go_ret
  exact ⟨rfl, rfl⟩
theorem same_at (b off c o n ca cb : Nat) (xs ys : List Int) (w : World) (hx : xs.length = n) (hy : ys.length = n) (hn : n ≤ 1125899906842624)
    (h1 : ∀ k (h : k < xs.length), w.cell? ⟨b, off + k, none⟩ = some (.int .i32 (xs[k]'h))) (h2 : ∀ k (h : k < ys.length), w.cell? ⟨c, o + k, none⟩ = some (.int .i32 (ys[k]'h))) :
    Calls Try.prog 17 #[.slice (some ⟨b, off, none⟩) n ca, .slice (some ⟨c, o, none⟩) n cb] w fun e w' => e = .returned (.bool (xs == ys)) ∧ Below w.heap.size w w' := by
  have HX := hd hx
  have HY := hd hy
  have H1 := hd h1
  have H2 := hd h2
  clear hx hy h1 h2
  go_enter Try.func17, Try.ntmps17
  go_wp2
  go_loopw [13] (fun x wr => ∃ k q : Nat, k ≤ n ∧ x = .int .i64 k ∧ wr = w.drewN q ∧ Hd (xs.take k = ys.take k)) (fun x _ => n - (intOf x).toNat)
  case atStart => exact ⟨0, 0, Nat.zero_le _, rfl, rfl, hd rfl⟩
  case round =>
    obtain ⟨k, q, hk, rfl, rfl, ht⟩ := hrel
    by_cases hlt : k < n
    · have c1 := H1.o k (by rw [HX.o]; exact hlt)
      have c2 := H2.o k (by rw [HY.o]; exact hlt)
      have hik : (0 : Int) ≤ (k : Int) := by omega
      have hikn : (k : Int) < (n : Int) := by omega
      cases he : (xs[k]'(by rw [HX.o]; exact hlt) == ys[k]'(by rw [HY.o]; exact hlt)) with
      | true =>
        have G : Hd (xs.take (k + 1) = ys.take (k + 1)) := hd (take_succ_eq ht.o _ _ (by simpa using he))
        go_wp2_with fail
        go_quiet (fail)
        go_wp2
        go_roundw
        case rel => exact ⟨k + 1, _, by omega, by go_num, rfl, G⟩
        case measure => simp [intOf]; omega
      | false =>
        have G : Hd ((xs == ys) = false) := hd <| by
          rw [beq_eq_false_iff_ne]
          exact getElem_ne (k := k) (by rw [HX.o]; exact hlt) (by rw [HY.o]; exact hlt) (by simpa using he)
        go_wp2_with fail
        go_quiet (fail)
        go_wp2
        go_ret
        exact ⟨ret_bool G.o.symm, bel_drew (bel_drew (Below.refl _ _) _) _⟩
    · have G : Hd ((xs == ys) = true) := hd <| by
        have e := ht.o
        have hkn : k = n := by omega
        rw [hkn, List.take_of_length_le (by rw [HX.o]; exact Nat.le_refl _), List.take_of_length_le (by rw [HY.o]; exact Nat.le_refl _)] at e
        rw [e]; simp
      go_wp2
      go_ret
      exact ⟨ret_bool G.o.symm, bel_drew (Below.refl _ _) _⟩
theorem same_any (va vb : Value) (n m : Nat) (xs ys : List Int) (w : World) (hx : IsL 1 w va n (ints32 xs)) (hy : IsL 1 w vb m (ints32 ys)) (hn : n ≤ 1125899906842624) :
    Calls Try.prog 17 #[va, vb] w fun e w' => e = .returned (.bool (xs == ys)) ∧ Below w.heap.size w w' := by
  obtain ⟨l1, A, ca, rfl, r1⟩ := hx
  obtain ⟨l2, B, cb, rfl, r2⟩ := hy
  rw [ints32_len, Nat.mul_one] at l1 l2
  by_cases hne : n = m
  · subst hne
    by_cases h0 : n = 0
    · have e1 : xs = [] := List.eq_nil_of_length_eq_zero (by omega)
      have e2 : ys = [] := List.eq_nil_of_length_eq_zero (by omega)
      subst e1; subst e2; subst h0
      exact (same_nil A B ca cb w).mono fun e w' ⟨h1, h2⟩ => ⟨h1, h2 ▸ Below.refl _ _⟩
    · obtain ⟨b, off, rfl, _, c1⟩ := r1.head (by rw [ints32_len]; omega)
      obtain ⟨c, o, rfl, _, c2⟩ := r2.head (by rw [ints32_len]; omega)
      refine same_at b off c o n ca cb xs ys w l1 l2 hn (fun k hk => ?_) (fun k hk => ?_)
      · have := c1 k (by rw [ints32_len]; exact hk)
        simpa [ints32] using this
      · have := c2 k (by rw [ints32_len]; exact hk)
        simpa [ints32] using this
  · have G : (xs == ys) = false := by rw [beq_eq_false_iff_ne]; rintro rfl; omega
    rw [G]
    exact (same_ne A B n m ca cb w hne).mono fun e w' ⟨h1, h2⟩ => ⟨h1, h2 ▸ Below.refl _ _⟩
end Go.Proofs.Ythlpgnidjjclcaa
