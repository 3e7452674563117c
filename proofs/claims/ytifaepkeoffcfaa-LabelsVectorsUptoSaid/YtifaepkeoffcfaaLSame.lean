/- The walk of weirlaw16.same. -/
import Derived.Test.YtifaepkeoffcfaaLBase
import Derived.Deep.QuietTactic
import Derived.BigQuiet
namespace Go.Proofs.Ytifaepkeoffcfaa
open Go.RowKit
set_option linter.unusedVariables false
set_option linter.unusedSimpArgs false
theorem bytes_ne {a b : ByteArray} (h : a ≠ b) : (a.toList == b.toList) = false := by
  rw [beq_eq_false_iff_ne]
  intro e
  apply h
  rw [ByteArray.toList_eq, ByteArray.toList_eq] at e
  exact ByteArray.ext (Array.toList_inj.1 e)
theorem label_eq (w : World) (a b c d : ByteArray) : (Op.equalIn 10000 26 (.agg #[.string a, .string b]) (.agg #[.string c, .string d])).run Try.prog w = .ok (a.toList == c.toList && b.toList == d.toList) w := by
  have ht : Try.prog.underlying 26 = some (.struct (Try.prog.fieldsOf 26)) := by unfold Program.fieldsOf; rw [Try.underlying26]
  have hp : Try.prog.stoodInHeld 26 = false := by kernel_rfl
  have hs := Try.underlying9
  rw [run_equalIn_agg w 9999 _ _ _ ht hp]
  unfold Program.fieldsOf
  rw [Try.underlying26]
  have h1 := run_equalIn_string (P := Try.prog) w 9998 9 a c hs
  have h2 := run_equalIn_string (P := Try.prog) w 9998 9 b d hs
  simp [Op.eqFields, part, isAgg, run_underlying hs, h1, h2]
  by_cases h3 : a.toList = c.toList
  · by_cases h4 : b.toList = d.toList
    · rw [if_pos h3, if_pos h4]; simp [h3, h4]
    · rw [if_pos h3, if_neg h4]; simp [h3, h4]
  · rw [if_neg h3]; simp [h3]
theorem toList_inj {a b : ByteArray} : a.toList = b.toList ↔ a = b := by
  constructor
  · intro h
    rw [ByteArray.toList_eq, ByteArray.toList_eq] at h
    exact ByteArray.ext (Array.toList_inj.1 h)
  · intro h; rw [h]
theorem lab_ne (x y : Lb) : (x.1.toList == y.1.toList && x.2.toList == y.2.toList) = decide (x = y) := by
  obtain ⟨a, b⟩ := x
  obtain ⟨c, d⟩ := y
  rw [Bool.eq_iff_iff]
  simp [toList_inj]
theorem lsame_ne (A B : Option Addr) (n m ca cb : Nat) (w : World) (hne : n ≠ m) :
    Calls Try.prog 16 #[.slice A n ca, .slice B m cb] w fun e w' => e = .returned (.bool false) ∧ Below w.heap.size w w' := by
  have hb : ((n : Int) != (m : Int)) = true := by rw [bne_iff_ne]; omega
  go_enter Try.func16, Try.ntmps16
  go_wp2
  all_goals first
    | (exfalso; omega)
    | (go_ret; exact ⟨rfl, Below.refl _ _⟩)
set_option maxHeartbeats 1000000 in
theorem lsame_any (va vb : Value) (n m : Nat) (xs ys : List Lb) (w : World) (hx : IsL 2 w va n (cellsL xs)) (hy : IsL 2 w vb m (cellsL ys)) (hn : n ≤ 1125899906842624) :
    Calls Try.prog 16 #[va, vb] w fun e w' => e = .returned (.bool (decide (xs = ys))) ∧ Below w.heap.size w w' := by
  have lx := IsLb.len hx
  have ly := IsLb.len hy
  obtain ⟨A, ca, rfl⟩ := hx.shape
  obtain ⟨B, cb, rfl⟩ := hy.shape
  by_cases hne : n = m
  · subst hne
    have HX := hd lx
    have HY := hd ly
    have H1 := hd hx
    have H2 := hd hy
    have hle := label_eq
    clear lx ly hx hy
    go_enter Try.func16, Try.ntmps16
    go_wp2
    go_loopw [13] (fun x wr => ∃ k q : Nat, k ≤ n ∧ x = .int .i64 k ∧ wr = w.drewN q ∧ Hd (xs.take k = ys.take k)) (fun x _ => n - (intOf x).toNat)
    case atStart => exact ⟨0, 0, Nat.zero_le _, rfl, rfl, hd rfl⟩
    case round =>
      obtain ⟨k, q, hk, rfl, rfl, ht⟩ := hrel
      by_cases hlt : k < n
      · have hkx : k < xs.length := by rw [HX.o]; exact hlt
        have hky : k < ys.length := by rw [HY.o]; exact hlt
        obtain ⟨b1, o1, rfl, _, c1, c2⟩ := IsLb.at_ H1.o k hkx
        obtain ⟨b2, o2, rfl, _, c3, c4⟩ := IsLb.at_ H2.o k hky
        have hik : (0 : Int) ≤ (k : Int) := by omega
        have hikn : (k : Int) < (n : Int) := by omega
        have hl := lab_ne xs[k] ys[k]
        cases he : decide (xs[k] = ys[k]) with
        | true =>
          have G : Hd (xs.take (k + 1) = ys.take (k + 1)) := hd (take_succ_eq ht.o _ _ (by simpa using he))
          rw [he] at hl
          clear he
          generalize xs[k] = x at *
          generalize ys[k] = y at *
          go_wp2_with fail
          go_quiet (fail)
          go_wp2
          go_roundw
          case rel => exact ⟨k + 1, _, by omega, by go_num, rfl, G⟩
          case measure => simp [intOf]; omega
        | false =>
          have G : Hd (decide (xs = ys) = false) := hd <| by
            rw [decide_eq_false_iff_not]
            exact getElem_ne (k := k) hkx hky (by simpa using he)
          rw [he] at hl
          clear he
          generalize xs[k] = x at *
          generalize ys[k] = y at *
          go_wp2_with fail
          go_quiet (fail)
          go_wp2
          go_ret
          exact ⟨ret_bool G.o.symm, bel_drew (bel_drew (Below.refl _ _) _) _⟩
      · have G : Hd (decide (xs = ys) = true) := hd <| by
          have e := ht.o
          have hkn : k = n := by omega
          rw [hkn, List.take_of_length_le (by rw [HX.o]; exact Nat.le_refl _), List.take_of_length_le (by rw [HY.o]; exact Nat.le_refl _)] at e
          rw [e]; simp
        go_wp2
        go_ret
        exact ⟨ret_bool G.o.symm, bel_drew (Below.refl _ _) _⟩
  · have G : decide (xs = ys) = false := by rw [decide_eq_false_iff_not]; rintro rfl; omega
    rw [G]
    exact lsame_ne A B n m ca cb w hne
end Go.Proofs.Ytifaepkeoffcfaa
