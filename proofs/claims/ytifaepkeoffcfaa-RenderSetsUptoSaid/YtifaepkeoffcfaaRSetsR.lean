/- weirref29.set. -/
import Derived.Test.YtifaepkeoffcfaaRSets
import Derived.Test.YtifaepkeoffcfaaRRef
import Derived.Deep.RegionHeld3
namespace Go.Proofs.Ytifaepkeoffcfaa
open Go.RowKit
set_option linter.unusedVariables false
set_option linter.unusedSimpArgs false
theorem ret_bt {a : ByteArray} {b : List UInt8} (h : a.data.toList = b) : Ending.returned (.string a) = Ending.returned (.string ⟨b.toArray⟩) := by rw [← h]
theorem keep2 {w W w4 : World} {g : Nat} {u v : Value} (hb : Below W.heap.size W w4) (h : W.cell? ⟨g, 0, none⟩ = some u ∧ W.cell? ⟨g, 1, none⟩ = some v ∧ g < W.heap.size ∧ Below w.heap.size w W) :
    w4.cell? ⟨g, 0, none⟩ = some u ∧ w4.cell? ⟨g, 1, none⟩ = some v ∧ g < w4.heap.size ∧ Below w.heap.size w w4 :=
  ⟨(hb.cell (p := ⟨g, 0, none⟩) h.2.2.1).trans h.1, (hb.cell (p := ⟨g, 1, none⟩) h.2.2.1).trans h.2.1, Nat.lt_of_lt_of_le h.2.2.1 hb.size, bel h.2.2.2 hb⟩
set_option maxRecDepth 100000 in
set_option maxHeartbeats 2000000 in
theorem refset_any (l : List Lb) (va : Value) (n : Nat) (w : World) (hl : IsL 2 w va n (cellsL l)) (hs : ∀ x ∈ l, x.1.size ≤ 1048576 ∧ x.2.size ≤ 1048576) (hn2 : n ≤ 1048576) :
    Calls Try.prog 52 #[va] w fun e w' => e = .returned (.string ⟨(R.st l).toArray⟩) ∧ Below w.heap.size w w' := by
  have HN := hd (IsLb.len hl)
  obtain ⟨A, c, rfl⟩ := hl.shape
  have HL := hd hl
  have HS := hd hs
  obtain ⟨xs, hxs⟩ : ∃ xs, xs = l.map R.lb := ⟨_, rfl⟩
  have HX := hd hxs
  have HXL : Hd (xs.length = n) := hd (by rw [HX.o, List.length_map, HN.o])
  have HJ : Hd (∀ k, k ≤ n → (R.jn (xs.take k)).length ≤ 35184372088832) := hd fun k hk => by
    have := R.jn_len 12582917 k xs (by rw [HX.o]; intro x hx; obtain ⟨y, hy, rfl⟩ := List.mem_map.1 hx; exact R.lb_len y (HS.o y hy).1 (HS.o y hy).2)
    have := Nat.mul_le_mul (show k ≤ 1048576 by omega) (show 12582917 + 1 ≤ 33554432 by omega)
    omega
  have HST : Hd (R.st l = 123 :: R.jn xs ++ [125]) := hd (by rw [HX.o]; rfl)
  rw [HST.o]
  clear hl hs hxs
  go_enter Try.func52, Try.ntmps52
  go_wp2
  go_loopw [3, 8] (fun v x w2 => ∃ (k : Nat) (s : ByteArray), k ≤ n ∧ x = .int .i64 k ∧ v = .string s ∧ Hd (s.data.toList = 123 :: R.jn (xs.take k)) ∧ Hd (Below w.heap.size w w2)) (fun _ x _ => n - (intOf x).toNat)
  case atStart => exact ⟨0, _, Nat.zero_le _, rfl, rfl, hd rfl, hd (Below.refl _ _)⟩
  case round =>
    obtain ⟨k, s, hk, rfl, rfl, hcs, HB⟩ := hrel
    have hlen : s.size ≤ 35184372088833 := by rw [Lib.size_eq, hcs.o, List.length_cons]; have := HJ.o k hk; omega
    have a1 : ¬ 9223372036854775807 < s.size + 1 := by omega
    have a2 : ¬ 281474976710656 < s.size + 1 := by omega
    by_cases hlt : k < n
    · have hkx : k < l.length := by rw [HN.o]; exact hlt
      have hsx := HS.o _ (List.getElem_mem hkx)
      have HK : Hd (xs[k]'(by rw [HXL.o]; exact hlt) = R.lb (l[k]'hkx)) := hd (by simp [HX.o])
      have HJT := hd (R.jn_take xs k (by rw [HXL.o]; exact hlt))
      rw [HK.o] at HJT
      obtain ⟨b1, o1, rfl, hl1, c1, c2⟩ := IsLb.at_ HL.o k hkx
      have d1 := (HB.o.cell (p := ⟨b1, o1 + k * 2, none⟩) hl1).trans c1
      have d2 := (HB.o.cell (p := ⟨b1, o1 + k * 2 + 1, none⟩) hl1).trans c2
      clear c1 c2 HK
      generalize l[k]'hkx = x at *
      obtain ⟨x1, x2⟩ := x
      simp only at d1 d2 hsx
      obtain ⟨W, hW⟩ : ∃ W, W = wr.alloc (.cells #[.string x1, .string x2] 26) := ⟨_, rfl⟩
      have HW : Hd (W.cell? ⟨wr.heap.size, 0, none⟩ = some (.string x1) ∧ W.cell? ⟨wr.heap.size, 1, none⟩ = some (.string x2) ∧ wr.heap.size < W.heap.size ∧ Below w.heap.size w W) := hd <| by
        rw [hW]
        exact ⟨by simp, by simp, by simp, HB.o.alloc HB.o.size _⟩
      have hr1 := R.t_len x1
      have hr2 := R.t_len x2
      have t1 : ¬ 9223372036854775807 < (R.t x1).length + 1 := by omega
      have t2 : ¬ 281474976710656 < (R.t x1).length + 1 := by omega
      have t3 : ¬ 9223372036854775807 < (R.t x1).length + 1 + (R.t x2).length := by omega
      have t4 : ¬ 281474976710656 < (R.t x1).length + 1 + (R.t x2).length := by omega
      have t5 : ¬ 9223372036854775807 < s.size + ((R.t x1).length + 1 + (R.t x2).length) := by omega
      have t6 : ¬ 281474976710656 < s.size + ((R.t x1).length + 1 + (R.t x2).length) := by omega
      have t7 : ¬ 9223372036854775807 < s.size + 1 + ((R.t x1).length + 1 + (R.t x2).length) := by omega
      have t8 : ¬ 281474976710656 < s.size + 1 + ((R.t x1).length + 1 + (R.t x2).length) := by omega
      clear hr1 hr2
      by_cases h0 : k = 0
      · have G : Hd ((s ++ (⟨(R.t x1).toArray⟩ ++ (⟨#[58]⟩ : ByteArray) ++ ⟨(R.t x2).toArray⟩)).data.toList = 123 :: R.jn (xs.take (k + 1))) := hd (by
          rw [HJT.o, if_pos h0]
          have := hcs.o
          rw [show R.jn (xs.take k) = [] from by rw [h0]; rfl] at this
          simp [R.lb, this])
        have hk0 : ¬ 0 < k := by omega
        clear HJT hcs h0
        go_wp2_with fail
        rw [← hW]
        clear hW
        go_region_held3 (fun w' => w'.cell? ⟨wr.heap.size, 0, none⟩ = some (.string x1) ∧ w'.cell? ⟨wr.heap.size, 1, none⟩ = some (.string x2) ∧ wr.heap.size < w'.heap.size ∧ Below w.heap.size w w') (first | exact ⟨HW.o.1, HW.o.2.1, HW.o.2.2.1, HW.o.2.2.2.drew⟩ | exact keep2 (by assumption) (by assumption))
          (first
            | (go_at_call 48; refine (reftext_any _ _ (by first | exact hsx.1 | exact hsx.2)).mono ?_; rintro e w4 ⟨rfl, hb4⟩)
            | fail)
        have hB4 : w4.cell? ⟨wr.heap.size, 0, none⟩ = some (.string x1) ∧ w4.cell? ⟨wr.heap.size, 1, none⟩ = some (.string x2) ∧ wr.heap.size < w4.heap.size ∧ Below w.heap.size w w4 := by assumption
        have HB4 := hd hB4.2.2.2
        clear hB4
        go_wp2
        go_roundw
        case rel => exact ⟨k + 1, _, by omega, by go_num, rfl, G, HB4⟩
        case measure => simp [intOf]; omega
      · have G : Hd ((s ++ (⟨#[44]⟩ : ByteArray) ++ (⟨(R.t x1).toArray⟩ ++ (⟨#[58]⟩ : ByteArray) ++ ⟨(R.t x2).toArray⟩)).data.toList = 123 :: R.jn (xs.take (k + 1))) := hd (by
          rw [HJT.o, if_neg h0]
          have := hcs.o
          simp [R.lb, this])
        have hk0 : 0 < k := by omega
        clear HJT hcs h0
        go_wp2_with fail
        rw [← hW]
        clear hW
        go_region_held3 (fun w' => w'.cell? ⟨wr.heap.size, 0, none⟩ = some (.string x1) ∧ w'.cell? ⟨wr.heap.size, 1, none⟩ = some (.string x2) ∧ wr.heap.size < w'.heap.size ∧ Below w.heap.size w w') (first | exact ⟨HW.o.1, HW.o.2.1, HW.o.2.2.1, HW.o.2.2.2.drew⟩ | exact keep2 (by assumption) (by assumption))
          (first
            | (go_at_call 48; refine (reftext_any _ _ (by first | exact hsx.1 | exact hsx.2)).mono ?_; rintro e w4 ⟨rfl, hb4⟩)
            | fail)
        have hB4 : w4.cell? ⟨wr.heap.size, 0, none⟩ = some (.string x1) ∧ w4.cell? ⟨wr.heap.size, 1, none⟩ = some (.string x2) ∧ wr.heap.size < w4.heap.size ∧ Below w.heap.size w w4 := by assumption
        have HB4 := hd hB4.2.2.2
        clear hB4
        go_wp2
        go_roundw
        case rel => exact ⟨k + 1, _, by omega, by go_num, rfl, G, HB4⟩
        case measure => simp [intOf]; omega
    · have hkn : k = n := by omega
      subst hkn
      have HE : Hd ((s ++ (⟨#[125]⟩ : ByteArray)).data.toList = 123 :: R.jn xs ++ [125]) := hd (by have := hcs.o; rw [List.take_of_length_le (by rw [HXL.o]; exact Nat.le_refl _)] at this; simp [this])
      go_wp2
      go_ret
      exact ⟨ret_bt HE.o, HB.o⟩
end Go.Proofs.Ytifaepkeoffcfaa
