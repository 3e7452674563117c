/- weirref29: text and list; the words of the answer. -/
import Derived.Test.YtifaepkeoffcfaaRPut
import Derived.Test.YtifaepkeoffcfaaLBase
import Derived.Test.YtifaepkeoffcfaaLKeep
namespace Go.Proofs.Ytifaepkeoffcfaa
open Go.RowKit
set_option linter.unusedVariables false
set_option linter.unusedSimpArgs false
def R.cm (xs : List (List UInt8)) : List UInt8 := xs.flatMap (44 :: ·)
/-- the parts with commas between them -/
def R.jn (xs : List (List UInt8)) : List UInt8 := (R.cm xs).drop 1
def R.lst (xs : List (List UInt8)) : List UInt8 := 91 :: R.jn xs ++ [93]
def R.sz : List ByteArray → Nat
  | [] => 0
  | x :: r => x.size + 1 + R.sz r
theorem R.sz_app : ∀ a b, R.sz (a ++ b) = R.sz a + R.sz b
  | [], b => by simp [R.sz]
  | x :: a, b => by rw [List.cons_append, R.sz, R.sz, R.sz_app a b]; omega
theorem R.sz_take (l : List ByteArray) (k : Nat) (h : k < l.length) : R.sz (l.take (k + 1)) = R.sz (l.take k) + ((l[k]'h).size + 1) := by
  rw [List.take_succ_eq_append_getElem h, R.sz_app]; rfl
theorem R.sz_le (M : Nat) : ∀ l : List ByteArray, (∀ x ∈ l, x.size ≤ M) → R.sz l ≤ l.length * (M + 1)
  | [], _ => by simp [R.sz]
  | x :: l, h => by
    have := R.sz_le M l (fun y hy => h y (List.mem_cons_of_mem _ hy))
    have := h x (List.mem_cons_self ..)
    rw [R.sz, List.length_cons, Nat.add_mul]
    omega
theorem R.jn_take (xs : List (List UInt8)) (k : Nat) (h : k < xs.length) : R.jn (xs.take (k + 1)) = if k = 0 then xs[k]'h else R.jn (xs.take k) ++ 44 :: (xs[k]'h) := by
  have e : R.cm (xs.take (k + 1)) = R.cm (xs.take k) ++ 44 :: (xs[k]'h) := by
    rw [List.take_succ_eq_append_getElem h]; unfold R.cm; rw [List.flatMap_append]; simp
  unfold R.jn
  rw [e]
  by_cases h0 : k = 0
  · subst h0
    rw [if_pos rfl]
    rfl
  · rw [if_neg h0, List.drop_append_of_le_length]
    obtain ⟨y, r, hy⟩ : ∃ y r, xs.take k = y :: r := by
      cases hh : xs.take k with
      | nil => have := congrArg List.length hh; rw [List.length_take, List.length_nil] at this; omega
      | cons y r => exact ⟨y, r, rfl⟩
    rw [hy]
    simp [R.cm]
theorem R.cm_len (M : Nat) : ∀ xs : List (List UInt8), (∀ x ∈ xs, x.length ≤ M) → (R.cm xs).length ≤ xs.length * (M + 1)
  | [], _ => by simp [R.cm]
  | x :: l, h => by
    have := R.cm_len M l (fun y hy => h y (List.mem_cons_of_mem _ hy))
    have := h x (List.mem_cons_self ..)
    unfold R.cm at this ⊢
    unfold R.cm at *
    rw [List.flatMap_cons, List.length_append, List.length_cons, List.length_cons, Nat.add_mul]
    omega
theorem R.jn_len (M k : Nat) (xs : List (List UInt8)) (h : ∀ x ∈ xs, x.length ≤ M) : (R.jn (xs.take k)).length ≤ k * (M + 1) := by
  have h1 := R.cm_len M (xs.take k) (fun x hx => h x (List.mem_of_mem_take hx))
  have h2 : (xs.take k).length ≤ k := by rw [List.length_take]; omega
  have h3 := Nat.mul_le_mul_right (M + 1) h2
  unfold R.jn
  rw [List.length_drop]
  omega
theorem ret_strB {a b : List UInt8} (h : a = b) : Ending.returned (.string ⟨a.toArray⟩) = Ending.returned (.string ⟨b.toArray⟩) := by rw [h]
theorem reftext_any (s : ByteArray) (w : World) (hs : s.size ≤ 1048576) :
    Calls Try.prog 48 #[.string s] w fun e w' => e = .returned (.string ⟨(R.t s).toArray⟩) ∧ Below w.heap.size w w' := by
  have HT : Hd (R.t s = if (U.wrS U.wrJ s).2 ≠ 0 then [34, 34] else (U.wrS U.wrJ s).1) := hd rfl
  obtain ⟨x, hx⟩ : ∃ x, x = U.wrS U.wrJ s := ⟨_, rfl⟩
  rw [← hx] at HT
  have HX := hd hx
  clear hx
  by_cases h : x.2 ≠ 0
  · have hT := HT.o
    rw [if_pos h] at hT
    have HT2 := hd hT
    have hb : (x.2 != 0) = true := by simp [h]
    clear hT HT h
    rw [HT2.o]
    go_enter Try.func48, Try.ntmps48
    go_wp2_with (go_at_call 67; refine (refJson_any s _ hs).mono ?_; rintro e w1 ⟨rfl, hb1⟩; unfold strR; rw [← HX.o]; have HO1 := hd hb1; clear hb1)
    go_ret
    exact ⟨rfl, HO1.o⟩
  · have hT := HT.o
    rw [if_neg h] at hT
    have HT2 := hd hT
    have hb : (x.2 != 0) = false := by simpa using h
    clear hT HT h
    rw [HT2.o]
    go_enter Try.func48, Try.ntmps48
    go_wp2_with (go_at_call 67; refine (refJson_any s _ hs).mono ?_; rintro e w1 ⟨rfl, hb1⟩; unfold strR; rw [← HX.o]; have HO1 := hd hb1; clear hb1)
    go_ret
    exact ⟨rfl, HO1.o⟩
set_option maxHeartbeats 1000000 in
theorem reflist_any (va : Value) (n : Nat) (l : List ByteArray) (w : World) (hl : IsL 1 w va n (cellsS l)) (hn : n ≤ 1048576) (M : Nat) (hM : M ≤ 33554432) (hs : ∀ x ∈ l, x.size ≤ M) :
    Calls Try.prog 49 #[va] w fun e w' => e = .returned (.string ⟨(R.lst (l.map fun x => x.data.toList)).toArray⟩) ∧ Below w.heap.size w w' := by
  obtain ⟨A, c, rfl⟩ := hl.shape
  have HN := hd (strs_len hl)
  have HL := hd hl
  have HS := hd hs
  obtain ⟨xs, hxs⟩ : ∃ xs, xs = l.map fun x => x.data.toList := ⟨_, rfl⟩
  have HX := hd hxs
  have HJ : Hd (∀ k, k ≤ n → (R.jn (xs.take k)).length ≤ 35184405643264) := hd fun k hk => by
    have := R.jn_len M k xs (by rw [HX.o]; intro x hx; obtain ⟨y, hy, rfl⟩ := List.mem_map.1 hx; rw [← Lib.size_eq]; exact HS.o y hy)
    have := Nat.mul_le_mul (show k ≤ 1048576 by omega) (show M + 1 ≤ 33554433 by omega)
    omega
  have HZ : Hd (∀ k, k ≤ n → R.sz (l.take k) ≤ 35184405643264) := hd fun k hk => by
    have := R.sz_le M (l.take k) (fun x hx => HS.o x (List.mem_of_mem_take hx))
    have := Nat.mul_le_mul (show (l.take k).length ≤ 1048576 by rw [List.length_take]; omega) (show M + 1 ≤ 33554433 by omega)
    omega
  have HXL : Hd (xs.length = n) := hd (by rw [HX.o, List.length_map, HN.o])
  rw [← hxs]
  clear hl hs hxs
  go_enter Try.func49, Try.ntmps49
  go_wp2
  go_loopw [3, 11] (fun z x wr => ∃ k Z : Nat, k ≤ n ∧ x = .int .i64 k ∧ z = .int .i64 Z ∧ Z ≤ 35184405643266 ∧ Hd (Z = 2 + R.sz (l.take k)) ∧ wr = w) (fun _ x _ => n - (intOf x).toNat)
  case atStart => exact ⟨0, 2, Nat.zero_le _, rfl, rfl, by omega, hd rfl, rfl⟩
  case round =>
    obtain ⟨k, Z, hk, rfl, rfl, hZ, hZe, rfl⟩ := hrel
    by_cases hlt : k < n
    · have hkx : k < l.length := by rw [HN.o]; exact hlt
      obtain ⟨b, off, rfl, hbl, c0⟩ := strs_at HL.o k hkx
      have HZ2 : Hd (Z + (l[k].size + 1) = 2 + R.sz (l.take (k + 1))) := hd (by rw [R.sz_take l k hkx, hZe.o]; omega)
      have hz2 : Z + (l[k].size + 1) ≤ 35184405643266 := by rw [HZ2.o]; have := HZ.o (k + 1) (by omega); omega
      generalize l[k]'hkx = x at *
      go_wp2
      go_roundw
      case rel => exact ⟨k + 1, Z + (x.size + 1), by omega, by go_num, by go_num, hz2, HZ2, trivial⟩
      case measure => simp [intOf]; omega
    · obtain ⟨wo, rfl⟩ : ∃ wo : World, wo = wr := ⟨_, rfl⟩
      go_wp2_with (at_make; refine wpList_mk0 _ 40 5 (.int .u8 0) 1 1 Try.underlying40 info_out rfl _ _ rfl wo.heap.size _ _ Z rfl rfl ?b1 ?b2 (Nat.le_refl _) ?_)
      case b1 => omega
      case b2 => omega
      intro w1 ho1 hg1
      have HB1 : Hd (Below wo.heap.size wo w1) := hd (below_of_grown (row := none) hg1)
      have hz1 := HB1.o.size
      clear hg1
      go_wp2_with (at_builtin; refine wpList_app_lit 40 5 (.int .u8 0) 1 1 Try.underlying40 info_out rfl (by decide) rfl _ _ rfl wo.heap.size (.slice (some ⟨wo.heap.size, 0, none⟩) 0 Z) 0 [] w1 #[.int .u8 91] 1 rfl rfl ho1 rfl (by simp [Value.oneCell']) (by omega) (by omega) hz1 ?_)
      intro v2 w2 ho2 hg2
      have HB2 := hd (HB1.o.grown hg2 hz1 (fun g hg => (ho1.lt g hg).1))
      have HO2 : Hd (w2.ownsRow wo.heap.size 5 1 v2 [91].length (cellsB [91])) := hd ho2
      clear ho1 ho2 hg2 hz1 HB1
      go_wp2
      go_loopw [6, 28] (fun v x w2 => ∃ (k : Nat) (bs : List UInt8), k ≤ n ∧ x = .int .i64 k ∧ Hd (bs = 91 :: R.jn (xs.take k)) ∧ Hd (w2.ownsRow wo.heap.size 5 1 v bs.length (cellsB bs)) ∧ Hd (Below wo.heap.size wo w2)) (fun _ x _ => n - (intOf x).toNat)
      case atStart => exact ⟨0, [91], Nat.zero_le _, rfl, hd rfl, HO2, HB2⟩
      case round =>
        clear HO2 HB2
        obtain ⟨k, bs, hk, rfl, hbs, HO, HB⟩ := hrel
        have hlen : bs.length ≤ 35184405643265 := by rw [hbs.o, List.length_cons]; have := HJ.o k hk; omega
        have hzr := HB.o.size
        by_cases hlt : k < n
        · have hkx : k < l.length := by rw [HN.o]; exact hlt
          obtain ⟨b, off, rfl, hbl, c0⟩ := strs_at HL.o k hkx
          have d0 := (HB.o.cell (p := ⟨b, off + k, none⟩) hbl).trans c0
          have hsx : (l[k]'hkx).size ≤ M := HS.o _ (List.getElem_mem hkx)
          have HK : Hd (xs[k]'(by rw [HXL.o]; exact hlt) = (l[k]'hkx).data.toList) := hd (by simp [HX.o])
          have HJT := hd (R.jn_take xs k (by rw [HXL.o]; exact hlt))
          rw [HK.o] at HJT
          clear c0 HK
          generalize l[k]'hkx = x at *
          by_cases h0 : k = 0
          · have G : Hd (bs ++ x.data.toList = 91 :: R.jn (xs.take (k + 1))) := hd (by rw [HJT.o, if_pos h0, hbs.o, h0]; rfl)
            have hk0 : ¬ 0 < k := by omega
            clear HJT hbs h0
            go_wp2_with (at_builtin; refine wpList_app_str _ 40 9 5 Try.underlying40 Try.underlying9 info_out rfl _ _ rfl wo.heap.size u6 bs.length (cellsB bs) rfl HO.o x rfl (by omega) hzr ?_)
            intro v3 w3 ho3 hg3
            have HB3 := hd (HB.o.grown hg3 hzr (fun g hg => (HO.o.lt g hg).1))
            have HO3 : Hd (w3.ownsRow wo.heap.size 5 1 v3 (bs ++ x.data.toList).length (cellsB (bs ++ x.data.toList))) := hd (by rw [List.length_append, ← Lib.size_eq, cellsB_app]; exact ho3)
            clear ho3 hg3 HO HB
            go_wp2
            go_roundw
            case rel => exact ⟨k + 1, _, by omega, by go_num, G, HO3, HB3⟩
            case measure => simp [intOf]; omega
          · have G : Hd (bs ++ [44] ++ x.data.toList = 91 :: R.jn (xs.take (k + 1))) := hd (by rw [HJT.o, if_neg h0, hbs.o]; simp)
            have hk0 : (0 : Int) < (k : Int) := by omega
            clear HJT hbs
            go_wp2_with (at_builtin; refine wpList_app_lit 40 5 (.int .u8 0) 1 1 Try.underlying40 info_out rfl (by decide) rfl _ _ rfl wo.heap.size u6 bs.length (cellsB bs) wr #[.int .u8 44] 1 rfl rfl HO.o rfl (by simp [Value.oneCell']) (by omega) (by omega) hzr ?_)
            intro v3 w3 ho3 hg3
            have HB3 := hd (HB.o.grown hg3 hzr (fun g hg => (HO.o.lt g hg).1))
            have HO3 : Hd (w3.ownsRow wo.heap.size 5 1 v3 (bs ++ [44]).length (cellsB (bs ++ [44]))) := hd (by rw [List.length_append, cellsB_app]; exact ho3)
            have hz3 := HB3.o.size
            have hl3 : (bs ++ [44]).length = bs.length + 1 := by simp
            have e4 : (bs ++ [44] ++ x.data.toList).length = bs.length + 1 + x.size := by rw [List.length_append, hl3, Lib.size_eq]
            clear ho3 hg3 HO HB
            go_wp2_with (at_builtin; refine wpList_app_str _ 40 9 5 Try.underlying40 Try.underlying9 info_out rfl _ _ rfl wo.heap.size v3 (bs ++ [44]).length (cellsB (bs ++ [44])) rfl HO3.o x rfl (by omega) hz3 ?_)
            intro v4 w4 ho4 hg4
            have HB4 := hd (HB3.o.grown hg4 hz3 (fun g hg => (HO3.o.lt g hg).1))
            have HO4 : Hd (w4.ownsRow wo.heap.size 5 1 v4 (bs ++ [44] ++ x.data.toList).length (cellsB (bs ++ [44] ++ x.data.toList))) := hd (by rw [e4, cellsB_app (bs ++ [44])]; exact ho4)
            clear ho4 hg4 HO3 HB3
            go_wp2
            go_roundw
            case rel => exact ⟨k + 1, _, by omega, by go_num, G, HO4, HB4⟩
            case measure => simp [intOf]; omega
        · have hkn : k = n := by omega
          subst hkn
          have HE : Hd (bs ++ [93] = R.lst xs) := hd (by rw [hbs.o, List.take_of_length_le (by rw [HXL.o]; exact Nat.le_refl _)]; rfl)
          go_wp2_with (at_builtin; refine wpList_app_lit 40 5 (.int .u8 0) 1 1 Try.underlying40 info_out rfl (by decide) rfl _ _ rfl wo.heap.size u6 bs.length (cellsB bs) wr #[.int .u8 93] 1 rfl rfl HO.o rfl (by simp [Value.oneCell']) (by omega) (by omega) hzr ?_)
          intro v3 w3 ho3 hg3
          have HB3 := hd (HB.o.grown hg3 hzr (fun g hg => (HO.o.lt g hg).1))
          have h3 : IsL 1 w3 v3 (bs.length + 1) (cellsB (bs ++ [93])) := by rw [cellsB_app]; exact IsL.own ho3
          have hcv := run_string_of w3 40 9 5 Try.underlying40 Try.underlying5 Try.underlying9 _ _ _ h3
          rw [HE.o] at hcv
          clear ho3 hg3 h3
          go_wp2
          go_ret
          exact ⟨rfl, HB3.o⟩
end Go.Proofs.Ytifaepkeoffcfaa
