/- The walks of cmp.Compare, cmp.Or, labels.Compare and of the reference's order. -/
import Derived.Test.YtifaepkeoffcfaaLKeepW
import Derived.Deep.RegionHeld3
namespace Go.Proofs.Ytifaepkeoffcfaa
open Go.RowKit
set_option linter.unusedVariables false
set_option linter.unusedSimpArgs false
namespace L
/-- the order of two texts -/
def ord (a b : ByteArray) : Int := if Op.bytesLess a.toList b.toList = true then -1 else if (a.toList == b.toList) = true then 0 else 1
def cmp (x y : Lb) : Int := if ord x.1 y.1 ≠ 0 then ord x.1 y.1 else ord x.2 y.2
def cmps : List Lb → List Lb → Int
  | [], [] => 0
  | [], _ :: _ => -1
  | _ :: _, [] => 1
  | x :: a, y :: b => if cmp x y ≠ 0 then cmp x y else cmps a b
theorem ord_bd (a b : ByteArray) : -1 ≤ ord a b ∧ ord a b ≤ 1 := by unfold ord; split <;> (try split) <;> omega
theorem cmp_bd (x y : Lb) : -1 ≤ cmp x y ∧ cmp x y ≤ 1 := by
  unfold cmp; have := ord_bd x.1 y.1; have := ord_bd x.2 y.2; split <;> omega
end L
theorem nan_any (a : ByteArray) (w : World) : Calls Try.prog 65 #[.string a] w fun e w' => e = .returned (.bool false) ∧ w = w' := by
  go_enter Try.func65, Try.ntmps65
  go_wp2
  go_ret
  exact ⟨rfl, rfl⟩
theorem cmpS_any (a b : ByteArray) (w : World) : Calls Try.prog 42 #[.string a, .string b] w fun e w' => e = .returned (.int .i64 (L.ord a b)) ∧ w = w' := by
  cases h1 : Op.bytesLess a.toList b.toList with
  | true =>
    have G : Hd (L.ord a b = -1) := hd <| by unfold L.ord; rw [if_pos h1]
    go_enter Try.func42, Try.ntmps42
    go_wp2_with (go_at_call 65; refine (nan_any _ _).mono ?_; rintro e w' ⟨rfl, rfl⟩)
    go_ret
    exact ⟨ret_int G.o.symm, rfl⟩
  | false =>
    cases h2 : (a.toList == b.toList) with
    | true =>
      have G : Hd (L.ord a b = 0) := hd <| by unfold L.ord; rw [if_neg (by rw [h1]; simp), if_pos h2]
      go_enter Try.func42, Try.ntmps42
      go_wp2_with (go_at_call 65; refine (nan_any _ _).mono ?_; rintro e w' ⟨rfl, rfl⟩)
      go_ret
      exact ⟨ret_int G.o.symm, rfl⟩
    | false =>
      have G : Hd (L.ord a b = 1) := hd <| by unfold L.ord; rw [if_neg (by rw [h1]; simp), if_neg (by rw [h2]; simp)]
      go_enter Try.func42, Try.ntmps42
      go_wp2_with (go_at_call 65; refine (nan_any _ _).mono ?_; rintro e w' ⟨rfl, rfl⟩)
      go_ret
      exact ⟨ret_int G.o.symm, rfl⟩
theorem order_any (a b : ByteArray) (w : World) : Calls Try.prog 43 #[.string a, .string b] w fun e w' => e = .returned (.int .i64 (L.ord a b)) ∧ w' = w := by
  cases h1 : Op.bytesLess a.toList b.toList with
  | true =>
    have G : Hd (L.ord a b = -1) := hd <| by unfold L.ord; rw [if_pos h1]
    go_enter Try.func43, Try.ntmps43
    go_wp2
    go_ret
    exact ⟨ret_int G.o.symm, rfl⟩
  | false =>
    cases h2 : (a.toList == b.toList) with
    | true =>
      have G : Hd (L.ord a b = 0) := hd <| by unfold L.ord; rw [if_neg (by rw [h1]; simp), if_pos h2]
      go_enter Try.func43, Try.ntmps43
      go_wp2
      go_ret
      exact ⟨ret_int G.o.symm, rfl⟩
    | false =>
      have G : Hd (L.ord a b = 1) := hd <| by unfold L.ord; rw [if_neg (by rw [h1]; simp), if_neg (by rw [h2]; simp)]
      go_enter Try.func43, Try.ntmps43
      go_wp2
      go_ret
      exact ⟨ret_int G.o.symm, rfl⟩
def L.nz : List Int → Int
  | [] => 0
  | x :: r => if x ≠ 0 then x else L.nz r
theorem or_any (v : Value) (n : Nat) (l : List Int) (w : World) (hl : IsL 1 w v n (l.map (Value.int .i64))) (hn : n ≤ 1099511627776) :
    Calls Try.prog 41 #[v] w fun e w' => e = .returned (.int .i64 (L.nz l)) ∧ w = w' := by
  have hll : l.length = n := by have := hl.1; rw [List.length_map] at this; omega
  obtain ⟨A, c, rfl⟩ := hl.shape
  obtain ⟨_, A', c', e, r⟩ := hl
  simp only [Value.slice.injEq, true_and] at e
  obtain ⟨rfl, rfl⟩ := e
  have HR := hd r
  have HLL := hd hll
  clear r hll
  go_enter Try.func41, Try.ntmps41
  go_wp2
  go_loop [8] (fun x => ∃ k : Nat, k ≤ n ∧ x = .int .i64 k ∧ Hd (L.nz (l.drop k) = L.nz l)) (fun x => n - (intOf x).toNat)
  case atStart => exact ⟨0, Nat.zero_le _, rfl, hd rfl⟩
  case round =>
    obtain ⟨k, hk, rfl, hG⟩ := hrel
    by_cases hlt : k < n
    · have hkl : k < l.length := by rw [HLL.o]; exact hlt
      obtain ⟨b, off, rfl, c1⟩ := HR.o k (by rw [List.length_map]; exact hkl)
      rw [List.getElem_map] at c1
      have HDR := hd (List.drop_eq_getElem_cons hkl)
      generalize l[k]'hkl = x at *
      by_cases hx : x = 0
      · have G : Hd (L.nz (l.drop (k + 1)) = L.nz l) := hd <| by rw [← hG.o, HDR.o, L.nz, if_neg (by simp [hx])]
        have he : (x != 0) = false := by rw [hx]; rfl
        clear hx
        go_wp2
        go_round
        case rel => exact ⟨k + 1, by omega, by go_num, G⟩
        case measure => simp [intOf]; omega
      · have G : Hd (L.nz l = x) := hd <| by rw [← hG.o, HDR.o, L.nz, if_pos hx]
        have he : (x != 0) = true := by rw [bne_iff_ne]; exact hx
        clear hx
        go_wp2
        go_ret
        exact ⟨ret_int G.o.symm, rfl⟩
    · have G : Hd (L.nz l = 0) := hd <| by rw [← hG.o, List.drop_eq_nil_of_le (by rw [HLL.o]; omega)]; rfl
      go_wp2
      go_ret
      exact ⟨ret_int G.o.symm, rfl⟩
/-- what the closure of labels.Compare answers -/
theorem cmp1_any (x y : Lb) (w : World) :
    Calls Try.prog 40 #[.agg #[.string x.1, .string x.2], .agg #[.string y.1, .string y.2]] w fun e w' => e = .returned (.int .i64 (L.cmp x y)) ∧ Below w.heap.size w w' := by
  obtain ⟨a, b⟩ := x
  obtain ⟨c, d⟩ := y
  have HC : Hd (L.nz [L.ord a c, L.ord b d] = L.cmp (a, b) (c, d)) := hd <| by
    simp only [L.nz, L.cmp]
    by_cases h1 : L.ord a c ≠ 0
    · rw [if_pos h1, if_pos h1]
    · rw [if_neg h1, if_neg h1]; split <;> simp_all
  go_enter Try.func40, Try.ntmps40
  go_wp2
  obtain ⟨W, hW⟩ : ∃ W, W = (w.alloc (.cells #[.string a, .string b] 26)).alloc (.cells #[.string c, .string d] 26) := ⟨_, rfl⟩
  have c1 : W.cell? ⟨w.heap.size, 0, none⟩ = some (.string a) := by rw [hW]; simp
  have c2 : W.cell? ⟨w.heap.size, 1, none⟩ = some (.string b) := by rw [hW]; simp
  have c3 : W.cell? ⟨w.heap.size + 1, 0, none⟩ = some (.string c) := by rw [hW]; simp
  have c4 : W.cell? ⟨w.heap.size + 1, 1, none⟩ = some (.string d) := by rw [hW]; simp
  have HBW : Hd (Below w.heap.size w W) := hd (by rw [hW]; exact ((Below.refl _ _).alloc (Nat.le_refl _) _).alloc (by simp) _)
  rw [← hW]
  clear hW
  have HOR : Hd (IsL 1 ((W.alloc (.cells #[.int .i64 (L.ord a c), .int .i64 (L.ord b d)] 3)).drew) (.slice (some ⟨W.heap.size, 0, none⟩) 2 2) 2 ([L.ord a c, L.ord b d].map (Value.int .i64))) := hd (by
    have := IsL.own (World.ownsRow_lit (base := W.heap.size) (e := 3) (size := 1) W #[.int .i64 (L.ord a c), .int .i64 (L.ord b d)] 2 (Nat.le_refl _) (by decide) rfl)
    exact this)
  go_region_held3 (fun w' => w'.cell? ⟨w.heap.size, 0, none⟩ = some (.string a) ∧ w'.cell? ⟨w.heap.size, 1, none⟩ = some (.string b) ∧ w'.cell? ⟨w.heap.size + 1, 0, none⟩ = some (.string c) ∧ w'.cell? ⟨w.heap.size + 1, 1, none⟩ = some (.string d)) (go_keep)
    (first
      | (go_at_call 42; refine (cmpS_any _ _ _).mono ?_; rintro e w' ⟨rfl, rfl⟩)
      | (go_at_call 41; refine (or_any _ 2 [L.ord a c, L.ord b d] ((W.alloc (.cells #[.int .i64 (L.ord a c), .int .i64 (L.ord b d)] 3)).drew) (HOR.o) (by decide)).mono ?_; rintro e w' ⟨rfl, rfl⟩; rw [HC.o]))
  all_goals go_wp2
  all_goals go_ret
  all_goals exact ⟨rfl, (HBW.o.alloc HBW.o.size _).drew⟩
theorem L.cmps_end (l : List Lb) : L.cmps [] l = if 0 < l.length then -1 else 0 := by
  cases l with
  | nil => rfl
  | cons x r => rw [L.cmps, if_pos (by simp)]
set_option maxHeartbeats 1000000 in
theorem cmpf_any (va vb : Value) (n m : Nat) (xs ys : List Lb) (w : World) (hx : IsL 2 w va n (cellsL xs)) (hy : IsL 2 w vb m (cellsL ys)) (hn : n ≤ 1125899906842624) (hm : m ≤ 1125899906842624) :
    Calls Try.prog 39 #[va, vb, .func (.func 40) #[] #[]] w fun e w' => e = .returned (.int .i64 (L.cmps xs ys)) ∧ Below w.heap.size w w' := by
  have lx := IsLb.len hx
  have ly := IsLb.len hy
  obtain ⟨A, ca, rfl⟩ := hx.shape
  obtain ⟨B, cb, rfl⟩ := hy.shape
  have HX := hd lx
  have HY := hd ly
  have H1 := hd hx
  have H2 := hd hy
  clear lx ly hx hy
  go_enter Try.func39, Try.ntmps39
  go_wp2
  go_loopw [13] (fun x wr => ∃ k : Nat, k ≤ n ∧ x = .int .i64 k ∧ Hd (L.cmps (xs.drop k) (ys.drop k) = L.cmps xs ys) ∧ Hd (Below w.heap.size w wr)) (fun x _ => n - (intOf x).toNat)
  case atStart => exact ⟨0, Nat.zero_le _, rfl, hd rfl, hd (Below.refl _ _)⟩
  case round =>
    obtain ⟨k, hk, rfl, hG, HB⟩ := hrel
    by_cases hlt : k < n
    · have hkx : k < xs.length := by rw [HX.o]; exact hlt
      obtain ⟨b1, o1, rfl, hl1, c1, c2⟩ := IsLb.at_ H1.o k hkx
      have d1 := (HB.o.cell (p := ⟨b1, o1 + k * 2, none⟩) hl1).trans c1
      have d2 := (HB.o.cell (p := ⟨b1, o1 + k * 2 + 1, none⟩) hl1).trans c2
      have HDX := hd (List.drop_eq_getElem_cons hkx)
      have hzr := HB.o.size
      clear c1 c2
      generalize xs[k]'hkx = x at *
      by_cases hkm : k < m
      · have hky : k < ys.length := by rw [HY.o]; exact hkm
        obtain ⟨b2, o2, rfl, hl2, c1, c2⟩ := IsLb.at_ H2.o k hky
        have HB1 := hd (HB.o.alloc hzr (.cells #[.string x.1, .string x.2] 26))
        have d3 := (HB1.o.cell (p := ⟨b2, o2 + k * 2, none⟩) hl2).trans c1
        have d4 := (HB1.o.cell (p := ⟨b2, o2 + k * 2 + 1, none⟩) hl2).trans c2
        have HDY := hd (List.drop_eq_getElem_cons hky)
        clear c1 c2
        generalize ys[k]'hky = y at *
        have hb := L.cmp_bd x y
        have HB2 := hd (HB1.o.alloc HB1.o.size (.cells #[.string y.1, .string y.2] 26))
        by_cases hc : L.cmp x y = 0
        · have G : Hd (L.cmps (xs.drop (k + 1)) (ys.drop (k + 1)) = L.cmps xs ys) := hd <| by rw [← hG.o, HDX.o, HDY.o, L.cmps, if_neg (by simp [hc])]
          have he : (L.cmp x y != 0) = false := by rw [hc]; rfl
          clear hc
          go_wp2_with (go_at_call 40; refine (cmp1_any x y _).mono ?_; rintro e w4 ⟨rfl, hb4⟩; have HB4 := hd (bel HB2.o hb4); clear hb4)
          go_roundw
          case rel => exact ⟨k + 1, by omega, by go_num, G, HB4⟩
          case measure => simp [intOf]; omega
        · have G : Hd (L.cmps xs ys = L.cmp x y) := hd <| by rw [← hG.o, HDX.o, HDY.o, L.cmps, if_pos hc]
          have he : (L.cmp x y != 0) = true := by rw [bne_iff_ne]; exact hc
          clear hc
          go_wp2_with (go_at_call 40; refine (cmp1_any x y _).mono ?_; rintro e w4 ⟨rfl, hb4⟩; have HB4 := hd (bel HB2.o hb4); clear hb4)
          go_ret
          exact ⟨ret_int G.o.symm, HB4.o⟩
      · have G : Hd (L.cmps xs ys = 1) := hd <| by rw [← hG.o, HDX.o, List.drop_eq_nil_of_le (show ys.length ≤ k by rw [HY.o]; omega)]; rfl
        go_wp2
        go_ret
        exact ⟨ret_int G.o.symm, HB.o.alloc hzr _⟩
    · have hkn : k = n := by omega
      have G : Hd (L.cmps xs ys = if n < m then -1 else 0) := hd <| by
        rw [← hG.o, List.drop_eq_nil_of_le (show xs.length ≤ k by rw [HX.o]; omega), L.cmps_end, List.length_drop, HY.o, hkn]
        by_cases h : n < m
        · rw [if_pos (by omega), if_pos h]
        · rw [if_neg (by omega), if_neg h]
      by_cases hnm : n < m
      · go_wp2
        go_ret
        exact ⟨ret_int (by rw [G.o, if_pos hnm]), HB.o⟩
      · go_wp2
        go_ret
        exact ⟨ret_int (by rw [G.o, if_neg hnm]), HB.o⟩
theorem compare_any (va vb : Value) (n m : Nat) (xs ys : List Lb) (w : World) (hx : IsL 2 w va n (cellsL xs)) (hy : IsL 2 w vb m (cellsL ys)) (hn : n ≤ 1125899906842624) (hm : m ≤ 1125899906842624) :
    Calls Try.prog 19 #[va, vb] w fun e w' => e = .returned (.int .i64 (L.cmps xs ys)) ∧ Below w.heap.size w w' := by
  have H1 := hd hx
  have H2 := hd hy
  clear hx hy
  go_enter Try.func19, Try.ntmps19
  go_wp2_with (go_at_call 39; refine (cmpf_any va vb n m xs ys _ H1.o H2.o hn hm).mono ?_; rintro e w4 ⟨rfl, hb4⟩)
  go_ret
  exact ⟨rfl, by assumption⟩
theorem quiet_add_same {P : Program} {f : FuncId} {args : Array Value} {w : World} {a n : Nat} {v : Value}
    (h : Calls P f args (w.drewN (a + n)) fun e w' => e = .returned v ∧ w' = w.drewN (a + n)) :
    Calls P f args (w.drewN (a + n)) fun e w'' => e = .returned v ∧ ∃ m, w'' = w.drewN (a + m) :=
  h.mono fun _ _ ⟨he, hm⟩ => ⟨he, n, hm⟩
set_option maxHeartbeats 1000000 in
theorem refCompare_any (va vb : Value) (n m : Nat) (xs ys : List Lb) (w : World) (hx : IsL 2 w va n (cellsL xs)) (hy : IsL 2 w vb m (cellsL ys)) (hn : n ≤ 1125899906842624) (hm : m ≤ 1125899906842624) :
    Calls Try.prog 20 #[va, vb] w fun e w' => e = .returned (.int .i64 (L.cmps xs ys)) ∧ Below w.heap.size w w' := by
  have lx := IsLb.len hx
  have ly := IsLb.len hy
  obtain ⟨A, ca, rfl⟩ := hx.shape
  obtain ⟨B, cb, rfl⟩ := hy.shape
  have HX := hd lx
  have HY := hd ly
  have H1 := hd hx
  have H2 := hd hy
  clear lx ly hx hy
  go_enter Try.func20, Try.ntmps20
  go_wp2
  go_loopw [5] (fun x wr => ∃ k q : Nat, k ≤ n ∧ k ≤ m ∧ x = .int .i64 k ∧ wr = w.drewN q ∧ Hd (L.cmps (xs.drop k) (ys.drop k) = L.cmps xs ys)) (fun x _ => n - (intOf x).toNat)
  case atStart => exact ⟨0, 0, Nat.zero_le _, Nat.zero_le _, rfl, rfl, hd rfl⟩
  case round =>
    obtain ⟨k, q, hk, hkm2, rfl, rfl, hG⟩ := hrel
    by_cases hlt : k < n
    · by_cases hkm : k < m
      · have hkx : k < xs.length := by rw [HX.o]; exact hlt
        have hky : k < ys.length := by rw [HY.o]; exact hkm
        obtain ⟨b1, o1, rfl, hl1, c1, c2⟩ := IsLb.at_ H1.o k hkx
        obtain ⟨b2, o2, rfl, hl2, c3, c4⟩ := IsLb.at_ H2.o k hky
        have HDX := hd (List.drop_eq_getElem_cons hkx)
        have HDY := hd (List.drop_eq_getElem_cons hky)
        generalize xs[k]'hkx = x at *
        generalize ys[k]'hky = y at *
        have hk0 : (0 : Int) ≤ (k : Int) := by omega
        have hk1 : (k : Int) < (n : Int) := by omega
        have hk2 : (k : Int) < (m : Int) := by omega
        have hb1 := L.ord_bd x.1 y.1
        have hb2 := L.ord_bd x.2 y.2
        by_cases h1 : L.ord x.1 y.1 = 0
        · have e1 : (L.ord x.1 y.1 == 0) = true := by rw [beq_iff_eq]; exact h1
          by_cases h2 : L.ord x.2 y.2 = 0
          · have G : Hd (L.cmps (xs.drop (k + 1)) (ys.drop (k + 1)) = L.cmps xs ys) := hd <| by rw [← hG.o, HDX.o, HDY.o, L.cmps, if_neg (by simp [L.cmp, h1, h2])]
            have e2 : (L.ord x.2 y.2 != 0) = false := by rw [h2]; rfl
            clear h1 h2
            go_wp2_with fail
            go_quiet ((go_at_call 43; exact quiet_add_same (order_any _ _ _)))
            go_wp2
            go_quiet ((go_at_call 43; exact quiet_add_same (order_any _ _ _)))
            go_wp2
            go_roundw
            case rel => exact ⟨k + 1, _, by omega, by omega, by go_num, rfl, G⟩
            case measure => simp [intOf]; omega
          · have G : Hd (L.cmps xs ys = L.ord x.2 y.2) := hd <| by rw [← hG.o, HDX.o, HDY.o, L.cmps, if_pos (by simp [L.cmp, h1, h2])]; simp [L.cmp, h1]
            have e2 : (L.ord x.2 y.2 != 0) = true := by rw [bne_iff_ne]; exact h2
            clear h1 h2
            go_wp2_with fail
            go_quiet ((go_at_call 43; exact quiet_add_same (order_any _ _ _)))
            go_wp2
            go_quiet ((go_at_call 43; exact quiet_add_same (order_any _ _ _)))
            go_wp2
            go_ret
            exact ⟨ret_int G.o.symm, bel_drew (Below.refl _ _) _⟩
        · have G : Hd (L.cmps xs ys = L.ord x.1 y.1) := hd <| by rw [← hG.o, HDX.o, HDY.o, L.cmps, if_pos (by simp [L.cmp, h1])]; simp [L.cmp, h1]
          have e1 : (L.ord x.1 y.1 == 0) = false := by rw [beq_eq_false_iff_ne]; exact h1
          have e2 : (L.ord x.1 y.1 != 0) = true := by rw [bne_iff_ne]; exact h1
          clear h1
          go_wp2_with fail
          go_quiet ((go_at_call 43; exact quiet_add_same (order_any _ _ _)))
          go_wp2
          go_ret
          exact ⟨ret_int G.o.symm, bel_drew (Below.refl _ _) _⟩
      · have G : Hd (L.cmps xs ys = 1) := hd <| by rw [← hG.o, List.drop_eq_getElem_cons (show k < xs.length by rw [HX.o]; exact hlt), List.drop_eq_nil_of_le (show ys.length ≤ k by rw [HY.o]; omega)]; rfl
        have hmn : m < n := by omega
        go_wp2
        go_ret
        exact ⟨ret_int G.o.symm, bel_drew (Below.refl _ _) _⟩
    · have hkn : k = n := by omega
      have G : Hd (L.cmps xs ys = if n < m then -1 else 0) := hd <| by
        rw [← hG.o, List.drop_eq_nil_of_le (show xs.length ≤ k by rw [HX.o]; omega), L.cmps_end, List.length_drop, HY.o, hkn]
        by_cases h : n < m
        · rw [if_pos (by omega), if_pos h]
        · rw [if_neg (by omega), if_neg h]
      by_cases hnm : n < m
      · go_wp2
        go_ret
        exact ⟨ret_int (by rw [G.o, if_pos hnm]), bel_drew (Below.refl _ _) _⟩
      · have hnm2 : ¬ m < n := by omega
        go_wp2
        go_ret
        exact ⟨ret_int (by rw [G.o, if_neg hnm]), bel_drew (Below.refl _ _) _⟩
end Go.Proofs.Ytifaepkeoffcfaa
