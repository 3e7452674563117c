/- render.Sets and its reference. render.Sets: its closure and its list. weirref29.set. render.Sets and weirref29.Sets. -/
import Derived.Test.YtcbggkdginfakaaDoorRPt
import Derived.Test.YtcbggkdginfakaaDoorLOp
import Derived.Deep.RegionHeld3
namespace Go.Proofs.YtcbggkdginfakaaDoor
open Go.RowKit
set_option linter.unusedVariables false
set_option linter.unusedSimpArgs false
/-- one label, one set -/
def R.lb (x : Lb) : List UInt8 := R.t x.1 ++ 58 :: R.t x.2
def R.st (l : List Lb) : List UInt8 := 123 :: R.jn (l.map R.lb) ++ [125]
theorem R.lb_len (x : Lb) (h1 : x.1.size ≤ 1048576) (h2 : x.2.size ≤ 1048576) : (R.lb x).length ≤ 12582917 := by
  have := R.t_len x.1
  have := R.t_len x.2
  unfold R.lb
  rw [List.length_append, List.length_cons]
  omega
theorem R.st_len (l : List Lb) (h : ∀ x ∈ l, x.1.size ≤ 1048576 ∧ x.2.size ≤ 1048576) : (R.st l).length ≤ l.length * 12582918 + 2 := by
  have := R.jn_len 12582917 l.length (l.map R.lb) (by intro x hx; obtain ⟨y, hy, rfl⟩ := List.mem_map.1 hx; exact R.lb_len y (h y hy).1 (h y hy).2)
  rw [List.take_of_length_le (by simp)] at this
  unfold R.st
  rw [List.length_append, List.length_cons, List.length_singleton]
  omega
set_option maxHeartbeats 2000000 in
theorem labels_any (l : List Lb) (va : Value) (n : Nat) (w0 w : World) (g : Nat) (bs : List UInt8)
    (hl : IsL 2 w0 va n (cellsL l)) (hg : w0.heap.size = g) (hO : Ou w0 w g bs) (hs : ∀ x ∈ l, x.1.size ≤ 1048576 ∧ x.2.size ≤ 1048576) (hn : bs.length ≤ 35184372088832) (hn2 : n ≤ 1048576) :
    Calls Tryd.prog 20 #[.pointer (some ⟨g, 0, none⟩), va] w fun e w' => e = .returned (.tuple #[]) ∧ Ou w0 w' g (bs ++ R.st l) := by
  have HN := hd (IsLb.len hl)
  obtain ⟨A, c, rfl⟩ := hl.shape
  have HL := hd hl
  have HS := hd hs
  have HO := hd hO
  obtain ⟨xs, hxs⟩ : ∃ xs, xs = l.map R.lb := ⟨_, rfl⟩
  have HX := hd hxs
  have HXL : Hd (xs.length = n) := hd (by rw [HX.o, List.length_map, HN.o])
  have HJ : Hd (∀ k, k ≤ n → (R.jn (xs.take k)).length ≤ 35184372088832) := hd fun k hk => by
    have := R.jn_len 12582917 k xs (by rw [HX.o]; intro x hx; obtain ⟨y, hy, rfl⟩ := List.mem_map.1 hx; exact R.lb_len y (HS.o y hy).1 (HS.o y hy).2)
    have := Nat.mul_le_mul (show k ≤ 1048576 by omega) (show 12582917 + 1 ≤ 33554432 by omega)
    omega
  have HST : Hd (R.st l = 123 :: R.jn xs ++ [125]) := hd (by rw [HX.o]; rfl)
  rw [HST.o]
  clear hl hs hO hxs
  go_enter Tryd.func20, Tryd.ntmps20
  go_wp2_with fail
  refine (put_any ⟨#[123]⟩ w0 _ g bs HO.o (by have : ByteArray.size ⟨#[123]⟩ = 1 := rfl; omega)).mono ?_
  rintro e w2 ⟨rfl, hO2⟩
  have HO2 : Hd (Ou w0 w2 g (bs ++ [123])) := hd hO2
  clear hO2 HO
  go_wp2
  go_loopw [10] (fun x w2 => ∃ (k : Nat) (cs : List UInt8), k ≤ n ∧ x = .int .i64 k ∧ Hd (cs = bs ++ 123 :: R.jn (xs.take k)) ∧ Hd (Ou w0 w2 g cs)) (fun x _ => n - (intOf x).toNat)
  case atStart => exact ⟨0, _, Nat.zero_le _, rfl, hd rfl, HO2⟩
  case round =>
    clear HO2
    obtain ⟨k, cs, hk, rfl, hcs, HO⟩ := hrel
    have hlen : cs.length ≤ 70368744177665 := by rw [hcs.o, List.length_append, List.length_cons]; have := HJ.o k hk; omega
    by_cases hlt : k < n
    · have hkx : k < l.length := by rw [HN.o]; exact hlt
      have hsx := HS.o _ (List.getElem_mem hkx)
      have HK : Hd (xs[k]'(by rw [HXL.o]; exact hlt) = R.lb (l[k]'hkx)) := hd (by simp [HX.o])
      have HJT := hd (R.jn_take xs k (by rw [HXL.o]; exact hlt))
      rw [HK.o] at HJT
      obtain ⟨b1, o1, rfl, hl1, c1, c2⟩ := IsLb.at_ HL.o k hkx
      have d1 := (HO.o.bel.cell (p := ⟨b1, o1 + k * 2, none⟩) (show b1 < g by omega)).trans c1
      have d2 := (HO.o.bel.cell (p := ⟨b1, o1 + k * 2 + 1, none⟩) (show b1 < g by omega)).trans c2
      clear c1 c2 HK
      generalize l[k]'hkx = x at *
      obtain ⟨x1, x2⟩ := x
      simp only at d1 d2 hsx
      obtain ⟨hb, hhb⟩ : ∃ hb, hb = wr.heap.size := ⟨_, rfl⟩
      have HO1 := hd (HO.o.below ((Below.refl wr.heap.size wr).alloc (Nat.le_refl _) (.cells #[.string x1, .string x2] 77)))
      have HX1 : Hd (Bx (wr.alloc (.cells #[.string x1, .string x2] 77)) g hb 77 [.string x1, .string x2]) := hd <| by
        refine ⟨?_, by have := HO.o.lt; omega, by decide⟩
        show (wr.heap.push (.cells #[.string x1, .string x2] 77))[hb]? = _
        rw [hhb]; simp
      have e0 := HX1.o.1.cell 0 (by simp)
      simp only [List.getElem_cons_zero] at e0
      have hr1 := R.t_len x1
      by_cases h0 : k = 0
      · have G : Hd (cs ++ R.t x1 ++ [58] ++ R.t x2 = bs ++ 123 :: R.jn (xs.take (k + 1))) := hd (by rw [HJT.o, if_pos h0, hcs.o, show R.jn (xs.take k) = [] from by rw [h0]; rfl]; simp [R.lb])
        have hk0 : ¬ 0 < k := by omega
        have HLB : Hd (cs.length ≤ 140737480000000) := hd (by omega)
        have HL2 : Hd ((cs ++ R.t x1).length ≤ 140737480000000) := hd (by rw [List.length_append]; omega)
        have HL3 : Hd ((cs ++ R.t x1 ++ [58]).length ≤ 140737480000000) := hd (by rw [List.length_append, List.length_append]; show cs.length + _ + 1 ≤ _; omega)
        clear HJT hcs h0
        go_wp2_with fail
        refine (text2_any hb 77 [.string x1, .string x2] x1 w0 _ g cs HO1.o HX1.o hsx.1 HLB.o).mono ?_
        rintro e w4 ⟨rfl, hO4, hX4⟩
        have HO4 := hd hO4
        have HX4 := hd hX4
        clear hO4 hX4
        go_wp2_with fail
        refine (put2_any hb 77 [.string x1, .string x2] ⟨#[58]⟩ w0 _ g (cs ++ R.t x1) HO4.o HX4.o (by have := HL2.o; have : ByteArray.size ⟨#[58]⟩ = 1 := rfl; omega)).mono ?_
        rintro e w5 ⟨rfl, hO5, hX5⟩
        have HO5 : Hd (Ou w0 w5 g (cs ++ R.t x1 ++ [58])) := hd hO5
        have HX5 := hd hX5
        have e1 := HX5.o.1.cell 1 (by simp)
        simp only [List.getElem_cons_succ, List.getElem_cons_zero] at e1
        rw [hhb] at e1
        clear hO5 hX5
        go_wp2_with fail
        refine (text2_any hb 77 [.string x1, .string x2] x2 w0 _ g (cs ++ R.t x1 ++ [58]) HO5.o HX5.o hsx.2 HL3.o).mono ?_
        rintro e w6 ⟨rfl, hO6, hX6⟩
        have HO6 := hd hO6
        clear hO6 hX6
        go_wp2
        go_roundw
        case rel => exact ⟨k + 1, _, by omega, by go_num, G, HO6⟩
        case measure => simp [intOf]; omega
      · have G : Hd (cs ++ [44] ++ R.t x1 ++ [58] ++ R.t x2 = bs ++ 123 :: R.jn (xs.take (k + 1))) := hd (by rw [HJT.o, if_neg h0, hcs.o]; simp [R.lb])
        have hk0 : 0 < k := by omega
        have hl4 : (cs ++ [44]).length = cs.length + 1 := by rw [List.length_append]; rfl
        have HLB : Hd ((cs ++ [44]).length ≤ 140737480000000) := hd (by omega)
        have HL2 : Hd ((cs ++ [44] ++ R.t x1).length ≤ 140737480000000) := hd (by rw [List.length_append, hl4]; omega)
        have HL3 : Hd ((cs ++ [44] ++ R.t x1 ++ [58]).length ≤ 140737480000000) := hd (by rw [List.length_append, List.length_append, hl4]; show cs.length + 1 + _ + 1 ≤ _; omega)
        clear HJT hcs h0 hl4
        go_wp2_with fail
        refine (put2_any hb 77 [.string x1, .string x2] ⟨#[44]⟩ w0 _ g cs HO1.o HX1.o (by have : ByteArray.size ⟨#[44]⟩ = 1 := rfl; omega)).mono ?_
        rintro e w3 ⟨rfl, hO3, hX3⟩
        have HO3 : Hd (Ou w0 w3 g (cs ++ [44])) := hd hO3
        have HX3 := hd hX3
        have e3 := HX3.o.1.cell 0 (by simp)
        simp only [List.getElem_cons_zero] at e3
        rw [hhb] at e3
        clear hO3 hX3
        go_wp2_with fail
        refine (text2_any hb 77 [.string x1, .string x2] x1 w0 _ g (cs ++ [44]) HO3.o HX3.o hsx.1 HLB.o).mono ?_
        rintro e w4 ⟨rfl, hO4, hX4⟩
        have HO4 := hd hO4
        have HX4 := hd hX4
        clear hO4 hX4
        go_wp2_with fail
        refine (put2_any hb 77 [.string x1, .string x2] ⟨#[58]⟩ w0 _ g ((cs ++ [44]) ++ R.t x1) HO4.o HX4.o (by have := HL2.o; have : ByteArray.size ⟨#[58]⟩ = 1 := rfl; omega)).mono ?_
        rintro e w5 ⟨rfl, hO5, hX5⟩
        have HO5 : Hd (Ou w0 w5 g ((cs ++ [44]) ++ R.t x1 ++ [58])) := hd hO5
        have HX5 := hd hX5
        have e1 := HX5.o.1.cell 1 (by simp)
        simp only [List.getElem_cons_succ, List.getElem_cons_zero] at e1
        rw [hhb] at e1
        clear hO5 hX5
        go_wp2_with fail
        refine (text2_any hb 77 [.string x1, .string x2] x2 w0 _ g ((cs ++ [44]) ++ R.t x1 ++ [58]) HO5.o HX5.o hsx.2 HL3.o).mono ?_
        rintro e w6 ⟨rfl, hO6, hX6⟩
        have HO6 := hd hO6
        clear hO6 hX6
        go_wp2
        go_roundw
        case rel => exact ⟨k + 1, _, by omega, by go_num, G, HO6⟩
        case measure => simp [intOf]; omega
    · have hkn : k = n := by omega
      subst hkn
      have HE : Hd (cs ++ [125] = bs ++ (123 :: R.jn xs ++ [125])) := hd (by rw [hcs.o, List.take_of_length_le (by rw [HXL.o]; exact Nat.le_refl _)]; simp)
      go_wp2_with (go_at_call 13; refine (put_any ⟨#[125]⟩ w0 _ g cs HO.o (by have : ByteArray.size ⟨#[125]⟩ = 1 := rfl; omega)).mono ?_; rintro e w2 ⟨rfl, hO2⟩; have HO2 : Hd (Ou w0 w2 g (bs ++ (123 :: R.jn xs ++ [125]))) := hd (by rw [← HE.o]; exact hO2); clear hO2)
      go_end0
      exact ⟨rfl, HO2.o⟩
end Go.Proofs.YtcbggkdginfakaaDoor
namespace Go.Proofs.YtcbggkdginfakaaDoor
open Go.RowKit
set_option linter.unusedVariables false
set_option linter.unusedSimpArgs false
theorem IsLbss.below {w w' : World} {v : Value} {l : List (List Lb)} (h : IsLbss w v l) (hb : Below w.heap.size w w') : IsLbss w' v l := by
  obtain ⟨A, c, rfl, h1, h2⟩ := h
  refine ⟨A, c, rfl, h1, fun i hi => ?_⟩
  obtain ⟨b, off, x, e, c0, c1, c2⟩ := h2 i hi
  exact ⟨b, off, x, e, (hb.cell (p := ⟨b, off + i, none⟩) (World.block_lt_of_cell? w _ c0)).trans c0, c1.below hb, c2⟩
theorem IsLbss.at_ {w : World} {A : Option Addr} {n c : Nat} {l : List (List Lb)} (h : IsLbss w (.slice A n c) l) (i : Nat) (hi : i < l.length) :
    ∃ b off A1 c1, A = some ⟨b, off, none⟩ ∧ b < w.heap.size ∧ w.cell? ⟨b, off + i, none⟩ = some (.slice A1 (l[i]'hi).length c1) ∧ IsL 2 w (.slice A1 (l[i]'hi).length c1) (l[i]'hi).length (cellsL (l[i]'hi)) := by
  obtain ⟨A', c', e, h1, h2⟩ := h
  simp only [Value.slice.injEq] at e
  obtain ⟨rfl, _, _⟩ := e
  obtain ⟨b, off, x, e, c0, c1, c2⟩ := h2 i hi
  obtain ⟨A1, c1', rfl⟩ := c1.shape
  exact ⟨b, off, A1, c1', e, World.block_lt_of_cell? w _ c0, c0, c1⟩
theorem IsLbss.len {w : World} {A : Option Addr} {n c : Nat} {l : List (List Lb)} (h : IsLbss w (.slice A n c) l) : l.length = n := by
  obtain ⟨A', c', e, h1, h2⟩ := h
  simp only [Value.slice.injEq] at e
  exact e.2.1.symm
def R.tot : List (List Lb) → Nat
  | [] => 0
  | x :: r => x.length + R.tot r
theorem R.tot_mem : ∀ (l : List (List Lb)) (x : List Lb), x ∈ l → x.length ≤ R.tot l
  | y :: l, x, h => by
    rw [R.tot]
    rcases List.mem_cons.1 h with rfl | h
    · omega
    · have := R.tot_mem l x h; omega
theorem R.tot_app : ∀ a b, R.tot (a ++ b) = R.tot a + R.tot b
  | [], b => by simp [R.tot]
  | x :: a, b => by rw [List.cons_append, R.tot, R.tot, R.tot_app a b]; omega
theorem R.tot_take (l : List (List Lb)) (k : Nat) (h : k < l.length) : R.tot (l.take (k + 1)) = R.tot (l.take k) + (l[k]'h).length := by
  rw [List.take_succ_eq_append_getElem h, R.tot_app]; rfl
theorem R.tot_take_le (l : List (List Lb)) (k : Nat) : R.tot (l.take k) ≤ R.tot l := by
  have := R.tot_app (l.take k) (l.drop k)
  rw [List.take_append_drop] at this
  omega
/-- all texts are small -/
def Sm (l : List (List Lb)) : Prop := ∀ x ∈ l, ∀ y ∈ x, y.1.size ≤ 1048576 ∧ y.2.size ≤ 1048576
theorem R.cm_st : ∀ l : List (List Lb), Sm l → (R.cm (l.map R.st)).length ≤ R.tot l * 12582918 + 3 * l.length
  | [], _ => by simp [R.cm, R.tot]
  | x :: l, h => by
    have h1 := R.cm_st l (fun y hy => h y (List.mem_cons_of_mem _ hy))
    have h2 := R.st_len x (h x (List.mem_cons_self ..))
    unfold R.cm at *
    rw [List.map_cons, List.flatMap_cons, List.length_append, List.length_cons, List.length_cons, R.tot, Nat.add_mul]
    omega
theorem R.jn_st (l : List (List Lb)) (h : Sm l) (hn : l.length ≤ 1048576) (ht : R.tot l ≤ 1048576) (k : Nat) : (R.jn ((l.map R.st).take k)).length ≤ 13194149000000 := by
  have h1 := R.cm_st (l.take k) (fun x hx => h x (List.mem_of_mem_take hx))
  have h2 := R.tot_take_le l k
  have h3 : (l.take k).length ≤ l.length := by rw [List.length_take]; omega
  rw [← List.map_take]
  unfold R.jn
  rw [List.length_drop]
  omega
end Go.Proofs.YtcbggkdginfakaaDoor
namespace Go.Proofs.YtcbggkdginfakaaDoor
open Go.RowKit
set_option linter.unusedVariables false
set_option linter.unusedSimpArgs false
theorem ret_bt {a : ByteArray} {b : List UInt8} (h : a.data.toList = b) : Ending.returned (.string a) = Ending.returned (.string ⟨b.toArray⟩) := by rw [← h]
theorem keep2 {w W w4 : World} {g : Nat} {u v : Value} (hb : Below W.heap.size W w4) (h : W.cell? ⟨g, 0, none⟩ = some u ∧ W.cell? ⟨g, 1, none⟩ = some v ∧ g < W.heap.size ∧ Below w.heap.size w W) :
    w4.cell? ⟨g, 0, none⟩ = some u ∧ w4.cell? ⟨g, 1, none⟩ = some v ∧ g < w4.heap.size ∧ Below w.heap.size w w4 :=
  ⟨(hb.cell (p := ⟨g, 0, none⟩) h.2.2.1).trans h.1, (hb.cell (p := ⟨g, 1, none⟩) h.2.2.1).trans h.2.1, Nat.lt_of_lt_of_le h.2.2.1 hb.size, bel h.2.2.2 hb⟩
end Go.Proofs.YtcbggkdginfakaaDoor
namespace Go.Proofs.YtcbggkdginfakaaDoor
open Go.RowKit
set_option linter.unusedVariables false
set_option linter.unusedSimpArgs false
theorem R.lst_st (l : List (List Lb)) (h : Sm l) (hn : l.length ≤ 1048576) (ht : R.tot l ≤ 1048576) : (R.lst (l.map R.st)).length ≤ 13194149000002 := by
  have := R.jn_st l h hn ht (l.map R.st).length
  rw [List.take_of_length_le (Nat.le_refl _)] at this
  unfold R.lst
  rw [List.length_append, List.length_cons, List.length_singleton]
  omega
theorem R.sz_cm : ∀ l : List (List Lb), Sm l → R.sz (l.map (R.bt ∘ R.st)) ≤ R.tot l * 12582918 + 3 * l.length
  | [], _ => by simp [R.sz, R.tot]
  | x :: l, h => by
    have h1 := R.sz_cm l (fun y hy => h y (List.mem_cons_of_mem _ hy))
    have h2 := R.st_len x (h x (List.mem_cons_self ..))
    have h3 : ((R.bt ∘ R.st) x).size = (R.st x).length := rfl
    rw [List.map_cons, R.sz, h3, List.length_cons, R.tot, Nat.add_mul]
    omega
theorem R.sz_st (l : List (List Lb)) (h : Sm l) (hn : l.length ≤ 1048576) (ht : R.tot l ≤ 1048576) (k : Nat) : R.sz ((l.map (R.bt ∘ R.st)).take k) ≤ 35184405643264 := by
  have h1 := R.sz_cm (l.take k) (fun x hx => h x (List.mem_of_mem_take hx))
  have h2 := R.tot_take_le l k
  have h3 : (l.take k).length ≤ l.length := by rw [List.length_take]; omega
  rw [← List.map_take]
  omega
end Go.Proofs.YtcbggkdginfakaaDoor
