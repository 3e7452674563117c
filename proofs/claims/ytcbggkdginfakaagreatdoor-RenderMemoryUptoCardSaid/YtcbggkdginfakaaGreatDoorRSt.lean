/- render.Sets and its reference. render.Sets: its closure and its list. weirref29.set. render.Sets and weirref29.Sets. -/
import Derived.Test.YtcbggkdginfakaaGreatDoorRPt
import Derived.Test.YtcbggkdginfakaaGreatDoorLOp
import Derived.Deep.RegionHeld3
namespace Go.Proofs.YtcbggkdginfakaaGreatDoor
open Go.RowKit
set_option linter.unusedVariables false
set_option linter.unusedSimpArgs false
/-- one label, one set -/
def R.lb (x : Lb) : List UInt8 := R.t x.1 ++ 58 :: R.t x.2
def R.st (l : List Lb) : List UInt8 := 123 :: R.jn (l.map R.lb) ++ [125]
theorem R.lb_len (x : Lb) (h1 : x.1.size ≤ 1048576) (h2 : x.2.size ≤ 1048576) : (R.lb x).length ≤ 12582917 := by
  have := R.t_len x.1
  have := R.t_len x.2
  unfold R.lb
  rw [List.length_append, List.length_cons]
  omega
theorem R.st_len (l : List Lb) (h : ∀ x ∈ l, x.1.size ≤ 1048576 ∧ x.2.size ≤ 1048576) : (R.st l).length ≤ l.length * 12582918 + 2 := by
  have := R.jn_len 12582917 l.length (l.map R.lb) (by intro x hx; obtain ⟨y, hy, rfl⟩ := List.mem_map.1 hx; exact R.lb_len y (h y hy).1 (h y hy).2)
  rw [List.take_of_length_le (by simp)] at this
  unfold R.st
  rw [List.length_append, List.length_cons, List.length_singleton]
  omega
set_option maxHeartbeats 2000000 in
theorem labels_any (l : List Lb) (va : Value) (n : Nat) (w0 w : World) (g : Nat) (bs : List UInt8)
    (hl : IsL 2 w0 va n (cellsL l)) (hg : w0.heap.size = g) (hO : Ou w0 w g bs) (hs : ∀ x ∈ l, x.1.size ≤ 1048576 ∧ x.2.size ≤ 1048576) (hn : bs.length ≤ 35184372088832) (hn2 : n ≤ 1048576) :
    Calls Tryz.prog 44 #[.pointer (some ⟨g, 0, none⟩), va] w fun e w' => e = .returned (.tuple #[]) ∧ Ou w0 w' g (bs ++ R.st l) := by
  have HN := hd (IsLb.len hl)
  obtain ⟨A, c, rfl⟩ := hl.shape
  have HL := hd hl
  have HS := hd hs
  have HO := hd hO
  obtain ⟨xs, hxs⟩ : ∃ xs, xs = l.map R.lb := ⟨_, rfl⟩
  have HX := hd hxs
  have HXL : Hd (xs.length = n) := hd (by rw [HX.o, List.length_map, HN.o])
  have HJ : Hd (∀ k, k ≤ n → (R.jn (xs.take k)).length ≤ 35184372088832) := hd fun k hk => by
    have := R.jn_len 12582917 k xs (by rw [HX.o]; intro x hx; obtain ⟨y, hy, rfl⟩ := List.mem_map.1 hx; exact R.lb_len y (HS.o y hy).1 (HS.o y hy).2)
    have := Nat.mul_le_mul (show k ≤ 1048576 by omega) (show 12582917 + 1 ≤ 33554432 by omega)
    omega
  have HST : Hd (R.st l = 123 :: R.jn xs ++ [125]) := hd (by rw [HX.o]; rfl)
  rw [HST.o]
  clear hl hs hO hxs
  go_enter Tryz.func44, Tryz.ntmps44
  go_wp2_with fail
  refine (put_any ⟨#[123]⟩ w0 _ g bs HO.o (by have : ByteArray.size ⟨#[123]⟩ = 1 := rfl; omega)).mono ?_
  rintro e w2 ⟨rfl, hO2⟩
  have HO2 : Hd (Ou w0 w2 g (bs ++ [123])) := hd hO2
  clear hO2 HO
  go_wp2
  go_loopw [10] (fun x w2 => ∃ (k : Nat) (cs : List UInt8), k ≤ n ∧ x = .int .i64 k ∧ Hd (cs = bs ++ 123 :: R.jn (xs.take k)) ∧ Hd (Ou w0 w2 g cs)) (fun x _ => n - (intOf x).toNat)
  case atStart => exact ⟨0, _, Nat.zero_le _, rfl, hd rfl, HO2⟩
  case round =>
    clear HO2
    obtain ⟨k, cs, hk, rfl, hcs, HO⟩ := hrel
    have hlen : cs.length ≤ 70368744177665 := by rw [hcs.o, List.length_append, List.length_cons]; have := HJ.o k hk; omega
    by_cases hlt : k < n
    · have hkx : k < l.length := by rw [HN.o]; exact hlt
      have hsx := HS.o _ (List.getElem_mem hkx)
      have HK : Hd (xs[k]'(by rw [HXL.o]; exact hlt) = R.lb (l[k]'hkx)) := hd (by simp [HX.o])
      have HJT := hd (R.jn_take xs k (by rw [HXL.o]; exact hlt))
      rw [HK.o] at HJT
      obtain ⟨b1, o1, rfl, hl1, c1, c2⟩ := IsLb.at_ HL.o k hkx
      have d1 := (HO.o.bel.cell (p := ⟨b1, o1 + k * 2, none⟩) (show b1 < g by omega)).trans c1
      have d2 := (HO.o.bel.cell (p := ⟨b1, o1 + k * 2 + 1, none⟩) (show b1 < g by omega)).trans c2
      clear c1 c2 HK
      generalize l[k]'hkx = x at *
      obtain ⟨x1, x2⟩ := x
      simp only at d1 d2 hsx
      obtain ⟨hb, hhb⟩ : ∃ hb, hb = wr.heap.size := ⟨_, rfl⟩
      have HO1 := hd (HO.o.below ((Below.refl wr.heap.size wr).alloc (Nat.le_refl _) (.cells #[.string x1, .string x2] 122)))
      have HX1 : Hd (Bx (wr.alloc (.cells #[.string x1, .string x2] 122)) g hb 122 [.string x1, .string x2]) := hd <| by
        refine ⟨?_, by have := HO.o.lt; omega, by decide⟩
        show (wr.heap.push (.cells #[.string x1, .string x2] 122))[hb]? = _
        rw [hhb]; simp
      have e0 := HX1.o.1.cell 0 (by simp)
      simp only [List.getElem_cons_zero] at e0
      have hr1 := R.t_len x1
      by_cases h0 : k = 0
      · have G : Hd (cs ++ R.t x1 ++ [58] ++ R.t x2 = bs ++ 123 :: R.jn (xs.take (k + 1))) := hd (by rw [HJT.o, if_pos h0, hcs.o, show R.jn (xs.take k) = [] from by rw [h0]; rfl]; simp [R.lb])
        have hk0 : ¬ 0 < k := by omega
        have HLB : Hd (cs.length ≤ 140737480000000) := hd (by omega)
        have HL2 : Hd ((cs ++ R.t x1).length ≤ 140737480000000) := hd (by rw [List.length_append]; omega)
        have HL3 : Hd ((cs ++ R.t x1 ++ [58]).length ≤ 140737480000000) := hd (by rw [List.length_append, List.length_append]; show cs.length + _ + 1 ≤ _; omega)
        clear HJT hcs h0
        go_wp2_with fail
        refine (text2_any hb 122 [.string x1, .string x2] x1 w0 _ g cs HO1.o HX1.o hsx.1 HLB.o).mono ?_
        rintro e w4 ⟨rfl, hO4, hX4⟩
        have HO4 := hd hO4
        have HX4 := hd hX4
        clear hO4 hX4
        go_wp2_with fail
        refine (put2_any hb 122 [.string x1, .string x2] ⟨#[58]⟩ w0 _ g (cs ++ R.t x1) HO4.o HX4.o (by have := HL2.o; have : ByteArray.size ⟨#[58]⟩ = 1 := rfl; omega)).mono ?_
        rintro e w5 ⟨rfl, hO5, hX5⟩
        have HO5 : Hd (Ou w0 w5 g (cs ++ R.t x1 ++ [58])) := hd hO5
        have HX5 := hd hX5
        have e1 := HX5.o.1.cell 1 (by simp)
        simp only [List.getElem_cons_succ, List.getElem_cons_zero] at e1
        rw [hhb] at e1
        clear hO5 hX5
        go_wp2_with fail
        refine (text2_any hb 122 [.string x1, .string x2] x2 w0 _ g (cs ++ R.t x1 ++ [58]) HO5.o HX5.o hsx.2 HL3.o).mono ?_
        rintro e w6 ⟨rfl, hO6, hX6⟩
        have HO6 := hd hO6
        clear hO6 hX6
        go_wp2
        go_roundw
        case rel => exact ⟨k + 1, _, by omega, by go_num, G, HO6⟩
        case measure => simp [intOf]; omega
      · have G : Hd (cs ++ [44] ++ R.t x1 ++ [58] ++ R.t x2 = bs ++ 123 :: R.jn (xs.take (k + 1))) := hd (by rw [HJT.o, if_neg h0, hcs.o]; simp [R.lb])
        have hk0 : 0 < k := by omega
        have hl4 : (cs ++ [44]).length = cs.length + 1 := by rw [List.length_append]; rfl
        have HLB : Hd ((cs ++ [44]).length ≤ 140737480000000) := hd (by omega)
        have HL2 : Hd ((cs ++ [44] ++ R.t x1).length ≤ 140737480000000) := hd (by rw [List.length_append, hl4]; omega)
        have HL3 : Hd ((cs ++ [44] ++ R.t x1 ++ [58]).length ≤ 140737480000000) := hd (by rw [List.length_append, List.length_append, hl4]; show cs.length + 1 + _ + 1 ≤ _; omega)
        clear HJT hcs h0 hl4
        go_wp2_with fail
        refine (put2_any hb 122 [.string x1, .string x2] ⟨#[44]⟩ w0 _ g cs HO1.o HX1.o (by have : ByteArray.size ⟨#[44]⟩ = 1 := rfl; omega)).mono ?_
        rintro e w3 ⟨rfl, hO3, hX3⟩
        have HO3 : Hd (Ou w0 w3 g (cs ++ [44])) := hd hO3
        have HX3 := hd hX3
        have e3 := HX3.o.1.cell 0 (by simp)
        simp only [List.getElem_cons_zero] at e3
        rw [hhb] at e3
        clear hO3 hX3
        go_wp2_with fail
        refine (text2_any hb 122 [.string x1, .string x2] x1 w0 _ g (cs ++ [44]) HO3.o HX3.o hsx.1 HLB.o).mono ?_
        rintro e w4 ⟨rfl, hO4, hX4⟩
        have HO4 := hd hO4
        have HX4 := hd hX4
        clear hO4 hX4
        go_wp2_with fail
        refine (put2_any hb 122 [.string x1, .string x2] ⟨#[58]⟩ w0 _ g ((cs ++ [44]) ++ R.t x1) HO4.o HX4.o (by have := HL2.o; have : ByteArray.size ⟨#[58]⟩ = 1 := rfl; omega)).mono ?_
        rintro e w5 ⟨rfl, hO5, hX5⟩
        have HO5 : Hd (Ou w0 w5 g ((cs ++ [44]) ++ R.t x1 ++ [58])) := hd hO5
        have HX5 := hd hX5
        have e1 := HX5.o.1.cell 1 (by simp)
        simp only [List.getElem_cons_succ, List.getElem_cons_zero] at e1
        rw [hhb] at e1
        clear hO5 hX5
        go_wp2_with fail
        refine (text2_any hb 122 [.string x1, .string x2] x2 w0 _ g ((cs ++ [44]) ++ R.t x1 ++ [58]) HO5.o HX5.o hsx.2 HL3.o).mono ?_
        rintro e w6 ⟨rfl, hO6, hX6⟩
        have HO6 := hd hO6
        clear hO6 hX6
        go_wp2
        go_roundw
        case rel => exact ⟨k + 1, _, by omega, by go_num, G, HO6⟩
        case measure => simp [intOf]; omega
    · have hkn : k = n := by omega
      subst hkn
      have HE : Hd (cs ++ [125] = bs ++ (123 :: R.jn xs ++ [125])) := hd (by rw [hcs.o, List.take_of_length_le (by rw [HXL.o]; exact Nat.le_refl _)]; simp)
      go_wp2_with (go_at_call 37; refine (put_any ⟨#[125]⟩ w0 _ g cs HO.o (by have : ByteArray.size ⟨#[125]⟩ = 1 := rfl; omega)).mono ?_; rintro e w2 ⟨rfl, hO2⟩; have HO2 : Hd (Ou w0 w2 g (bs ++ (123 :: R.jn xs ++ [125]))) := hd (by rw [← HE.o]; exact hO2); clear hO2)
      go_end0
      exact ⟨rfl, HO2.o⟩
end Go.Proofs.YtcbggkdginfakaaGreatDoor
namespace Go.Proofs.YtcbggkdginfakaaGreatDoor
open Go.RowKit
set_option linter.unusedVariables false
set_option linter.unusedSimpArgs false
theorem IsLbss.below {w w' : World} {v : Value} {l : List (List Lb)} (h : IsLbss w v l) (hb : Below w.heap.size w w') : IsLbss w' v l := by
  obtain ⟨A, c, rfl, h1, h2⟩ := h
  refine ⟨A, c, rfl, h1, fun i hi => ?_⟩
  obtain ⟨b, off, x, e, c0, c1, c2⟩ := h2 i hi
  exact ⟨b, off, x, e, (hb.cell (p := ⟨b, off + i, none⟩) (World.block_lt_of_cell? w _ c0)).trans c0, c1.below hb, c2⟩
theorem IsLbss.at_ {w : World} {A : Option Addr} {n c : Nat} {l : List (List Lb)} (h : IsLbss w (.slice A n c) l) (i : Nat) (hi : i < l.length) :
    ∃ b off A1 c1, A = some ⟨b, off, none⟩ ∧ b < w.heap.size ∧ w.cell? ⟨b, off + i, none⟩ = some (.slice A1 (l[i]'hi).length c1) ∧ IsL 2 w (.slice A1 (l[i]'hi).length c1) (l[i]'hi).length (cellsL (l[i]'hi)) := by
  obtain ⟨A', c', e, h1, h2⟩ := h
  simp only [Value.slice.injEq] at e
  obtain ⟨rfl, _, _⟩ := e
  obtain ⟨b, off, x, e, c0, c1, c2⟩ := h2 i hi
  obtain ⟨A1, c1', rfl⟩ := c1.shape
  exact ⟨b, off, A1, c1', e, World.block_lt_of_cell? w _ c0, c0, c1⟩
theorem IsLbss.len {w : World} {A : Option Addr} {n c : Nat} {l : List (List Lb)} (h : IsLbss w (.slice A n c) l) : l.length = n := by
  obtain ⟨A', c', e, h1, h2⟩ := h
  simp only [Value.slice.injEq] at e
  exact e.2.1.symm
def R.tot : List (List Lb) → Nat
  | [] => 0
  | x :: r => x.length + R.tot r
theorem R.tot_mem : ∀ (l : List (List Lb)) (x : List Lb), x ∈ l → x.length ≤ R.tot l
  | y :: l, x, h => by
    rw [R.tot]
    rcases List.mem_cons.1 h with rfl | h
    · omega
    · have := R.tot_mem l x h; omega
theorem R.tot_app : ∀ a b, R.tot (a ++ b) = R.tot a + R.tot b
  | [], b => by simp [R.tot]
  | x :: a, b => by rw [List.cons_append, R.tot, R.tot, R.tot_app a b]; omega
theorem R.tot_take (l : List (List Lb)) (k : Nat) (h : k < l.length) : R.tot (l.take (k + 1)) = R.tot (l.take k) + (l[k]'h).length := by
  rw [List.take_succ_eq_append_getElem h, R.tot_app]; rfl
theorem R.tot_take_le (l : List (List Lb)) (k : Nat) : R.tot (l.take k) ≤ R.tot l := by
  have := R.tot_app (l.take k) (l.drop k)
  rw [List.take_append_drop] at this
  omega
/-- all texts are small -/
def Sm (l : List (List Lb)) : Prop := ∀ x ∈ l, ∀ y ∈ x, y.1.size ≤ 1048576 ∧ y.2.size ≤ 1048576
theorem R.cm_st : ∀ l : List (List Lb), Sm l → (R.cm (l.map R.st)).length ≤ R.tot l * 12582918 + 3 * l.length
  | [], _ => by simp [R.cm, R.tot]
  | x :: l, h => by
    have h1 := R.cm_st l (fun y hy => h y (List.mem_cons_of_mem _ hy))
    have h2 := R.st_len x (h x (List.mem_cons_self ..))
    unfold R.cm at *
    rw [List.map_cons, List.flatMap_cons, List.length_append, List.length_cons, List.length_cons, R.tot, Nat.add_mul]
    omega
theorem R.jn_st (l : List (List Lb)) (h : Sm l) (hn : l.length ≤ 1048576) (ht : R.tot l ≤ 1048576) (k : Nat) : (R.jn ((l.map R.st).take k)).length ≤ 13194149000000 := by
  have h1 := R.cm_st (l.take k) (fun x hx => h x (List.mem_of_mem_take hx))
  have h2 := R.tot_take_le l k
  have h3 : (l.take k).length ≤ l.length := by rw [List.length_take]; omega
  rw [← List.map_take]
  unfold R.jn
  rw [List.length_drop]
  omega
theorem st1_any (l : List (List Lb)) (A : Option Addr) (n c : Nat) (w0 w : World) (g b : Nat) (bs : List UInt8) (i : Nat) (hi : i < l.length)
    (hb : w0.cell? ⟨b, 0, none⟩ = some (.slice A n c)) (hl : IsLbss w0 (.slice A n c) l) (hg : w0.heap.size = g) (hO : Ou w0 w g bs) (hs : Sm l) (ht : R.tot l ≤ 1048576) (hn : bs.length ≤ 35184372088832) :
    Calls Tryz.prog 58 #[.int .i64 i, .pointer (some ⟨g, 0, none⟩), .pointer (some ⟨b, 0, none⟩)] w fun e w' => e = .returned (.tuple #[]) ∧ Ou w0 w' g (bs ++ R.st (l[i]'hi)) := by
  have hin : i < n := by rw [← hl.len]; exact hi
  have hbl : b < w0.heap.size := World.block_lt_of_cell? w0 _ hb
  have d1 := (hO.bel.cell (p := ⟨b, 0, none⟩) (show b < g by omega)).trans hb
  obtain ⟨b2, off, A1, c1, rfl, hb2, c0, hx⟩ := hl.at_ i hi
  have d0 := (hO.bel.cell (p := ⟨b2, off + i, none⟩) (show b2 < g by omega)).trans c0
  have HO := hd hO
  have HX := hd hx
  have HS := hd (hs (l[i]'hi) (List.getElem_mem hi))
  have hln := R.tot_mem l (l[i]'hi) (List.getElem_mem hi)
  clear hb hl hO c0 hx hs
  generalize l[i]'hi = s at *
  go_enter Tryz.func58, Tryz.ntmps58
  go_wp2_with (go_at_call 44; refine (labels_any s _ s.length w0 _ g bs HX.o hg HO.o HS.o hn (by omega)).mono ?_; rintro e w2 ⟨rfl, hO2⟩; have HO2 := hd hO2; clear hO2)
  go_end0
  exact ⟨rfl, HO2.o⟩
set_option maxHeartbeats 1000000 in
theorem stlist_any (l : List (List Lb)) (A : Option Addr) (n c : Nat) (w0 w : World) (g b : Nat) (bs : List UInt8)
    (hb : w0.cell? ⟨b, 0, none⟩ = some (.slice A n c)) (hl : IsLbss w0 (.slice A n c) l) (hg : w0.heap.size = g) (hO : Ou w0 w g bs) (hs : Sm l) (ht : R.tot l ≤ 1048576) (hn : bs.length ≤ 1000) (hn2 : n ≤ 1048576) :
    Calls Tryz.prog 42 #[.pointer (some ⟨g, 0, none⟩), .int .i64 n, .func (.func 58) #[] #[.pointer (some ⟨g, 0, none⟩), .pointer (some ⟨b, 0, none⟩)]] w fun e w' => e = .returned (.tuple #[]) ∧ Ou w0 w' g (bs ++ R.lst (l.map R.st)) := by
  have HN := hd hl.len
  have HL := hd hl
  have HB := hd hb
  have HS := hd hs
  have HO := hd hO
  obtain ⟨xs, hxs⟩ : ∃ xs, xs = l.map R.st := ⟨_, rfl⟩
  have HX := hd hxs
  have HXL : Hd (xs.length = n) := hd (by rw [HX.o, List.length_map, HN.o])
  have HJ : Hd (∀ k, k ≤ n → (R.jn (xs.take k)).length ≤ 13194149000000) := hd fun k hk => by rw [HX.o]; exact R.jn_st l hs (by rw [HN.o]; exact hn2) ht k
  rw [← hxs]
  clear hb hl hs hO hxs
  go_enter Tryz.func42, Tryz.ntmps42
  go_wp2_with (go_at_call 37; refine (put_any _ w0 _ g bs HO.o (by have : ByteArray.size ⟨#[91]⟩ = 1 := rfl; omega)).mono ?_; rintro e w2 ⟨rfl, hO2⟩; have HO2 : Hd (Ou w0 w2 g (bs ++ [91])) := hd hO2; clear hO2 HO)
  go_loopw [10] (fun x w2 => ∃ (k : Nat) (cs : List UInt8), k ≤ n ∧ x = .int .i64 k ∧ Hd (cs = bs ++ 91 :: R.jn (xs.take k)) ∧ Hd (Ou w0 w2 g cs)) (fun x _ => n - (intOf x).toNat)
  case atStart => exact ⟨0, _, Nat.zero_le _, rfl, hd rfl, HO2⟩
  case round =>
    clear HO2
    obtain ⟨k, cs, hk, rfl, hcs, HO⟩ := hrel
    have hlen : cs.length ≤ 13194149001001 := by rw [hcs.o, List.length_append, List.length_cons]; have := HJ.o k hk; omega
    by_cases hlt : k < n
    · have hkx : k < l.length := by rw [HN.o]; exact hlt
      have HK : Hd (xs[k]'(by rw [HXL.o]; exact hlt) = R.st (l[k]'hkx)) := hd (by simp [HX.o])
      have HJT := hd (R.jn_take xs k (by rw [HXL.o]; exact hlt))
      rw [HK.o] at HJT
      by_cases h0 : k = 0
      · have G : Hd (cs ++ R.st (l[k]'hkx) = bs ++ 91 :: R.jn (xs.take (k + 1))) := hd (by rw [HJT.o, if_pos h0, hcs.o, show R.jn (xs.take k) = [] from by rw [h0]; rfl]; simp)
        have hk0 : ¬ 0 < k := by omega
        clear HJT hcs h0
        go_wp2_with (go_at_call 58; refine (st1_any l A n c w0 _ g b cs k hkx HB.o HL.o hg HO.o HS.o ht (by omega)).mono ?_; rintro e w3 ⟨rfl, hO3⟩; have HO3 := hd hO3; clear hO3)
        go_roundw
        case rel => exact ⟨k + 1, _, by omega, by go_num, G, HO3⟩
        case measure => simp [intOf]; omega
      · have G : Hd (cs ++ [44] ++ R.st (l[k]'hkx) = bs ++ 91 :: R.jn (xs.take (k + 1))) := hd (by rw [HJT.o, if_neg h0, hcs.o]; simp)
        have hk0 : 0 < k := by omega
        have hl4 : (cs ++ [44]).length ≤ 35184372088832 := by rw [List.length_append]; show cs.length + 1 ≤ _; omega
        have HL4 := hd hl4
        clear HJT hcs h0 hl4
        go_wp2_with (first
          | (go_at_call 37; refine (put_any _ w0 _ g cs HO.o (by have : ByteArray.size ⟨#[44]⟩ = 1 := rfl; omega)).mono ?_; rintro e w2 ⟨rfl, hO2⟩; have HO2 : Hd (Ou w0 w2 g (cs ++ [44])) := hd hO2; clear hO2)
          | (go_at_call 58; refine (st1_any l A n c w0 _ g b (cs ++ [44]) k hkx HB.o HL.o hg HO2.o HS.o ht HL4.o).mono ?_; rintro e w3 ⟨rfl, hO3⟩; have HO3 := hd hO3; clear hO3))
        go_roundw
        case rel => exact ⟨k + 1, _, by omega, by go_num, G, HO3⟩
        case measure => simp [intOf]; omega
    · have hkn : k = n := by omega
      subst hkn
      have HE : Hd (cs ++ [93] = bs ++ R.lst xs) := hd (by rw [hcs.o, List.take_of_length_le (by rw [HXL.o]; exact Nat.le_refl _)]; unfold R.lst; simp)
      go_wp2_with (go_at_call 37; refine (put_any _ w0 _ g cs HO.o (by have : ByteArray.size ⟨#[93]⟩ = 1 := rfl; omega)).mono ?_; rintro e w2 ⟨rfl, hO2⟩; have HO2 : Hd (Ou w0 w2 g (bs ++ R.lst xs)) := hd (by rw [← HE.o]; exact hO2); clear hO2)
      go_end0
      exact ⟨rfl, HO2.o⟩
end Go.Proofs.YtcbggkdginfakaaGreatDoor
namespace Go.Proofs.YtcbggkdginfakaaGreatDoor
open Go.RowKit
set_option linter.unusedVariables false
set_option linter.unusedSimpArgs false
theorem ret_bt {a : ByteArray} {b : List UInt8} (h : a.data.toList = b) : Ending.returned (.string a) = Ending.returned (.string ⟨b.toArray⟩) := by rw [← h]
theorem keep2 {w W w4 : World} {g : Nat} {u v : Value} (hb : Below W.heap.size W w4) (h : W.cell? ⟨g, 0, none⟩ = some u ∧ W.cell? ⟨g, 1, none⟩ = some v ∧ g < W.heap.size ∧ Below w.heap.size w W) :
    w4.cell? ⟨g, 0, none⟩ = some u ∧ w4.cell? ⟨g, 1, none⟩ = some v ∧ g < w4.heap.size ∧ Below w.heap.size w w4 :=
  ⟨(hb.cell (p := ⟨g, 0, none⟩) h.2.2.1).trans h.1, (hb.cell (p := ⟨g, 1, none⟩) h.2.2.1).trans h.2.1, Nat.lt_of_lt_of_le h.2.2.1 hb.size, bel h.2.2.2 hb⟩
set_option maxRecDepth 100000 in
set_option maxHeartbeats 2000000 in
theorem refset_any (l : List Lb) (va : Value) (n : Nat) (w : World) (hl : IsL 2 w va n (cellsL l)) (hs : ∀ x ∈ l, x.1.size ≤ 1048576 ∧ x.2.size ≤ 1048576) (hn2 : n ≤ 1048576) :
    Calls Tryz.prog 54 #[va] w fun e w' => e = .returned (.string ⟨(R.st l).toArray⟩) ∧ Below w.heap.size w w' := by
  have HN := hd (IsLb.len hl)
  obtain ⟨A, c, rfl⟩ := hl.shape
  have HL := hd hl
  have HS := hd hs
  obtain ⟨xs, hxs⟩ : ∃ xs, xs = l.map R.lb := ⟨_, rfl⟩
  have HX := hd hxs
  have HXL : Hd (xs.length = n) := hd (by rw [HX.o, List.length_map, HN.o])
  have HJ : Hd (∀ k, k ≤ n → (R.jn (xs.take k)).length ≤ 35184372088832) := hd fun k hk => by
    have := R.jn_len 12582917 k xs (by rw [HX.o]; intro x hx; obtain ⟨y, hy, rfl⟩ := List.mem_map.1 hx; exact R.lb_len y (HS.o y hy).1 (HS.o y hy).2)
    have := Nat.mul_le_mul (show k ≤ 1048576 by omega) (show 12582917 + 1 ≤ 33554432 by omega)
    omega
  have HST : Hd (R.st l = 123 :: R.jn xs ++ [125]) := hd (by rw [HX.o]; rfl)
  rw [HST.o]
  clear hl hs hxs
  go_enter Tryz.func54, Tryz.ntmps54
  go_wp2
  go_loopw [3, 8] (fun v x w2 => ∃ (k : Nat) (s : ByteArray), k ≤ n ∧ x = .int .i64 k ∧ v = .string s ∧ Hd (s.data.toList = 123 :: R.jn (xs.take k)) ∧ Hd (Below w.heap.size w w2)) (fun _ x _ => n - (intOf x).toNat)
  case atStart => exact ⟨0, _, Nat.zero_le _, rfl, rfl, hd rfl, hd (Below.refl _ _)⟩
  case round =>
    obtain ⟨k, s, hk, rfl, rfl, hcs, HB⟩ := hrel
    have hlen : s.size ≤ 35184372088833 := by rw [Lib.size_eq, hcs.o, List.length_cons]; have := HJ.o k hk; omega
    have a1 : ¬ 9223372036854775807 < s.size + 1 := by omega
    have a2 : ¬ 281474976710656 < s.size + 1 := by omega
    by_cases hlt : k < n
    · have hkx : k < l.length := by rw [HN.o]; exact hlt
      have hsx := HS.o _ (List.getElem_mem hkx)
      have HK : Hd (xs[k]'(by rw [HXL.o]; exact hlt) = R.lb (l[k]'hkx)) := hd (by simp [HX.o])
      have HJT := hd (R.jn_take xs k (by rw [HXL.o]; exact hlt))
      rw [HK.o] at HJT
      obtain ⟨b1, o1, rfl, hl1, c1, c2⟩ := IsLb.at_ HL.o k hkx
      have d1 := (HB.o.cell (p := ⟨b1, o1 + k * 2, none⟩) hl1).trans c1
      have d2 := (HB.o.cell (p := ⟨b1, o1 + k * 2 + 1, none⟩) hl1).trans c2
      clear c1 c2 HK
      generalize l[k]'hkx = x at *
      obtain ⟨x1, x2⟩ := x
      simp only at d1 d2 hsx
      obtain ⟨W, hW⟩ : ∃ W, W = wr.alloc (.cells #[.string x1, .string x2] 122) := ⟨_, rfl⟩
      have HW : Hd (W.cell? ⟨wr.heap.size, 0, none⟩ = some (.string x1) ∧ W.cell? ⟨wr.heap.size, 1, none⟩ = some (.string x2) ∧ wr.heap.size < W.heap.size ∧ Below w.heap.size w W) := hd <| by
        rw [hW]
        exact ⟨by simp, by simp, by simp, HB.o.alloc HB.o.size _⟩
      have hr1 := R.t_len x1
      have hr2 := R.t_len x2
      have t1 : ¬ 9223372036854775807 < (R.t x1).length + 1 := by omega
      have t2 : ¬ 281474976710656 < (R.t x1).length + 1 := by omega
      have t3 : ¬ 9223372036854775807 < (R.t x1).length + 1 + (R.t x2).length := by omega
      have t4 : ¬ 281474976710656 < (R.t x1).length + 1 + (R.t x2).length := by omega
      have t5 : ¬ 9223372036854775807 < s.size + ((R.t x1).length + 1 + (R.t x2).length) := by omega
      have t6 : ¬ 281474976710656 < s.size + ((R.t x1).length + 1 + (R.t x2).length) := by omega
      have t7 : ¬ 9223372036854775807 < s.size + 1 + ((R.t x1).length + 1 + (R.t x2).length) := by omega
      have t8 : ¬ 281474976710656 < s.size + 1 + ((R.t x1).length + 1 + (R.t x2).length) := by omega
      clear hr1 hr2
      by_cases h0 : k = 0
      · have G : Hd ((s ++ (⟨(R.t x1).toArray⟩ ++ (⟨#[58]⟩ : ByteArray) ++ ⟨(R.t x2).toArray⟩)).data.toList = 123 :: R.jn (xs.take (k + 1))) := hd (by
          rw [HJT.o, if_pos h0]
          have := hcs.o
          rw [show R.jn (xs.take k) = [] from by rw [h0]; rfl] at this
          simp [R.lb, this])
        have hk0 : ¬ 0 < k := by omega
        clear HJT hcs h0
        go_wp2_with fail
        rw [← hW]
        clear hW
        go_region_held3 (fun w' => w'.cell? ⟨wr.heap.size, 0, none⟩ = some (.string x1) ∧ w'.cell? ⟨wr.heap.size, 1, none⟩ = some (.string x2) ∧ wr.heap.size < w'.heap.size ∧ Below w.heap.size w w') (first | exact ⟨HW.o.1, HW.o.2.1, HW.o.2.2.1, HW.o.2.2.2.drew⟩ | exact keep2 (by assumption) (by assumption))
          (first
            | (go_at_call 53; refine (reftext_any _ _ (by first | exact hsx.1 | exact hsx.2)).mono ?_; rintro e w4 ⟨rfl, hb4⟩)
            | fail)
        have hB4 : w4.cell? ⟨wr.heap.size, 0, none⟩ = some (.string x1) ∧ w4.cell? ⟨wr.heap.size, 1, none⟩ = some (.string x2) ∧ wr.heap.size < w4.heap.size ∧ Below w.heap.size w w4 := by assumption
        have HB4 := hd hB4.2.2.2
        clear hB4
        go_wp2
        go_roundw
        case rel => exact ⟨k + 1, _, by omega, by go_num, rfl, G, HB4⟩
        case measure => simp [intOf]; omega
      · have G : Hd ((s ++ (⟨#[44]⟩ : ByteArray) ++ (⟨(R.t x1).toArray⟩ ++ (⟨#[58]⟩ : ByteArray) ++ ⟨(R.t x2).toArray⟩)).data.toList = 123 :: R.jn (xs.take (k + 1))) := hd (by
          rw [HJT.o, if_neg h0]
          have := hcs.o
          simp [R.lb, this])
        have hk0 : 0 < k := by omega
        clear HJT hcs h0
        go_wp2_with fail
        rw [← hW]
        clear hW
        go_region_held3 (fun w' => w'.cell? ⟨wr.heap.size, 0, none⟩ = some (.string x1) ∧ w'.cell? ⟨wr.heap.size, 1, none⟩ = some (.string x2) ∧ wr.heap.size < w'.heap.size ∧ Below w.heap.size w w') (first | exact ⟨HW.o.1, HW.o.2.1, HW.o.2.2.1, HW.o.2.2.2.drew⟩ | exact keep2 (by assumption) (by assumption))
          (first
            | (go_at_call 53; refine (reftext_any _ _ (by first | exact hsx.1 | exact hsx.2)).mono ?_; rintro e w4 ⟨rfl, hb4⟩)
            | fail)
        have hB4 : w4.cell? ⟨wr.heap.size, 0, none⟩ = some (.string x1) ∧ w4.cell? ⟨wr.heap.size, 1, none⟩ = some (.string x2) ∧ wr.heap.size < w4.heap.size ∧ Below w.heap.size w w4 := by assumption
        have HB4 := hd hB4.2.2.2
        clear hB4
        go_wp2
        go_roundw
        case rel => exact ⟨k + 1, _, by omega, by go_num, rfl, G, HB4⟩
        case measure => simp [intOf]; omega
    · have hkn : k = n := by omega
      subst hkn
      have HE : Hd ((s ++ (⟨#[125]⟩ : ByteArray)).data.toList = 123 :: R.jn xs ++ [125]) := hd (by have := hcs.o; rw [List.take_of_length_le (by rw [HXL.o]; exact Nat.le_refl _)] at this; simp [this])
      go_wp2
      go_ret
      exact ⟨ret_bt HE.o, HB.o⟩
end Go.Proofs.YtcbggkdginfakaaGreatDoor
namespace Go.Proofs.YtcbggkdginfakaaGreatDoor
open Go.RowKit
set_option linter.unusedVariables false
set_option linter.unusedSimpArgs false
theorem R.lst_st (l : List (List Lb)) (h : Sm l) (hn : l.length ≤ 1048576) (ht : R.tot l ≤ 1048576) : (R.lst (l.map R.st)).length ≤ 13194149000002 := by
  have := R.jn_st l h hn ht (l.map R.st).length
  rw [List.take_of_length_le (Nat.le_refl _)] at this
  unfold R.lst
  rw [List.length_append, List.length_cons, List.length_singleton]
  omega
theorem R.sz_cm : ∀ l : List (List Lb), Sm l → R.sz (l.map (R.bt ∘ R.st)) ≤ R.tot l * 12582918 + 3 * l.length
  | [], _ => by simp [R.sz, R.tot]
  | x :: l, h => by
    have h1 := R.sz_cm l (fun y hy => h y (List.mem_cons_of_mem _ hy))
    have h2 := R.st_len x (h x (List.mem_cons_self ..))
    have h3 : ((R.bt ∘ R.st) x).size = (R.st x).length := rfl
    rw [List.map_cons, R.sz, h3, List.length_cons, R.tot, Nat.add_mul]
    omega
theorem R.sz_st (l : List (List Lb)) (h : Sm l) (hn : l.length ≤ 1048576) (ht : R.tot l ≤ 1048576) (k : Nat) : R.sz ((l.map (R.bt ∘ R.st)).take k) ≤ 35184405643264 := by
  have h1 := R.sz_cm (l.take k) (fun x hx => h x (List.mem_of_mem_take hx))
  have h2 := R.tot_take_le l k
  have h3 : (l.take k).length ≤ l.length := by rw [List.length_take]; omega
  rw [← List.map_take]
  omega
set_option maxHeartbeats 1000000 in
theorem reflist2_any (va : Value) (n : Nat) (l : List ByteArray) (w : World) (hl : IsL 1 w va n (cellsS l)) (hn : n ≤ 1048576) (hZ0 : ∀ k, k ≤ n → R.sz (l.take k) ≤ 35184405643264) (hJ0 : ∀ k, k ≤ n → (R.jn ((l.map fun x => x.data.toList).take k)).length ≤ 35184405643264) :
    Calls Tryz.prog 55 #[va] w fun e w' => e = .returned (.string ⟨(R.lst (l.map fun x => x.data.toList)).toArray⟩) ∧ Below w.heap.size w w' := by
  obtain ⟨A, c, rfl⟩ := hl.shape
  have HN := hd (strs_len hl)
  have HL := hd hl
  obtain ⟨xs, hxs⟩ : ∃ xs, xs = l.map fun x => x.data.toList := ⟨_, rfl⟩
  have HX := hd hxs
  have HJ : Hd (∀ k, k ≤ n → (R.jn (xs.take k)).length ≤ 35184405643264) := hd fun k hk => by rw [HX.o]; exact hJ0 k hk
  have HZ := hd hZ0
  have HXL : Hd (xs.length = n) := hd (by rw [HX.o, List.length_map, HN.o])
  rw [← hxs]
  clear hl hZ0 hJ0 hxs
  go_enter Tryz.func55, Tryz.ntmps55
  go_wp2
  go_loopw [3, 11] (fun z x wr => ∃ k Z : Nat, k ≤ n ∧ x = .int .i64 k ∧ z = .int .i64 Z ∧ Z ≤ 35184405643266 ∧ Hd (Z = 2 + R.sz (l.take k)) ∧ wr = w) (fun _ x _ => n - (intOf x).toNat)
  case atStart => exact ⟨0, 2, Nat.zero_le _, rfl, rfl, by omega, hd rfl, rfl⟩
  case round =>
    obtain ⟨k, Z, hk, rfl, rfl, hZ, hZe, rfl⟩ := hrel
    by_cases hlt : k < n
    · have hkx : k < l.length := by rw [HN.o]; exact hlt
      obtain ⟨b, off, rfl, hbl, c0⟩ := strs_at HL.o k hkx
      have HZ2 : Hd (Z + (l[k].size + 1) = 2 + R.sz (l.take (k + 1))) := hd (by rw [R.sz_take l k hkx, hZe.o]; omega)
      have hz2 : Z + (l[k].size + 1) ≤ 35184405643266 := by rw [HZ2.o]; have := HZ.o (k + 1) (by omega); omega
      generalize l[k]'hkx = x at *
      go_wp2
      go_roundw
      case rel => exact ⟨k + 1, Z + (x.size + 1), by omega, by go_num, by go_num, hz2, HZ2, trivial⟩
      case measure => simp [intOf]; omega
    · obtain ⟨wo, rfl⟩ : ∃ wo : World, wo = wr := ⟨_, rfl⟩
      go_wp2_with (at_make; refine wpList_mk0 _ 32 5 (.int .u8 0) 1 1 Tryz.underlying32 info_out rfl _ _ rfl wo.heap.size _ _ Z rfl rfl ?b1 ?b2 (Nat.le_refl _) ?_)
      case b1 => omega
      case b2 => omega
      intro w1 ho1 hg1
      have HB1 : Hd (Below wo.heap.size wo w1) := hd (below_of_grown (row := none) hg1)
      have hz1 := HB1.o.size
      clear hg1
      go_wp2_with (at_builtin; refine wpList_app_lit 32 5 (.int .u8 0) 1 1 Tryz.underlying32 info_out rfl (by decide) rfl _ _ rfl wo.heap.size (.slice (some ⟨wo.heap.size, 0, none⟩) 0 Z) 0 [] w1 #[.int .u8 91] 1 rfl rfl ho1 rfl (by simp [Value.oneCell']) (by omega) (by omega) hz1 ?_)
      intro v2 w2 ho2 hg2
      have HB2 := hd (HB1.o.grown hg2 hz1 (fun g hg => (ho1.lt g hg).1))
      have HO2 : Hd (w2.ownsRow wo.heap.size 5 1 v2 [91].length (cellsB [91])) := hd ho2
      clear ho1 ho2 hg2 hz1 HB1
      go_wp2
      go_loopw [6, 28] (fun v x w2 => ∃ (k : Nat) (bs : List UInt8), k ≤ n ∧ x = .int .i64 k ∧ Hd (bs = 91 :: R.jn (xs.take k)) ∧ Hd (w2.ownsRow wo.heap.size 5 1 v bs.length (cellsB bs)) ∧ Hd (Below wo.heap.size wo w2)) (fun _ x _ => n - (intOf x).toNat)
      case atStart => exact ⟨0, [91], Nat.zero_le _, rfl, hd rfl, HO2, HB2⟩
      case round =>
        clear HO2 HB2
        obtain ⟨k, bs, hk, rfl, hbs, HO, HB⟩ := hrel
        have hlen : bs.length ≤ 35184405643265 := by rw [hbs.o, List.length_cons]; have := HJ.o k hk; omega
        have hzr := HB.o.size
        by_cases hlt : k < n
        · have hkx : k < l.length := by rw [HN.o]; exact hlt
          obtain ⟨b, off, rfl, hbl, c0⟩ := strs_at HL.o k hkx
          have d0 := (HB.o.cell (p := ⟨b, off + k, none⟩) hbl).trans c0
          have hsx : (l[k]'hkx).size ≤ 35184405643264 := by have h1 := HZ.o (k + 1) (by omega); rw [R.sz_take l k hkx] at h1; omega
          have HK : Hd (xs[k]'(by rw [HXL.o]; exact hlt) = (l[k]'hkx).data.toList) := hd (by simp [HX.o])
          have HJT := hd (R.jn_take xs k (by rw [HXL.o]; exact hlt))
          rw [HK.o] at HJT
          clear c0 HK
          generalize l[k]'hkx = x at *
          by_cases h0 : k = 0
          · have G : Hd (bs ++ x.data.toList = 91 :: R.jn (xs.take (k + 1))) := hd (by rw [HJT.o, if_pos h0, hbs.o, h0]; rfl)
            have hk0 : ¬ 0 < k := by omega
            clear HJT hbs h0
            go_wp2_with (at_builtin; refine wpList_app_str _ 32 9 5 Tryz.underlying32 Tryz.underlying9 info_out rfl _ _ rfl wo.heap.size u6 bs.length (cellsB bs) rfl HO.o x rfl (by omega) hzr ?_)
            intro v3 w3 ho3 hg3
            have HB3 := hd (HB.o.grown hg3 hzr (fun g hg => (HO.o.lt g hg).1))
            have HO3 : Hd (w3.ownsRow wo.heap.size 5 1 v3 (bs ++ x.data.toList).length (cellsB (bs ++ x.data.toList))) := hd (by rw [List.length_append, ← Lib.size_eq, cellsB_app]; exact ho3)
            clear ho3 hg3 HO HB
            go_wp2
            go_roundw
            case rel => exact ⟨k + 1, _, by omega, by go_num, G, HO3, HB3⟩
            case measure => simp [intOf]; omega
          · have G : Hd (bs ++ [44] ++ x.data.toList = 91 :: R.jn (xs.take (k + 1))) := hd (by rw [HJT.o, if_neg h0, hbs.o]; simp)
            have hk0 : (0 : Int) < (k : Int) := by omega
            clear HJT hbs
            go_wp2_with (at_builtin; refine wpList_app_lit 32 5 (.int .u8 0) 1 1 Tryz.underlying32 info_out rfl (by decide) rfl _ _ rfl wo.heap.size u6 bs.length (cellsB bs) wr #[.int .u8 44] 1 rfl rfl HO.o rfl (by simp [Value.oneCell']) (by omega) (by omega) hzr ?_)
            intro v3 w3 ho3 hg3
            have HB3 := hd (HB.o.grown hg3 hzr (fun g hg => (HO.o.lt g hg).1))
            have HO3 : Hd (w3.ownsRow wo.heap.size 5 1 v3 (bs ++ [44]).length (cellsB (bs ++ [44]))) := hd (by rw [List.length_append, cellsB_app]; exact ho3)
            have hz3 := HB3.o.size
            have hl3 : (bs ++ [44]).length = bs.length + 1 := by simp
            have e4 : (bs ++ [44] ++ x.data.toList).length = bs.length + 1 + x.size := by rw [List.length_append, hl3, Lib.size_eq]
            clear ho3 hg3 HO HB
            go_wp2_with (at_builtin; refine wpList_app_str _ 32 9 5 Tryz.underlying32 Tryz.underlying9 info_out rfl _ _ rfl wo.heap.size v3 (bs ++ [44]).length (cellsB (bs ++ [44])) rfl HO3.o x rfl (by omega) hz3 ?_)
            intro v4 w4 ho4 hg4
            have HB4 := hd (HB3.o.grown hg4 hz3 (fun g hg => (HO3.o.lt g hg).1))
            have HO4 : Hd (w4.ownsRow wo.heap.size 5 1 v4 (bs ++ [44] ++ x.data.toList).length (cellsB (bs ++ [44] ++ x.data.toList))) := hd (by rw [e4, cellsB_app (bs ++ [44])]; exact ho4)
            clear ho4 hg4 HO3 HB3
            go_wp2
            go_roundw
            case rel => exact ⟨k + 1, _, by omega, by go_num, G, HO4, HB4⟩
            case measure => simp [intOf]; omega
        · have hkn : k = n := by omega
          subst hkn
          have HE : Hd (bs ++ [93] = R.lst xs) := hd (by rw [hbs.o, List.take_of_length_le (by rw [HXL.o]; exact Nat.le_refl _)]; rfl)
          go_wp2_with (at_builtin; refine wpList_app_lit 32 5 (.int .u8 0) 1 1 Tryz.underlying32 info_out rfl (by decide) rfl _ _ rfl wo.heap.size u6 bs.length (cellsB bs) wr #[.int .u8 93] 1 rfl rfl HO.o rfl (by simp [Value.oneCell']) (by omega) (by omega) hzr ?_)
          intro v3 w3 ho3 hg3
          have HB3 := hd (HB.o.grown hg3 hzr (fun g hg => (HO.o.lt g hg).1))
          have h3 : IsL 1 w3 v3 (bs.length + 1) (cellsB (bs ++ [93])) := by rw [cellsB_app]; exact IsL.own ho3
          have hcv := run_string_of w3 32 9 5 Tryz.underlying32 Tryz.underlying5 Tryz.underlying9 _ _ _ h3
          rw [HE.o] at hcv
          clear ho3 hg3 h3
          go_wp2
          go_ret
          exact ⟨rfl, HB3.o⟩
theorem sets_own (l : List (List Lb)) (A : Option Addr) (n c : Nat) (w : World) (hl : IsLbss w (.slice A n c) l) (hs : Sm l) (ht : R.tot l ≤ 1048576) (hn2 : n ≤ 1048576) :
    Calls Tryz.prog 18 #[.slice A n c] w fun e w' => (∃ v m, e = .returned v ∧ w'.ownsRow w.heap.size 5 1 v m (cellsB (R.ans (l.map R.st)))) ∧ Below w.heap.size w w' := by
  have HN := hd hl.len
  have HL := hd hl
  have HS := hd hs
  have HLL : Hd ((R.lst (l.map R.st)).length ≤ 13194149000002) := hd (R.lst_st l hs (by rw [HN.o]; exact hn2) ht)
  clear hl hs
  obtain ⟨W, hW⟩ : ∃ W, W = w.alloc (.cells #[.slice A n c] 37) := ⟨_, rfl⟩
  have HBX : Hd (W.cell? ⟨w.heap.size, 0, none⟩ = some (.slice A n c)) := hd (by rw [hW]; simp)
  have HBW : Hd (Below w.heap.size w W) := hd (by rw [hW]; exact (Below.refl _ _).alloc (Nat.le_refl _) _)
  have hWz : W.heap.size = w.heap.size + 1 := by rw [hW]; simp
  have HWL := hd (HL.o.below HBW.o)
  have HO0 : Hd (Ou W (W.alloc (.cells #[.slice none 0 0] 77)) (w.heap.size + 1) []) := hd <| by
    refine ⟨⟨none, 0, 0, ?_, ⟨rfl, .inl ⟨rfl, rfl⟩⟩, rfl⟩, ?_⟩
    · show (W.heap.push (.cells #[.slice none 0 0] 77))[w.heap.size + 1]? = _
      rw [← hWz]; simp
    · exact (Below.refl _ _).alloc (by omega) _
  go_enter Tryz.func18, Tryz.ntmps18
  go_wp2_with fail
  rw [← hW]
  clear hW
  refine (put_any _ W _ (w.heap.size + 1) [] HO0.o (by decide)).mono ?_
  rintro e w1 ⟨rfl, hO1⟩
  have HO1 := hd hO1
  clear hO1 HO0
  have e1 := (HO1.o.bel.cell (p := ⟨w.heap.size, 0, none⟩) (Nat.lt_succ_self _)).trans HBX.o
  go_wp2_with fail
  refine (stlist_any l A n c W _ (w.heap.size + 1) w.heap.size _ HBX.o HWL.o hWz HO1.o HS.o ht (by decide) hn2).mono ?_
  rintro e w2 ⟨rfl, hO2⟩
  have HO2 := hd hO2
  clear hO2 HO1
  go_wp2_with fail
  refine (put_any ⟨#[125]⟩ W _ (w.heap.size + 1) _ HO2.o ?_).mono ?_
  · have h1 := HLL.o
    have : ByteArray.size ⟨#[125]⟩ = 1 := rfl
    have : (([] : List UInt8) ++ [123, 34, 115, 116, 97, 116, 117, 115, 34, 58, 34, 115, 117, 99, 99, 101, 115, 115, 34, 44, 34, 100, 97, 116, 97, 34, 58]).length = 27 := rfl
    rw [List.length_append]
    omega
  rintro e w3 ⟨rfl, hO3⟩
  obtain ⟨A', n', c', k1, k2, k3⟩ := hO3.ex
  have e0 := k1.cell 0 (by simp)
  simp only [List.getElem_cons_zero] at e0
  have HQ : Hd (w3.ownsRow w.heap.size 5 1 (.slice A' n' c') n' (cellsB (R.ans (l.map R.st)))) := hd (by subst k3; exact own_mono k2 (by omega))
  have HB3 : Hd (Below w.heap.size w w3) := hd (HBW.o.trans (hO3.bel.mono (by omega)))
  clear hO3 HO2 k1 k2 k3
  go_wp2
  go_ret
  exact ⟨⟨_, _, rfl, HQ.o⟩, HB3.o⟩
theorem sets_any (l : List (List Lb)) (A : Option Addr) (n c : Nat) (w : World) (hl : IsLbss w (.slice A n c) l) (hs : Sm l) (ht : R.tot l ≤ 1048576) (hn2 : n ≤ 1048576) :
    Calls Tryz.prog 18 #[.slice A n c] w fun e w' => (∃ v m, e = .returned v ∧ IsL 1 w' v m (cellsB (R.ans (l.map R.st)))) ∧ Below w.heap.size w w' := (sets_own l A n c w hl hs ht hn2).mono fun _ _ h => ⟨by obtain ⟨v, m, h1, h2⟩ := h.1; exact ⟨v, m, h1, IsL.own h2⟩, h.2⟩
set_option maxHeartbeats 1000000 in
theorem refsets_any (l : List (List Lb)) (A : Option Addr) (n c : Nat) (w : World) (hl : IsLbss w (.slice A n c) l) (hs : Sm l) (ht : R.tot l ≤ 1048576) (hn2 : n ≤ 1048576) :
    Calls Tryz.prog 15 #[.slice A n c] w fun e w' => (∃ v m, e = .returned v ∧ IsL 1 w' v m (cellsB (R.ans (l.map R.st)))) ∧ Below w.heap.size w w' := by
  have HN := hd hl.len
  have HL := hd hl
  have HS := hd hs
  obtain ⟨ys, hys⟩ : ∃ ys, ys = (l.map R.st).map R.bt := ⟨_, rfl⟩
  have HY := hd hys
  have HYL : Hd (ys.length = n) := hd (by rw [HY.o, List.length_map, List.length_map, HN.o])
  clear hl hs hys
  go_enter Tryz.func15, Tryz.ntmps15
  go_wp2
  go_loopw [3, 8] (fun v x w2 => ∃ (k : Nat), k ≤ n ∧ x = .int .i64 k ∧ Hd (w2.ownsRow w.heap.size 9 1 v k (cellsS (ys.take k))) ∧ Hd (Below w.heap.size w w2)) (fun _ x _ => n - (intOf x).toNat)
  case atStart => exact ⟨0, Nat.zero_le _, rfl, hd ⟨rfl, .inl ⟨rfl, rfl⟩⟩, hd (Below.refl _ _)⟩
  case round =>
    obtain ⟨k, hk, rfl, HO, HB⟩ := hrel
    by_cases hlt : k < n
    · have hkx : k < l.length := by rw [HN.o]; exact hlt
      obtain ⟨b, off, A1, c1, rfl, hbl, c0, hx⟩ := HL.o.at_ k hkx
      have HXX := hd hx
      have htk := R.tot_mem l (l[k]'hkx) (List.getElem_mem hkx)
      have HSX := hd (HS.o (l[k]'hkx) (List.getElem_mem hkx))
      have d0 := (HB.o.cell (p := ⟨b, off + k, none⟩) hbl).trans c0
      have HK : Hd (cellsS (ys.take (k + 1)) = cellsS (ys.take k) ++ [.string ⟨(R.st (l[k]'hkx)).toArray⟩]) := hd (by rw [strS ys k (by rw [HYL.o]; exact hlt)]; simp [HY.o, R.bt])
      clear c0 hx
      generalize l[k]'hkx = s at *
      go_wp2_with (first
        | (go_at_call 54; refine (refset_any s _ s.length _ (HXX.o.below HB.o) HSX.o (by omega)).mono ?_; rintro e w3 ⟨rfl, hb3⟩; have HB3 := hd (bel HB.o hb3); have HO3 := hd (own_below HO.o hb3); clear hb3 HO HB)
        | (at_builtin; refine wpList_app_litH 36 9 (.string ⟨#[]⟩) 1 16 Tryz.underlying36 info_str rfl (by decide) rfl _ _ rfl w.heap.size u3 k (cellsS (ys.take k)) w3 #[.string ⟨(R.st s).toArray⟩] 1 _ rfl rfl rfl HO3.o rfl (by simp [Value.oneCell']) (by omega) (by omega) HB3.o.size ?_))
      intro v4 w4 ho4 hg4
      have HB4 := hd (HB3.o.grown hg4 HB3.o.size (fun g hg => (HO3.o.lt g hg).1))
      have HO4 : Hd (w4.ownsRow w.heap.size 9 1 v4 (k + 1) (cellsS (ys.take (k + 1)))) := hd (by rw [HK.o]; exact ho4)
      clear ho4 hg4
      go_wp2
      go_roundw
      case rel => exact ⟨k + 1, by omega, by go_num, HO4, HB4⟩
      case measure => simp [intOf]; omega
    · have hkn : k = n := by omega
      subst hkn
      have h1 := IsL.own HO.o
      rw [List.take_of_length_le (by rw [HYL.o]; exact Nat.le_refl _)] at h1
      have HI := hd h1
      have HZB : Hd (∀ j, j ≤ k → R.sz (ys.take j) ≤ 35184405643264) := hd fun j hj => by rw [HY.o, List.map_map]; exact R.sz_st l HS.o (by rw [HN.o]; exact hn2) ht j
      have HJB : Hd (∀ j, j ≤ k → (R.jn ((ys.map fun x => x.data.toList).take j)).length ≤ 35184405643264) := hd fun j hj => by rw [HY.o, R.bt_map]; exact Nat.le_trans (R.jn_st l HS.o (by rw [HN.o]; exact hn2) ht j) (by decide)
      have HR : Hd (R.lst (ys.map fun x => x.data.toList) = R.lst (l.map R.st)) := hd (by rw [HY.o, R.bt_map])
      have HAN : Hd (((⟨#[123, 34, 115, 116, 97, 116, 117, 115, 34, 58, 34, 115, 117, 99, 99, 101, 115, 115, 34, 44, 34, 100, 97, 116, 97, 34, 58]⟩ : ByteArray) ++ ⟨(R.lst (l.map R.st)).toArray⟩ ++ (⟨#[125]⟩ : ByteArray)).data.toList = R.ans (l.map R.st)) := hd (by simp [R.ans])
      have hLL : (R.lst (l.map R.st)).length ≤ 13194149000002 := R.lst_st l HS.o (by rw [HN.o]; exact hn2) ht
      generalize R.lst (l.map R.st) = q at *
      have b1 : ¬ 9223372036854775807 < 27 + q.length := by omega
      have b2 : ¬ 281474976710656 < 27 + q.length := by omega
      have b3 : ¬ 9223372036854775807 < 27 + q.length + 1 := by omega
      have b4 : ¬ 281474976710656 < 27 + q.length + 1 := by omega
      clear h1
      go_wp2_with (first
        | (go_at_call 55; refine (reflist2_any u3 k ys _ HI.o hn2 (HZB.o) (HJB.o)).mono ?_; rintro e w3 ⟨rfl, hb3⟩; rw [HR.o]; have HB3 := hd (bel HB.o hb3); clear hb3 HO HB)
        | (refine wpList_bytes_isL _ 9 32 5 _ Tryz.underlying9 Tryz.underlying32 Tryz.underlying5 rfl _ rfl rfl ?_
           intro v4 w4 hb4 h4
           rw [HAN.o] at h4))
      have H4 := hd h4
      have HB4 := hd (bel HB3.o hb4)
      clear hb4 h4
      go_wp2
      go_ret
      exact ⟨⟨_, H4.o.choose, rfl, H4.o.choose_spec⟩, HB4.o⟩
end Go.Proofs.YtcbggkdginfakaaGreatDoor
