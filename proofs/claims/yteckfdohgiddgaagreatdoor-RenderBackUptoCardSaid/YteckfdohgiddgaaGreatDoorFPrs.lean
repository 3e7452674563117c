/- render.Sets and its reference. render.Sets: its closure and its list. weirref29.set. render.Sets and weirref29.Sets. Unrounded scaling: what the library's uscale answers is the scaled number, cut, with a mark for what is cut off. Plain arithmetic, no function of the program in sight. The shortest decimal in an interval, nearest to what it stands for: there is one at most; what a search from the fine side finds is it; what a search from the coarse side finds is it. Plain arithmetic. One digit more: the reference's way to the shortest decimal, in plain numbers. No function of the program in sight. The library's shortest decimal of a float (shortFloat), as plain numbers: it is the best one. The library's shortest decimal of a float, as plain numbers, is the best one. The small functions of the library's unrounded scaling. internal/strconv.uscale. internal/strconv.prescale; the table of powers of ten. -/
import Derived.Test.YteckfdohgiddgaaGreatDoorRNamesW
import Derived.Test.YteckfdohgiddgaaGreatDoorLOp
import Derived.Deep.RegionHeld3
import Derived.Test.YteckfdohgiddgaaGreatDoorBase
import Derived.Test.YteckfdohgiddgaaGreatDoorBase3
import Derived.Shelf.Lay
import Derived.Shelf.Bits.Mul64
import Derived.Shelf.Strconv.Itoa0
import Derived.Shelf.Strconv.Itoa1
import Derived.Shelf.Strconv.Itoa2
import Derived.Laws.BitsAllLaws
import Derived.BigQuiet
import Derived.Lib.LaidTab
import Derived.Lib.AppendIntMem
namespace Go.Proofs.YteckfdohgiddgaaGreatDoor
open Go.RowKit
set_option linter.unusedVariables false
set_option linter.unusedSimpArgs false
/-- one label, one set -/
def R.lb (x : Lb) : List UInt8 := R.t x.1 ++ 58 :: R.t x.2
def R.st (l : List Lb) : List UInt8 := 123 :: R.jn (l.map R.lb) ++ [125]
theorem R.lb_len (x : Lb) (h1 : x.1.size ≤ 1048576) (h2 : x.2.size ≤ 1048576) : (R.lb x).length ≤ 12582917 := by
  have := R.t_len x.1
  have := R.t_len x.2
  unfold R.lb
  rw [List.length_append, List.length_cons]
  omega
theorem R.st_len (l : List Lb) (h : ∀ x ∈ l, x.1.size ≤ 1048576 ∧ x.2.size ≤ 1048576) : (R.st l).length ≤ l.length * 12582918 + 2 := by
  have := R.jn_len 12582917 l.length (l.map R.lb) (by intro x hx; obtain ⟨y, hy, rfl⟩ := List.mem_map.1 hx; exact R.lb_len y (h y hy).1 (h y hy).2)
  rw [List.take_of_length_le (by simp)] at this
  unfold R.st
  rw [List.length_append, List.length_cons, List.length_singleton]
  omega
set_option maxHeartbeats 2000000 in
theorem labels_any (l : List Lb) (va : Value) (n : Nat) (w0 w : World) (g : Nat) (bs : List UInt8)
    (hl : IsL 2 w0 va n (cellsL l)) (hg : w0.heap.size = g) (hO : Ou w0 w g bs) (hs : ∀ x ∈ l, x.1.size ≤ 1048576 ∧ x.2.size ≤ 1048576) (hn : bs.length ≤ 35184372088832) (hn2 : n ≤ 1048576) :
    Calls Tryz.prog 48 #[.pointer (some ⟨g, 0, none⟩), va] w fun e w' => e = .returned (.tuple #[]) ∧ Ou w0 w' g (bs ++ R.st l) := by
  have HN := hd (IsLb.len hl)
  obtain ⟨A, c, rfl⟩ := hl.shape
  have HL := hd hl
  have HS := hd hs
  have HO := hd hO
  obtain ⟨xs, hxs⟩ : ∃ xs, xs = l.map R.lb := ⟨_, rfl⟩
  have HX := hd hxs
  have HXL : Hd (xs.length = n) := hd (by rw [HX.o, List.length_map, HN.o])
  have HJ : Hd (∀ k, k ≤ n → (R.jn (xs.take k)).length ≤ 35184372088832) := hd fun k hk => by
    have := R.jn_len 12582917 k xs (by rw [HX.o]; intro x hx; obtain ⟨y, hy, rfl⟩ := List.mem_map.1 hx; exact R.lb_len y (HS.o y hy).1 (HS.o y hy).2)
    have := Nat.mul_le_mul (show k ≤ 1048576 by omega) (show 12582917 + 1 ≤ 33554432 by omega)
    omega
  have HST : Hd (R.st l = 123 :: R.jn xs ++ [125]) := hd (by rw [HX.o]; rfl)
  rw [HST.o]
  clear hl hs hO hxs
  go_enter Tryz.func48, Tryz.ntmps48
  go_wp2_with fail
  refine (put_any ⟨#[123]⟩ w0 _ g bs HO.o (by have : ByteArray.size ⟨#[123]⟩ = 1 := rfl; omega)).mono ?_
  rintro e w2 ⟨rfl, hO2⟩
  have HO2 : Hd (Ou w0 w2 g (bs ++ [123])) := hd hO2
  clear hO2 HO
  go_wp2
  go_loopw [10] (fun x w2 => ∃ (k : Nat) (cs : List UInt8), k ≤ n ∧ x = .int .i64 k ∧ Hd (cs = bs ++ 123 :: R.jn (xs.take k)) ∧ Hd (Ou w0 w2 g cs)) (fun x _ => n - (intOf x).toNat)
  case atStart => exact ⟨0, _, Nat.zero_le _, rfl, hd rfl, HO2⟩
  case round =>
    clear HO2
    obtain ⟨k, cs, hk, rfl, hcs, HO⟩ := hrel
    have hlen : cs.length ≤ 70368744177665 := by rw [hcs.o, List.length_append, List.length_cons]; have := HJ.o k hk; omega
    by_cases hlt : k < n
    · have hkx : k < l.length := by rw [HN.o]; exact hlt
      have hsx := HS.o _ (List.getElem_mem hkx)
      have HK : Hd (xs[k]'(by rw [HXL.o]; exact hlt) = R.lb (l[k]'hkx)) := hd (by simp [HX.o])
      have HJT := hd (R.jn_take xs k (by rw [HXL.o]; exact hlt))
      rw [HK.o] at HJT
      obtain ⟨b1, o1, rfl, hl1, c1, c2⟩ := IsLb.at_ HL.o k hkx
      have d1 := (HO.o.bel.cell (p := ⟨b1, o1 + k * 2, none⟩) (show b1 < g by omega)).trans c1
      have d2 := (HO.o.bel.cell (p := ⟨b1, o1 + k * 2 + 1, none⟩) (show b1 < g by omega)).trans c2
      clear c1 c2 HK
      generalize l[k]'hkx = x at *
      obtain ⟨x1, x2⟩ := x
      simp only at d1 d2 hsx
      obtain ⟨hb, hhb⟩ : ∃ hb, hb = wr.heap.size := ⟨_, rfl⟩
      have HO1 := hd (HO.o.below ((Below.refl wr.heap.size wr).alloc (Nat.le_refl _) (.cells #[.string x1, .string x2] 57)))
      have HX1 : Hd (Bx (wr.alloc (.cells #[.string x1, .string x2] 57)) g hb 57 [.string x1, .string x2]) := hd <| by
        refine ⟨?_, by have := HO.o.lt; omega, by decide⟩
        show (wr.heap.push (.cells #[.string x1, .string x2] 57))[hb]? = _
        rw [hhb]; simp
      have e0 := HX1.o.1.cell 0 (by simp)
      simp only [List.getElem_cons_zero] at e0
      have hr1 := R.t_len x1
      by_cases h0 : k = 0
      · have G : Hd (cs ++ R.t x1 ++ [58] ++ R.t x2 = bs ++ 123 :: R.jn (xs.take (k + 1))) := hd (by rw [HJT.o, if_pos h0, hcs.o, show R.jn (xs.take k) = [] from by rw [h0]; rfl]; simp [R.lb])
        have hk0 : ¬ 0 < k := by omega
        have HLB : Hd (cs.length ≤ 140737480000000) := hd (by omega)
        have HL2 : Hd ((cs ++ R.t x1).length ≤ 140737480000000) := hd (by rw [List.length_append]; omega)
        have HL3 : Hd ((cs ++ R.t x1 ++ [58]).length ≤ 140737480000000) := hd (by rw [List.length_append, List.length_append]; show cs.length + _ + 1 ≤ _; omega)
        clear HJT hcs h0
        go_wp2_with fail
        refine (text2_any hb 57 [.string x1, .string x2] x1 w0 _ g cs HO1.o HX1.o hsx.1 HLB.o).mono ?_
        rintro e w4 ⟨rfl, hO4, hX4⟩
        have HO4 := hd hO4
        have HX4 := hd hX4
        clear hO4 hX4
        go_wp2_with fail
        refine (put2_any hb 57 [.string x1, .string x2] ⟨#[58]⟩ w0 _ g (cs ++ R.t x1) HO4.o HX4.o (by have := HL2.o; have : ByteArray.size ⟨#[58]⟩ = 1 := rfl; omega)).mono ?_
        rintro e w5 ⟨rfl, hO5, hX5⟩
        have HO5 : Hd (Ou w0 w5 g (cs ++ R.t x1 ++ [58])) := hd hO5
        have HX5 := hd hX5
        have e1 := HX5.o.1.cell 1 (by simp)
        simp only [List.getElem_cons_succ, List.getElem_cons_zero] at e1
        rw [hhb] at e1
        clear hO5 hX5
        go_wp2_with fail
        refine (text2_any hb 57 [.string x1, .string x2] x2 w0 _ g (cs ++ R.t x1 ++ [58]) HO5.o HX5.o hsx.2 HL3.o).mono ?_
        rintro e w6 ⟨rfl, hO6, hX6⟩
        have HO6 := hd hO6
        clear hO6 hX6
        go_wp2
        go_roundw
        case rel => exact ⟨k + 1, _, by omega, by go_num, G, HO6⟩
        case measure => simp [intOf]; omega
      · have G : Hd (cs ++ [44] ++ R.t x1 ++ [58] ++ R.t x2 = bs ++ 123 :: R.jn (xs.take (k + 1))) := hd (by rw [HJT.o, if_neg h0, hcs.o]; simp [R.lb])
        have hk0 : 0 < k := by omega
        have hl4 : (cs ++ [44]).length = cs.length + 1 := by rw [List.length_append]; rfl
        have HLB : Hd ((cs ++ [44]).length ≤ 140737480000000) := hd (by omega)
        have HL2 : Hd ((cs ++ [44] ++ R.t x1).length ≤ 140737480000000) := hd (by rw [List.length_append, hl4]; omega)
        have HL3 : Hd ((cs ++ [44] ++ R.t x1 ++ [58]).length ≤ 140737480000000) := hd (by rw [List.length_append, List.length_append, hl4]; show cs.length + 1 + _ + 1 ≤ _; omega)
        clear HJT hcs h0 hl4
        go_wp2_with fail
        refine (put2_any hb 57 [.string x1, .string x2] ⟨#[44]⟩ w0 _ g cs HO1.o HX1.o (by have : ByteArray.size ⟨#[44]⟩ = 1 := rfl; omega)).mono ?_
        rintro e w3 ⟨rfl, hO3, hX3⟩
        have HO3 : Hd (Ou w0 w3 g (cs ++ [44])) := hd hO3
        have HX3 := hd hX3
        have e3 := HX3.o.1.cell 0 (by simp)
        simp only [List.getElem_cons_zero] at e3
        rw [hhb] at e3
        clear hO3 hX3
        go_wp2_with fail
        refine (text2_any hb 57 [.string x1, .string x2] x1 w0 _ g (cs ++ [44]) HO3.o HX3.o hsx.1 HLB.o).mono ?_
        rintro e w4 ⟨rfl, hO4, hX4⟩
        have HO4 := hd hO4
        have HX4 := hd hX4
        clear hO4 hX4
        go_wp2_with fail
        refine (put2_any hb 57 [.string x1, .string x2] ⟨#[58]⟩ w0 _ g ((cs ++ [44]) ++ R.t x1) HO4.o HX4.o (by have := HL2.o; have : ByteArray.size ⟨#[58]⟩ = 1 := rfl; omega)).mono ?_
        rintro e w5 ⟨rfl, hO5, hX5⟩
        have HO5 : Hd (Ou w0 w5 g ((cs ++ [44]) ++ R.t x1 ++ [58])) := hd hO5
        have HX5 := hd hX5
        have e1 := HX5.o.1.cell 1 (by simp)
        simp only [List.getElem_cons_succ, List.getElem_cons_zero] at e1
        rw [hhb] at e1
        clear hO5 hX5
        go_wp2_with fail
        refine (text2_any hb 57 [.string x1, .string x2] x2 w0 _ g ((cs ++ [44]) ++ R.t x1 ++ [58]) HO5.o HX5.o hsx.2 HL3.o).mono ?_
        rintro e w6 ⟨rfl, hO6, hX6⟩
        have HO6 := hd hO6
        clear hO6 hX6
        go_wp2
        go_roundw
        case rel => exact ⟨k + 1, _, by omega, by go_num, G, HO6⟩
        case measure => simp [intOf]; omega
    · have hkn : k = n := by omega
      subst hkn
      have HE : Hd (cs ++ [125] = bs ++ (123 :: R.jn xs ++ [125])) := hd (by rw [hcs.o, List.take_of_length_le (by rw [HXL.o]; exact Nat.le_refl _)]; simp)
      go_wp2_with (go_at_call 41; refine (put_any ⟨#[125]⟩ w0 _ g cs HO.o (by have : ByteArray.size ⟨#[125]⟩ = 1 := rfl; omega)).mono ?_; rintro e w2 ⟨rfl, hO2⟩; have HO2 : Hd (Ou w0 w2 g (bs ++ (123 :: R.jn xs ++ [125]))) := hd (by rw [← HE.o]; exact hO2); clear hO2)
      go_end0
      exact ⟨rfl, HO2.o⟩
end Go.Proofs.YteckfdohgiddgaaGreatDoor
namespace Go.Proofs.YteckfdohgiddgaaGreatDoor
open Go.RowKit
set_option linter.unusedVariables false
set_option linter.unusedSimpArgs false
theorem IsLbss.below {w w' : World} {v : Value} {l : List (List Lb)} (h : IsLbss w v l) (hb : Below w.heap.size w w') : IsLbss w' v l := by
  obtain ⟨A, c, rfl, h1, h2⟩ := h
  refine ⟨A, c, rfl, h1, fun i hi => ?_⟩
  obtain ⟨b, off, x, e, c0, c1, c2⟩ := h2 i hi
  exact ⟨b, off, x, e, (hb.cell (p := ⟨b, off + i, none⟩) (World.block_lt_of_cell? w _ c0)).trans c0, c1.below hb, c2⟩
theorem IsLbss.at_ {w : World} {A : Option Addr} {n c : Nat} {l : List (List Lb)} (h : IsLbss w (.slice A n c) l) (i : Nat) (hi : i < l.length) :
    ∃ b off A1 c1, A = some ⟨b, off, none⟩ ∧ b < w.heap.size ∧ w.cell? ⟨b, off + i, none⟩ = some (.slice A1 (l[i]'hi).length c1) ∧ IsL 2 w (.slice A1 (l[i]'hi).length c1) (l[i]'hi).length (cellsL (l[i]'hi)) := by
  obtain ⟨A', c', e, h1, h2⟩ := h
  simp only [Value.slice.injEq] at e
  obtain ⟨rfl, _, _⟩ := e
  obtain ⟨b, off, x, e, c0, c1, c2⟩ := h2 i hi
  obtain ⟨A1, c1', rfl⟩ := c1.shape
  exact ⟨b, off, A1, c1', e, World.block_lt_of_cell? w _ c0, c0, c1⟩
theorem IsLbss.len {w : World} {A : Option Addr} {n c : Nat} {l : List (List Lb)} (h : IsLbss w (.slice A n c) l) : l.length = n := by
  obtain ⟨A', c', e, h1, h2⟩ := h
  simp only [Value.slice.injEq] at e
  exact e.2.1.symm
def R.tot : List (List Lb) → Nat
  | [] => 0
  | x :: r => x.length + R.tot r
/-- all texts are small -/
def Sm (l : List (List Lb)) : Prop := ∀ x ∈ l, ∀ y ∈ x, y.1.size ≤ 1048576 ∧ y.2.size ≤ 1048576
end Go.Proofs.YteckfdohgiddgaaGreatDoor
namespace Go.Proofs.YteckfdohgiddgaaGreatDoor
open Go.RowKit
set_option linter.unusedVariables false
set_option linter.unusedSimpArgs false
end Go.Proofs.YteckfdohgiddgaaGreatDoor
namespace Go.Proofs.YteckfdohgiddgaaGreatDoor
open Go.RowKit
set_option linter.unusedVariables false
set_option linter.unusedSimpArgs false
end Go.Proofs.YteckfdohgiddgaaGreatDoor
namespace Go.Proofs.YteckfdohgiddgaaGreatDoor
namespace FS
set_option linter.unusedVariables false
/-- the floor of the logarithm of 10^p to the base 2, as it is reckoned -/
def lp (p : Int) : Int := p * 108853 / 32768
/-- 10^p * 2^(127 - lp p), a fraction -/
def A (p : Int) : Nat := 10 ^ p.toNat * 2 ^ (127 - lp p).toNat
def D (p : Int) : Nat := 10 ^ (-p).toNat * 2 ^ (lp p - 127).toNat
theorem D_pos (p : Int) : 0 < D p := Nat.mul_pos (Nat.pow_pos (by decide)) (Nat.pow_pos (by decide))
/-- a row of the table: hi * 2^64 - lo is the fraction, rounded up -/
structure Row (a d hi lo : Nat) : Prop where
  d0 : 0 < d
  hh : hi < 2 ^ 64
  hl : lo < 2 ^ 64
  up : d * hi * 2 ^ 64 < a + d * lo + d
  dn : a + d * lo ≤ d * hi * 2 ^ 64
/-- what uscale answers -/
def cut (x hi lo s : Nat) : Nat :=
  if x * hi / 2 ^ 64 % 2 ^ s ≠ 0 then x * hi / 2 ^ 64 / 2 ^ s ||| 1
  else (if x * hi % 2 ^ 64 < x * lo / 2 ^ 64 then x * hi / 2 ^ 64 - 1 else x * hi / 2 ^ 64) / 2 ^ s ||| (if 1 < (x * hi % 2 ^ 64 + 2 ^ 64 - x * lo / 2 ^ 64) % 2 ^ 64 then 1 else 0)
/-- n / d, cut, with a mark -/
def unr (n d : Nat) : Nat := n / d ||| (if n % d = 0 then 0 else 1)
/-- nowhere near a whole number, but for whole ones -/
def Far (y k w : Nat) : Prop := ∀ n : Nat, y = n * k ∨ n * k + w < y ∨ y + 2 * w ≤ n * k
theorem div_of {y k q : Nat} (h1 : q * k ≤ y) (h2 : y < (q + 1) * k) : y / k = q :=
  Nat.div_eq_of_lt_le h1 h2
theorem mod_ne {y k q : Nat} (h1 : q * k < y) (h2 : y < (q + 1) * k) : y % k ≠ 0 := by
  intro h
  have e := Nat.div_add_mod y k
  rw [h, div_of (Nat.le_of_lt h1) h2, Nat.mul_comm] at e
  omega
theorem lo1 (y EQ E dM dm dl dx D : Nat) (y2 : (EQ + E) * 340282366920938463463374607431768211456 + dM * 18446744073709551616 ≤ y + (dm * 18446744073709551616 + dl) + dx)
    (b2 : dl + D ≤ D * 18446744073709551616) (b3 : dx + D ≤ D * 18446744073709551616) (b4 : dm + 2 * D ≤ D * 18446744073709551616) (hE : D ≤ E) (d0 : 0 < D) : EQ * 340282366920938463463374607431768211456 < y := by omega
theorem lo2 (y EQ dM dm dl dx D : Nat) (y2 : EQ * 340282366920938463463374607431768211456 + dM * 18446744073709551616 ≤ y + (dm * 18446744073709551616 + dl) + dx)
    (b2 : dl + D ≤ D * 18446744073709551616) (b3 : dx + D ≤ D * 18446744073709551616) (b4 : dm + 2 * D ≤ dM) (d0 : 0 < D) : EQ * 340282366920938463463374607431768211456 < y := by omega
theorem cut_eq {a d hi lo x s : Nat} (R : Row a d hi lo) (hx : x < 2 ^ 64) (hf : Far (x * a) (d * 2 ^ (128 + s)) (d * 2 ^ 64)) : cut x hi lo s = unr (x * a) (d * 2 ^ (128 + s)) := by
  obtain ⟨d0, h, l, ra, rb⟩ := R
  obtain ⟨H, eH⟩ : ∃ H, H = x * hi / 2 ^ 64 := ⟨_, rfl⟩
  obtain ⟨M, eM⟩ : ∃ M, M = x * hi % 2 ^ 64 := ⟨_, rfl⟩
  obtain ⟨m, em⟩ : ∃ m, m = x * lo / 2 ^ 64 := ⟨_, rfl⟩
  obtain ⟨l2, el⟩ : ∃ l2, l2 = x * lo % 2 ^ 64 := ⟨_, rfl⟩
  have e1 : x * hi = 2 ^ 64 * H + M := by rw [eH, eM]; exact (Nat.div_add_mod _ _).symm
  have e2 : x * lo = 2 ^ 64 * m + l2 := by rw [em, el]; exact (Nat.div_add_mod _ _).symm
  have hM : M < 2 ^ 64 := by rw [eM]; exact Nat.mod_lt _ (by decide)
  have hl2 : l2 < 2 ^ 64 := by rw [el]; exact Nat.mod_lt _ (by decide)
  have hm : m ≤ 2 ^ 64 - 2 := by
    have h1 : x * lo ≤ (2 ^ 64 - 1) * (2 ^ 64 - 1) := Nat.mul_le_mul (by omega) (by omega)
    have h2 : m ≤ (2 ^ 64 - 1) * (2 ^ 64 - 1) / 2 ^ 64 := by rw [em]; exact Nat.div_le_div_right h1
    exact Nat.le_trans h2 (by decide)
  -- times d
  have y1 : x * a + (d * m * 2 ^ 64 + d * l2) ≤ d * H * 2 ^ 128 + d * M * 2 ^ 64 := by
    have h1 : x * (a + d * lo) ≤ x * (d * hi * 2 ^ 64) := Nat.mul_le_mul_left _ rb
    have h2 : x * (a + d * lo) = x * a + d * (x * lo) := by rw [Nat.mul_add, Nat.mul_left_comm]
    have h3 : x * (d * hi * 2 ^ 64) = d * (x * hi) * 2 ^ 64 := by rw [← Nat.mul_assoc, Nat.mul_left_comm x d hi]
    rw [h2, h3, e1, e2] at h1
    have h4 : d * (2 ^ 64 * m + l2) = d * m * 2 ^ 64 + d * l2 := by rw [Nat.mul_add, Nat.mul_left_comm, Nat.mul_comm (2 ^ 64)]
    have h5 : d * (2 ^ 64 * H + M) * 2 ^ 64 = d * H * 2 ^ 128 + d * M * 2 ^ 64 := by
      rw [Nat.mul_add, Nat.add_mul, Nat.mul_left_comm, Nat.mul_comm (2 ^ 64), Nat.mul_assoc (d * H)]
    rw [h4, h5] at h1
    exact h1
  have y2 : d * H * 2 ^ 128 + d * M * 2 ^ 64 ≤ x * a + (d * m * 2 ^ 64 + d * l2) + d * x := by
    have h1 : x * (d * hi * 2 ^ 64) ≤ x * (a + d * lo + d) := Nat.mul_le_mul_left _ (Nat.le_of_lt ra)
    have h2 : x * (a + d * lo + d) = x * a + d * (x * lo) + d * x := by rw [Nat.mul_add, Nat.mul_add, Nat.mul_left_comm, Nat.mul_comm x d]
    have h3 : x * (d * hi * 2 ^ 64) = d * (x * hi) * 2 ^ 64 := by rw [← Nat.mul_assoc, Nat.mul_left_comm x d hi]
    rw [h2, h3, e1, e2] at h1
    have h4 : d * (2 ^ 64 * m + l2) = d * m * 2 ^ 64 + d * l2 := by rw [Nat.mul_add, Nat.mul_left_comm, Nat.mul_comm (2 ^ 64)]
    have h5 : d * (2 ^ 64 * H + M) * 2 ^ 64 = d * H * 2 ^ 128 + d * M * 2 ^ 64 := by
      rw [Nat.mul_add, Nat.add_mul, Nat.mul_left_comm, Nat.mul_comm (2 ^ 64), Nat.mul_assoc (d * H)]
    rw [h4, h5] at h1
    exact h1
  have b1 : d * M + d ≤ d * 2 ^ 64 := by rw [← Nat.mul_succ]; exact Nat.mul_le_mul_left _ hM
  have b2 : d * l2 + d ≤ d * 2 ^ 64 := by rw [← Nat.mul_succ]; exact Nat.mul_le_mul_left _ hl2
  have b3 : d * x + d ≤ d * 2 ^ 64 := by rw [← Nat.mul_succ]; exact Nat.mul_le_mul_left _ hx
  have b4 : d * m + 2 * d ≤ d * 2 ^ 64 := by
    have : d * (m + 2) ≤ d * 2 ^ 64 := Nat.mul_le_mul_left _ (by omega)
    rw [Nat.mul_add, Nat.mul_comm d 2] at this; exact this
  have ek : ∀ q, q * (d * 2 ^ (128 + s)) = d * 2 ^ s * q * 2 ^ 128 := fun q => by
    rw [Nat.pow_add, Nat.mul_comm (2 ^ 128), ← Nat.mul_assoc d, ← Nat.mul_assoc q, Nat.mul_comm q]
  have ek1 : ∀ q, (q + 1) * (d * 2 ^ (128 + s)) = d * 2 ^ s * q * 2 ^ 128 + d * 2 ^ s * 2 ^ 128 := fun q => by
    rw [ek, Nat.mul_add, Nat.add_mul, Nat.mul_one]
  have hE : d ≤ d * 2 ^ s := Nat.le_mul_of_pos_right _ (Nat.pow_pos (by decide))
  have eHs := Nat.div_add_mod H (2 ^ s)
  have hms : H % 2 ^ s < 2 ^ s := Nat.mod_lt _ (Nat.pow_pos (by decide))
  obtain ⟨Q, eQ⟩ : ∃ Q, Q = H / 2 ^ s := ⟨_, rfl⟩
  obtain ⟨h0, eh0⟩ : ∃ h0, h0 = H % 2 ^ s := ⟨_, rfl⟩
  rw [← eQ, ← eh0] at eHs
  rw [← eh0] at hms
  have dH : d * H = d * 2 ^ s * Q + d * h0 := by rw [← eHs, Nat.mul_add, Nat.mul_assoc]
  have b5 : d * h0 + d ≤ d * 2 ^ s := by rw [← Nat.mul_succ]; exact Nat.mul_le_mul_left _ hms
  unfold cut unr
  rw [← eH, ← eM, ← em]
  simp only [Nat.reducePow] at *
  by_cases c0 : h0 = 0
  · rw [if_neg (by rw [← eh0]; simpa using c0)]
    subst c0
    rw [Nat.mul_zero, Nat.add_zero] at dH
    rw [Nat.add_zero] at eHs
    by_cases c1 : M < m
    · have q1 : d * M + d ≤ d * m := by rw [← Nat.mul_succ]; exact Nat.mul_le_mul_left _ c1
      have hQ : 1 ≤ Q := by
        rcases Nat.eq_zero_or_pos Q with h | h
        · rw [h, Nat.mul_zero] at dH
          rw [dH] at y1
          omega
        · exact h
      obtain ⟨q, rfl⟩ : ∃ q, Q = q + 1 := ⟨Q - 1, by omega⟩
      have eq1 : d * 2 ^ s * (q + 1) = d * 2 ^ s * q + d * 2 ^ s := by rw [Nat.mul_add, Nat.mul_one]
      rw [dH, eq1] at y1 y2
      have k1 : q * (d * 2 ^ (128 + s)) < x * a := by rw [ek]; exact lo1 _ _ _ _ _ _ _ _ y2 b2 b3 b4 hE d0
      have k2 : x * a < (q + 1) * (d * 2 ^ (128 + s)) := by rw [ek1]; omega
      rw [div_of (Nat.le_of_lt k1) k2, if_neg (mod_ne k1 k2), if_pos c1, if_pos (by omega)]
      have : (H - 1) / 2 ^ s = q := by
        have hp : 0 < 2 ^ s := Nat.pow_pos (by decide)
        have e8 : (q + 1) * 2 ^ s = H := by rw [Nat.mul_comm]; exact eHs
        have e9 : (q + 1) * 2 ^ s = q * 2 ^ s + 2 ^ s := by rw [Nat.add_mul, Nat.one_mul]
        apply div_of
        · omega
        · omega
      rw [this]
    · rw [if_neg c1]
      have eqm : (M + 18446744073709551616 - m) % 18446744073709551616 = M - m := by omega
      rw [eqm, ← eQ]
      rw [dH] at y1 y2
      by_cases c2 : 1 < M - m
      · have q1 : d * m + 2 * d ≤ d * M := by
          have : d * (m + 2) ≤ d * M := Nat.mul_le_mul_left _ (by omega)
          rw [Nat.mul_add, Nat.mul_comm d 2] at this; exact this
        have k1 : Q * (d * 2 ^ (128 + s)) < x * a := by rw [ek]; exact lo2 _ _ _ _ _ _ _ y2 b2 b3 q1 d0
        have k2 : x * a < (Q + 1) * (d * 2 ^ (128 + s)) := by rw [ek1]; omega
        rw [div_of (Nat.le_of_lt k1) k2, if_neg (mod_ne k1 k2), if_pos c2]
      · have q1 : d * M ≤ d * m + d := by
          have : d * M ≤ d * (m + 1) := Nat.mul_le_mul_left _ (by omega)
          rw [Nat.mul_add, Nat.mul_one] at this; exact this
        have q2 : d * m ≤ d * M := Nat.mul_le_mul_left _ (by omega)
        have hxa : x * a = Q * (d * 2 ^ (128 + s)) := by
          have e := ek Q
          rcases hf Q with h | h | h
          · exact h
          · rw [e] at h; omega
          · rw [e] at h; omega
        have hk0 : 0 < d * 2 ^ (128 + s) := Nat.mul_pos d0 (Nat.pow_pos (by decide))
        rw [hxa, Nat.mul_div_cancel _ hk0, if_pos (Nat.mul_mod_left _ _), if_neg c2]
  · rw [if_pos (by rw [← eh0]; exact c0)]
    have b6 : d ≤ d * h0 := Nat.le_mul_of_pos_right _ (Nat.pos_of_ne_zero c0)
    rw [dH] at y1 y2
    have k1 : Q * (d * 2 ^ (128 + s)) < x * a := by rw [ek]; exact lo1 _ _ _ _ _ _ _ _ y2 b2 b3 b4 b6 d0
    have k2 : x * a < (Q + 1) * (d * 2 ^ (128 + s)) := by rw [ek1]; omega
    rw [div_of (Nat.le_of_lt k1) k2, if_neg (mod_ne k1 k2), ← eQ]
/-- two neighbouring fractions a/b, c/d about num/den: how near z*num/den can come to a whole number -/
theorem about {a b c d num den z n : Int} (det : b * c = a * d + 1) (hb : 1 ≤ b) (hd : 1 ≤ d) (hz : 0 < z) (hX : z < b + d) :
    z = (z * c - n * d) * b + (n * b - z * a) * d ∧ z * num - n * den = (z * c - n * d) * (b * num - a * den) - (n * b - z * a) * (c * den - d * num) ∧
    ((1 ≤ z * c - n * d ∧ n * b - z * a ≤ 0) ∨ (z * c - n * d ≤ 0 ∧ 1 ≤ n * b - z * a)) := by
  have e1 : z = (z * c - n * d) * b + (n * b - z * a) * d := by
    have : (z * c - n * d) * b + (n * b - z * a) * d = z * (b * c - a * d) := by grind
    rw [this, det]; omega
  refine ⟨e1, ?_, ?_⟩
  · have h2 : (z * c - n * d) * (b * num - a * den) - (n * b - z * a) * (c * den - d * num) = (z * num - n * den) * (b * c - a * d) := by grind
    rw [h2, det]; omega
  · generalize z * c - n * d = u at *
    generalize n * b - z * a = v at *
    by_cases hu : 1 ≤ u
    · by_cases hv : v ≤ 0
      · exact .inl ⟨hu, hv⟩
      · have h1 : b ≤ u * b := by have := Int.mul_le_mul_of_nonneg_right hu (show (0 : Int) ≤ b by omega); omega
        have h2 : d ≤ v * d := by have := Int.mul_le_mul_of_nonneg_right (show (1 : Int) ≤ v by omega) (show (0 : Int) ≤ d by omega); omega
        omega
    · by_cases hv : 1 ≤ v
      · exact .inr ⟨by omega, hv⟩
      · have h1 : u * b ≤ 0 := Int.mul_nonpos_of_nonpos_of_nonneg (by omega) (by omega)
        have h2 : v * d ≤ 0 := Int.mul_nonpos_of_nonpos_of_nonneg (by omega) (by omega)
        omega
/-- neighbouring fractions by division with remainder -/
def go : Nat → Nat → Nat → Nat → Nat → Nat → Nat → Nat → Nat × Nat × Nat × Nat
  | 0, p0, q0, p1, q1, _, _, _ => (p1, q1, p0, q0)
  | f + 1, p0, q0, p1, q1, r0, r1, X =>
    if r1 = 0 ∨ X ≤ r0 / r1 * q1 + q0 then (p1, q1, p0 + (X - q0) / q1 * p1, q0 + (X - q0) / q1 * q1)
    else go f p1 q1 (r0 / r1 * p1 + p0) (r0 / r1 * q1 + q0) r1 (r0 % r1) X
def okc2 (num den X Xm W a b c d : Nat) : Bool :=
  decide (a * den ≤ b * num) && (decide (d * num ≤ c * den) && (decide (b * c = a * d + 1) && (decide (1 ≤ b) && (decide (1 ≤ d) && (decide (X ≤ b + d) &&
  ((decide (b * num = a * den) || (decide (X ≤ b) || decide (W < (b * num - a * den) * ((Xm + b - 1) / b)))) && (decide (W < (b * num - a * den) + (c * den - d * num)) &&
  ((decide (c * den = d * num) || (decide (X ≤ d) || decide (2 * W ≤ (c * den - d * num) * ((Xm + d - 1) / d)))) && decide (2 * W ≤ (b * num - a * den) + (c * den - d * num))))))))))
def okc (num den X Xm W : Nat) : Bool :=
  match go 200 0 1 1 0 num den X with
  | (p1, q1, p0, q0) => okc2 num den X Xm W p1 q1 p0 q0 || okc2 num den X Xm W p0 q0 p1 q1
theorem ceil_le {X b u : Nat} (hb : 1 ≤ b) (h : X ≤ u * b) : (X + b - 1) / b ≤ u := by
  rw [Nat.div_le_iff_le_mul_add_pred (by omega), Nat.mul_comm]
  omega
theorem far_of2 {num den X Xm W a b c d : Nat} (h : okc2 num den X Xm W a b c d = true) {z : Nat} (hz : 0 < z) (h1 : Xm ≤ z) (h2 : z < X) : Far (z * num) den W := by
  unfold okc2 at h
  simp only [Bool.and_eq_true, Bool.or_eq_true, decide_eq_true_eq] at h
  obtain ⟨ha, hc, hdet, hb, hd, hX, hA, hAB, hB, hBA⟩ := h
  intro n
  obtain ⟨e1, e2, e3⟩ := about (a := a) (b := b) (c := c) (d := d) (num := num) (den := den) (z := z) (n := n) (by exact_mod_cast hdet) (by exact_mod_cast hb) (by exact_mod_cast hd) (by exact_mod_cast hz) (by omega)
  obtain ⟨ea, hea⟩ : ∃ ea, ea = b * num - a * den := ⟨_, rfl⟩
  obtain ⟨ed, hed⟩ : ∃ ed, ed = c * den - d * num := ⟨_, rfl⟩
  have ca : ((b : Int) * num - a * den) = (ea : Int) := by rw [hea]; rw [Int.ofNat_sub ha]; simp
  have cd : ((c : Int) * den - d * num) = (ed : Int) := by rw [hed]; rw [Int.ofNat_sub hc]; simp
  rw [ca, cd] at e2
  rw [← hea, ← hed] at hAB hBA
  rw [← hea] at hA
  rw [← hed] at hB
  generalize (z : Int) * c - n * d = u at *
  generalize (n : Int) * b - z * a = v at *
  rcases e3 with ⟨hu, hv⟩ | ⟨hu, hv⟩
  · obtain ⟨u', rfl⟩ : ∃ u' : Nat, u = u' := ⟨u.toNat, by omega⟩
    obtain ⟨v', rfl⟩ : ∃ v' : Nat, v = -(v' : Int) := ⟨(-v).toNat, by omega⟩
    have e4 : (z * num : Nat) = n * den + (u' * ea + v' * ed) := by
      have : ((z * num : Nat) : Int) = ((n * den + (u' * ea + v' * ed) : Nat) : Int) := by push_cast; rw [Int.neg_mul] at e2; omega
      exact_mod_cast this
    by_cases hv0 : v' = 0
    · subst hv0
      have e5 : z = u' * b := by have : (z : Int) = ((u' * b : Nat) : Int) := by push_cast; simpa using e1
                                 exact_mod_cast this
      rcases hA with h | h | h
      · left; rw [e4, hea, h]; simp
      · have : b ≤ u' * b := Nat.le_mul_of_pos_left _ (by omega)
        omega
      · right; left
        have h6 : ea * ((Xm + b - 1) / b) ≤ ea * u' := Nat.mul_le_mul_left _ (ceil_le hb (by omega))
        rw [e4, Nat.mul_comm u']; omega
    · right; left
      have h6 : ea ≤ u' * ea := Nat.le_mul_of_pos_left _ (by omega)
      have h7 : ed ≤ v' * ed := Nat.le_mul_of_pos_left _ (by omega)
      omega
  · obtain ⟨u', rfl⟩ : ∃ u' : Nat, u = -(u' : Int) := ⟨(-u).toNat, by omega⟩
    obtain ⟨v', rfl⟩ : ∃ v' : Nat, v = v' := ⟨v.toNat, by omega⟩
    have e4 : (n * den : Nat) = z * num + (u' * ea + v' * ed) := by
      have : ((n * den : Nat) : Int) = ((z * num + (u' * ea + v' * ed) : Nat) : Int) := by push_cast; rw [Int.neg_mul] at e2; omega
      exact_mod_cast this
    by_cases hu0 : u' = 0
    · subst hu0
      have e5 : z = v' * d := by have : (z : Int) = ((v' * d : Nat) : Int) := by push_cast; simpa using e1
                                 exact_mod_cast this
      rcases hB with h | h | h
      · left; rw [e4, hed, h]; simp
      · have : d ≤ v' * d := Nat.le_mul_of_pos_left _ (by omega)
        omega
      · right; right
        have h6 : ed * ((Xm + d - 1) / d) ≤ ed * v' := Nat.mul_le_mul_left _ (ceil_le hd (by omega))
        rw [e4, Nat.mul_comm v']; omega
    · right; right
      have h6 : ea ≤ u' * ea := Nat.le_mul_of_pos_left _ (by omega)
      have h7 : ed ≤ v' * ed := Nat.le_mul_of_pos_left _ (by omega)
      omega
theorem far_of {num den X Xm W : Nat} (h : okc num den X Xm W = true) {z : Nat} (hz : 0 < z) (h1 : Xm ≤ z) (h2 : z < X) : Far (z * num) den W := by
  unfold okc at h
  split at h
  rw [Bool.or_eq_true] at h
  rcases h with h | h
  · exact far_of2 h hz h1 h2
  · exact far_of2 h hz h1 h2
/-- for printing: what is scaled has nine noughts at its end -/
def okP (p : Int) : Bool := okc (2 ^ 9 * A p) (D p * 2 ^ 133) (2 ^ 55) 1 (D p * 2 ^ 64)
set_option maxRecDepth 100000 in
theorem allP : ((List.range 696).all fun i : Nat => okP ((i : Int) - 348)) = true := by decide +kernel
end FS
end Go.Proofs.YteckfdohgiddgaaGreatDoor
namespace Go.Proofs.YteckfdohgiddgaaGreatDoor
namespace FS
set_option linter.unusedVariables false
def In (ev : Bool) (L U x : Nat) : Prop := (L < x ∨ (ev = true ∧ L = x)) ∧ (x < U ∨ (ev = true ∧ x = U))
def dist (a b : Nat) : Nat := (a - b) + (b - a)
/-- the powers of ten, times 10^400 * 2^1140 -/
def Z (k : Nat) : Nat := 2 ^ k
theorem Z_pos (k : Nat) : 0 < Z k := Nat.two_pow_pos k
def X (k : Nat) : Nat := 10 ^ k
theorem X_pos (k : Nat) : 0 < X k := Nat.pow_pos (by decide)
def T (t : Nat) : Nat := X t * Z 1140
theorem T_pos (t : Nat) : 0 < T t := Nat.mul_pos (X_pos _) (Z_pos _)
theorem T_succ (t : Nat) : T (t + 1) = 10 * T t := by unfold T X; rw [Nat.pow_succ, Nat.mul_comm (10 ^ t), Nat.mul_assoc]
theorem T_add (t k : Nat) : T (t + k) = 10 ^ k * T t := by unfold T X; rw [Nat.pow_add, Nat.mul_comm (10 ^ t), Nat.mul_assoc]
theorem T_mono {a b : Nat} (h : a ≤ b) : T a ≤ T b := by
  obtain ⟨k, rfl⟩ := Nat.le.dest h
  rw [T_add]
  exact Nat.le_mul_of_pos_left _ (Nat.pow_pos (by decide))
theorem In.mid {ev : Bool} {L U x y z : Nat} (h1 : In ev L U x) (h2 : In ev L U z) (a : x ≤ y) (b : y ≤ z) : In ev L U y := by
  unfold In at *
  refine ⟨?_, ?_⟩
  · rcases h1.1 with h | ⟨h, e⟩
    · exact .inl (by omega)
    · by_cases c : y = x
      · exact .inr ⟨h, by omega⟩
      · exact .inl (by omega)
  · rcases h2.2 with h | ⟨h, e⟩
    · exact .inl (by omega)
    · by_cases c : y = z
      · exact .inr ⟨h, by omega⟩
      · exact .inl (by omega)
theorem In.le {ev : Bool} {L U x : Nat} (h : In ev L U x) : L ≤ x ∧ x ≤ U := by
  unfold In at h
  omega
structure Best (ev : Bool) (L U V d t : Nat) : Prop where
  i : In ev L U (d * T t)
  c : ∀ e, ¬ In ev L U (e * T (t + 1))
  n : ∀ e, In ev L U (e * T t) → dist (d * T t) V ≤ dist (e * T t) V ∧ (dist (d * T t) V = dist (e * T t) V → e = d ∨ d % 2 = 0)
theorem Best.same_t {ev : Bool} {L U V d t e u : Nat} (h1 : Best ev L U V d t) (h2 : Best ev L U V e u) : ¬ t < u := fun h => by
  obtain ⟨k, rfl⟩ := Nat.le.dest (show t + 1 ≤ u from h)
  apply h1.c (e * 10 ^ k)
  rw [Nat.mul_assoc, ← T_add]
  exact h2.i
theorem mul_lt_T {a b t : Nat} (h : a < b) : a * T t + T t ≤ b * T t := by
  have : (a + 1) * T t ≤ b * T t := Nat.mul_le_mul_right _ h
  rw [Nat.add_mul, Nat.one_mul] at this
  exact this
theorem Best.not_lt {ev : Bool} {L U V d t e : Nat} (h1 : Best ev L U V d t) (h2 : Best ev L U V e t) : ¬ d < e := fun h => by
  obtain ⟨a1, a2⟩ := h1.n e h2.i
  obtain ⟨b1, b2⟩ := h2.n d h1.i
  have ed := Nat.le_antisymm a1 b1
  have hT := T_pos t
  rcases a2 ed with h3 | h3
  · omega
  · rcases b2 ed.symm with h4 | h4
    · omega
    · have h5 : d + 1 < e := by omega
      have m1 := mul_lt_T (t := t) h
      have m2 := mul_lt_T (t := t) h5
      have e1 : (d + 1) * T t = d * T t + T t := by rw [Nat.add_mul, Nat.one_mul]
      obtain ⟨c1, _⟩ := h1.n (d + 1) (h1.i.mid h2.i (by omega) (by omega))
      rw [e1] at m2 c1
      unfold dist at *
      omega
theorem Best.ext {ev : Bool} {L U V d t e u : Nat} (h1 : Best ev L U V d t) (h2 : Best ev L U V e u) : d = e ∧ t = u := by
  have ht : t = u := by have := h1.same_t h2; have := h2.same_t h1; omega
  subst ht
  exact ⟨by have := h1.not_lt h2; have := h2.not_lt h1; omega, rfl⟩
/-- nearest to V among all multiples, the even one of two -/
def Near (V t r : Nat) : Prop := 2 * dist (r * T t) V ≤ T t ∧ (2 * dist (r * T t) V = T t → r % 2 = 0)
theorem Near.best {V t r : Nat} (h : Near V t r) (e : Nat) : dist (r * T t) V ≤ dist (e * T t) V ∧ (dist (r * T t) V = dist (e * T t) V → e = r ∨ r % 2 = 0) := by
  have hT := T_pos t
  obtain ⟨h1, h2⟩ := h
  rcases Nat.lt_trichotomy e r with c | c | c
  · have := mul_lt_T (t := t) c
    unfold dist at *
    refine ⟨by omega, fun h3 => .inr (h2 (by omega))⟩
  · subst c; exact ⟨Nat.le_refl _, fun _ => .inl rfl⟩
  · have := mul_lt_T (t := t) c
    unfold dist at *
    refine ⟨by omega, fun h3 => .inr (h2 (by omega))⟩
/-- what lies between the bounds, as the multiples of one power of ten from a to b -/
structure Fine (ev : Bool) (L U V t a b r : Nat) : Prop where
  iff : ∀ e, In ev L U (e * T t) ↔ a ≤ e ∧ e ≤ b
  w : U < L + 10 * T t
  lo : L < V
  up : V < U
  s1 : V - L ≤ U - V
  s2 : U - V ≤ 2 * (V - L)
  ab : a ≤ b
  a0 : 0 < a
  nr : Near V t r
theorem Fine.r_in {ev : Bool} {L U V t a b r : Nat} (F : Fine ev L U V t a b r) (h : a < b) : a ≤ r ∧ r ≤ b := by
  have hT := T_pos t
  have ia := ((F.iff a).2 ⟨Nat.le_refl _, F.ab⟩).le
  have ib := ((F.iff b).2 ⟨F.ab, Nat.le_refl _⟩).le
  have hr := F.nr.1
  have h1 := F.lo
  have h2 := F.up
  have h3 := F.s1
  have h4 := F.s2
  have hir := F.iff r
  refine ⟨?_, ?_⟩
  · by_cases c : a ≤ r
    · exact c
    · exfalso
      have m1 := mul_lt_T (t := t) (show r < a by omega)
      have m2 := mul_lt_T (t := t) h
      have nL : r * T t ≤ L := by
        by_cases q : L < r * T t
        · have : In ev L U (r * T t) := ⟨.inl q, .inl (by omega)⟩
          have := hir.1 this
          omega
        · omega
      unfold dist at hr
      omega
  · by_cases c : r ≤ b
    · exact c
    · exfalso
      have m1 := mul_lt_T (t := t) (show b < r by omega)
      have m2 := mul_lt_T (t := t) h
      have nU : U ≤ r * T t := by
        by_cases q : r * T t < U
        · have : In ev L U (r * T t) := ⟨.inl (by omega), .inl q⟩
          have := hir.1 this
          omega
        · omega
      unfold dist at hr
      omega
/-- the search from the fine side -/
def fineD (a b r : Nat) : Nat := if a ≤ b / 10 * 10 then b / 10 else if a < b then r else a
def fineT (a b t : Nat) : Nat := if a ≤ b / 10 * 10 then t + 1 else t
theorem Fine.best {ev : Bool} {L U V t a b r : Nat} (F : Fine ev L U V t a b r) {d j : Nat} (hd : fineD a b r = d * 10 ^ j) (h10 : d % 10 ≠ 0) : Best ev L U V d (fineT a b t + j) := by
  have hT := T_pos t
  have ia := ((F.iff a).2 ⟨Nat.le_refl _, F.ab⟩).le
  have ib := ((F.iff b).2 ⟨F.ab, Nat.le_refl _⟩).le
  unfold fineD at hd
  unfold fineT
  by_cases c : a ≤ b / 10 * 10
  · rw [if_pos c] at hd ⊢
    have hlt : b < a + 10 := by
      by_cases q : b < a + 10
      · exact q
      · exfalso
        have m : (a + 10) * T t ≤ b * T t := Nat.mul_le_mul_right _ (by omega)
        rw [Nat.add_mul] at m
        have := F.w
        omega
    have uniq : ∀ e, In ev L U (e * T (t + 1)) ↔ e = b / 10 := fun e => by
      rw [T_succ, ← Nat.mul_assoc, F.iff]
      omega
    have up : ∀ e k, In ev L U (e * T (t + 1 + k)) ↔ e * 10 ^ k = b / 10 := fun e k => by
      rw [T_add, ← Nat.mul_assoc]; exact uniq _
    refine ⟨?_, fun e he => ?_, fun e he => ?_⟩
    · rw [up]; exact hd.symm
    · rw [Nat.add_assoc (t + 1), up, hd, Nat.pow_succ] at he
      have : e * 10 = d := by
        have hp : 0 < 10 ^ j := Nat.pow_pos (by decide)
        have h1 : (e * 10) * 10 ^ j = d * 10 ^ j := by rw [← he, Nat.mul_assoc, Nat.mul_comm 10]
        exact Nat.eq_of_mul_eq_mul_right hp h1
      omega
    · rw [up, hd] at he
      have : e = d := Nat.eq_of_mul_eq_mul_right (Nat.pow_pos (by decide)) he
      subst this
      exact ⟨Nat.le_refl _, fun _ => .inl rfl⟩
  · rw [if_neg c] at hd ⊢
    have none : ∀ e, ¬ In ev L U (e * T (t + 1)) := fun e he => by
      rw [T_succ, ← Nat.mul_assoc, F.iff] at he
      omega
    have key : ∀ x, In ev L U (x * T t) → x % 10 ≠ 0 := fun x hx h0 => by
      apply none (x / 10)
      rw [T_succ, ← Nat.mul_assoc, show x / 10 * 10 = x by omega]
      exact hx
    have fin : ∀ x, In ev L U (x * T t) → (∀ e, In ev L U (e * T t) → dist (x * T t) V ≤ dist (e * T t) V ∧ (dist (x * T t) V = dist (e * T t) V → e = x ∨ x % 2 = 0)) → x = d * 10 ^ j → Best ev L U V d (t + j) := fun x hx hn he => by
      have hj : j = 0 := by
        cases j with
        | zero => rfl
        | succ j => exact absurd (by rw [he, Nat.pow_succ, ← Nat.mul_assoc]; exact Nat.mul_mod_left _ _) (key x hx)
      subst hj
      rw [Nat.pow_zero, Nat.mul_one] at he
      subst he
      exact ⟨hx, none, hn⟩
    by_cases c2 : a < b
    · rw [if_pos c2] at hd
      exact fin r ((F.iff r).2 (F.r_in c2)) (fun e _ => F.nr.best e) hd
    · rw [if_neg c2] at hd
      refine fin a ((F.iff a).2 ⟨Nat.le_refl _, F.ab⟩) (fun e he => ?_) hd
      have := (F.iff e).1 he
      obtain rfl : e = a := by omega
      exact ⟨Nat.le_refl _, fun _ => .inl rfl⟩
/-- the search from the coarse side: the first power of ten at which the multiple below or the one above lies between the bounds -/
theorem coarse_best {ev : Bool} {L U V t d : Nat} (lo : L < V) (up : V < U) (h1 : d * T t ≤ V) (h2 : V < (d + 1) * T t) (hno : ∀ e, ¬ In ev L U (e * T (t + 1))) :
    (In ev L U (d * T t) → (¬ In ev L U ((d + 1) * T t) ∨ V - d * T t < (d + 1) * T t - V ∨ (V - d * T t = (d + 1) * T t - V ∧ d % 2 = 0)) → Best ev L U V d t) ∧
    (In ev L U ((d + 1) * T t) → ¬ (In ev L U (d * T t) ∧ (V - d * T t < (d + 1) * T t - V ∨ (V - d * T t = (d + 1) * T t - V ∧ d % 2 = 0))) → Best ev L U V (d + 1) t) := by
  have hT := T_pos t
  have e1 : (d + 1) * T t = d * T t + T t := by rw [Nat.add_mul, Nat.one_mul]
  refine ⟨fun hd hc => ⟨hd, hno, fun e he => ?_⟩, fun hd hc => ⟨hd, hno, fun e he => ?_⟩⟩
  · rcases Nat.lt_trichotomy e d with c | c | c
    · have := mul_lt_T (t := t) c
      unfold dist
      exact ⟨by omega, fun h => by omega⟩
    · subst c; exact ⟨Nat.le_refl _, fun _ => .inl rfl⟩
    · have hge : (d + 1) * T t ≤ e * T t := Nat.mul_le_mul_right _ c
      have hin : In ev L U ((d + 1) * T t) := hd.mid he (by omega) hge
      rcases hc with h | h | ⟨h, h3⟩
      · exact absurd hin h
      · unfold dist; exact ⟨by omega, fun h => by omega⟩
      · unfold dist; exact ⟨by omega, fun _ => .inr h3⟩
  · rcases Nat.lt_trichotomy e (d + 1) with c | c | c
    · have hle : e * T t ≤ d * T t := Nat.mul_le_mul_right _ (by omega)
      have hin : In ev L U (d * T t) := he.mid hd hle (by omega)
      have hc2 : (d + 1) * T t - V ≤ V - d * T t ∧ ((d + 1) * T t - V = V - d * T t → d % 2 = 1) := by
        constructor
        · by_cases q : (d + 1) * T t - V ≤ V - d * T t
          · exact q
          · exact absurd ⟨hin, .inl (by omega)⟩ hc
        · intro q
          by_cases q2 : d % 2 = 1
          · exact q2
          · exact absurd ⟨hin, .inr ⟨q.symm, by omega⟩⟩ hc
      unfold dist
      refine ⟨by omega, fun h => .inr ?_⟩
      have := hc2.2 (by omega)
      omega
    · subst c; exact ⟨Nat.le_refl _, fun _ => .inl rfl⟩
    · have := mul_lt_T (t := t) c
      unfold dist
      exact ⟨by omega, fun h => by omega⟩
/-- nothing at the power above, where neither neighbour lies between the bounds -/
theorem none_above {ev : Bool} {L U V t d : Nat} (lo : L < V) (up : V < U) (h1 : d * T t ≤ V) (h2 : V < (d + 1) * T t) (n1 : ¬ In ev L U (d * T t)) (n2 : ¬ In ev L U ((d + 1) * T t)) : ∀ e, ¬ In ev L U (e * T t) := fun e he => by
  have hV : In ev L U V := ⟨.inl lo, .inl up⟩
  by_cases c : e ≤ d
  · exact n1 (he.mid hV (Nat.mul_le_mul_right _ c) h1)
  · exact n2 (hV.mid he (Nat.le_of_lt h2) (Nat.mul_le_mul_right _ (by omega)))
end FS
end Go.Proofs.YteckfdohgiddgaaGreatDoor
namespace Go.Proofs.YteckfdohgiddgaaGreatDoor
namespace FS
set_option linter.unusedVariables false
/-- N / D is V in units of 10^κ; Un / D, Ov / D are the halves of the interval -/
structure DG (ev : Bool) (L U V κ N D Un Ov : Nat) : Prop where
  d0 : 0 < D
  lo : L < V
  up : V < U
  l0 : 0 < L
  eV : V * D = N * T κ
  eL : (V - L) * D = Un * T κ
  eU : (U - V) * D = Ov * T κ
  lt : N < D
  ge : D ≤ 10 * N
  sp : In ev L U (T κ) → 19 * D < 20 * N
  hi : U < 2 * T κ
  fin : D < (Un + Ov) * 10 ^ 18
/-- where d * 10^t lies against V, as the numbers n and rest tell -/
structure Rd (L U V t d n D u o : Nat) : Prop where
  le : d * T t ≤ V
  lt : V < (d + 1) * T t
  dn : (V - d * T t) * D = n * T t
  rs : ((d + 1) * T t - V) * D = (D - n) * T t
  eL : (V - L) * D = u * T t
  eU : (U - V) * D = o * T t
theorem cmpT {a b x y D t : Nat} (hD : 0 < D) (ha : a * D = x * T t) (hb : b * D = y * T t) : (a < b ↔ x < y) ∧ (a = b ↔ x = y) := by
  have hT := T_pos t
  constructor
  · constructor
    · intro h
      have := Nat.mul_lt_mul_of_pos_right h hD
      rw [ha, hb] at this
      exact Nat.lt_of_mul_lt_mul_right this
    · intro h
      have := Nat.mul_lt_mul_of_pos_right h hT
      rw [← ha, ← hb] at this
      exact Nat.lt_of_mul_lt_mul_right this
  · constructor
    · intro h
      rw [h, hb] at ha
      exact (Nat.eq_of_mul_eq_mul_right hT ha).symm
    · intro h
      rw [h, ← hb] at ha
      exact Nat.eq_of_mul_eq_mul_right hD ha
theorem DG.rd {ev : Bool} {L U V κ N D Un Ov i d n : Nat} (G : DG ev L U V κ N D Un Ov) (hi : i ≤ κ) (h : d * D + n = N * 10 ^ i) (hn : n < D) :
    Rd L U V (κ - i) d n D (Un * 10 ^ i) (Ov * 10 ^ i) := by
  have hT := T_pos (κ - i)
  have eT : T κ = 10 ^ i * T (κ - i) := by rw [← T_add]; congr 1; omega
  have e1 : V * D = (d * D + n) * T (κ - i) := by rw [h, G.eV, eT, Nat.mul_assoc]
  have e2 : d * T (κ - i) * D + n * T (κ - i) = V * D := by rw [e1, Nat.add_mul, Nat.mul_assoc, Nat.mul_assoc, Nat.mul_comm D]
  have le : d * T (κ - i) ≤ V := by
    apply Nat.le_of_mul_le_mul_right (c := D) _ G.d0
    omega
  have e3 : (d + 1) * T (κ - i) * D = V * D + (D - n) * T (κ - i) := by
    have h1 : (d + 1) * T (κ - i) * D = d * T (κ - i) * D + D * T (κ - i) := by
      rw [Nat.add_mul, Nat.one_mul, Nat.add_mul, Nat.mul_comm D]
    have h2 : D * T (κ - i) = n * T (κ - i) + (D - n) * T (κ - i) := by rw [← Nat.add_mul, Nat.add_sub_cancel' (Nat.le_of_lt hn)]
    omega
  have hp : 0 < (D - n) * T (κ - i) := Nat.mul_pos (by omega) hT
  have lt : V < (d + 1) * T (κ - i) := by
    apply Nat.lt_of_mul_lt_mul_right (a := D)
    omega
  refine ⟨le, lt, ?_, ?_, ?_, ?_⟩
  · rw [Nat.mul_sub_right_distrib]; omega
  · rw [Nat.mul_sub_right_distrib]; omega
  · rw [G.eL, eT, Nat.mul_assoc]
  · rw [G.eU, eT, Nat.mul_assoc]
theorem Rd.down {ev : Bool} {L U V t d n D u o : Nat} (R : Rd L U V t d n D u o) (hD : 0 < D) (lo : L < V) (up : V < U) : In ev L U (d * T t) ↔ n < u ∨ (n = u ∧ ev = true) := by
  have c := cmpT hD R.dn R.eL
  rw [← c.1, ← c.2]
  have := R.le
  unfold In
  cases ev <;> simp <;> omega
theorem Rd.upp {ev : Bool} {L U V t d n D u o : Nat} (R : Rd L U V t d n D u o) (hD : 0 < D) (lo : L < V) (up : V < U) : In ev L U ((d + 1) * T t) ↔ D - n < o ∨ (D - n = o ∧ ev = true) := by
  have c := cmpT hD R.rs R.eU
  rw [← c.1, ← c.2]
  have := R.lt
  unfold In
  cases ev <;> simp <;> omega
theorem Rd.near {L U V t d n D u o : Nat} (R : Rd L U V t d n D u o) (hD : 0 < D) : (V - d * T t < (d + 1) * T t - V ↔ n < D - n) ∧ (V - d * T t = (d + 1) * T t - V ↔ n = D - n) := cmpT hD R.dn R.rs
/-- what the reference answers -/
def dgDown (ev : Bool) (n u : Nat) : Prop := n < u ∨ (n = u ∧ ev = true)
/-- the answer d, when it is taken -/
theorem DG.take {ev : Bool} {L U V κ N D Un Ov i d n : Nat} (G : DG ev L U V κ N D Un Ov) (hi : i + 1 ≤ κ) (h : d * D + n = N * 10 ^ (i + 1)) (hn : n < D) (hno : ∀ e, ¬ In ev L U (e * T (κ - i)))
    (h1 : dgDown ev n (Un * 10 ^ (i + 1))) (h2 : ¬ dgDown ev (D - n) (Ov * 10 ^ (i + 1)) ∨ n < D - n ∨ (n = D - n ∧ d % 2 = 0)) : Best ev L U V d (κ - (i + 1)) ∧ d % 10 ≠ 0 := by
  have R := G.rd hi h hn
  have e : κ - (i + 1) + 1 = κ - i := by omega
  have hb := (coarse_best G.lo G.up R.le R.lt (by rw [e]; exact hno)).1 ((R.down G.d0 G.lo G.up).2 h1) (by
    rw [R.upp G.d0 G.lo G.up, (R.near G.d0).1, (R.near G.d0).2]; exact h2)
  refine ⟨hb, fun h10 => hno (d / 10) ?_⟩
  have : d * T (κ - (i + 1)) = d / 10 * T (κ - i) := by
    rw [← e, T_succ, ← Nat.mul_assoc]
    congr 1
    omega
  rw [← this]
  exact hb.i
/-- neither: there is no number of so few digits -/
theorem DG.none {ev : Bool} {L U V κ N D Un Ov i d n : Nat} (G : DG ev L U V κ N D Un Ov) (hi : i + 1 ≤ κ) (h : d * D + n = N * 10 ^ (i + 1)) (hn : n < D)
    (h1 : ¬ dgDown ev n (Un * 10 ^ (i + 1))) (h2 : ¬ dgDown ev (D - n) (Ov * 10 ^ (i + 1))) : (∀ e, ¬ In ev L U (e * T (κ - (i + 1)))) ∧ i + 1 < 18 := by
  have R := G.rd hi h hn
  refine ⟨none_above G.lo G.up R.le R.lt (fun c => h1 ((R.down G.d0 G.lo G.up).1 c)) (fun c => h2 ((R.upp G.d0 G.lo G.up).1 c)), ?_⟩
  unfold dgDown at h1 h2
  have h3 : (Un + Ov) * 10 ^ (i + 1) ≤ D := by
    rw [Nat.add_mul]
    omega
  have h4 := Nat.lt_of_le_of_lt h3 G.fin
  rcases Nat.lt_or_ge (i + 1) 18 with c | c
  · exact c
  · exact absurd (Nat.mul_le_mul_left (Un + Ov) (Nat.pow_le_pow_right (show 0 < 10 by decide) c)) (by omega)
/-- how many digits d has -/
theorem DG.size {ev : Bool} {L U V κ N D Un Ov i d n : Nat} (G : DG ev L U V κ N D Un Ov) (h : d * D + n = N * 10 ^ (i + 1)) (hn : n < D) : 10 ^ i ≤ d ∧ d < 10 ^ (i + 1) := by
  constructor
  · have h1 : 10 ^ i * D ≤ 10 ^ i * (10 * N) := Nat.mul_le_mul_left _ G.ge
    have h2 : 10 ^ i * (10 * N) = N * 10 ^ (i + 1) := by rw [Nat.pow_succ, ← Nat.mul_assoc, Nat.mul_comm]
    rcases Nat.lt_or_ge d (10 ^ i) with c | c
    · have h3 : (d + 1) * D ≤ 10 ^ i * D := Nat.mul_le_mul_right _ c
      rw [Nat.add_mul, Nat.one_mul] at h3
      omega
    · exact c
  · have h1 : N * 10 ^ (i + 1) < D * 10 ^ (i + 1) := Nat.mul_lt_mul_of_pos_right G.lt (Nat.pow_pos (by decide))
    apply Nat.lt_of_mul_lt_mul_right (a := D)
    rw [Nat.mul_comm (10 ^ (i + 1))]
    omega
theorem start' {ev : Bool} {L U τ : Nat} (h0 : 0 < L) (h1 : U < 2 * τ) (h : ¬ In ev L U τ) (e : Nat) : ¬ In ev L U (e * τ) := fun he => by
  rcases Nat.lt_or_ge e 2 with c | c
  · have : e = 0 ∨ e = 1 := by omega
    rcases this with rfl | rfl
    · rw [Nat.zero_mul] at he; unfold In at he; omega
    · rw [Nat.one_mul] at he; exact h he
  · have h2 : 2 * τ ≤ e * τ := Nat.mul_le_mul_right _ c
    unfold In at he
    omega
theorem one1 {ev : Bool} {L U τ : Nat} (h0 : 0 < L) (h1 : U < 2 * τ) (hT : 0 < τ) (e : Nat) : ¬ In ev L U (e * (10 * τ)) := fun he => by
  rcases Nat.eq_zero_or_pos e with c | c
  · subst c; rw [Nat.zero_mul] at he; unfold In at he; omega
  · have h2 : 10 * τ ≤ e * (10 * τ) := Nat.le_mul_of_pos_left _ c
    unfold In at he
    omega
theorem one2 {ev : Bool} {L U τ : Nat} (h0 : 0 < L) (h1 : U < 2 * τ) (h : In ev L U τ) (e : Nat) (he : In ev L U (e * τ)) : e = 1 := by
  rcases Nat.lt_or_ge e 2 with c | c
  · have : e = 0 ∨ e = 1 := by omega
    rcases this with rfl | rfl
    · rw [Nat.zero_mul] at he; unfold In at he; omega
    · rfl
  · have h2 : 2 * τ ≤ e * τ := Nat.mul_le_mul_right _ c
    unfold In at he
    omega
/-- at the start no whole number of units of 10^κ lies in the interval, or one does -/
theorem DG.start {ev : Bool} {L U V κ N D Un Ov : Nat} (G : DG ev L U V κ N D Un Ov) (h : ¬ In ev L U (T κ)) : ∀ e, ¬ In ev L U (e * T κ) := fun e he => by
  have h0 := G.l0
  have h1 := G.hi
  clear G
  generalize T κ = τ at *
  exact start' h0 h1 h e he
theorem DG.one {ev : Bool} {L U V κ N D Un Ov : Nat} (G : DG ev L U V κ N D Un Ov) (h : In ev L U (T κ)) : Best ev L U V 1 κ := by
  have h0 := G.l0
  have h1 := G.hi
  have hT := T_pos κ
  clear G
  refine ⟨by rw [Nat.one_mul]; exact h, fun e he => ?_, fun e he => ?_⟩
  · rw [T_succ] at he
    generalize T κ = τ at *
    exact one1 h0 h1 hT e he
  · generalize T κ = τ at *
    have := one2 h0 h1 h e he
    subst this
    exact ⟨Nat.le_refl _, fun _ => .inl rfl⟩
end FS
end Go.Proofs.YteckfdohgiddgaaGreatDoor
namespace Go.Proofs.YteckfdohgiddgaaGreatDoor
namespace FS
set_option linter.unusedVariables false
/-- the table's rows -/
def pmv (p : Int) : Nat := (A p + D p - 1) / D p
def hiOf (p : Int) : Nat := (pmv p + 18446744073709551615) / 18446744073709551616
def loOf (p : Int) : Nat := hiOf p * 18446744073709551616 - pmv p
theorem allH : ((List.range 696).all fun i : Nat => decide (hiOf ((i : Int) - 348) < 18446744073709551616)) = true := by decide +kernel
theorem hi_lt {p : Int} (h1 : -348 ≤ p) (h2 : p ≤ 347) : hiOf p < 2 ^ 64 := by
  have h := List.all_eq_true.1 allH (p + 348).toNat (List.mem_range.2 (by omega))
  rw [decide_eq_true_eq, show (((p + 348).toNat : Nat) : Int) - 348 = p by omega] at h
  exact h
theorem rowOf {p : Int} (h1 : -348 ≤ p) (h2 : p ≤ 347) : Row (A p) (D p) (hiOf p) (loOf p) := by
  have d0 := D_pos p
  have e0 : D p * pmv p ≤ A p + D p - 1 := Nat.mul_div_le _ _
  have e1 : A p + D p - 1 < D p * (pmv p + 1) := Nat.lt_mul_div_succ _ d0
  have l1 : pmv p ≤ hiOf p * 18446744073709551616 := by unfold hiOf; omega
  have l2 : loOf p < 18446744073709551616 := by unfold loOf hiOf; omega
  have l3 : D p * hiOf p * 18446744073709551616 = D p * pmv p + D p * loOf p := by
    rw [Nat.mul_assoc, ← Nat.mul_add]; congr 1; unfold loOf; omega
  rw [Nat.mul_add, Nat.mul_one] at e1
  refine ⟨d0, hi_lt h1 h2, l2, ?_, ?_⟩
  · show D p * hiOf p * 18446744073709551616 < _; omega
  · show _ ≤ D p * hiOf p * 18446744073709551616; omega
theorem far_up {y d w s k : Nat} (h : Far y (d * 2 ^ (128 + k)) w) (hs : k ≤ s) : Far y (d * 2 ^ (128 + s)) w := fun n => by
  obtain ⟨j, rfl⟩ := Nat.le.dest hs
  have e : n * (d * 2 ^ (128 + (k + j))) = n * 2 ^ j * (d * 2 ^ (128 + k)) := by
    rw [← Nat.add_assoc, Nat.pow_add 2 (128 + k) j, ← Nat.mul_assoc d, Nat.mul_comm _ (2 ^ j), ← Nat.mul_assoc]
  rw [e]; exact h _
theorem cutP {p : Int} (h1 : -348 ≤ p) (h2 : p ≤ 347) {z s : Nat} (hz : 0 < z) (hz2 : z < 2 ^ 55) (hs : 5 ≤ s) : cut (2 ^ 9 * z) (hiOf p) (loOf p) s = unr (2 ^ 9 * z * A p) (D p * 2 ^ (128 + s)) := by
  have h := List.all_eq_true.1 allP (p + 348).toNat (List.mem_range.2 (by omega))
  rw [show (((p + 348).toNat : Nat) : Int) - 348 = p by omega] at h
  refine cut_eq (rowOf h1 h2) (by omega) (far_up (k := 5) ?_ hs)
  have := far_of h hz hz hz2
  rw [show 2 ^ 9 * z * A p = z * (2 ^ 9 * A p) by rw [Nat.mul_comm (2 ^ 9) z, Nat.mul_assoc]]
  exact this
/-- a number of quarters, the last one with a mark for what is cut off -/
def Q4 (u s t : Nat) : Prop := (u % 2 = 0 → 4 * s = u * t) ∧ (u % 2 = 1 → (u - 1) * t < 4 * s ∧ 4 * s < (u + 1) * t)
theorem or_one (q : Nat) : q ||| 1 = if q % 2 = 0 then q + 1 else q := by
  apply Nat.eq_of_testBit_eq
  intro i
  rw [Nat.testBit_or]
  split
  · rename_i h
    cases i with
    | zero => simp [Nat.testBit_zero]; omega
    | succ i =>
      rw [Nat.testBit_succ, Nat.testBit_succ, Nat.testBit_succ]
      simp [show (q + 1) / 2 = q / 2 by omega]
  · rename_i h
    cases i with
    | zero => simp [Nat.testBit_zero]; omega
    | succ i => rw [Nat.testBit_succ, Nat.testBit_succ]; simp
theorem unr_eq (n d : Nat) : unr n d = if n % d = 0 then n / d else if n / d % 2 = 0 then n / d + 1 else n / d := by
  unfold unr
  split
  · simp
  · rw [or_one]
theorem q4_of {n d s t : Nat} (hd : 0 < d) (ht : 0 < t) (h : s * (4 * d) = n * t) : Q4 (unr n d) s t := by
  have e := Nat.div_add_mod n d
  have hm := Nat.mod_lt n hd
  have sc : ∀ a, a * d = n → 4 * s = a * t := fun a ha => by
    apply Nat.eq_of_mul_eq_mul_right hd
    rw [← ha] at h
    rw [Nat.mul_right_comm a, ← h, Nat.mul_comm 4 s, Nat.mul_assoc]
  have sl : ∀ a, a * d < n → a * t < 4 * s := fun a ha => by
    apply Nat.lt_of_mul_lt_mul_right (a := d)
    have h1 : a * d * t < n * t := Nat.mul_lt_mul_of_pos_right ha ht
    rw [← h] at h1
    rw [Nat.mul_right_comm a, Nat.mul_comm 4 s, Nat.mul_assoc s]; exact h1
  have sg : ∀ a, n < a * d → 4 * s < a * t := fun a ha => by
    apply Nat.lt_of_mul_lt_mul_right (a := d)
    have h1 : n * t < a * d * t := Nat.mul_lt_mul_of_pos_right ha ht
    rw [← h] at h1
    rw [Nat.mul_right_comm a, Nat.mul_comm 4 s, Nat.mul_assoc s]; exact h1
  have c1 : n < (n / d + 1) * d := by rw [Nat.add_mul, Nat.one_mul, Nat.mul_comm]; omega
  have mono : ∀ a b, a ≤ b → a * d ≤ b * d := fun a b hab => Nat.mul_le_mul_right _ hab
  have c0 : n / d * d ≤ n := Nat.div_mul_le_self _ _
  rw [unr_eq]
  unfold Q4
  generalize n / d = q at *
  by_cases c : n % d = 0
  · rw [if_pos c]
    have e2 : q * d = n := by rw [Nat.mul_comm]; omega
    refine ⟨fun _ => sc _ e2, fun ho => ⟨sl _ ?_, sg _ c1⟩⟩
    have : (q - 1 + 1) * d = n := by rw [show q - 1 + 1 = q by omega]; exact e2
    rw [Nat.add_mul] at this; omega
  · rw [if_neg c]
    have c2 : q * d < n := by rw [Nat.mul_comm]; omega
    split
    · rename_i h2
      refine ⟨fun h => by omega, fun _ => ⟨sl _ ?_, sg _ ?_⟩⟩
      · simpa using c2
      · exact Nat.lt_of_lt_of_le c1 (mono (q + 1) (q + 1 + 1) (by omega))
    · rename_i h2
      refine ⟨fun h => by omega, fun _ => ⟨sl _ ?_, sg _ c1⟩⟩
      exact Nat.lt_of_le_of_lt (mono (q - 1) q (by omega)) c2
theorem Q4.le {u s t d : Nat} (h : Q4 u s t) (ht : 0 < t) : d * t ≤ s ↔ d ≤ u / 4 := by
  have mono : ∀ a b, a ≤ b → a * t ≤ b * t := fun a b hab => Nat.mul_le_mul_right _ hab
  have e4 : 4 * d * t = 4 * (d * t) := Nat.mul_assoc _ _ _
  rcases Nat.mod_two_eq_zero_or_one u with c | c
  · have h1 := h.1 c
    constructor
    · intro h2
      have : 4 * d ≤ u := by
        by_cases q : 4 * d ≤ u
        · exact q
        · have := mono (u + 1) (4 * d) (by omega); rw [Nat.add_mul] at this; omega
      omega
    · intro h2
      have := mono (4 * d) u (by omega)
      omega
  · obtain ⟨h1, h3⟩ := h.2 c
    constructor
    · intro h2
      have : 4 * d < u + 1 := by
        by_cases q : 4 * d < u + 1
        · exact q
        · have := mono (u + 1) (4 * d) (by omega); omega
      omega
    · intro h2
      have := mono (4 * d) (u - 1) (by omega)
      omega
theorem Q4.ge {u s t d : Nat} (h : Q4 u s t) (ht : 0 < t) : s ≤ d * t ↔ (u + 3) / 4 ≤ d := by
  have mono : ∀ a b, a ≤ b → a * t ≤ b * t := fun a b hab => Nat.mul_le_mul_right _ hab
  have e4 : 4 * d * t = 4 * (d * t) := Nat.mul_assoc _ _ _
  rcases Nat.mod_two_eq_zero_or_one u with c | c
  · have h1 := h.1 c
    constructor
    · intro h2
      have : u ≤ 4 * d := by
        by_cases q : u ≤ 4 * d
        · exact q
        · have := mono (4 * d + 1) u (by omega); rw [Nat.add_mul] at this; omega
      omega
    · intro h2
      have := mono u (4 * d) (by omega)
      omega
  · obtain ⟨h1, h3⟩ := h.2 c
    constructor
    · intro h2
      have : u ≤ 4 * d := by
        by_cases q : u ≤ 4 * d
        · exact q
        · have := mono (4 * d) (u - 1) (by omega); omega
      omega
    · intro h2
      have := mono (u + 1) (4 * d) (by omega)
      omega
theorem Q4.near {u V t : Nat} (h : Q4 u V (T t)) : Near V t ((u + 1 + u / 4 % 2) / 4) := by
  have hT := T_pos t
  obtain ⟨k, hk⟩ : ∃ k, k = u / 4 := ⟨_, rfl⟩
  have hu : u = 4 * k + u % 4 := by omega
  have e4 : ∀ a, (4 * k + a) * T t = 4 * (k * T t) + a * T t := fun a => by rw [Nat.add_mul, Nat.mul_assoc]
  have e1 : (k + 1) * T t = k * T t + T t := by rw [Nat.add_mul, Nat.one_mul]
  have hr : u % 4 = 0 ∨ u % 4 = 1 ∨ u % 4 = 2 ∨ u % 4 = 3 := by omega
  unfold Near dist
  rw [← hk]
  rcases hr with r | r | r | r
  · have h1 := h.1 (by omega)
    rw [show (u + 1 + k % 2) / 4 = k by omega]
    rw [show u = 4 * k + 0 by omega, e4] at h1
    exact ⟨by omega, fun h => by omega⟩
  · obtain ⟨h1, h2⟩ := h.2 (by omega)
    rw [show (u + 1 + k % 2) / 4 = k by omega]
    rw [show u - 1 = 4 * k + 0 by omega, e4] at h1
    rw [show u + 1 = 4 * k + 2 by omega, e4] at h2
    exact ⟨by omega, fun h => by omega⟩
  · have h1 := h.1 (by omega)
    rw [show u = 4 * k + 2 by omega, e4] at h1
    rcases Nat.mod_two_eq_zero_or_one k with q | q
    · rw [show (u + 1 + k % 2) / 4 = k by omega]
      exact ⟨by omega, fun h => by omega⟩
    · rw [show (u + 1 + k % 2) / 4 = k + 1 by omega, e1]
      exact ⟨by omega, fun h => by omega⟩
  · obtain ⟨h1, h2⟩ := h.2 (by omega)
    rw [show (u + 1 + k % 2) / 4 = k + 1 by omega, e1]
    rw [show u - 1 = 4 * k + 2 by omega, e4] at h1
    rw [show u + 1 = 4 * k + 4 by omega, e4] at h2
    exact ⟨by omega, fun h => by omega⟩
end FS
end Go.Proofs.YteckfdohgiddgaaGreatDoor
namespace Go.Proofs.YteckfdohgiddgaaGreatDoor
namespace FS
set_option linter.unusedVariables false
/-- the floor of the logarithm of 2^x to the base 10, and of 3/4 * 2^x, as they are reckoned -/
def l10 (x : Int) : Int := x * 78913 / 262144
def skw (x : Int) : Int := (x * 631305 - 261663) / 2097152
def K4 : Nat := X 400
theorem K4_pos : 0 < K4 := X_pos _
theorem T_def (t : Nat) : T t = X t * Z 1140 := rfl
theorem K4_def : X 400 = K4 := rfl
theorem X_mul (a b : Nat) : X a * X b = X (a + b) := (Nat.pow_add 10 a b).symm
theorem Z_mul (a b : Nat) : Z a * Z b = Z (a + b) := (Nat.pow_add 2 a b).symm
/-- the unit of a float's last place, times 10^400 * 2^1140 -/
def ulp (e0 : Int) : Nat := Z (e0 + 1140).toNat * K4
def factsB (e0 : Int) : Bool :=
  let p := - l10 e0
  let q := - skw e0
  decide (-348 ≤ p) && (decide (p ≤ 347) && (decide (0 ≤ lp p + e0) && (decide (lp p + e0 ≤ 3) && (decide (T (400 - p).toNat ≤ ulp e0) && (decide (ulp e0 < 10 * T (400 - p).toNat) && ((decide (e0 = 0) || decide (T (400 - p).toNat < ulp e0)) &&
  (decide (-348 ≤ q) && (decide (q ≤ 347) && (decide (0 ≤ lp q + e0) && (decide (lp q + e0 ≤ 3) && (decide (4 * T (400 - q).toNat < 3 * ulp e0) && decide (3 * ulp e0 < 40 * T (400 - q).toNat))))))))))))
theorem factsAll : ((List.range 2046).all fun i : Nat => factsB ((i : Int) - 1074)) = true := by decide +kernel
structure Facts (e0 : Int) : Prop where
  p1 : -348 ≤ - l10 e0
  p2 : - l10 e0 ≤ 347
  p3 : 0 ≤ lp (- l10 e0) + e0
  p4 : lp (- l10 e0) + e0 ≤ 3
  w1 : T (400 - - l10 e0).toNat ≤ ulp e0
  w2 : ulp e0 < 10 * T (400 - - l10 e0).toNat
  w3 : e0 = 0 ∨ T (400 - - l10 e0).toNat < ulp e0
  q1 : -348 ≤ - skw e0
  q2 : - skw e0 ≤ 347
  q3 : 0 ≤ lp (- skw e0) + e0
  q4 : lp (- skw e0) + e0 ≤ 3
  v1 : 4 * T (400 - - skw e0).toNat < 3 * ulp e0
  v2 : 3 * ulp e0 < 40 * T (400 - - skw e0).toNat
theorem facts {e0 : Int} (h1 : -1074 ≤ e0) (h2 : e0 ≤ 971) : Facts e0 := by
  have h := List.all_eq_true.1 factsAll (e0 + 1074).toNat (List.mem_range.2 (by omega))
  rw [show (((e0 + 1074).toNat : Nat) : Int) - 1074 = e0 by omega] at h
  unfold factsB at h
  simp only [Bool.and_eq_true, Bool.or_eq_true, decide_eq_true_eq] at h
  obtain ⟨a1, a2, a3, a4, a5, a6, a7, b1, b2, b3, b4, b5, b6⟩ := h
  exact ⟨a1, a2, a3, a4, a5, a6, a7, b1, b2, b3, b4, b5, b6⟩
/-- a number of 64 bits times 2^e, times 10^400 * 2^1140 -/
def S (e : Int) (x : Nat) : Nat := x * (Z (e + 1140).toNat * K4)
theorem S_lt {e : Int} {x y : Nat} (h : x < y) : S e x < S e y := Nat.mul_lt_mul_of_pos_right h (Nat.mul_pos (Z_pos _) K4_pos)
theorem S_add (e : Int) (x y : Nat) : S e (x + y) = S e x + S e y := Nat.add_mul _ _ _
theorem S_sub (e : Int) (x y : Nat) : S e (x - y) = S e x - S e y := Nat.sub_mul _ _ _
theorem S_ulp {e0 : Int} {z : Nat} (h : 0 ≤ e0 - z + 1140) : S (e0 - z) (2 ^ z) = ulp e0 := by
  unfold S ulp
  rw [show (2 : Nat) ^ z = Z z from rfl, ← Nat.mul_assoc, Z_mul, show z + (e0 - z + 1140).toNat = (e0 + 1140).toNat by omega]
theorem key {p e : Int} {s : Nat} (hs : (s : Int) = -(e + lp p + 3)) (hp : p ≤ 400) (he : -1140 ≤ e) (x : Nat) :
    S e x * (4 * (D p * 2 ^ (128 + s))) = x * A p * T (400 - p).toNat := by
  have eA : A p = X p.toNat * Z (127 - lp p).toNat := rfl
  have eD : D p = X (-p).toNat * Z (lp p - 127).toNat := rfl
  have eT := T_def (400 - p).toNat
  have e2 : (2 : Nat) ^ (128 + s) = Z (128 + s) := rfl
  have h10 : X 400 * X (-p).toNat = X p.toNat * X (400 - p).toNat := by rw [X_mul, X_mul]; exact congrArg X (by omega)
  have h2 : Z (e + 1140).toNat * (Z (lp p - 127).toNat * (Z 2 * Z (128 + s))) = Z (127 - lp p).toNat * Z 1140 := by
    rw [Z_mul, Z_mul, Z_mul, Z_mul]; exact congrArg Z (by omega)
  have h4 : (4 : Nat) = Z 2 := rfl
  unfold S K4
  rw [eA, eD, eT, e2, h4]
  generalize X 400 = a at *
  generalize X (-p).toNat = b at *
  generalize X p.toNat = c at *
  generalize X (400 - p).toNat = d at *
  generalize Z (e + 1140).toNat = f at *
  generalize Z (lp p - 127).toNat = g at *
  generalize Z (127 - lp p).toNat = i at *
  generalize Z 1140 = j at *
  generalize Z (128 + s) = k at *
  generalize Z 2 = l at *
  have e1 : x * (f * a) * (l * (b * g * k)) = x * ((a * b) * (f * (g * (l * k)))) := by ac_rfl
  have e2 : x * (c * i) * (d * j) = x * ((c * d) * (i * j)) := by ac_rfl
  rw [e1, e2, h10, h2]
theorem in_iff {u v L U t : Nat} (h1 : Q4 u L t) (h2 : Q4 v U t) (ht : 0 < t) (m x : Nat) : In (m % 2 == 0) L U (x * t) ↔ (u + m % 2 + 3) / 4 ≤ x ∧ x ≤ (v - m % 2) / 4 := by
  have a1 := h1.ge (d := x) ht
  have a2 := h1.le (d := x) ht
  have b1 := h2.le (d := x) ht
  have b2 := h2.ge (d := x) ht
  unfold In
  generalize x * t = y at *
  rcases Nat.mod_two_eq_zero_or_one m with q | q
  · rw [q]; simp only [beq_self_eq_true, true_and, Nat.add_zero, Nat.sub_zero]
    omega
  · rw [q]; simp only [show ((1 : Nat) == 0) = false from rfl, Bool.false_eq_true, false_and, or_false]
    omega
/-- the shift -/
def sh (e0 p : Int) (z : Nat) : Nat := (-(e0 - z + lp p + 3)).toNat
theorem quart {e0 p : Int} {z y : Nat} (h1 : -348 ≤ p) (h2 : p ≤ 347) (h3 : 0 ≤ lp p + e0) (h4 : lp p + e0 ≤ 3) (hz : 11 ≤ z) (hz2 : z ≤ 63) (he : -1074 ≤ e0) (hy : 0 < y) (hy2 : y < 2 ^ 55) :
    Q4 (cut (2 ^ 9 * y) (hiOf p) (loOf p) (sh e0 p z)) (S (e0 - z) (2 ^ 9 * y)) (T (400 - p).toNat) := by
  have hs : ((sh e0 p z : Nat) : Int) = -(e0 - z + lp p + 3) := by unfold sh; omega
  rw [cutP h1 h2 hy hy2 (by omega)]
  exact q4_of (Nat.mul_pos (D_pos p) (Nat.two_pow_pos _)) (T_pos _) (key hs (by omega) (by omega) _)
/-- the bounds and the middle, in units of 2^(e0 - z) -/
def mid (m z : Nat) : Nat := m * 2 ^ z
def half (z : Nat) (sk : Bool) : Nat := if sk then 2 ^ (z - 2) else 2 ^ (z - 1)
def pOf (e0 : Int) (sk : Bool) : Int := if sk then - skw e0 else - l10 e0
def cutOf (e0 : Int) (z : Nat) (sk : Bool) (x : Nat) : Nat := cut x (hiOf (pOf e0 sk)) (loOf (pOf e0 sk)) (sh e0 (pOf e0 sk) z)
def dminOf (e0 : Int) (m z : Nat) (sk : Bool) : Nat := (cutOf e0 z sk (mid m z - half z sk) + m % 2 + 3) / 4
def dmaxOf (e0 : Int) (m z : Nat) (sk : Bool) : Nat := (cutOf e0 z sk (mid m z + 2 ^ (z - 1)) - m % 2) / 4
def roundOf (e0 : Int) (m z : Nat) (sk : Bool) : Nat := (cutOf e0 z sk (mid m z) + 1 + cutOf e0 z sk (mid m z) / 4 % 2) / 4
/-- a float m * 2^e0, its first bit moved z places up to the head of 64 -/
structure Flt (e0 : Int) (m z : Nat) (sk : Bool) : Prop where
  m0 : 0 < m
  e1 : -1074 ≤ e0
  e2 : e0 ≤ 971
  z1 : 11 ≤ z
  z2 : z ≤ 63
  lo : 2 ^ 63 ≤ m * 2 ^ z
  hi : m * 2 ^ z < 2 ^ 64
  k : sk = true → z = 11 ∧ m % 2 = 0 ∧ e0 ≠ -1074
def Lo (e0 : Int) (m : Nat) (z : Nat) (sk : Bool) : Nat := S (e0 - z) (mid m z - half z sk)
def Hi (e0 : Int) (m : Nat) (z : Nat) : Nat := S (e0 - z) (mid m z + 2 ^ (z - 1))
def Va (e0 : Int) (m : Nat) (z : Nat) : Nat := S (e0 - z) (mid m z)
theorem two_z {z : Nat} (h : 11 ≤ z) : 2 ^ z = 2 * 2 ^ (z - 1) ∧ 2 ^ (z - 1) = 2 * 2 ^ (z - 2) ∧ 2 ^ (z - 2) = 2 ^ 9 * 2 ^ (z - 11) ∧ 0 < 2 ^ (z - 11) := by
  refine ⟨?_, ?_, ?_, Nat.two_pow_pos _⟩
  · rw [← Nat.pow_succ']; congr 1; omega
  · rw [← Nat.pow_succ']; congr 1; omega
  · rw [← Nat.pow_add]; congr 1; omega
theorem fine_of {e0 : Int} {m z : Nat} {sk : Bool} (F : Flt e0 m z sk) :
    Fine (m % 2 == 0) (Lo e0 m z sk) (Hi e0 m z) (Va e0 m z) (400 - pOf e0 sk).toNat (dminOf e0 m z sk) (dmaxOf e0 m z sk) (roundOf e0 m z sk) := by
  obtain ⟨m0, he1, he2, hz1, hz2, hlo, hhi, hk⟩ := F
  obtain ⟨t1, t2, t3, t4⟩ := two_z hz1
  have F := facts he1 he2
  have hP : -348 ≤ pOf e0 sk ∧ pOf e0 sk ≤ 347 ∧ 0 ≤ lp (pOf e0 sk) + e0 ∧ lp (pOf e0 sk) + e0 ≤ 3 := by
    unfold pOf; cases sk
    · exact ⟨F.p1, F.p2, F.p3, F.p4⟩
    · exact ⟨F.q1, F.q2, F.q3, F.q4⟩
  obtain ⟨P1, P2, P3, P4⟩ := hP
  have hm : mid m z = 2 ^ 9 * (4 * m * 2 ^ (z - 11)) := by
    unfold mid; rw [t1, t2, t3, show 4 * m = m * 4 by omega]
    have : m * (2 * (2 * (2 ^ 9 * 2 ^ (z - 11)))) = 2 ^ 9 * (m * 4 * 2 ^ (z - 11)) := by
      generalize 2 ^ (z - 11) = a; generalize 2 ^ 9 = b
      rw [show m * (2 * (2 * (b * a))) = b * (m * (2 * 2) * a) by ac_rfl]
    exact this
  have hme : mid m z = m * 2 ^ z := rfl
  have hh : half z sk = 2 ^ 9 * ((if sk then 1 else 2) * 2 ^ (z - 11)) := by
    unfold half; cases sk
    · rw [if_neg (by simp), if_neg (by simp), t2, t3]; omega
    · rw [if_pos rfl, if_pos rfl, t3]; omega
  have hu : 2 ^ (z - 1) = 2 ^ 9 * (2 * 2 ^ (z - 11)) := by rw [t2, t3]; omega
  have ha1 : 2 ^ (z - 11) ≤ m * 2 ^ (z - 11) := Nat.le_mul_of_pos_left _ m0
  have hbig : 4 * (m * 2 ^ (z - 11)) < 2 ^ 55 := by
    have : 2 ^ 9 * (4 * m * 2 ^ (z - 11)) < 2 ^ 64 := by rw [← hm, hme]; exact hhi
    rw [Nat.mul_assoc] at this; omega
  have huB : 4 * (m * 2 ^ (z - 11)) + 2 * 2 ^ (z - 11) < 2 ^ 55 := by
    -- m * 2^z <= 2^64 - 2^z
    have h1 : (m + 1) * 2 ^ z ≤ 2 ^ 64 := by
      have hd : 2 ^ 64 = 2 ^ (64 - z) * 2 ^ z := by rw [← Nat.pow_add]; congr 1; omega
      have : m < 2 ^ (64 - z) := by
        apply Nat.lt_of_mul_lt_mul_right (a := 2 ^ z)
        rw [← hd]; exact hhi
      rw [hd]; exact Nat.mul_le_mul_right _ this
    rw [Nat.add_mul, Nat.one_mul, t1, t2, t3] at h1
    have e9 : m * (2 * (2 * (2 ^ 9 * 2 ^ (z - 11)))) = 2048 * (m * 2 ^ (z - 11)) := by
      generalize 2 ^ (z - 11) = a
      rw [show (2 : Nat) ^ 9 = 512 from rfl, show m * (2 * (2 * (512 * a))) = (2 * (2 * 512)) * (m * a) by ac_rfl]
    rw [e9] at h1
    omega
  have sub1 : mid m z - half z sk = 2 ^ 9 * (4 * m * 2 ^ (z - 11) - (if sk then 1 else 2) * 2 ^ (z - 11)) := by rw [hm, hh, ← Nat.mul_sub]
  have add1 : mid m z + 2 ^ (z - 1) = 2 ^ 9 * (4 * m * 2 ^ (z - 11) + 2 * 2 ^ (z - 11)) := by rw [hm, hu, ← Nat.mul_add]
  have e4 : 4 * m * 2 ^ (z - 11) = 4 * (m * 2 ^ (z - 11)) := Nat.mul_assoc _ _ _
  have hsk : (if sk then 1 else 2 : Nat) * 2 ^ (z - 11) ≤ 2 * 2 ^ (z - 11) := by cases sk <;> simp <;> omega
  have hsk0 : 0 < (if sk then 1 else 2 : Nat) * 2 ^ (z - 11) := by cases sk <;> simp <;> omega
  have hT := T_pos (400 - pOf e0 sk).toNat
  have qmin : Q4 (cutOf e0 z sk (mid m z - half z sk)) (Lo e0 m z sk) (T (400 - pOf e0 sk).toNat) := by
    unfold cutOf Lo; rw [sub1]; exact quart P1 P2 P3 P4 hz1 hz2 he1 (by omega) (by omega)
  have qmax : Q4 (cutOf e0 z sk (mid m z + 2 ^ (z - 1))) (Hi e0 m z) (T (400 - pOf e0 sk).toNat) := by
    unfold cutOf Hi; rw [add1]; exact quart P1 P2 P3 P4 hz1 hz2 he1 (by omega) (by omega)
  have qmid : Q4 (cutOf e0 z sk (mid m z)) (Va e0 m z) (T (400 - pOf e0 sk).toNat) := by
    unfold cutOf Va; rw [hm]; exact quart P1 P2 P3 P4 hz1 hz2 he1 (by omega) (by omega)
  have hb0 : half z sk < mid m z := by rw [hm, hh]; omega
  have u1 : Hi e0 m z = Va e0 m z + S (e0 - z) (2 ^ (z - 1)) := S_add _ _ _
  have u2 : Va e0 m z = Lo e0 m z sk + S (e0 - z) (half z sk) := by
    unfold Lo Va; rw [← S_add]; congr 1; omega
  have u3 : S (e0 - z) (2 ^ (z - 1)) = S (e0 - z) (2 ^ (z - 2)) + S (e0 - z) (2 ^ (z - 2)) := by rw [← S_add]; congr 1; omega
  have u4 : ulp e0 = S (e0 - z) (2 ^ (z - 1)) + S (e0 - z) (2 ^ (z - 1)) := by rw [← S_ulp (z := z) (by omega), ← S_add]; congr 1; omega
  have u5 : 0 < S (e0 - z) (2 ^ (z - 2)) := by have := S_lt (e := e0 - z) (show 0 < 2 ^ (z - 2) from Nat.two_pow_pos _); unfold S at *; omega
  have u6 : 0 < Lo e0 m z sk := by
    have := S_lt (e := e0 - z) (show 0 < mid m z - half z sk by omega)
    unfold Lo; unfold S at *; omega
  have hin : ∀ x, In (m % 2 == 0) (Lo e0 m z sk) (Hi e0 m z) (x * T (400 - pOf e0 sk).toNat) ↔ dminOf e0 m z sk ≤ x ∧ x ≤ dmaxOf e0 m z sk := fun x => in_iff qmin qmax hT m x
  have hs : (sk = false ∧ S (e0 - z) (half z sk) = S (e0 - z) (2 ^ (z - 1))) ∨ (sk = true ∧ S (e0 - z) (half z sk) = S (e0 - z) (2 ^ (z - 2))) := by
    cases sk
    · exact .inl ⟨rfl, rfl⟩
    · exact .inr ⟨rfl, rfl⟩
  have hw : Hi e0 m z < Lo e0 m z sk + 10 * T (400 - pOf e0 sk).toNat ∧ ((e0 = 0 ∧ sk = false) ∨ Lo e0 m z sk + T (400 - pOf e0 sk).toNat < Hi e0 m z) := by
    rcases hs with ⟨rfl, h⟩ | ⟨rfl, h⟩
    · have w2 := F.w2
      have w3 := F.w3
      simp only [pOf, Bool.false_eq_true, if_false] at *
      refine ⟨by omega, ?_⟩
      rcases w3 with h3 | h3
      · exact .inl ⟨h3, trivial⟩
      · exact .inr (by omega)
    · have v1 := F.v1
      have v2 := F.v2
      simp only [pOf, if_true] at *
      exact ⟨by omega, .inr (by omega)⟩
  have hab : ∃ x, In (m % 2 == 0) (Lo e0 m z sk) (Hi e0 m z) (x * T (400 - pOf e0 sk).toNat) := by
    rcases hw.2 with ⟨rfl, rfl⟩ | h
    · refine ⟨m, ?_⟩
      have e7 : m * T (400 - pOf 0 false).toNat = Va 0 m z := by
        have : (400 - pOf 0 false).toNat = 400 := by decide
        rw [this]
        rw [T_def, K4_def]
        unfold Va S mid
        rw [show (2 : Nat) ^ z = Z z from rfl]
        have e5 : m * Z z * (Z ((0 : Int) - z + 1140).toNat * K4) = m * (K4 * (Z z * Z ((0 : Int) - z + 1140).toNat)) := by ac_rfl
        rw [e5, Z_mul, show z + ((0 : Int) - z + 1140).toNat = 1140 by omega]
      rw [e7]
      exact ⟨.inl (by omega), .inl (by omega)⟩
    · refine ⟨Lo e0 m z sk / T (400 - pOf e0 sk).toNat + 1, ?_⟩
      have c1 := Nat.div_mul_le_self (Lo e0 m z sk) (T (400 - pOf e0 sk).toNat)
      have c2 : Lo e0 m z sk < (Lo e0 m z sk / T (400 - pOf e0 sk).toNat + 1) * T (400 - pOf e0 sk).toNat := by rw [Nat.mul_comm]; exact Nat.lt_mul_div_succ _ hT
      have c3 : (Lo e0 m z sk / T (400 - pOf e0 sk).toNat + 1) * T (400 - pOf e0 sk).toNat = Lo e0 m z sk / T (400 - pOf e0 sk).toNat * T (400 - pOf e0 sk).toNat + T (400 - pOf e0 sk).toNat := by rw [Nat.add_mul, Nat.one_mul]
      exact ⟨.inl c2, .inl (by omega)⟩
  obtain ⟨x0, hx0⟩ := hab
  have hx1 := (hin x0).1 hx0
  refine ⟨hin, hw.1, by omega, by omega, ?_, ?_, by omega, ?_, qmid.near⟩
  · rcases hs with ⟨_, h⟩ | ⟨_, h⟩ <;> omega
  · rcases hs with ⟨_, h⟩ | ⟨_, h⟩ <;> omega
  · rcases Nat.eq_zero_or_pos (dminOf e0 m z sk) with h | h
    · exfalso
      have := ((hin 0).2 ⟨by omega, Nat.zero_le _⟩).le
      omega
    · exact h
end FS
end Go.Proofs.YteckfdohgiddgaaGreatDoor
namespace Go.Proofs
open Go.Shelf
shelf_lay Lays.n264 Nm 264 at Tryz as Tryz.laysN264
shelf_lay Lays.n129 Nm 129 at Tryz as Tryz.laysN129
shelf_lay LaysM.n284 Nm 284 at Tryz as Tryz.laysM284
shelf_lay Lays.n285 Nm 285 at Tryz as Tryz.laysN285
namespace YteckfdohgiddgaaGreatDoor
open Go.RowKit
set_option linter.unusedVariables false
set_option linter.unusedSimpArgs false
theorem mul64_any (x y : Nat) (hx : x < 18446744073709551616) (hy : y < 18446744073709551616) (w : World) :
    Calls Tryz.prog 283 #[.int .u64 x, .int .u64 y] w fun e w' => e = .returned (.tuple #[.int .u64 ((x * y / 18446744073709551616 : Nat) : Int), .int .u64 ((x * y % 18446744073709551616 : Nat) : Int)]) ∧ w' = w := Any.bits_Mul64 Tryz.laysN264 x y hx hy w
theorem l10_any (x : Int) (h0 : -10000 ≤ x) (h1 : x ≤ 10000) (w : World) :
    Calls Tryz.prog 228 #[.int .i64 x] w fun e w' => e = .returned (.int .i64 (FS.l10 x)) ∧ w' = w := by
  go_enter Tryz.func228, Tryz.ntmps228
  go_wp2
  go_ret
  exact ⟨rfl, rfl⟩
theorem lp_any (x : Int) (h0 : -10000 ≤ x) (h1 : x ≤ 10000) (w : World) :
    Calls Tryz.prog 266 #[.int .i64 x] w fun e w' => e = .returned (.int .i64 (FS.lp x)) ∧ w' = w := by
  go_enter Tryz.func266, Tryz.ntmps266
  go_wp2
  go_ret
  exact ⟨rfl, rfl⟩
theorem skw_any (x : Int) (h0 : -10000 ≤ x) (h1 : x ≤ 10000) (w : World) :
    Calls Tryz.prog 264 #[.int .i64 x] w fun e w' => e = .returned (.int .i64 (FS.skw x)) ∧ w' = w := by
  go_enter Tryz.func264, Tryz.ntmps264
  go_wp2
  go_ret
  exact ⟨rfl, rfl⟩
theorem b2u_any (b : Bool) (w : World) :
    Calls Tryz.prog 284 #[.bool b] w fun e w' => e = .returned (.int .u64 (if b then 1 else 0)) ∧ w' = w := by
  cases b <;> (
    go_enter Tryz.func284, Tryz.ntmps284
    go_wp2
    go_ret
    exact ⟨rfl, rfl⟩)
theorem nudge_any (u : Nat) (d : Int) (h0 : 0 ≤ (u : Int) + d) (h1 : (u : Int) + d < 18446744073709551616) (hd0 : -1 ≤ d) (hd1 : d ≤ 1) (w : World) :
    Calls Tryz.prog 268 #[.int .u64 u, .int .i64 d] w fun e w' => e = .returned (.int .u64 ((u : Int) + d)) ∧ w' = w := by
  go_enter Tryz.func268, Tryz.ntmps268
  go_wp2
  go_ret
  refine ⟨?_, rfl⟩
  apply ret_int
  simp only [IntKind.wrap_u64] at *
  omega
theorem ceil_any (u : Nat) (h : u < 18446744073709551613) (w : World) :
    Calls Tryz.prog 269 #[.int .u64 u] w fun e w' => e = .returned (.int .u64 (((u + 3) / 4 : Nat) : Int)) ∧ w' = w := by
  go_enter Tryz.func269, Tryz.ntmps269
  go_wp2
  go_ret
  refine ⟨?_, rfl⟩
  apply ret_int
  omega
theorem floor_any (u : Nat) (h : u < 18446744073709551616) (w : World) :
    Calls Tryz.prog 270 #[.int .u64 u] w fun e w' => e = .returned (.int .u64 ((u / 4 : Nat) : Int)) ∧ w' = w := by
  go_enter Tryz.func270, Tryz.ntmps270
  go_wp2
  go_ret
  refine ⟨?_, rfl⟩
  apply ret_int
  omega
theorem and1 (n : Nat) (h : n < 18446744073709551616) : bits .and .u64 (n : Int) 1 = ((n % 2 : Nat) : Int) := by
  have := u64_and_nat n 1 h (by decide)
  rw [nat_mask1] at this
  exact this
theorem round_any (u : Nat) (h : u < 18446744073709551614) (w : World) :
    Calls Tryz.prog 271 #[.int .u64 u] w fun e w' => e = .returned (.int .u64 (((u + 1 + u / 4 % 2) / 4 : Nat) : Int)) ∧ w' = w := by
  have ha := and1 (u / 4) (by omega)
  rw [show ((u / 4 : Nat) : Int) = (u : Int) / 4 by omega, show ((u / 4 % 2 : Nat) : Int) = (u : Int) / 4 % 2 by omega] at ha
  have hb : 0 ≤ (u : Int) / 4 % 2 ∧ (u : Int) / 4 % 2 ≤ 1 := by omega
  obtain ⟨hb0, hb1⟩ := hb
  go_enter Tryz.func271, Tryz.ntmps271
  go_wp2
  go_ret
  refine ⟨?_, rfl⟩
  apply ret_int
  omega
end YteckfdohgiddgaaGreatDoor
end Go.Proofs
namespace Go.Proofs.YteckfdohgiddgaaGreatDoor
open Go.RowKit
set_option linter.unusedVariables false
set_option linter.unusedSimpArgs false
theorem and63_i64 : ∀ s : Nat, s < 64 → bits .and .i64 (s : Int) 63 = s := by decide +kernel
theorem or_u64 (a b : Nat) (ha : a < 18446744073709551616) (hb : b < 18446744073709551616) : bits .or .u64 (a : Int) (b : Int) = ((a ||| b : Nat) : Int) := u64_or_nat a b ha hb
set_option maxHeartbeats 1000000 in
set_option maxRecDepth 100000 in
theorem uscale_any (x hi lo s b o : Nat) (w : World) (hx : x < 18446744073709551616) (hh : hi < 18446744073709551616) (hl : lo < 18446744073709551616) (h1 : 18446744073709551616 ≤ x * hi) (hs : s ≤ 63)
    (c0 : w.cell? ⟨b, o, none⟩ = some (.int .u64 hi)) (c1 : w.cell? ⟨b, o + 1, none⟩ = some (.int .u64 lo)) (c2 : w.cell? ⟨b, o + 2, none⟩ = some (.int .i64 s)) :
    Calls Tryz.prog 267 #[.int .u64 x, .pointer (some ⟨b, o, none⟩)] w fun e w' => e = .returned (.int .u64 (FS.cut x hi lo s)) ∧ ∃ n, w' = w.drewN n := by
  have ha := and63_i64 s (by omega)
  have M1 := hd (mul64_any x hi hx hh)
  have M2 := hd (mul64_any x lo hx hl)
  have hH0 : 1 ≤ x * hi / 18446744073709551616 := by omega
  have hH : x * hi / 18446744073709551616 < 18446744073709551616 := by
    have : x * hi ≤ 18446744073709551615 * 18446744073709551615 := Nat.mul_le_mul (by omega) (by omega)
    omega
  have hM : x * hi % 18446744073709551616 < 18446744073709551616 := Nat.mod_lt _ (by decide)
  have hm : x * lo / 18446744073709551616 ≤ 18446744073709551614 := by
    have : x * lo ≤ 18446744073709551615 * 18446744073709551615 := Nat.mul_le_mul (by omega) (by omega)
    omega
  have hcut : Hd (FS.cut x hi lo s = (if x * hi / 18446744073709551616 / 2 ^ s * 2 ^ s ≠ x * hi / 18446744073709551616 then x * hi / 18446744073709551616 / 2 ^ s ||| 1
    else (if x * hi % 18446744073709551616 < x * lo / 18446744073709551616 then x * hi / 18446744073709551616 - 1 else x * hi / 18446744073709551616) / 2 ^ s ||| (if 1 < (x * hi % 18446744073709551616 + 18446744073709551616 - x * lo / 18446744073709551616) % 18446744073709551616 then 1 else 0))) := hd (by
    unfold FS.cut
    simp only [Nat.reducePow]
    generalize x * hi / 18446744073709551616 = H
    congr 1
    have := Nat.div_add_mod H (2 ^ s)
    rw [Nat.mul_comm] at this
    apply propext
    constructor
    · intro h e; rw [e] at this; omega
    · intro h e; rw [e] at this; omega)
  clear h1
  generalize x * hi / 18446744073709551616 = H at *
  generalize x * hi % 18446744073709551616 = M at *
  generalize x * lo / 18446744073709551616 = m at *
  generalize x * lo % 18446744073709551616 = l2 at *
  have hQ : H / 2 ^ s * 2 ^ s ≤ H := Nat.div_mul_le_self _ _
  have hQ2 : H / 2 ^ s ≤ H := Nat.div_le_self _ _
  have hQ4 : (H - 1) / 2 ^ s ≤ H - 1 := Nat.div_le_self _ _
  have z1 : ((H : Int) / 2 ^ s) = ((H / 2 ^ s : Nat) : Int) := by push_cast; rfl
  have z2 : (((H : Int) - 1) / 2 ^ s) = (((H - 1) / 2 ^ s : Nat) : Int) := by
    rw [show (H : Int) - 1 = ((H - 1 : Nat) : Int) by omega]; push_cast; rfl
  have z3 : IntKind.u64.wrap ((H : Int) / 2 ^ s * 2 ^ s) = ((H / 2 ^ s * 2 ^ s : Nat) : Int) := by
    rw [show (H : Int) / 2 ^ s * 2 ^ s = ((H / 2 ^ s * 2 ^ s : Nat) : Int) by push_cast; rfl, IntKind.wrap_u64]; omega
  have q3 : bits .or .u64 ((H : Int) / 2 ^ s) 1 = ((H / 2 ^ s ||| 1 : Nat) : Int) := by rw [z1]; exact or_u64 (H / 2 ^ s) 1 (by omega) (by decide)
  have q6 : bits .or .u64 ((H : Int) / 2 ^ s) 0 = ((H / 2 ^ s ||| 0 : Nat) : Int) := by rw [z1]; exact or_u64 (H / 2 ^ s) 0 (by omega) (by decide)
  have q5 : bits .or .u64 (((H : Int) - 1) / 2 ^ s) 1 = (((H - 1) / 2 ^ s ||| 1 : Nat) : Int) := by rw [z2]; exact or_u64 ((H - 1) / 2 ^ s) 1 (by omega) (by decide)
  have hH0z : (1 : Int) ≤ (H : Int) := by omega
  by_cases hz : H / 2 ^ s * 2 ^ s ≠ H
  · rw [if_pos hz] at hcut
    have t1 : (IntKind.u64.wrap ((H : Int) / 2 ^ s * 2 ^ s) != (H : Int)) = true := by rw [z3, bne_iff_ne]; exact fun e => hz (by exact_mod_cast e)
    clear q5 q6 hQ4 hz hQ z1 z2 z3 hQ2
    generalize H / 2 ^ s ||| 1 = r at *
    rw [hcut.o]
    clear hcut
    go_enter Tryz.func267, Tryz.ntmps267
    go_wp2_with (go_at_call 283; refine (M1.o _).mono ?_; rintro e w' ⟨rfl, rfl⟩)
    go_ret
    exact ⟨rfl, 0, by simp [World.drewN_zero]⟩
  · have hz2 : H / 2 ^ s * 2 ^ s = H := by omega
    rw [if_neg hz] at hcut
    have t1 : (IntKind.u64.wrap ((H : Int) / 2 ^ s * 2 ^ s) != (H : Int)) = false := by rw [z3, hz2]; simp
    clear hz hQ hz2 z1 z2 z3 hQ2
    by_cases hc : M < m
    · rw [if_pos hc, if_pos (by omega)] at hcut
      have hcz : (M : Int) < (m : Int) := by omega
      have hw : IntKind.u64.wrap ((M : Int) - (m : Int)) = (M : Int) - m + 18446744073709551616 := by rw [IntKind.wrap_u64]; omega
      have hd1 : (1 : Int) < (M : Int) - m + 18446744073709551616 := by omega
      clear q3 q6 hQ4 hc
      generalize (H - 1) / 2 ^ s ||| 1 = r at *
      rw [hcut.o]
      clear hcut
      go_enter Tryz.func267, Tryz.ntmps267
      go_wp2_with fail
      refine (M1.o _).mono ?_; rintro e w' ⟨rfl, rfl⟩
      go_wp2_with fail
      refine (M2.o _).mono ?_; rintro e w' ⟨rfl, rfl⟩
      go_wp2_with (go_at_call 284; refine (b2u_any _ _).mono ?_; rintro e w' ⟨rfl, rfl⟩)
      go_quiet ((go_at_call 284; exact Calls.quiet_of_same (b2u_any _ _)))
      go_wp2
      go_ret
      exact ⟨rfl, _, rfl⟩
    · have hcz : ¬ (M : Int) < (m : Int) := by omega
      have hcz2 : (m : Int) ≤ (M : Int) := by omega
      rw [if_neg hc, show (M + 18446744073709551616 - m) % 18446744073709551616 = M - m by omega] at hcut
      by_cases hD : 1 < M - m
      · have hd1 : (1 : Int) < (M : Int) - m := by omega
        rw [if_pos hD] at hcut
        clear q5 q6 hQ4 hc hD
        generalize H / 2 ^ s ||| 1 = r at *
        rw [hcut.o]
        clear hcut
        go_enter Tryz.func267, Tryz.ntmps267
        go_wp2_with fail
        refine (M1.o _).mono ?_; rintro e w' ⟨rfl, rfl⟩
        go_wp2_with fail
        refine (M2.o _).mono ?_; rintro e w' ⟨rfl, rfl⟩
        go_wp2_with (go_at_call 284; refine (b2u_any _ _).mono ?_; rintro e w' ⟨rfl, rfl⟩)
        go_quiet ((go_at_call 284; exact Calls.quiet_of_same (b2u_any _ _)))
        go_wp2
        go_ret
        exact ⟨rfl, _, rfl⟩
      · have hd1 : ¬ (1 : Int) < (M : Int) - m := by omega
        rw [if_neg hD] at hcut
        have hdd : decide ((1 : Int) < (M : Int) - m) = false := by simpa using hd1
        clear q5 q3 hQ4 hc hD hd1
        generalize H / 2 ^ s ||| 0 = r at *
        rw [hcut.o]
        clear hcut
        go_enter Tryz.func267, Tryz.ntmps267
        go_wp2_with fail
        refine (M1.o _).mono ?_; rintro e w' ⟨rfl, rfl⟩
        go_wp2_with fail
        refine (M2.o _).mono ?_; rintro e w' ⟨rfl, rfl⟩
        go_wp2_with (go_at_call 284; refine (b2u_any _ _).mono ?_; rintro e w' ⟨rfl, rfl⟩)
        go_quiet ((go_at_call 284; exact Calls.quiet_of_same (b2u_any _ _)))
        go_wp2
        go_ret
        exact ⟨rfl, _, rfl⟩
end Go.Proofs.YteckfdohgiddgaaGreatDoor
namespace Go.Proofs.YteckfdohgiddgaaGreatDoor
open Go.RowKit
set_option linter.unusedVariables false
set_option linter.unusedSimpArgs false
/-- the table, cell by cell -/
def powZ : List Int := (List.range 696).flatMap fun i : Nat => [(FS.hiOf ((i : Int) - 348) : Int), (FS.loOf ((i : Int) - 348) : Int)]
theorem flat2_len (f g : Nat → Int) : ∀ n : Nat, ((List.range n).flatMap fun i => [f i, g i]).length = 2 * n
  | 0 => rfl
  | n + 1 => by rw [List.range_succ, List.flatMap_append, List.length_append, flat2_len f g n]; simp; omega
theorem flat2_get (f g : Nat → Int) : ∀ (n i : Nat), i < n → ((List.range n).flatMap fun i => [f i, g i])[2 * i]? = some (f i) ∧ ((List.range n).flatMap fun i => [f i, g i])[2 * i + 1]? = some (g i) := by
  intro n
  induction n with
  | zero => intro i h; omega
  | succ n ih =>
    intro i h
    have hl := flat2_len f g n
    rw [List.range_succ, List.flatMap_append]
    by_cases hi : i < n
    · rw [List.getElem?_append_left (by omega), List.getElem?_append_left (by omega)]
      exact ih i hi
    · obtain rfl : i = n := by omega
      rw [List.getElem?_append_right (by omega), List.getElem?_append_right (by omega), hl]
      simp
theorem powZ_len : powZ.length = 1392 := flat2_len _ _ 696
theorem g10_named : Tryz.prog.globalNamed "internal/strconv.pow10Tab" = some 5 := by kernel_rfl
/-- the tables that the printing of floats reads -/
structure Tbl (w : World) : Prop where
  p : Lib.TabIs Tryz.prog w "internal/strconv.pow10Tab" .u64 powZ
  u : Lib.TabIs Tryz.prog w "internal/strconv.uint64pow10" .u64 Lib.pow10Tab
theorem Tbl.below {w w' : World} (h : Tbl w) (hb : Below w.heap.size w w') : Tbl w' := ⟨Lib.tabBelow_of_tabIs h.p w' hb, Lib.tabBelow_of_tabIs h.u w' hb⟩
theorem Tbl.row {w : World} (h : Tbl w) (i : Nat) (hi : i < 696) : w.cell? ⟨5, i * 2, none⟩ = some (.int .u64 (FS.hiOf ((i : Int) - 348))) ∧ w.cell? ⟨5, i * 2 + 1, none⟩ = some (.int .u64 (FS.loOf ((i : Int) - 348))) := by
  obtain ⟨a, b⟩ := flat2_get (fun i : Nat => (FS.hiOf ((i : Int) - 348) : Int)) (fun i : Nat => (FS.loOf ((i : Int) - 348) : Int)) 696 i hi
  have h1 := h.p.cell g10_named (2 * i) (by rw [powZ_len]; omega)
  have h2 := h.p.cell g10_named (2 * i + 1) (by rw [powZ_len]; omega)
  rw [List.getD_eq_getElem?_getD, show powZ[2 * i]? = _ from a] at h1
  rw [List.getD_eq_getElem?_getD, show powZ[2 * i + 1]? = _ from b] at h2
  rw [show i * 2 = 2 * i by omega]
  exact ⟨h1, h2⟩
theorem Tbl.lt {w : World} (h : Tbl w) : 5 < w.heap.size := World.block_lt_of_cell? w _ (h.row 0 (by decide)).1
set_option maxHeartbeats 1000000 in
set_option maxRecDepth 100000 in
theorem prescale_any (g i : Nat) (e lq : Int) (w : World) (hT : Tbl w) (hi : i < 696) (hg : 5 < g) (u0 u1 u2 : Value)
    (c0 : w.cell? ⟨g, 0, none⟩ = some u0) (c1 : w.cell? ⟨g, 1, none⟩ = some u1) (c2 : w.cell? ⟨g, 2, none⟩ = some u2)
    (f0 : w.frozen? ⟨g, 0, none⟩ = false) (f1 : w.frozen? ⟨g, 1, none⟩ = false) (f2 : w.frozen? ⟨g, 2, none⟩ = false)
    (he0 : -10000 ≤ e) (he1 : e ≤ 10000) (hl0 : -10000 ≤ lq) (hl1 : lq ≤ 10000) :
    Calls Tryz.prog 265 #[.pointer (some ⟨g, 0, none⟩), .int .i64 e, .int .i64 ((i : Int) - 348), .int .i64 lq] w fun x w' => x = .returned (.tuple #[]) ∧
      w' = ((w.setCell ⟨g, 0, none⟩ (.int .u64 (FS.hiOf ((i : Int) - 348)))).setCell ⟨g, 1, none⟩ (.int .u64 (FS.loOf ((i : Int) - 348)))).setCell ⟨g, 2, none⟩ (.int .i64 (-(e + lq + 3))) := by
  obtain ⟨r1, r2⟩ := hT.row i hi
  have hi2 : (i : Int) < 696 := by omega
  have e1 : (i : Int) - 348 - -348 = i := by omega
  have hne : 5 ≠ g := by omega
  generalize FS.hiOf ((i : Int) - 348) = a at *
  generalize FS.loOf ((i : Int) - 348) = b at *
  clear hT
  go_enter Tryz.func265, Tryz.ntmps265
  go_wp2
  go_end0
  exact ⟨rfl, rfl⟩
end Go.Proofs.YteckfdohgiddgaaGreatDoor
