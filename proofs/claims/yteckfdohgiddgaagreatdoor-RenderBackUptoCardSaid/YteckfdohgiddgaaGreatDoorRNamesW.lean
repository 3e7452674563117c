/- render.out: put and text. weirref29: text and list; the words of the answer. render.Names and its reference. render.out: put and text, and what they leave of another block. RenderNames: the law's walk. -/
import Derived.Test.YteckfdohgiddgaaGreatDoorUMb
import Derived.Test.YteckfdohgiddgaaGreatDoorBk
import Derived.Test.YteckfdohgiddgaaGreatDoorLin
import Derived.Test.YteckfdohgiddgaaGreatDoorLBase
import Derived.Test.YteckfdohgiddgaaGreatDoorLMm
import Derived.Deep.RegionHeld3
import Derived.Test.YteckfdohgiddgaaGreatDoorLOp
import Derived.Deep.RegionLaw
namespace Go.Proofs.YteckfdohgiddgaaGreatDoor
open Go.RowKit
set_option linter.unusedVariables false
set_option linter.unusedSimpArgs false
theorem info_out : (Tryz.prog.info? 5).map (fun i => (i.zero, i.size, i.bytes)) = some (some (.int .u8 0), 1, 1) := by kernel_rfl
/-- the block g holds a row of its own that reads as bs; what lies below g is as in w0 -/
structure Ou (w0 w : World) (g : Nat) (bs : List UInt8) : Prop where
  ex : ∃ A n c, Bk w g 89 [.slice A n c] ∧ w.ownsRow (g + 1) 5 1 (.slice A n c) bs.length (cellsB bs) ∧ n = bs.length
  bel : Below g w0 w
theorem Ou.below {w0 w w' : World} {g : Nat} {bs : List UInt8} (h : Ou w0 w g bs) (hb : Below w.heap.size w w') : Ou w0 w' g bs := by
  obtain ⟨A, n, c, h1, h2, h3⟩ := h.ex
  exact ⟨⟨A, n, c, h1.below hb, own_below h2 hb, h3⟩, h.bel.trans (hb.mono (Nat.le_of_lt h1.lt))⟩
theorem Ou.lt {w0 w : World} {g : Nat} {bs : List UInt8} (h : Ou w0 w g bs) : g < w.heap.size := by
  obtain ⟨A, n, c, h1, _⟩ := h.ex
  exact h1.lt
theorem put_any (s : ByteArray) (w0 w : World) (g : Nat) (bs : List UInt8) (hO : Ou w0 w g bs) (hn : bs.length + s.size ≤ 140737488355328) :
    Calls Tryz.prog 41 #[.pointer (some ⟨g, 0, none⟩), .string s] w fun e w' => e = .returned (.tuple #[]) ∧ Ou w0 w' g (bs ++ s.data.toList) := by
  have hlt := hO.lt
  obtain ⟨A, n, c, h1, h2, rfl⟩ := hO.ex
  have HB := hd hO.bel
  have c0 := h1.cell 0 (by simp)
  have f0 := h1.frozen 0
  simp only [List.getElem_cons_zero] at c0
  have H1 := hd h1
  have H2 := hd h2
  clear h1 h2 hO
  go_enter Tryz.func41, Tryz.ntmps41
  go_wp2_with (at_builtin; refine wpList_app_str _ 89 9 5 Tryz.underlying89 Tryz.underlying9 info_out rfl _ _ rfl (g + 1) (.slice A bs.length c) bs.length (cellsB bs) rfl H2.o s rfl hn hlt ?_)
  intro v' w' ho hg
  obtain ⟨A', c', rfl⟩ := own_shape ho
  have hne : (Value.slice A bs.length c).ownBlock ≠ some g := fun e => by have := (H2.o.lt g e).1; omega
  have hk : Bk w' g 89 [.slice A bs.length c] := (hg.block g hlt (Ne.symm hne)).trans H1.o
  have c1 := hk.cell 0 (by simp)
  have f1 := hk.frozen 0
  simp only [List.getElem_cons_zero] at c1
  have HO : Hd (Ou w0 (w'.setCell ⟨g, 0, none⟩ (.slice A' (bs.length + s.size) c')) g (bs ++ s.data.toList)) := hd <| by
    have hl : (bs ++ s.data.toList).length = bs.length + s.size := by rw [List.length_append, Lib.size_eq]
    refine ⟨⟨A', bs.length + s.size, c', hk.set 0 _, ?_, hl.symm⟩, ?_⟩
    · rw [hl, cellsB_app]
      exact ownsRow_setCell_below ho (a := ⟨g, 0, none⟩) (Nat.lt_succ_self g) _
    · refine (HB.o.grown hg (Nat.le_of_lt hlt) (fun k hk => by have := (H2.o.lt k hk).1; omega)).setCell (Nat.le_refl g) _
  clear ho hg hk c0 f0 hne
  go_wp2
  go_end0
  exact ⟨rfl, HO.o⟩
/-- what a text is in the answer -/
def R.t (s : ByteArray) : List UInt8 := if (U.wrS U.wrJ s).2 ≠ 0 then [34, 34] else (U.wrS U.wrJ s).1
theorem R.t_len (s : ByteArray) : (R.t s).length ≤ 6 * s.size + 2 := by
  unfold R.t
  split
  · simp
  · unfold U.wrS
    split
    · have := U.flat_len U.wrJ U.wrJ_len s.data.toList
      rw [← Lib.size_eq] at this
      simp only [List.length_append, List.length_cons, List.length_nil]
      omega
    · simp
theorem json_any (s : ByteArray) (w : World) (hs : s.size ≤ 1048576) :
    Calls Tryz.prog 86 #[.string s] w fun e w' => e = strR (U.wrS U.wrJ s) ∧ Below w.heap.size w w' := by
  cases hv : U.valid s with
  | false => exact json_no s w (by omega) hv
  | true => exact json_yes s w (by omega) hv
theorem rtext_any (s : ByteArray) (w0 w : World) (g : Nat) (bs : List UInt8) (hO : Ou w0 w g bs) (hs : s.size ≤ 1048576) (hn : bs.length ≤ 70368744177664) :
    Calls Tryz.prog 45 #[.pointer (some ⟨g, 0, none⟩), .string s] w fun e w' => e = .returned (.tuple #[]) ∧ Ou w0 w' g (bs ++ R.t s) := by
  have HO := hd hO
  have HT : Hd (R.t s = if (U.wrS U.wrJ s).2 ≠ 0 then [34, 34] else (U.wrS U.wrJ s).1) := hd rfl
  have hl := R.t_len s
  clear hO
  obtain ⟨x, hx⟩ : ∃ x, x = U.wrS U.wrJ s := ⟨_, rfl⟩
  rw [← hx] at HT
  have HX := hd hx
  clear hx
  by_cases h : x.2 ≠ 0
  · have hT := HT.o
    rw [if_pos h] at hT
    have HT2 := hd hT
    have hb : (x.2 != 0) = true := by simp [h]
    clear hT HT h
    rw [HT2.o]
    go_enter Tryz.func45, Tryz.ntmps45
    go_wp2_with (first
      | (go_at_call 86; refine (json_any s _ hs).mono ?_; rintro e w1 ⟨rfl, hb1⟩; unfold strR; rw [← HX.o]; have HO1 := hd (HO.o.below hb1); clear hb1)
      | (go_at_call 41; refine (put_any _ w0 _ g bs HO1.o (by have : ByteArray.size ⟨#[34, 34]⟩ = 2 := rfl; omega)).mono ?_; rintro e w2 ⟨rfl, hO2⟩; have HO2 := hd hO2; clear hO2))
    go_end0
    exact ⟨rfl, HO2.o⟩
  · have hT := HT.o
    rw [if_neg h] at hT
    have HT2 := hd hT
    have hb : (x.2 != 0) = false := by simpa using h
    clear hT HT h
    rw [HT2.o] at hl ⊢
    go_enter Tryz.func45, Tryz.ntmps45
    go_wp2_with (first
      | (go_at_call 86; refine (json_any s _ hs).mono ?_; rintro e w1 ⟨rfl, hb1⟩; unfold strR; rw [← HX.o]; have HO1 := hd (HO.o.below hb1); clear hb1)
      | (go_at_call 41; refine (put_any _ w0 _ g bs HO1.o (by have : ByteArray.size ⟨x.1.toArray⟩ = x.1.length := rfl; omega)).mono ?_; rintro e w2 ⟨rfl, hO2⟩; have HO2 := hd hO2; clear hO2))
    go_end0
    exact ⟨rfl, HO2.o⟩
end Go.Proofs.YteckfdohgiddgaaGreatDoor
namespace Go.Proofs.YteckfdohgiddgaaGreatDoor
open Go.RowKit
set_option linter.unusedVariables false
set_option linter.unusedSimpArgs false
def R.cm (xs : List (List UInt8)) : List UInt8 := xs.flatMap (44 :: ·)
/-- the parts with commas between them -/
def R.jn (xs : List (List UInt8)) : List UInt8 := (R.cm xs).drop 1
def R.lst (xs : List (List UInt8)) : List UInt8 := 91 :: R.jn xs ++ [93]
def R.sz : List ByteArray → Nat
  | [] => 0
  | x :: r => x.size + 1 + R.sz r
theorem R.jn_take (xs : List (List UInt8)) (k : Nat) (h : k < xs.length) : R.jn (xs.take (k + 1)) = if k = 0 then xs[k]'h else R.jn (xs.take k) ++ 44 :: (xs[k]'h) := by
  have e : R.cm (xs.take (k + 1)) = R.cm (xs.take k) ++ 44 :: (xs[k]'h) := by
    rw [List.take_succ_eq_append_getElem h]; unfold R.cm; rw [List.flatMap_append]; simp
  unfold R.jn
  rw [e]
  by_cases h0 : k = 0
  · subst h0
    rw [if_pos rfl]
    rfl
  · rw [if_neg h0, List.drop_append_of_le_length]
    obtain ⟨y, r, hy⟩ : ∃ y r, xs.take k = y :: r := by
      cases hh : xs.take k with
      | nil => have := congrArg List.length hh; rw [List.length_take, List.length_nil] at this; omega
      | cons y r => exact ⟨y, r, rfl⟩
    rw [hy]
    simp [R.cm]
theorem R.cm_len (M : Nat) : ∀ xs : List (List UInt8), (∀ x ∈ xs, x.length ≤ M) → (R.cm xs).length ≤ xs.length * (M + 1)
  | [], _ => by simp [R.cm]
  | x :: l, h => by
    have := R.cm_len M l (fun y hy => h y (List.mem_cons_of_mem _ hy))
    have := h x (List.mem_cons_self ..)
    unfold R.cm at this ⊢
    unfold R.cm at *
    rw [List.flatMap_cons, List.length_append, List.length_cons, List.length_cons, Nat.add_mul]
    omega
theorem R.jn_len (M k : Nat) (xs : List (List UInt8)) (h : ∀ x ∈ xs, x.length ≤ M) : (R.jn (xs.take k)).length ≤ k * (M + 1) := by
  have h1 := R.cm_len M (xs.take k) (fun x hx => h x (List.mem_of_mem_take hx))
  have h2 : (xs.take k).length ≤ k := by rw [List.length_take]; omega
  have h3 := Nat.mul_le_mul_right (M + 1) h2
  unfold R.jn
  rw [List.length_drop]
  omega
end Go.Proofs.YteckfdohgiddgaaGreatDoor
namespace Go.Proofs.YteckfdohgiddgaaGreatDoor
open Go.RowKit
set_option linter.unusedVariables false
set_option linter.unusedSimpArgs false
theorem nm1_any (l : List ByteArray) (A : Option Addr) (n c : Nat) (w0 w : World) (g b : Nat) (bs : List UInt8) (i : Nat) (hi : i < l.length)
    (hb : w0.cell? ⟨b, 0, none⟩ = some (.slice A n c)) (hl : IsL 1 w0 (.slice A n c) n (cellsS l)) (hg : w0.heap.size = g) (hO : Ou w0 w g bs) (hs : (l[i]'hi).size ≤ 1048576) (hn : bs.length ≤ 70368744177664) :
    Calls Tryz.prog 74 #[.int .i64 i, .pointer (some ⟨g, 0, none⟩), .pointer (some ⟨b, 0, none⟩)] w fun e w' => e = .returned (.tuple #[]) ∧ Ou w0 w' g (bs ++ R.t (l[i]'hi)) := by
  have hin : i < n := by rw [← strs_len hl]; exact hi
  have hbl : b < w0.heap.size := World.block_lt_of_cell? w0 _ hb
  have d1 := (hO.bel.cell (p := ⟨b, 0, none⟩) (show b < g by omega)).trans hb
  obtain ⟨b2, off, rfl, hb2, c0⟩ := strs_at hl i hi
  have d0 := (hO.bel.cell (p := ⟨b2, off + i, none⟩) (show b2 < g by omega)).trans c0
  have HO := hd hO
  clear hb hl hO c0
  generalize l[i]'hi = s at *
  go_enter Tryz.func74, Tryz.ntmps74
  go_wp2_with (go_at_call 45; refine (rtext_any s w0 _ g bs HO.o hs hn).mono ?_; rintro e w2 ⟨rfl, hO2⟩; have HO2 := hd hO2; clear hO2)
  go_end0
  exact ⟨rfl, HO2.o⟩
set_option maxHeartbeats 1000000 in
theorem nmlist_any (l : List ByteArray) (A : Option Addr) (n c : Nat) (w0 w : World) (g b : Nat) (bs : List UInt8)
    (hb : w0.cell? ⟨b, 0, none⟩ = some (.slice A n c)) (hl : IsL 1 w0 (.slice A n c) n (cellsS l)) (hg : w0.heap.size = g) (hO : Ou w0 w g bs) (hs : ∀ x ∈ l, x.size ≤ 1048576) (hn : bs.length ≤ 1000) (hn2 : n ≤ 1048576) :
    Calls Tryz.prog 46 #[.pointer (some ⟨g, 0, none⟩), .int .i64 n, .func (.func 74) #[] #[.pointer (some ⟨g, 0, none⟩), .pointer (some ⟨b, 0, none⟩)]] w fun e w' => e = .returned (.tuple #[]) ∧ Ou w0 w' g (bs ++ R.lst (l.map R.t)) := by
  have HN := hd (strs_len hl)
  have HL := hd hl
  have HB := hd hb
  have HS := hd hs
  have HO := hd hO
  obtain ⟨xs, hxs⟩ : ∃ xs, xs = l.map R.t := ⟨_, rfl⟩
  have HX := hd hxs
  have HXL : Hd (xs.length = n) := hd (by rw [HX.o, List.length_map, HN.o])
  have HJ : Hd (∀ k, k ≤ n → (R.jn (xs.take k)).length ≤ 35184405643264) := hd fun k hk => by
    have := R.jn_len 6291458 k xs (by rw [HX.o]; intro x hx; obtain ⟨y, hy, rfl⟩ := List.mem_map.1 hx; have := R.t_len y; have := HS.o y hy; omega)
    have := Nat.mul_le_mul (show k ≤ 1048576 by omega) (show 6291458 + 1 ≤ 33554433 by omega)
    omega
  rw [← hxs]
  clear hb hl hs hO hxs
  go_enter Tryz.func46, Tryz.ntmps46
  go_wp2_with (go_at_call 41; refine (put_any _ w0 _ g bs HO.o (by have : ByteArray.size ⟨#[91]⟩ = 1 := rfl; omega)).mono ?_; rintro e w2 ⟨rfl, hO2⟩; have HO2 : Hd (Ou w0 w2 g (bs ++ [91])) := hd hO2; clear hO2 HO)
  go_loopw [10] (fun x w2 => ∃ (k : Nat) (cs : List UInt8), k ≤ n ∧ x = .int .i64 k ∧ Hd (cs = bs ++ 91 :: R.jn (xs.take k)) ∧ Hd (Ou w0 w2 g cs)) (fun x _ => n - (intOf x).toNat)
  case atStart => exact ⟨0, _, Nat.zero_le _, rfl, hd rfl, HO2⟩
  case round =>
    clear HO2
    obtain ⟨k, cs, hk, rfl, hcs, HO⟩ := hrel
    have hlen : cs.length ≤ 35184405644265 := by rw [hcs.o, List.length_append, List.length_cons]; have := HJ.o k hk; omega
    by_cases hlt : k < n
    · have hkx : k < l.length := by rw [HN.o]; exact hlt
      have hsx : (l[k]'hkx).size ≤ 1048576 := HS.o _ (List.getElem_mem hkx)
      have HK : Hd (xs[k]'(by rw [HXL.o]; exact hlt) = R.t (l[k]'hkx)) := hd (by simp [HX.o])
      have HJT := hd (R.jn_take xs k (by rw [HXL.o]; exact hlt))
      rw [HK.o] at HJT
      by_cases h0 : k = 0
      · have G : Hd (cs ++ R.t (l[k]'hkx) = bs ++ 91 :: R.jn (xs.take (k + 1))) := hd (by rw [HJT.o, if_pos h0, hcs.o, show R.jn (xs.take k) = [] from by rw [h0]; rfl]; simp)
        have hk0 : ¬ 0 < k := by omega
        clear HJT hcs h0
        go_wp2_with (go_at_call 74; refine (nm1_any l A n c w0 _ g b cs k hkx HB.o HL.o hg HO.o hsx (by omega)).mono ?_; rintro e w3 ⟨rfl, hO3⟩; have HO3 := hd hO3; clear hO3)
        go_roundw
        case rel => exact ⟨k + 1, _, by omega, by go_num, G, HO3⟩
        case measure => simp [intOf]; omega
      · have G : Hd (cs ++ [44] ++ R.t (l[k]'hkx) = bs ++ 91 :: R.jn (xs.take (k + 1))) := hd (by rw [HJT.o, if_neg h0, hcs.o]; simp)
        have hk0 : 0 < k := by omega
        have hl4 : (cs ++ [44]).length ≤ 70368744177664 := by rw [List.length_append]; show cs.length + 1 ≤ _; omega
        have HL4 := hd hl4
        clear HJT hcs h0 hl4
        go_wp2_with (first
          | (go_at_call 41; refine (put_any _ w0 _ g cs HO.o (by have : ByteArray.size ⟨#[44]⟩ = 1 := rfl; omega)).mono ?_; rintro e w2 ⟨rfl, hO2⟩; have HO2 : Hd (Ou w0 w2 g (cs ++ [44])) := hd hO2; clear hO2)
          | (go_at_call 74; refine (nm1_any l A n c w0 _ g b (cs ++ [44]) k hkx HB.o HL.o hg HO2.o hsx HL4.o).mono ?_; rintro e w3 ⟨rfl, hO3⟩; have HO3 := hd hO3; clear hO3))
        go_roundw
        case rel => exact ⟨k + 1, _, by omega, by go_num, G, HO3⟩
        case measure => simp [intOf]; omega
    · have hkn : k = n := by omega
      subst hkn
      have HE : Hd (cs ++ [93] = bs ++ R.lst xs) := hd (by rw [hcs.o, List.take_of_length_le (by rw [HXL.o]; exact Nat.le_refl _)]; unfold R.lst; simp)
      go_wp2_with (go_at_call 41; refine (put_any _ w0 _ g cs HO.o (by have : ByteArray.size ⟨#[93]⟩ = 1 := rfl; omega)).mono ?_; rintro e w2 ⟨rfl, hO2⟩; have HO2 : Hd (Ou w0 w2 g (bs ++ R.lst xs)) := hd (by rw [← HE.o]; exact hO2); clear hO2)
      go_end0
      exact ⟨rfl, HO2.o⟩
/-- the answer over parts -/
def R.ans (xs : List (List UInt8)) : List UInt8 := [123, 34, 115, 116, 97, 116, 117, 115, 34, 58, 34, 115, 117, 99, 99, 101, 115, 115, 34, 44, 34, 100, 97, 116, 97, 34, 58] ++ R.lst xs ++ [125]
theorem R.lst_len (M : Nat) (xs : List (List UInt8)) (h : ∀ x ∈ xs, x.length ≤ M) : (R.lst xs).length ≤ xs.length * (M + 1) + 2 := by
  have := R.jn_len M xs.length xs h
  rw [List.take_of_length_le (Nat.le_refl _)] at this
  unfold R.lst
  rw [List.length_append, List.length_cons, List.length_singleton]
  omega
theorem names_own (l : List ByteArray) (A : Option Addr) (n c : Nat) (w : World) (hl : IsL 1 w (.slice A n c) n (cellsS l)) (hs : ∀ x ∈ l, x.size ≤ 1048576) (hn2 : n ≤ 1048576) :
    Calls Tryz.prog 31 #[.slice A n c] w fun e w' => (∃ v m, e = .returned v ∧ w'.ownsRow w.heap.size 5 1 v m (cellsB (R.ans (l.map R.t)))) ∧ Below w.heap.size w w' := by
  have HN := hd (strs_len hl)
  have HL := hd hl
  have HS := hd hs
  have HLL : Hd ((R.lst (l.map R.t)).length ≤ 35184405643266) := hd (by
    have := R.lst_len 6291458 (l.map R.t) (by intro x hx; obtain ⟨y, hy, rfl⟩ := List.mem_map.1 hx; have := R.t_len y; have := HS.o y hy; omega)
    have := Nat.mul_le_mul (show (l.map R.t).length ≤ 1048576 by rw [List.length_map, HN.o]; exact hn2) (show 6291458 + 1 ≤ 33554433 by omega)
    omega)
  clear hl hs
  obtain ⟨W, hW⟩ : ∃ W, W = w.alloc (.cells #[.slice A n c] 37) := ⟨_, rfl⟩
  have HBX : Hd (W.cell? ⟨w.heap.size, 0, none⟩ = some (.slice A n c)) := hd (by rw [hW]; simp)
  have HBW : Hd (Below w.heap.size w W) := hd (by rw [hW]; exact (Below.refl _ _).alloc (Nat.le_refl _) _)
  have hWz : W.heap.size = w.heap.size + 1 := by rw [hW]; simp
  have HWL := hd (HL.o.below HBW.o)
  have HO0 : Hd (Ou W (W.alloc (.cells #[.slice none 0 0] 89)) (w.heap.size + 1) []) := hd <| by
    refine ⟨⟨none, 0, 0, ?_, ⟨rfl, .inl ⟨rfl, rfl⟩⟩, rfl⟩, ?_⟩
    · show (W.heap.push (.cells #[.slice none 0 0] 89))[w.heap.size + 1]? = _
      rw [← hWz]; simp
    · exact (Below.refl _ _).alloc (by omega) _
  go_enter Tryz.func31, Tryz.ntmps31
  go_wp2_with fail
  rw [← hW]
  clear hW
  refine (put_any _ W _ (w.heap.size + 1) [] HO0.o (by decide)).mono ?_
  rintro e w1 ⟨rfl, hO1⟩
  have HO1 := hd hO1
  clear hO1 HO0
  have e1 := (HO1.o.bel.cell (p := ⟨w.heap.size, 0, none⟩) (Nat.lt_succ_self _)).trans HBX.o
  go_wp2_with fail
  refine (nmlist_any l A n c W _ (w.heap.size + 1) w.heap.size _ HBX.o HWL.o hWz HO1.o HS.o (by decide) hn2).mono ?_
  rintro e w2 ⟨rfl, hO2⟩
  have HO2 := hd hO2
  clear hO2 HO1
  go_wp2_with fail
  refine (put_any ⟨#[125]⟩ W _ (w.heap.size + 1) _ HO2.o ?_).mono ?_
  · have h1 := HLL.o
    have : ByteArray.size ⟨#[125]⟩ = 1 := rfl
    have : (([] : List UInt8) ++ [123, 34, 115, 116, 97, 116, 117, 115, 34, 58, 34, 115, 117, 99, 99, 101, 115, 115, 34, 44, 34, 100, 97, 116, 97, 34, 58]).length = 27 := rfl
    rw [List.length_append]
    omega
  rintro e w3 ⟨rfl, hO3⟩
  obtain ⟨A', n', c', k1, k2, k3⟩ := hO3.ex
  have e0 := k1.cell 0 (by simp)
  simp only [List.getElem_cons_zero] at e0
  have HQ : Hd (w3.ownsRow w.heap.size 5 1 (.slice A' n' c') n' (cellsB (R.ans (l.map R.t)))) := hd (by subst k3; exact own_mono k2 (by omega))
  have HB3 : Hd (Below w.heap.size w w3) := hd (HBW.o.trans (hO3.bel.mono (by omega)))
  clear hO3 HO2 k1 k2 k3
  go_wp2
  go_ret
  exact ⟨⟨_, _, rfl, HQ.o⟩, HB3.o⟩
theorem names_any (l : List ByteArray) (A : Option Addr) (n c : Nat) (w : World) (hl : IsL 1 w (.slice A n c) n (cellsS l)) (hs : ∀ x ∈ l, x.size ≤ 1048576) (hn2 : n ≤ 1048576) :
    Calls Tryz.prog 31 #[.slice A n c] w fun e w' => (∃ v m, e = .returned v ∧ IsL 1 w' v m (cellsB (R.ans (l.map R.t)))) ∧ Below w.heap.size w w' := (names_own l A n c w hl hs hn2).mono fun _ _ h => ⟨by obtain ⟨v, m, h1, h2⟩ := h.1; exact ⟨v, m, h1, IsL.own h2⟩, h.2⟩
def R.bt (l : List UInt8) : ByteArray := ⟨l.toArray⟩
end Go.Proofs.YteckfdohgiddgaaGreatDoor
namespace Go.Proofs.YteckfdohgiddgaaGreatDoor
open Go.RowKit
set_option linter.unusedVariables false
set_option linter.unusedSimpArgs false
/-- the block k, known whole, is neither g nor a row of bytes -/
def Bx (w : World) (g k : Nat) (e : TypeId) (L : List Value) : Prop :=
  Bk w k e L ∧ k ≠ g ∧ 5 ≠ e
theorem Bx.below {w w' : World} {g k : Nat} {e : TypeId} {L : List Value} (h : Bx w g k e L) (hb : Below w.heap.size w w') (hg : g < w.heap.size) : Bx w' g k e L :=
  ⟨h.1.below hb, h.2⟩
theorem put2_any (k : Nat) (e : TypeId) (L : List Value) (s : ByteArray) (w0 w : World) (g : Nat) (bs : List UInt8) (hO : Ou w0 w g bs) (hX : Bx w g k e L) (hn : bs.length + s.size ≤ 140737488355328) :
    Calls Tryz.prog 41 #[.pointer (some ⟨g, 0, none⟩), .string s] w fun e' w' => e' = .returned (.tuple #[]) ∧ Ou w0 w' g (bs ++ s.data.toList) ∧ Bx w' g k e L := by
  have hlt := hO.lt
  obtain ⟨A, n, c, h1, h2, rfl⟩ := hO.ex
  have HB := hd hO.bel
  have c0 := h1.cell 0 (by simp)
  have f0 := h1.frozen 0
  simp only [List.getElem_cons_zero] at c0
  have H1 := hd h1
  have H2 := hd h2
  have HX := hd hX
  clear h1 h2 hO hX
  go_enter Tryz.func41, Tryz.ntmps41
  go_wp2_with (at_builtin; refine wpList_app_str _ 89 9 5 Tryz.underlying89 Tryz.underlying9 info_out rfl _ _ rfl (g + 1) (.slice A bs.length c) bs.length (cellsB bs) rfl H2.o s rfl hn hlt ?_)
  intro v' w' ho hg
  obtain ⟨A', c', rfl⟩ := own_shape ho
  have hne : (Value.slice A bs.length c).ownBlock ≠ some g := fun e => by have := (H2.o.lt g e).1; omega
  have hk : Bk w' g 89 [.slice A bs.length c] := (hg.block g hlt (Ne.symm hne)).trans H1.o
  have c1 := hk.cell 0 (by simp)
  have f1 := hk.frozen 0
  simp only [List.getElem_cons_zero] at c1
  have HO : Hd (Ou w0 (w'.setCell ⟨g, 0, none⟩ (.slice A' (bs.length + s.size) c')) g (bs ++ s.data.toList)) := hd <| by
    have hl : (bs ++ s.data.toList).length = bs.length + s.size := by rw [List.length_append, Lib.size_eq]
    refine ⟨⟨A', bs.length + s.size, c', hk.set 0 _, ?_, hl.symm⟩, ?_⟩
    · rw [hl, cellsB_app]
      exact ownsRow_setCell_below ho (a := ⟨g, 0, none⟩) (Nat.lt_succ_self g) _
    · refine (HB.o.grown hg (Nat.le_of_lt hlt) (fun k hk => by have := (H2.o.lt k hk).1; omega)).setCell (Nat.le_refl g) _
  have HX2 : Hd (Bx (w'.setCell ⟨g, 0, none⟩ (.slice A' (bs.length + s.size) c')) g k e L) := hd <| by
    have hx3 := own_other H2.o HX.o.1 HX.o.2.2
    exact ⟨Bk.set_far ((hg.block k HX.o.1.lt (Ne.symm hx3)).trans HX.o.1) (p := ⟨g, 0, none⟩) HX.o.2.1 _, HX.o.2⟩
  clear ho hg hk c0 f0 hne
  go_wp2
  go_end0
  exact ⟨rfl, HO.o, HX2.o⟩
theorem text2_any (k : Nat) (e : TypeId) (L : List Value) (s : ByteArray) (w0 w : World) (g : Nat) (bs : List UInt8) (hO : Ou w0 w g bs) (hX : Bx w g k e L) (hs : s.size ≤ 1048576) (hn : bs.length ≤ 140737480000000) :
    Calls Tryz.prog 45 #[.pointer (some ⟨g, 0, none⟩), .string s] w fun e' w' => e' = .returned (.tuple #[]) ∧ Ou w0 w' g (bs ++ R.t s) ∧ Bx w' g k e L := by
  have HO := hd hO
  have HX0 := hd hX
  have HLT := hd hO.lt
  have HT : Hd (R.t s = if (U.wrS U.wrJ s).2 ≠ 0 then [34, 34] else (U.wrS U.wrJ s).1) := hd rfl
  have hl := R.t_len s
  clear hO hX
  obtain ⟨x, hx⟩ : ∃ x, x = U.wrS U.wrJ s := ⟨_, rfl⟩
  rw [← hx] at HT
  have HX := hd hx
  clear hx
  by_cases h : x.2 ≠ 0
  · have hT := HT.o
    rw [if_pos h] at hT
    have HT2 := hd hT
    have hb : (x.2 != 0) = true := by simp [h]
    clear hT HT h
    rw [HT2.o]
    go_enter Tryz.func45, Tryz.ntmps45
    go_wp2_with (first
      | (go_at_call 86; refine (json_any s _ hs).mono ?_; rintro e' w1 ⟨rfl, hb1⟩; unfold strR; rw [← HX.o]; have HO1 := hd (HO.o.below hb1); have HX1 := hd (HX0.o.below hb1 HLT.o); clear hb1)
      | (go_at_call 41; refine (put2_any k e L _ w0 _ g bs HO1.o HX1.o (by have : ByteArray.size ⟨#[34, 34]⟩ = 2 := rfl; omega)).mono ?_; rintro e' w2 ⟨rfl, hO2, hX2⟩; have HO2 := hd hO2; have HX2 := hd hX2; clear hO2 hX2))
    go_end0
    exact ⟨rfl, HO2.o, HX2.o⟩
  · have hT := HT.o
    rw [if_neg h] at hT
    have HT2 := hd hT
    have hb : (x.2 != 0) = false := by simpa using h
    clear hT HT h
    rw [HT2.o] at hl ⊢
    go_enter Tryz.func45, Tryz.ntmps45
    go_wp2_with (first
      | (go_at_call 86; refine (json_any s _ hs).mono ?_; rintro e' w1 ⟨rfl, hb1⟩; unfold strR; rw [← HX.o]; have HO1 := hd (HO.o.below hb1); have HX1 := hd (HX0.o.below hb1 HLT.o); clear hb1)
      | (go_at_call 41; refine (put2_any k e L _ w0 _ g bs HO1.o HX1.o (by have : ByteArray.size ⟨x.1.toArray⟩ = x.1.length := rfl; omega)).mono ?_; rintro e' w2 ⟨rfl, hO2, hX2⟩; have HO2 := hd hO2; have HX2 := hd hX2; clear hO2 hX2))
    go_end0
    exact ⟨rfl, HO2.o, HX2.o⟩
end Go.Proofs.YteckfdohgiddgaaGreatDoor
namespace Go.Proofs.YteckfdohgiddgaaGreatDoor
open Go.RowKit Go.ChangeShapes Go.WideShapes Go.Deep
set_option linter.unusedVariables false
set_option linter.unusedSimpArgs false
def R.aw : List UInt8 := [123, 34, 115, 116, 97, 116, 117, 115, 34, 58, 34, 115, 117, 99, 99, 101, 115, 115, 34, 44, 34, 100, 97, 116, 97, 34, 58, 91, 34, 97, 34, 44, 34, 92, 34, 98, 92, 34, 34, 93, 125]
theorem k_aw : R.ans (([⟨#[97]⟩, ⟨#[34, 98, 34]⟩] : List ByteArray).map R.t) = R.aw := by decide +kernel
/-- string(v) -/
theorem conv_isL {w : World} {v : Value} {m : Nat} {l : List UInt8} (h : IsL 1 w v m (cellsB l)) : (convert 32 9 v).run Tryz.prog w = .ok (.string ⟨l.toArray⟩) w :=
  run_string_of w 32 9 5 Tryz.underlying32 Tryz.underlying5 Tryz.underlying9 _ _ _ h
theorem rawake_any (w : World) : Calls Tryz.prog 9 #[] w fun e w' => e = .returned (.bool true) ∧ Below w.heap.size w w' := by
  have KA := hd k_aw
  go_enter Tryz.func9, Tryz.ntmps9
  go_wp2_with (go_at_call 31; refine (names_any [⟨#[97]⟩, ⟨#[34, 98, 34]⟩] _ 2 2 _ (IsL.own (World.ownsRow_lit (base := w.heap.size) w #[.string ⟨#[97]⟩, .string ⟨#[34, 98, 34]⟩] 2 (Nat.le_refl _) (by decide) rfl)) (by intro x hx; simp at hx; rcases hx with rfl | rfl <;> decide) (by decide)).mono ?_; rintro e w1 ⟨⟨v, m, rfl, h1⟩, hb1⟩; rw [KA.o] at h1; have hcv := conv_isL h1; have HB1 : Hd (Below w.heap.size w w1) := hd (((Below.refl w.heap.size w).alloc (Nat.le_refl _) _).trans (hb1.mono (by simp))); clear hb1 h1)
  go_ret
  exact ⟨rfl, HB1.o⟩
end Go.Proofs.YteckfdohgiddgaaGreatDoor
