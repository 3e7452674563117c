/- render.Sets: its closure and its list. -/
import Derived.Test.YtifaepkeoffcfaaRSets
import Derived.Test.YtifaepkeoffcfaaLOpen
import Derived.Test.YtifaepkeoffcfaaRNames
namespace Go.Proofs.Ytifaepkeoffcfaa
open Go.RowKit
set_option linter.unusedVariables false
set_option linter.unusedSimpArgs false
theorem IsLbss.below {w w' : World} {v : Value} {l : List (List Lb)} (h : IsLbss w v l) (hb : Below w.heap.size w w') : IsLbss w' v l := by
  obtain ⟨A, c, rfl, h1, h2⟩ := h
  refine ⟨A, c, rfl, h1, fun i hi => ?_⟩
  obtain ⟨b, off, x, e, c0, c1, c2⟩ := h2 i hi
  exact ⟨b, off, x, e, (hb.cell (p := ⟨b, off + i, none⟩) (World.block_lt_of_cell? w _ c0)).trans c0, c1.below hb, c2⟩
theorem IsLbss.at_ {w : World} {A : Option Addr} {n c : Nat} {l : List (List Lb)} (h : IsLbss w (.slice A n c) l) (i : Nat) (hi : i < l.length) :
    ∃ b off A1 c1, A = some ⟨b, off, none⟩ ∧ b < w.heap.size ∧ w.cell? ⟨b, off + i, none⟩ = some (.slice A1 (l[i]'hi).length c1) ∧ IsL 2 w (.slice A1 (l[i]'hi).length c1) (l[i]'hi).length (cellsL (l[i]'hi)) := by
  obtain ⟨A', c', e, h1, h2⟩ := h
  simp only [Value.slice.injEq] at e
  obtain ⟨rfl, _, _⟩ := e
  obtain ⟨b, off, x, e, c0, c1, c2⟩ := h2 i hi
  obtain ⟨A1, c1', rfl⟩ := c1.shape
  exact ⟨b, off, A1, c1', e, World.block_lt_of_cell? w _ c0, c0, c1⟩
theorem IsLbss.len {w : World} {A : Option Addr} {n c : Nat} {l : List (List Lb)} (h : IsLbss w (.slice A n c) l) : l.length = n := by
  obtain ⟨A', c', e, h1, h2⟩ := h
  simp only [Value.slice.injEq] at e
  exact e.2.1.symm
def R.tot : List (List Lb) → Nat
  | [] => 0
  | x :: r => x.length + R.tot r
theorem R.tot_mem : ∀ (l : List (List Lb)) (x : List Lb), x ∈ l → x.length ≤ R.tot l
  | y :: l, x, h => by
    rw [R.tot]
    rcases List.mem_cons.1 h with rfl | h
    · omega
    · have := R.tot_mem l x h; omega
theorem R.tot_app : ∀ a b, R.tot (a ++ b) = R.tot a + R.tot b
  | [], b => by simp [R.tot]
  | x :: a, b => by rw [List.cons_append, R.tot, R.tot, R.tot_app a b]; omega
theorem R.tot_take (l : List (List Lb)) (k : Nat) (h : k < l.length) : R.tot (l.take (k + 1)) = R.tot (l.take k) + (l[k]'h).length := by
  rw [List.take_succ_eq_append_getElem h, R.tot_app]; rfl
theorem R.tot_take_le (l : List (List Lb)) (k : Nat) : R.tot (l.take k) ≤ R.tot l := by
  have := R.tot_app (l.take k) (l.drop k)
  rw [List.take_append_drop] at this
  omega
/-- all texts are small -/
def Sm (l : List (List Lb)) : Prop := ∀ x ∈ l, ∀ y ∈ x, y.1.size ≤ 1048576 ∧ y.2.size ≤ 1048576
theorem R.cm_st : ∀ l : List (List Lb), Sm l → (R.cm (l.map R.st)).length ≤ R.tot l * 12582918 + 3 * l.length
  | [], _ => by simp [R.cm, R.tot]
  | x :: l, h => by
    have h1 := R.cm_st l (fun y hy => h y (List.mem_cons_of_mem _ hy))
    have h2 := R.st_len x (h x (List.mem_cons_self ..))
    unfold R.cm at *
    rw [List.map_cons, List.flatMap_cons, List.length_append, List.length_cons, List.length_cons, R.tot, Nat.add_mul]
    omega
theorem R.jn_st (l : List (List Lb)) (h : Sm l) (hn : l.length ≤ 1048576) (ht : R.tot l ≤ 1048576) (k : Nat) : (R.jn ((l.map R.st).take k)).length ≤ 13194149000000 := by
  have h1 := R.cm_st (l.take k) (fun x hx => h x (List.mem_of_mem_take hx))
  have h2 := R.tot_take_le l k
  have h3 : (l.take k).length ≤ l.length := by rw [List.length_take]; omega
  rw [← List.map_take]
  unfold R.jn
  rw [List.length_drop]
  omega
theorem st1_any (l : List (List Lb)) (A : Option Addr) (n c : Nat) (w0 w : World) (g b : Nat) (bs : List UInt8) (i : Nat) (hi : i < l.length)
    (hb : w0.cell? ⟨b, 0, none⟩ = some (.slice A n c)) (hl : IsLbss w0 (.slice A n c) l) (hg : w0.heap.size = g) (hO : Ou w0 w g bs) (hs : Sm l) (ht : R.tot l ≤ 1048576) (hn : bs.length ≤ 35184372088832) :
    Calls Try.prog 50 #[.int .i64 i, .pointer (some ⟨g, 0, none⟩), .pointer (some ⟨b, 0, none⟩)] w fun e w' => e = .returned (.tuple #[]) ∧ Ou w0 w' g (bs ++ R.st (l[i]'hi)) := by
  have hin : i < n := by rw [← hl.len]; exact hi
  have hbl : b < w0.heap.size := World.block_lt_of_cell? w0 _ hb
  have d1 := (hO.bel.cell (p := ⟨b, 0, none⟩) (show b < g by omega)).trans hb
  obtain ⟨b2, off, A1, c1, rfl, hb2, c0, hx⟩ := hl.at_ i hi
  have d0 := (hO.bel.cell (p := ⟨b2, off + i, none⟩) (show b2 < g by omega)).trans c0
  have HO := hd hO
  have HX := hd hx
  have HS := hd (hs (l[i]'hi) (List.getElem_mem hi))
  have hln := R.tot_mem l (l[i]'hi) (List.getElem_mem hi)
  clear hb hl hO c0 hx hs
  generalize l[i]'hi = s at *
  go_enter Try.func50, Try.ntmps50
  go_wp2_with (go_at_call 51; refine (labels_any s _ s.length w0 _ g bs HX.o hg HO.o HS.o hn (by omega)).mono ?_; rintro e w2 ⟨rfl, hO2⟩; have HO2 := hd hO2; clear hO2)
  go_end0
  exact ⟨rfl, HO2.o⟩
set_option maxHeartbeats 1000000 in
theorem stlist_any (l : List (List Lb)) (A : Option Addr) (n c : Nat) (w0 w : World) (g b : Nat) (bs : List UInt8)
    (hb : w0.cell? ⟨b, 0, none⟩ = some (.slice A n c)) (hl : IsLbss w0 (.slice A n c) l) (hg : w0.heap.size = g) (hO : Ou w0 w g bs) (hs : Sm l) (ht : R.tot l ≤ 1048576) (hn : bs.length ≤ 1000) (hn2 : n ≤ 1048576) :
    Calls Try.prog 45 #[.pointer (some ⟨g, 0, none⟩), .int .i64 n, .func (.func 50) #[] #[.pointer (some ⟨g, 0, none⟩), .pointer (some ⟨b, 0, none⟩)]] w fun e w' => e = .returned (.tuple #[]) ∧ Ou w0 w' g (bs ++ R.lst (l.map R.st)) := by
  have HN := hd hl.len
  have HL := hd hl
  have HB := hd hb
  have HS := hd hs
  have HO := hd hO
  obtain ⟨xs, hxs⟩ : ∃ xs, xs = l.map R.st := ⟨_, rfl⟩
  have HX := hd hxs
  have HXL : Hd (xs.length = n) := hd (by rw [HX.o, List.length_map, HN.o])
  have HJ : Hd (∀ k, k ≤ n → (R.jn (xs.take k)).length ≤ 13194149000000) := hd fun k hk => by rw [HX.o]; exact R.jn_st l hs (by rw [HN.o]; exact hn2) ht k
  rw [← hxs]
  clear hb hl hs hO hxs
  go_enter Try.func45, Try.ntmps45
  go_wp2_with (go_at_call 44; refine (put_any _ w0 _ g bs HO.o (by have : ByteArray.size ⟨#[91]⟩ = 1 := rfl; omega)).mono ?_; rintro e w2 ⟨rfl, hO2⟩; have HO2 : Hd (Ou w0 w2 g (bs ++ [91])) := hd hO2; clear hO2 HO)
  go_loopw [10] (fun x w2 => ∃ (k : Nat) (cs : List UInt8), k ≤ n ∧ x = .int .i64 k ∧ Hd (cs = bs ++ 91 :: R.jn (xs.take k)) ∧ Hd (Ou w0 w2 g cs)) (fun x _ => n - (intOf x).toNat)
  case atStart => exact ⟨0, _, Nat.zero_le _, rfl, hd rfl, HO2⟩
  case round =>
    clear HO2
    obtain ⟨k, cs, hk, rfl, hcs, HO⟩ := hrel
    have hlen : cs.length ≤ 13194149001001 := by rw [hcs.o, List.length_append, List.length_cons]; have := HJ.o k hk; omega
    by_cases hlt : k < n
    · have hkx : k < l.length := by rw [HN.o]; exact hlt
      have HK : Hd (xs[k]'(by rw [HXL.o]; exact hlt) = R.st (l[k]'hkx)) := hd (by simp [HX.o])
      have HJT := hd (R.jn_take xs k (by rw [HXL.o]; exact hlt))
      rw [HK.o] at HJT
      by_cases h0 : k = 0
      · have G : Hd (cs ++ R.st (l[k]'hkx) = bs ++ 91 :: R.jn (xs.take (k + 1))) := hd (by rw [HJT.o, if_pos h0, hcs.o, show R.jn (xs.take k) = [] from by rw [h0]; rfl]; simp)
        have hk0 : ¬ 0 < k := by omega
        clear HJT hcs h0
        go_wp2_with (go_at_call 50; refine (st1_any l A n c w0 _ g b cs k hkx HB.o HL.o hg HO.o HS.o ht (by omega)).mono ?_; rintro e w3 ⟨rfl, hO3⟩; have HO3 := hd hO3; clear hO3)
        go_roundw
        case rel => exact ⟨k + 1, _, by omega, by go_num, G, HO3⟩
        case measure => simp [intOf]; omega
      · have G : Hd (cs ++ [44] ++ R.st (l[k]'hkx) = bs ++ 91 :: R.jn (xs.take (k + 1))) := hd (by rw [HJT.o, if_neg h0, hcs.o]; simp)
        have hk0 : 0 < k := by omega
        have hl4 : (cs ++ [44]).length ≤ 35184372088832 := by rw [List.length_append]; show cs.length + 1 ≤ _; omega
        have HL4 := hd hl4
        clear HJT hcs h0 hl4
        go_wp2_with (first
          | (go_at_call 44; refine (put_any _ w0 _ g cs HO.o (by have : ByteArray.size ⟨#[44]⟩ = 1 := rfl; omega)).mono ?_; rintro e w2 ⟨rfl, hO2⟩; have HO2 : Hd (Ou w0 w2 g (cs ++ [44])) := hd hO2; clear hO2)
          | (go_at_call 50; refine (st1_any l A n c w0 _ g b (cs ++ [44]) k hkx HB.o HL.o hg HO2.o HS.o ht HL4.o).mono ?_; rintro e w3 ⟨rfl, hO3⟩; have HO3 := hd hO3; clear hO3))
        go_roundw
        case rel => exact ⟨k + 1, _, by omega, by go_num, G, HO3⟩
        case measure => simp [intOf]; omega
    · have hkn : k = n := by omega
      subst hkn
      have HE : Hd (cs ++ [93] = bs ++ R.lst xs) := hd (by rw [hcs.o, List.take_of_length_le (by rw [HXL.o]; exact Nat.le_refl _)]; unfold R.lst; simp)
      go_wp2_with (go_at_call 44; refine (put_any _ w0 _ g cs HO.o (by have : ByteArray.size ⟨#[93]⟩ = 1 := rfl; omega)).mono ?_; rintro e w2 ⟨rfl, hO2⟩; have HO2 : Hd (Ou w0 w2 g (bs ++ R.lst xs)) := hd (by rw [← HE.o]; exact hO2); clear hO2)
      go_end0
      exact ⟨rfl, HO2.o⟩
end Go.Proofs.Ytifaepkeoffcfaa
