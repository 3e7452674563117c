/- plain: the decimal 0.d * 10^k written out (weirref02/show.go). -/
import Derived.Test.YtcbggkdginfakaaDoorFDG
namespace Go.Proofs.YtcbggkdginfakaaDoor
open Go.RowKit
set_option linter.unusedVariables false
set_option linter.unusedSimpArgs false
namespace FB
/-- what the second loop has put before its round i -/
def pre (k : Int) : List UInt8 := if k ≤ 0 then [48, 46] ++ List.replicate (-k).toNat 48 else []
/-- what its first loop has put at i -/
def prI (k i : Int) : List UInt8 := if k ≤ 0 then [48, 46] ++ List.replicate (i - k).toNat 48 else []
theorem prI_len (k i : Int) (h : i ≤ 0) (h2 : -1000 ≤ k) : (prI k i).length ≤ 1002 := by
  unfold prI
  split
  · simp; omega
  · simp
theorem prI_end (k i : Int) (h : k ≤ 0 → i = 0) : prI k i = pre k := by
  unfold prI pre
  by_cases c : k ≤ 0
  · rw [if_pos c, if_pos c, h c]; simp
  · rw [if_neg c, if_neg c]
theorem prI_succ (k i : Int) (h : k ≤ i) (h0 : k ≤ 0) : prI k (i + 1) = prI k i ++ [48] := by
  unfold prI
  rw [if_pos h0, if_pos h0, show (i + 1 - k).toNat = (i - k).toNat + 1 by omega, List.replicate_succ', List.append_assoc]
theorem pre_len (k : Int) (h2 : -1000 ≤ k) : (pre k).length ≤ 1002 := by
  unfold pre
  split
  · simp; omega
  · simp
def em (D : List UInt8) (k : Int) (i : Nat) : List UInt8 :=
  if k ≤ 0 then D.take i else if (i : Int) ≤ k then D.take i ++ List.replicate (i - D.length) 48 else D.take k.toNat ++ [46] ++ (D.drop k.toNat).take (i - k.toNat)
theorem em_len (D : List UInt8) (k : Int) (i : Nat) (hi : i ≤ 1000) (hD : D.length ≤ 1000) : (em D k i).length ≤ 3002 := by
  unfold em
  split
  · simp; omega
  · split
    · simp; omega
    · simp; omega
theorem em_zero (D : List UInt8) (k : Int) : em D k 0 = [] := by
  unfold em
  split
  · simp
  · rw [if_pos (by omega)]; simp
theorem em_end {D : List UInt8} {k : Int} {i : Nat} (h1 : D.length ≤ i) (h2 : k ≤ i) (h3 : i = D.length ∨ (i : Int) = k) : pre k ++ em D k i = plainT D k := by
  unfold pre em plainT
  by_cases c : k ≤ 0
  · rw [if_pos c, if_pos c, if_pos c, List.take_of_length_le h1]
  · rw [if_neg c, if_neg c, if_neg c, List.nil_append]
    by_cases c2 : (i : Int) ≤ k
    · have hk : k.toNat = i := by omega
      rw [if_pos c2, if_neg (by omega), List.take_of_length_le h1, hk]
    · rw [if_neg c2, if_pos (by omega), List.take_of_length_le (l := D.drop k.toNat) (by rw [List.length_drop]; omega)]
theorem em_dot {D : List UInt8} {k : Int} {i : Nat} (h : (i : Int) = k) (hk : 0 < k) (hi : i < D.length) : em D k (i + 1) = em D k i ++ [46] ++ [D[i]] := by
  unfold em
  have e : k.toNat = i := by omega
  rw [if_neg (by omega), if_neg (by omega), if_neg (by omega), if_pos (by omega), e]
  have e2 : i + 1 - i = 1 := by omega
  have e3 : i - D.length = 0 := by omega
  rw [e2, e3]
  simp
  rw [List.drop_eq_getElem_cons hi]
  rfl
theorem em_dig {D : List UInt8} {k : Int} {i : Nat} (h : (i : Int) ≠ k ∨ k ≤ 0) (hi : i < D.length) : em D k (i + 1) = em D k i ++ [D[i]] := by
  unfold em
  by_cases c : k ≤ 0
  · rw [if_pos c, if_pos c, List.take_succ_eq_append_getElem hi]
  · rw [if_neg c, if_neg c]
    by_cases c2 : (i : Int) ≤ k
    · have e3 : i - D.length = 0 := by omega
      have e4 : i + 1 - D.length = 0 := by omega
      rw [if_pos (by omega), if_pos c2, e3, e4, List.take_succ_eq_append_getElem hi]
      simp
    · rw [if_neg (by omega), if_neg c2]
      have e5 : i + 1 - k.toNat = (i - k.toNat) + 1 := by omega
      have e6 : i - k.toNat < (D.drop k.toNat).length := by rw [List.length_drop]; omega
      rw [e5, List.take_succ_eq_append_getElem e6, List.getElem_drop]
      have e7 : k.toNat + (i - k.toNat) = i := by omega
      simp only [e7, List.append_assoc]
theorem em_zer {D : List UInt8} {k : Int} {i : Nat} (h : (i : Int) < k) (hi : D.length ≤ i) : em D k (i + 1) = em D k i ++ [48] := by
  unfold em
  rw [if_neg (show ¬ k ≤ 0 by omega), if_neg (show ¬ k ≤ 0 by omega), if_pos (show ((i + 1 : Nat) : Int) ≤ k by omega), if_pos (show (i : Int) ≤ k by omega), List.take_of_length_le hi, List.take_of_length_le (show D.length ≤ i + 1 by omega)]
  have e : i + 1 - D.length = (i - D.length) + 1 := by omega
  rw [e, List.replicate_succ', List.append_assoc]
end FB
theorem own_snocB {w : World} {B : Nat} {e : TypeId} {v : Value} {O : List UInt8} {E : Int} {N : Nat} {b : UInt8} {xs : List Value} (h : w.ownsRow B e 1 v N xs) (hN : N = O.length + 1) (hx : xs = cellsB O ++ [Value.int .u8 E]) (hE : E = (b.toNat : Int)) :
    w.ownsRow B e 1 v (O ++ [b]).length (cellsB (O ++ [b])) := by
  subst hE hN hx
  rw [cellsB_app, List.length_append]
  exact h
/-- a row of bytes of the call's own -/
def OwB (B : Nat) (w : World) (v : Value) (O : List UInt8) : Prop := w.ownsRow B 5 1 v O.length (cellsB O)
theorem OwB.lit {B : Nat} {w : World} {v : Value} {O L : List UInt8} {n : Nat} {xs ys : List Value} (h : w.ownsRow B 5 1 v n (xs ++ ys)) (hn : n = O.length + L.length) (hx : xs = cellsB O) (hy : ys = cellsB L) : OwB B w v (O ++ L) := by
  subst hn hx hy
  unfold OwB
  rw [cellsB_app, List.length_append]
  exact h
end Go.Proofs.YtcbggkdginfakaaDoor
