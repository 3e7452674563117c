/- plain: the decimal 0.d * 10^k written out (weirref02/show.go). -/
import Derived.Test.YteckfdohgiddgaaGreatDoorFDG
namespace Go.Proofs.YteckfdohgiddgaaGreatDoor
open Go.RowKit
set_option linter.unusedVariables false
set_option linter.unusedSimpArgs false
namespace FB
/-- what the second loop has put before its round i -/
def pre (k : Int) : List UInt8 := if k ≤ 0 then [48, 46] ++ List.replicate (-k).toNat 48 else []
def em (D : List UInt8) (k : Int) (i : Nat) : List UInt8 :=
  if k ≤ 0 then D.take i else if (i : Int) ≤ k then D.take i ++ List.replicate (i - D.length) 48 else D.take k.toNat ++ [46] ++ (D.drop k.toNat).take (i - k.toNat)
end FB
/-- a row of bytes of the call's own -/
def OwB (B : Nat) (w : World) (v : Value) (O : List UInt8) : Prop := w.ownsRow B 5 1 v O.length (cellsB O)
theorem OwB.lit {B : Nat} {w : World} {v : Value} {O L : List UInt8} {n : Nat} {xs ys : List Value} (h : w.ownsRow B 5 1 v n (xs ++ ys)) (hn : n = O.length + L.length) (hx : xs = cellsB O) (hy : ys = cellsB L) : OwB B w v (O ++ L) := by
  subst hn hx hy
  unfold OwB
  rw [cellsB_app, List.length_append]
  exact h
end Go.Proofs.YteckfdohgiddgaaGreatDoor
