/- num.digit, num.hex, num.digits, num.exponent, num.Prefix, num.word (num/num.go). num.exponent and num.Prefix (num/num.go). num.Prefix (num/num.go). -/
import Derived.Test.YteckfdohgiddgaaGreatDoorBase3
import Derived.Test.YteckfdohgiddgaaGreatDoorUNext
import Derived.Deep.DeepCutAuto
namespace Go.Proofs.YteckfdohgiddgaaGreatDoor
open Go.RowKit
set_option linter.unusedVariables false
set_option linter.unusedSimpArgs false
namespace PN
def dg (c : Nat) : Bool := decide (48 ≤ c ∧ c ≤ 57)
def hx (c : Nat) : Bool := decide ((48 ≤ c ∧ c ≤ 57) ∨ (97 ≤ c ∧ c ≤ 102) ∨ (65 ≤ c ∧ c ≤ 70))
/-- how many bytes of a kind stand at the head -/
def spn (p : Nat → Bool) (l : List UInt8) : Nat := (l.takeWhile (fun c => p c.toNat)).length
theorem spn_nil (p : Nat → Bool) : spn p [] = 0 := rfl
theorem spn_yes {p : Nat → Bool} {c : UInt8} {l : List UInt8} (h : p c.toNat = true) : spn p (c :: l) = spn p l + 1 := by
  unfold spn; rw [List.takeWhile_cons_of_pos (by simpa using h)]; rfl
theorem spn_no {p : Nat → Bool} {c : UInt8} {l : List UInt8} (h : p c.toNat = false) : spn p (c :: l) = 0 := by
  unfold spn; rw [List.takeWhile_cons_of_neg (by simp [h])]; rfl
theorem spn_le (p : Nat → Bool) (l : List UInt8) : spn p l ≤ l.length := by
  unfold spn; exact (List.takeWhile_sublist _).length_le
end PN
theorem data_drop' (s : ByteArray) (k : Nat) (h : k < s.size) : s.data.toList.drop k = s[k] :: s.data.toList.drop (k + 1) :=
  List.drop_eq_getElem_cons (by simpa using h)
end Go.Proofs.YteckfdohgiddgaaGreatDoor
namespace Go.Proofs.YteckfdohgiddgaaGreatDoor
open Go.RowKit
set_option linter.unusedVariables false
set_option linter.unusedSimpArgs false
namespace PN
/-- is there a sign at the head? -/
def sgl : List UInt8 → Nat
  | [] => 0
  | d :: _ => if d.toNat = 43 ∨ d.toNat = 45 then 1 else 0
/-- how many bytes an exponent at the head has -/
def exl : List UInt8 → Nat
  | [] => 0
  | c :: r => if c.toNat = 101 ∨ c.toNat = 69 then (if 0 < spn dg (r.drop (sgl r)) then 1 + sgl r + spn dg (r.drop (sgl r)) else 0) else 0
theorem sgl_cons (d : UInt8) (r : List UInt8) : sgl (d :: r) = if d.toNat = 43 ∨ d.toNat = 45 then 1 else 0 := rfl
theorem exl_cons (c : UInt8) (r : List UInt8) : exl (c :: r) = if c.toNat = 101 ∨ c.toNat = 69 then (if 0 < spn dg (r.drop (sgl r)) then 1 + sgl r + spn dg (r.drop (sgl r)) else 0) else 0 := rfl
end PN
end Go.Proofs.YteckfdohgiddgaaGreatDoor
namespace Go.Proofs.YteckfdohgiddgaaGreatDoor
open Go.RowKit
set_option linter.unusedVariables false
set_option linter.unusedSimpArgs false
namespace PN
/-- a hexadecimal lexeme at the head? -/
def hexHead : List UInt8 → Bool
  | a :: b :: c :: _ => decide (a.toNat = 48 ∧ (b.toNat = 120 ∨ b.toNat = 88) ∧ hx c.toNat = true)
  | _ => false
def hd46 : List UInt8 → Bool
  | c :: _ => decide (c.toNat = 46)
  | [] => false
/-- a point and a digit at the head? -/
def ptHead : List UInt8 → Bool
  | a :: b :: _ => decide (a.toNat = 46 ∧ dg b.toNat = true)
  | _ => false
/-- the mantissa's length -/
def mant (l : List UInt8) : Nat :=
  if 0 < spn dg l then (if hd46 (l.drop (spn dg l)) then spn dg l + 1 + spn dg (l.drop (spn dg l + 1)) else spn dg l)
  else if ptHead l then 1 + spn dg (l.drop 1) else 0
/-- the length of the longest lexeme at the head -/
def pfx (l : List UInt8) : Nat := if hexHead l then 2 + spn hx (l.drop 2) else if mant l = 0 then 0 else mant l + exl (l.drop (mant l))
end PN
end Go.Proofs.YteckfdohgiddgaaGreatDoor
