/- num.digit, num.hex, num.digits, num.exponent, num.Prefix, num.word (num/num.go). num.exponent and num.Prefix (num/num.go). num.Prefix (num/num.go). -/
import Derived.Test.YtcbggkdginfakaaDoorBase2
import Derived.Test.YtcbggkdginfakaaDoorUMath
import Derived.Deep.DeepCutAuto
namespace Go.Proofs.YtcbggkdginfakaaDoor
open Go.RowKit
set_option linter.unusedVariables false
set_option linter.unusedSimpArgs false
namespace PN
def dg (c : Nat) : Bool := decide (48 ≤ c ∧ c ≤ 57)
def hx (c : Nat) : Bool := decide ((48 ≤ c ∧ c ≤ 57) ∨ (97 ≤ c ∧ c ≤ 102) ∨ (65 ≤ c ∧ c ≤ 70))
/-- how many bytes of a kind stand at the head -/
def spn (p : Nat → Bool) (l : List UInt8) : Nat := (l.takeWhile (fun c => p c.toNat)).length
theorem spn_nil (p : Nat → Bool) : spn p [] = 0 := rfl
theorem spn_yes {p : Nat → Bool} {c : UInt8} {l : List UInt8} (h : p c.toNat = true) : spn p (c :: l) = spn p l + 1 := by
  unfold spn; rw [List.takeWhile_cons_of_pos (by simpa using h)]; rfl
theorem spn_no {p : Nat → Bool} {c : UInt8} {l : List UInt8} (h : p c.toNat = false) : spn p (c :: l) = 0 := by
  unfold spn; rw [List.takeWhile_cons_of_neg (by simp [h])]; rfl
theorem spn_le (p : Nat → Bool) (l : List UInt8) : spn p l ≤ l.length := by
  unfold spn; exact (List.takeWhile_sublist _).length_le
end PN
theorem data_drop' (s : ByteArray) (k : Nat) (h : k < s.size) : s.data.toList.drop k = s[k] :: s.data.toList.drop (k + 1) :=
  List.drop_eq_getElem_cons (by simpa using h)
end Go.Proofs.YtcbggkdginfakaaDoor
namespace Go.Proofs.YtcbggkdginfakaaDoor
open Go.RowKit
set_option linter.unusedVariables false
set_option linter.unusedSimpArgs false
namespace PN
/-- is there a sign at the head? -/
def sgl : List UInt8 → Nat
  | [] => 0
  | d :: _ => if d.toNat = 43 ∨ d.toNat = 45 then 1 else 0
/-- how many bytes an exponent at the head has -/
def exl : List UInt8 → Nat
  | [] => 0
  | c :: r => if c.toNat = 101 ∨ c.toNat = 69 then (if 0 < spn dg (r.drop (sgl r)) then 1 + sgl r + spn dg (r.drop (sgl r)) else 0) else 0
theorem sgl_cons (d : UInt8) (r : List UInt8) : sgl (d :: r) = if d.toNat = 43 ∨ d.toNat = 45 then 1 else 0 := rfl
theorem exl_cons (c : UInt8) (r : List UInt8) : exl (c :: r) = if c.toNat = 101 ∨ c.toNat = 69 then (if 0 < spn dg (r.drop (sgl r)) then 1 + sgl r + spn dg (r.drop (sgl r)) else 0) else 0 := rfl
theorem exl_le (l : List UInt8) : exl l ≤ l.length := by
  cases l with
  | nil => simp [exl]
  | cons c r =>
    rw [exl_cons]
    split
    · split
      · have h1 := spn_le dg (r.drop (sgl r))
        rw [List.length_drop] at h1
        rename_i h0
        simp
        omega
      · omega
    · omega
end PN
end Go.Proofs.YtcbggkdginfakaaDoor
namespace Go.Proofs.YtcbggkdginfakaaDoor
open Go.RowKit
set_option linter.unusedVariables false
set_option linter.unusedSimpArgs false
namespace PN
/-- a hexadecimal lexeme at the head? -/
def hexHead : List UInt8 → Bool
  | a :: b :: c :: _ => decide (a.toNat = 48 ∧ (b.toNat = 120 ∨ b.toNat = 88) ∧ hx c.toNat = true)
  | _ => false
def hd46 : List UInt8 → Bool
  | c :: _ => decide (c.toNat = 46)
  | [] => false
/-- a point and a digit at the head? -/
def ptHead : List UInt8 → Bool
  | a :: b :: _ => decide (a.toNat = 46 ∧ dg b.toNat = true)
  | _ => false
/-- the mantissa's length -/
def mant (l : List UInt8) : Nat :=
  if 0 < spn dg l then (if hd46 (l.drop (spn dg l)) then spn dg l + 1 + spn dg (l.drop (spn dg l + 1)) else spn dg l)
  else if ptHead l then 1 + spn dg (l.drop 1) else 0
/-- the length of the longest lexeme at the head -/
def pfx (l : List UInt8) : Nat := if hexHead l then 2 + spn hx (l.drop 2) else if mant l = 0 then 0 else mant l + exl (l.drop (mant l))
end PN
theorem list3 (s : ByteArray) (h : 2 < s.size) : s.data.toList = s[0] :: s[1] :: s[2] :: s.data.toList.drop 3 := by
  have h0 := data_drop' s 0 (by omega)
  have h1 := data_drop' s 1 (by omega)
  have h2 := data_drop' s 2 (by omega)
  rw [List.drop_zero] at h0
  exact h0.trans (by rw [show (0 + 1 : Nat) = 1 from rfl, h1, show (1 + 1 : Nat) = 2 from rfl, h2])
theorem list2 (s : ByteArray) (h : 1 < s.size) : s.data.toList = s[0] :: s[1] :: s.data.toList.drop 2 := by
  have h0 := data_drop' s 0 (by omega)
  have h1 := data_drop' s 1 (by omega)
  rw [List.drop_zero] at h0
  exact h0.trans (by rw [show (0 + 1 : Nat) = 1 from rfl, h1])
theorem hexHead_short (l : List UInt8) (h : l.length ≤ 2) : PN.hexHead l = false := by
  rcases l with _ | ⟨a, _ | ⟨b, _ | ⟨c, r⟩⟩⟩
  · rfl
  · rfl
  · rfl
  · simp at h
theorem ptHead_short (l : List UInt8) (h : l.length ≤ 1) : PN.ptHead l = false := by
  rcases l with _ | ⟨a, _ | ⟨b, r⟩⟩
  · rfl
  · rfl
  · simp at h
end Go.Proofs.YtcbggkdginfakaaDoor
