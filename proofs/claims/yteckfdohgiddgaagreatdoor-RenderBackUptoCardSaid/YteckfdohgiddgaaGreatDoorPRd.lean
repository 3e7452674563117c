/- strconv.ParseFloat whatever it answers; math.IsInf; num.small; num.Read over decimal lexemes. num.Read and num.Parse over decimal lexemes. num.Read over decimal lexemes of which nothing is cut off, by what they are worth. -/
import Derived.Test.YteckfdohgiddgaaGreatDoorPVal
import Derived.Test.YteckfdohgiddgaaGreatDoorPAlive
namespace Go.Proofs.YteckfdohgiddgaaGreatDoor
open Go.RowKit
set_option linter.unusedVariables false
set_option linter.unusedSimpArgs false
/-- digits and points alone -/
def DD (l : List UInt8) : Prop := ∀ c ∈ l, c.toNat = 46 ∨ (48 ≤ c.toNat ∧ c.toNat ≤ 57)
theorem mf_take (l : List UInt8) (k : Nat) (h : k < l.length) (Q : PF.LS) : PF.mf (l.take (k + 1)) Q = PF.mst (PF.mf (l.take k) Q) (l[k]'h).toNat := by
  rw [List.take_succ_eq_append_getElem h, PF.mf_app]; rfl
end Go.Proofs.YteckfdohgiddgaaGreatDoor
namespace Go.Proofs.YteckfdohgiddgaaGreatDoor
open Go.RowKit
set_option linter.unusedVariables false
set_option linter.unusedSimpArgs false
/-- s is the word v, in any case -/
def Wd (s v : ByteArray) : Prop := s.size = v.size ∧ ∀ i (h : i < s.size) (h' : i < v.size), PF.low (s[i]'h).toNat = (v[i]'h').toNat
def WdA (s v : ByteArray) (e : Ending) : Prop := ∃ b : Bool, (b = true ↔ Wd s v) ∧ e = .returned (.bool b)
theorem WdA.no {s v : ByteArray} (h : ¬ Wd s v) : WdA s v (.returned (.bool false)) := ⟨false, ⟨fun h => (by cases h), fun k => absurd k h⟩, rfl⟩
theorem WdA.yes {s v : ByteArray} (h : Wd s v) : WdA s v (.returned (.bool true)) := ⟨true, ⟨fun _ => h, fun _ => rfl⟩, rfl⟩
/-- what num.Read answers of a decimal lexeme -/
def RdAns (b : Nat) : Value := if b = FS.INF then .tuple #[.float .f64 0, .int .i64 21] else .tuple #[.float .f64 b, .int .i64 0]
end Go.Proofs.YteckfdohgiddgaaGreatDoor
namespace Go.Proofs.YteckfdohgiddgaaGreatDoor
open Go.RowKit
set_option linter.unusedVariables false
set_option linter.unusedSimpArgs false
theorem split_unique : ∀ (a a' r r' : List UInt8), a ++ r = a' ++ r' → DD a → DD a' → (∀ c t, r = c :: t → c.toNat = 101 ∨ c.toNat = 69) → (∀ c t, r' = c :: t → c.toNat = 101 ∨ c.toNat = 69) → a = a' ∧ r = r'
  | [], [], r, r', h, _, _, _, _ => ⟨rfl, by simpa using h⟩
  | [], y :: a', r, r', h, _, h2, h3, _ => by
    exfalso
    have := h3 y (a' ++ r') (by simpa using h)
    have := h2 y (List.mem_cons_self ..)
    omega
  | x :: a, [], r, r', h, h1, _, _, h4 => by
    exfalso
    have := h4 x (a ++ r) (by simpa using h.symm)
    have := h1 x (List.mem_cons_self ..)
    omega
  | x :: a, y :: a', r, r', h, h1, h2, h3, h4 => by
    rw [List.cons_append, List.cons_append] at h
    injection h with e1 e2
    obtain ⟨e3, e4⟩ := split_unique a a' r r' e2 (fun c hc => h1 c (List.mem_cons_of_mem _ hc)) (fun c hc => h2 c (List.mem_cons_of_mem _ hc)) h3 h4
    exact ⟨by rw [e1, e3], e4⟩
theorem xor63 (b : Nat) (h : b < 9223372036854775808) : b ^^^ 9223372036854775808 = b + 9223372036854775808 := by
  have e : b + 9223372036854775808 = 9223372036854775808 ||| b := by
    have := Nat.two_pow_add_eq_or_of_lt (i := 63) (b := b) (by omega) 1
    rw [show (2 : Nat) ^ 63 * 1 = 9223372036854775808 from rfl] at this
    rw [← this, Nat.add_comm]
  rw [e, show (9223372036854775808 : Nat) = 2 ^ 63 from rfl]
  apply Nat.eq_of_testBit_eq
  intro i
  rw [Nat.testBit_xor, Nat.testBit_or, Nat.testBit_two_pow]
  by_cases c : 63 = i
  · subst c
    rw [Nat.testBit_lt_two_pow (by omega)]; rfl
  · simp [c]
theorem neg_run (b : Nat) (h : b < 9223372036854775808) (W : World) : (Op.unary .neg (.float .f64 b)).run Tryz.prog W = .ok (.float .f64 (b + 9223372036854775808)) W := by
  rw [← xor63 b h]
  rfl
end Go.Proofs.YteckfdohgiddgaaGreatDoor
