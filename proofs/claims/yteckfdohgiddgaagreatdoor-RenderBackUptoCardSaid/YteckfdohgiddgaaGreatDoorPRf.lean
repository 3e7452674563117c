/- What readFloat computes over a decimal lexeme, in plain words. No function of the program in sight. internal/strconv.readFloat over a decimal lexeme. -/
import Derived.Test.YteckfdohgiddgaaGreatDoorPPref
import Derived.Deep.DeepCutAuto
namespace Go.Proofs.YteckfdohgiddgaaGreatDoor
set_option linter.unusedVariables false
namespace PF
structure St where
  m : Nat
  nd : Nat
  nm : Nat
  dp : Int
  sd : Bool
  sg : Bool
  tr : Bool
def st0 : St := ⟨0, 0, 0, 0, false, false, false⟩
/-- one byte of a mantissa; none: it ends here -/
def step (st : St) (c : Nat) : Option St :=
  if c = 46 then (if st.sd then none else some { st with sd := true, dp := st.nd })
  else if 48 ≤ c ∧ c ≤ 57 then
    (if c = 48 ∧ st.nd = 0 then some { st with sg := true, dp := st.dp - 1 }
     else if st.nm < 19 then some { st with sg := true, nd := st.nd + 1, m := st.m * 10 + (c - 48), nm := st.nm + 1 }
     else some { st with sg := true, nd := st.nd + 1, tr := st.tr || decide (c ≠ 48) })
  else none
def loop : List UInt8 → St → St × List UInt8
  | [], st => (st, [])
  | c :: r, st => match step st c.toNat with
    | some st' => loop r st'
    | none => (st, c :: r)
theorem loop_some {c : UInt8} {r : List UInt8} {st st' : St} (h : step st c.toNat = some st') : loop (c :: r) st = loop r st' := by simp only [loop, h]
theorem loop_none {c : UInt8} {r : List UInt8} {st : St} (h : step st c.toNat = none) : loop (c :: r) st = (st, c :: r) := by simp only [loop, h]
/-- the number that digits tell, held at some 100000 -/
def eloop : List UInt8 → Nat → Nat
  | [], e => e
  | c :: r, e => eloop r (if e < 10000 then e * 10 + (c.toNat - 48) else e)
/-- how many digits stand ahead of the point at last -/
def dpOf (st : St) : Int := if st.sd then st.dp else st.nd
/-- the power of ten of the exponent r -/
def expOf : List UInt8 → Int
  | [] => 0
  | _ :: r => (eloop (r.drop (PN.sgl r)) 0 : Int) * (match r with | d :: _ => if d.toNat = 45 then -1 else 1 | [] => 1)
/-- is r nothing, or an exponent to the end? -/
def expOk : List UInt8 → Prop
  | [] => True
  | c :: r => (c.toNat = 101 ∨ c.toNat = 69) ∧ 0 < (r.drop (PN.sgl r)).length ∧ ∀ x ∈ r.drop (PN.sgl r), 48 ≤ x.toNat ∧ x.toNat ≤ 57
structure Bd (st : St) (k : Nat) : Prop where
  nm : st.nm ≤ 19
  nd : st.nd ≤ k
  dl : -(k : Int) ≤ st.dp
  du : st.dp ≤ k
  m : st.m < 10 ^ st.nm
theorem Bd.start : Bd st0 0 := ⟨by decide, by decide, by decide, by decide, by decide⟩
theorem Bd.step {st st' : St} {k c : Nat} (B : Bd st k) (h : step st c = some st') : Bd st' (k + 1) := by
  obtain ⟨b1, b2, b3, b4, b5⟩ := B
  unfold PF.step at h
  split at h
  · split at h
    · cases h
    · obtain rfl := Option.some.inj h
      exact ⟨b1, by show st.nd ≤ k + 1; omega, by show -((k + 1 : Nat) : Int) ≤ (st.nd : Int); omega, by show (st.nd : Int) ≤ ((k + 1 : Nat) : Int); omega, b5⟩
  · split at h
    · rename_i hc
      split at h
      · obtain rfl := Option.some.inj h
        exact ⟨b1, by show st.nd ≤ k + 1; omega, by show -((k + 1 : Nat) : Int) ≤ st.dp - 1; omega, by show st.dp - 1 ≤ ((k + 1 : Nat) : Int); omega, b5⟩
      · split at h
        · obtain rfl := Option.some.inj h
          refine ⟨by show st.nm + 1 ≤ 19; omega, by show st.nd + 1 ≤ k + 1; omega, by show -((k + 1 : Nat) : Int) ≤ st.dp; omega, by show st.dp ≤ ((k + 1 : Nat) : Int); omega, ?_⟩
          show st.m * 10 + (c - 48) < 10 ^ (st.nm + 1)
          rw [Nat.pow_succ]
          omega
        · obtain rfl := Option.some.inj h
          exact ⟨b1, by show st.nd + 1 ≤ k + 1; omega, by show -((k + 1 : Nat) : Int) ≤ st.dp; omega, by show st.dp ≤ ((k + 1 : Nat) : Int); omega, b5⟩
    · cases h
end PF
end Go.Proofs.YteckfdohgiddgaaGreatDoor
namespace Go.Proofs.YteckfdohgiddgaaGreatDoor
open Go.RowKit
set_option linter.unusedVariables false
set_option linter.unusedSimpArgs false
namespace PF
def low (c : Nat) : Nat := c ||| 32
theorem low_all : ((List.range 256).all fun c => decide (low c < 256) && (decide (low c = 120) == decide (c = 120 ∨ c = 88)) && (decide (low c = 101) == decide (c = 101 ∨ c = 69)) && (decide (low c = 112) == decide (c = 112 ∨ c = 80))) = true := by decide +kernel
theorem low_at {c : Nat} (h : c < 256) : low c < 256 ∧ (low c = 120 ↔ c = 120 ∨ c = 88) ∧ (low c = 101 ↔ c = 101 ∨ c = 69) ∧ (low c = 112 ↔ c = 112 ∨ c = 80) := by
  have := List.all_eq_true.1 low_all c (List.mem_range.2 h)
  simp only [Bool.and_eq_true, decide_eq_true_eq, beq_iff_eq, decide_eq_decide] at this
  exact ⟨this.1.1.1, this.1.1.2, this.1.2, this.2⟩
end PF
/-- a decimal lexeme: what readFloat meets -/
structure PF.Dec (s : ByteArray) (st : PF.St) (r : List UInt8) : Prop where
  sz : s.size ≤ 600
  lp : PF.loop s.data.toList PF.st0 = (st, r)
  sg : st.sg = true
  ex : PF.expOk r
  nu : ∀ x ∈ s.data.toList, x.toNat ≠ 95
  n0 : ∀ h : 0 < s.size, (s[0]'h).toNat ≠ 43 ∧ (s[0]'h).toNat ≠ 45
  nx : ∀ h : 1 < s.size, (s[0]'(by omega)).toNat = 48 → PF.low (s[1]'h).toNat ≠ 120
theorem mem_data {s : ByteArray} {k : Nat} (h : k < s.size) : s[k] ∈ s.data.toList := by
  have := data_drop' s k h
  exact List.mem_of_mem_drop (i := k) (by rw [this]; exact List.mem_cons_self ..)
end Go.Proofs.YteckfdohgiddgaaGreatDoor
