/- The walk of weirlaw16.same. The walk of labels.With. The walks of slices.Index and slices.Contains over texts, of labels.stays and labels.Keep. copy into a block that is known whole, whatever the element's size; the walks of weirlaw16.lent and weirlaw16.whole. The walk of weirlaw16.mark. The walks of labels.Keep and of weirref16.Keep. The walk of weirlaw16.apart: lists of labels that share no memory. -/
import Derived.Test.YteckfdohgiddgaaGreatDoorLBase
import Derived.Deep.QuietTactic
import Derived.BigQuiet
import Derived.Test.YteckfdohgiddgaaGreatDoorBk
import Derived.Test.YteckfdohgiddgaaGreatDoorBase4
namespace Go.Proofs.YteckfdohgiddgaaGreatDoor
open Go.RowKit
set_option linter.unusedVariables false
set_option linter.unusedSimpArgs false
theorem label_eq (w : World) (a b c d : ByteArray) : (Op.equalIn 10000 57 (.agg #[.string a, .string b]) (.agg #[.string c, .string d])).run Tryz.prog w = .ok (a.toList == c.toList && b.toList == d.toList) w := by
  have ht : Tryz.prog.underlying 57 = some (.struct (Tryz.prog.fieldsOf 57)) := by unfold Program.fieldsOf; rw [Tryz.underlying57]
  have hp : Tryz.prog.stoodInHeld 57 = false := by kernel_rfl
  have hs := Tryz.underlying9
  rw [run_equalIn_agg w 9999 _ _ _ ht hp]
  unfold Program.fieldsOf
  rw [Tryz.underlying57]
  have h1 := run_equalIn_string (P := Tryz.prog) w 9998 9 a c hs
  have h2 := run_equalIn_string (P := Tryz.prog) w 9998 9 b d hs
  simp [Op.eqFields, part, isAgg, run_underlying hs, h1, h2]
  by_cases h3 : a.toList = c.toList
  · by_cases h4 : b.toList = d.toList
    · rw [if_pos h3, if_pos h4]; simp [h3, h4]
    · rw [if_pos h3, if_neg h4]; simp [h3, h4]
  · rw [if_neg h3]; simp [h3]
theorem toList_inj {a b : ByteArray} : a.toList = b.toList ↔ a = b := by
  constructor
  · intro h
    rw [ByteArray.toList_eq, ByteArray.toList_eq] at h
    exact ByteArray.ext (Array.toList_inj.1 h)
  · intro h; rw [h]
end Go.Proofs.YteckfdohgiddgaaGreatDoor
namespace Go.Proofs.YteckfdohgiddgaaGreatDoor
open Go.RowKit
set_option linter.unusedVariables false
set_option linter.unusedSimpArgs false
namespace L
end L
theorem info_label : (Tryz.prog.info? 57).map (fun i => (i.zero, i.size, i.bytes)) = some (some (.agg #[.string ⟨#[]⟩, .string ⟨#[]⟩]), 2, 32) := by kernel_rfl
end Go.Proofs.YteckfdohgiddgaaGreatDoor
namespace Go.Proofs.YteckfdohgiddgaaGreatDoor
open Go.RowKit
set_option linter.unusedVariables false
set_option linter.unusedSimpArgs false
def cellsS (l : List ByteArray) : List Value := l.map Value.string
theorem cellsS_len (l : List ByteArray) : (cellsS l).length = l.length := by simp [cellsS]
theorem strs_at {w : World} {A : Option Addr} {n c : Nat} {l : List ByteArray} (h : IsL 1 w (.slice A n c) n (cellsS l)) (i : Nat) (hi : i < l.length) :
    ∃ b off, A = some ⟨b, off, none⟩ ∧ b < w.heap.size ∧ w.cell? ⟨b, off + i, none⟩ = some (.string l[i]) := by
  obtain ⟨hl, A', c', e, r⟩ := h
  simp only [Value.slice.injEq, true_and] at e
  obtain ⟨rfl, _⟩ := e
  obtain ⟨b, off, rfl, hb, hc⟩ := r.head (by rw [cellsS_len]; omega)
  refine ⟨b, off, rfl, hb, ?_⟩
  rw [hc i (by rw [cellsS_len]; exact hi)]
  simp [cellsS]
theorem strs_len {w : World} {v : Value} {n : Nat} {l : List ByteArray} (h : IsL 1 w v n (cellsS l)) : l.length = n := by
  have := h.1; rw [cellsS_len] at this; omega
namespace L
def isIn (x : ByteArray) : List ByteArray → Bool
  | [] => false
  | y :: r => if x = y then true else isIn x r
def metric : ByteArray := ⟨#[95, 95, 110, 97, 109, 101, 95, 95]⟩
def stays (name : ByteArray) (names : List ByteArray) (without : Bool) : Bool :=
  if without then decide (name ≠ metric) && !isIn name names else isIn name names
end L
end Go.Proofs.YteckfdohgiddgaaGreatDoor
namespace Go.Proofs.YteckfdohgiddgaaGreatDoor
open Go.RowKit
set_option linter.unusedVariables false
set_option linter.unusedSimpArgs false
section
variable {P : Program}
end
end Go.Proofs.YteckfdohgiddgaaGreatDoor
namespace Go.Proofs.YteckfdohgiddgaaGreatDoor
open Go.RowKit
set_option linter.unusedVariables false
set_option linter.unusedSimpArgs false
def mkA (i : Nat) : ByteArray := ⟨[35, UInt8.ofNat i, UInt8.ofNat (i / 256)].toArray⟩
def mkB (k : Nat) : ByteArray := ⟨[35, UInt8.ofNat k].toArray⟩
end Go.Proofs.YteckfdohgiddgaaGreatDoor
namespace Go.Proofs.YteckfdohgiddgaaGreatDoor
open Go.RowKit
set_option linter.unusedVariables false
set_option linter.unusedSimpArgs false
end Go.Proofs.YteckfdohgiddgaaGreatDoor
namespace Go.Proofs.YteckfdohgiddgaaGreatDoor
open Go.RowKit
set_option linter.unusedVariables false
set_option linter.unusedSimpArgs false
def mkL (b i : Nat) : Lb := (mkA i, mkB b)
def q1 (n : Nat → Nat) (a : Nat) : List Lb := List.replicate (n a) (mkL 1 a)
def q2 (n : Nat → Nat) (a : Nat) : List Lb := q1 n a ++ List.replicate 16 (mkL 2 a)
def q3 (n : Nat → Nat) (a : Nat) : List Lb := q2 n a ++ List.replicate 200 (mkL 3 a)
theorem Bk.set_far {w : World} {g : Nat} {e : TypeId} {L : List Value} (h : Bk w g e L) {p : Addr} (hp : g ≠ p.block) (u : Value) : Bk (w.setCell p u) g e L := (Below.heap_setCell w p u g hp).trans h
end Go.Proofs.YteckfdohgiddgaaGreatDoor
