/- Rows that a call gets one by one; a label's value written over. No function of the program in sight. -/
import Derived.Test.YtifaepkeoffcfaaLBase
namespace Go.Proofs.Ytifaepkeoffcfaa
open Go.RowKit
set_option linter.unusedVariables false
theorem cellsL_setV (l r : List Lb) (i : Nat) (h : i < l.length) (u : ByteArray) : (cellsL (l ++ r)).set (i * 2 + 1) (.string u) = cellsL (l.set i ((l[i]'h).1, u) ++ r) := by
  induction l generalizing i with
  | nil => simp at h
  | cons x l ih =>
    cases i with
    | zero => rfl
    | succ i =>
      have h2 : i < l.length := by simpa using h
      have := ih i h2
      rw [show (i + 1) * 2 + 1 = (i * 2 + 1) + 1 + 1 from by omega, List.cons_append, cellsL_cons, List.set_cons_succ, List.set_cons_succ, this]
      rfl
theorem grownBy_setV {a w : World} {g i : Nat} (h : a.grownBy w (some g)) (v : Value) : a.grownBy (w.setCell ⟨g, i, none⟩ v) (some g) :=
  ⟨h.os, h.tape, h.output, by rw [World.size_setCell]; exact h.size, fun k hk hne => (Below.heap_setCell w ⟨g, i, none⟩ v k (fun e => hne (by rw [e]))).trans (h.block k hk hne)⟩
theorem Lin.pushNew {w w' : World} {B : Nat} {e : TypeId} {size k : Nat} {h : Nat → Value} {c : Nat → Nat} {Z : Nat → List Value} (L : Lin w B e size k h c Z) {T : Value} {c1 : Nat} {Z1 : List Value}
    (ho : w'.ownsRow w.heap.size e size T c1 Z1) (hb : Below w.heap.size w w') (hB : B ≤ w.heap.size) : Lin w' B e size (k + 1) (upd h k T) (upd c k c1) (upd Z k Z1) :=
  L.push (own_mono ho hB) hb (fun g hg => (ho.lt g hg).1)
/-- the rows told in another order -/
theorem Lin.perm {w : World} {B : Nat} {e : TypeId} {size k : Nat} {h : Nat → Value} {c : Nat → Nat} {Z : Nat → List Value} (L : Lin w B e size k h c Z) (σ : Nat → Nat) (h1 : ∀ i, i < k → σ i < k) (h2 : ∀ i j, i < k → j < k → i ≠ j → σ i ≠ σ j) :
    Lin w B e size k (fun i => h (σ i)) (fun i => c (σ i)) (fun i => Z (σ i)) :=
  ⟨fun i hi => L.own _ (h1 i hi), fun i j hi hj hne => L.dist _ _ (h1 i hi) (h1 j hj) (h2 i j hi hj hne)⟩
end Go.Proofs.Ytifaepkeoffcfaa
