/- Vectors: readable lists of elements. No function of the program in sight. -/
import Derived.Test.YtifaepkeoffcfaaVCmp
import Derived.Test.YtifaepkeoffcfaaLPush
namespace Go.Proofs.Ytifaepkeoffcfaa
open Go.RowKit Go.Sort
set_option linter.unusedVariables false
def cellsE (E : List El) : List Value := E.flatMap fun x => [x.sl, .float .f64 x.f]
theorem cellsE_cons (x : El) (E : List El) : cellsE (x :: E) = x.sl :: .float .f64 x.f :: cellsE E := rfl
theorem cellsE_app (a b : List El) : cellsE (a ++ b) = cellsE a ++ cellsE b := List.flatMap_append
theorem cellsE_len : ∀ l : List El, (cellsE l).length = l.length * 2
  | [] => rfl
  | x :: l => by rw [cellsE_cons, List.length_cons, List.length_cons, List.length_cons, cellsE_len l]; omega
theorem cellsE_one (l : List El) : ∀ u ∈ cellsE l, u.oneCell' = true := by
  intro u hu
  obtain ⟨x, _, hx⟩ := List.mem_flatMap.1 hu
  simp only [List.mem_cons, List.not_mem_nil, or_false] at hx
  rcases hx with rfl | rfl <;> rfl
theorem cellsE_at : ∀ (l : List El) (i : Nat) (h : i < l.length), (cellsE l)[i * 2]? = some l[i].sl ∧ (cellsE l)[i * 2 + 1]? = some (.float .f64 l[i].f)
  | x :: l, 0, _ => ⟨rfl, rfl⟩
  | x :: l, i + 1, h => by
    have := cellsE_at l i (by simpa using h)
    rw [cellsE_cons, show (i + 1) * 2 = i * 2 + 1 + 1 by omega, show i * 2 + 1 + 1 + 1 = i * 2 + 1 + 1 + 1 from rfl]
    simpa using this
/-- a readable vector: its cells, and each element's set -/
def IsV (w : World) (v : Value) (n : Nat) (E : List El) : Prop := IsL 2 w v n (cellsE E) ∧ ∀ x ∈ E, IsL 2 w x.sl x.l.length (cellsL x.l)
theorem IsV.below {w w' : World} {v : Value} {n : Nat} {E : List El} (h : IsV w v n E) (hb : Below w.heap.size w w') : IsV w' v n E := ⟨h.1.below hb, fun x hx => (h.2 x hx).below hb⟩
theorem IsV.len {w : World} {v : Value} {n : Nat} {E : List El} (h : IsV w v n E) : E.length = n := by
  have := h.1.1; rw [cellsE_len] at this; omega
theorem IsV.at_ {w : World} {A : Option Addr} {n c : Nat} {l : List El} (h : IsV w (.slice A n c) n l) (i : Nat) (hi : i < l.length) :
    ∃ b off, A = some ⟨b, off, none⟩ ∧ b < w.heap.size ∧ w.cell? ⟨b, off + i * 2, none⟩ = some l[i].sl ∧ w.cell? ⟨b, off + i * 2 + 1, none⟩ = some (.float .f64 l[i].f) := by
  obtain ⟨hl, A', c', e, r⟩ := h.1
  simp only [Value.slice.injEq, true_and] at e
  obtain ⟨rfl, _⟩ := e
  have hz := cellsE_len l
  obtain ⟨b, off, rfl, hb, hc⟩ := r.head (by omega)
  refine ⟨b, off, rfl, hb, ?_, ?_⟩
  · rw [hc (i * 2) (by omega)]
    have := (cellsE_at l i hi).1
    rw [List.getElem?_eq_getElem (by omega)] at this
    exact this
  · rw [Nat.add_assoc, hc (i * 2 + 1) (by omega)]
    have := (cellsE_at l i hi).2
    rw [List.getElem?_eq_getElem (by omega)] at this
    exact this
/-- what an element says -/
def El.d (x : El) : List Lb × Nat := (x.l, x.f)
instance : Inhabited El := ⟨⟨none, 0, [], 0⟩⟩
/-- each element's set lies in a block of its own -/
def LinE (w : World) (B : Nat) (T : TypeId) (P : List El) : Prop := Lin w B T 2 P.length (fun i => (P.getD i default).sl) (fun i => (P.getD i default).l.length) (fun i => cellsL (P.getD i default).l)
theorem LinE.nil (w : World) (B : Nat) (T : TypeId) : LinE w B T [] := ⟨fun i h => absurd h (Nat.not_lt_zero _), fun i j h => absurd h (Nat.not_lt_zero _)⟩
theorem LinE.push {w w' : World} {B : Nat} {T : TypeId} {P : List El} (h : LinE w B T P) {x : El} (ho : w'.ownsRow w.heap.size T 2 x.sl x.l.length (cellsL x.l)) (hb : Below w.heap.size w w') (hB : B ≤ w.heap.size) : LinE w' B T (P ++ [x]) := by
  have h2 := Lin.pushNew h ho hb hB
  unfold LinE
  rw [List.length_append]
  refine Lin.congr h2 fun i hi => ?_
  have hi2 : i < P.length + 1 := by simpa using hi
  unfold upd
  by_cases e : i = P.length
  · subst e
    simp
  · have hlt : i < P.length := by omega
    simp [e, List.getElem?_append_left hlt]
theorem LinE.below {w w' : World} {B : Nat} {T : TypeId} {P : List El} (h : LinE w B T P) (hb : Below w.heap.size w w') : LinE w' B T P := Lin.below h hb
end Go.Proofs.Ytifaepkeoffcfaa
