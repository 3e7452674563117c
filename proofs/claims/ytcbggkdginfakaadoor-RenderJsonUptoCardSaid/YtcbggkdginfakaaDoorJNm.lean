/- What is read of a tree: cells of its parts. Plain law. -/
import Derived.Test.YtcbggkdginfakaaDoorJEnc
namespace Go.Proofs.YtcbggkdginfakaaDoor
open Go.RowKit
set_option linter.unusedVariables false
set_option linter.unusedSimpArgs false
open RJ
namespace RJ
/-- a row's cells, in every world that keeps its block -/
theorem RowP.cells {P : Nat → Prop} {w : World} {e : TypeId} {size : Nat} {v : Value} {n : Nat} {xs : List Value} (h : RowP P w e size v n xs) : ∃ A c, v = .slice A n c ∧ ∀ j x, xs[j]? = some x → ∃ g, A = some ⟨g, 0, none⟩ ∧ P g ∧ ∀ W : World, (∀ k, P k → W.heap[k]? = w.heap[k]?) → W.cell? ⟨g, j, none⟩ = some x := by
  rcases h.1.2 with ⟨rfl, rfl⟩ | ⟨g, cap, cur, rfl, _, hg, _, _, _, hx⟩
  · refine ⟨none, 0, rfl, fun j x hj => ?_⟩
    have := (List.getElem?_eq_some_iff.1 hj).1
    have := h.1.1
    omega
  · refine ⟨_, cap, rfl, fun j x hj => ⟨g, rfl, h.2 g rfl, fun W hW => ?_⟩⟩
    have h1 := (hW g (h.2 g rfl)).trans hg
    rw [cell_of_row W g j cur e (0, 0) h1]
    rw [← hx] at hj
    have h2 := List.getElem?_eq_some_iff.1 hj
    obtain ⟨h3, h4⟩ := h2
    rw [List.getElem_take] at h4
    rw [List.length_take] at h3
    have h5 : j < cur.size := by have : cur.toList.length = cur.size := rfl; omega
    rw [Array.getElem?_eq_getElem h5]
    exact congrArg some h4
theorem flat4 {cs : List (List Value)} (hl : ∀ c ∈ cs, c.length = 4) (i : Nat) (c : List Value) (h : cs[i]? = some c) (j : Nat) (hj : j < 4) : cs.flatten[i * 4 + j]? = c[j]? := by
  induction cs generalizing i with
  | nil => simp at h
  | cons x cs ih =>
    have hx := hl x (by simp)
    cases i with
    | zero =>
      simp only [List.getElem?_cons_zero, Option.some.injEq] at h
      subst h
      rw [List.flatten_cons, List.getElem?_append_left (by omega)]
      simp
    | succ i =>
      rw [List.getElem?_cons_succ] at h
      rw [List.flatten_cons, List.getElem?_append_right (by omega), hx, show (i + 1) * 4 + j - 4 = i * 4 + j by omega]
      exact ih (fun c hc => hl c (by simp [hc])) i h
theorem Js.len {P : Nat → Prop} {w : World} {d : Nat} {t : JT} {c : List Value} (h : Js P w d t c) : c.length = 4 := by
  obtain ⟨_, _, _, _, _, _, _, _, rfl⟩ := h.shape; rfl
/-- the parts of a list or an object: D's row, each part's four cells -/
theorem kids_cells {P : Nat → Prop} {w : World} {d : Nat} {l : List JT} {D : Value} {cs : List (List Value)} (hr : RowP P w 32 4 D l.length cs.flatten) (hl : cs.length = l.length) (ht : ∀ (i : Nat) (t : JT) (x : List Value), l[i]? = some t → cs[i]? = some x → Js P w d t x) :
    ∃ A m, D = .slice A l.length m ∧ ∀ i t, l[i]? = some t → ∃ g x, A = some ⟨g, 0, none⟩ ∧ P g ∧ Js P w d t x ∧ ∀ W : World, (∀ k, P k → W.heap[k]? = w.heap[k]?) → ∀ j u, x[j]? = some u → W.cell? ⟨g, i * 4 + j, none⟩ = some u := by
  obtain ⟨A, m, hD, hc⟩ := hr.cells
  refine ⟨A, m, hD, fun i t hi => ?_⟩
  have hi2 := (List.getElem?_eq_some_iff.1 hi).1
  have hx : cs[i]? = some (cs[i]'(by omega)) := List.getElem?_eq_getElem (by omega)
  have hJ := ht i t _ hi hx
  have h4 : ∀ c ∈ cs, c.length = 4 := fun c hcm => by
    obtain ⟨k, hk, rfl⟩ := List.mem_iff_getElem.1 hcm
    exact (ht k _ _ (List.getElem?_eq_getElem (show k < l.length by omega)) (List.getElem?_eq_getElem hk)).len
  have h0 := flat4 h4 i _ hx
  have hlen := hJ.len
  obtain ⟨g, hA, hP, _⟩ := hc (i * 4 + 0) _ ((h0 0 (by omega)).trans (List.getElem?_eq_getElem (by omega)))
  refine ⟨g, _, hA, hP, hJ, fun W hW j u hu => ?_⟩
  have hj := (List.getElem?_eq_some_iff.1 hu).1
  obtain ⟨g', hA', _, hcell⟩ := hc (i * 4 + j) u ((h0 j (by omega)).trans hu)
  rw [hA] at hA'
  simp only [Option.some.injEq, Addr.mk.injEq, and_true] at hA'
  rw [hA']
  exact hcell W hW
theorem nm_cells {P : Nat → Prop} {w : World} {l : List ByteArray} {k : Int} {s : ByteArray} {A A' : Option Addr} {n m n' m' : Nat} (h : Js P w 16 (nmT l) [.int .i64 k, .string s, .slice A n m, .slice A' n' m']) :
    n' = 2 ∧ ∃ g A2 m2, A' = some ⟨g, 0, none⟩ ∧ P g ∧ (∀ W : World, (∀ k, P k → W.heap[k]? = w.heap[k]?) → W.cell? ⟨g, 7, none⟩ = some (.slice A2 l.length m2)) ∧
      ∀ i (hi : i < l.length), ∃ g2, A2 = some ⟨g2, 0, none⟩ ∧ P g2 ∧ ∀ W : World, (∀ k, P k → W.heap[k]? = w.heap[k]?) → W.cell? ⟨g2, i * 4 + 1, none⟩ = some (.string (fx l[i])) := by
  obtain ⟨K, D, cs, e, _, _, hr, hl, ht⟩ := h
  simp only [List.cons.injEq, and_true] at e
  obtain ⟨_, _, _, rfl⟩ := e
  obtain ⟨A1, m1, e1, hk⟩ := kids_cells hr hl ht
  simp only [Value.slice.injEq, List.length_cons, List.length_nil] at e1
  obtain ⟨rfl, rfl, rfl⟩ := e1
  obtain ⟨g, x, hA, hP, hJ, hc⟩ := hk 1 (.arr (l.map fun s => .txt (fx s))) rfl
  obtain ⟨D2, cs2, rfl, hr2, hl2, ht2⟩ := hJ
  obtain ⟨A2, m2, rfl, hk2⟩ := kids_cells hr2 hl2 ht2
  rw [List.length_map] at hc
  refine ⟨rfl, g, A2, m2, hA, hP, fun W hW => hc W hW 3 _ rfl, fun i hi => ?_⟩
  obtain ⟨g2, y, hA2, hP2, hJ2, hc2⟩ := hk2 i (.txt (fx l[i])) (by rw [List.getElem?_map, List.getElem?_eq_getElem hi]; rfl)
  have : y = [.int .i64 4, .string (fx l[i]), .slice none 0 0, .slice none 0 0] := hJ2
  subst this
  exact ⟨g2, hA2, hP2, fun W hW => hc2 W hW 1 _ rfl⟩
theorem obj_len {P : Nat → Prop} {w : World} {d : Nat} {ks : List ByteArray} {l : List JT} {k : Int} {s : ByteArray} {A A' : Option Addr} {n m n' m' : Nat} (h : Js P w (d + 1) (.obj ks l) [.int .i64 k, .string s, .slice A n m, .slice A' n' m']) : n' = l.length := by
  obtain ⟨K, D, cs, e, _, _, hr, hl, ht⟩ := h
  simp only [List.cons.injEq, and_true] at e
  obtain ⟨_, _, _, rfl⟩ := e
  obtain ⟨A1, m1, e1⟩ := hr.shape
  simp only [Value.slice.injEq] at e1
  exact e1.2.1
end RJ
end Go.Proofs.YtcbggkdginfakaaDoor
