/- LabelsKeys: what the law keeps from round to round. -/
import Derived.Test.YtifaepkeoffcfaaDoorLKeyW
import Derived.Test.YtifaepkeoffcfaaDoorLAsk
import Derived.Test.YtifaepkeoffcfaaDoorLLent
import Derived.Test.YtifaepkeoffcfaaDoorLPush
namespace Go.Proofs.YtifaepkeoffcfaaDoor
open Go.RowKit
set_option linter.unusedVariables false
set_option linter.unusedSimpArgs false
def L.kstr (l : List Lb) : ByteArray := ⟨(L.keyB l).toArray⟩
theorem L.kstr_eq (a b : List Lb) : ((L.kstr a).toList == (L.kstr b).toList) = decide (a = b) := L.key_eq a b
theorem keyS_any (va : Value) (n : Nat) (l : List Lb) (vb : Value) (m : Nat) (names : List ByteArray) (wo : Bool) (w : World) (hl : IsL 2 w va n (cellsL l)) (hs : IsL 1 w vb m (cellsS names)) (hn : n ≤ 1048576) (hm : m ≤ 1048576)
    (hS : ∀ y ∈ l, y.1.size ≤ 1048577 ∧ y.2.size ≤ 1048577) (hT : Tab w.heap.size w) :
    Calls Tryd.prog 7 #[va, vb, .bool wo] w fun e w' => e = .returned (.string (L.kstr (L.keepL l names wo))) ∧ Below w.heap.size w w' := key_any va n l vb m names wo w hl hs hn hm hS hT
theorem range_set {α : Type} (N a : Nat) (h : a < N) (f : Nat → α) (d : α) :
    ((List.range N).map fun j => if j < a then f j else d).set a (f a) = (List.range N).map fun j => if j < a + 1 then f j else d := by
  apply List.ext_getElem
  · simp
  · intro j h1 h2
    rw [List.getElem_set]
    simp only [List.getElem_map, List.getElem_range]
    by_cases e : a = j
    · subst e; simp
    · rw [if_neg e]
      by_cases h3 : j < a
      · rw [if_pos h3, if_pos (by omega)]
      · rw [if_neg h3, if_neg (by omega)]
theorem Bk.grown {w w' : World} {g g2 : Nat} {e : TypeId} {L : List Value} (h : Bk w g e L) (hg : w.grownBy w' (some g2)) (hne : g ≠ g2) : Bk w' g e L :=
  (hg.block g h.lt (fun e => hne (Option.some.inj e))).trans h
/-- what LabelsKeys has stored: a keys, b lists -/
structure Kept (w0 w : World) (gk gp N a b : Nat) (K : Nat → List Lb) (V : Nat → Value) : Prop where
  keys : Bk w gk 9 ((List.range N).map fun j => if j < a then .string (L.kstr (K j)) else .string ⟨#[]⟩)
  vals : Bk w gp 30 ((List.range N).map fun j => if j < b then V j else .slice none 0 0)
  own : ∀ j, j < b → w.ownsRow w0.heap.size 29 2 (V j) (K j).length (cellsL (K j))
  ne : gk ≠ gp
  lo : w0.heap.size ≤ gk ∧ w0.heap.size ≤ gp
  bel : Below w0.heap.size w0 w
section
variable {w0 w w' : World} {gk gp N a b : Nat} {K : Nat → List Lb} {V : Nat → Value}
theorem Kept.below (H : Kept w0 w gk gp N a b K V) (hb : Below w.heap.size w w') : Kept w0 w' gk gp N a b K V :=
  ⟨H.keys.below hb, H.vals.below hb, fun j hj => own_below (H.own j hj) hb, H.ne, H.lo, Go.Proofs.YtifaepkeoffcfaaDoor.bel H.bel hb⟩
theorem Kept.drew (H : Kept w0 w gk gp N a b K V) : Kept w0 w.drew gk gp N a b K V := H.below (Below.refl _ _).drew
theorem Kept.keyAt (H : Kept w0 w gk gp N a b K V) (j : Nat) (hN : j < N) (hj : j < a) : w.cell? ⟨gk, j, none⟩ = some (.string (L.kstr (K j))) := by
  rw [H.keys.cell j (by simpa using hN)]; simp [hj]
theorem Kept.keyOld (H : Kept w0 w gk gp N a b K V) (hN : a < N) : w.cell? ⟨gk, a, none⟩ = some (.string ⟨#[]⟩) := by
  rw [H.keys.cell a (by simpa using hN)]; simp
theorem Kept.valAt (H : Kept w0 w gk gp N a b K V) (j : Nat) (hN : j < N) (hj : j < b) : w.cell? ⟨gp, j, none⟩ = some (V j) := by
  rw [H.vals.cell j (by simpa using hN)]; simp [hj]
theorem Kept.valOld (H : Kept w0 w gk gp N a b K V) (hN : b < N) : w.cell? ⟨gp, b, none⟩ = some (.slice none 0 0) := by
  rw [H.vals.cell b (by simpa using hN)]; simp
theorem Kept.setKey (H : Kept w0 w gk gp N a b K V) (hN : a < N) : Kept w0 (w.setCell ⟨gk, a, none⟩ (.string (L.kstr (K a)))) gk gp N (a + 1) b K V := by
  have hg : w.grownBy (w.setCell ⟨gk, a, none⟩ (.string (L.kstr (K a)))) (some gk) := grownBy_setV (World.grownBy.refl _ _) _
  refine ⟨?_, H.vals.grown hg (Ne.symm H.ne), fun j hj => (H.own j hj).kept hg (.inr (own_other (H.own j hj) H.keys (by decide))), H.ne, H.lo, H.bel.grown hg H.bel.size (fun q hq => by cases hq; exact H.lo.1)⟩
  have := H.keys.set a (.string (L.kstr (K a)))
  rw [range_set N a hN (fun j => Value.string (L.kstr (K j)))] at this
  exact this
theorem Kept.setVal (H : Kept w0 w gk gp N a b K V) (hN : b < N) {x : Value} (ho : w.ownsRow w0.heap.size 29 2 x (K b).length (cellsL (K b))) : Kept w0 (w.setCell ⟨gp, b, none⟩ x) gk gp N a (b + 1) K (upd V b x) := by
  have hg : w.grownBy (w.setCell ⟨gp, b, none⟩ x) (some gp) := grownBy_setV (World.grownBy.refl _ _) _
  have hown : ∀ j, j < b + 1 → w.ownsRow w0.heap.size 29 2 (upd V b x j) (K j).length (cellsL (K j)) := fun j hj => by
    by_cases e : j = b
    · subst e; rw [upd_at]; exact ho
    · rw [upd_ne _ _ _ _ e]; exact H.own j (by omega)
  refine ⟨H.keys.grown hg H.ne, ?_, fun j hj => (hown j hj).kept hg (.inr (own_other (hown j hj) H.vals (by decide))), H.ne, H.lo, H.bel.grown hg H.bel.size (fun q hq => by cases hq; exact H.lo.2)⟩
  have h1 : ((List.range N).map fun j => if j < b then V j else .slice none 0 0) = ((List.range N).map fun j => if j < b then upd V b x j else .slice none 0 0) := by
    apply List.map_congr_left
    intro j _
    by_cases hj : j < b
    · rw [if_pos hj, if_pos hj, upd_ne _ _ _ _ (by omega)]
    · rw [if_neg hj, if_neg hj]
  have := H.vals.set b x
  rw [h1] at this
  have h2 := range_set N b hN (upd V b x) (.slice none 0 0)
  rw [upd_at] at h2
  rw [h2] at this
  exact this
/-- a list of labels of another block is written -/
theorem Kept.lent (H : Kept w0 w gk gp N a b K V) {g : Nat} {cs : List Value} (hG : Bk w g 29 cs) (hg : w.grownBy w' (some g)) (hlo : w0.heap.size ≤ g) (hV : ∀ j, j < b → (V j).ownBlock ≠ some g) : Kept w0 w' gk gp N a b K V := by
  have hk : gk ≠ g := fun e => by
    have h1 := H.keys
    rw [e] at h1
    have := h1.symm.trans hG
    simp at this
  have hp : gp ≠ g := fun e => by
    have h1 := H.vals
    rw [e] at h1
    have := h1.symm.trans hG
    simp at this
  exact ⟨H.keys.grown hg hk, H.vals.grown hg hp, fun j hj => (H.own j hj).kept hg (.inr (hV j hj)), H.ne, H.lo, H.bel.grown hg H.bel.size (fun q hq => by cases hq; exact hlo)⟩
end
theorem lent_isL {w : World} {g n : Nat} {l : List Lb} (h : Bk w g 29 (cellsL (l ++ lentL 40))) (hn : n = l.length) : IsL 2 w (.slice (some ⟨g, 0, none⟩) n (n + 40)) n (cellsL l) := by
  subst hn
  have h2 := h.isLN 2 l.length (l.length + 40) (by rw [cellsL_len, List.length_append]; omega)
  rw [cellsL_take, List.take_append_of_le_length (Nat.le_refl _), List.take_of_length_le (Nat.le_refl _)] at h2
  exact h2
theorem Bk.ne_type {w : World} {g g' : Nat} {e e' : TypeId} {L L' : List Value} (h : Bk w g e L) (h' : Bk w g' e' L') (hne : e ≠ e') : g ≠ g' := by
  rintro rfl
  have := h.symm.trans h'
  simp at this
  exact hne this.2
theorem made_s (k : Nat) (K : Nat → List Lb) : (madeCells #[Value.string ⟨#[]⟩] k).toList = (List.range k).map fun j => if j < 0 then Value.string (L.kstr (K j)) else .string ⟨#[]⟩ := by
  apply List.ext_getElem
  · simp [madeCells]
  · intro j h1 h2; simp [madeCells, Nat.mod_one]
theorem made_v (k : Nat) (V : Nat → Value) : (madeCells #[Value.slice none 0 0] k).toList = (List.range k).map fun j => if j < 0 then V j else .slice none 0 0 := by
  apply List.ext_getElem
  · simp [madeCells]
  · intro j h1 h2; simp [madeCells, Nat.mod_one]
end Go.Proofs.YtifaepkeoffcfaaDoor
