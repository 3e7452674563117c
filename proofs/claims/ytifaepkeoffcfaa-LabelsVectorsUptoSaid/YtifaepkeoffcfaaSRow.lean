/- The row that a stable sort works on: its word on the world (Below serves between the steps). No function of the program in sight. -/
import Derived.Test.YtifaepkeoffcfaaSStab
import Derived.Test.YtifaepkeoffcfaaBase3
import Derived.Test.YtifaepkeoffcfaaBQuiet
import Derived.Shelf.SlSortCmp.KitK
import Derived.BigRegion
namespace Go.Proofs.Ytifaepkeoffcfaa
open Go.RowKit Go.Sort Go.Shelf Go.Lib
set_option linter.unusedVariables false
set_option linter.unusedSectionVars false
@[go_sem] theorem run_store_float {P : Program} {w : World} {a : Addr} {m : Mode} (k : FloatKind) (b : Nat) : (store a (.float k b) m).run P w = stored P w a (.float k b) m := run_store P w a _ m rfl
/-- what is known of the row, once -/
structure SK {α : Type} [Inhabited α] (enc : α → List Value) (w0 : World) (B : Nat) (T : TypeId) (n c g : Nat) : Prop where
  two : ∀ x, ∃ p k c f, enc x = [.slice p k c, .float .f64 f]
  hg : g < w0.heap.size
/-- W is w0 but for the row's block, which holds d, and for new memory -/
structure SR {α : Type} [Inhabited α] (enc : α → List Value) (w0 : World) (B : Nat) (T : TypeId) (n c g : Nat) (d : Array α) (W : World) : Prop where
  o : W.ownsRow B T 2 (.slice (some ⟨g, 0, none⟩) n c) n (flatK enc 2 d).toList
  gr : w0.grownBy W (some g)
section
variable {α : Type} [Inhabited α] {enc : α → List Value} {w0 W W' : World} {B : Nat} {T : TypeId} {n c g : Nat} {d : Array α}
theorem SK.hk (K : SK enc w0 B T n c g) (x : α) : (enc x).length = 2 := by obtain ⟨_, _, _, _, h⟩ := K.two x; rw [h]; rfl
theorem SK.h1 (K : SK enc w0 B T n c g) (x : α) : ∀ v ∈ enc x, v.oneCell' = true := by
  obtain ⟨_, _, _, _, h⟩ := K.two x
  rw [h]; intro v hv
  simp at hv
  rcases hv with rfl | rfl <;> rfl
theorem SR.size (h : SR enc w0 B T n c g d W) : d.size = n := by
  have := h.o.1
  simp at this
  omega
theorem grown_trans {a b w : World} {r : Option Nat} (h : a.grownBy b r) (k : b.grownBy w r) : a.grownBy w r :=
  ⟨k.os.trans h.os, k.tape.trans h.tape, k.output.trans h.output, Nat.le_trans h.size k.size, fun i hi hn => (k.block i (Nat.lt_of_lt_of_le hi h.size) hn).trans (h.block i hi hn)⟩
theorem grown_of_below {a b : World} {r : Option Nat} (h : Below a.heap.size a b) : a.grownBy b r := ⟨h.os, h.tape, h.output, h.size, fun k hk _ => h.block k hk⟩
theorem SR.below (h : SR enc w0 B T n c g d W) (hb : Below W.heap.size W W') : SR enc w0 B T n c g d W' := ⟨own_below h.o hb, grown_trans h.gr (grown_of_below hb)⟩
theorem SR.drew (h : SR enc w0 B T n c g d W) : SR enc w0 B T n c g d W.drew := h.below (Below.refl _ _).drew
theorem SR.holds (h : SR enc w0 B T n c g d W) : HoldsK enc 2 W g 0 d := fun j hj => by
  have hs := h.size
  have hj2 : j < n * 2 := by rw [size_flatK] at hj; rw [← hs]; exact hj
  rw [Nat.zero_add, h.o.cellAt j hj2]
  refine ⟨?_, h.o.frozenAt j⟩
  rw [List.getElem?_eq_getElem (by simpa using hj), getElem!_pos _ j hj]
  simp
theorem SR.load (h : SR enc w0 B T n c g d W) (K : SK enc w0 B T n c g) (P : Program) (i : Nat) (hi : i < n) :
    Sem.run P (loadCellsFrom ⟨g, i * 2, none⟩ 0 2 #[]) W = .ok (enc d[i]!).toArray W := by
  have := run_loadCellsFrom_list P W ⟨g, 0 + i * 2, none⟩ (enc d[i]!) 2 (K.hk _) (HoldsK.cells h.holds K.hk (by rw [h.size]; exact hi))
  rwa [Nat.zero_add] at this
theorem SR.st1 (h : SR enc w0 B T n c g d W) (K : SK enc w0 B T n c g) (P : Program) (i : Nat) (hi : i < n) (y : α) :
    Sem.run P (storeCells ⟨g, i * 2, none⟩ (enc y) 0) W = .ok () (W.setCells g (i * 2) (enc y)) := by
  have := stores_of_holds P h.holds (i * 2) (enc y) (by rw [K.hk, size_flatK]; exact rowK_bnd d 2 i (by rw [h.size]; exact hi)) (K.h1 _)
  rwa [Nat.zero_add] at this
theorem SR.st2 (h : SR enc w0 B T n c g d W) (K : SK enc w0 B T n c g) (P : Program) (i j : Nat) (hi : i < n) (hj : j < n) (y x : α) :
    Sem.run P (storeCells ⟨g, j * 2, none⟩ (enc x) 0) (W.setCells g (i * 2) (enc y)) = .ok () ((W.setCells g (i * 2) (enc y)).setCells g (j * 2) (enc x)) := by
  have h1 := holds_setCells_c h.holds (i * 2) (enc y) (by rw [K.hk, size_flatK]; exact rowK_bnd d 2 i (by rw [h.size]; exact hi))
  have := stores_of_holds P h1 (j * 2) (enc x) (by rw [K.hk, size_setMany, size_flatK]; exact rowK_bnd d 2 j (by rw [h.size]; exact hj)) (K.h1 _)
  rwa [Nat.zero_add, Nat.zero_add] at this
theorem SR.cells2 (h : SR enc w0 B T n c g d W) (i : Nat) (hi : i < n) {a b : Value} (he : enc d[i]! = [a, b]) :
    W.cell? ⟨g, i * 2, none⟩ = some a ∧ W.cell? ⟨g, i * 2 + 1, none⟩ = some b ∧ W.frozen? ⟨g, i * 2, none⟩ = false ∧ W.frozen? ⟨g, i * 2 + 1, none⟩ = false := by
  have hs := h.size
  have q1 := h.holds (i * 2) (by rw [size_flatK]; omega)
  have q2 := h.holds (i * 2 + 1) (by rw [size_flatK]; omega)
  rw [Nat.zero_add, get_flatK _ _ _ _ (by omega)] at q1 q2
  rw [show i * 2 / 2 = i by omega, show i * 2 % 2 = 0 by omega, he] at q1
  rw [show (i * 2 + 1) / 2 = i by omega, show (i * 2 + 1) % 2 = 1 by omega, he] at q2
  exact ⟨q1.1, q2.1, q1.2, q2.2⟩
theorem SR.swapped (h : SR enc w0 B T n c g d W) (K : SK enc w0 B T n c g) (i j : Nat) (hi : i < n) (hj : j < n) :
    SR enc w0 B T n c g (swp d i j) ((W.setCells g (i * 2) (enc d[j]!)).setCells g (j * 2) (enc d[i]!)) := by
  have hs := h.size
  have e : (W.setCells g (i * 2) (enc d[j]!)).setCells g (j * 2) (enc d[i]!) = putRowK enc 2 W g 0 (swp d i j) := by
    have h0 := putRowK_self enc 2 W g 0 d h.holds
    have hb : ∀ x, x < n → x * 2 + 2 ≤ d.size * 2 := fun x hx => rowK_bnd d 2 x (by rw [hs]; exact hx)
    conv => lhs; rw [← h0]
    have e1 := setCells_putRow W g 0 (enc d[j]!) (i * 2) (flatK enc 2 d) (by rw [K.hk, size_flatK]; exact hb i hi)
    have e2 := setCells_putRow W g 0 (enc d[i]!) (j * 2) (setMany (flatK enc 2 d) (i * 2) (enc d[j]!)) (by rw [K.hk, size_setMany, size_flatK]; exact hb j hj)
    rw [Nat.zero_add] at e1 e2
    unfold putRowK
    rw [e1, e2, setMany_swp enc 2 K.hk d i j (by omega) (by omega)]
  rw [e]
  generalize hd' : swp d i j = d'
  have hsz : d'.size = n := by rw [← hd', size_swp, hs]
  rcases h.o.2 with ⟨h', _⟩ | ⟨g', cap, cur, h', hB, hg, h1, h2, h3, h4⟩
  · simp at h'
  · simp only [Value.slice.injEq, Option.some.injEq, Addr.mk.injEq, and_true, true_and] at h'
    obtain ⟨rfl, rfl⟩ := h'
    have hF : (flatK enc 2 d').size = n * 2 := by rw [size_flatK, hsz]
    have hblk : (putRowK enc 2 W g 0 d').heap[g]? = some (.cells (putCells id 0 (flatK enc 2 d') cur) T (0, 0)) := by
      unfold putRowK putRow mapBlock
      show (W.heap.modify g _)[g]? = _
      rw [Array.getElem?_modify, if_pos rfl, hg]
      rfl
    refine ⟨⟨by simp [hsz], .inr ⟨g, c, _, rfl, hB, hblk, h1, h2, by simpa [putCells] using h3, ?_⟩⟩, ?_⟩
    · apply List.ext_getElem?
      intro j
      rw [List.getElem?_take]
      by_cases hj : j < n * 2
      · rw [if_pos hj, Array.getElem?_toList, Array.getElem?_toList]
        unfold putCells
        have hjc : j < cur.size := by rw [h3]; have := Nat.mul_le_mul_right 2 h1; omega
        rw [Array.getElem?_mapIdx, Array.getElem?_eq_getElem hjc, Option.map_some, if_pos ⟨Nat.zero_le _, by rw [hF]; omega⟩, Nat.sub_zero, Array.getElem?_eq_getElem (by rw [hF]; exact hj), getElem!_pos _ j (by rw [hF]; exact hj)]
        rfl
      · rw [if_neg hj, List.getElem?_eq_none (by simp [hsz]; omega)]
    · refine grown_trans h.gr ⟨rfl, rfl, rfl, ?_, fun k hk hne => ?_⟩
      · simp [putRowK, putRow, mapBlock]
      · have hkg : g ≠ k := fun e => hne (by rw [e])
        unfold putRowK putRow mapBlock
        show (W.heap.modify g _)[k]? = _
        rw [Array.getElem?_modify, if_neg hkg]
theorem SR.swap4 (h : SR enc w0 B T n c g d W) (K : SK enc w0 B T n c g) (i j : Nat) (hi : i < n) (hj : j < n) {p1 q1 : Option Addr} {p2 p3 p4 q2 q3 q4 : Nat}
    (hx : enc d[i]! = [.slice p1 p2 p3, .float .f64 p4]) (hy : enc d[j]! = [.slice q1 q2 q3, .float .f64 q4]) :
    SR enc w0 B T n c g (swp d i j) ((((W.setCell ⟨g, i * 2, none⟩ (.slice q1 q2 q3)).setCell ⟨g, i * 2 + 1, none⟩ (.float .f64 q4)).setCell ⟨g, j * 2, none⟩ (.slice p1 p2 p3)).setCell ⟨g, j * 2 + 1, none⟩ (.float .f64 p4)).drew := by
  have := h.drew.swapped K i j hi hj
  rw [hx, hy] at this
  exact this
end
end Go.Proofs.Ytifaepkeoffcfaa
