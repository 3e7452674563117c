/- RenderSets: the law's walk. -/
import Derived.Test.YtcbggkdginfakaaGreatDoorRSt
import Derived.Test.YtcbggkdginfakaaGreatDoorRNamesW
namespace Go.Proofs.YtcbggkdginfakaaGreatDoor
open Go.RowKit Go.ChangeShapes Go.WideShapes Go.Deep
set_option linter.unusedVariables false
set_option linter.unusedSimpArgs false
def R.lit1 : List (List Lb) := [[(⟨#[97]⟩, ⟨#[120]⟩)]]
def R.aw2 : List UInt8 := [123, 34, 115, 116, 97, 116, 117, 115, 34, 58, 34, 115, 117, 99, 99, 101, 115, 115, 34, 44, 34, 100, 97, 116, 97, 34, 58, 91, 123, 34, 97, 34, 58, 34, 120, 34, 125, 93, 125]
theorem k_aw2 : R.ans (R.lit1.map R.st) = R.aw2 := by decide +kernel
theorem lit1_sm : Sm R.lit1 := by
  intro x hx y hy
  simp [R.lit1] at hx
  subst hx
  simp at hy
  subst hy
  exact ⟨by decide, by decide⟩
theorem lit1_at (w : World) : IsLbss ((w.alloc (.cells #[.string ⟨#[97]⟩, .string ⟨#[120]⟩] 122)).alloc (.cells #[.slice (some ⟨w.heap.size, 0, none⟩) 1 1] 38)) (.slice (some ⟨w.heap.size + 1, 0, none⟩) 1 1) R.lit1 := by
  refine ⟨_, _, rfl, by decide, fun i hi => ?_⟩
  have hi0 : i = 0 := by have : i < 1 := hi; omega
  subst hi0
  refine ⟨w.heap.size + 1, 0, .slice (some ⟨w.heap.size, 0, none⟩) 1 1, rfl, ?_, ?_, (by show 1 * 32 ≤ reachBytes; decide)⟩
  · simp
  · have h1 : IsL 2 (w.alloc (.cells #[.string ⟨#[97]⟩, .string ⟨#[120]⟩] 122)) (.slice (some ⟨w.heap.size, 0, none⟩) 1 1) 1 (cellsL [(⟨#[97]⟩, ⟨#[120]⟩)]) :=
      IsL.own (World.ownsRow_lit (base := w.heap.size) w #[.string ⟨#[97]⟩, .string ⟨#[120]⟩] 1 (Nat.le_refl _) (by decide) rfl)
    exact h1.below ((Below.refl _ _).alloc (Nat.le_refl _) _)
section
variable {H : Type} {enc : TypeId × Value → H} {w : World} {base : Nat}
/-- the same with what the bound gives: all texts and lists are small -/
theorem open_lbsB {fuel : Nat} {v : Value} {x : DataW H × List MemPlace} (h : DataW.trod enc Tryz.prog w 0 (fun _ => true) true fuel 38 [v] = some x)
    (hw : ∀ n ∈ x.1.weights Tryz.prog 38, n ≤ reachBytes) (hb : Rows.uptoBulk x.1 ≤ 1048576) : ∃ l, IsLbs w v l ∧ ∀ y ∈ l, y.1.size ≤ 1048576 ∧ y.2.size ≤ 1048576 := by
  obtain ⟨l, hl⟩ := open_lbs h hw
  refine ⟨l, hl, ?_⟩
  rcases open_slice_fields Tryz.underlying38 Tryz.underlying122 (by kernel_rfl) (by kernel_rfl) h with ⟨hcs, hx⟩ | ⟨a, len, cap, m, D, Pl, hcs, _, hle, hm, hmm, hx, hi⟩
  · obtain rfl : v = .slice none 0 0 := by simpa using hcs
    obtain ⟨⟨h1, A', c', e, h2⟩, _⟩ := hl
    simp only [Value.slice.injEq] at e
    have hl0 : l = [] := List.eq_nil_of_length_eq_zero e.2.1.symm
    subst hl0
    intro y hy
    cases hy
  · obtain rfl : v = .slice (some a) len cap := by simpa using hcs
    obtain ⟨hI, _⟩ := hl
    have hlen : l.length = len := by
      obtain ⟨_, A', c', e, _⟩ := hI
      simp only [Value.slice.injEq] at e
      exact e.2.1.symm
    subst hx
    intro y hy
    obtain ⟨k, hk, rfl⟩ := List.mem_iff_getElem.1 hy
    obtain ⟨ys, n, hD, _, hyl, hfs⟩ := hi k (by simp only [if_true] at hmm; omega)
    obtain ⟨v0, y0, c0, e0, t0⟩ := hfs 0 _ rfl
    obtain ⟨v1, y1, c1, e1, t1⟩ := hfs 1 _ rfl
    obtain ⟨s, hs, hy0, _⟩ := DataW.trod_string Tryz.underlying9 t0
    obtain ⟨z, hz, hy1, _⟩ := DataW.trod_string Tryz.underlying9 t1
    simp at hs hz
    subst hs
    subst hz
    have hcell := IsLb.at_ (n := l.length) (A := some a) (c := cap) (by rw [← hlen] at hI; exact hI) k hk
    obtain ⟨b', o', ea, _, q1, q2⟩ := hcell
    obtain rfl : a = ⟨b', o', none⟩ := by simpa using ea
    rw [add_plain] at c0 c1
    have r1 : some (Value.string s) = some (Value.string (l[k]'hk).1) := c0.symm.trans q1
    have r2 : some (Value.string z) = some (Value.string (l[k]'hk).2) := c1.symm.trans q2
    simp only [Option.some.injEq, Value.string.injEq] at r1 r2
    have hys : D k = .agg [.lit (.string s.data.toList), .lit (.string z.data.toList)] := by
      rw [hD]
      have hy2 : ys.length = 2 := hyl
      match ys, hy2 with
      | [a0, a1], _ =>
        simp at e0 e1
        subst e0
        subst e1
        rw [hy0, hy1]
        rfl
    have hp := bulk_part (d := D k) (l := (List.range len).map D) (List.mem_map.2 ⟨k, List.mem_range.2 (by omega), rfl⟩)
    simp only at hb
    rw [bulk_slice] at hb
    rw [hys, bulk_agg, bulk_cons, bulk_cons, bulk_nil, bulk_str, bulk_str, ← Lib.size_eq, ← Lib.size_eq] at hp
    rw [← r1, ← r2]
    omega
set_option maxRecDepth 100000 in
theorem open_lbssB {v : Value} {d : DataW H} {p : List MemPlace} (hv : Value.okWide Tryz.prog w .any base 37 v) (h : DataW.Trod enc Tryz.prog w 0 (fun _ => true) true 37 v d p)
    (hw : ∀ n ∈ d.weights Tryz.prog 37, n ≤ reachBytes) : Rows.uptoBulk d ≤ 1048576 → ∃ l, IsLbss w v l ∧ Sm l ∧ l.length ≤ 1048576 := fun hb => by
  obtain ⟨A, len, cap, rfl⟩ := okWide_slice Tryz.underlying37 hv
  obtain ⟨fuel, hf⟩ := h
  rcases open_slice1 Tryz.underlying37 (by kernel_rfl) hf with ⟨hcs, hx⟩ | ⟨a, len', cap', m, n, V, D, Pl, hcs, _, hl, hm, hmm, hx, hi⟩
  · simp [Value.cells] at hcs
    obtain ⟨rfl, rfl, rfl⟩ := hcs
    exact ⟨[], ⟨none, 0, rfl, by simp, fun i hi => absurd hi (by simp)⟩, (fun x hx => by cases hx), by simp⟩
  · simp [Value.cells] at hcs
    obtain ⟨rfl, rfl, rfl⟩ := hcs
    simp only [if_true] at hmm
    simp only [Prod.mk.injEq] at hx
    obtain ⟨hd, _⟩ := hx
    subst hd
    have hbl := bulk_len ((List.range len).map D)
    rw [bulk_slice] at hb
    rw [List.length_map, List.length_range] at hbl
    have each : ∀ i, i < len → ∃ y : List Lb, w.cell? (a.add i) = some (V i) ∧ IsLbs w (V i) y ∧ ∀ z ∈ y, z.1.size ≤ 1048576 ∧ z.2.size ≤ 1048576 := by
      intro i hil
      obtain ⟨h1, h2⟩ := hi i (by omega)
      have hmem : D i ∈ (List.range len).map D := List.mem_map.2 ⟨i, List.mem_range.2 hil, rfl⟩
      have hp := bulk_part hmem
      obtain ⟨l, hl, hs⟩ := open_lbsB h2 (fun q hq => hw q (weights_mem_slice Tryz.underlying37 hmem hq)) (show Rows.uptoBulk (D i) ≤ 1048576 by omega)
      exact ⟨l, h1, hl, hs⟩
    obtain ⟨l, hlen, hR⟩ := list_of len _ each
    subst hlen
    refine ⟨l, ⟨some a, cap, rfl, by omega, fun i hil => ?_⟩, ?_, by omega⟩
    · have ha : a = ⟨a.block, a.off, none⟩ := by
        have := (hR 0 (by omega)).1
        rw [show a.add 0 = a from by simp [Addr.add]] at this
        exact plain_of_cell this
      obtain ⟨r1, r2, _⟩ := hR i hil
      refine ⟨a.block, a.off, V i, congrArg some ha, ?_, r2⟩
      rw [ha, add_plain] at r1
      exact r1
    · intro x hx
      obtain ⟨k, hk, rfl⟩ := List.mem_iff_getElem.1 hx
      exact (hR k hk).2.2
end
end Go.Proofs.YtcbggkdginfakaaGreatDoor
