/- How an argument []api.Label and [][]api.Label reads. -/
import Derived.Test.YtifaepkeoffcfaaLBase
namespace Go.Proofs.Ytifaepkeoffcfaa
open Go.RowKit Go.ChangeShapes Go.WideShapes Go.Deep
theorem bytes_label : Try.prog.bytesOf 26 = 32 := by kernel_rfl
section
variable {H : Type} {enc : TypeId × Value → H} {w : World} {base : Nat}
/-- v reads in w as a list of labels -/
def IsLbs (w : World) (v : Value) (l : List Lb) : Prop := IsL 2 w v l.length (cellsL l) ∧ l.length * 32 ≤ reachBytes
theorem open_lbs {fuel : Nat} {v : Value} {x : DataW H × List MemPlace} (h : DataW.trod enc Try.prog w 0 (fun _ => true) true fuel 23 [v] = some x)
    (hw : ∀ n ∈ x.1.weights Try.prog 23, n ≤ reachBytes) : ∃ l, IsLbs w v l := by
  rcases open_slice_fields Try.underlying23 Try.underlying26 (by kernel_rfl) (by kernel_rfl) h with ⟨hcs, hx⟩ | ⟨a, len, cap, m, D, Pl, hcs, _, hl, hm, hmm, hx, hi⟩
  · obtain rfl : v = .slice none 0 0 := by simpa using hcs
    exact ⟨[], IsL.nil 2 w none 0, by simp⟩
  · obtain rfl : v = .slice (some a) len cap := by simpa using hcs
    subst hx
    have each : ∀ i, i < len → ∃ y : Lb, w.cell? (a.add (i * 2)) = some (.string y.1) ∧ w.cell? (a.add (i * 2 + 1)) = some (.string y.2) := by
      intro i hil
      obtain ⟨ys, n, _, _, _, hfs⟩ := hi i (by simp only [if_true] at hmm; omega)
      obtain ⟨v0, y0, c0, _, t0⟩ := hfs 0 _ rfl
      obtain ⟨v1, y1, c1, _, t1⟩ := hfs 1 _ rfl
      obtain ⟨s, hs, _, _⟩ := DataW.trod_string Try.underlying9 t0
      obtain ⟨z, hz, _, _⟩ := DataW.trod_string Try.underlying9 t1
      simp at hs hz
      subst hs
      subst hz
      exact ⟨(s, z), c0, c1⟩
    obtain ⟨l, hlen, hR⟩ := list_of len _ each
    subst hlen
    refine ⟨l, ⟨cellsL_len l, some a, cap, rfl, fun k hk => ?_⟩, ?_⟩
    · rw [cellsL_len] at hk
      have ha : a = ⟨a.block, a.off, none⟩ := by
        have := (hR 0 (by omega)).1
        rw [Nat.zero_mul] at this
        have e : a.add 0 = a := by simp [Addr.add]
        rw [e] at this
        exact plain_of_cell this
      refine ⟨a.block, a.off, congrArg some ha, ?_⟩
      obtain ⟨r1, r2⟩ := hR (k / 2) (by omega)
      obtain ⟨e1, e2⟩ := cellsL_at l (k / 2) (by omega)
      rw [ha, add_plain] at r1 r2
      rw [← List.getElem?_eq_getElem]
      rcases Nat.mod_two_eq_zero_or_one k with h0 | h0
      · have hk2 : k / 2 * 2 = k := by omega
        rw [hk2] at r1 e1
        rw [r1, e1]
      · have hk2 : k / 2 * 2 + 1 = k := by omega
        rw [hk2] at r2 e2
        rw [r2, e2]
    · have h1 : ((List.range l.length).map D).length * 32 ≤ (((List.range l.length).map D).length + ((List.range (m - l.length)).map fun j => D (l.length + j)).length) * Try.prog.bytesOf 26 := by
        rw [bytes_label]; exact Nat.mul_le_mul_right _ (Nat.le_add_right _ _)
      have h2 := hw _ (by simp only [DataW.weights, Try.underlying23]; exact List.mem_cons_self ..)
      simp only [List.length_map, List.length_range] at h1 h2
      omega
/-- v reads in w as a list of lists of labels -/
def IsLbss (w : World) (v : Value) (l : List (List Lb)) : Prop :=
  ∃ (A : Option Addr) (c : Nat), v = .slice A l.length c ∧ l.length ≤ maxLen ∧
    ∀ i (h : i < l.length), ∃ b off x, A = some ⟨b, off, none⟩ ∧ w.cell? ⟨b, off + i, none⟩ = some x ∧ IsLbs w x (l[i]'h)
theorem weights_mem_slice {P : Program} {t e : TypeId} {elems spare : List (DataW H)} (ht : P.underlying t = some (.slice e)) {x : DataW H} (hx : x ∈ elems) {n : Nat} (hn : n ∈ x.weights P e) : n ∈ (DataW.slice elems spare).weights P t := by
  simp only [DataW.weights, ht, List.mem_cons, List.mem_append]
  refine Or.inr (Or.inl ?_)
  induction elems with
  | nil => cases hx
  | cons y r ih =>
    simp only [DataW.weightsAll, List.mem_append]
    rcases List.mem_cons.1 hx with rfl | hr
    · exact Or.inl hn
    · exact Or.inr (ih hr)
set_option maxRecDepth 100000 in
theorem open_lbss {v : Value} {d : DataW H} {p : List MemPlace} (hv : Value.okWide Try.prog w .any base 36 v) (h : DataW.Trod enc Try.prog w 0 (fun _ => true) true 36 v d p)
    (hw : ∀ n ∈ d.weights Try.prog 36, n ≤ reachBytes) : ∃ l, IsLbss w v l := by
  obtain ⟨A, len, cap, rfl⟩ := okWide_slice Try.underlying36 hv
  obtain ⟨fuel, hf⟩ := h
  rcases open_slice1 Try.underlying36 (by kernel_rfl) hf with ⟨hcs, hx⟩ | ⟨a, len', cap', m, n, V, D, Pl, hcs, _, hl, hm, hmm, hx, hi⟩
  · simp [Value.cells] at hcs
    obtain ⟨rfl, rfl, rfl⟩ := hcs
    exact ⟨[], none, 0, rfl, by simp, fun i hi => absurd hi (by simp)⟩
  · simp [Value.cells] at hcs
    obtain ⟨rfl, rfl, rfl⟩ := hcs
    simp only [if_true] at hmm
    simp only [Prod.mk.injEq] at hx
    obtain ⟨hd, _⟩ := hx
    subst hd
    have each : ∀ i, i < len → ∃ y : List Lb, w.cell? (a.add i) = some (V i) ∧ IsLbs w (V i) y := by
      intro i hil
      obtain ⟨h1, h2⟩ := hi i (by omega)
      obtain ⟨l, hl⟩ := open_lbs h2 (fun q hq => hw q (weights_mem_slice Try.underlying36 (x := D i) (List.mem_map.2 ⟨i, List.mem_range.2 hil, rfl⟩) hq))
      exact ⟨l, h1, hl⟩
    obtain ⟨l, hlen, hR⟩ := list_of len _ each
    subst hlen
    refine ⟨l, some a, cap, rfl, by omega, fun i hil => ?_⟩
    have ha : a = ⟨a.block, a.off, none⟩ := by
      have := (hR 0 (by omega)).1
      rw [show a.add 0 = a from by simp [Addr.add]] at this
      exact plain_of_cell this
    obtain ⟨r1, r2⟩ := hR i hil
    refine ⟨a.block, a.off, V i, congrArg some ha, ?_, r2⟩
    rw [ha, add_plain] at r1
    exact r1
end
end Go.Proofs.Ytifaepkeoffcfaa
