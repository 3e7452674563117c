/- How an argument [][]int32 reads, and what the bound of the second form says of it. -/
import Derived.Test.YthlpgnidjjclcaaUInts
import Derived.Deep.Matrix
namespace Go.Proofs.Ythlpgnidjjclcaa
open Go.RowKit Go.ChangeShapes Go.WideShapes Go.Deep
section
variable {H : Type} {enc : TypeId × Value → H} {w : World} {base : Nat}
/-- v reads in w as a list of lists of numbers -/
def IsLists (k : IntKind) (w : World) (v : Value) (l : List (List Int)) : Prop :=
  ∃ (A : Option Addr) (c : Nat), v = .slice A l.length c ∧ l.length ≤ 1048576 ∧
    ∀ i (h : i < l.length), ∃ b off x, A = some ⟨b, off, none⟩ ∧ w.cell? ⟨b, off + i, none⟩ = some x ∧ IsInts k w x (l[i]'h)
theorem bulk_row (k : IntKind) (A : Option Addr) (L : Nat) (zs : List Int) (hA : A = none → zs = []) (hL : L ≤ zs.length) : L ≤ Rows.uptoBulk (intRow (H := H) k A L zs) := by
  cases A with
  | none => rw [hA rfl] at hL; simp at hL; omega
  | some a =>
    show L ≤ Rows.uptoBulk (.slice (lits k (zs.take L)) (lits k (zs.drop L)))
    rw [bulk_slice]
    have := bulk_len (lits (H := H) k (zs.take L))
    rw [show (lits (H := H) k (zs.take L)).length = L by rw [lits, List.length_map, List.length_take]; omega] at this
    omega
theorem open_lists {P : Program} {t e q : TypeId} {k : IntKind} (ht : P.underlying t = some (.slice e)) (he : P.underlying e = some (.slice q)) (hq : P.underlying q = some (.int k)) (ce : P.cellsOf e = 1) (cq : P.cellsOf q = 1) {v : Value} {d : DataW H} {p : List MemPlace}
    (hv : Value.okWide P w .any base t v) (h : DataW.Trod enc P w 0 (fun _ => true) true t v d p) (hw : ∀ n ∈ d.weights P t, n ≤ reachBytes) : Rows.uptoBulk d ≤ 1048576 → ∃ l, IsLists k w v l := by
  intro hb
  obtain ⟨A, len, cap, rfl⟩ := okWide_slice ht hv
  obtain ⟨fuel, hf⟩ := h
  rcases open_int_rows ht he hq ce cq hf with ⟨hcs, hx⟩ | ⟨a, len', cap', A', L, C, Z, hcs, _, hl, hm, hx, hi⟩
  · simp [Value.cells] at hcs
    obtain ⟨rfl, rfl, rfl⟩ := hcs
    exact ⟨[], none, 0, rfl, by simp, fun i hi => absurd hi (by simp)⟩
  · simp [Value.cells] at hcs
    obtain ⟨rfl, rfl, rfl⟩ := hcs
    simp only [Prod.mk.injEq] at hx
    obtain ⟨hd, _⟩ := hx
    subst hd
    rw [bulk_slice] at hb
    have hbl := bulk_len ((List.range len).map fun r => intRow (H := H) k (A' r) (L r) (Z r))
    rw [List.length_map, List.length_range] at hbl
    refine ⟨(List.range len).map fun r => (Z r).take (L r), some a, cap, by simp, by simp; omega, fun i hi2 => ?_⟩
    have hil : i < len := by simpa using hi2
    obtain ⟨h1, h2, h3, h4, h5, h6, h7⟩ := hi i (by omega)
    have hLi : L i ≤ 1048576 := by
      have hm2 : intRow (H := H) k (A' i) (L i) (Z i) ∈ (List.range len).map fun r => intRow (H := H) k (A' r) (L r) (Z r) := List.mem_map.2 ⟨i, List.mem_range.2 hil, rfl⟩
      have h9 := bulk_part hm2
      have h10 := bulk_row (H := H) k (A' i) (L i) (Z i) (fun e => List.eq_nil_of_length_eq_zero (by rw [h4]; exact h6 e)) (by omega)
      omega
    have ha : a = ⟨a.block, a.off, none⟩ := by
      have h0 := (hi 0 (by omega)).1
      rw [show a.add 0 = a from by simp [Addr.add]] at h0
      exact plain_of_cell h0
    refine ⟨a.block, a.off, .slice (A' i) (L i) (C i), by rw [← ha], ?_, ?_⟩
    · rw [ha, add_plain] at h1; exact h1
    · have hlen : ((Z i).take (L i)).length = L i := by rw [List.length_take]; omega
      have e : ((List.range len).map fun r => (Z r).take (L r))[i]'hi2 = (Z i).take (L i) := by simp
      rw [e]
      refine ⟨⟨by simp, A' i, C i, by rw [hlen], fun j hj => ?_⟩, by omega, fun n hn => h5 n (List.mem_of_mem_take hn)⟩
      rw [List.length_map, hlen] at hj
      cases hA : A' i with
      | none => have := h6 hA; omega
      | some a' =>
        obtain ⟨_, hc⟩ := h7 a' hA
        have hcj := hc j (by omega)
        have ha' : a' = ⟨a'.block, a'.off, none⟩ := by
          have h0 := hc 0 (by omega)
          rw [show a'.add 0 = a' from by simp [Addr.add]] at h0
          exact plain_of_cell h0
        refine ⟨a'.block, a'.off, by rw [← ha'], ?_⟩
        rw [ha', add_plain] at hcj
        rw [hcj]
        simp [List.getD_eq_getElem?_getD, List.getElem?_eq_getElem (show j < (Z i).length by omega)]
end
end Go.Proofs.Ythlpgnidjjclcaa
