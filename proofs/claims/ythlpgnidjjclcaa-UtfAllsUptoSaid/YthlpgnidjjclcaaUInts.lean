/- How an argument []int32 or []int reads, and what the bound of the second form says of it. -/
import Derived.Test.YthlpgnidjjclcaaUBulk
import Derived.Test.YthlpgnidjjclcaaBase3
import Derived.ChangeSlices
namespace Go.Proofs.Ythlpgnidjjclcaa
open Go.RowKit Go.ChangeShapes Go.WideShapes Go.Deep
section
variable {H : Type} {enc : TypeId × Value → H} {w : World} {base : Nat}
/-- v reads in w as a list of numbers of that kind, so many at the most -/
def IsInts (k : IntKind) (w : World) (v : Value) (l : List Int) : Prop :=
  IsL 1 w v l.length (l.map (Value.int k)) ∧ l.length ≤ 1048576 ∧ ∀ n ∈ l, (Lit.int k n).wf = true
theorem open_nums {P : Program} {t e : TypeId} {k : IntKind} (ht : P.underlying t = some (.slice e)) (he : P.underlying e = some (.int k)) (hce : P.cellsOf e = 1) {v : Value} {d : DataW H} {p : List MemPlace}
    (hv : Value.okWide P w .any base t v) (h : DataW.Trod enc P w 0 (fun _ => true) true t v d p) (hw : ∀ n ∈ d.weights P t, n ≤ reachBytes) : Rows.uptoBulk d ≤ 1048576 → ∃ l, IsInts k w v l := by
  intro hb
  obtain ⟨A, len, cap, rfl⟩ := okWide_slice ht hv
  obtain ⟨fuel, hf⟩ := h
  rcases open_ints ht he hce hf with ⟨hcs, hx⟩ | ⟨a, len', cap', zs, hcs, _, hl, hm, hz, hx, hi, hwf⟩
  · simp [Value.cells] at hcs
    obtain ⟨rfl, rfl, rfl⟩ := hcs
    exact ⟨[], IsL.nil 1 w none 0, by simp, fun n hn => by cases hn⟩
  · simp [Value.cells] at hcs
    obtain ⟨rfl, rfl, rfl⟩ := hcs
    simp only [if_true] at hz
    simp only [Prod.mk.injEq] at hx
    obtain ⟨hd, _⟩ := hx
    subst hd
    have hlen : (zs.take len).length = len := by rw [List.length_take]; omega
    rw [bulk_slice] at hb
    have hbl := bulk_len (lits (H := H) k (zs.take len))
    rw [show (lits (H := H) k (zs.take len)).length = len by rw [lits, List.length_map, hlen]] at hbl
    refine ⟨zs.take len, ⟨by simp, some a, cap, by rw [hlen], fun i hk => ?_⟩, by omega, fun n hn => hwf n (List.mem_of_mem_take hn)⟩
    rw [List.length_map, hlen] at hk
    have hc := hi i (by omega)
    have hget : zs.getD i 0 = (zs.take len)[i]'(by omega) := by
      rw [List.getElem_take, List.getD_eq_getElem?_getD, List.getElem?_eq_getElem (by omega)]; rfl
    have ha : a = ⟨a.block, a.off, none⟩ := by
      have h0 := hi 0 (by omega)
      rw [show a.add 0 = a from by simp [Addr.add]] at h0
      exact plain_of_cell h0
    refine ⟨a.block, a.off, by rw [← ha], ?_⟩
    rw [ha, add_plain, hget] at hc
    rw [hc]; simp
end
end Go.Proofs.Ythlpgnidjjclcaa
