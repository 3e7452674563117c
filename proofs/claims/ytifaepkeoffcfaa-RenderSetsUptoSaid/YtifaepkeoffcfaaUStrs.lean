/- How an argument []string reads, and what the bound of the second form says of its texts. -/
import Derived.Test.YtifaepkeoffcfaaUBulk
import Derived.SliceStrings
namespace Go.Proofs.Ytifaepkeoffcfaa
open Go.RowKit Go.ChangeShapes Go.WideShapes Go.Deep
section
variable {H : Type} {enc : TypeId × Value → H} {w : World} {base : Nat}
/-- v reads in w as a list of texts, each of so many bytes at the most -/
def IsStrs (w : World) (v : Value) (l : List ByteArray) : Prop :=
  ∃ (A : Option Addr) (c : Nat), v = .slice A l.length c ∧ l.length ≤ maxLen ∧
    ∀ k (h : k < l.length), ∃ b off, A = some ⟨b, off, none⟩ ∧ w.cell? ⟨b, off + k, none⟩ = some (.string (l[k]'h)) ∧ (l[k]'h).size ≤ 1048576
theorem open_strs {P : Program} {t e : TypeId} (ht : P.underlying t = some (.slice e)) (he : P.underlying e = some .string) (hce : P.cellsOf e = 1) {v : Value} {d : DataW H} {p : List MemPlace}
    (hv : Value.okWide P w .any base t v) (h : DataW.Trod enc P w 0 (fun _ => true) true t v d p) (hb : Rows.uptoBulk d ≤ 1048576) : ∃ l, IsStrs w v l := by
  obtain ⟨A, len, cap, rfl⟩ := okWide_slice ht hv
  obtain ⟨fuel, hf⟩ := h
  rcases open_strings ht he hce hf with ⟨hcs, hx⟩ | ⟨a, len', cap', ss, hcs, _, hl, hm, hz, hx, hi, _⟩
  · simp [Value.cells] at hcs
    obtain ⟨rfl, rfl, rfl⟩ := hcs
    exact ⟨[], none, 0, rfl, by simp, fun k hk => absurd hk (by simp)⟩
  · simp [Value.cells] at hcs
    obtain ⟨rfl, rfl, rfl⟩ := hcs
    simp only [if_true] at hz
    simp only [Prod.mk.injEq] at hx
    obtain ⟨hd, _⟩ := hx
    subst hd
    have hlen : (ss.take len).length = len := by rw [List.length_take]; omega
    refine ⟨ss.take len, some a, cap, by rw [hlen], by omega, fun k hk => ?_⟩
    rw [hlen] at hk
    have hc := hi k (by omega)
    have hget : ss.getD k ByteArray.empty = (ss.take len)[k]'(by omega) := by
      rw [List.getElem_take, List.getD_eq_getElem?_getD, List.getElem?_eq_getElem (by omega)]; rfl
    rw [hget] at hc
    have ha : a = ⟨a.block, a.off, none⟩ := by
      have h0 := hi 0 (by omega)
      rw [show a.add 0 = a from by simp [Addr.add]] at h0
      exact plain_of_cell h0
    refine ⟨a.block, a.off, by rw [← ha], ?_, ?_⟩
    · rw [ha, add_plain] at hc; exact hc
    · rw [bulk_slice] at hb
      have hm2 : (DataW.lit (H := H) (.string ((ss.take len)[k]'(by omega)).data.toList)) ∈ strs (H := H) (ss.take len) := by
        unfold strs; exact List.mem_map.2 ⟨_, List.getElem_mem _, rfl⟩
      have := bulk_part hm2
      rw [bulk_str, ← Lib.size_eq] at this
      omega
end
end Go.Proofs.Ytifaepkeoffcfaa
