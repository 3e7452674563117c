/- How an argument []api.Elem reads, under the bound. -/
import Derived.Test.YtifaepkeoffcfaaLAsk
import Derived.Test.YtifaepkeoffcfaaVBase
namespace Go.Proofs.Ytifaepkeoffcfaa
open Go.RowKit Go.ChangeShapes Go.WideShapes Go.Deep
section
variable {H : Type} {enc : TypeId × Value → H} {w : World} {base : Nat}
theorem trod_float' {P : Program} {spare : Nat → Bool} {held : Bool} {fuel : Nat} {t : TypeId} {cs : List Value} {x : DataW H × List MemPlace} {k : FloatKind} (ht : P.underlying t = some (.float k)) (h : DataW.trod enc P w base spare held fuel t cs = some x) : ∃ n, cs = [.float k n] ∧ x = (.lit (.float k n), []) ∧ (Lit.float k n).wf = true := by
  cases fuel with
  | zero => simp [DataW.trod] at h
  | succ n =>
    unfold DataW.trod at h
    rw [ht] at h
    split at h <;> simp_all
def IsElems (w : World) (v : Value) (E : List El) : Prop := ∃ A c, v = .slice A E.length c ∧ IsV w v E.length E ∧ E.length ≤ c ∧ E.length ≤ 1048576 ∧ ∀ x ∈ E, SmL x.l
set_option maxRecDepth 100000 in
theorem open_elems {v : Value} {d : DataW H} {p : List MemPlace} (hv : Value.okWide Try.prog w .any base 44 v) (h : DataW.Trod enc Try.prog w 0 (fun _ => true) true 44 v d p)
    (_ : ∀ n ∈ d.weights Try.prog 44, n ≤ reachBytes) : Rows.uptoBulk d ≤ 1048576 → ∃ E, IsElems w v E := fun hb => by
  obtain ⟨A, len, cap, rfl⟩ := okWide_slice Try.underlying44 hv
  obtain ⟨fuel, hf⟩ := h
  rcases open_slice_fields Try.underlying44 Try.underlying50 (by kernel_rfl) (by kernel_rfl) hf with ⟨hcs, hx⟩ | ⟨a, len', cap', m, D, Pl, hcs, _, hl, hm, hmm, hx, hi⟩
  · simp [Value.cells] at hcs
    obtain ⟨rfl, rfl, rfl⟩ := hcs
    exact ⟨[], none, 0, rfl, ⟨IsL.nil 2 w none 0, fun x hx => by cases hx⟩, Nat.le_refl _, by simp, fun x hx => by cases hx⟩
  · simp [Value.cells] at hcs
    obtain ⟨rfl, rfl, rfl⟩ := hcs
    simp only [if_true] at hmm
    simp only [Prod.mk.injEq] at hx
    obtain ⟨hd, _⟩ := hx
    subst hd
    rw [bulk_slice] at hb
    have each : ∀ i, i < len → ∃ q : El, w.cell? (a.add (i * 2)) = some q.sl ∧ w.cell? (a.add (i * 2 + 1)) = some (.float .f64 q.f) ∧ IsL 2 w q.sl q.l.length (cellsL q.l) ∧ SmL q.l := by
      intro i hil
      obtain ⟨ys, n, hD, _, hyl, hfs⟩ := hi i (by omega)
      obtain ⟨v0, y0, c0, e0, t0⟩ := hfs 0 _ rfl
      obtain ⟨v1, y1, c1, e1, t1⟩ := hfs 1 _ rfl
      have hp := bulk_part (d := D i) (l := (List.range len).map D) (List.mem_map.2 ⟨i, List.mem_range.2 hil, rfl⟩)
      rw [hD, bulk_agg] at hp
      have b0 := bulk_part (d := y0.1) (l := ys.map (·.1)) (List.mem_map.2 ⟨y0, List.mem_of_getElem? e0, rfl⟩)
      obtain ⟨l, A1, k1, rfl, hL, hS, hcp⟩ := open_lbsC t0 (by omega)
      obtain ⟨f, hf1, _⟩ := trod_float' Try.underlying48 t1
      simp at hf1
      subst hf1
      exact ⟨⟨A1, k1, l, f⟩, c0, c1, hL, hS⟩
    obtain ⟨E, hlen, hR⟩ := list_of len _ each
    subst hlen
    have hbl := bulk_len ((List.range E.length).map D)
    rw [List.length_map, List.length_range] at hbl
    refine ⟨E, some a, cap, rfl, ⟨⟨cellsE_len E, some a, cap, rfl, fun k hk => ?_⟩, fun x hx => ?_⟩, hl, by omega, fun x hx => ?_⟩
    · rw [cellsE_len] at hk
      have ha : a = ⟨a.block, a.off, none⟩ := by
        obtain ⟨h0, _⟩ := hR 0 (by omega)
        rw [Nat.zero_mul, show a.add 0 = a from by simp [Addr.add]] at h0
        exact plain_of_cell h0
      refine ⟨a.block, a.off, congrArg some ha, ?_⟩
      obtain ⟨r1, r2, _⟩ := hR (k / 2) (by omega)
      obtain ⟨e1, e2⟩ := cellsE_at E (k / 2) (by omega)
      rw [ha, add_plain] at r1 r2
      rw [← List.getElem?_eq_getElem]
      rcases Nat.mod_two_eq_zero_or_one k with h0 | h0
      · have hk2 : k / 2 * 2 = k := by omega
        rw [hk2] at r1 e1
        rw [r1, e1]
      · have hk2 : k / 2 * 2 + 1 = k := by omega
        rw [hk2] at r2 e2
        rw [r2, e2]
    · obtain ⟨k, hk, rfl⟩ := List.mem_iff_getElem.1 hx
      exact (hR k hk).2.2.1
    · obtain ⟨k, hk, rfl⟩ := List.mem_iff_getElem.1 hx
      exact (hR k hk).2.2.2
end
end Go.Proofs.Ytifaepkeoffcfaa
