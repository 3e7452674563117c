/- How the arguments of the laws of layer 1 read. -/
import Derived.Test.YthlpgnidjjclcaaBase
namespace Go.Proofs.Ythlpgnidjjclcaa
open Go.RowKit Go.ChangeShapes Go.WideShapes Go.Deep
section
variable {H : Type} {enc : TypeId × Value → H} {w : World} {base : Nat}

def askD (a : ByteArray × Int) : DataW H := .agg [.lit (.string a.1.data.toList), .lit (.int .i64 a.2)]
/-- v reads in w as a list of asks -/
def IsAsks (w : World) (v : Value) (d : DataW H) (asks : List (ByteArray × Int)) : Prop :=
  ∃ (A : Option Addr) (c : Nat), v = .slice A asks.length c ∧ asks.length ≤ maxLen ∧ (d = .nil ∧ asks = [] ∨ ∃ sp, d = .slice (asks.map askD) sp) ∧
    ∀ k (h : k < asks.length), ∃ b off, A = some ⟨b, off, none⟩ ∧ w.cell? ⟨b, off + k * 2, none⟩ = some (.string (asks[k]'h).1) ∧ w.cell? ⟨b, off + k * 2 + 1, none⟩ = some (.int .i64 (asks[k]'h).2) ∧ (asks[k]'h).1.size ≤ reachBytes

theorem weights_slice_mem {P : Program} {t e : TypeId} {elems spare : List (DataW H)} (ht : P.underlying t = some (.slice e)) {x : DataW H} (hx : x ∈ elems) {n : Nat} (hn : n ∈ x.weights P e) : n ∈ (DataW.slice elems spare).weights P t := by
  simp only [DataW.weights, ht, List.mem_cons, List.mem_append]
  refine Or.inr (Or.inl ?_)
  induction elems with
  | nil => cases hx
  | cons y r ih =>
    simp only [DataW.weightsAll, List.mem_append]
    rcases List.mem_cons.1 hx with rfl | hr
    · exact Or.inl hn
    · exact Or.inr (ih hr)

theorem open_asks {v : Value} {d : DataW H} {p : List MemPlace} (hv : Value.okWide Try.prog w .any base 32 v) (h : DataW.Trod enc Try.prog w 0 (fun _ => true) true 32 v d p)
    (hw : ∀ n ∈ d.weights Try.prog 32, n ≤ reachBytes) : ∃ asks, IsAsks w v d asks := by
  obtain ⟨A, len, cap, rfl⟩ := okWide_slice Try.underlying32 hv
  obtain ⟨fuel, hf⟩ := h
  rcases open_slice_fields Try.underlying32 Try.underlying37 (by kernel_rfl) (by kernel_rfl) hf with ⟨hcs, hx⟩ | ⟨a, len', cap', m, D, Pl, hcs, _, hl, hm, hmm, hx, hi⟩
  · simp [Value.cells] at hcs
    obtain ⟨rfl, rfl, rfl⟩ := hcs
    simp only [Prod.mk.injEq] at hx
    exact ⟨[], none, 0, rfl, by simp, .inl ⟨hx.1, rfl⟩, fun k hk => absurd hk (by simp)⟩
  · simp [Value.cells] at hcs
    obtain ⟨rfl, rfl, rfl⟩ := hcs
    simp only [if_true] at hmm
    subst hmm
    simp only [Prod.mk.injEq] at hx
    obtain ⟨hd, _⟩ := hx
    have each : ∀ i, i < len → ∃ x : ByteArray × Int, D i = askD x ∧ w.cell? (a.add (i * 2)) = some (.string x.1) ∧ w.cell? (a.add (i * 2 + 1)) = some (.int .i64 x.2) := by
      intro i hil
      obtain ⟨ys, n, hD, _, hyl, hfs⟩ := hi i (by omega)
      obtain ⟨v0, y0, c0, e0, t0⟩ := hfs 0 _ rfl
      obtain ⟨v1, y1, c1, e1, t1⟩ := hfs 1 _ rfl
      obtain ⟨s, hs, hy0, _⟩ := DataW.trod_string Try.underlying9 t0
      obtain ⟨z, hz, hy1, _⟩ := DataW.trod_int Try.underlying3 t1
      simp at hs hz
      subst hs
      subst hz
      refine ⟨(s, z), ?_, c0, c1⟩
      rw [hD]
      have hy2 : ys.length = 2 := hyl
      match ys, hy2 with
      | [a0, a1], _ =>
        simp at e0 e1
        subst e0
        subst e1
        rw [hy0, hy1]
        rfl
    obtain ⟨asks, hlen, hR⟩ := list_of len _ each
    subst hlen
    have hD : (List.range asks.length).map D = asks.map askD := by
      apply List.ext_getElem (by simp)
      intro i h1 h2
      simp only [List.getElem_map, List.getElem_range]
      exact (hR i (by simpa using h1)).1
    rw [hD] at hd
    refine ⟨asks, some a, _, rfl, by omega, .inr ⟨_, hd⟩, fun k hk => ?_⟩
    obtain ⟨r1, r2, r3⟩ := hR k hk
    have ha : a = ⟨a.block, a.off, none⟩ := by
      have := (hR 0 (by omega)).2.1
      rw [Nat.zero_mul] at this
      have e : a.add 0 = a := by simp [Addr.add]
      rw [e] at this
      exact plain_of_cell this
    refine ⟨a.block, a.off, congrArg some ha, ?_, ?_, ?_⟩
    · rw [ha, add_plain] at r2; exact r2
    · rw [ha, add_plain] at r3; exact r3
    · refine hw _ ?_
      rw [hd]
      refine weights_slice_mem Try.underlying32 (x := askD (asks[k])) (List.mem_map_of_mem (List.getElem_mem hk)) ?_
      simp [askD, DataW.weights, Try.underlying37, DataW.weightsEach]
end
end Go.Proofs.Ythlpgnidjjclcaa
