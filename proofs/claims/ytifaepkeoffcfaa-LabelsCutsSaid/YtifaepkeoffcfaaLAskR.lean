/- How an argument weirlaw16.Ask (by value) reads, under the reach. (open_agg5 is a block of the guide's extra-structs page.) -/
import Derived.Test.YtifaepkeoffcfaaLOpen
import Derived.Test.YtifaepkeoffcfaaLKeep
import Derived.SliceStrings
import Derived.Lib.SmallJoins
namespace Go.Proofs.Ytifaepkeoffcfaa
open Go.RowKit Go.ChangeShapes Go.WideShapes Go.Deep Go.Joins
section
variable {H : Type} {enc : TypeId × Value → H} {P : Program} {w : World} {base : Nat} {spare : Nat → Bool} {held : Bool}
theorem open_agg5 {r : Reach} {b0 : Nat} {t : TypeId} {f0 f1 f2 f3 f4 : Field} {v : Value} {d : DataW H} {p : List MemPlace} (hs : P.underlying t = some (.struct #[f0, f1, f2, f3, f4])) (hone : oneCellFields P #[f0, f1, f2, f3, f4] = true) (hC : P.cellsOf t = 5)
    (hv : Value.okWide P w r b0 t v) (h : DataW.Trod enc P w base spare held t v d p) :
    ∃ (v0 v1 v2 v3 v4 : Value) (y0 y1 y2 y3 y4 : DataW H × List MemPlace) (n : Nat), v = .agg #[v0, v1, v2, v3, v4] ∧ d = .agg [y0.1, y1.1, y2.1, y3.1, y4.1] ∧ p = y0.2 ++ (y1.2 ++ (y2.2 ++ (y3.2 ++ y4.2))) ∧
      DataW.trod enc P w base spare held n f0.type [v0] = some y0 ∧ DataW.trod enc P w base spare held n f1.type [v1] = some y1 ∧ DataW.trod enc P w base spare held n f2.type [v2] = some y2 ∧ DataW.trod enc P w base spare held n f3.type [v3] = some y3 ∧ DataW.trod enc P w base spare held n f4.type [v4] = some y4 := by
  obtain ⟨cs, rfl, hsz⟩ := okWide_struct hs hv
  obtain ⟨l⟩ := cs
  match l, hsz.trans hC with
  | [c0, c1, c2, c3, c4], _ =>
    obtain ⟨fuel, hf⟩ := h
    obtain ⟨xs, n, _, hx, _, hlen, hg⟩ := DataW.trod_struct hs hf
    obtain ⟨o0, k0⟩ := hone_of hone 0 f0 rfl
    obtain ⟨o1, k1⟩ := hone_of hone 1 f1 rfl
    obtain ⟨o2, k2⟩ := hone_of hone 2 f2 rfl
    obtain ⟨o3, k3⟩ := hone_of hone 3 f3 rfl
    obtain ⟨o4, k4⟩ := hone_of hone 4 f4 rfl
    match xs, hlen with
    | [y0, y1, y2, y3, y4], _ =>
      simp only [Prod.mk.injEq] at hx
      exact ⟨c0, c1, c2, c3, c4, y0, y1, y2, y3, y4, n, rfl, by simpa using hx.1, by simpa using hx.2, by simpa [Value.cells, o0, k0] using hg 0 f0 rfl, by simpa [Value.cells, o1, k1] using hg 1 f1 rfl, by simpa [Value.cells, o2, k2] using hg 2 f2 rfl, by simpa [Value.cells, o3, k3] using hg 3 f3 rfl, by simpa [Value.cells, o4, k4] using hg 4 f4 rfl⟩
end
section
variable {H : Type} {enc : TypeId × Value → H} {w : World} {base : Nat}
/-- sizes that a machine can hold -/
def RS (l : List Lb) : Prop := ∀ y ∈ l, y.1.size ≤ reachBytes ∧ y.2.size ≤ reachBytes
theorem open_lbsR {fuel : Nat} {v : Value} {x : DataW H × List MemPlace} (h : DataW.trod enc Try.prog w 0 (fun _ => true) true fuel 23 [v] = some x)
    (hw : ∀ n ∈ x.1.weights Try.prog 23, n ≤ reachBytes) : ∃ l A c, v = .slice A l.length c ∧ l.length ≤ c ∧ IsL 2 w v l.length (cellsL l) ∧ l.length * 32 ≤ reachBytes ∧ RS l := by
  rcases open_slice_fields Try.underlying23 Try.underlying26 (by kernel_rfl) (by kernel_rfl) h with ⟨hcs, hx⟩ | ⟨a, len, cap, m, D, Pl, hcs, _, hl, hm, hmm, hx, hi⟩
  · obtain rfl : v = .slice none 0 0 := by simpa using hcs
    exact ⟨[], none, 0, rfl, Nat.le_refl _, IsL.nil 2 w none 0, by simp, fun y hy => by cases hy⟩
  · obtain rfl : v = .slice (some a) len cap := by simpa using hcs
    subst hx
    have each : ∀ i, i < len → ∃ y : Lb, (w.cell? (a.add (i * 2)) = some (.string y.1) ∧ w.cell? (a.add (i * 2 + 1)) = some (.string y.2)) ∧ y.1.size ≤ reachBytes ∧ y.2.size ≤ reachBytes := by
      intro i hil
      obtain ⟨ys, n, hD, _, hyl, hfs⟩ := hi i (by simp only [if_true] at hmm; omega)
      obtain ⟨v0, y0, c0, e0, t0⟩ := hfs 0 _ rfl
      obtain ⟨v1, y1, c1, e1, t1⟩ := hfs 1 _ rfl
      obtain ⟨s, hs, hy0, _⟩ := DataW.trod_string Try.underlying9 t0
      obtain ⟨z, hz, hy1, _⟩ := DataW.trod_string Try.underlying9 t1
      simp at hs hz
      subst hs
      subst hz
      have hys : D i = .agg [.lit (.string s.data.toList), .lit (.string z.data.toList)] := by
        rw [hD]
        have hy2 : ys.length = 2 := hyl
        match ys, hy2 with
        | [a0, a1], _ =>
          simp at e0 e1
          subst e0
          subst e1
          rw [hy0, hy1]
          rfl
      have hmem : ∀ q ∈ (D i).weights Try.prog 26, q ≤ reachBytes := fun q hq => hw q (weights_mem_slice Try.underlying23 (x := D i) (List.mem_map.2 ⟨i, List.mem_range.2 hil, rfl⟩) hq)
      rw [hys] at hmem
      have h1 := hmem s.data.toList.length (by simp [DataW.weights, Try.underlying26, DataW.weightsEach])
      have h2 := hmem z.data.toList.length (by simp [DataW.weights, Try.underlying26, DataW.weightsEach])
      rw [← Lib.size_eq] at h1 h2
      exact ⟨(s, z), ⟨c0, c1⟩, h1, h2⟩
    obtain ⟨l, hlen, hR⟩ := list_of len _ each
    subst hlen
    refine ⟨l, some a, cap, rfl, hl, ⟨cellsL_len l, some a, cap, rfl, fun k hk => ?_⟩, ?_, fun y hy => ?_⟩
    · rw [cellsL_len] at hk
      have ha : a = ⟨a.block, a.off, none⟩ := by
        have := (hR 0 (by omega)).1.1
        rw [Nat.zero_mul] at this
        have e : a.add 0 = a := by simp [Addr.add]
        rw [e] at this
        exact plain_of_cell this
      refine ⟨a.block, a.off, congrArg some ha, ?_⟩
      obtain ⟨⟨r1, r2⟩, _⟩ := hR (k / 2) (by omega)
      obtain ⟨e1, e2⟩ := cellsL_at l (k / 2) (by omega)
      rw [ha, add_plain] at r1 r2
      rw [← List.getElem?_eq_getElem]
      rcases Nat.mod_two_eq_zero_or_one k with h0 | h0
      · have hk2 : k / 2 * 2 = k := by omega
        rw [hk2] at r1 e1
        rw [r1, e1]
      · have hk2 : k / 2 * 2 + 1 = k := by omega
        rw [hk2] at r2 e2
        rw [r2, e2]
    · have h1 : ((List.range l.length).map D).length * 32 ≤ (((List.range l.length).map D).length + ((List.range (m - l.length)).map fun j => D (l.length + j)).length) * Try.prog.bytesOf 26 := by
        rw [bytes_label]; exact Nat.mul_le_mul_right _ (Nat.le_add_right _ _)
      have h2 := hw _ (by simp only [DataW.weights, Try.underlying23]; exact List.mem_cons_self ..)
      simp only [List.length_map, List.length_range] at h1 h2
      omega
    · obtain ⟨k, hk, rfl⟩ := List.mem_iff_getElem.1 hy
      exact (hR k hk).2
theorem bytes_string : Try.prog.bytesOf 9 = 16 := by kernel_rfl
theorem open_strsR {fuel : Nat} {v : Value} {x : DataW H × List MemPlace} (h : DataW.trod enc Try.prog w 0 (fun _ => true) true fuel 27 [v] = some x)
    (hw : ∀ n ∈ x.1.weights Try.prog 27, n ≤ reachBytes) : ∃ l A c, v = .slice A l.length c ∧ IsL 1 w v l.length (cellsS l) ∧ l.length * 16 ≤ reachBytes := by
  rcases open_strings Try.underlying27 Try.underlying9 (by kernel_rfl) h with ⟨hcs, hx⟩ | ⟨a, len, cap, ss, hcs, _, hl, hm, hz, hx, hi, _⟩
  · obtain rfl : v = .slice none 0 0 := by simpa using hcs
    exact ⟨[], none, 0, rfl, IsL.nil 1 w none 0, by simp⟩
  · obtain rfl : v = .slice (some a) len cap := by simpa using hcs
    subst hx
    simp only [if_true] at hz
    have hlen : (ss.take len).length = len := by rw [List.length_take]; omega
    have h2 := hw _ (by simp only [DataW.weights, Try.underlying27]; exact List.mem_cons_self ..)
    have h3 : (strs (H := H) (ss.take len)).length = len := by unfold strs; rw [List.length_map, hlen]
    rw [bytes_string, h3] at h2
    have h4 := Nat.le_trans (Nat.mul_le_mul_right 16 (Nat.le_add_right len _)) h2
    refine ⟨ss.take len, some a, cap, by rw [hlen], ⟨by rw [cellsS_len, hlen, Nat.mul_one], some a, cap, by rw [hlen], fun k hk => ?_⟩, by rw [hlen]; exact h4⟩
    rw [cellsS_len, hlen] at hk
    have hc := hi k (by omega)
    have hget : ss.getD k ByteArray.empty = (ss.take len)[k]'(by omega) := by
      rw [List.getElem_take, List.getD_eq_getElem?_getD, List.getElem?_eq_getElem (by omega)]; rfl
    rw [hget] at hc
    have ha : a = ⟨a.block, a.off, none⟩ := by
      have h0 := hi 0 (by omega)
      rw [show a.add 0 = a from by simp [Addr.add]] at h0
      exact plain_of_cell h0
    refine ⟨a.block, a.off, congrArg some ha, ?_⟩
    rw [ha, add_plain] at hc
    rw [hc]
    simp [cellsS]
def IsAskV (w : World) (v : Value) (l : List Lb) (nm vl : ByteArray) (ns : List ByteArray) (wo : Bool) : Prop :=
  ∃ A1 c1 A2 c2, v = .agg #[.slice A1 l.length c1, .string nm, .string vl, .slice A2 ns.length c2, .bool wo] ∧ l.length ≤ c1 ∧ IsL 2 w (.slice A1 l.length c1) l.length (cellsL l) ∧ l.length * 32 ≤ reachBytes ∧ RS l ∧ IsL 1 w (.slice A2 ns.length c2) ns.length (cellsS ns) ∧ ns.length * 16 ≤ reachBytes
set_option maxRecDepth 100000 in
theorem open_ask {v : Value} {d : DataW H} {p : List MemPlace} (hv : Value.okWide Try.prog w .any base 29 v) (h : DataW.Trod enc Try.prog w 0 (fun _ => true) true 29 v d p)
    (hw : ∀ n ∈ d.weights Try.prog 29, n ≤ reachBytes) : ∃ l nm vl ns wo, IsAskV w v l nm vl ns wo := by
  obtain ⟨v0, v1, v2, v3, v4, y0, y1, y2, y3, y4, n, rfl, rfl, rfl, t0, t1, t2, t3, t4⟩ := open_agg5 Try.underlying29 (by kernel_rfl) (by kernel_rfl) hv h
  simp only [DataW.weights, Try.underlying29, List.map_cons, List.map_nil, DataW.weightsEach, List.mem_append] at hw
  obtain ⟨l, A1, c1, rfl, hlc, hL, hn, hS⟩ := open_lbsR t0 (fun q hq => hw q (.inl hq))
  obtain ⟨ns, A2, c2, rfl, hN, hm⟩ := open_strsR t3 (fun q hq => hw q (.inr (.inr (.inr (.inl hq)))))
  obtain ⟨s, hs, _, _⟩ := DataW.trod_string Try.underlying9 t1
  obtain ⟨z, hz, _, _⟩ := DataW.trod_string Try.underlying9 t2
  obtain ⟨b, hbb, _⟩ := DataW.trod_bool Try.underlying4 t4
  simp at hs hz hbb
  subst hs
  subst hz
  subst hbb
  exact ⟨l, s, z, ns, b, A1, c1, A2, c2, rfl, hlc, hL, hn, hS, hN, hm⟩
end
end Go.Proofs.Ytifaepkeoffcfaa
