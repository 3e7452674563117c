/- What the bound of the second form gives: so many values and letters at the most. How an argument []string reads, and what the bound of the second form says of its texts. How an argument []api.Label and [][]api.Label reads. How an argument []weirlaw16.Ask reads, under the bound. -/
import Derived.Test.YtcbggkdginfakaaDoorBase
import Derived.SliceStrings
import Derived.Test.YtcbggkdginfakaaDoorLBase
import Derived.Test.YtcbggkdginfakaaDoorLMm
namespace Go.Proofs.YtcbggkdginfakaaDoor
open Go.RowKit Go.ChangeShapes Go.WideShapes Go.Deep
theorem bulk_nil {H : Type} : Rows.uptoBulkAll ([] : List (DataW H)) = 0 := by simp [Rows.uptoBulkAll]
theorem bulk_cons {H : Type} (x : DataW H) (r : List (DataW H)) : Rows.uptoBulkAll (x :: r) = Rows.uptoBulk x + Rows.uptoBulkAll r := by simp [Rows.uptoBulkAll]
theorem bulk_bound {H : Type} {l : List (DataW H)} (hk : Rows.uptoSmall H l = true) : Rows.uptoBulkAll l ≤ 1048576 := of_decide_eq_true hk
theorem bulk_str {H : Type} (l : List UInt8) : Rows.uptoBulk (DataW.lit (H := H) (.string l)) = l.length + 1 := by simp [Rows.uptoBulk]
theorem bulk_agg {H : Type} (l : List (DataW H)) : Rows.uptoBulk (DataW.agg l) = Rows.uptoBulkAll l + 1 := by simp [Rows.uptoBulk]
theorem bulk_pos {H : Type} (d : DataW H) : 1 ≤ Rows.uptoBulk d := by
  cases d with
  | lit l => cases l <;> simp [Rows.uptoBulk]
  | nil => simp [Rows.uptoBulk]
  | ptr d => simp [Rows.uptoBulk]
  | slice elems spare => simp [Rows.uptoBulk]
  | agg parts => simp [Rows.uptoBulk]
  | iface t d => simp [Rows.uptoBulk]
  | map entries => simp [Rows.uptoBulk]
  | held h => simp [Rows.uptoBulk]
theorem bulk_part {H : Type} {d : DataW H} {l : List (DataW H)} (h : d ∈ l) : Rows.uptoBulk d ≤ Rows.uptoBulkAll l := by
  induction l with
  | nil => cases h
  | cons x r ih =>
    rw [bulk_cons]
    rcases List.mem_cons.1 h with rfl | e
    · omega
    · have := ih e; omega
theorem bulk_len {H : Type} (l : List (DataW H)) : l.length ≤ Rows.uptoBulkAll l := by
  induction l with
  | nil => simp
  | cons x r ih => have := bulk_pos x; rw [bulk_cons, List.length_cons]; omega
theorem bulk_slice {H : Type} (elems spare : List (DataW H)) : Rows.uptoBulk (.slice elems spare) = Rows.uptoBulkAll elems + Rows.uptoBulkAll spare + 1 := by simp [Rows.uptoBulk]

section
variable {H : Type} {enc : TypeId × Value → H} {w : World} {base : Nat}
/-- v is a text -/
def IsStr (v : Value) (d : DataW H) (s : ByteArray) : Prop := v = .string s ∧ d = .lit (.string s.data.toList) ∧ s.size ≤ reachBytes
theorem open_str {P : Program} {t : TypeId} (ht : P.underlying t = some .string) {v : Value} {d : DataW H} {p : List MemPlace} (hv : Value.okWide P w .any base t v) (h : DataW.Trod enc P w 0 (fun _ => true) true t v d p)
    (hw : ∀ n ∈ d.weights P t, n ≤ reachBytes) : ∃ s, IsStr v d s := by
  obtain ⟨s, rfl, rfl, _, _⟩ := Go.ChangeMaps.open_string ht hv h
  refine ⟨s, rfl, rfl, ?_⟩
  have := hw s.data.toList.length (by simp [DataW.weights])
  rw [Lib.size_eq]; exact this
end
end Go.Proofs.YtcbggkdginfakaaDoor
namespace Go.Proofs.YtcbggkdginfakaaDoor
open Go.RowKit Go.ChangeShapes Go.WideShapes Go.Deep
section
variable {H : Type} {enc : TypeId × Value → H} {w : World} {base : Nat}
/-- v reads in w as a list of texts, each of so many bytes at the most -/
def IsStrs (w : World) (v : Value) (l : List ByteArray) : Prop :=
  ∃ (A : Option Addr) (c : Nat), v = .slice A l.length c ∧ l.length ≤ maxLen ∧
    ∀ k (h : k < l.length), ∃ b off, A = some ⟨b, off, none⟩ ∧ w.cell? ⟨b, off + k, none⟩ = some (.string (l[k]'h)) ∧ (l[k]'h).size ≤ 1048576
theorem open_strs {P : Program} {t e : TypeId} (ht : P.underlying t = some (.slice e)) (he : P.underlying e = some .string) (hce : P.cellsOf e = 1) {v : Value} {d : DataW H} {p : List MemPlace}
    (hv : Value.okWide P w .any base t v) (h : DataW.Trod enc P w 0 (fun _ => true) true t v d p) (hb : Rows.uptoBulk d ≤ 1048576) : ∃ l, IsStrs w v l := by
  obtain ⟨A, len, cap, rfl⟩ := okWide_slice ht hv
  obtain ⟨fuel, hf⟩ := h
  rcases open_strings ht he hce hf with ⟨hcs, hx⟩ | ⟨a, len', cap', ss, hcs, _, hl, hm, hz, hx, hi, _⟩
  · simp [Value.cells] at hcs
    obtain ⟨rfl, rfl, rfl⟩ := hcs
    exact ⟨[], none, 0, rfl, by simp, fun k hk => absurd hk (by simp)⟩
  · simp [Value.cells] at hcs
    obtain ⟨rfl, rfl, rfl⟩ := hcs
    simp only [if_true] at hz
    simp only [Prod.mk.injEq] at hx
    obtain ⟨hd, _⟩ := hx
    subst hd
    have hlen : (ss.take len).length = len := by rw [List.length_take]; omega
    refine ⟨ss.take len, some a, cap, by rw [hlen], by omega, fun k hk => ?_⟩
    rw [hlen] at hk
    have hc := hi k (by omega)
    have hget : ss.getD k ByteArray.empty = (ss.take len)[k]'(by omega) := by
      rw [List.getElem_take, List.getD_eq_getElem?_getD, List.getElem?_eq_getElem (by omega)]; rfl
    rw [hget] at hc
    have ha : a = ⟨a.block, a.off, none⟩ := by
      have h0 := hi 0 (by omega)
      rw [show a.add 0 = a from by simp [Addr.add]] at h0
      exact plain_of_cell h0
    refine ⟨a.block, a.off, by rw [← ha], ?_, ?_⟩
    · rw [ha, add_plain] at hc; exact hc
    · rw [bulk_slice] at hb
      have hm2 : (DataW.lit (H := H) (.string ((ss.take len)[k]'(by omega)).data.toList)) ∈ strs (H := H) (ss.take len) := by
        unfold strs; exact List.mem_map.2 ⟨_, List.getElem_mem _, rfl⟩
      have := bulk_part hm2
      rw [bulk_str, ← Lib.size_eq] at this
      omega
end
end Go.Proofs.YtcbggkdginfakaaDoor
namespace Go.Proofs.YtcbggkdginfakaaDoor
open Go.RowKit Go.ChangeShapes Go.WideShapes Go.Deep
theorem bytes_label : Tryd.prog.bytesOf 77 = 32 := by kernel_rfl
section
variable {H : Type} {enc : TypeId × Value → H} {w : World} {base : Nat}
/-- v reads in w as a list of labels -/
def IsLbs (w : World) (v : Value) (l : List Lb) : Prop := IsL 2 w v l.length (cellsL l) ∧ l.length * 32 ≤ reachBytes
theorem open_lbs {fuel : Nat} {v : Value} {x : DataW H × List MemPlace} (h : DataW.trod enc Tryd.prog w 0 (fun _ => true) true fuel 42 [v] = some x)
    (hw : ∀ n ∈ x.1.weights Tryd.prog 42, n ≤ reachBytes) : ∃ l, IsLbs w v l := by
  rcases open_slice_fields Tryd.underlying42 Tryd.underlying77 (by kernel_rfl) (by kernel_rfl) h with ⟨hcs, hx⟩ | ⟨a, len, cap, m, D, Pl, hcs, _, hl, hm, hmm, hx, hi⟩
  · obtain rfl : v = .slice none 0 0 := by simpa using hcs
    exact ⟨[], IsL.nil 2 w none 0, by simp⟩
  · obtain rfl : v = .slice (some a) len cap := by simpa using hcs
    subst hx
    have each : ∀ i, i < len → ∃ y : Lb, w.cell? (a.add (i * 2)) = some (.string y.1) ∧ w.cell? (a.add (i * 2 + 1)) = some (.string y.2) := by
      intro i hil
      obtain ⟨ys, n, _, _, _, hfs⟩ := hi i (by simp only [if_true] at hmm; omega)
      obtain ⟨v0, y0, c0, _, t0⟩ := hfs 0 _ rfl
      obtain ⟨v1, y1, c1, _, t1⟩ := hfs 1 _ rfl
      obtain ⟨s, hs, _, _⟩ := DataW.trod_string Tryd.underlying9 t0
      obtain ⟨z, hz, _, _⟩ := DataW.trod_string Tryd.underlying9 t1
      simp at hs hz
      subst hs
      subst hz
      exact ⟨(s, z), c0, c1⟩
    obtain ⟨l, hlen, hR⟩ := list_of len _ each
    subst hlen
    refine ⟨l, ⟨cellsL_len l, some a, cap, rfl, fun k hk => ?_⟩, ?_⟩
    · rw [cellsL_len] at hk
      have ha : a = ⟨a.block, a.off, none⟩ := by
        have := (hR 0 (by omega)).1
        rw [Nat.zero_mul] at this
        have e : a.add 0 = a := by simp [Addr.add]
        rw [e] at this
        exact plain_of_cell this
      refine ⟨a.block, a.off, congrArg some ha, ?_⟩
      obtain ⟨r1, r2⟩ := hR (k / 2) (by omega)
      obtain ⟨e1, e2⟩ := cellsL_at l (k / 2) (by omega)
      rw [ha, add_plain] at r1 r2
      rw [← List.getElem?_eq_getElem]
      rcases Nat.mod_two_eq_zero_or_one k with h0 | h0
      · have hk2 : k / 2 * 2 = k := by omega
        rw [hk2] at r1 e1
        rw [r1, e1]
      · have hk2 : k / 2 * 2 + 1 = k := by omega
        rw [hk2] at r2 e2
        rw [r2, e2]
    · have h1 : ((List.range l.length).map D).length * 32 ≤ (((List.range l.length).map D).length + ((List.range (m - l.length)).map fun j => D (l.length + j)).length) * Tryd.prog.bytesOf 77 := by
        rw [bytes_label]; exact Nat.mul_le_mul_right _ (Nat.le_add_right _ _)
      have h2 := hw _ (by simp only [DataW.weights, Tryd.underlying42]; exact List.mem_cons_self ..)
      simp only [List.length_map, List.length_range] at h1 h2
      omega
/-- v reads in w as a list of lists of labels -/
def IsLbss (w : World) (v : Value) (l : List (List Lb)) : Prop :=
  ∃ (A : Option Addr) (c : Nat), v = .slice A l.length c ∧ l.length ≤ maxLen ∧
    ∀ i (h : i < l.length), ∃ b off x, A = some ⟨b, off, none⟩ ∧ w.cell? ⟨b, off + i, none⟩ = some x ∧ IsLbs w x (l[i]'h)
theorem weights_mem_slice {P : Program} {t e : TypeId} {elems spare : List (DataW H)} (ht : P.underlying t = some (.slice e)) {x : DataW H} (hx : x ∈ elems) {n : Nat} (hn : n ∈ x.weights P e) : n ∈ (DataW.slice elems spare).weights P t := by
  simp only [DataW.weights, ht, List.mem_cons, List.mem_append]
  refine Or.inr (Or.inl ?_)
  induction elems with
  | nil => cases hx
  | cons y r ih =>
    simp only [DataW.weightsAll, List.mem_append]
    rcases List.mem_cons.1 hx with rfl | hr
    · exact Or.inl hn
    · exact Or.inr (ih hr)
end
end Go.Proofs.YtcbggkdginfakaaDoor
namespace Go.Proofs.YtcbggkdginfakaaDoor
open Go.RowKit Go.ChangeShapes Go.WideShapes Go.Deep
structure LAsk where
  l : List Lb
  nm : ByteArray
  vl : ByteArray
  ns : List ByteArray
  wo : Bool
section
variable {H : Type} {enc : TypeId × Value → H} {w : World} {base : Nat}
/-- the list is short, its texts are small -/
def SmL (l : List Lb) : Prop := l.length ≤ 1048576 ∧ ∀ y ∈ l, y.1.size ≤ 1048576 ∧ y.2.size ≤ 1048576
def IsLAsks (w : World) (v : Value) (qs : List LAsk) : Prop :=
  ∃ (A : Option Addr) (c : Nat), v = .slice A qs.length c ∧ qs.length ≤ maxLen ∧
    ∀ i (h : i < qs.length), ∃ b off A1 c1 A2 c2, A = some ⟨b, off, none⟩ ∧ w.cell? ⟨b, off + i * 5, none⟩ = some (.slice A1 (qs[i]'h).l.length c1) ∧ w.cell? ⟨b, off + i * 5 + 1, none⟩ = some (.string (qs[i]'h).nm) ∧
      w.cell? ⟨b, off + i * 5 + 2, none⟩ = some (.string (qs[i]'h).vl) ∧ w.cell? ⟨b, off + i * 5 + 3, none⟩ = some (.slice A2 (qs[i]'h).ns.length c2) ∧ w.cell? ⟨b, off + i * 5 + 4, none⟩ = some (.bool (qs[i]'h).wo) ∧
      IsL 2 w (.slice A1 (qs[i]'h).l.length c1) (qs[i]'h).l.length (cellsL (qs[i]'h).l) ∧ IsL 1 w (.slice A2 (qs[i]'h).ns.length c2) (qs[i]'h).ns.length (cellsS (qs[i]'h).ns) ∧ SmL (qs[i]'h).l ∧ (qs[i]'h).ns.length ≤ 1048576 ∧ (qs[i]'h).l.length ≤ c1
theorem open_lbsC {fuel : Nat} {v : Value} {x : DataW H × List MemPlace} (h : DataW.trod enc Tryd.prog w 0 (fun _ => true) true fuel 42 [v] = some x)
    (hb : Rows.uptoBulk x.1 ≤ 1048576) : ∃ l A c, v = .slice A l.length c ∧ IsL 2 w v l.length (cellsL l) ∧ SmL l ∧ l.length ≤ c := by
  rcases open_slice_fields Tryd.underlying42 Tryd.underlying77 (by kernel_rfl) (by kernel_rfl) h with ⟨hcs, hx⟩ | ⟨a, len, cap, m, D, Pl, hcs, _, hl, hm, hmm, hx, hi⟩
  · obtain rfl : v = .slice none 0 0 := by simpa using hcs
    exact ⟨[], none, 0, rfl, IsL.nil 2 w none 0, ⟨by simp, fun y hy => by cases hy⟩, Nat.le_refl _⟩
  · obtain rfl : v = .slice (some a) len cap := by simpa using hcs
    subst hx
    simp only at hb
    rw [bulk_slice] at hb
    have each : ∀ i, i < len → ∃ y : Lb, (w.cell? (a.add (i * 2)) = some (.string y.1) ∧ w.cell? (a.add (i * 2 + 1)) = some (.string y.2)) ∧ y.1.size ≤ 1048576 ∧ y.2.size ≤ 1048576 := by
      intro i hil
      obtain ⟨ys, n, hD, _, hyl, hfs⟩ := hi i (by simp only [if_true] at hmm; omega)
      obtain ⟨v0, y0, c0, e0, t0⟩ := hfs 0 _ rfl
      obtain ⟨v1, y1, c1, e1, t1⟩ := hfs 1 _ rfl
      obtain ⟨s, hs, hy0, _⟩ := DataW.trod_string Tryd.underlying9 t0
      obtain ⟨z, hz, hy1, _⟩ := DataW.trod_string Tryd.underlying9 t1
      simp at hs hz
      subst hs
      subst hz
      have hys : D i = .agg [.lit (.string s.data.toList), .lit (.string z.data.toList)] := by
        rw [hD]
        have hy2 : ys.length = 2 := hyl
        match ys, hy2 with
        | [a0, a1], _ =>
          simp at e0 e1
          subst e0
          subst e1
          rw [hy0, hy1]
          rfl
      have hp := bulk_part (d := D i) (l := (List.range len).map D) (List.mem_map.2 ⟨i, List.mem_range.2 hil, rfl⟩)
      rw [hys, bulk_agg, bulk_cons, bulk_cons, bulk_nil, bulk_str, bulk_str, ← Lib.size_eq, ← Lib.size_eq] at hp
      exact ⟨(s, z), ⟨c0, c1⟩, by show s.size ≤ _; omega, by show z.size ≤ _; omega⟩
    obtain ⟨l, hlen, hR⟩ := list_of len _ each
    subst hlen
    have hbl := bulk_len ((List.range l.length).map D)
    rw [List.length_map, List.length_range] at hbl
    refine ⟨l, some a, cap, rfl, ⟨cellsL_len l, some a, cap, rfl, fun k hk => ?_⟩, ⟨by omega, fun y hy => ?_⟩, hl⟩
    · rw [cellsL_len] at hk
      have ha : a = ⟨a.block, a.off, none⟩ := by
        have := (hR 0 (by omega)).1.1
        rw [Nat.zero_mul] at this
        have e : a.add 0 = a := by simp [Addr.add]
        rw [e] at this
        exact plain_of_cell this
      refine ⟨a.block, a.off, congrArg some ha, ?_⟩
      obtain ⟨⟨r1, r2⟩, _⟩ := hR (k / 2) (by omega)
      obtain ⟨e1, e2⟩ := cellsL_at l (k / 2) (by omega)
      rw [ha, add_plain] at r1 r2
      rw [← List.getElem?_eq_getElem]
      rcases Nat.mod_two_eq_zero_or_one k with h0 | h0
      · have hk2 : k / 2 * 2 = k := by omega
        rw [hk2] at r1 e1
        rw [r1, e1]
      · have hk2 : k / 2 * 2 + 1 = k := by omega
        rw [hk2] at r2 e2
        rw [r2, e2]
    · obtain ⟨k, hk, rfl⟩ := List.mem_iff_getElem.1 hy
      exact (hR k hk).2
theorem open_strsC {fuel : Nat} {v : Value} {x : DataW H × List MemPlace} (h : DataW.trod enc Tryd.prog w 0 (fun _ => true) true fuel 27 [v] = some x)
    (hb : Rows.uptoBulk x.1 ≤ 1048576) : ∃ l A c, v = .slice A l.length c ∧ IsL 1 w v l.length (cellsS l) ∧ l.length ≤ 1048576 := by
  rcases open_strings Tryd.underlying27 Tryd.underlying9 (by kernel_rfl) h with ⟨hcs, hx⟩ | ⟨a, len, cap, ss, hcs, _, hl, hm, hz, hx, hi, _⟩
  · obtain rfl : v = .slice none 0 0 := by simpa using hcs
    exact ⟨[], none, 0, rfl, IsL.nil 1 w none 0, by simp⟩
  · obtain rfl : v = .slice (some a) len cap := by simpa using hcs
    subst hx
    simp only [if_true] at hz
    simp only at hb
    rw [bulk_slice] at hb
    have hlen : (ss.take len).length = len := by rw [List.length_take]; omega
    have h1 := bulk_len (strs (H := H) (ss.take len))
    have h2 : (strs (H := H) (ss.take len)).length = len := by unfold strs; rw [List.length_map, hlen]
    refine ⟨ss.take len, some a, cap, by rw [hlen], ⟨by rw [cellsS_len, hlen, Nat.mul_one], some a, cap, by rw [hlen], fun k hk => ?_⟩, by omega⟩
    rw [cellsS_len, hlen] at hk
    have hc := hi k (by omega)
    have hget : ss.getD k ByteArray.empty = (ss.take len)[k]'(by omega) := by
      rw [List.getElem_take, List.getD_eq_getElem?_getD, List.getElem?_eq_getElem (by omega)]; rfl
    rw [hget] at hc
    have ha : a = ⟨a.block, a.off, none⟩ := by
      have h0 := hi 0 (by omega)
      rw [show a.add 0 = a from by simp [Addr.add]] at h0
      exact plain_of_cell h0
    refine ⟨a.block, a.off, congrArg some ha, ?_⟩
    rw [ha, add_plain] at hc
    rw [hc]
    simp [cellsS]
end
end Go.Proofs.YtcbggkdginfakaaDoor
