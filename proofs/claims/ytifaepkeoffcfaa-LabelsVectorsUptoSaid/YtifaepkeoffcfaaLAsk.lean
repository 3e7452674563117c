/- How an argument []weirlaw16.Ask reads, under the bound. -/
import Derived.Test.YtifaepkeoffcfaaLOpen
import Derived.Test.YtifaepkeoffcfaaLKeep
import Derived.Test.YtifaepkeoffcfaaUBulk
import Derived.SliceStrings
namespace Go.Proofs.Ytifaepkeoffcfaa
open Go.RowKit Go.ChangeShapes Go.WideShapes Go.Deep
structure LAsk where
  l : List Lb
  nm : ByteArray
  vl : ByteArray
  ns : List ByteArray
  wo : Bool
section
variable {H : Type} {enc : TypeId × Value → H} {w : World} {base : Nat}
/-- the list is short, its texts are small -/
def SmL (l : List Lb) : Prop := l.length ≤ 1048576 ∧ ∀ y ∈ l, y.1.size ≤ 1048576 ∧ y.2.size ≤ 1048576
def IsLAsks (w : World) (v : Value) (qs : List LAsk) : Prop :=
  ∃ (A : Option Addr) (c : Nat), v = .slice A qs.length c ∧ qs.length ≤ maxLen ∧
    ∀ i (h : i < qs.length), ∃ b off A1 c1 A2 c2, A = some ⟨b, off, none⟩ ∧ w.cell? ⟨b, off + i * 5, none⟩ = some (.slice A1 (qs[i]'h).l.length c1) ∧ w.cell? ⟨b, off + i * 5 + 1, none⟩ = some (.string (qs[i]'h).nm) ∧
      w.cell? ⟨b, off + i * 5 + 2, none⟩ = some (.string (qs[i]'h).vl) ∧ w.cell? ⟨b, off + i * 5 + 3, none⟩ = some (.slice A2 (qs[i]'h).ns.length c2) ∧ w.cell? ⟨b, off + i * 5 + 4, none⟩ = some (.bool (qs[i]'h).wo) ∧
      IsL 2 w (.slice A1 (qs[i]'h).l.length c1) (qs[i]'h).l.length (cellsL (qs[i]'h).l) ∧ IsL 1 w (.slice A2 (qs[i]'h).ns.length c2) (qs[i]'h).ns.length (cellsS (qs[i]'h).ns) ∧ SmL (qs[i]'h).l ∧ (qs[i]'h).ns.length ≤ 1048576 ∧ (qs[i]'h).l.length ≤ c1
theorem open_lbsC {fuel : Nat} {v : Value} {x : DataW H × List MemPlace} (h : DataW.trod enc Try.prog w 0 (fun _ => true) true fuel 23 [v] = some x)
    (hb : Rows.uptoBulk x.1 ≤ 1048576) : ∃ l A c, v = .slice A l.length c ∧ IsL 2 w v l.length (cellsL l) ∧ SmL l ∧ l.length ≤ c := by
  rcases open_slice_fields Try.underlying23 Try.underlying26 (by kernel_rfl) (by kernel_rfl) h with ⟨hcs, hx⟩ | ⟨a, len, cap, m, D, Pl, hcs, _, hl, hm, hmm, hx, hi⟩
  · obtain rfl : v = .slice none 0 0 := by simpa using hcs
    exact ⟨[], none, 0, rfl, IsL.nil 2 w none 0, ⟨by simp, fun y hy => by cases hy⟩, Nat.le_refl _⟩
  · obtain rfl : v = .slice (some a) len cap := by simpa using hcs
    subst hx
    simp only at hb
    rw [bulk_slice] at hb
    have each : ∀ i, i < len → ∃ y : Lb, (w.cell? (a.add (i * 2)) = some (.string y.1) ∧ w.cell? (a.add (i * 2 + 1)) = some (.string y.2)) ∧ y.1.size ≤ 1048576 ∧ y.2.size ≤ 1048576 := by
      intro i hil
      obtain ⟨ys, n, hD, _, hyl, hfs⟩ := hi i (by simp only [if_true] at hmm; omega)
      obtain ⟨v0, y0, c0, e0, t0⟩ := hfs 0 _ rfl
      obtain ⟨v1, y1, c1, e1, t1⟩ := hfs 1 _ rfl
      obtain ⟨s, hs, hy0, _⟩ := DataW.trod_string Try.underlying9 t0
      obtain ⟨z, hz, hy1, _⟩ := DataW.trod_string Try.underlying9 t1
      simp at hs hz
      subst hs
      subst hz
      have hys : D i = .agg [.lit (.string s.data.toList), .lit (.string z.data.toList)] := by
        rw [hD]
        have hy2 : ys.length = 2 := hyl
        match ys, hy2 with
        | [a0, a1], _ =>
          simp at e0 e1
          subst e0
          subst e1
          rw [hy0, hy1]
          rfl
      have hp := bulk_part (d := D i) (l := (List.range len).map D) (List.mem_map.2 ⟨i, List.mem_range.2 hil, rfl⟩)
      rw [hys, bulk_agg, bulk_cons, bulk_cons, bulk_nil, bulk_str, bulk_str, ← Lib.size_eq, ← Lib.size_eq] at hp
      exact ⟨(s, z), ⟨c0, c1⟩, by show s.size ≤ _; omega, by show z.size ≤ _; omega⟩
    obtain ⟨l, hlen, hR⟩ := list_of len _ each
    subst hlen
    have hbl := bulk_len ((List.range l.length).map D)
    rw [List.length_map, List.length_range] at hbl
    refine ⟨l, some a, cap, rfl, ⟨cellsL_len l, some a, cap, rfl, fun k hk => ?_⟩, ⟨by omega, fun y hy => ?_⟩, hl⟩
    · rw [cellsL_len] at hk
      have ha : a = ⟨a.block, a.off, none⟩ := by
        have := (hR 0 (by omega)).1.1
        rw [Nat.zero_mul] at this
        have e : a.add 0 = a := by simp [Addr.add]
        rw [e] at this
        exact plain_of_cell this
      refine ⟨a.block, a.off, congrArg some ha, ?_⟩
      obtain ⟨⟨r1, r2⟩, _⟩ := hR (k / 2) (by omega)
      obtain ⟨e1, e2⟩ := cellsL_at l (k / 2) (by omega)
      rw [ha, add_plain] at r1 r2
      rw [← List.getElem?_eq_getElem]
      rcases Nat.mod_two_eq_zero_or_one k with h0 | h0
      · have hk2 : k / 2 * 2 = k := by omega
        rw [hk2] at r1 e1
        rw [r1, e1]
      · have hk2 : k / 2 * 2 + 1 = k := by omega
        rw [hk2] at r2 e2
        rw [r2, e2]
    · obtain ⟨k, hk, rfl⟩ := List.mem_iff_getElem.1 hy
      exact (hR k hk).2
theorem open_strsC {fuel : Nat} {v : Value} {x : DataW H × List MemPlace} (h : DataW.trod enc Try.prog w 0 (fun _ => true) true fuel 27 [v] = some x)
    (hb : Rows.uptoBulk x.1 ≤ 1048576) : ∃ l A c, v = .slice A l.length c ∧ IsL 1 w v l.length (cellsS l) ∧ l.length ≤ 1048576 := by
  rcases open_strings Try.underlying27 Try.underlying9 (by kernel_rfl) h with ⟨hcs, hx⟩ | ⟨a, len, cap, ss, hcs, _, hl, hm, hz, hx, hi, _⟩
  · obtain rfl : v = .slice none 0 0 := by simpa using hcs
    exact ⟨[], none, 0, rfl, IsL.nil 1 w none 0, by simp⟩
  · obtain rfl : v = .slice (some a) len cap := by simpa using hcs
    subst hx
    simp only [if_true] at hz
    simp only at hb
    rw [bulk_slice] at hb
    have hlen : (ss.take len).length = len := by rw [List.length_take]; omega
    have h1 := bulk_len (strs (H := H) (ss.take len))
    have h2 : (strs (H := H) (ss.take len)).length = len := by unfold strs; rw [List.length_map, hlen]
    refine ⟨ss.take len, some a, cap, by rw [hlen], ⟨by rw [cellsS_len, hlen, Nat.mul_one], some a, cap, by rw [hlen], fun k hk => ?_⟩, by omega⟩
    rw [cellsS_len, hlen] at hk
    have hc := hi k (by omega)
    have hget : ss.getD k ByteArray.empty = (ss.take len)[k]'(by omega) := by
      rw [List.getElem_take, List.getD_eq_getElem?_getD, List.getElem?_eq_getElem (by omega)]; rfl
    rw [hget] at hc
    have ha : a = ⟨a.block, a.off, none⟩ := by
      have h0 := hi 0 (by omega)
      rw [show a.add 0 = a from by simp [Addr.add]] at h0
      exact plain_of_cell h0
    refine ⟨a.block, a.off, congrArg some ha, ?_⟩
    rw [ha, add_plain] at hc
    rw [hc]
    simp [cellsS]
set_option maxRecDepth 100000 in
theorem open_lasks {v : Value} {d : DataW H} {p : List MemPlace} (hv : Value.okWide Try.prog w .any base 22 v) (h : DataW.Trod enc Try.prog w 0 (fun _ => true) true 22 v d p)
    (_ : ∀ n ∈ d.weights Try.prog 22, n ≤ reachBytes) : Rows.uptoBulk d ≤ 1048576 → ∃ qs, IsLAsks w v qs := fun hb => by
  obtain ⟨A, len, cap, rfl⟩ := okWide_slice Try.underlying22 hv
  obtain ⟨fuel, hf⟩ := h
  rcases open_slice_fields Try.underlying22 Try.underlying29 (by kernel_rfl) (by kernel_rfl) hf with ⟨hcs, hx⟩ | ⟨a, len', cap', m, D, Pl, hcs, _, hl, hm, hmm, hx, hi⟩
  · simp [Value.cells] at hcs
    obtain ⟨rfl, rfl, rfl⟩ := hcs
    exact ⟨[], none, 0, rfl, by simp, fun i hi => absurd hi (by simp)⟩
  · simp [Value.cells] at hcs
    obtain ⟨rfl, rfl, rfl⟩ := hcs
    simp only [if_true] at hmm
    simp only [Prod.mk.injEq] at hx
    obtain ⟨hd, _⟩ := hx
    subst hd
    rw [bulk_slice] at hb
    have each : ∀ i, i < len → ∃ q : LAsk, ∃ A1 c1 A2 c2, w.cell? (a.add (i * 5)) = some (.slice A1 q.l.length c1) ∧ w.cell? (a.add (i * 5 + 1)) = some (.string q.nm) ∧ w.cell? (a.add (i * 5 + 2)) = some (.string q.vl) ∧
        w.cell? (a.add (i * 5 + 3)) = some (.slice A2 q.ns.length c2) ∧ w.cell? (a.add (i * 5 + 4)) = some (.bool q.wo) ∧
        IsL 2 w (.slice A1 q.l.length c1) q.l.length (cellsL q.l) ∧ IsL 1 w (.slice A2 q.ns.length c2) q.ns.length (cellsS q.ns) ∧ SmL q.l ∧ q.ns.length ≤ 1048576 ∧ q.l.length ≤ c1 := by
      intro i hil
      obtain ⟨ys, n, hD, _, hyl, hfs⟩ := hi i (by omega)
      obtain ⟨v0, y0, c0, e0, t0⟩ := hfs 0 _ rfl
      obtain ⟨v1, y1, c1, e1, t1⟩ := hfs 1 _ rfl
      obtain ⟨v2, y2, c2, e2, t2⟩ := hfs 2 _ rfl
      obtain ⟨v3, y3, c3, e3, t3⟩ := hfs 3 _ rfl
      obtain ⟨v4, y4, c4, e4, t4⟩ := hfs 4 _ rfl
      have hp := bulk_part (d := D i) (l := (List.range len).map D) (List.mem_map.2 ⟨i, List.mem_range.2 hil, rfl⟩)
      rw [hD, bulk_agg] at hp
      have b0 := bulk_part (d := y0.1) (l := ys.map (·.1)) (List.mem_map.2 ⟨y0, List.mem_of_getElem? e0, rfl⟩)
      have b3 := bulk_part (d := y3.1) (l := ys.map (·.1)) (List.mem_map.2 ⟨y3, List.mem_of_getElem? e3, rfl⟩)
      obtain ⟨l, A1, k1, rfl, hL, hS, hcp⟩ := open_lbsC t0 (by omega)
      obtain ⟨ns, A2, k2, rfl, hN, hNs⟩ := open_strsC t3 (by omega)
      obtain ⟨s, hs, _, _⟩ := DataW.trod_string Try.underlying9 t1
      obtain ⟨z, hz, _, _⟩ := DataW.trod_string Try.underlying9 t2
      obtain ⟨b, hbb, _⟩ := DataW.trod_bool Try.underlying4 t4
      simp at hs hz hbb
      subst hs
      subst hz
      subst hbb
      exact ⟨⟨l, s, z, ns, b⟩, A1, k1, A2, k2, c0, c1, c2, c3, c4, hL, hN, hS, hNs, hcp⟩
    obtain ⟨qs, hlen, hR⟩ := list_of len _ each
    subst hlen
    refine ⟨qs, some a, cap, rfl, by omega, fun i hil => ?_⟩
    have ha : a = ⟨a.block, a.off, none⟩ := by
      obtain ⟨_, _, _, _, h0, _⟩ := hR 0 (by omega)
      rw [Nat.zero_mul, show a.add 0 = a from by simp [Addr.add]] at h0
      exact plain_of_cell h0
    obtain ⟨A1, k1, A2, k2, c0, c1, c2, c3, c4, rest⟩ := hR i hil
    rw [ha, add_plain] at c0 c1 c2 c3 c4
    exact ⟨a.block, a.off, A1, k1, A2, k2, congrArg some ha, c0, c1, c2, c3, c4, rest⟩
end
end Go.Proofs.Ytifaepkeoffcfaa
