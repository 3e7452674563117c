/- What the bound of the second form gives: so many values and letters at the most. How an argument []string reads, and what the bound of the second form says of its texts. How an argument []api.Label and [][]api.Label reads. How an argument []weirlaw16.Ask reads, under the bound. -/
import Derived.Test.YteckfdohgiddgaaGreatDoorBase
import Derived.SliceStrings
import Derived.Test.YteckfdohgiddgaaGreatDoorLBase
import Derived.Test.YteckfdohgiddgaaGreatDoorLMm
namespace Go.Proofs.YteckfdohgiddgaaGreatDoor
open Go.RowKit Go.ChangeShapes Go.WideShapes Go.Deep
theorem bulk_nil {H : Type} : Rows.uptoBulkAll ([] : List (DataW H)) = 0 := by simp [Rows.uptoBulkAll]
theorem bulk_cons {H : Type} (x : DataW H) (r : List (DataW H)) : Rows.uptoBulkAll (x :: r) = Rows.uptoBulk x + Rows.uptoBulkAll r := by simp [Rows.uptoBulkAll]
theorem bulk_bound {H : Type} {l : List (DataW H)} (hk : Rows.uptoSmall H l = true) : Rows.uptoBulkAll l ≤ 1048576 := of_decide_eq_true hk
theorem bulk_str {H : Type} (l : List UInt8) : Rows.uptoBulk (DataW.lit (H := H) (.string l)) = l.length + 1 := by simp [Rows.uptoBulk]
theorem bulk_agg {H : Type} (l : List (DataW H)) : Rows.uptoBulk (DataW.agg l) = Rows.uptoBulkAll l + 1 := by simp [Rows.uptoBulk]
theorem bulk_pos {H : Type} (d : DataW H) : 1 ≤ Rows.uptoBulk d := by
  cases d with
  | lit l => cases l <;> simp [Rows.uptoBulk]
  | nil => simp [Rows.uptoBulk]
  | ptr d => simp [Rows.uptoBulk]
  | slice elems spare => simp [Rows.uptoBulk]
  | agg parts => simp [Rows.uptoBulk]
  | iface t d => simp [Rows.uptoBulk]
  | map entries => simp [Rows.uptoBulk]
  | held h => simp [Rows.uptoBulk]
theorem bulk_part {H : Type} {d : DataW H} {l : List (DataW H)} (h : d ∈ l) : Rows.uptoBulk d ≤ Rows.uptoBulkAll l := by
  induction l with
  | nil => cases h
  | cons x r ih =>
    rw [bulk_cons]
    rcases List.mem_cons.1 h with rfl | e
    · omega
    · have := ih e; omega
theorem bulk_len {H : Type} (l : List (DataW H)) : l.length ≤ Rows.uptoBulkAll l := by
  induction l with
  | nil => simp
  | cons x r ih => have := bulk_pos x; rw [bulk_cons, List.length_cons]; omega
theorem bulk_slice {H : Type} (elems spare : List (DataW H)) : Rows.uptoBulk (.slice elems spare) = Rows.uptoBulkAll elems + Rows.uptoBulkAll spare + 1 := by simp [Rows.uptoBulk]

section
variable {H : Type} {enc : TypeId × Value → H} {w : World} {base : Nat}
end
end Go.Proofs.YteckfdohgiddgaaGreatDoor
namespace Go.Proofs.YteckfdohgiddgaaGreatDoor
open Go.RowKit Go.ChangeShapes Go.WideShapes Go.Deep
section
variable {H : Type} {enc : TypeId × Value → H} {w : World} {base : Nat}
end
end Go.Proofs.YteckfdohgiddgaaGreatDoor
namespace Go.Proofs.YteckfdohgiddgaaGreatDoor
open Go.RowKit Go.ChangeShapes Go.WideShapes Go.Deep
section
variable {H : Type} {enc : TypeId × Value → H} {w : World} {base : Nat}
/-- v reads in w as a list of labels -/
def IsLbs (w : World) (v : Value) (l : List Lb) : Prop := IsL 2 w v l.length (cellsL l) ∧ l.length * 32 ≤ reachBytes
/-- v reads in w as a list of lists of labels -/
def IsLbss (w : World) (v : Value) (l : List (List Lb)) : Prop :=
  ∃ (A : Option Addr) (c : Nat), v = .slice A l.length c ∧ l.length ≤ maxLen ∧
    ∀ i (h : i < l.length), ∃ b off x, A = some ⟨b, off, none⟩ ∧ w.cell? ⟨b, off + i, none⟩ = some x ∧ IsLbs w x (l[i]'h)
end
end Go.Proofs.YteckfdohgiddgaaGreatDoor
namespace Go.Proofs.YteckfdohgiddgaaGreatDoor
open Go.RowKit Go.ChangeShapes Go.WideShapes Go.Deep
section
variable {H : Type} {enc : TypeId × Value → H} {w : World} {base : Nat}
/-- the list is short, its texts are small -/
def SmL (l : List Lb) : Prop := l.length ≤ 1048576 ∧ ∀ y ∈ l, y.1.size ≤ 1048576 ∧ y.2.size ≤ 1048576
theorem open_lbsC {fuel : Nat} {v : Value} {x : DataW H × List MemPlace} (h : DataW.trod enc Tryz.prog w 0 (fun _ => true) true fuel 52 [v] = some x)
    (hb : Rows.uptoBulk x.1 ≤ 1048576) : ∃ l A c, v = .slice A l.length c ∧ IsL 2 w v l.length (cellsL l) ∧ SmL l ∧ l.length ≤ c := by
  rcases open_slice_fields Tryz.underlying52 Tryz.underlying57 (by kernel_rfl) (by kernel_rfl) h with ⟨hcs, hx⟩ | ⟨a, len, cap, m, D, Pl, hcs, _, hl, hm, hmm, hx, hi⟩
  · obtain rfl : v = .slice none 0 0 := by simpa using hcs
    exact ⟨[], none, 0, rfl, IsL.nil 2 w none 0, ⟨by simp, fun y hy => by cases hy⟩, Nat.le_refl _⟩
  · obtain rfl : v = .slice (some a) len cap := by simpa using hcs
    subst hx
    simp only at hb
    rw [bulk_slice] at hb
    have each : ∀ i, i < len → ∃ y : Lb, (w.cell? (a.add (i * 2)) = some (.string y.1) ∧ w.cell? (a.add (i * 2 + 1)) = some (.string y.2)) ∧ y.1.size ≤ 1048576 ∧ y.2.size ≤ 1048576 := by
      intro i hil
      obtain ⟨ys, n, hD, _, hyl, hfs⟩ := hi i (by simp only [if_true] at hmm; omega)
      obtain ⟨v0, y0, c0, e0, t0⟩ := hfs 0 _ rfl
      obtain ⟨v1, y1, c1, e1, t1⟩ := hfs 1 _ rfl
      obtain ⟨s, hs, hy0, _⟩ := DataW.trod_string Tryz.underlying9 t0
      obtain ⟨z, hz, hy1, _⟩ := DataW.trod_string Tryz.underlying9 t1
      simp at hs hz
      subst hs
      subst hz
      have hys : D i = .agg [.lit (.string s.data.toList), .lit (.string z.data.toList)] := by
        rw [hD]
        have hy2 : ys.length = 2 := hyl
        match ys, hy2 with
        | [a0, a1], _ =>
          simp at e0 e1
          subst e0
          subst e1
          rw [hy0, hy1]
          rfl
      have hp := bulk_part (d := D i) (l := (List.range len).map D) (List.mem_map.2 ⟨i, List.mem_range.2 hil, rfl⟩)
      rw [hys, bulk_agg, bulk_cons, bulk_cons, bulk_nil, bulk_str, bulk_str, ← Lib.size_eq, ← Lib.size_eq] at hp
      exact ⟨(s, z), ⟨c0, c1⟩, by show s.size ≤ _; omega, by show z.size ≤ _; omega⟩
    obtain ⟨l, hlen, hR⟩ := list_of len _ each
    subst hlen
    have hbl := bulk_len ((List.range l.length).map D)
    rw [List.length_map, List.length_range] at hbl
    refine ⟨l, some a, cap, rfl, ⟨cellsL_len l, some a, cap, rfl, fun k hk => ?_⟩, ⟨by omega, fun y hy => ?_⟩, hl⟩
    · rw [cellsL_len] at hk
      have ha : a = ⟨a.block, a.off, none⟩ := by
        have := (hR 0 (by omega)).1.1
        rw [Nat.zero_mul] at this
        have e : a.add 0 = a := by simp [Addr.add]
        rw [e] at this
        exact plain_of_cell this
      refine ⟨a.block, a.off, congrArg some ha, ?_⟩
      obtain ⟨⟨r1, r2⟩, _⟩ := hR (k / 2) (by omega)
      obtain ⟨e1, e2⟩ := cellsL_at l (k / 2) (by omega)
      rw [ha, add_plain] at r1 r2
      rw [← List.getElem?_eq_getElem]
      rcases Nat.mod_two_eq_zero_or_one k with h0 | h0
      · have hk2 : k / 2 * 2 = k := by omega
        rw [hk2] at r1 e1
        rw [r1, e1]
      · have hk2 : k / 2 * 2 + 1 = k := by omega
        rw [hk2] at r2 e2
        rw [r2, e2]
    · obtain ⟨k, hk, rfl⟩ := List.mem_iff_getElem.1 hy
      exact (hR k hk).2
end
end Go.Proofs.YteckfdohgiddgaaGreatDoor
