/- slices.SortFunc over labels by name, at this program: a row of the call's own is put in order. -/
import Derived.Test.YtifaepkeoffcfaaLRefMake
import Derived.Shelf.SlSortCmp.WholeK
import Derived.Shelf.SlSortCmp.NoneTotal
import Derived.Shelf.Lay
import Derived.Ground.SlsfProg
namespace Go.Proofs
open Go.Shelf
shelf_lay_g SlLaysF0.n6 Slsf 6 at Try 62 as Try.sortLb
namespace Ytifaepkeoffcfaa
open Go.RowKit Go.Sort
set_option linter.unusedVariables false
set_option linter.unusedSimpArgs false
def encL (x : Lb) : List Value := [.string x.1, .string x.2]
theorem flat_cells (d : Array Lb) : (flatK encL 2 d).toList = cellsL d.toList := by
  apply List.ext_getElem?
  intro t
  have hs : (flatK encL 2 d).toList.length = d.size * 2 := by simp
  have hc : (cellsL d.toList).length = d.size * 2 := by rw [cellsL_len]; simp
  by_cases ht : t < d.size * 2
  · have h1 := get_flatK encL 2 d t ht
    have hq : t / 2 < d.size := by omega
    have hq2 : t / 2 < d.toList.length := by simpa using hq
    obtain ⟨e1, e2⟩ := cellsL_at d.toList (t / 2) hq2
    have hd : d[t / 2]! = d.toList[t / 2]'hq2 := by rw [getElem!_pos d _ hq]; simp
    have hl : (flatK encL 2 d).toList[t]? = some ((flatK encL 2 d)[t]!) := by
      rw [List.getElem?_eq_getElem (by rw [hs]; exact ht), getElem!_pos _ t (by rw [size_flatK]; exact ht)]; simp
    rw [hl, h1, hd]
    generalize d.toList[t / 2]'hq2 = x at *
    rcases Nat.mod_two_eq_zero_or_one t with h0 | h0
    · have : t / 2 * 2 = t := by omega
      rw [this] at e1
      rw [e1, h0]; rfl
    · have : t / 2 * 2 + 1 = t := by omega
      rw [this] at e2
      rw [e2, h0]; rfl
  · rw [List.getElem?_eq_none (by rw [hs]; omega), List.getElem?_eq_none (by rw [hc]; omega)]
theorem ltOf_name (x y : Lb) : ltOf (fun x y : Lb => L.ord x.1 y.1) x y = L.lt x.1 y.1 := by
  unfold ltOf
  cases h : L.lt x.1 y.1 with
  | true => simpa using L.ord_lt.2 h
  | false =>
    have : ¬ L.ord x.1 y.1 < 0 := fun e => by rw [L.ord_lt.1 e] at h; cases h
    simpa using this
theorem swoName : SWO (ltOf fun x y : Lb => L.ord x.1 y.1) where
  irrefl x := by rw [ltOf_name]; exact L.lt_irrefl _
  trans x y z h1 h2 := by rw [ltOf_name] at *; exact L.lt_trans h1 h2
  ntrans x y z h1 h2 := by
    rw [ltOf_name] at *
    rw [Bool.eq_false_iff]
    intro h
    by_cases e : y.1 = x.1
    · rw [e, h] at h2; cases h2
    · have := L.lt_trans (L.lt_of_ne (Ne.symm e) h1) h
      rw [this] at h2; cases h2
theorem closureMk (x y : Lb) (W : World) : Calls Try.prog 63 #[.agg #[.string x.1, .string x.2], .agg #[.string y.1, .string y.2]] W fun e w' => e = .returned (.int .i64 (L.ord x.1 y.1)) ∧ ∃ q os', w' = grow (W.drewN q) os' := by
  have hcon := hd fun W' => cmpS_any x.1 y.1 W'
  generalize L.ord x.1 y.1 = r at hcon ⊢
  go_enter Try.func63, Try.ntmps63
  go_wp2_with (go_at_call 42; refine (hcon.o _).mono ?_; rintro e w' ⟨rfl, rfl⟩)
  go_ret
  exact ⟨rfl, 0, _, by rw [alloc_eq_grow, alloc_eq_grow, grow_grow]; rfl⟩
theorem cmpLaysMk (blk off size : Nat) (w : World) : CmpLays Try.prog 63 #[] encL 2 (fun x y => L.ord x.1 y.1) blk off size w :=
  fun _ _ _ _ x y => closureMk x y _
theorem own_sorted {w : World} {B g c : Nat} {O : List Lb} (h : w.ownsRow B 26 2 (.slice (some ⟨g, 0, none⟩) O.length c) O.length (cellsL O)) :
    HoldsK encL 2 w g 0 O.toArray ∧ ∀ (d' : Array Lb) (n : Nat) (os : Array Obj), d'.size = O.length → (sortWorldK encL 2 w g 0 n d' os).ownsRow B 26 2 (.slice (some ⟨g, 0, none⟩) O.length c) O.length (cellsL d'.toList) ∧ w.grownBy (sortWorldK encL 2 w g 0 n d' os) (some g) := by
  have hlt := h.lt g rfl
  constructor
  · intro j hj
    have hj2 : j < (cellsL O).length := by rw [cellsL_len]; simpa using hj
    rw [Nat.zero_add, h.cellAt j (by rw [cellsL_len] at hj2; exact hj2)]
    refine ⟨?_, h.frozenAt j⟩
    have := flat_cells O.toArray
    have e : (flatK encL 2 O.toArray)[j]! = (cellsL O)[j]'hj2 := by
      rw [getElem!_pos _ j hj, ← Array.getElem_toList]
      simp only [this]
    rw [List.getElem?_eq_getElem hj2, e]; rfl
  · intro d' n os hd'
    rcases h.2 with ⟨h', _⟩ | ⟨g', cap, cur, h', hB, hg, h1, h2, h3, h4⟩
    · simp at h'
    · simp only [Value.slice.injEq, Option.some.injEq, Addr.mk.injEq, and_true, true_and] at h'
      obtain ⟨rfl, rfl⟩ := h'
      have hF : (flatK encL 2 d').size = O.length * 2 := by rw [size_flatK, hd']
      have hblk : (sortWorldK encL 2 w g 0 n d' os).heap[g]? = some (.cells (putCells id 0 (flatK encL 2 d') cur) 26 (0, 0)) := by
        unfold sortWorldK putRowK putRow grow mapBlock
        show ((w.heap.modify g _) ++ os)[g]? = _
        rw [Array.getElem?_append_left (by simpa using hlt.2), Array.getElem?_modify, if_pos rfl, hg]
        rfl
      refine ⟨⟨by rw [cellsL_len]; simp [hd'], .inr ⟨g, c, _, rfl, hB, hblk, h1, h2, by simpa [putCells] using h3, ?_⟩⟩, ?_⟩
      · apply List.ext_getElem?
        intro j
        rw [List.getElem?_take]
        by_cases hj : j < O.length * 2
        · rw [if_pos hj, ← flat_cells, Array.getElem?_toList, Array.getElem?_toList]
          unfold putCells
          have hjc : j < cur.size := by rw [h3]; have := Nat.mul_le_mul_right 2 h1; omega
          rw [Array.getElem?_mapIdx, Array.getElem?_eq_getElem hjc, Option.map_some, if_pos ⟨Nat.zero_le _, by rw [hF]; omega⟩, Nat.sub_zero, Array.getElem?_eq_getElem (by rw [hF]; exact hj), getElem!_pos _ j (by rw [hF]; exact hj)]
          rfl
        · rw [if_neg hj, List.getElem?_eq_none (by rw [cellsL_len]; simp [hd']; omega)]
      · refine ⟨rfl, rfl, rfl, ?_, fun k hk hne => ?_⟩
        · unfold sortWorldK putRowK; simp [Sort.ahead]
        · have hkg : g ≠ k := fun e => hne (by rw [e])
          unfold sortWorldK putRowK putRow grow mapBlock
          show ((w.heap.modify g _) ++ os)[k]? = _
          rw [Array.getElem?_append_left (by simpa using hk), Array.getElem?_modify, if_neg hkg]
set_option maxRecDepth 100000 in
theorem sortLb_any (w : World) (B n : Nat) (v : Value) (O : List Lb) (h : w.ownsRow B 26 2 v n (cellsL O)) (hn : n ≤ 4398046510976) :
    Calls Try.prog 62 #[v, .func (.func 63) #[] #[]] w fun e w' => e = .returned (.tuple #[]) ∧ ∃ O', O'.Perm O ∧ O'.Pairwise (fun x y => L.lt y.1 x.1 = false) ∧ w'.ownsRow B 26 2 v n (cellsL O') ∧ w.grownBy w' v.ownBlock := by
  have hlen : O.length = n := by have := h.1; rw [cellsL_len] at this; omega
  subst hlen
  by_cases h0 : O.length = 0
  · have hnil : O = [] := List.eq_nil_of_length_eq_zero h0
    subst hnil
    obtain ⟨A, c, rfl⟩ := own_shape h
    have hS := fun W => AnyF.slices_SortFunc_none (P := Try.prog) (ρ := Try.sortLb_ren) { Try.sortLb with } A c (.func (.func 63) #[] #[]) W
    change ∀ W, Calls Try.prog 62 _ _ _ at hS
    refine (hS w).mono ?_
    rintro e w' ⟨rfl, rfl⟩
    exact ⟨rfl, [], List.Perm.refl _, List.Pairwise.nil, h, World.grownBy.refl _ _⟩
  · obtain ⟨A, c, rfl⟩ := own_shape h
    rcases h.2 with ⟨h', e'⟩ | ⟨g, cap, cur, h', hB, hg, h1, h2, h3, h4⟩
    · exact absurd e' h0
    simp only [Value.slice.injEq, true_and] at h'
    obtain ⟨rfl, rfl⟩ := h'
    obtain ⟨hH, hW⟩ := own_sorted h
    have eg : ∀ args w, (callFunc 63 args).run Try.prog w = .ok (.enter 63 args) w := enters_of Try.func63 (by kernel_rfl) rfl
    have hlt := (h.lt g rfl).2
    have hcon := AnyQ.slices_SortFunc Try.sortLb 2 Try.isAgg26 Try.sizeOf26 encL (fun _ => rfl) (fun x v hv => by simp [encL] at hv; rcases hv with rfl | rfl <;> rfl) (fun x y => L.ord x.1 y.1) swoName 63 #[] g 0 c O.toArray w eg (cmpLaysMk g 0 _ w) hH hlt (by simp; omega)
    change Calls Try.prog 62 _ _ _ at hcon
    refine hcon.mono ?_
    rintro e w' ⟨rfl, d', q, os, hp, hs, rfl⟩
    have hsz : d'.size = O.length := by simpa using hp.1
    obtain ⟨hO, hgr⟩ := hW d' q os hsz
    refine ⟨rfl, d'.toList, ?_, ?_, hO, hgr⟩
    · have := hp.2.2
      have t1 : (d'.extract 0 O.toArray.size).toList = d'.toList := by rw [show O.toArray.size = d'.size by simp [hsz]]; simp
      have t2 : (O.toArray.extract 0 O.toArray.size).toList = O := by simp
      rw [t1, t2] at this
      exact this
    · rw [List.pairwise_iff_getElem]
      intro i j hi hj hij
      have hi2 : i < d'.size := by simpa using hi
      have hj2 : j < d'.size := by simpa using hj
      have := hs i j (Nat.zero_le _) hij (by simp; omega)
      rw [ltOf_name, getElem!_pos d' j hj2, getElem!_pos d' i hi2] at this
      simpa using this
end Ytifaepkeoffcfaa
end Go.Proofs
