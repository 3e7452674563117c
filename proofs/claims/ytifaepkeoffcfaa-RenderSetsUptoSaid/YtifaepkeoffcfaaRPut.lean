/- render.out: put and text. -/
import Derived.Test.YtifaepkeoffcfaaURefWr
import Derived.Test.YtifaepkeoffcfaaBk
import Derived.Test.YtifaepkeoffcfaaLin
namespace Go.Proofs.Ytifaepkeoffcfaa
open Go.RowKit
set_option linter.unusedVariables false
set_option linter.unusedSimpArgs false
theorem info_out : (Try.prog.info? 5).map (fun i => (i.zero, i.size, i.bytes)) = some (some (.int .u8 0), 1, 1) := by kernel_rfl
/-- the block g holds a row of its own that reads as bs; what lies below g is as in w0 -/
structure Ou (w0 w : World) (g : Nat) (bs : List UInt8) : Prop where
  ex : ∃ A n c, Bk w g 70 [.slice A n c] ∧ w.ownsRow (g + 1) 5 1 (.slice A n c) bs.length (cellsB bs) ∧ n = bs.length
  bel : Below g w0 w
theorem Ou.below {w0 w w' : World} {g : Nat} {bs : List UInt8} (h : Ou w0 w g bs) (hb : Below w.heap.size w w') : Ou w0 w' g bs := by
  obtain ⟨A, n, c, h1, h2, h3⟩ := h.ex
  exact ⟨⟨A, n, c, h1.below hb, own_below h2 hb, h3⟩, h.bel.trans (hb.mono (Nat.le_of_lt h1.lt))⟩
theorem Ou.lt {w0 w : World} {g : Nat} {bs : List UInt8} (h : Ou w0 w g bs) : g < w.heap.size := by
  obtain ⟨A, n, c, h1, _⟩ := h.ex
  exact h1.lt
theorem put_any (s : ByteArray) (w0 w : World) (g : Nat) (bs : List UInt8) (hO : Ou w0 w g bs) (hn : bs.length + s.size ≤ 140737488355328) :
    Calls Try.prog 44 #[.pointer (some ⟨g, 0, none⟩), .string s] w fun e w' => e = .returned (.tuple #[]) ∧ Ou w0 w' g (bs ++ s.data.toList) := by
  have hlt := hO.lt
  obtain ⟨A, n, c, h1, h2, rfl⟩ := hO.ex
  have HB := hd hO.bel
  have c0 := h1.cell 0 (by simp)
  have f0 := h1.frozen 0
  simp only [List.getElem_cons_zero] at c0
  have H1 := hd h1
  have H2 := hd h2
  clear h1 h2 hO
  go_enter Try.func44, Try.ntmps44
  go_wp2_with (at_builtin; refine wpList_app_str _ 70 9 5 Try.underlying70 Try.underlying9 info_out rfl _ _ rfl (g + 1) (.slice A bs.length c) bs.length (cellsB bs) rfl H2.o s rfl hn hlt ?_)
  intro v' w' ho hg
  obtain ⟨A', c', rfl⟩ := own_shape ho
  have hne : (Value.slice A bs.length c).ownBlock ≠ some g := fun e => by have := (H2.o.lt g e).1; omega
  have hk : Bk w' g 70 [.slice A bs.length c] := (hg.block g hlt (Ne.symm hne)).trans H1.o
  have c1 := hk.cell 0 (by simp)
  have f1 := hk.frozen 0
  simp only [List.getElem_cons_zero] at c1
  have HO : Hd (Ou w0 (w'.setCell ⟨g, 0, none⟩ (.slice A' (bs.length + s.size) c')) g (bs ++ s.data.toList)) := hd <| by
    have hl : (bs ++ s.data.toList).length = bs.length + s.size := by rw [List.length_append, Lib.size_eq]
    refine ⟨⟨A', bs.length + s.size, c', hk.set 0 _, ?_, hl.symm⟩, ?_⟩
    · rw [hl, cellsB_app]
      exact ownsRow_setCell_below ho (a := ⟨g, 0, none⟩) (Nat.lt_succ_self g) _
    · refine (HB.o.grown hg (Nat.le_of_lt hlt) (fun k hk => by have := (H2.o.lt k hk).1; omega)).setCell (Nat.le_refl g) _
  clear ho hg hk c0 f0 hne
  go_wp2
  go_end0
  exact ⟨rfl, HO.o⟩
/-- what a text is in the answer -/
def R.t (s : ByteArray) : List UInt8 := if (U.wrS U.wrJ s).2 ≠ 0 then [34, 34] else (U.wrS U.wrJ s).1
theorem R.t_len (s : ByteArray) : (R.t s).length ≤ 6 * s.size + 2 := by
  unfold R.t
  split
  · simp
  · unfold U.wrS
    split
    · have := U.flat_len U.wrJ U.wrJ_len s.data.toList
      rw [← Lib.size_eq] at this
      simp only [List.length_append, List.length_cons, List.length_nil]
      omega
    · simp
theorem json_any (s : ByteArray) (w : World) (hs : s.size ≤ 1048576) :
    Calls Try.prog 66 #[.string s] w fun e w' => e = strR (U.wrS U.wrJ s) ∧ Below w.heap.size w w' := by
  cases hv : U.valid s with
  | false => exact json_no s w (by omega) hv
  | true => exact json_yes s w (by omega) hv
theorem text_any (s : ByteArray) (w0 w : World) (g : Nat) (bs : List UInt8) (hO : Ou w0 w g bs) (hs : s.size ≤ 1048576) (hn : bs.length ≤ 70368744177664) :
    Calls Try.prog 47 #[.pointer (some ⟨g, 0, none⟩), .string s] w fun e w' => e = .returned (.tuple #[]) ∧ Ou w0 w' g (bs ++ R.t s) := by
  have HO := hd hO
  have HT : Hd (R.t s = if (U.wrS U.wrJ s).2 ≠ 0 then [34, 34] else (U.wrS U.wrJ s).1) := hd rfl
  have hl := R.t_len s
  clear hO
  obtain ⟨x, hx⟩ : ∃ x, x = U.wrS U.wrJ s := ⟨_, rfl⟩
  rw [← hx] at HT
  have HX := hd hx
  clear hx
  by_cases h : x.2 ≠ 0
  · have hT := HT.o
    rw [if_pos h] at hT
    have HT2 := hd hT
    have hb : (x.2 != 0) = true := by simp [h]
    clear hT HT h
    rw [HT2.o]
    go_enter Try.func47, Try.ntmps47
    go_wp2_with (first
      | (go_at_call 66; refine (json_any s _ hs).mono ?_; rintro e w1 ⟨rfl, hb1⟩; unfold strR; rw [← HX.o]; have HO1 := hd (HO.o.below hb1); clear hb1)
      | (go_at_call 44; refine (put_any _ w0 _ g bs HO1.o (by have : ByteArray.size ⟨#[34, 34]⟩ = 2 := rfl; omega)).mono ?_; rintro e w2 ⟨rfl, hO2⟩; have HO2 := hd hO2; clear hO2))
    go_end0
    exact ⟨rfl, HO2.o⟩
  · have hT := HT.o
    rw [if_neg h] at hT
    have HT2 := hd hT
    have hb : (x.2 != 0) = false := by simpa using h
    clear hT HT h
    rw [HT2.o] at hl ⊢
    go_enter Try.func47, Try.ntmps47
    go_wp2_with (first
      | (go_at_call 66; refine (json_any s _ hs).mono ?_; rintro e w1 ⟨rfl, hb1⟩; unfold strR; rw [← HX.o]; have HO1 := hd (HO.o.below hb1); clear hb1)
      | (go_at_call 44; refine (put_any _ w0 _ g bs HO1.o (by have : ByteArray.size ⟨x.1.toArray⟩ = x.1.length := rfl; omega)).mono ?_; rintro e w2 ⟨rfl, hO2⟩; have HO2 := hd hO2; clear hO2))
    go_end0
    exact ⟨rfl, HO2.o⟩
end Go.Proofs.Ytifaepkeoffcfaa
