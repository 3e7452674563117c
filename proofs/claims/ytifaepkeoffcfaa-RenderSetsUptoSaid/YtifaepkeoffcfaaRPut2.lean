/- render.out: put and text, and what they leave of another block. -/
import Derived.Test.YtifaepkeoffcfaaRNames
import Derived.Test.YtifaepkeoffcfaaLApart
import Derived.Deep.RegionHeld3
namespace Go.Proofs.Ytifaepkeoffcfaa
open Go.RowKit
set_option linter.unusedVariables false
set_option linter.unusedSimpArgs false
/-- the block k, known whole, is neither g nor a row of bytes -/
def Bx (w : World) (g k : Nat) (e : TypeId) (L : List Value) : Prop :=
  Bk w k e L ∧ k ≠ g ∧ 5 ≠ e
theorem Bx.below {w w' : World} {g k : Nat} {e : TypeId} {L : List Value} (h : Bx w g k e L) (hb : Below w.heap.size w w') (hg : g < w.heap.size) : Bx w' g k e L :=
  ⟨h.1.below hb, h.2⟩
theorem put2_any (k : Nat) (e : TypeId) (L : List Value) (s : ByteArray) (w0 w : World) (g : Nat) (bs : List UInt8) (hO : Ou w0 w g bs) (hX : Bx w g k e L) (hn : bs.length + s.size ≤ 140737488355328) :
    Calls Try.prog 44 #[.pointer (some ⟨g, 0, none⟩), .string s] w fun e' w' => e' = .returned (.tuple #[]) ∧ Ou w0 w' g (bs ++ s.data.toList) ∧ Bx w' g k e L := by
  have hlt := hO.lt
  obtain ⟨A, n, c, h1, h2, rfl⟩ := hO.ex
  have HB := hd hO.bel
  have c0 := h1.cell 0 (by simp)
  have f0 := h1.frozen 0
  simp only [List.getElem_cons_zero] at c0
  have H1 := hd h1
  have H2 := hd h2
  have HX := hd hX
  clear h1 h2 hO hX
  go_enter Try.func44, Try.ntmps44
  go_wp2_with (at_builtin; refine wpList_app_str _ 70 9 5 Try.underlying70 Try.underlying9 info_out rfl _ _ rfl (g + 1) (.slice A bs.length c) bs.length (cellsB bs) rfl H2.o s rfl hn hlt ?_)
  intro v' w' ho hg
  obtain ⟨A', c', rfl⟩ := own_shape ho
  have hne : (Value.slice A bs.length c).ownBlock ≠ some g := fun e => by have := (H2.o.lt g e).1; omega
  have hk : Bk w' g 70 [.slice A bs.length c] := (hg.block g hlt (Ne.symm hne)).trans H1.o
  have c1 := hk.cell 0 (by simp)
  have f1 := hk.frozen 0
  simp only [List.getElem_cons_zero] at c1
  have HO : Hd (Ou w0 (w'.setCell ⟨g, 0, none⟩ (.slice A' (bs.length + s.size) c')) g (bs ++ s.data.toList)) := hd <| by
    have hl : (bs ++ s.data.toList).length = bs.length + s.size := by rw [List.length_append, Lib.size_eq]
    refine ⟨⟨A', bs.length + s.size, c', hk.set 0 _, ?_, hl.symm⟩, ?_⟩
    · rw [hl, cellsB_app]
      exact ownsRow_setCell_below ho (a := ⟨g, 0, none⟩) (Nat.lt_succ_self g) _
    · refine (HB.o.grown hg (Nat.le_of_lt hlt) (fun k hk => by have := (H2.o.lt k hk).1; omega)).setCell (Nat.le_refl g) _
  have HX2 : Hd (Bx (w'.setCell ⟨g, 0, none⟩ (.slice A' (bs.length + s.size) c')) g k e L) := hd <| by
    have hx3 := own_other H2.o HX.o.1 HX.o.2.2
    exact ⟨Bk.set_far ((hg.block k HX.o.1.lt (Ne.symm hx3)).trans HX.o.1) (p := ⟨g, 0, none⟩) HX.o.2.1 _, HX.o.2⟩
  clear ho hg hk c0 f0 hne
  go_wp2
  go_end0
  exact ⟨rfl, HO.o, HX2.o⟩
theorem text2_any (k : Nat) (e : TypeId) (L : List Value) (s : ByteArray) (w0 w : World) (g : Nat) (bs : List UInt8) (hO : Ou w0 w g bs) (hX : Bx w g k e L) (hs : s.size ≤ 1048576) (hn : bs.length ≤ 140737480000000) :
    Calls Try.prog 47 #[.pointer (some ⟨g, 0, none⟩), .string s] w fun e' w' => e' = .returned (.tuple #[]) ∧ Ou w0 w' g (bs ++ R.t s) ∧ Bx w' g k e L := by
  have HO := hd hO
  have HX0 := hd hX
  have HLT := hd hO.lt
  have HT : Hd (R.t s = if (U.wrS U.wrJ s).2 ≠ 0 then [34, 34] else (U.wrS U.wrJ s).1) := hd rfl
  have hl := R.t_len s
  clear hO hX
  obtain ⟨x, hx⟩ : ∃ x, x = U.wrS U.wrJ s := ⟨_, rfl⟩
  rw [← hx] at HT
  have HX := hd hx
  clear hx
  by_cases h : x.2 ≠ 0
  · have hT := HT.o
    rw [if_pos h] at hT
    have HT2 := hd hT
    have hb : (x.2 != 0) = true := by simp [h]
    clear hT HT h
    rw [HT2.o]
    go_enter Try.func47, Try.ntmps47
    go_wp2_with (first
      | (go_at_call 66; refine (json_any s _ hs).mono ?_; rintro e' w1 ⟨rfl, hb1⟩; unfold strR; rw [← HX.o]; have HO1 := hd (HO.o.below hb1); have HX1 := hd (HX0.o.below hb1 HLT.o); clear hb1)
      | (go_at_call 44; refine (put2_any k e L _ w0 _ g bs HO1.o HX1.o (by have : ByteArray.size ⟨#[34, 34]⟩ = 2 := rfl; omega)).mono ?_; rintro e' w2 ⟨rfl, hO2, hX2⟩; have HO2 := hd hO2; have HX2 := hd hX2; clear hO2 hX2))
    go_end0
    exact ⟨rfl, HO2.o, HX2.o⟩
  · have hT := HT.o
    rw [if_neg h] at hT
    have HT2 := hd hT
    have hb : (x.2 != 0) = false := by simpa using h
    clear hT HT h
    rw [HT2.o] at hl ⊢
    go_enter Try.func47, Try.ntmps47
    go_wp2_with (first
      | (go_at_call 66; refine (json_any s _ hs).mono ?_; rintro e' w1 ⟨rfl, hb1⟩; unfold strR; rw [← HX.o]; have HO1 := hd (HO.o.below hb1); have HX1 := hd (HX0.o.below hb1 HLT.o); clear hb1)
      | (go_at_call 44; refine (put2_any k e L _ w0 _ g bs HO1.o HX1.o (by have : ByteArray.size ⟨x.1.toArray⟩ = x.1.length := rfl; omega)).mono ?_; rintro e' w2 ⟨rfl, hO2, hX2⟩; have HO2 := hd hO2; have HX2 := hd hX2; clear hO2 hX2))
    go_end0
    exact ⟨rfl, HO2.o, HX2.o⟩
end Go.Proofs.Ytifaepkeoffcfaa
