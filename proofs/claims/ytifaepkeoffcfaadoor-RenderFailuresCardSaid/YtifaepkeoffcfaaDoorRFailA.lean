/- strconv.Itoa at this program; render.out's put. -/
import Derived.Test.YtifaepkeoffcfaaDoorBase5
import Derived.Test.YtifaepkeoffcfaaDoorBk
import Derived.Test.YtifaepkeoffcfaaDoorLin
import Derived.Shelf.Lay
import Derived.Shelf.Strconv.Itoa3
import Derived.Lib.ItoaLen
import Derived.Lib.AppendIntMem
namespace Go.Proofs
open Go.Shelf
shelf_lay LaysM.n171 Nm 171 at Tryd as Tryd.laysM171
namespace YtifaepkeoffcfaaDoor
open Go.RowKit
set_option linter.unusedVariables false
set_option linter.unusedSimpArgs false
/-- the table of powers of ten reads so, whatever is done from B on -/
abbrev Pow (B : Nat) (w : World) : Prop := ∀ w', Below B w w' → Lib.TabIs Tryd.prog w' "internal/strconv.uint64pow10" .u64 Lib.pow10Tab
def T.it (n : Int) : List UInt8 := Lib.itoa n
theorem itoa_any (n : Int) (h0 : -9223372036854775808 ≤ n) (h1 : n ≤ 9223372036854775807) (w : World) (htab : Lib.TabIs Tryd.prog w "internal/strconv.uint64pow10" .u64 Lib.pow10Tab) :
    Calls Tryd.prog 13 #[.int .i64 n] w fun e w' => e = .returned (.string ⟨(T.it n).toArray⟩) ∧ Below w.heap.size w w' := by
  have h : Calls Tryd.prog 13 #[.int .i64 n] w fun e w' => e = .returned (.string ⟨(Lib.itoa n).toArray⟩) ∧ ∃ k os, w' = Sort.grow (w.drewN k) os := Any.strconv_Itoa Tryd.laysM171 n h0 h1 w htab
  refine h.mono ?_
  rintro e w' ⟨rfl, k, os, rfl⟩
  exact ⟨rfl, Lib.below_grow _ w (Nat.le_refl _) k os⟩
theorem T.it_len (n : Int) (h0 : -9223372036854775808 ≤ n) (h1 : n ≤ 9223372036854775807) : (T.it n).length ≤ 21 := Lib.itoa_length_le n h0 h1
theorem info_out : (Tryd.prog.info? 5).map (fun i => (i.zero, i.size, i.bytes)) = some (some (.int .u8 0), 1, 1) := by kernel_rfl
/-- the block g holds a row of its own that reads as bs; what lies below g is as in w0 -/
structure Ou (w0 w : World) (g : Nat) (bs : List UInt8) : Prop where
  ex : ∃ A n c, Bk w g 41 [.slice A n c] ∧ w.ownsRow (g + 1) 5 1 (.slice A n c) bs.length (cellsB bs) ∧ n = bs.length
  bel : Below g w0 w
theorem Ou.below {w0 w w' : World} {g : Nat} {bs : List UInt8} (h : Ou w0 w g bs) (hb : Below w.heap.size w w') : Ou w0 w' g bs := by
  obtain ⟨A, n, c, h1, h2, h3⟩ := h.ex
  exact ⟨⟨A, n, c, h1.below hb, own_below h2 hb, h3⟩, h.bel.trans (hb.mono (Nat.le_of_lt h1.lt))⟩
theorem Ou.lt {w0 w : World} {g : Nat} {bs : List UInt8} (h : Ou w0 w g bs) : g < w.heap.size := by
  obtain ⟨A, n, c, h1, _⟩ := h.ex
  exact h1.lt
theorem put_any (s : ByteArray) (w0 w : World) (g : Nat) (bs : List UInt8) (hO : Ou w0 w g bs) (hn : bs.length + s.size ≤ 140737488355328) :
    Calls Tryd.prog 12 #[.pointer (some ⟨g, 0, none⟩), .string s] w fun e w' => e = .returned (.tuple #[]) ∧ Ou w0 w' g (bs ++ s.data.toList) := by
  have hlt := hO.lt
  obtain ⟨A, n, c, h1, h2, rfl⟩ := hO.ex
  have HB := hd hO.bel
  have c0 := h1.cell 0 (by simp)
  have f0 := h1.frozen 0
  simp only [List.getElem_cons_zero] at c0
  have H1 := hd h1
  have H2 := hd h2
  clear h1 h2 hO
  go_enter Tryd.func12, Tryd.ntmps12
  go_wp2_with (at_builtin; refine wpList_app_str _ 41 9 5 Tryd.underlying41 Tryd.underlying9 info_out rfl _ _ rfl (g + 1) (.slice A bs.length c) bs.length (cellsB bs) rfl H2.o s rfl hn hlt ?_)
  intro v' w' ho hg
  obtain ⟨A', c', rfl⟩ := own_shape ho
  have hne : (Value.slice A bs.length c).ownBlock ≠ some g := fun e => by have := (H2.o.lt g e).1; omega
  have hk : Bk w' g 41 [.slice A bs.length c] := (hg.block g hlt (Ne.symm hne)).trans H1.o
  have c1 := hk.cell 0 (by simp)
  have f1 := hk.frozen 0
  simp only [List.getElem_cons_zero] at c1
  have HO : Hd (Ou w0 (w'.setCell ⟨g, 0, none⟩ (.slice A' (bs.length + s.size) c')) g (bs ++ s.data.toList)) := hd <| by
    have hl : (bs ++ s.data.toList).length = bs.length + s.size := by rw [List.length_append, Lib.size_eq]
    refine ⟨⟨A', bs.length + s.size, c', hk.set 0 _, ?_, hl.symm⟩, ?_⟩
    · rw [hl, cellsB_app]
      exact ownsRow_setCell_below ho (a := ⟨g, 0, none⟩) (Nat.lt_succ_self g) _
    · refine (HB.o.grown hg (Nat.le_of_lt hlt) (fun k hk => by have := (H2.o.lt k hk).1; omega)).setCell (Nat.le_refl g) _
  clear ho hg hk c0 f0 hne
  go_wp2
  go_end0
  exact ⟨rfl, HO.o⟩
/-- '[]byte(s)' reads as the bytes -/
theorem isL_of_cells {w : World} {g c : Nat} (s : ByteArray) (h : ∀ k, k < s.size → w.cell? ⟨g, k, none⟩ = some (.int .u8 (U.at' s k : Int))) : IsL 1 w (.slice (some ⟨g, 0, none⟩) s.size c) s.size (cellsB s.data.toList) := by
  refine ⟨by rw [cellsB_len, ← Lib.size_eq, Nat.mul_one], _, _, rfl, fun k hk => ⟨g, 0, rfl, ?_⟩⟩
  rw [cellsB_len, ← Lib.size_eq] at hk
  obtain ⟨h', e⟩ := list_at s k hk
  rw [Nat.zero_add, h k hk, ← e]
  simp [cellsB]
theorem wpList_bytes_isL {P : Program} {ops : Array Oper} {rest : List Oper} {o : Oper} {a : Act} {Q : Exit → Act → World → Prop} (w : World) (src dst e : TypeId) (s : ByteArray) (hs : P.underlying src = some .string) (hd : P.underlying dst = some (.slice e)) (he : P.underlying e = some (.int .u8))
    (hg : Region.wanted o (yielded ops a.tmps) = true) (x : Operand) (ho : o.op = .convert src dst x) (hx : a.eval x = .string s)
    (h : ∀ v' w', Below w.heap.size w w' → (∃ m, IsL 1 w' v' m (cellsB s.data.toList)) → wpList P ops Q rest (a.put o.dst v') w') :
    wpList P ops Q (o :: rest) a w :=
  wpList_bytes_of w src dst e s hs hd he hg x ho hx fun cap w' h1 _ h3 => h _ w' h1 ⟨_, isL_of_cells (c := cap) s h3⟩
/-- string(v) -/
theorem conv_isL {w : World} {v : Value} {m : Nat} {l : List UInt8} (h : IsL 1 w v m (cellsB l)) : (convert 22 9 v).run Tryd.prog w = .ok (.string ⟨l.toArray⟩) w :=
  run_string_of w 22 9 5 Tryd.underlying22 Tryd.underlying5 Tryd.underlying9 _ _ _ h
end YtifaepkeoffcfaaDoor
end Go.Proofs
