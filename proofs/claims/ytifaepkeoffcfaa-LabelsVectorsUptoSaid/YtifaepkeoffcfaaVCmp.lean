/- The closure that labels.Vector sorts by. -/
import Derived.Test.YtifaepkeoffcfaaSStable
import Derived.Test.YtifaepkeoffcfaaLCmp
namespace Go.Proofs.Ytifaepkeoffcfaa
open Go.RowKit Go.Sort
set_option linter.unusedVariables false
set_option linter.unusedSimpArgs false
theorem vec1_any (pa pb : Option Addr) (n m ca cb fa fb : Nat) (xs ys : List Lb) (w : World) (hx : IsL 2 w (.slice pa n ca) n (cellsL xs)) (hy : IsL 2 w (.slice pb m cb) m (cellsL ys)) (hn : n ≤ 1125899906842624) (hm : m ≤ 1125899906842624) :
    Calls Try.prog 55 #[.agg #[.slice pa n ca, .float .f64 fa], .agg #[.slice pb m cb, .float .f64 fb]] w fun e w' => e = .returned (.int .i64 (L.cmps xs ys)) ∧ Below w.heap.size w w' := by
  obtain ⟨W, hW⟩ : ∃ W, W = (w.alloc (.cells #[.slice pa n ca, .float .f64 fa] 50)).alloc (.cells #[.slice pb m cb, .float .f64 fb] 50) := ⟨_, rfl⟩
  have HB := hd (show Below w.heap.size w W by rw [hW]; exact ((Below.refl _ _).alloc (Nat.le_refl _) _).alloc (by simp) _)
  have HC := hd (compare_any _ _ n m xs ys W (hx.below HB.o) (hy.below HB.o) hn hm)
  rw [hW] at HC
  clear hx hy
  go_enter Try.func55, Try.ntmps55
  go_wp2_with (go_at_call 19; refine HC.o.mono ?_; rintro e w4 ⟨rfl, hb4⟩; have H4 := hd hb4; clear hb4)
  go_ret
  exact ⟨rfl, bel HB.o (by rw [hW]; exact H4.o)⟩
/-- the elements of a vector, as they lie in memory: the set's slice, its labels, the value's bits -/
structure El where
  p : Option Addr
  c : Nat
  l : List Lb
  f : Nat
def El.sl (x : El) : Value := .slice x.p x.l.length x.c
def encV {n : Nat} (E : Fin n → El) (i : Fin n) : List Value := [(E i).sl, .float .f64 (E i).f]
/-- the set lies in memory, and not in block g -/
def El.Lies (x : El) (w : World) (g : Nat) : Prop := IsL 2 w x.sl x.l.length (cellsL x.l) ∧ (∀ a, x.p = some a → x.l ≠ [] → a.block ≠ g)
theorem El.Lies.grown {x : El} {w W : World} {g : Nat} (h : x.Lies w g) (hg : w.grownBy W (some g)) : x.Lies W g := by
  refine ⟨⟨h.1.1, ?_⟩, h.2⟩
  obtain ⟨A, c, e, r⟩ := h.1.2
  refine ⟨A, c, e, fun k hk => ?_⟩
  obtain ⟨b, off, rfl, hc⟩ := r k hk
  refine ⟨b, off, rfl, ?_⟩
  have hne : x.l ≠ [] := fun e0 => by rw [e0] at hk; simp [cellsL] at hk
  have hp : x.p = some ⟨b, off, none⟩ := by
    simp only [El.sl, Value.slice.injEq] at e
    exact e.1
  have hbg : b ≠ g := h.2 _ hp hne
  have hlt := World.block_lt_of_cell? w _ hc
  rw [← hc]
  unfold World.cell?
  rw [hg.block b hlt (fun e => hbg (by simpa using e))]
theorem cmpOK_of {n g : Nat} (E : Fin n → El) [Inhabited (Fin n)] (w0 : World) (hE : ∀ i, (E i).Lies w0 g ∧ (E i).l.length ≤ 1125899906842624) :
    CmpOK (encV E) (fun i j => L.cmps (E i).l (E j).l) w0 g := fun W hW x y =>
  vec1_any _ _ _ _ _ _ _ _ _ _ W ((hE x).1.grown hW).1 ((hE y).1.grown hW).1 (hE x).2 (hE y).2
end Go.Proofs.Ytifaepkeoffcfaa
