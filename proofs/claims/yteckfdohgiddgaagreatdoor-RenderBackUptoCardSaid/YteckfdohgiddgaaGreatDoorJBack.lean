/- weirref29.vectorOf over a tree. weirref29.matrixOf over a tree. weirref29.Back over what render.Result writes (printed by a program of mine). -/
import Derived.Test.YteckfdohgiddgaaGreatDoorJPoint
namespace Go.Proofs.YteckfdohgiddgaaGreatDoor
open Go.RowKit
set_option linter.unusedVariables false
set_option linter.unusedSimpArgs false
open RJ
theorem info_elemJ : (Tryz.prog.info? 54).map (fun i => (i.zero, i.size, i.bytes)) = some (some (.agg #[.slice none 0 0, .float .f64 0]), 2, 32) := by kernel_rfl
namespace RJ
def cellsE (E : List RS.El) : List Value := E.flatMap fun x => [x.sl, .float .f64 x.f]
theorem cellsE_app (a b : List RS.El) : cellsE (a ++ b) = cellsE a ++ cellsE b := List.flatMap_append
/-- elements made anew: the row, and each one's labels -/
structure EK (B : Nat) (W : World) (V : Value) (E : List RS.El) : Prop where
  own : W.ownsRow B 54 2 V E.length (cellsE E)
  lab : ∀ x ∈ E, W.ownsRow B 57 2 x.sl x.l.length (cellsL x.l)
theorem EK.nil (B : Nat) (W : World) : EK B W (.slice none 0 0) [] := ⟨World.ownsRow_nil _ _ _ _, by simp⟩
theorem EK.below {B : Nat} {W W' : World} {V : Value} {E : List RS.El} (h : EK B W V E) (hb : Below W.heap.size W W') : EK B W' V E := ⟨own_below h.own hb, fun x hx => own_below (h.lab x hx) hb⟩
theorem EK.ex {B r : Nat} {W W' : World} {V : Value} {E : List RS.El} (h : EK B W V E) (hx : Ex r W W') (hr : r < B) : EK B W' V E := ⟨own_ex h.own hx hr, fun x hm => own_ex (h.lab x hm) hx hr⟩
theorem EK.push {B : Nat} {W W' : World} {V V' : Value} {E : List RS.El} {x : RS.El} (h : EK B W V E) (hx : W.ownsRow B 57 2 x.sl x.l.length (cellsL x.l)) (ho : W'.ownsRow B 54 2 V' (E.length + 1) (cellsE E ++ [x.sl, .float .f64 x.f])) (hg : W.grownBy W' V.ownBlock) : EK B W' V' (E ++ [x]) := by
  refine ⟨by rw [cellsE_app, List.length_append]; simpa [cellsE] using ho, fun y hy => ?_⟩
  have hk : ∀ y : RS.El, W.ownsRow B 57 2 y.sl y.l.length (cellsL y.l) → W'.ownsRow B 57 2 y.sl y.l.length (cellsL y.l) := fun y hy => own_kept hy hg (own_type_ne hy h.own (by decide))
  rcases List.mem_append.1 hy with hy | hy
  · exact hk y (h.lab y hy)
  · rw [List.mem_singleton] at hy; subst hy; exact hk _ hx
/-- e is what is read of x -/
def ElR (x e : RS.El) : Prop := e.l = fxl x.l ∧ Sm x.f e.f
def VR (L E : List RS.El) : Prop := E.length = L.length ∧ ∀ i (h : i < L.length) (h' : i < E.length), ElR (L[i]'h) (E[i]'h')
theorem el_kids {P : Nat → Prop} {w : World} {d : Nat} {t : Int} {L : List RS.El} {k : Int} {s : ByteArray} {A A' : Option Addr} {n m n' m' : Nat} (hJ : Js P w (d + 4) (.arr (L.map (elT t))) [.int .i64 k, .string s, .slice A n m, .slice A' n' m']) :
    k = 5 ∧ s = ⟨#[]⟩ ∧ A = none ∧ n = 0 ∧ m = 0 ∧ n' = L.length ∧ ∀ i (hi : i < L.length), ∃ g A1 n1 m1 A2 n2 m2, A' = some ⟨g, 0, none⟩ ∧ P g ∧ Js P w (d + 3) (elT t L[i]) [.int .i64 6, .string ⟨#[]⟩, .slice A1 n1 m1, .slice A2 n2 m2] ∧ ∀ W : World, (∀ k, P k → W.heap[k]? = w.heap[k]?) → W.cell? ⟨g, i * 4, none⟩ = some (.int .i64 6) ∧ W.cell? ⟨g, i * 4 + 1, none⟩ = some (.string ⟨#[]⟩) ∧ W.cell? ⟨g, i * 4 + 2, none⟩ = some (.slice A1 n1 m1) ∧ W.cell? ⟨g, i * 4 + 3, none⟩ = some (.slice A2 n2 m2) := by
  obtain ⟨D, cs, e, hr, hl, ht⟩ := hJ
  simp only [List.cons.injEq, Value.int.injEq, Value.string.injEq, Value.slice.injEq, and_true, true_and] at e
  obtain ⟨rfl, rfl, ⟨rfl, rfl, rfl⟩, rfl⟩ := e
  obtain ⟨A1, m1, e1, hk⟩ := kids_cells hr hl ht
  simp only [Value.slice.injEq] at e1
  obtain ⟨rfl, rfl, rfl⟩ := e1
  refine ⟨rfl, rfl, rfl, rfl, rfl, by simp, fun i hi => ?_⟩
  obtain ⟨g, x, rfl, hP, hJx, hc⟩ := hk i (elT t L[i]) (by rw [List.getElem?_map, List.getElem?_eq_getElem hi]; rfl)
  obtain ⟨A2, m2, A3, m3, rfl, _⟩ := obj_cells hJx
  exact ⟨g, _, _, _, _, _, _, rfl, hP, hJx, fun W hW => ⟨hc W hW 0 _ rfl, hc W hW 1 _ rfl, hc W hW 2 _ rfl, hc W hW 3 _ rfl⟩⟩
end RJ
namespace RJ
abbrev cR (ty T : Int) (v : Nat) (tx : ByteArray) (V M : Value) : List Value := [.int .i64 ty, .int .i64 T, .float .f64 v, .string tx, V, M]
/-- what vectorOf and matrixOf hold: the tree's cell, the answer's, out's -/
structure VSt (W wr : World) (jc : List Value) (ty T : Int) (V M : Value) : Prop where
  b : Below W.heap.size W wr
  j : Bk wr W.heap.size 80 jc
  r : Bk wr (W.heap.size + 1) 26 (cR 0 0 0 ⟨#[]⟩ (.slice none 0 0) (.slice none 0 0))
  o : Bk wr (W.heap.size + 1 + 1) 26 (cR ty T 0 ⟨#[]⟩ V M)
theorem VSt.below {W wr wr' : World} {jc : List Value} {ty T : Int} {V M : Value} (h : VSt W wr jc ty T V M) (hb : Below wr.heap.size wr wr') : VSt W wr' jc ty T V M := ⟨bel h.b hb, h.j.below hb, h.r.below hb, h.o.below hb⟩
theorem VSt.size {W wr : World} {jc : List Value} {ty T : Int} {V M : Value} (h : VSt W wr jc ty T V M) : W.heap.size + 3 ≤ wr.heap.size := by have := h.o.lt; omega
theorem VSt.grow {W wr wr' : World} {jc : List Value} {ty T : Int} {V M : Value} (h : VSt W wr jc ty T V M) (hb : Below (W.heap.size + 3) wr wr') : VSt W wr' jc ty T V M :=
  ⟨h.b.trans (hb.mono (by omega)), (hb.block _ (by omega)).trans h.j, (hb.block _ (by omega)).trans h.r, (hb.block _ (by omega)).trans h.o⟩
theorem VSt.set (W wr : World) {jc : List Value} {ty T : Int} {V M : Value} (h : VSt W wr jc ty T V M) (k : Nat) (u : Value) (ty' T' : Int) (V' M' : Value) (e : (cR ty T 0 ⟨#[]⟩ V M).set k u = cR ty' T' 0 ⟨#[]⟩ V' M') : VSt W (wr.setCell ⟨W.heap.size + 1 + 1, k, none⟩ u) jc ty' T' V' M' :=
  ⟨h.b.setCell (p := ⟨W.heap.size + 1 + 1, k, none⟩) (by show _ ≤ W.heap.size + 1 + 1; omega) _, h.j.set_far (by show _ ≠ W.heap.size + 1 + 1; omega) _, h.r.set_far (by show _ ≠ W.heap.size + 1 + 1; omega) _, by rw [← e]; exact h.o.set k u⟩
theorem VSt.ent (W : World) (a b c d : Value) (ty : Int) : VSt W (((W.alloc (.cells #[a, b, c, d] 80)).alloc (.cells #[.int .i64 0, .int .i64 0, .float .f64 0, .string ⟨#[]⟩, .slice none 0 0, .slice none 0 0] 26)).alloc (.cells #[.int .i64 ty, .int .i64 0, .float .f64 0, .string ⟨#[]⟩, .slice none 0 0, .slice none 0 0] 26)) [a, b, c, d] ty 0 (.slice none 0 0) (.slice none 0 0) := by
  refine ⟨(((Below.refl _ _).alloc (Nat.le_refl _) _).alloc (by simp) _).alloc (by simp; omega) _, ?_, ?_, ?_⟩
  · exact ((RJ.mk_bk _ _ _ _ _).below ((Below.refl _ _).alloc (Nat.le_refl _) _)).below ((Below.refl _ _).alloc (Nat.le_refl _) _)
  · have h : Bk ((W.alloc (.cells #[a, b, c, d] 80)).alloc (.cells #[.int .i64 0, .int .i64 0, .float .f64 0, .string ⟨#[]⟩, .slice none 0 0, .slice none 0 0] 26)) (W.heap.size + 1) 26 (cR 0 0 0 ⟨#[]⟩ (.slice none 0 0) (.slice none 0 0)) := heap_alloc2_new _ _ _
    exact h.below ((Below.refl _ _).alloc (Nat.le_refl _) _)
  · have h := heap_alloc2_new (W.alloc (.cells #[a, b, c, d] 80)) (.cells #[.int .i64 0, .int .i64 0, .float .f64 0, .string ⟨#[]⟩, .slice none 0 0, .slice none 0 0] 26) (.cells #[.int .i64 ty, .int .i64 0, .float .f64 0, .string ⟨#[]⟩, .slice none 0 0, .slice none 0 0] 26)
    rw [show (W.alloc (.cells #[a, b, c, d] 80)).heap.size = W.heap.size + 1 by simp] at h
    exact h
theorem res61 {fn : Func} {q u : Tmp} {W : World} {g : Nat} {a b c d e f : Value} (hf : fn.results = #[.cell q 26, .tmp u]) (tmps : Array Value) (hp : tmps.getD q undef = .pointer (some ⟨g, 0, none⟩)) (h : Bk W g 26 [a, b, c, d, e, f]) :
    (results fn tmps).run Tryz.prog W = .ok (.tuple #[.agg #[a, b, c, d, e, f], tmps.getD u undef]) W := by
  rw [results_cell_tmp hf, hp]
  have := run_loadVar_row (P := Tryz.prog) W g 26 26 #[a, b, c, d, e, f] (0, 0) _ h Tryz.underlying26 rfl (by kernel_rfl)
  simp [asAddr, this]
theorem bk_drew {W : World} {g : Nat} {e : TypeId} {L : List Value} (h : Bk W g e L) : Bk W.drew g e L := h
theorem bk_setw {W W' : World} {g : Nat} {e : TypeId} {L L' : List Value} {k : Nat} {u : Value} (h : Bk W g e L) (hW : W' = W.setCell ⟨g, k, none⟩ u) (hL : L' = L.set k u) : Bk W' g e L' := by subst hW hL; exact h.set k u
set_option maxHeartbeats 400000 in
theorem res6_set {W : World} {g : Nat} {q0 q1 q2 q3 q4 q5 : Value} (h : Bk W g 26 [q0, q1, q2, q3, q4, q5]) (a b c d e f : Value) : ∀ W6, W6 = (((((((W.setCell ⟨g, 0, none⟩ a).setCell ⟨g, 1, none⟩ b).setCell ⟨g, 2, none⟩ c).setCell ⟨g, 3, none⟩ d).setCell ⟨g, 4, none⟩ e).setCell ⟨g, 5, none⟩ f)) → Bk W6 g 26 [a, b, c, d, e, f] := by
  intro W6 hW6
  obtain ⟨W1, h1⟩ : ∃ W1, W1 = W.setCell ⟨g, 0, none⟩ a := ⟨_, rfl⟩
  rw [← h1] at hW6
  obtain ⟨W2, h2⟩ : ∃ W2, W2 = W1.setCell ⟨g, 1, none⟩ b := ⟨_, rfl⟩
  rw [← h2] at hW6
  obtain ⟨W3, h3⟩ : ∃ W3, W3 = W2.setCell ⟨g, 2, none⟩ c := ⟨_, rfl⟩
  rw [← h3] at hW6
  obtain ⟨W4, h4⟩ : ∃ W4, W4 = W3.setCell ⟨g, 3, none⟩ d := ⟨_, rfl⟩
  rw [← h4] at hW6
  obtain ⟨W5, h5⟩ : ∃ W5, W5 = W4.setCell ⟨g, 4, none⟩ e := ⟨_, rfl⟩
  rw [← h5] at hW6
  have k1 := bk_setw (L' := [a, q1, q2, q3, q4, q5]) h h1 rfl
  have k2 := bk_setw (L' := [a, b, q2, q3, q4, q5]) k1 h2 rfl
  have k3 := bk_setw (L' := [a, b, c, q3, q4, q5]) k2 h3 rfl
  have k4 := bk_setw (L' := [a, b, c, d, q4, q5]) k3 h4 rfl
  have k5 := bk_setw (L' := [a, b, c, d, e, q5]) k4 h5 rfl
  exact bk_setw (L' := [a, b, c, d, e, f]) k5 hW6 rfl
theorem res6_ex (W : World) (g : Nat) (a b c d e f : Value) : Ex g W (((((((W.setCell ⟨g, 0, none⟩ a).setCell ⟨g, 1, none⟩ b).setCell ⟨g, 2, none⟩ c).setCell ⟨g, 3, none⟩ d).setCell ⟨g, 4, none⟩ e).setCell ⟨g, 5, none⟩ f)) :=
  (((((Ex.set g W 0 a).trans (Ex.set g _ 1 b)).trans (Ex.set g _ 2 c)).trans (Ex.set g _ 3 d)).trans (Ex.set g _ 4 e)).trans (Ex.set g _ 5 f)
theorem two_keys {P : Nat → Prop} {w : World} {d : Nat} {a b : ByteArray} {ta tb : JT} {A A' : Option Addr} {n m n' m' : Nat} (hJ : Js P w (d + 1) (.obj [a, b] [ta, tb]) [.int .i64 6, .string ⟨#[]⟩, .slice A n m, .slice A' n' m']) (hPw : ∀ k, P k → k < w.heap.size) (hab : a ≠ b) :
    (∀ W, Below w.heap.size w W → Calls Tryz.prog 36 #[.agg #[.int .i64 6, .string ⟨#[]⟩, .slice A n m, .slice A' n' m'], .string a] W fun e w' => ∃ k2 s2 A2 n2 m2 A3 n3 m3, e = .returned (.tuple #[.agg #[.int .i64 k2, .string s2, .slice A2 n2 m2, .slice A3 n3 m3], .bool true]) ∧ Js P w d ta [.int .i64 k2, .string s2, .slice A2 n2 m2, .slice A3 n3 m3] ∧ Below W.heap.size W w') ∧
    (∀ W, Below w.heap.size w W → Calls Tryz.prog 36 #[.agg #[.int .i64 6, .string ⟨#[]⟩, .slice A n m, .slice A' n' m'], .string b] W fun e w' => ∃ k2 s2 A2 n2 m2 A3 n3 m3, e = .returned (.tuple #[.agg #[.int .i64 k2, .string s2, .slice A2 n2 m2, .slice A3 n3 m3], .bool true]) ∧ Js P w d tb [.int .i64 k2, .string s2, .slice A2 n2 m2, .slice A3 n3 m3] ∧ Below W.heap.size W w') := by
  refine ⟨fun W hW => member_any hJ hPw a 0 (by simp) rfl (fun j hj hne => ?_) ta rfl (by simp) W hW, fun W hW => member_any hJ hPw b 1 (by simp) rfl (fun j hj hne => ?_) tb rfl (by simp) W hW⟩
  · obtain rfl : j = 1 := by simp at hj; omega
    exact fun e => hab e.symm
  · obtain rfl : j = 0 := by simp at hj; omega
    exact hab
theorem keys_mv {P : Nat → Prop} {w : World} {d : Nat} {ta tb : JT} {A A' : Option Addr} {n m n' m' : Nat} (hJ : Js P w (d + 1) (.obj [str bMetric, str bValue] [ta, tb]) [.int .i64 6, .string ⟨#[]⟩, .slice A n m, .slice A' n' m']) (hPw : ∀ k, P k → k < w.heap.size) :
    (∀ W, Below w.heap.size w W → Calls Tryz.prog 36 #[.agg #[.int .i64 6, .string ⟨#[]⟩, .slice A n m, .slice A' n' m'], .string ⟨#[109, 101, 116, 114, 105, 99]⟩] W fun e w' => ∃ k2 s2 A2 n2 m2 A3 n3 m3, e = .returned (.tuple #[.agg #[.int .i64 k2, .string s2, .slice A2 n2 m2, .slice A3 n3 m3], .bool true]) ∧ Js P w d ta [.int .i64 k2, .string s2, .slice A2 n2 m2, .slice A3 n3 m3] ∧ Below W.heap.size W w') ∧
    (∀ W, Below w.heap.size w W → Calls Tryz.prog 36 #[.agg #[.int .i64 6, .string ⟨#[]⟩, .slice A n m, .slice A' n' m'], .string ⟨#[118, 97, 108, 117, 101]⟩] W fun e w' => ∃ k2 s2 A2 n2 m2 A3 n3 m3, e = .returned (.tuple #[.agg #[.int .i64 k2, .string s2, .slice A2 n2 m2, .slice A3 n3 m3], .bool true]) ∧ Js P w d tb [.int .i64 k2, .string s2, .slice A2 n2 m2, .slice A3 n3 m3] ∧ Below W.heap.size W w') :=
  two_keys hJ hPw (by decide)
theorem keys_ms {P : Nat → Prop} {w : World} {d : Nat} {ta tb : JT} {A A' : Option Addr} {n m n' m' : Nat} (hJ : Js P w (d + 1) (.obj [str bMetric, str bValues] [ta, tb]) [.int .i64 6, .string ⟨#[]⟩, .slice A n m, .slice A' n' m']) (hPw : ∀ k, P k → k < w.heap.size) :
    (∀ W, Below w.heap.size w W → Calls Tryz.prog 36 #[.agg #[.int .i64 6, .string ⟨#[]⟩, .slice A n m, .slice A' n' m'], .string ⟨#[109, 101, 116, 114, 105, 99]⟩] W fun e w' => ∃ k2 s2 A2 n2 m2 A3 n3 m3, e = .returned (.tuple #[.agg #[.int .i64 k2, .string s2, .slice A2 n2 m2, .slice A3 n3 m3], .bool true]) ∧ Js P w d ta [.int .i64 k2, .string s2, .slice A2 n2 m2, .slice A3 n3 m3] ∧ Below W.heap.size W w') ∧
    (∀ W, Below w.heap.size w W → Calls Tryz.prog 36 #[.agg #[.int .i64 6, .string ⟨#[]⟩, .slice A n m, .slice A' n' m'], .string ⟨#[118, 97, 108, 117, 101, 115]⟩] W fun e w' => ∃ k2 s2 A2 n2 m2 A3 n3 m3, e = .returned (.tuple #[.agg #[.int .i64 k2, .string s2, .slice A2 n2 m2, .slice A3 n3 m3], .bool true]) ∧ Js P w d tb [.int .i64 k2, .string s2, .slice A2 n2 m2, .slice A3 n3 m3] ∧ Below W.heap.size W w') :=
  two_keys hJ hPw (by decide)
theorem keys_sd {P : Nat → Prop} {w : World} {d : Nat} {ta tb : JT} {A A' : Option Addr} {n m n' m' : Nat} (hJ : Js P w (d + 1) (.obj [str bStatus, str bData] [ta, tb]) [.int .i64 6, .string ⟨#[]⟩, .slice A n m, .slice A' n' m']) (hPw : ∀ k, P k → k < w.heap.size) :
    (∀ W, Below w.heap.size w W → Calls Tryz.prog 36 #[.agg #[.int .i64 6, .string ⟨#[]⟩, .slice A n m, .slice A' n' m'], .string ⟨#[115, 116, 97, 116, 117, 115]⟩] W fun e w' => ∃ k2 s2 A2 n2 m2 A3 n3 m3, e = .returned (.tuple #[.agg #[.int .i64 k2, .string s2, .slice A2 n2 m2, .slice A3 n3 m3], .bool true]) ∧ Js P w d ta [.int .i64 k2, .string s2, .slice A2 n2 m2, .slice A3 n3 m3] ∧ Below W.heap.size W w') ∧
    (∀ W, Below w.heap.size w W → Calls Tryz.prog 36 #[.agg #[.int .i64 6, .string ⟨#[]⟩, .slice A n m, .slice A' n' m'], .string ⟨#[100, 97, 116, 97]⟩] W fun e w' => ∃ k2 s2 A2 n2 m2 A3 n3 m3, e = .returned (.tuple #[.agg #[.int .i64 k2, .string s2, .slice A2 n2 m2, .slice A3 n3 m3], .bool true]) ∧ Js P w d tb [.int .i64 k2, .string s2, .slice A2 n2 m2, .slice A3 n3 m3] ∧ Below W.heap.size W w') :=
  two_keys hJ hPw (by decide)
theorem keys_tr {P : Nat → Prop} {w : World} {d : Nat} {ta tb : JT} {A A' : Option Addr} {n m n' m' : Nat} (hJ : Js P w (d + 1) (.obj [str bType, str bResult] [ta, tb]) [.int .i64 6, .string ⟨#[]⟩, .slice A n m, .slice A' n' m']) (hPw : ∀ k, P k → k < w.heap.size) :
    (∀ W, Below w.heap.size w W → Calls Tryz.prog 36 #[.agg #[.int .i64 6, .string ⟨#[]⟩, .slice A n m, .slice A' n' m'], .string ⟨#[114, 101, 115, 117, 108, 116, 84, 121, 112, 101]⟩] W fun e w' => ∃ k2 s2 A2 n2 m2 A3 n3 m3, e = .returned (.tuple #[.agg #[.int .i64 k2, .string s2, .slice A2 n2 m2, .slice A3 n3 m3], .bool true]) ∧ Js P w d ta [.int .i64 k2, .string s2, .slice A2 n2 m2, .slice A3 n3 m3] ∧ Below W.heap.size W w') ∧
    (∀ W, Below w.heap.size w W → Calls Tryz.prog 36 #[.agg #[.int .i64 6, .string ⟨#[]⟩, .slice A n m, .slice A' n' m'], .string ⟨#[114, 101, 115, 117, 108, 116]⟩] W fun e w' => ∃ k2 s2 A2 n2 m2 A3 n3 m3, e = .returned (.tuple #[.agg #[.int .i64 k2, .string s2, .slice A2 n2 m2, .slice A3 n3 m3], .bool true]) ∧ Js P w d tb [.int .i64 k2, .string s2, .slice A2 n2 m2, .slice A3 n3 m3] ∧ Below W.heap.size W w') :=
  two_keys hJ hPw (by decide)
end RJ
set_option maxRecDepth 100000 in
set_option maxHeartbeats 8000000 in
theorem vectorOf_any {P : Nat → Prop} {w : World} {d : Nat} {t : Int} {L : List RS.El} {k : Int} {s : ByteArray} {A A' : Option Addr} {n m n' m' : Nat} (hJ : Js P w (d + 4) (.arr (L.map (elT t))) [.int .i64 k, .string s, .slice A n m, .slice A' n' m']) (hPw : ∀ k, P k → k < w.heap.size)
    (h0 : -62167219200000 ≤ t) (h1 : t ≤ 253402300799999) (hL : ∀ x ∈ L, x.f < 18446744073709551616 ∧ (∃ s, FS.Shown x.f s) ∧ x.l.length ≤ 1099511627776) (hn : L.length ≤ 1099511627776) (W : World) (hW : Below w.heap.size w W) :
    Calls Tryz.prog 39 #[.agg #[.int .i64 k, .string s, .slice A n m, .slice A' n' m']] W fun e w' => (∃ VA vc E, e = .returned (.tuple #[.agg #[.int .i64 3, .int .i64 (if L.length = 0 then 0 else t), .float .f64 0, .string ⟨#[]⟩, .slice VA E.length vc, .slice none 0 0], .bool true]) ∧ RJ.EK W.heap.size w' (.slice VA E.length vc) E ∧ RJ.VR L E) ∧ Below W.heap.size W w' := by
  obtain ⟨rfl, rfl, rfl, rfl, rfl, rfl, hkid⟩ := el_kids hJ
  have HKD := hd hkid
  have HP := hd (show ∀ W', Below w.heap.size w W' → ∀ k, P k → W'.heap[k]? = w.heap[k]? from fun W' hb k hk => hb.block k (hPw k hk))
  have HPW := hd hPw
  have HW := hd hW
  have HL := hd hL
  have H01 := hd (And.intro h0 h1)
  obtain ⟨T0, hT0⟩ : ∃ T0 : Int, T0 = if L.length = 0 then 0 else t := ⟨_, rfl⟩
  rw [← hT0]
  have HT0 := hd hT0
  clear hJ hkid hPw hW hL h0 h1 hT0
  go_enter Tryz.func39, Tryz.ntmps39
  go_wp2_with fail
  have HV0 := hd (RJ.VSt.ent W (.int .i64 5) (.string ⟨#[]⟩) (.slice none 0 0) (.slice A' L.length m') 3)
  obtain ⟨W2, hW2⟩ : ∃ W2, W2 = (((W.alloc (.cells #[.int .i64 5, .string ⟨#[]⟩, .slice none 0 0, .slice A' L.length m'] 80)).alloc (.cells #[.int .i64 0, .int .i64 0, .float .f64 0, .string ⟨#[]⟩, .slice none 0 0, .slice none 0 0] 26)).alloc (.cells #[.int .i64 3, .int .i64 0, .float .f64 0, .string ⟨#[]⟩, .slice none 0 0, .slice none 0 0] 26)) := ⟨_, rfl⟩
  rw [← hW2] at HV0 ⊢
  clear hW2
  go_loopw [19] (fun x wr => ∃ (i : Nat) (T : Int) (VA : Option Addr) (vc : Nat) (E : List RS.El), i ≤ L.length ∧ x = .int .i64 i ∧ Hd (RJ.VSt W wr [.int .i64 5, .string ⟨#[]⟩, .slice none 0 0, .slice A' L.length m'] 3 T (.slice VA i vc) (.slice none 0 0)) ∧ Hd (RJ.EK (W.heap.size + 3) wr (.slice VA i vc) E) ∧ Hd (RJ.VR (L.take i) E ∧ T = if i = 0 then 0 else t)) (fun x _ => L.length - (intOf x).toNat)
  case atStart => exact ⟨0, 0, none, 0, [], Nat.zero_le _, rfl, HV0, hd (RJ.EK.nil _ _), hd ⟨⟨rfl, fun i h h' => by simp at h'⟩, rfl⟩⟩
  case round =>
    obtain ⟨i, T, VA, vc, E, hi, rfl, HV, HE, HR⟩ := hrel
    clear HV0
    have HBw := hd (show Below w.heap.size w wr from HW.o.trans (HV.o.b.mono HW.o.size))
    have hEl : E.length = i := by have := HR.o.1.1; rw [List.length_take] at this; omega
    by_cases hlt : i < L.length
    · have hltI : (i : Int) < (L.length : Int) := by omega
      obtain ⟨g, A1, n1, m1, A2, n2, m2, rfl, hPg, hJx, hcx⟩ := HKD.o i hlt
      obtain ⟨k0, k1, k2, k3⟩ := hcx wr (HP.o wr HBw.o)
      have HLx := hd (HL.o _ (List.getElem_mem hlt))
      obtain ⟨x, hx⟩ : ∃ x, x = L[i] := ⟨_, rfl⟩
      have HX := hd hx
      rw [← hx] at hJx HLx
      have HM := hd (keys_mv hJx HPW.o)
      have hj3 := HV.o.j.cell 3 (by simp)
      simp only [List.getElem_cons_succ, List.getElem_cons_zero] at hj3
      have HA6 := hd (HV.o.below ((Below.refl _ _).alloc (Nat.le_refl _) (.cells #[.int .i64 6, .string ⟨#[]⟩, .slice A1 n1 m1, .slice A2 n2 m2] 80)))
      have HE6 := hd (HE.o.below ((Below.refl _ _).alloc (Nat.le_refl _) (.cells #[.int .i64 6, .string ⟨#[]⟩, .slice A1 n1 m1, .slice A2 n2 m2] 80)))
      have HK6 := hd (RJ.mk_bk wr (.int .i64 6) (.string ⟨#[]⟩) (.slice A1 n1 m1) (.slice A2 n2 m2))
      clear hcx hJx hx hPg
      have HWw := hd (show ∀ W', Below W.heap.size W W' → Below w.heap.size w W' from fun W' hb => HW.o.trans (hb.mono HW.o.size))
      have HEi := hd (show ∀ W' : World, W'.ownsRow (W.heap.size + 3) 54 2 (.slice VA i vc) E.length (cellsE E) → W'.ownsRow (W.heap.size + 3) 54 2 (.slice VA i vc) i (cellsE E) from fun W' h => by rw [← hEl]; rw [← hEl] at h; exact h)
      have htz : (¬ (0 : Int) < (i : Int)) ∨ ((0 : Int) < (i : Int) ∧ t = T) := by
        have := HR.o.2
        by_cases hz : i = 0
        · left; omega
        · right; rw [if_neg hz] at this; exact ⟨by omega, this.symm⟩
      have HEL := hd hEl
      clear hEl
      rcases htz with tz | ⟨tz, rfl⟩
      all_goals go_wp2_with (first
        | (go_at_call 36; with_reducible refine (HM.o.1 _ (HWw.o _ HA6.o.b)).mono ?_; rintro e w1 ⟨q1, s1, B1, c1, d1, B2, c2, d2, rfl, hJ1, hb1⟩; have HJ1 := hd hJ1; have HA7 := hd ((HA6.o.below hb1).below ((Below.refl _ _).alloc (Nat.le_refl _) (.cells #[.int .i64 q1, .string s1, .slice B1 c1 d1, .slice B2 c2 d2] 80))); have HE7 := hd ((HE6.o.below hb1).below ((Below.refl _ _).alloc (Nat.le_refl _) (.cells #[.int .i64 q1, .string s1, .slice B1 c1 d1, .slice B2 c2 d2] 80))); have HK7 := hd ((HK6.o.below hb1).below ((Below.refl _ _).alloc (Nat.le_refl _) (.cells #[.int .i64 q1, .string s1, .slice B1 c1 d1, .slice B2 c2 d2] 80))); have HM7 := hd (RJ.mk_bk w1 (.int .i64 q1) (.string s1) (.slice B1 c1 d1) (.slice B2 c2 d2)); have e0 := HK7.o.cell 0 (by simp); have e1 := HK7.o.cell 1 (by simp); have e2 := HK7.o.cell 2 (by simp); have e3 := HK7.o.cell 3 (by simp); simp only [List.getElem_cons_succ, List.getElem_cons_zero] at e0 e1 e2 e3; clear hJ1 hb1 k0 k1 k2 k3 hj3)
        | (go_at_call 36; with_reducible refine (HM.o.2 _ (HWw.o _ HA7.o.b)).mono ?_; rintro e w2 ⟨q2, s2, B3, c3, d3, B4, c4, d4, rfl, hJ2, hb2⟩; have HJ2 := hd hJ2; have HA9 := hd ((HA7.o.below hb2).below ((Below.refl _ _).alloc (Nat.le_refl _) (.cells #[.int .i64 q2, .string s2, .slice B3 c3 d3, .slice B4 c4 d4] 80))); have HE9 := hd ((HE7.o.below hb2).below ((Below.refl _ _).alloc (Nat.le_refl _) (.cells #[.int .i64 q2, .string s2, .slice B3 c3 d3, .slice B4 c4 d4] 80))); have HM9 := hd ((HM7.o.below hb2).below ((Below.refl _ _).alloc (Nat.le_refl _) (.cells #[.int .i64 q2, .string s2, .slice B3 c3 d3, .slice B4 c4 d4] 80))); have HK9 := hd (RJ.mk_bk w2 (.int .i64 q2) (.string s2) (.slice B3 c3 d3) (.slice B4 c4 d4)); clear e0 e1 e2 e3 hJ2 hb2; have e0 := HM9.o.cell 0 (by simp); have e1 := HM9.o.cell 1 (by simp); have e2 := HM9.o.cell 2 (by simp); have e3 := HM9.o.cell 3 (by simp); simp only [List.getElem_cons_succ, List.getElem_cons_zero] at e0 e1 e2 e3)
        | (go_at_call 82; refine (labelsOf_any HJ1.o HPW.o HLx.o.2.2 _ (HWw.o _ HA9.o.b)).mono ?_; rintro e w3 ⟨v3, rfl, ho3, hb3⟩; obtain ⟨LA, lc, rfl⟩ := own_shape ho3; have HO3 := hd (own_mono ho3 HA9.o.size); have HA10 := hd (HA9.o.below hb3); have HE10 := hd (HE9.o.below hb3); have HK10 := hd (HK9.o.below hb3); clear e0 e1 e2 e3 ho3 hb3; have e0 := HK10.o.cell 0 (by simp); have e1 := HK10.o.cell 1 (by simp); have e2 := HK10.o.cell 2 (by simp); have e3 := HK10.o.cell 3 (by simp); simp only [List.getElem_cons_succ, List.getElem_cons_zero] at e0 e1 e2 e3)
        | (go_at_call 37; refine (pointOf_any HJ2.o HPW.o H01.o.1 H01.o.2 HLx.o.1 HLx.o.2.1 _ (HWw.o _ HA10.o.b)).mono ?_; rintro e w4 ⟨⟨G, rfl, hsm⟩, hb4⟩; have HSM := hd hsm; have hz4 := (HA10.o.below hb4).size; have hn1 : ¬ (w4.heap.size = W.heap.size + 1 + 1) := (by omega); have hn2 : ¬ (W.heap.size + 1 + 1 = w4.heap.size) := (by omega); have HA11 := hd ((HA10.o.below hb4).below ((Below.refl _ _).alloc (Nat.le_refl _) (.cells #[.int .i64 t, .float .f64 G, .bool false] 77))); have HE11 := hd ((HE10.o.below hb4).below ((Below.refl _ _).alloc (Nat.le_refl _) (.cells #[.int .i64 t, .float .f64 G, .bool false] 77))); have HO11 := hd (own_below (own_below HO3.o hb4) ((Below.refl _ _).alloc (Nat.le_refl _) (.cells #[.int .i64 t, .float .f64 G, .bool false] 77))); clear e0 e1 e2 e3 hsm hb4; have f1 := HA11.o.o.frozen 1; have o1 := HA11.o.o.cell 1 (by simp); have o4 := HA11.o.o.cell 4 (by simp); simp only [List.getElem_cons_succ, List.getElem_cons_zero] at o1 o4)
        | (at_builtin; refine wpList_app_litH 23 54 (.agg #[.slice none 0 0, .float .f64 0]) 2 32 Tryz.underlying23 info_elemJ rfl (by decide) rfl _ _ rfl (W.heap.size + 3) (.slice VA i vc) i (cellsE E) _ #[.slice LA x.l.length lc, .float .f64 G] 1 (w4.heap.size + 1) (by simp) rfl rfl (own_ex (HEi.o _ HE11.o.own) (Ex.set (W.heap.size + 1 + 1) _ 1 (.int .i64 t)) (by omega)) rfl (by simp [Value.oneCell']) (by omega) (by omega) (by have := HA11.o.size; simp at this ⊢; omega) ?_))
      all_goals
        intro V' w6 ho hg
        obtain ⟨VA', vc', rfl⟩ := own_shape ho
        have HA12 := hd (RJ.VSt.set _ _ HA11.o 1 (.int .i64 t) 3 t (.slice VA i vc) (.slice none 0 0) rfl)
        have hxx := Ex.set (W.heap.size + 1 + 1) (w4.alloc (.cells #[.int .i64 t, .float .f64 G, .bool false] 77)) 1 (.int .i64 t)
        have HE12 := hd (HE11.o.ex hxx (by omega))
        have HO12 := hd (own_ex HO11.o hxx (by omega))
        have hB6 : Below (W.heap.size + 3) _ w6 := (Below.refl (W.heap.size + 3) _).grown hg HA12.o.size (fun k hk => (HE12.o.own.lt k hk).1)
        have HA13 := hd (HA12.o.grow hB6)
        have HEW := hd (show RJ.EK (W.heap.size + 3) w6 (.slice VA' (i + 1) vc') (E ++ [⟨LA, lc, RJ.fxl x.l, G⟩]) from HE12.o.push (x := ⟨LA, lc, RJ.fxl x.l, G⟩) (by show World.ownsRow _ _ _ _ (.slice LA (RJ.fxl x.l).length lc) (RJ.fxl x.l).length _; rw [RJ.fxl_len]; exact HO12.o) (by rw [HEL.o]; show World.ownsRow _ _ _ _ _ _ (RJ.cellsE E ++ [.slice LA (RJ.fxl x.l).length lc, .float .f64 G]); rw [RJ.fxl_len]; exact ho) hg)
        clear hxx hB6 ho hg f1 o1 o4 hn1 hn2 hz4
        have f4 := HA13.o.o.frozen 4
        have p4 := HA13.o.o.cell 4 (by simp)
        simp only [List.getElem_cons_succ, List.getElem_cons_zero] at p4
        have HA14 := hd (RJ.VSt.set _ _ HA13.o 4 (.slice VA' (i + 1) vc') 3 t (.slice VA' (i + 1) vc') (.slice none 0 0) rfl)
        have HE14 := hd (HEW.o.ex (Ex.set (W.heap.size + 1 + 1) w6 4 (.slice VA' (i + 1) vc')) (by omega))
        have HR14 := hd (show RJ.VR (L.take (i + 1)) (E ++ [⟨LA, lc, RJ.fxl x.l, G⟩]) from by
          refine ⟨by rw [List.length_append, HEL.o, List.length_take]; simp; omega, fun j h h' => ?_⟩
          by_cases hj : j < i
          · have h1 := HR.o.1.2 j (by rw [List.length_take]; omega) (by rw [HEL.o]; exact hj)
            rw [List.getElem_append_left (by rw [HEL.o]; exact hj), List.getElem_take]
            rw [List.getElem_take] at h1
            exact h1
          · obtain rfl : j = i := by rw [List.length_take] at h; omega
            rw [List.getElem_append_right (by rw [HEL.o]; exact Nat.le_refl _), List.getElem_take, ← HX.o]
            simp [HEL.o]
            exact ⟨rfl, HSM.o⟩)
        go_wp2
        go_roundw
        case rel => exact ⟨i + 1, t, VA', vc', _, by omega, by go_num, HA14, HE14, hd ⟨HR14.o, by rw [if_neg (by omega)]⟩⟩
        case measure => simp [intOf]; omega
    · obtain rfl : i = L.length := by omega
      have j0 := HV.o.j.cell 0 (by simp)
      have f1 := HV.o.r.frozen
      have r0 := HV.o.r.cell 0 (by simp)
      have r1 := HV.o.r.cell 1 (by simp)
      have r2 := HV.o.r.cell 2 (by simp)
      have r3 := HV.o.r.cell 3 (by simp)
      have r4 := HV.o.r.cell 4 (by simp)
      have r5 := HV.o.r.cell 5 (by simp)
      have o0 := HV.o.o.cell 0 (by simp)
      have o1 := HV.o.o.cell 1 (by simp)
      have o2 := HV.o.o.cell 2 (by simp)
      have o3 := HV.o.o.cell 3 (by simp)
      have o4 := HV.o.o.cell 4 (by simp)
      have o5 := HV.o.o.cell 5 (by simp)
      simp only [List.getElem_cons_succ, List.getElem_cons_zero] at j0 r0 r1 r2 r3 r4 r5 o0 o1 o2 o3 o4 o5
      have hTT : T = T0 := by rw [HT0.o]; exact HR.o.2
      subst hTT
      go_wp2_with fail
      go_region
      go_wp2_with fail
      have HZ := hd (RJ.bk_drew (RJ.res6_set HV.o.r (.int .i64 3) (.int .i64 T) (.float .f64 0) (.string ⟨#[]⟩) (.slice VA L.length vc) (.slice none 0 0) _ rfl))
      have HZ2 := hd (RJ.res6_ex wr (W.heap.size + 1) (.int .i64 3) (.int .i64 T) (.float .f64 0) (.string ⟨#[]⟩) (.slice VA L.length vc) (.slice none 0 0))
      have hb0 : Below W.heap.size W _ := HV.o.b.trans (HZ2.o.below (Nat.le_succ _) HV.o.b.size)
      have HE9 := HE.o.ex HZ2.o (by omega)
      have HE10 : RJ.EK W.heap.size _ (.slice VA L.length vc) E := ⟨own_mono HE9.own (by omega), fun y hy => own_mono (HE9.lab y hy) (by omega)⟩
      clear HE9 HZ2
      revert HE10 hb0 HZ
      generalize (((((wr.setCell ⟨W.heap.size + 1, 0, none⟩ (.int .i64 3)).setCell ⟨W.heap.size + 1, 1, none⟩ (.int .i64 T)).setCell ⟨W.heap.size + 1, 2, none⟩ (.float .f64 0)).setCell ⟨W.heap.size + 1, 3, none⟩ (.string ⟨#[]⟩)).setCell ⟨W.heap.size + 1, 4, none⟩ (.slice VA L.length vc)).setCell ⟨W.heap.size + 1, 5, none⟩ (.slice none 0 0) = X
      intro HZ hb0 HE10
      refine bodyPost_ret (RJ.res61 rfl _ rfl HZ.o) rfl ?_
      rw [List.take_length] at HR
      refine ⟨⟨VA, vc, E, by rw [hEl]; rfl, ?_, HR.o.1⟩, hb0.drew⟩
      rw [hEl]
      exact ⟨HE10.own, HE10.lab⟩
end Go.Proofs.YteckfdohgiddgaaGreatDoor
namespace Go.Proofs.YteckfdohgiddgaaGreatDoor
open Go.RowKit
set_option linter.unusedVariables false
set_option linter.unusedSimpArgs false
open RJ
theorem info_sampleJ : (Tryz.prog.info? 77).map (fun i => (i.zero, i.size, i.bytes)) = some (some (.agg #[.int .i64 0, .float .f64 0, .bool false]), 3, 24) := by kernel_rfl
theorem info_seriesJ : (Tryz.prog.info? 72).map (fun i => (i.zero, i.size, i.bytes)) = some (some (.agg #[.slice none 0 0, .slice none 0 0]), 2, 48) := by kernel_rfl
namespace RJ
def cellsP (l : List RS.Pt) : List Value := l.flatMap fun x => [.int .i64 x.t, .float .f64 x.f, .bool x.st]
theorem cellsP_app (a b : List RS.Pt) : cellsP (a ++ b) = cellsP a ++ cellsP b := List.flatMap_append
def cellsR (l : List RS.Sr) : List Value := l.flatMap fun x => [x.sl, x.sp]
theorem cellsR_app (a b : List RS.Sr) : cellsR (a ++ b) = cellsR a ++ cellsR b := List.flatMap_append
/-- series made anew -/
structure SK (B : Nat) (W : World) (V : Value) (E : List RS.Sr) : Prop where
  own : W.ownsRow B 72 2 V E.length (cellsR E)
  lab : ∀ x ∈ E, W.ownsRow B 57 2 x.sl x.l.length (cellsL x.l)
  pts : ∀ x ∈ E, W.ownsRow B 77 3 x.sp x.ps.length (cellsP x.ps)
theorem SK.nil (B : Nat) (W : World) : SK B W (.slice none 0 0) [] := ⟨World.ownsRow_nil _ _ _ _, by simp, by simp⟩
theorem SK.below {B : Nat} {W W' : World} {V : Value} {E : List RS.Sr} (h : SK B W V E) (hb : Below W.heap.size W W') : SK B W' V E := ⟨own_below h.own hb, fun x hx => own_below (h.lab x hx) hb, fun x hx => own_below (h.pts x hx) hb⟩
theorem SK.ex {B r : Nat} {W W' : World} {V : Value} {E : List RS.Sr} (h : SK B W V E) (hx : Ex r W W') (hr : r < B) : SK B W' V E := ⟨own_ex h.own hx hr, fun x hm => own_ex (h.lab x hm) hx hr, fun x hm => own_ex (h.pts x hm) hx hr⟩
theorem SK.push {B : Nat} {W W' : World} {V V' : Value} {E : List RS.Sr} {x : RS.Sr} (h : SK B W V E) (hx : W.ownsRow B 57 2 x.sl x.l.length (cellsL x.l)) (hp : W.ownsRow B 77 3 x.sp x.ps.length (cellsP x.ps)) (ho : W'.ownsRow B 72 2 V' (E.length + 1) (cellsR E ++ [x.sl, x.sp])) (hg : W.grownBy W' V.ownBlock) : SK B W' V' (E ++ [x]) := by
  refine ⟨by rw [cellsR_app, List.length_append]; simpa [cellsR] using ho, fun y hy => ?_, fun y hy => ?_⟩
  · have hk : ∀ y : RS.Sr, W.ownsRow B 57 2 y.sl y.l.length (cellsL y.l) → W'.ownsRow B 57 2 y.sl y.l.length (cellsL y.l) := fun y hy => own_kept hy hg (own_type_ne hy h.own (by decide))
    rcases List.mem_append.1 hy with hy | hy
    · exact hk y (h.lab y hy)
    · rw [List.mem_singleton] at hy; subst hy; exact hk _ hx
  · have hk : ∀ y : RS.Sr, W.ownsRow B 77 3 y.sp y.ps.length (cellsP y.ps) → W'.ownsRow B 77 3 y.sp y.ps.length (cellsP y.ps) := fun y hy => own_kept hy hg (own_type_ne hy h.own (by decide))
    rcases List.mem_append.1 hy with hy | hy
    · exact hk y (h.pts y hy)
    · rw [List.mem_singleton] at hy; subst hy; exact hk _ hp
def PtR (x e : RS.Pt) : Prop := e.t = x.t ∧ e.st = false ∧ Sm x.f e.f
def PR (L E : List RS.Pt) : Prop := E.length = L.length ∧ ∀ i (h : i < L.length) (h' : i < E.length), PtR (L[i]'h) (E[i]'h')
def SrR (x e : RS.Sr) : Prop := e.l = fxl x.l ∧ PR x.ps e.ps
def MR (L E : List RS.Sr) : Prop := E.length = L.length ∧ ∀ i (h : i < L.length) (h' : i < E.length), SrR (L[i]'h) (E[i]'h')
/-- the parts of a list, each an object or a list -/
theorem arr_kids {P : Nat → Prop} {w : World} {d : Nat} {l : List JT} {k : Int} {s : ByteArray} {A A' : Option Addr} {n m n' m' : Nat} (hJ : Js P w (d + 1) (.arr l) [.int .i64 k, .string s, .slice A n m, .slice A' n' m']) :
    k = 5 ∧ s = ⟨#[]⟩ ∧ A = none ∧ n = 0 ∧ m = 0 ∧ n' = l.length ∧ ∀ i (hi : i < l.length), ∃ g k s A1 n1 m1 A2 n2 m2, A' = some ⟨g, 0, none⟩ ∧ P g ∧ Js P w d l[i] [.int .i64 k, .string s, .slice A1 n1 m1, .slice A2 n2 m2] ∧ ∀ W : World, (∀ k, P k → W.heap[k]? = w.heap[k]?) → W.cell? ⟨g, i * 4, none⟩ = some (.int .i64 k) ∧ W.cell? ⟨g, i * 4 + 1, none⟩ = some (.string s) ∧ W.cell? ⟨g, i * 4 + 2, none⟩ = some (.slice A1 n1 m1) ∧ W.cell? ⟨g, i * 4 + 3, none⟩ = some (.slice A2 n2 m2) := by
  obtain ⟨D, cs, e, hr, hl, ht⟩ := hJ
  simp only [List.cons.injEq, Value.int.injEq, Value.string.injEq, Value.slice.injEq, and_true, true_and] at e
  obtain ⟨rfl, rfl, ⟨rfl, rfl, rfl⟩, rfl⟩ := e
  obtain ⟨A1, m1, e1, hk⟩ := kids_cells hr hl ht
  simp only [Value.slice.injEq] at e1
  obtain ⟨rfl, rfl, rfl⟩ := e1
  refine ⟨rfl, rfl, rfl, rfl, rfl, rfl, fun i hi => ?_⟩
  obtain ⟨g, x, rfl, hP, hJx, hc⟩ := hk i l[i] (List.getElem?_eq_getElem hi)
  obtain ⟨k, s, A2, n2, m2, A3, n3, m3, rfl⟩ := hJx.shape
  exact ⟨g, _, _, _, _, _, _, _, _, rfl, hP, hJx, fun W hW => ⟨hc W hW 0 _ rfl, hc W hW 1 _ rfl, hc W hW 2 _ rfl, hc W hW 3 _ rfl⟩⟩
end RJ
set_option maxRecDepth 100000 in
set_option maxHeartbeats 8000000 in
theorem matrixOf_any {P : Nat → Prop} {w : World} {d : Nat} {L : List RS.Sr} {k : Int} {s : ByteArray} {A A' : Option Addr} {n m n' m' : Nat} (hJ : Js P w (d + 5) (.arr (L.map seT)) [.int .i64 k, .string s, .slice A n m, .slice A' n' m']) (hPw : ∀ k, P k → k < w.heap.size)
    (hL : ∀ x ∈ L, x.l.length ≤ 1099511627776 ∧ x.ps.length ≤ 1099511627776 ∧ ∀ p ∈ x.ps, -62167219200000 ≤ p.t ∧ p.t ≤ 253402300799999 ∧ p.f < 18446744073709551616 ∧ ∃ s, FS.Shown p.f s) (hn : L.length ≤ 1099511627776) (W : World) (hW : Below w.heap.size w W) :
    Calls Tryz.prog 40 #[.agg #[.int .i64 k, .string s, .slice A n m, .slice A' n' m']] W fun e w' => (∃ VA vc E, e = .returned (.tuple #[.agg #[.int .i64 4, .int .i64 0, .float .f64 0, .string ⟨#[]⟩, .slice none 0 0, .slice VA E.length vc], .bool true]) ∧ RJ.SK W.heap.size w' (.slice VA E.length vc) E ∧ RJ.MR L E) ∧ Below W.heap.size W w' := by
  obtain ⟨rfl, rfl, rfl, rfl, rfl, hn', hkid⟩ := arr_kids hJ
  rw [List.length_map] at hn'
  subst hn'
  have HKD := hd (show ∀ i (hi : i < L.length), ∃ g A1 n1 m1 A2 n2 m2, A' = some ⟨g, 0, none⟩ ∧ Js P w (d + 4) (seT L[i]) [.int .i64 6, .string ⟨#[]⟩, .slice A1 n1 m1, .slice A2 n2 m2] ∧ ∀ W : World, (∀ k, P k → W.heap[k]? = w.heap[k]?) → W.cell? ⟨g, i * 4, none⟩ = some (.int .i64 6) ∧ W.cell? ⟨g, i * 4 + 1, none⟩ = some (.string ⟨#[]⟩) ∧ W.cell? ⟨g, i * 4 + 2, none⟩ = some (.slice A1 n1 m1) ∧ W.cell? ⟨g, i * 4 + 3, none⟩ = some (.slice A2 n2 m2) from fun i hi => by
    obtain ⟨g, k, s, A1, n1, m1, A2, n2, m2, e, _, hj, hc⟩ := hkid i (by simpa using hi)
    rw [List.getElem_map] at hj
    obtain ⟨A3, m3, A4, m4, e2, _⟩ := obj_cells hj
    simp only [List.cons.injEq, Value.int.injEq, Value.string.injEq, Value.slice.injEq, and_true, true_and] at e2
    obtain ⟨rfl, rfl, _, _⟩ := e2
    exact ⟨g, A1, n1, m1, A2, n2, m2, e, hj, hc⟩)
  have HP := hd (show ∀ W', Below w.heap.size w W' → ∀ k, P k → W'.heap[k]? = w.heap[k]? from fun W' hb k hk => hb.block k (hPw k hk))
  have HPW := hd hPw
  have HW := hd hW
  have HL := hd hL
  have HWw := hd (show ∀ W', Below W.heap.size W W' → Below w.heap.size w W' from fun W' hb => HW.o.trans (hb.mono HW.o.size))
  clear hJ hkid hPw hW hL
  go_enter Tryz.func40, Tryz.ntmps40
  go_wp2_with fail
  have HV0 := hd (RJ.VSt.ent W (.int .i64 5) (.string ⟨#[]⟩) (.slice none 0 0) (.slice A' L.length m') 4)
  obtain ⟨W2, hW2⟩ : ∃ W2, W2 = (((W.alloc (.cells #[.int .i64 5, .string ⟨#[]⟩, .slice none 0 0, .slice A' L.length m'] 80)).alloc (.cells #[.int .i64 0, .int .i64 0, .float .f64 0, .string ⟨#[]⟩, .slice none 0 0, .slice none 0 0] 26)).alloc (.cells #[.int .i64 4, .int .i64 0, .float .f64 0, .string ⟨#[]⟩, .slice none 0 0, .slice none 0 0] 26)) := ⟨_, rfl⟩
  rw [← hW2] at HV0 ⊢
  clear hW2
  go_loopw [22] (fun x wr => ∃ (i : Nat) (VA : Option Addr) (vc : Nat) (E : List RS.Sr), i ≤ L.length ∧ x = .int .i64 i ∧ Hd (RJ.VSt W wr [.int .i64 5, .string ⟨#[]⟩, .slice none 0 0, .slice A' L.length m'] 4 0 (.slice none 0 0) (.slice VA i vc)) ∧ Hd (RJ.SK (W.heap.size + 3) wr (.slice VA i vc) E) ∧ Hd (RJ.MR (L.take i) E)) (fun x _ => L.length - (intOf x).toNat)
  case atStart => exact ⟨0, none, 0, [], Nat.zero_le _, rfl, HV0, hd (RJ.SK.nil _ _), hd ⟨rfl, fun i h h' => by simp at h'⟩⟩
  case round =>
    obtain ⟨i, VA, vc, E, hi, rfl, HV, HE, HR⟩ := hrel
    clear HV0
    obtain ⟨wo, rfl⟩ : ∃ wo : World, wo = wr := ⟨_, rfl⟩
    have hEl : E.length = i := by have := HR.o.1; rw [List.length_take] at this; omega
    by_cases hlt : i < L.length
    · have hltI : (i : Int) < (L.length : Int) := by omega
      obtain ⟨g, A1, n1, m1, A2, n2, m2, rfl, hJx, hcx⟩ := HKD.o i hlt
      obtain ⟨k0, k1, k2, k3⟩ := hcx wo (HP.o wo (HWw.o _ HV.o.b))
      have HLx := hd (HL.o _ (List.getElem_mem hlt))
      obtain ⟨x, hx⟩ : ∃ x, x = L[i] := ⟨_, rfl⟩
      have HX := hd hx
      rw [← hx] at hJx HLx
      have HM := hd (keys_ms hJx HPW.o)
      have hj3 := HV.o.j.cell 3 (by simp)
      simp only [List.getElem_cons_succ, List.getElem_cons_zero] at hj3
      have HA6 := hd (HV.o.below ((Below.refl _ _).alloc (Nat.le_refl _) (.cells #[.int .i64 6, .string ⟨#[]⟩, .slice A1 n1 m1, .slice A2 n2 m2] 80)))
      have HE6 := hd (HE.o.below ((Below.refl _ _).alloc (Nat.le_refl _) (.cells #[.int .i64 6, .string ⟨#[]⟩, .slice A1 n1 m1, .slice A2 n2 m2] 80)))
      have HK6 := hd (RJ.mk_bk wo (.int .i64 6) (.string ⟨#[]⟩) (.slice A1 n1 m1) (.slice A2 n2 m2))
      clear hcx hJx hx
      have HEi := hd (show ∀ W' : World, W'.ownsRow (W.heap.size + 3) 72 2 (.slice VA i vc) E.length (cellsR E) → W'.ownsRow (W.heap.size + 3) 72 2 (.slice VA i vc) i (cellsR E) from fun W' h => by rw [← hEl]; rw [← hEl] at h; exact h)
      have HEL := hd hEl
      clear hEl
      go_wp2_with (first
        | (go_at_call 36; with_reducible refine (HM.o.1 _ (HWw.o _ HA6.o.b)).mono ?_; rintro e w1 ⟨q1, s1, B1, c1, d1, B2, c2, d2, rfl, hJ1, hb1⟩; have HJ1 := hd hJ1; have HA7 := hd ((HA6.o.below hb1).below ((Below.refl _ _).alloc (Nat.le_refl _) (.cells #[.int .i64 q1, .string s1, .slice B1 c1 d1, .slice B2 c2 d2] 80))); have HE7 := hd ((HE6.o.below hb1).below ((Below.refl _ _).alloc (Nat.le_refl _) (.cells #[.int .i64 q1, .string s1, .slice B1 c1 d1, .slice B2 c2 d2] 80))); have HK7 := hd ((HK6.o.below hb1).below ((Below.refl _ _).alloc (Nat.le_refl _) (.cells #[.int .i64 q1, .string s1, .slice B1 c1 d1, .slice B2 c2 d2] 80))); have HM7 := hd (RJ.mk_bk w1 (.int .i64 q1) (.string s1) (.slice B1 c1 d1) (.slice B2 c2 d2)); have e0 := HK7.o.cell 0 (by simp); have e1 := HK7.o.cell 1 (by simp); have e2 := HK7.o.cell 2 (by simp); have e3 := HK7.o.cell 3 (by simp); simp only [List.getElem_cons_succ, List.getElem_cons_zero] at e0 e1 e2 e3; clear hJ1 hb1 k0 k1 k2 k3 hj3)
        | (go_at_call 36; with_reducible refine (HM.o.2 _ (HWw.o _ HA7.o.b)).mono ?_; rintro e w2 ⟨q2, s2, B3, c3, d3, B4, c4, d4, rfl, hJ2, hb2⟩; obtain ⟨rfl, rfl, rfl, rfl, rfl, hc4, hk2⟩ := arr_kids hJ2; rw [List.length_map] at hc4; subst hc4; have HK2 := hd hk2; have HA9 := hd ((HA7.o.below hb2).below ((Below.refl _ _).alloc (Nat.le_refl _) (.cells #[.int .i64 5, .string ⟨#[]⟩, .slice none 0 0, .slice B4 x.ps.length d4] 80))); have HE9 := hd ((HE7.o.below hb2).below ((Below.refl _ _).alloc (Nat.le_refl _) (.cells #[.int .i64 5, .string ⟨#[]⟩, .slice none 0 0, .slice B4 x.ps.length d4] 80))); have HM9 := hd ((HM7.o.below hb2).below ((Below.refl _ _).alloc (Nat.le_refl _) (.cells #[.int .i64 5, .string ⟨#[]⟩, .slice none 0 0, .slice B4 x.ps.length d4] 80))); have HK9 := hd (RJ.mk_bk w2 (.int .i64 5) (.string ⟨#[]⟩) (.slice none 0 0) (.slice B4 x.ps.length d4)); clear e0 e1 e2 e3 hJ2 hb2 hk2; have e0 := HM9.o.cell 0 (by simp); have e1 := HM9.o.cell 1 (by simp); have e2 := HM9.o.cell 2 (by simp); have e3 := HM9.o.cell 3 (by simp); simp only [List.getElem_cons_succ, List.getElem_cons_zero] at e0 e1 e2 e3)
        | (go_at_call 82; refine (labelsOf_any HJ1.o HPW.o HLx.o.1 _ (HWw.o _ HA9.o.b)).mono ?_; rintro e w3 ⟨v3, rfl, ho3, hb3⟩; obtain ⟨LA, lc, rfl⟩ := own_shape ho3; have HO3 := hd (own_mono ho3 HA9.o.size); have HA10 := hd (HA9.o.below hb3); have HE10 := hd (HE9.o.below hb3); have HK10 := hd (HK9.o.below hb3); clear e0 e1 e2 e3 ho3 hb3; have e0 := HK10.o.cell 0 (by simp); have e3 := fun o : Obj => (HK10.o.below ((Below.refl _ _).alloc (Nat.le_refl _) o)).cell 3 (by simp); simp only [List.getElem_cons_succ, List.getElem_cons_zero] at e0 e3))
      have HK2c := hd (show ∀ j (hj : j < x.ps.length), ∃ g D5 x5 m5, B4 = some ⟨g, 0, none⟩ ∧ Js P w (d + 2) (ptT (x.ps[j]).t (x.ps[j]).f) [.int .i64 5, .string ⟨#[]⟩, .slice none 0 0, .slice D5 x5 m5] ∧ ∀ W : World, (∀ k, P k → W.heap[k]? = w.heap[k]?) → W.cell? ⟨g, j * 4, none⟩ = some (.int .i64 5) ∧ W.cell? ⟨g, j * 4 + 1, none⟩ = some (.string ⟨#[]⟩) ∧ W.cell? ⟨g, j * 4 + 2, none⟩ = some (.slice none 0 0) ∧ W.cell? ⟨g, j * 4 + 3, none⟩ = some (.slice D5 x5 m5) from fun j hj => by
        obtain ⟨g, k, s, A1, n1, m1, A2, n2, m2, e, _, hj2, hc⟩ := HK2.o j (by simpa using hj)
        rw [List.getElem_map] at hj2
        obtain ⟨rfl, rfl, rfl, rfl, rfl, _, _⟩ := arr_kids hj2
        exact ⟨g, A2, n2, m2, e, hj2, hc⟩)
      have HPL := hd HLx.o.2.2
      have hpn := HLx.o.2.1
      have HSB : Hd (Bk (w3.alloc (.cells #[.slice LA x.l.length lc, .slice none 0 0] 72)) w3.heap.size 72 [.slice LA x.l.length lc, .slice none 0 0]) := hd (heap_alloc_new _ _)
      have HBI : Hd (Below w3.heap.size w3 (w3.alloc (.cells #[.slice LA x.l.length lc, .slice none 0 0] 72))) := hd ((Below.refl _ _).alloc (Nat.le_refl _) _)
      obtain ⟨wi, hwi⟩ : ∃ wi, wi = w3.alloc (.cells #[.slice LA x.l.length lc, .slice none 0 0] 72) := ⟨_, rfl⟩
      rw [← hwi] at HSB HBI ⊢
      clear hwi e0 e3 HK2
      go_loopw [62] (fun y wr => ∃ (j : Nat) (pA : Option Addr) (pc : Nat) (Q : List RS.Pt), j ≤ x.ps.length ∧ y = .int .i64 j ∧ Hd (Below w3.heap.size w3 wr) ∧ Hd (Bk wr w3.heap.size 72 [.slice LA x.l.length lc, .slice pA j pc]) ∧ Hd (wr.ownsRow (w3.heap.size + 1) 77 3 (.slice pA j pc) j (cellsP Q)) ∧ Hd (RJ.PR (x.ps.take j) Q)) (fun y _ => x.ps.length - (intOf y).toNat)
      case atStart => exact ⟨0, none, 0, [], Nat.zero_le _, rfl, HBI, HSB, hd (World.ownsRow_nil _ _ _ _), hd ⟨rfl, fun i h h' => by simp at h'⟩⟩
      case round =>
        obtain ⟨j, pA, pc, Q, hj, rfl, HBR, HSR, HOR, HPR⟩ := hrel
        clear HSB HBI
        by_cases hjl : j < x.ps.length
        · have hjI : (j : Int) < (x.ps.length : Int) := by omega
          obtain ⟨g2, D5, x5, m5, rfl, hJ5, hc5⟩ := HK2c.o j hjl
          have HWR := hd (show Below W.heap.size W wr from HA10.o.b.trans (HBR.o.mono HA10.o.b.size))
          obtain ⟨r0, r1, r2, r3⟩ := hc5 wr (HP.o wr (HWw.o _ HWR.o))
          have HPP := hd (HPL.o _ (List.getElem_mem hjl))
          obtain ⟨p, hp⟩ : ∃ p, p = x.ps[j] := ⟨_, rfl⟩
          have HPX := hd hp
          rw [← hp] at HPP hJ5
          have HJ5 := hd hJ5
          have HR15 := hd (HWR.o.alloc HWR.o.size (.cells #[.int .i64 5, .string ⟨#[]⟩, .slice none 0 0, .slice D5 x5 m5] 80))
          have HS15 := hd (HSR.o.below ((Below.refl _ _).alloc (Nat.le_refl _) (.cells #[.int .i64 5, .string ⟨#[]⟩, .slice none 0 0, .slice D5 x5 m5] 80)))
          have HO15 := hd (own_below HOR.o ((Below.refl _ _).alloc (Nat.le_refl _) (.cells #[.int .i64 5, .string ⟨#[]⟩, .slice none 0 0, .slice D5 x5 m5] 80)))
          have HB15 := hd (HBR.o.alloc HBR.o.size (.cells #[.int .i64 5, .string ⟨#[]⟩, .slice none 0 0, .slice D5 x5 m5] 80))
          clear hJ5 hc5 hp
          go_wp2_with (first
            | (go_at_call 37; refine (pointOf_any HJ5.o HPW.o HPP.o.1 HPP.o.2.1 HPP.o.2.2.1 HPP.o.2.2.2 _ (HWw.o _ HR15.o)).mono ?_; rintro e w4 ⟨⟨G, rfl, hsm⟩, hb4⟩; have HSM := hd hsm; have HS16 := hd ((HS15.o.below hb4).below ((Below.refl _ _).alloc (Nat.le_refl _) (.cells #[.int .i64 p.t, .float .f64 G, .bool false] 77))); have HO16 := hd (own_below (own_below HO15.o hb4) ((Below.refl _ _).alloc (Nat.le_refl _) (.cells #[.int .i64 p.t, .float .f64 G, .bool false] 77))); have HB16 := hd ((HB15.o.trans (hb4.mono HB15.o.size)).alloc (Nat.le_trans HB15.o.size hb4.size) (.cells #[.int .i64 p.t, .float .f64 G, .bool false] 77)); have hz4 := Nat.le_trans HB15.o.size hb4.size; have hz5 := Nat.lt_of_lt_of_le HS15.o.lt hb4.size; have s1 := HS16.o.cell 1 (by simp); simp only [List.getElem_cons_succ, List.getElem_cons_zero] at s1; clear r0 r1 r2 r3 hsm hb4)
            | (at_builtin; refine wpList_app_litH 70 77 (.agg #[.int .i64 0, .float .f64 0, .bool false]) 3 24 Tryz.underlying70 info_sampleJ rfl (by decide) rfl _ _ rfl (w3.heap.size + 1) (.slice pA j pc) j (cellsP Q) _ #[.int .i64 p.t, .float .f64 G, .bool false] 1 (w4.heap.size + 1) (by simp) rfl rfl HO16.o rfl (by simp [Value.oneCell']) (by omega) (by omega) (by simp; omega) ?_))
          intro V' w6 ho hg
          obtain ⟨pA', pc', rfl⟩ := own_shape ho
          have hB6 : Below (w3.heap.size + 1) _ w6 := (Below.refl (w3.heap.size + 1) _).grown hg (by simp; omega) (fun k hk => (HO16.o.lt k hk).1)
          have HS17 : Hd (Bk w6 w3.heap.size 72 [.slice LA x.l.length lc, .slice pA j pc]) := hd ((hB6.block _ (Nat.lt_succ_self _)).trans HS16.o)
          have HB17 := hd (HB16.o.trans (hB6.mono (Nat.le_succ _)))
          have f1 := HS17.o.frozen 1
          have p1 := HS17.o.cell 1 (by simp)
          simp only [List.getElem_cons_succ, List.getElem_cons_zero] at p1
          have HO17 := hd (show w6.ownsRow (w3.heap.size + 1) 77 3 (.slice pA' (j + 1) pc') (j + 1) (cellsP (Q ++ [⟨p.t, G, false⟩])) by rw [cellsP_app]; exact ho)
          have HS18 := hd (show Bk (w6.setCell ⟨w3.heap.size, 1, none⟩ (.slice pA' (j + 1) pc')) w3.heap.size 72 [.slice LA x.l.length lc, .slice pA' (j + 1) pc'] from HS17.o.set 1 _)
          have HO18 := hd (own_ex HO17.o (Ex.set w3.heap.size w6 1 (.slice pA' (j + 1) pc')) (Nat.lt_succ_self _))
          have HB18 := hd (HB17.o.setCell (p := ⟨w3.heap.size, 1, none⟩) (Nat.le_refl _) (.slice pA' (j + 1) pc'))
          have HPR2 := hd (show RJ.PR (x.ps.take (j + 1)) (Q ++ [⟨p.t, G, false⟩]) from by
            have hQl : Q.length = j := by have := HPR.o.1; rw [List.length_take] at this; omega
            refine ⟨by rw [List.length_append, hQl, List.length_take]; simp; omega, fun a h h' => ?_⟩
            by_cases ha : a < j
            · have h1 := HPR.o.2 a (by rw [List.length_take]; omega) (by rw [hQl]; exact ha)
              rw [List.getElem_append_left (by rw [hQl]; exact ha), List.getElem_take]
              rw [List.getElem_take] at h1
              exact h1
            · obtain rfl : a = j := by rw [List.length_take] at h; omega
              rw [List.getElem_append_right (by rw [hQl]; exact Nat.le_refl _), List.getElem_take, ← HPX.o]
              simp [hQl]
              exact ⟨rfl, rfl, HSM.o⟩)
          clear ho hg hB6
          go_wp2
          go_roundw
          case rel => exact ⟨j + 1, pA', pc', _, by omega, by go_num, HB18, HS18, HO18, HPR2⟩
          case measure => simp [intOf]; omega
        · obtain rfl : j = x.ps.length := by omega
          rw [List.take_length] at HPR
          have HA20 := hd (show RJ.VSt W wr [.int .i64 5, .string ⟨#[]⟩, .slice none 0 0, .slice (some ⟨g, 0, none⟩) L.length m'] 4 0 (.slice none 0 0) (.slice VA i vc) from HA10.o.below HBR.o)
          have HE20 := hd (HE10.o.below HBR.o)
          have HO20 := hd (own_below HO3.o HBR.o)
          have HP20 := hd (own_mono HOR.o (show W.heap.size + 3 ≤ w3.heap.size + 1 by have := HA10.o.size; omega))
          have hzz := HA20.o.size
          have o5 := HA20.o.o.cell 5 (by simp)
          have s0 := HSR.o.cell 0 (by simp)
          have s1 := HSR.o.cell 1 (by simp)
          simp only [List.getElem_cons_succ, List.getElem_cons_zero] at o5 s0 s1
          go_wp2_with (at_builtin; refine wpList_app_litH 24 72 (.agg #[.slice none 0 0, .slice none 0 0]) 2 48 Tryz.underlying24 info_seriesJ rfl (by decide) rfl _ _ rfl (W.heap.size + 3) (.slice VA i vc) i (cellsR E) _ #[.slice LA x.l.length lc, .slice pA x.ps.length pc] 1 _ rfl rfl rfl (HEi.o _ HE20.o.own) rfl (by simp [Value.oneCell']) (by omega) (by omega) hzz ?_)
          intro V' w6 ho hg
          obtain ⟨VA', vc', rfl⟩ := own_shape ho
          have hB6 : Below (W.heap.size + 3) _ w6 := (Below.refl (W.heap.size + 3) _).grown hg HA20.o.size (fun k hk => (HE20.o.own.lt k hk).1)
          have HA21 := hd (HA20.o.grow hB6)
          have hQl : Q.length = x.ps.length := HPR.o.1
          have HEW := hd (show RJ.SK (W.heap.size + 3) w6 (.slice VA' (i + 1) vc') (E ++ [⟨LA, lc, RJ.fxl x.l, pA, pc, Q⟩]) from HE20.o.push (x := ⟨LA, lc, RJ.fxl x.l, pA, pc, Q⟩) (by show World.ownsRow _ _ _ _ (.slice LA (RJ.fxl x.l).length lc) (RJ.fxl x.l).length _; rw [RJ.fxl_len]; exact HO20.o) (by show World.ownsRow _ _ _ _ (.slice pA Q.length pc) Q.length _; rw [hQl]; exact HP20.o) (by rw [HEL.o]; show World.ownsRow _ _ _ _ _ _ (RJ.cellsR E ++ [.slice LA (RJ.fxl x.l).length lc, .slice pA Q.length pc]); rw [RJ.fxl_len, hQl]; exact ho) hg)
          clear hB6 ho hg o5 s0 s1
          have f5 := HA21.o.o.frozen 5
          have p5 := HA21.o.o.cell 5 (by simp)
          simp only [List.getElem_cons_succ, List.getElem_cons_zero] at p5
          have HA22 := hd (RJ.VSt.set _ _ HA21.o 5 (.slice VA' (i + 1) vc') 4 0 (.slice none 0 0) (.slice VA' (i + 1) vc') rfl)
          have HE22 := hd (HEW.o.ex (Ex.set (W.heap.size + 1 + 1) w6 5 (.slice VA' (i + 1) vc')) (by omega))
          have HR22 := hd (show RJ.MR (L.take (i + 1)) (E ++ [⟨LA, lc, RJ.fxl x.l, pA, pc, Q⟩]) from by
            refine ⟨by rw [List.length_append, HEL.o, List.length_take]; simp; omega, fun j h h' => ?_⟩
            by_cases hj : j < i
            · have h1 := HR.o.2 j (by rw [List.length_take]; omega) (by rw [HEL.o]; exact hj)
              rw [List.getElem_append_left (by rw [HEL.o]; exact hj), List.getElem_take]
              rw [List.getElem_take] at h1
              exact h1
            · obtain rfl : j = i := by rw [List.length_take] at h; omega
              rw [List.getElem_append_right (by rw [HEL.o]; exact Nat.le_refl _), List.getElem_take, ← HX.o]
              simp [HEL.o]
              exact ⟨rfl, HPR.o⟩)
          go_wp2
          go_roundw
          case rel => exact ⟨i + 1, VA', vc', _, by omega, by go_num, HA22, HE22, HR22⟩
          case measure => simp [intOf]; omega
    · obtain rfl : i = L.length := by omega
      have j0 := HV.o.j.cell 0 (by simp)
      have f1 := HV.o.r.frozen
      have r0 := HV.o.r.cell 0 (by simp)
      have r1 := HV.o.r.cell 1 (by simp)
      have r2 := HV.o.r.cell 2 (by simp)
      have r3 := HV.o.r.cell 3 (by simp)
      have r4 := HV.o.r.cell 4 (by simp)
      have r5 := HV.o.r.cell 5 (by simp)
      have o0 := HV.o.o.cell 0 (by simp)
      have o1 := HV.o.o.cell 1 (by simp)
      have o2 := HV.o.o.cell 2 (by simp)
      have o3 := HV.o.o.cell 3 (by simp)
      have o4 := HV.o.o.cell 4 (by simp)
      have o5 := HV.o.o.cell 5 (by simp)
      simp only [List.getElem_cons_succ, List.getElem_cons_zero] at j0 r0 r1 r2 r3 r4 r5 o0 o1 o2 o3 o4 o5
      go_wp2_with fail
      go_region
      go_wp2_with fail
      have HZ := hd (RJ.bk_drew (RJ.res6_set HV.o.r (.int .i64 4) (.int .i64 0) (.float .f64 0) (.string ⟨#[]⟩) (.slice none 0 0) (.slice VA L.length vc) _ rfl))
      have HZ2 := hd (RJ.res6_ex wo (W.heap.size + 1) (.int .i64 4) (.int .i64 0) (.float .f64 0) (.string ⟨#[]⟩) (.slice none 0 0) (.slice VA L.length vc))
      have hb0 : Below W.heap.size W _ := HV.o.b.trans (HZ2.o.below (Nat.le_succ _) HV.o.b.size)
      have HE9 := HE.o.ex HZ2.o (by omega)
      have HE10 : RJ.SK W.heap.size _ (.slice VA L.length vc) E := ⟨own_mono HE9.own (by omega), fun y hy => own_mono (HE9.lab y hy) (by omega), fun y hy => own_mono (HE9.pts y hy) (by omega)⟩
      clear HE9 HZ2
      revert HE10 hb0 HZ
      generalize (((((wo.setCell ⟨W.heap.size + 1, 0, none⟩ (.int .i64 4)).setCell ⟨W.heap.size + 1, 1, none⟩ (.int .i64 0)).setCell ⟨W.heap.size + 1, 2, none⟩ (.float .f64 0)).setCell ⟨W.heap.size + 1, 3, none⟩ (.string ⟨#[]⟩)).setCell ⟨W.heap.size + 1, 4, none⟩ (.slice none 0 0)).setCell ⟨W.heap.size + 1, 5, none⟩ (.slice VA L.length vc) = X
      intro HZ hb0 HE10
      refine bodyPost_ret (RJ.res61 rfl _ rfl HZ.o) rfl ?_
      rw [List.take_length] at HR
      refine ⟨⟨VA, vc, E, by rw [hEl]; rfl, ?_, HR.o⟩, hb0.drew⟩
      rw [hEl]
      exact ⟨HE10.own, HE10.lab, HE10.pts⟩
end Go.Proofs.YteckfdohgiddgaaGreatDoor
namespace Go.Proofs.YteckfdohgiddgaaGreatDoor
open Go.RowKit
set_option linter.unusedVariables false
set_option linter.unusedSimpArgs false
open RJ
theorem RJ.obj_hd {P : Nat → Prop} {w : World} {d : Nat} {ks : List ByteArray} {l : List JT} {k : Int} {s : ByteArray} {A A' : Value} (h : Js P w (d + 1) (.obj ks l) [.int .i64 k, .string s, A, A']) : k = 6 ∧ s = ⟨#[]⟩ := by
  obtain ⟨_, _, _, _, e, _⟩ := obj_cells h
  simp only [List.cons.injEq, Value.int.injEq, Value.string.injEq, and_true, true_and] at e
  exact ⟨e.1, e.2.1⟩
theorem RJ.txt_hd {P : Nat → Prop} {w : World} {d : Nat} {u : ByteArray} {k : Int} {s : ByteArray} {A A' : Option Addr} {n m n' m' : Nat} (h : Js P w (d + 1) (.txt u) [.int .i64 k, .string s, .slice A n m, .slice A' n' m']) : k = 4 ∧ s = u ∧ A = none ∧ n = 0 ∧ m = 0 ∧ A' = none ∧ n' = 0 ∧ m' = 0 := by
  have e : [Value.int .i64 k, .string s, .slice A n m, .slice A' n' m'] = [.int .i64 4, .string u, .slice none 0 0, .slice none 0 0] := h
  simp only [List.cons.injEq, Value.int.injEq, Value.string.injEq, Value.slice.injEq, and_true, true_and] at e
  exact ⟨e.1, e.2.1, e.2.2.1.1, e.2.2.1.2.1, e.2.2.1.2.2, e.2.2.2.1, e.2.2.2.2.1, e.2.2.2.2.2⟩
theorem RJ.str_cells {P : Nat → Prop} {w : World} {d : Nat} {a u : ByteArray} {k : Int} {s : ByteArray} {A A' : Option Addr} {n m n' m' : Nat} (h : Js P w (d + 2) (.arr [.num a, .txt u]) [.int .i64 k, .string s, .slice A n m, .slice A' n' m']) :
    k = 5 ∧ s = ⟨#[]⟩ ∧ A = none ∧ n = 0 ∧ m = 0 ∧ n' = 2 ∧ ∃ g, A' = some ⟨g, 0, none⟩ ∧ P g ∧ ∀ W : World, (∀ k, P k → W.heap[k]? = w.heap[k]?) →
      W.cell? ⟨g, 0, none⟩ = some (.int .i64 3) ∧ W.cell? ⟨g, 1, none⟩ = some (.string a) ∧ W.cell? ⟨g, 4, none⟩ = some (.int .i64 4) ∧ W.cell? ⟨g, 5, none⟩ = some (.string u) := by
  obtain ⟨D, cs, e, hr, hl, ht⟩ := h
  simp only [List.cons.injEq, Value.int.injEq, Value.string.injEq, Value.slice.injEq, and_true, true_and] at e
  obtain ⟨rfl, rfl, ⟨rfl, rfl, rfl⟩, rfl⟩ := e
  obtain ⟨A1, m1, e1, hk⟩ := kids_cells hr hl ht
  simp only [Value.slice.injEq] at e1
  obtain ⟨rfl, rfl, rfl⟩ := e1
  refine ⟨rfl, rfl, rfl, rfl, rfl, rfl, ?_⟩
  obtain ⟨g, x, rfl, hP, hJ, hc⟩ := hk 0 _ rfl
  obtain ⟨g', x', e, _, hJ', hc'⟩ := hk 1 _ rfl
  simp only [Option.some.injEq, Addr.mk.injEq, and_true] at e
  subst e
  have hx : x = [.int .i64 3, .string a, .slice none 0 0, .slice none 0 0] := hJ
  have hx' : x' = [.int .i64 4, .string u, .slice none 0 0, .slice none 0 0] := hJ'
  subst hx hx'
  exact ⟨g, rfl, hP, fun W hW => ⟨hc W hW 0 _ rfl, hc W hW 1 _ rfl, hc' W hW 0 _ rfl, hc' W hW 1 _ rfl⟩⟩
set_option maxRecDepth 100000 in
set_option maxHeartbeats 8000000 in
theorem back_scalar {w : World} (b : List UInt8) (t : Int) (f : Nat) (h0 : -62167219200000 ≤ t) (h1 : t ≤ 253402300799999) (hf : f < 18446744073709551616) (hs : ∃ s, FS.Shown f s) (hE : RJ.Enc 16 b (wholeT RS.nScalar (ptT t f))) (A : Option Addr) (c : Nat) (hI : IsL 1 w (.slice A b.length c) b.length (cellsB b)) (hc : b.length ≤ c) (hlim : b.length ≤ 1125899906842624) :
    Calls Tryz.prog 12 #[.slice A b.length c] w fun e w' => (∃ g, e = .returned (.tuple #[.agg #[.int .i64 1, .int .i64 t, .float .f64 g, .string ⟨#[]⟩, .slice none 0 0, .slice none 0 0], .bool true]) ∧ RJ.Sm f g) ∧ Below w.heap.size w w' := by
  have HZ0 : Hd (Bk (w.alloc (.cells #[.int .i64 0, .int .i64 0, .float .f64 0, .string ⟨#[]⟩, .slice none 0 0, .slice none 0 0] 26)) w.heap.size 26 (cR 0 0 0 ⟨#[]⟩ (.slice none 0 0) (.slice none 0 0))) := hd (heap_alloc_new _ _)
  have HB0 := hd ((Below.refl w.heap.size w).alloc (Nat.le_refl _) (.cells #[.int .i64 0, .int .i64 0, .float .f64 0, .string ⟨#[]⟩, .slice none 0 0, .slice none 0 0] 26))
  have HRD := hd (fun W (hb : Below w.heap.size w W) => jread_any (w := W) b _ hE A c (hI.below hb) hc hlim)
  clear hE hI
  go_enter Tryz.func12, Tryz.ntmps12
  go_wp2_with (first
    | (go_at_call 35; refine (HRD.o _ HB0.o).mono ?_; rintro e w1 ⟨q1, s1, B1, n1, m1, B2, n2, m2, rfl, hJ, hb1⟩; obtain ⟨rfl, rfl⟩ := RJ.obj_hd hJ; have HM1 := hd (keys_sd hJ (fun k hk => hk.2)); have HB1 := hd (HB0.o.trans (hb1.mono HB0.o.size)); have HZ1 := hd (HZ0.o.below hb1); have HC4 := hd ((Below.refl w1.heap.size w1).alloc (Nat.le_refl _) (.cells #[.int .i64 6, .string ⟨#[]⟩, .slice B1 n1 m1, .slice B2 n2 m2] 80)); have HK4 := hd (RJ.mk_bk w1 (.int .i64 6) (.string ⟨#[]⟩) (.slice B1 n1 m1) (.slice B2 n2 m2)); clear hJ hb1)
    | (go_at_call 36; (with_reducible refine (HM1.o.1 _ HC4.o).mono ?_); rintro e w2 ⟨q2, s2, D1, x1, y1, D2, x2, y2, rfl, hJ2, hb2⟩; obtain ⟨rfl, hq2, rfl, rfl, rfl, rfl, rfl, rfl⟩ := RJ.txt_hd hJ2; obtain rfl : s2 = ⟨#[115, 117, 99, 99, 101, 115, 115]⟩ := hq2; have HC6 := hd ((bel HC4.o hb2).alloc (bel HC4.o hb2).size (.cells #[.int .i64 4, .string ⟨#[115, 117, 99, 99, 101, 115, 115]⟩, .slice none 0 0, .slice none 0 0] 80)); have HK4b := hd ((HK4.o.below hb2).below ((Below.refl _ _).alloc (Nat.le_refl _) (.cells #[.int .i64 4, .string ⟨#[115, 117, 99, 99, 101, 115, 115]⟩, .slice none 0 0, .slice none 0 0] 80))); have HK6 := hd (RJ.mk_bk w2 (.int .i64 4) (.string ⟨#[115, 117, 99, 99, 101, 115, 115]⟩) (.slice none 0 0) (.slice none 0 0)); clear hJ2 hb2; have e0 := HK4b.o.cell 0 (by simp); have e1 := HK4b.o.cell 1 (by simp); have e2 := HK4b.o.cell 2 (by simp); have e3 := HK4b.o.cell 3 (by simp); simp only [List.getElem_cons_succ, List.getElem_cons_zero] at e0 e1 e2 e3)
    | (go_at_call 36; (with_reducible refine (HM1.o.2 _ HC6.o).mono ?_); rintro e w3 ⟨q3, s3, B3, n3, m3, B4, n4, m4, rfl, hJ3, hb3⟩; obtain ⟨rfl, rfl⟩ := RJ.obj_hd hJ3; have HM2 := hd (keys_tr hJ3 (fun k hk => hk.2)); have HC8 := hd ((bel HC6.o hb3).alloc (bel HC6.o hb3).size (.cells #[.int .i64 6, .string ⟨#[]⟩, .slice B3 n3 m3, .slice B4 n4 m4] 80)); have HK6b := hd ((HK6.o.below hb3).below ((Below.refl _ _).alloc (Nat.le_refl _) (.cells #[.int .i64 6, .string ⟨#[]⟩, .slice B3 n3 m3, .slice B4 n4 m4] 80))); have HK8 := hd (RJ.mk_bk w3 (.int .i64 6) (.string ⟨#[]⟩) (.slice B3 n3 m3) (.slice B4 n4 m4)); clear hJ3 hb3 e0 e1 e2 e3)
    | (go_at_call 36; (with_reducible refine (HM2.o.1 _ HC8.o).mono ?_); rintro e w4 ⟨q4, s4, D1, x1, y1, D2, x2, y2, rfl, hJ4, hb4⟩; obtain ⟨rfl, hq4, rfl, rfl, rfl, rfl, rfl, rfl⟩ := RJ.txt_hd hJ4; obtain rfl : s4 = ⟨#[115, 99, 97, 108, 97, 114]⟩ := hq4; have HC10 := hd ((bel HC8.o hb4).alloc (bel HC8.o hb4).size (.cells #[.int .i64 4, .string ⟨#[115, 99, 97, 108, 97, 114]⟩, .slice none 0 0, .slice none 0 0] 80)); have HK6c := hd ((HK6b.o.below hb4).below ((Below.refl _ _).alloc (Nat.le_refl _) (.cells #[.int .i64 4, .string ⟨#[115, 99, 97, 108, 97, 114]⟩, .slice none 0 0, .slice none 0 0] 80))); have HK8b := hd ((HK8.o.below hb4).below ((Below.refl _ _).alloc (Nat.le_refl _) (.cells #[.int .i64 4, .string ⟨#[115, 99, 97, 108, 97, 114]⟩, .slice none 0 0, .slice none 0 0] 80))); have HK10 := hd (RJ.mk_bk w4 (.int .i64 4) (.string ⟨#[115, 99, 97, 108, 97, 114]⟩) (.slice none 0 0) (.slice none 0 0)); clear hJ4 hb4; have e0 := HK8b.o.cell 0 (by simp); have e1 := HK8b.o.cell 1 (by simp); have e2 := HK8b.o.cell 2 (by simp); have e3 := HK8b.o.cell 3 (by simp); simp only [List.getElem_cons_succ, List.getElem_cons_zero] at e0 e1 e2 e3)
    | (go_at_call 36; (with_reducible refine (HM2.o.2 _ HC10.o).mono ?_); rintro e w5 ⟨q5, s5, B5, n5, m5, B6, n6, m6, rfl, hJ5, hb5⟩; have HJ5 := hd hJ5; have HC12 := hd ((bel HC10.o hb5).alloc (bel HC10.o hb5).size (.cells #[.int .i64 q5, .string s5, .slice B5 n5 m5, .slice B6 n6 m6] 80)); have HK6d := hd ((HK6c.o.below hb5).below ((Below.refl _ _).alloc (Nat.le_refl _) (.cells #[.int .i64 q5, .string s5, .slice B5 n5 m5, .slice B6 n6 m6] 80))); have HK10b := hd ((HK10.o.below hb5).below ((Below.refl _ _).alloc (Nat.le_refl _) (.cells #[.int .i64 q5, .string s5, .slice B5 n5 m5, .slice B6 n6 m6] 80))); clear hJ5 hb5 e0 e1 e2 e3; have t1 := HK6d.o.cell 1 (by simp); have t2 := HK10b.o.cell 1 (by simp); simp only [List.getElem_cons_succ, List.getElem_cons_zero] at t1 t2)
    | (go_at_call 37; refine (pointOf_any HJ5.o (fun k hk => hk.2) h0 h1 hf hs _ HC12.o).mono ?_; rintro e w6 ⟨⟨G, rfl, hsm⟩, hb6⟩; have HSM := hd hsm; have HC14 := hd ((bel HC12.o hb6).alloc (bel HC12.o hb6).size (.cells #[.int .i64 t, .float .f64 G, .bool false] 77)); have HBA := hd (HB1.o.trans (HC14.o.mono HB1.o.size)); have HR6 := hd (show Bk (w6.alloc (.cells #[.int .i64 t, .float .f64 G, .bool false] 77)) w.heap.size 26 _ from (HC14.o.block _ HZ1.o.lt).trans HZ1.o); have r0 := HR6.o.cell 0 (by simp); have r1 := HR6.o.cell 1 (by simp); have r2 := HR6.o.cell 2 (by simp); have r3 := HR6.o.cell 3 (by simp); have r4 := HR6.o.cell 4 (by simp); have r5 := HR6.o.cell 5 (by simp); simp only [List.getElem_cons_succ, List.getElem_cons_zero] at r0 r1 r2 r3 r4 r5; have rf := HR6.o.frozen; clear hsm hb6 t1 t2))
  have HX := hd (RJ.res6_set HR6.o (.int .i64 1) (.int .i64 t) (.float .f64 G) (.string ⟨#[]⟩) (.slice none 0 0) (.slice none 0 0) _ rfl)
  have HXE := hd (RJ.res6_ex (w6.alloc (.cells #[.int .i64 t, .float .f64 G, .bool false] 77)) w.heap.size (.int .i64 1) (.int .i64 t) (.float .f64 G) (.string ⟨#[]⟩) (.slice none 0 0) (.slice none 0 0))
  have hb0 : Below w.heap.size w _ := HBA.o.trans (HXE.o.below (Nat.le_refl _) HBA.o.size)
  clear HXE
  revert hb0 HX
  generalize ((((((w6.alloc (.cells #[.int .i64 t, .float .f64 G, .bool false] 77)).setCell ⟨w.heap.size, 0, none⟩ (.int .i64 1)).setCell ⟨w.heap.size, 1, none⟩ (.int .i64 t)).setCell ⟨w.heap.size, 2, none⟩ (.float .f64 G)).setCell ⟨w.heap.size, 3, none⟩ (.string ⟨#[]⟩)).setCell ⟨w.heap.size, 4, none⟩ (.slice none 0 0)).setCell ⟨w.heap.size, 5, none⟩ (.slice none 0 0) = X
  intro HX hb0
  refine bodyPost_ret (RJ.res61 rfl _ rfl HX.o) rfl ?_
  exact ⟨⟨G, rfl, HSM.o⟩, hb0⟩
set_option maxRecDepth 100000 in
set_option maxHeartbeats 8000000 in
theorem back_string {w : World} (b : List UInt8) (t : Int) (u : ByteArray) (h0 : -62167219200000 ≤ t) (h1 : t ≤ 253402300799999) (hE : RJ.Enc 16 b (wholeT RS.nString (.arr [.num (str (T.sec t)), .txt u]))) (A : Option Addr) (c : Nat) (hI : IsL 1 w (.slice A b.length c) b.length (cellsB b)) (hc : b.length ≤ c) (hlim : b.length ≤ 1125899906842624) :
    Calls Tryz.prog 12 #[.slice A b.length c] w fun e w' => (e = .returned (.tuple #[.agg #[.int .i64 2, .int .i64 t, .float .f64 0, .string u, .slice none 0 0, .slice none 0 0], .bool true])) ∧ Below w.heap.size w w' := by
  have HZ0 : Hd (Bk (w.alloc (.cells #[.int .i64 0, .int .i64 0, .float .f64 0, .string ⟨#[]⟩, .slice none 0 0, .slice none 0 0] 26)) w.heap.size 26 (cR 0 0 0 ⟨#[]⟩ (.slice none 0 0) (.slice none 0 0))) := hd (heap_alloc_new _ _)
  have HB0 := hd ((Below.refl w.heap.size w).alloc (Nat.le_refl _) (.cells #[.int .i64 0, .int .i64 0, .float .f64 0, .string ⟨#[]⟩, .slice none 0 0, .slice none 0 0] 26))
  have HRD := hd (fun W (hb : Below w.heap.size w W) => jread_any (w := W) b _ hE A c (hI.below hb) hc hlim)
  clear hE hI
  go_enter Tryz.func12, Tryz.ntmps12
  go_wp2_with (first
    | (go_at_call 35; refine (HRD.o _ HB0.o).mono ?_; rintro e w1 ⟨q1, s1, B1, n1, m1, B2, n2, m2, rfl, hJ, hb1⟩; obtain ⟨rfl, rfl⟩ := RJ.obj_hd hJ; have HM1 := hd (keys_sd hJ (fun k hk => hk.2)); have HB1 := hd (HB0.o.trans (hb1.mono HB0.o.size)); have HZ1 := hd (HZ0.o.below hb1); have HC4 := hd ((Below.refl w1.heap.size w1).alloc (Nat.le_refl _) (.cells #[.int .i64 6, .string ⟨#[]⟩, .slice B1 n1 m1, .slice B2 n2 m2] 80)); have HK4 := hd (RJ.mk_bk w1 (.int .i64 6) (.string ⟨#[]⟩) (.slice B1 n1 m1) (.slice B2 n2 m2)); clear hJ hb1)
    | (go_at_call 36; (with_reducible refine (HM1.o.1 _ HC4.o).mono ?_); rintro e w2 ⟨q2, s2, D1, x1, y1, D2, x2, y2, rfl, hJ2, hb2⟩; obtain ⟨rfl, hq2, rfl, rfl, rfl, rfl, rfl, rfl⟩ := RJ.txt_hd hJ2; obtain rfl : s2 = ⟨#[115, 117, 99, 99, 101, 115, 115]⟩ := hq2; have HC6 := hd ((bel HC4.o hb2).alloc (bel HC4.o hb2).size (.cells #[.int .i64 4, .string ⟨#[115, 117, 99, 99, 101, 115, 115]⟩, .slice none 0 0, .slice none 0 0] 80)); have HK4b := hd ((HK4.o.below hb2).below ((Below.refl _ _).alloc (Nat.le_refl _) (.cells #[.int .i64 4, .string ⟨#[115, 117, 99, 99, 101, 115, 115]⟩, .slice none 0 0, .slice none 0 0] 80))); have HK6 := hd (RJ.mk_bk w2 (.int .i64 4) (.string ⟨#[115, 117, 99, 99, 101, 115, 115]⟩) (.slice none 0 0) (.slice none 0 0)); clear hJ2 hb2; have e0 := HK4b.o.cell 0 (by simp); have e1 := HK4b.o.cell 1 (by simp); have e2 := HK4b.o.cell 2 (by simp); have e3 := HK4b.o.cell 3 (by simp); simp only [List.getElem_cons_succ, List.getElem_cons_zero] at e0 e1 e2 e3)
    | (go_at_call 36; (with_reducible refine (HM1.o.2 _ HC6.o).mono ?_); rintro e w3 ⟨q3, s3, B3, n3, m3, B4, n4, m4, rfl, hJ3, hb3⟩; obtain ⟨rfl, rfl⟩ := RJ.obj_hd hJ3; have HM2 := hd (keys_tr hJ3 (fun k hk => hk.2)); have HC8 := hd ((bel HC6.o hb3).alloc (bel HC6.o hb3).size (.cells #[.int .i64 6, .string ⟨#[]⟩, .slice B3 n3 m3, .slice B4 n4 m4] 80)); have HK6b := hd ((HK6.o.below hb3).below ((Below.refl _ _).alloc (Nat.le_refl _) (.cells #[.int .i64 6, .string ⟨#[]⟩, .slice B3 n3 m3, .slice B4 n4 m4] 80))); have HK8 := hd (RJ.mk_bk w3 (.int .i64 6) (.string ⟨#[]⟩) (.slice B3 n3 m3) (.slice B4 n4 m4)); clear hJ3 hb3 e0 e1 e2 e3)
    | (go_at_call 36; (with_reducible refine (HM2.o.1 _ HC8.o).mono ?_); rintro e w4 ⟨q4, s4, D1, x1, y1, D2, x2, y2, rfl, hJ4, hb4⟩; obtain ⟨rfl, hq4, rfl, rfl, rfl, rfl, rfl, rfl⟩ := RJ.txt_hd hJ4; obtain rfl : s4 = ⟨#[115, 116, 114, 105, 110, 103]⟩ := hq4; have HC10 := hd ((bel HC8.o hb4).alloc (bel HC8.o hb4).size (.cells #[.int .i64 4, .string ⟨#[115, 116, 114, 105, 110, 103]⟩, .slice none 0 0, .slice none 0 0] 80)); have HK6c := hd ((HK6b.o.below hb4).below ((Below.refl _ _).alloc (Nat.le_refl _) (.cells #[.int .i64 4, .string ⟨#[115, 116, 114, 105, 110, 103]⟩, .slice none 0 0, .slice none 0 0] 80))); have HK8b := hd ((HK8.o.below hb4).below ((Below.refl _ _).alloc (Nat.le_refl _) (.cells #[.int .i64 4, .string ⟨#[115, 116, 114, 105, 110, 103]⟩, .slice none 0 0, .slice none 0 0] 80))); have HK10 := hd (RJ.mk_bk w4 (.int .i64 4) (.string ⟨#[115, 116, 114, 105, 110, 103]⟩) (.slice none 0 0) (.slice none 0 0)); clear hJ4 hb4; have e0 := HK8b.o.cell 0 (by simp); have e1 := HK8b.o.cell 1 (by simp); have e2 := HK8b.o.cell 2 (by simp); have e3 := HK8b.o.cell 3 (by simp); simp only [List.getElem_cons_succ, List.getElem_cons_zero] at e0 e1 e2 e3)
    | (go_at_call 36; (with_reducible refine (HM2.o.2 _ HC10.o).mono ?_); rintro e w5 ⟨q5, s5, B5, n5, m5, B6, n6, m6, rfl, hJ5, hb5⟩; obtain ⟨rfl, rfl, rfl, rfl, rfl, rfl, g5, rfl, _, hc5⟩ := RJ.str_cells hJ5; have HG5 := hd hc5; have HJ5 := hd hJ5; have HC12 := hd ((bel HC10.o hb5).alloc (bel HC10.o hb5).size (.cells #[.int .i64 5, .string ⟨#[]⟩, .slice none 0 0, .slice (some ⟨g5, 0, none⟩) 2 m6] 80)); have HK6d := hd ((HK6c.o.below hb5).below ((Below.refl _ _).alloc (Nat.le_refl _) (.cells #[.int .i64 5, .string ⟨#[]⟩, .slice none 0 0, .slice (some ⟨g5, 0, none⟩) 2 m6] 80))); have HK10b := hd ((HK10.o.below hb5).below ((Below.refl _ _).alloc (Nat.le_refl _) (.cells #[.int .i64 5, .string ⟨#[]⟩, .slice none 0 0, .slice (some ⟨g5, 0, none⟩) 2 m6] 80))); clear hJ5 hb5 e0 e1 e2 e3; have t1 := HK6d.o.cell 1 (by simp); have t2 := HK10b.o.cell 1 (by simp); simp only [List.getElem_cons_succ, List.getElem_cons_zero] at t1 t2; have HK12 := hd (RJ.mk_bk w5 (.int .i64 5) (.string ⟨#[]⟩) (.slice none 0 0) (.slice (some ⟨g5, 0, none⟩) 2 m6)); obtain ⟨y0, y1, y4, y5⟩ := HG5.o _ (fun k hk => HC12.o.block k hk.2); clear hc5)
    | (go_at_call 38; refine (s3stamp_any t h0 h1 _).mono ?_; rintro e w6 ⟨rfl, hb6⟩; have HC14 := hd (bel HC12.o hb6); have HBA := hd (HB1.o.trans (HC14.o.mono HB1.o.size)); have HK13 := hd (HK12.o.below hb6); have HR6 := hd (show Bk w6 w.heap.size 26 _ from (HC14.o.block _ HZ1.o.lt).trans HZ1.o); have r0 := HR6.o.cell 0 (by simp); have r1 := HR6.o.cell 1 (by simp); have r2 := HR6.o.cell 2 (by simp); have r3 := HR6.o.cell 3 (by simp); have r4 := HR6.o.cell 4 (by simp); have r5 := HR6.o.cell 5 (by simp); simp only [List.getElem_cons_succ, List.getElem_cons_zero] at r0 r1 r2 r3 r4 r5; have rf := HR6.o.frozen; have x3 := HK13.o.cell 3 (by simp); simp only [List.getElem_cons_succ, List.getElem_cons_zero] at x3; clear y0 y1 y4 y5; obtain ⟨y0, y1, y4, y5⟩ := HG5.o w6 (fun k hk => HC14.o.block k hk.2); clear hb6 t1 t2))
  have HX := hd (RJ.res6_set HR6.o (.int .i64 2) (.int .i64 t) (.float .f64 0) (.string u) (.slice none 0 0) (.slice none 0 0) _ rfl)
  have HXE := hd (RJ.res6_ex w6 w.heap.size (.int .i64 2) (.int .i64 t) (.float .f64 0) (.string u) (.slice none 0 0) (.slice none 0 0))
  have hb0 : Below w.heap.size w _ := HBA.o.trans (HXE.o.below (Nat.le_refl _) HBA.o.size)
  clear HXE
  revert hb0 HX
  generalize (((((w6.setCell ⟨w.heap.size, 0, none⟩ (.int .i64 2)).setCell ⟨w.heap.size, 1, none⟩ (.int .i64 t)).setCell ⟨w.heap.size, 2, none⟩ (.float .f64 0)).setCell ⟨w.heap.size, 3, none⟩ (.string u)).setCell ⟨w.heap.size, 4, none⟩ (.slice none 0 0)).setCell ⟨w.heap.size, 5, none⟩ (.slice none 0 0) = X
  intro HX hb0
  refine bodyPost_ret (RJ.res61 rfl _ rfl HX.o) rfl ?_
  exact ⟨rfl, hb0⟩
set_option maxRecDepth 100000 in
set_option maxHeartbeats 8000000 in
theorem back_vector {w : World} (b : List UInt8) (t : Int) (L : List RS.El) (h0 : -62167219200000 ≤ t) (h1 : t ≤ 253402300799999) (hL : ∀ x ∈ L, x.f < 18446744073709551616 ∧ (∃ s, FS.Shown x.f s) ∧ x.l.length ≤ 1099511627776) (hn : L.length ≤ 1099511627776) (hE : RJ.Enc 16 b (wholeT RS.nVector (.arr (L.map (elT t))))) (A : Option Addr) (c : Nat) (hI : IsL 1 w (.slice A b.length c) b.length (cellsB b)) (hc : b.length ≤ c) (hlim : b.length ≤ 1125899906842624) :
    Calls Tryz.prog 12 #[.slice A b.length c] w fun e w' => (∃ VA vc E, e = .returned (.tuple #[.agg #[.int .i64 3, .int .i64 (if L.length = 0 then 0 else t), .float .f64 0, .string ⟨#[]⟩, .slice VA E.length vc, .slice none 0 0], .bool true]) ∧ RJ.EK (w.heap.size + 1) w' (.slice VA E.length vc) E ∧ RJ.VR L E) ∧ Below w.heap.size w w' := by
  have HZ0 : Hd (Bk (w.alloc (.cells #[.int .i64 0, .int .i64 0, .float .f64 0, .string ⟨#[]⟩, .slice none 0 0, .slice none 0 0] 26)) w.heap.size 26 (cR 0 0 0 ⟨#[]⟩ (.slice none 0 0) (.slice none 0 0))) := hd (heap_alloc_new _ _)
  have HB0 := hd ((Below.refl w.heap.size w).alloc (Nat.le_refl _) (.cells #[.int .i64 0, .int .i64 0, .float .f64 0, .string ⟨#[]⟩, .slice none 0 0, .slice none 0 0] 26))
  have HRD := hd (fun W (hb : Below w.heap.size w W) => jread_any (w := W) b _ hE A c (hI.below hb) hc hlim)
  clear hE hI
  obtain ⟨T0, hT0⟩ : ∃ T0 : Int, T0 = if L.length = 0 then 0 else t := ⟨_, rfl⟩
  rw [← hT0]
  have HT0 := hd hT0
  clear hT0
  go_enter Tryz.func12, Tryz.ntmps12
  go_wp2_with (first
    | (go_at_call 35; refine (HRD.o _ HB0.o).mono ?_; rintro e w1 ⟨q1, s1, B1, n1, m1, B2, n2, m2, rfl, hJ, hb1⟩; obtain ⟨rfl, rfl⟩ := RJ.obj_hd hJ; have HM1 := hd (keys_sd hJ (fun k hk => hk.2)); have HB1 := hd (HB0.o.trans (hb1.mono HB0.o.size)); have HZ1 := hd (HZ0.o.below hb1); have HC4 := hd ((Below.refl w1.heap.size w1).alloc (Nat.le_refl _) (.cells #[.int .i64 6, .string ⟨#[]⟩, .slice B1 n1 m1, .slice B2 n2 m2] 80)); have HK4 := hd (RJ.mk_bk w1 (.int .i64 6) (.string ⟨#[]⟩) (.slice B1 n1 m1) (.slice B2 n2 m2)); clear hJ hb1)
    | (go_at_call 36; (with_reducible refine (HM1.o.1 _ HC4.o).mono ?_); rintro e w2 ⟨q2, s2, D1, x1, y1, D2, x2, y2, rfl, hJ2, hb2⟩; obtain ⟨rfl, hq2, rfl, rfl, rfl, rfl, rfl, rfl⟩ := RJ.txt_hd hJ2; obtain rfl : s2 = ⟨#[115, 117, 99, 99, 101, 115, 115]⟩ := hq2; have HC6 := hd ((bel HC4.o hb2).alloc (bel HC4.o hb2).size (.cells #[.int .i64 4, .string ⟨#[115, 117, 99, 99, 101, 115, 115]⟩, .slice none 0 0, .slice none 0 0] 80)); have HK4b := hd ((HK4.o.below hb2).below ((Below.refl _ _).alloc (Nat.le_refl _) (.cells #[.int .i64 4, .string ⟨#[115, 117, 99, 99, 101, 115, 115]⟩, .slice none 0 0, .slice none 0 0] 80))); have HK6 := hd (RJ.mk_bk w2 (.int .i64 4) (.string ⟨#[115, 117, 99, 99, 101, 115, 115]⟩) (.slice none 0 0) (.slice none 0 0)); clear hJ2 hb2; have e0 := HK4b.o.cell 0 (by simp); have e1 := HK4b.o.cell 1 (by simp); have e2 := HK4b.o.cell 2 (by simp); have e3 := HK4b.o.cell 3 (by simp); simp only [List.getElem_cons_succ, List.getElem_cons_zero] at e0 e1 e2 e3)
    | (go_at_call 36; (with_reducible refine (HM1.o.2 _ HC6.o).mono ?_); rintro e w3 ⟨q3, s3, B3, n3, m3, B4, n4, m4, rfl, hJ3, hb3⟩; obtain ⟨rfl, rfl⟩ := RJ.obj_hd hJ3; have HM2 := hd (keys_tr hJ3 (fun k hk => hk.2)); have HC8 := hd ((bel HC6.o hb3).alloc (bel HC6.o hb3).size (.cells #[.int .i64 6, .string ⟨#[]⟩, .slice B3 n3 m3, .slice B4 n4 m4] 80)); have HK6b := hd ((HK6.o.below hb3).below ((Below.refl _ _).alloc (Nat.le_refl _) (.cells #[.int .i64 6, .string ⟨#[]⟩, .slice B3 n3 m3, .slice B4 n4 m4] 80))); have HK8 := hd (RJ.mk_bk w3 (.int .i64 6) (.string ⟨#[]⟩) (.slice B3 n3 m3) (.slice B4 n4 m4)); clear hJ3 hb3 e0 e1 e2 e3)
    | (go_at_call 36; (with_reducible refine (HM2.o.1 _ HC8.o).mono ?_); rintro e w4 ⟨q4, s4, D1, x1, y1, D2, x2, y2, rfl, hJ4, hb4⟩; obtain ⟨rfl, hq4, rfl, rfl, rfl, rfl, rfl, rfl⟩ := RJ.txt_hd hJ4; obtain rfl : s4 = ⟨#[118, 101, 99, 116, 111, 114]⟩ := hq4; have HC10 := hd ((bel HC8.o hb4).alloc (bel HC8.o hb4).size (.cells #[.int .i64 4, .string ⟨#[118, 101, 99, 116, 111, 114]⟩, .slice none 0 0, .slice none 0 0] 80)); have HK6c := hd ((HK6b.o.below hb4).below ((Below.refl _ _).alloc (Nat.le_refl _) (.cells #[.int .i64 4, .string ⟨#[118, 101, 99, 116, 111, 114]⟩, .slice none 0 0, .slice none 0 0] 80))); have HK8b := hd ((HK8.o.below hb4).below ((Below.refl _ _).alloc (Nat.le_refl _) (.cells #[.int .i64 4, .string ⟨#[118, 101, 99, 116, 111, 114]⟩, .slice none 0 0, .slice none 0 0] 80))); have HK10 := hd (RJ.mk_bk w4 (.int .i64 4) (.string ⟨#[118, 101, 99, 116, 111, 114]⟩) (.slice none 0 0) (.slice none 0 0)); clear hJ4 hb4; have e0 := HK8b.o.cell 0 (by simp); have e1 := HK8b.o.cell 1 (by simp); have e2 := HK8b.o.cell 2 (by simp); have e3 := HK8b.o.cell 3 (by simp); simp only [List.getElem_cons_succ, List.getElem_cons_zero] at e0 e1 e2 e3)
    | (go_at_call 36; (with_reducible refine (HM2.o.2 _ HC10.o).mono ?_); rintro e w5 ⟨q5, s5, B5, n5, m5, B6, n6, m6, rfl, hJ5, hb5⟩; have HJ5 := hd hJ5; have HC12 := hd ((bel HC10.o hb5).alloc (bel HC10.o hb5).size (.cells #[.int .i64 q5, .string s5, .slice B5 n5 m5, .slice B6 n6 m6] 80)); have HK6d := hd ((HK6c.o.below hb5).below ((Below.refl _ _).alloc (Nat.le_refl _) (.cells #[.int .i64 q5, .string s5, .slice B5 n5 m5, .slice B6 n6 m6] 80))); have HK10b := hd ((HK10.o.below hb5).below ((Below.refl _ _).alloc (Nat.le_refl _) (.cells #[.int .i64 q5, .string s5, .slice B5 n5 m5, .slice B6 n6 m6] 80))); clear hJ5 hb5 e0 e1 e2 e3; have t1 := HK6d.o.cell 1 (by simp); have t2 := HK10b.o.cell 1 (by simp); simp only [List.getElem_cons_succ, List.getElem_cons_zero] at t1 t2)
    | (go_at_call 39; refine (vectorOf_any HJ5.o (fun k hk => hk.2) h0 h1 hL hn _ HC12.o).mono ?_; rintro e w6 ⟨⟨VA, vc, E, rfl, hek, hvr⟩, hb6⟩; rw [← HT0.o]; have HSM := hd hvr; have HC14 := hd (bel HC12.o hb6); have HBA := hd (HB1.o.trans (HC14.o.mono HB1.o.size)); have HEK0 := hd hek; have hle := hd (show w.heap.size + 1 ≤ (w5.alloc (.cells #[.int .i64 q5, .string s5, .slice B5 n5 m5, .slice B6 n6 m6] 80)).heap.size from Nat.le_trans HZ1.o.lt HC12.o.size); have HR6 := hd (show Bk w6 w.heap.size 26 _ from (HC14.o.block _ HZ1.o.lt).trans HZ1.o); have r0 := HR6.o.cell 0 (by simp); have r1 := HR6.o.cell 1 (by simp); have r2 := HR6.o.cell 2 (by simp); have r3 := HR6.o.cell 3 (by simp); have r4 := HR6.o.cell 4 (by simp); have r5 := HR6.o.cell 5 (by simp); simp only [List.getElem_cons_succ, List.getElem_cons_zero] at r0 r1 r2 r3 r4 r5; have rf := HR6.o.frozen; clear hek hvr hb6 t1 t2))
  have HX := hd (RJ.res6_set HR6.o (.int .i64 3) (.int .i64 T0) (.float .f64 0) (.string ⟨#[]⟩) (.slice VA E.length vc) (.slice none 0 0) _ rfl)
  have HXE := hd (RJ.res6_ex w6 w.heap.size (.int .i64 3) (.int .i64 T0) (.float .f64 0) (.string ⟨#[]⟩) (.slice VA E.length vc) (.slice none 0 0))
  have hb0 : Below w.heap.size w _ := HBA.o.trans (HXE.o.below (Nat.le_refl _) HBA.o.size)
  have HEK := hd (show RJ.EK (w.heap.size + 1) _ (.slice VA E.length vc) E from (RJ.EK.ex (r := w.heap.size) ⟨own_mono HEK0.o.own hle.o, fun y hy => own_mono (HEK0.o.lab y hy) hle.o⟩ HXE.o (Nat.lt_succ_self _)))
  clear HXE
  revert HEK hb0 HX
  generalize (((((w6.setCell ⟨w.heap.size, 0, none⟩ (.int .i64 3)).setCell ⟨w.heap.size, 1, none⟩ (.int .i64 T0)).setCell ⟨w.heap.size, 2, none⟩ (.float .f64 0)).setCell ⟨w.heap.size, 3, none⟩ (.string ⟨#[]⟩)).setCell ⟨w.heap.size, 4, none⟩ (.slice VA E.length vc)).setCell ⟨w.heap.size, 5, none⟩ (.slice none 0 0) = X
  intro HX hb0 HEK
  refine bodyPost_ret (RJ.res61 rfl _ rfl HX.o) rfl ?_
  exact ⟨⟨VA, vc, E, rfl, HEK.o, HSM.o⟩, hb0⟩
set_option maxRecDepth 100000 in
set_option maxHeartbeats 8000000 in
theorem back_matrix {w : World} (b : List UInt8) (L : List RS.Sr) (hL : ∀ x ∈ L, x.l.length ≤ 1099511627776 ∧ x.ps.length ≤ 1099511627776 ∧ ∀ p ∈ x.ps, -62167219200000 ≤ p.t ∧ p.t ≤ 253402300799999 ∧ p.f < 18446744073709551616 ∧ ∃ s, FS.Shown p.f s) (hn : L.length ≤ 1099511627776) (hE : RJ.Enc 16 b (wholeT RS.nMatrix (.arr (L.map seT)))) (A : Option Addr) (c : Nat) (hI : IsL 1 w (.slice A b.length c) b.length (cellsB b)) (hc : b.length ≤ c) (hlim : b.length ≤ 1125899906842624) :
    Calls Tryz.prog 12 #[.slice A b.length c] w fun e w' => (∃ VA vc E, e = .returned (.tuple #[.agg #[.int .i64 4, .int .i64 0, .float .f64 0, .string ⟨#[]⟩, .slice none 0 0, .slice VA E.length vc], .bool true]) ∧ RJ.SK (w.heap.size + 1) w' (.slice VA E.length vc) E ∧ RJ.MR L E) ∧ Below w.heap.size w w' := by
  have HZ0 : Hd (Bk (w.alloc (.cells #[.int .i64 0, .int .i64 0, .float .f64 0, .string ⟨#[]⟩, .slice none 0 0, .slice none 0 0] 26)) w.heap.size 26 (cR 0 0 0 ⟨#[]⟩ (.slice none 0 0) (.slice none 0 0))) := hd (heap_alloc_new _ _)
  have HB0 := hd ((Below.refl w.heap.size w).alloc (Nat.le_refl _) (.cells #[.int .i64 0, .int .i64 0, .float .f64 0, .string ⟨#[]⟩, .slice none 0 0, .slice none 0 0] 26))
  have HRD := hd (fun W (hb : Below w.heap.size w W) => jread_any (w := W) b _ hE A c (hI.below hb) hc hlim)
  clear hE hI
  go_enter Tryz.func12, Tryz.ntmps12
  go_wp2_with (first
    | (go_at_call 35; refine (HRD.o _ HB0.o).mono ?_; rintro e w1 ⟨q1, s1, B1, n1, m1, B2, n2, m2, rfl, hJ, hb1⟩; obtain ⟨rfl, rfl⟩ := RJ.obj_hd hJ; have HM1 := hd (keys_sd hJ (fun k hk => hk.2)); have HB1 := hd (HB0.o.trans (hb1.mono HB0.o.size)); have HZ1 := hd (HZ0.o.below hb1); have HC4 := hd ((Below.refl w1.heap.size w1).alloc (Nat.le_refl _) (.cells #[.int .i64 6, .string ⟨#[]⟩, .slice B1 n1 m1, .slice B2 n2 m2] 80)); have HK4 := hd (RJ.mk_bk w1 (.int .i64 6) (.string ⟨#[]⟩) (.slice B1 n1 m1) (.slice B2 n2 m2)); clear hJ hb1)
    | (go_at_call 36; (with_reducible refine (HM1.o.1 _ HC4.o).mono ?_); rintro e w2 ⟨q2, s2, D1, x1, y1, D2, x2, y2, rfl, hJ2, hb2⟩; obtain ⟨rfl, hq2, rfl, rfl, rfl, rfl, rfl, rfl⟩ := RJ.txt_hd hJ2; obtain rfl : s2 = ⟨#[115, 117, 99, 99, 101, 115, 115]⟩ := hq2; have HC6 := hd ((bel HC4.o hb2).alloc (bel HC4.o hb2).size (.cells #[.int .i64 4, .string ⟨#[115, 117, 99, 99, 101, 115, 115]⟩, .slice none 0 0, .slice none 0 0] 80)); have HK4b := hd ((HK4.o.below hb2).below ((Below.refl _ _).alloc (Nat.le_refl _) (.cells #[.int .i64 4, .string ⟨#[115, 117, 99, 99, 101, 115, 115]⟩, .slice none 0 0, .slice none 0 0] 80))); have HK6 := hd (RJ.mk_bk w2 (.int .i64 4) (.string ⟨#[115, 117, 99, 99, 101, 115, 115]⟩) (.slice none 0 0) (.slice none 0 0)); clear hJ2 hb2; have e0 := HK4b.o.cell 0 (by simp); have e1 := HK4b.o.cell 1 (by simp); have e2 := HK4b.o.cell 2 (by simp); have e3 := HK4b.o.cell 3 (by simp); simp only [List.getElem_cons_succ, List.getElem_cons_zero] at e0 e1 e2 e3)
    | (go_at_call 36; (with_reducible refine (HM1.o.2 _ HC6.o).mono ?_); rintro e w3 ⟨q3, s3, B3, n3, m3, B4, n4, m4, rfl, hJ3, hb3⟩; obtain ⟨rfl, rfl⟩ := RJ.obj_hd hJ3; have HM2 := hd (keys_tr hJ3 (fun k hk => hk.2)); have HC8 := hd ((bel HC6.o hb3).alloc (bel HC6.o hb3).size (.cells #[.int .i64 6, .string ⟨#[]⟩, .slice B3 n3 m3, .slice B4 n4 m4] 80)); have HK6b := hd ((HK6.o.below hb3).below ((Below.refl _ _).alloc (Nat.le_refl _) (.cells #[.int .i64 6, .string ⟨#[]⟩, .slice B3 n3 m3, .slice B4 n4 m4] 80))); have HK8 := hd (RJ.mk_bk w3 (.int .i64 6) (.string ⟨#[]⟩) (.slice B3 n3 m3) (.slice B4 n4 m4)); clear hJ3 hb3 e0 e1 e2 e3)
    | (go_at_call 36; (with_reducible refine (HM2.o.1 _ HC8.o).mono ?_); rintro e w4 ⟨q4, s4, D1, x1, y1, D2, x2, y2, rfl, hJ4, hb4⟩; obtain ⟨rfl, hq4, rfl, rfl, rfl, rfl, rfl, rfl⟩ := RJ.txt_hd hJ4; obtain rfl : s4 = ⟨#[109, 97, 116, 114, 105, 120]⟩ := hq4; have HC10 := hd ((bel HC8.o hb4).alloc (bel HC8.o hb4).size (.cells #[.int .i64 4, .string ⟨#[109, 97, 116, 114, 105, 120]⟩, .slice none 0 0, .slice none 0 0] 80)); have HK6c := hd ((HK6b.o.below hb4).below ((Below.refl _ _).alloc (Nat.le_refl _) (.cells #[.int .i64 4, .string ⟨#[109, 97, 116, 114, 105, 120]⟩, .slice none 0 0, .slice none 0 0] 80))); have HK8b := hd ((HK8.o.below hb4).below ((Below.refl _ _).alloc (Nat.le_refl _) (.cells #[.int .i64 4, .string ⟨#[109, 97, 116, 114, 105, 120]⟩, .slice none 0 0, .slice none 0 0] 80))); have HK10 := hd (RJ.mk_bk w4 (.int .i64 4) (.string ⟨#[109, 97, 116, 114, 105, 120]⟩) (.slice none 0 0) (.slice none 0 0)); clear hJ4 hb4; have e0 := HK8b.o.cell 0 (by simp); have e1 := HK8b.o.cell 1 (by simp); have e2 := HK8b.o.cell 2 (by simp); have e3 := HK8b.o.cell 3 (by simp); simp only [List.getElem_cons_succ, List.getElem_cons_zero] at e0 e1 e2 e3)
    | (go_at_call 36; (with_reducible refine (HM2.o.2 _ HC10.o).mono ?_); rintro e w5 ⟨q5, s5, B5, n5, m5, B6, n6, m6, rfl, hJ5, hb5⟩; have HJ5 := hd hJ5; have HC12 := hd ((bel HC10.o hb5).alloc (bel HC10.o hb5).size (.cells #[.int .i64 q5, .string s5, .slice B5 n5 m5, .slice B6 n6 m6] 80)); have HK6d := hd ((HK6c.o.below hb5).below ((Below.refl _ _).alloc (Nat.le_refl _) (.cells #[.int .i64 q5, .string s5, .slice B5 n5 m5, .slice B6 n6 m6] 80))); have HK10b := hd ((HK10.o.below hb5).below ((Below.refl _ _).alloc (Nat.le_refl _) (.cells #[.int .i64 q5, .string s5, .slice B5 n5 m5, .slice B6 n6 m6] 80))); clear hJ5 hb5 e0 e1 e2 e3; have t1 := HK6d.o.cell 1 (by simp); have t2 := HK10b.o.cell 1 (by simp); simp only [List.getElem_cons_succ, List.getElem_cons_zero] at t1 t2)
    | (go_at_call 40; refine (matrixOf_any HJ5.o (fun k hk => hk.2) hL hn _ HC12.o).mono ?_; rintro e w6 ⟨⟨VA, vc, E, rfl, hek, hvr⟩, hb6⟩; have HSM := hd hvr; have HC14 := hd (bel HC12.o hb6); have HBA := hd (HB1.o.trans (HC14.o.mono HB1.o.size)); have HEK0 := hd hek; have hle := hd (show w.heap.size + 1 ≤ (w5.alloc (.cells #[.int .i64 q5, .string s5, .slice B5 n5 m5, .slice B6 n6 m6] 80)).heap.size from Nat.le_trans HZ1.o.lt HC12.o.size); have HR6 := hd (show Bk w6 w.heap.size 26 _ from (HC14.o.block _ HZ1.o.lt).trans HZ1.o); have r0 := HR6.o.cell 0 (by simp); have r1 := HR6.o.cell 1 (by simp); have r2 := HR6.o.cell 2 (by simp); have r3 := HR6.o.cell 3 (by simp); have r4 := HR6.o.cell 4 (by simp); have r5 := HR6.o.cell 5 (by simp); simp only [List.getElem_cons_succ, List.getElem_cons_zero] at r0 r1 r2 r3 r4 r5; have rf := HR6.o.frozen; clear hek hvr hb6 t1 t2))
  have HX := hd (RJ.res6_set HR6.o (.int .i64 4) (.int .i64 0) (.float .f64 0) (.string ⟨#[]⟩) (.slice none 0 0) (.slice VA E.length vc) _ rfl)
  have HXE := hd (RJ.res6_ex w6 w.heap.size (.int .i64 4) (.int .i64 0) (.float .f64 0) (.string ⟨#[]⟩) (.slice none 0 0) (.slice VA E.length vc))
  have hb0 : Below w.heap.size w _ := HBA.o.trans (HXE.o.below (Nat.le_refl _) HBA.o.size)
  have HEK := hd (show RJ.SK (w.heap.size + 1) _ (.slice VA E.length vc) E from (RJ.SK.ex (r := w.heap.size) ⟨own_mono HEK0.o.own hle.o, fun y hy => own_mono (HEK0.o.lab y hy) hle.o, fun y hy => own_mono (HEK0.o.pts y hy) hle.o⟩ HXE.o (Nat.lt_succ_self _)))
  clear HXE
  revert HEK hb0 HX
  generalize (((((w6.setCell ⟨w.heap.size, 0, none⟩ (.int .i64 4)).setCell ⟨w.heap.size, 1, none⟩ (.int .i64 0)).setCell ⟨w.heap.size, 2, none⟩ (.float .f64 0)).setCell ⟨w.heap.size, 3, none⟩ (.string ⟨#[]⟩)).setCell ⟨w.heap.size, 4, none⟩ (.slice none 0 0)).setCell ⟨w.heap.size, 5, none⟩ (.slice VA E.length vc) = X
  intro HX hb0 HEK
  refine bodyPost_ret (RJ.res61 rfl _ rfl HX.o) rfl ?_
  exact ⟨⟨VA, vc, E, rfl, HEK.o, HSM.o⟩, hb0⟩
end Go.Proofs.YteckfdohgiddgaaGreatDoor
