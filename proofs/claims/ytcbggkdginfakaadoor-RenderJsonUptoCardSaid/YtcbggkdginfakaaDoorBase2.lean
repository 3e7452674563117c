/- More words for all proofs of this seat: rows that a call owns, and what is put behind them. No function of the program in sight. -/
import Derived.Test.YtcbggkdginfakaaDoorBase
namespace Go.Proofs.YtcbggkdginfakaaDoor
open Go.RowKit

section
variable {P : Program} {ops : Array Oper} {rest : List Oper} {o : Oper} {a : Act} {Q : Exit → Act → World → Prop}
theorem grown_of_alloc {W w' : World} {ob : Obj} {row : Option Nat} (h : (W.alloc ob).grownBy w' row) : W.grownBy w' row :=
  ⟨h.os, h.tape, h.output, Nat.le_trans (by simp) h.size, fun k hk hne => (h.block k (by simp; omega) hne).trans (Below.heap_alloc W ob k (by omega))⟩

/-- 'append(s, x0, x1, ..)': the new elements lie in the block made last -/
theorem wpList_app_lit (t e : TypeId) (z : Value) (size bytes : Nat) (ht : P.underlying t = some (.slice e)) (hinfo : (P.info? e).map (fun i => (i.zero, i.size, i.bytes)) = some (some z, size, bytes)) (hzs : z.cells.size = size) (hsz : 0 < size)
    (hgd : o.guard = none) (s x : Operand) (ho : o.op = .call { callee := .builtin .append, args := #[s, x], argTypes := #[t, t] })
    (B : Nat) (v : Value) (n : Nat) (xs : List Value) (W : World) (C : Array Value) (m : Nat) (hs : a.eval s = v) (hx : a.eval x = .slice (some ⟨W.heap.size, 0, none⟩) m m)
    (hown : W.ownsRow B e size v n xs) (hC : C.size = m * size) (h1 : ∀ u ∈ C.toList, u.oneCell' = true) (hb : (n + m) * bytes ≤ 140737488355328) (hn : n + m ≤ 140737488355328) (hB : B ≤ W.heap.size)
    (h : ∀ v' w', w'.ownsRow B e size v' (n + m) (xs ++ C.toList) → W.grownBy w' v.ownBlock → wpList P ops Q rest (a.put o.dst v') w') :
    wpList P ops Q (o :: rest) a (W.alloc (.cells C e)) := by
  obtain ⟨i, hi, hz0, hz1, hz2⟩ := info_parts hinfo
  refine wpList_append_own _ hgd s x t ho B e i z size bytes ht hi hz0 hz1 hz2 hzs hsz v n xs hs (hown.alloc _) ⟨W.heap.size, 0, none⟩ m m C.toList hx (by simpa using hC) ?_ h1 (by unfold maxLen; omega) hb (by simp; omega) ?_
  · intro j u hj
    rw [add_plain, Nat.zero_add, World.cell?_alloc_mark]
    simpa using hj
  · intro v' w' h2 h3 _
    exact h v' w' h2 (grown_of_alloc h3)
end

section
variable {P : Program} {ops : Array Oper} {rest : List Oper} {o : Oper} {a : Act} {Q : Exit → Act → World → Prop}
/-- 'make([]T, 0, n)' -/
theorem wpList_mk0 (w : World) (t e : TypeId) (z : Value) (size bytes : Nat) (ht : P.underlying t = some (.slice e)) (hinfo : (P.info? e).map (fun i => (i.zero, i.size, i.bytes)) = some (some z, size, bytes))
    (hgd : o.guard = none) (l c : Operand) (hop : o.op = Op.makeSlice t l c) (B : Nat) (kl kc : IntKind) (n : Nat) (hl : a.eval l = .int kl 0) (hc : a.eval c = .int kc (n : Int))
    (hb : bytes * n ≤ 281474976710656) (hn : n ≤ 9223372036854775807) (hB : B ≤ w.heap.size)
    (h : ∀ w', w'.ownsRow B e size (.slice (some ⟨w.heap.size, 0, none⟩) 0 n) 0 [] → w.grownBy w' none → wpList P ops Q rest (a.put o.dst (.slice (some ⟨w.heap.size, 0, none⟩) 0 n)) w') :
    wpList P ops Q (o :: rest) a w := by
  obtain ⟨i, hi, hz0, hz1, hz2⟩ := info_parts hinfo
  exact wpList_make_own w hgd l c t hop B e i z size ht hi hz0 hz1 kl kc _ n hl hc rfl (by rw [hz2]; exact hb) (by unfold maxLen; omega) hB h
/-- 'make([]T, n)' -/
theorem wpList_mkn (w : World) (t e : TypeId) (z : Value) (size bytes : Nat) (ht : P.underlying t = some (.slice e)) (hinfo : (P.info? e).map (fun i => (i.zero, i.size, i.bytes)) = some (some z, size, bytes))
    (hgd : o.guard = none) (l c : Operand) (hop : o.op = Op.makeSlice t l c) (B : Nat) (kl kc : IntKind) (n : Nat) (hl : a.eval l = .int kl (n : Int)) (hc : a.eval c = .int kc (n : Int))
    (hb : bytes * n ≤ 281474976710656) (hn : n ≤ 9223372036854775807) (hB : B ≤ w.heap.size)
    (h : ∀ w', w'.ownsRow B e size (.slice (some ⟨w.heap.size, 0, none⟩) n n) n (madeCells z.cells (n * size)).toList → w.grownBy w' none → wpList P ops Q rest (a.put o.dst (.slice (some ⟨w.heap.size, 0, none⟩) n n)) w') :
    wpList P ops Q (o :: rest) a w := by
  obtain ⟨i, hi, hz0, hz1, hz2⟩ := info_parts hinfo
  exact wpList_make_full w hgd l c t hop B e i z size ht hi hz0 hz1 kl kc _ _ n hl hc rfl rfl (by rw [hz2]; exact hb) (by unfold maxLen; omega) hB h
end
theorem bel_grown {w a b : World} {row : Option Nat} (h : Below w.heap.size w a) (hg : a.grownBy b row) (hr : ∀ k, row = some k → w.heap.size ≤ k) : Below w.heap.size w b := h.grown hg h.size hr
/-- another block of whatever kind is kept where one row is written -/
theorem grown_keep {a b : World} {row : Option Nat} (hg : a.grownBy b row) {k : Nat} {ob : Obj} (h : a.heap[k]? = some ob) (hne : some k ≠ row) : b.heap[k]? = some ob :=
  (hg.block k (Array.getElem?_eq_some_iff.1 h).1 hne).trans h
/-- a row's block is no iterator -/
theorem own_ne_iter {w : World} {base : Nat} {e : TypeId} {size n : Nat} {v : Value} {xs : List Value} (h : w.ownsRow base e size v n xs) {k : Nat} {s : ByteArray} {p : Nat} (hk : w.heap[k]? = some (.stringIter s p)) : some k ≠ v.ownBlock := by
  rcases h.2 with ⟨rfl, _⟩ | ⟨g, cap, cur, rfl, _, hh, _⟩
  · simp [Value.ownBlock]
  · intro he
    have : k = g := by simpa [Value.ownBlock] using he
    rw [this, hh] at hk
    cases hk
theorem own_iterAt {w : World} {base : Nat} {e : TypeId} {size n : Nat} {v : Value} {xs : List Value} (h : w.ownsRow base e size v n xs) {k : Nat} {s : ByteArray} {p : Nat} (hk : w.heap[k]? = some (.stringIter s p)) (q : Nat) : (w.iterAt k s q).ownsRow base e size v n xs := by
  have hne := own_ne_iter h hk
  refine ⟨h.1, ?_⟩
  rcases h.2 with hn | ⟨g, cap, cur, rfl, hb, hh, rest⟩
  · exact .inl hn
  · exact .inr ⟨g, cap, cur, rfl, hb, (Lib.iterAt_other w k g s q (fun e => hne (by simp [Value.ownBlock, e]))).trans hh, rest⟩

theorem iterPos_of {w : World} {k : Nat} {s : ByteArray} {p : Nat} (h : w.heap[k]? = some (.stringIter s p)) : w.iterPos k = p := by simp [World.iterPos, h]

/-- a fact kept from the walk and from its search for a contradiction -/
def Hd (p : Prop) : Prop := ∀ _ : Unit, p
theorem hd {p : Prop} (h : p) : Hd p := fun _ => h
theorem Hd.o {p : Prop} (h : Hd p) : p := h ()

/-- what a call leaves that appends to a row of its caller's -/
def Appd (B : Nat) (e : TypeId) (size : Nat) (w : World) (v : Value) (n : Nat) (xs : List Value) (m : Nat) (news : List Value) (en : Ending) (w' : World) : Prop :=
  ∃ v', en = .returned v' ∧ w'.ownsRow B e size v' (n + m) (xs ++ news) ∧ w.grownBy w' v.ownBlock
/-- the bytes of a text, cell by cell -/
def cellsB (l : List UInt8) : List Value := l.map (fun b => Value.int .u8 (b.toNat : Int))
theorem cellsB_app (l r : List UInt8) : cellsB (l ++ r) = cellsB l ++ cellsB r := by simp [cellsB]
theorem cellsB_len (l : List UInt8) : (cellsB l).length = l.length := by simp [cellsB]
end Go.Proofs.YtcbggkdginfakaaDoor
