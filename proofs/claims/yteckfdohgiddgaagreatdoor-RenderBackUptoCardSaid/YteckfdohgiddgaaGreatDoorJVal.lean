/- The plain reader of JSON (weirref29): its memory; peek, blanks, take. The plain reader of JSON: digit, digits, number. The plain reader of JSON: hex, unit, utf8, escape. The plain reader of JSON: text. The plain reader of JSON: value without parts. -/
import Derived.Test.YteckfdohgiddgaaGreatDoorRNamesW
import Derived.Test.YteckfdohgiddgaaGreatDoorBQuiet
namespace Go.Proofs.YteckfdohgiddgaaGreatDoor
open Go.RowKit
set_option linter.unusedVariables false
set_option linter.unusedSimpArgs false
namespace RJ
/-- all that is there stays, but for block r -/
structure Ex (r : Nat) (w w' : World) : Prop where
  os : w'.os = w.os
  tape : w'.tape = w.tape
  output : w'.output = w.output
  size : w.heap.size ≤ w'.heap.size
  block : ∀ k, k < w.heap.size → k ≠ r → w'.heap[k]? = w.heap[k]?
theorem Ex.refl (r : Nat) (w : World) : Ex r w w := ⟨rfl, rfl, rfl, Nat.le_refl _, fun _ _ _ => rfl⟩
theorem Ex.trans {r : Nat} {a b c : World} (h : Ex r a b) (k : Ex r b c) : Ex r a c :=
  ⟨k.os.trans h.os, k.tape.trans h.tape, k.output.trans h.output, Nat.le_trans h.size k.size, fun i hi hr => (k.block i (Nat.lt_of_lt_of_le hi h.size) hr).trans (h.block i hi hr)⟩
theorem Ex.of_below {r : Nat} {w w' : World} (h : Below w.heap.size w w') : Ex r w w' := ⟨h.os, h.tape, h.output, h.size, fun k hk _ => h.block k hk⟩
theorem Ex.set (r : Nat) (w : World) (j : Nat) (u : Value) : Ex r w (w.setCell ⟨r, j, none⟩ u) :=
  ⟨rfl, rfl, rfl, by simp [World.setCell], fun k hk hr => Below.heap_setCell _ _ _ _ hr⟩
theorem Ex.below {r B : Nat} {w w' : World} (h : Ex r w w') (hB : B ≤ r) (hw : B ≤ w.heap.size) : Below B w w' :=
  ⟨h.os, h.tape, h.output, h.size, fun k hk => h.block k (by omega) (by omega)⟩
theorem own_ex {w w' : World} {r B : Nat} {e : TypeId} {size : Nat} {v : Value} {n : Nat} {xs : List Value} (h : w.ownsRow B e size v n xs) (hx : Ex r w w') (hr : r < B) : w'.ownsRow B e size v n xs := by
  refine ⟨h.1, ?_⟩
  rcases h.2 with hn | ⟨g, cap, cur, rfl, hB, hg, rest⟩
  · exact .inl hn
  · exact .inr ⟨g, cap, cur, rfl, hB, (hx.block g (Array.getElem?_eq_some_iff.1 hg).1 (by omega)).trans hg, rest⟩
theorem bk_ex {w w' : World} {r g : Nat} {e : TypeId} {L : List Value} (h : Bk w g e L) (hx : Ex r w w') (hr : g ≠ r) : Bk w' g e L := (hx.block g h.lt hr).trans h
/-- the reader r stands at place p of the bytes L -/
structure At (w0 w : World) (r : Nat) (bv : Value) (L : List UInt8) (p : Nat) : Prop where
  old : Below w0.heap.size w0 w
  rb : w0.heap.size ≤ r
  blk : Bk w r 131 [bv, .int .i64 (p : Int), .bool false]
  bs : IsL 1 w0 bv L.length (cellsB L)
  lim : L.length ≤ 1125899906842624
  cp : ∃ A c, bv = .slice A L.length c ∧ L.length ≤ c
variable {w0 w w' : World} {r : Nat} {bv : Value} {L : List UInt8} {p : Nat}
theorem At.le (h : At w0 w r bv L p) : w0.heap.size ≤ w.heap.size := h.old.size
theorem At.lt (h : At w0 w r bv L p) : r < w.heap.size := h.blk.lt
theorem At.below (h : At w0 w r bv L p) (hb : Below w.heap.size w w') : At w0 w' r bv L p := ⟨h.old.trans (hb.mono h.le), h.rb, h.blk.below hb, h.bs, h.lim, h.cp⟩
theorem At.set (h : At w0 w r bv L p) (q : Nat) : At w0 (w.setCell ⟨r, 1, none⟩ (.int .i64 (q : Int))) r bv L q :=
  ⟨h.old.setCell (p := ⟨r, 1, none⟩) h.rb _, h.rb, h.blk.set 1 _, h.bs, h.lim, h.cp⟩
theorem At.c0 (h : At w0 w r bv L p) : w.cell? ⟨r, 0, none⟩ = some bv := h.blk.cell 0 (by simp)
theorem At.c1 (h : At w0 w r bv L p) : w.cell? ⟨r, 1, none⟩ = some (.int .i64 (p : Int)) := h.blk.cell 1 (by simp)
theorem At.c2 (h : At w0 w r bv L p) : w.cell? ⟨r, 2, none⟩ = some (.bool false) := h.blk.cell 2 (by simp)
theorem At.shape (h : At w0 w r bv L p) : ∃ A c, bv = .slice A L.length c := by
  obtain ⟨_, A, c, e, _⟩ := h.bs
  exact ⟨A, c, e⟩
theorem At.row (h : At w0 w r bv L p) (h0 : 0 < L.length) : ∃ b off c, bv = .slice (some ⟨b, off, none⟩) L.length c ∧ L.length ≤ c ∧ b < w0.heap.size ∧ ∀ W', Below w0.heap.size w0 W' → ∀ k (hk : k < L.length), W'.cell? ⟨b, off + k, none⟩ = some (.int .u8 ((L[k]'hk).toNat : Int)) := by
  obtain ⟨_, A, c, e, hr⟩ := h.bs
  obtain ⟨b, off, rfl, hb, hc⟩ := hr.head (by rw [cellsB_len]; omega)
  obtain ⟨A', c', e', hle⟩ := h.cp
  rw [e] at e'
  simp only [Value.slice.injEq, true_and] at e'
  obtain ⟨_, rfl⟩ := e'
  refine ⟨b, off, c, e, hle, hb, fun W' hW k hk => ?_⟩
  rw [hW.cell (p := ⟨b, off + k, none⟩) hb, hc k (by rw [cellsB_len]; exact hk)]
  simp [cellsB]
theorem At.byte (h : At w0 w r bv L p) (k : Nat) (hk : k < L.length) : ∃ b off c, bv = .slice (some ⟨b, off, none⟩) L.length c ∧ w.cell? ⟨b, off + k, none⟩ = some (.int .u8 ((L[k]'hk).toNat : Int)) := by
  obtain ⟨_, A, c, e, hr⟩ := h.bs
  obtain ⟨b, off, rfl, hb, hc⟩ := hr.head (by rw [cellsB_len]; omega)
  refine ⟨b, off, c, e, ?_⟩
  rw [h.old.cell (p := ⟨b, off + k, none⟩) hb, hc k (by rw [cellsB_len]; exact hk)]
  simp [cellsB]
end RJ
open RJ
section
variable {w0 w : World} {r : Nat} {bv : Value} {L : List UInt8} {p : Nat}
/-- the byte at p; 0 behind the end -/
def RJ.pk (L : List UInt8) (p : Nat) : Nat := if h : p < L.length then (L[p]'h).toNat else 0
theorem RJ.pk_lt (L : List UInt8) (p : Nat) : RJ.pk L p < 256 := by
  unfold RJ.pk; split
  · exact (L[p]).toNat_lt
  · decide
set_option maxHeartbeats 1000000 in
theorem jpeek_any (h : At w0 w r bv L p) :
    Calls Tryz.prog 129 #[.pointer (some ⟨r, 0, none⟩)] w fun e w' => e = .returned (.int .u8 (RJ.pk L p : Int)) ∧ Below w.heap.size w w' := by
  have hL := h.lim
  have a0 := fun n : Nat => (h.below (bel_drew (Below.refl w.heap.size w) n)).c0
  have a1 := fun n : Nat => (h.below (bel_drew (Below.refl w.heap.size w) n)).c1
  by_cases hp : p < L.length
  · obtain ⟨b, off, c, rfl, hb⟩ := h.byte p hp
    have a2 := fun n : Nat => (((bel_drew (Below.refl w.heap.size w) n).cell (p := ⟨b, off + p, none⟩) (World.block_lt_of_cell? w _ hb))).trans hb
    have HE : Hd (RJ.pk L p = (L[p]'hp).toNat) := hd (by unfold RJ.pk; rw [dif_pos hp])
    obtain ⟨N, hN⟩ : ∃ N, N = L.length := ⟨_, rfl⟩
    rw [HE.o]
    generalize (L[p]'hp).toNat = x at *
    rw [← hN] at a0 hp hL
    clear h hb hN HE
    go_enter Tryz.func129, Tryz.ntmps129
    go_wp2_with fail
    go_quiet (fail)
    go_wp2_with fail
    go_quiet (fail)
    go_wp2
    go_ret
    exact ⟨rfl, bel_drew (bel_drew (Below.refl _ _) _) _⟩
  · obtain ⟨A, c, rfl⟩ := h.shape
    have HE : Hd (RJ.pk L p = 0) := hd (by unfold RJ.pk; rw [dif_neg hp])
    obtain ⟨N, hN⟩ : ∃ N, N = L.length := ⟨_, rfl⟩
    rw [HE.o]
    rw [← hN] at a0 hp hL
    have hp2 : ¬ (p : Int) < (N : Int) := by omega
    clear h hN HE
    go_enter Tryz.func129, Tryz.ntmps129
    go_wp2_with fail
    go_quiet (fail)
    go_wp2
    go_ret
    exact ⟨rfl, bel_drew (Below.refl _ _) _⟩
set_option maxHeartbeats 1000000 in
theorem jblanks_any (h : At w0 w r bv L p) (hb : RJ.pk L p ≠ 32 ∧ RJ.pk L p ≠ 10 ∧ RJ.pk L p ≠ 13 ∧ RJ.pk L p ≠ 9) :
    Calls Tryz.prog 77 #[.pointer (some ⟨r, 0, none⟩)] w fun e w' => e = .returned (.tuple #[]) ∧ Below w.heap.size w w' := by
  have hL := h.lim
  have a0 := fun n : Nat => (h.below (bel_drew (Below.refl w.heap.size w) n)).c0
  have a1 := fun n : Nat => (h.below (bel_drew (Below.refl w.heap.size w) n)).c1
  have b0 := h.c0
  have b1 := h.c1
  by_cases hp : p < L.length
  · obtain ⟨b, off, c, rfl, hc⟩ := h.byte p hp
    have a2 := fun n : Nat => (((bel_drew (Below.refl w.heap.size w) n).cell (p := ⟨b, off + p, none⟩) (World.block_lt_of_cell? w _ hc))).trans hc
    have HE : RJ.pk L p = (L[p]'hp).toNat := by unfold RJ.pk; rw [dif_pos hp]
    rw [HE] at hb
    obtain ⟨N, hN⟩ : ∃ N, N = L.length := ⟨_, rfl⟩
    generalize (L[p]'hp).toNat = x at *
    rw [← hN] at a0 b0 hp hL
    have t1 : ((x : Int) != 32) = true := by rw [bne_iff_ne]; omega
    have t2 : ((x : Int) != 10) = true := by rw [bne_iff_ne]; omega
    have t3 : ((x : Int) != 13) = true := by rw [bne_iff_ne]; omega
    have t4 : ((x : Int) != 9) = true := by rw [bne_iff_ne]; omega
    clear h hc hN HE hb
    go_enter Tryz.func77, Tryz.ntmps77
    go_wp2_with fail
    go_loopw [2] (fun x wr => wr = w) (fun x wr => 0)
    case atStart => rfl
    case round =>
      subst hrel
      go_wp2_with fail
      go_quiet (fail)
      go_wp2_with fail
      go_quiet (fail)
      go_wp2
      refine bodyPost_ret (results_none rfl _ _ _) rfl ?_
      exact ⟨rfl, bel_drew (Below.refl _ _) _⟩
  · obtain ⟨A, c, rfl⟩ := h.shape
    obtain ⟨N, hN⟩ : ∃ N, N = L.length := ⟨_, rfl⟩
    rw [← hN] at a0 b0 hp hL
    have hp2 : ¬ (p : Int) < (N : Int) := by omega
    clear h hN hb
    go_enter Tryz.func77, Tryz.ntmps77
    go_wp2_with fail
    go_loopw [2] (fun x wr => wr = w) (fun x wr => 0)
    case atStart => rfl
    case round =>
      subst hrel
      go_wp2_with fail
      go_quiet (fail)
      go_wp2
      go_end0
      exact ⟨rfl, bel_drew (Below.refl _ _) _⟩
theorem jslice_run (W : World) (b off n c p k : Nat) (h : p + k ≤ c) (hk : 0 < k) :
    (Instr.sliceAt 32 (.slice (some ⟨b, off, none⟩) n c) (some (.int .i64 (p : Int))) (some (.int .i64 ((p : Int) + (k : Int)))) none).run Tryz.prog W = .ok (.slice (some ⟨b, off + p, none⟩) k (c - p)) W := by
  rw [run_sliceAt_slice W _ _ _ _ _ (by kernel_rfl), run_slice_lh W _ _ _ _ (by kernel_rfl) _ _ _ _ (by omega) (by omega) (by omega)]
  have hs : (sizeOf (Tryz.prog.elem 32)).run Tryz.prog W = .ok 1 W := by kernel_rfl
  rw [hs]
  have e1 : ((p : Int)).toNat = p := by omega
  have e2 : ((p : Int) + (k : Int)).toNat = p + k := by omega
  simp only [Result.andThen, sliced, e1, e2]
  rw [if_neg (by omega)]
  simp only [Option.map, Addr.add, Nat.mul_one, Nat.add_sub_cancel_left]
  split
  · rename_i h0; subst h0; rfl
  · rfl
set_option maxHeartbeats 1000000 in
theorem jtake_any (h : At w0 w r bv L p) (s : ByteArray) (h0 : 0 < s.size) (hs : s.size ≤ 1000) (hp : p + s.size ≤ L.length) (he : (L.drop p).take s.size = s.data.toList) :
    Calls Tryz.prog 130 #[.pointer (some ⟨r, 0, none⟩), .string s] w fun e w' => e = .returned (.tuple #[]) ∧ At w0 w' r bv L (p + s.size) ∧ Ex r w w' := by
  have hL := h.lim
  obtain ⟨b, off, c, rfl, hc, hb, hcell⟩ := h.row (by omega)
  have a0 := fun n : Nat => (h.below (bel_drew (Below.refl w.heap.size w) n)).c0
  have a1 := fun n : Nat => (h.below (bel_drew (Below.refl w.heap.size w) n)).c1
  have fz := fun n : Nat => (h.below (bel_drew (Below.refl w.heap.size w) n)).blk.frozen 1
  have HAS : Hd (∀ n : Nat, At w0 ((w.drewN n).setCell ⟨r, 1, none⟩ (.int .i64 ((p : Int) + (s.size : Int)))) r (.slice (some ⟨b, off, none⟩) L.length c) L (p + s.size) ∧ Ex r w ((w.drewN n).setCell ⟨r, 1, none⟩ (.int .i64 ((p : Int) + (s.size : Int))))) := hd fun n => by
    have := (h.below (bel_drew (Below.refl w.heap.size w) n)).set (p + s.size)
    rw [Int.natCast_add] at this
    exact ⟨this, (Ex.of_below (bel_drew (Below.refl w.heap.size w) n)).trans (Ex.set r _ 1 _)⟩
  have cv : ∀ n : Nat, (convert 32 9 (.slice (some ⟨b, off + p, none⟩) s.size (c - p))).run Tryz.prog (w.drewN n) = .ok (.string s) (w.drewN n) := fun n => by
    have hI : IsL 1 (w.drewN n) (.slice (some ⟨b, off + p, none⟩) s.size (c - p)) s.size (cellsB s.data.toList) := by
      refine ⟨by rw [cellsB_len, Nat.mul_one, ← Lib.size_eq], _, _, rfl, fun k hk => ⟨b, off + p, rfl, ?_⟩⟩
      rw [cellsB_len, ← Lib.size_eq] at hk
      rw [Nat.add_assoc, hcell (w.drewN n) (bel_drew h.old n) (p + k) (by omega)]
      have e1 : (cellsB s.data.toList)[k]? = some (.int .u8 ((L[p + k]'(by omega)).toNat : Int)) := by
        rw [← he]
        unfold cellsB
        rw [List.getElem?_map, List.getElem?_take_of_lt hk, List.getElem?_drop, List.getElem?_eq_getElem (by omega)]
        rfl
      rw [List.getElem?_eq_getElem (by rw [cellsB_len, ← Lib.size_eq]; exact hk)] at e1
      exact e1.symm
    rw [conv_isL hI]
  have hsl := fun W : World => jslice_run W b off L.length c p s.size (by omega) h0
  have hcI : (p : Int) + (s.size : Int) ≤ (c : Int) := by omega
  have hpI : (p : Int) + (s.size : Int) ≤ (L.length : Int) := by omega
  obtain ⟨N, hN⟩ : ∃ N, N = L.length := ⟨_, rfl⟩
  rw [← hN] at a0 hL hpI hc HAS hsl ⊢
  clear h he hcell hb hN hp hc
  have hwr : IntKind.i64.wrap ((p : Int) + (s.size : Int)) = (p : Int) + (s.size : Int) := by rw [IntKind.wrap_i64]; omega
  have hle : ((N : Int) < (p : Int) + (s.size : Int)) = False := eq_false (by omega)
  go_enter Tryz.func130, Tryz.ntmps130
  go_wp2_with fail
  go_quiet (fail)
  go_wp2_with fail
  go_end0
  exact ⟨rfl, HAS.o _⟩
end
end Go.Proofs.YteckfdohgiddgaaGreatDoor
namespace Go.Proofs.YteckfdohgiddgaaGreatDoor
open Go.RowKit
set_option linter.unusedVariables false
set_option linter.unusedSimpArgs false
open RJ
namespace RJ
def pos (w : World) (r : Nat) : Nat := match w.cell? ⟨r, 1, none⟩ with
  | some (.int _ z) => z.toNat
  | _ => 0
theorem At.pos {w0 w : World} {r : Nat} {bv : Value} {L : List UInt8} {p : Nat} (h : At w0 w r bv L p) : RJ.pos w r = p := by
  unfold RJ.pos; rw [h.c1]; exact Int.toNat_natCast p
def isD (c : Nat) : Bool := decide (48 ≤ c) && decide (c ≤ 57)
theorem At.set1 {w0 w : World} {r : Nat} {bv : Value} {L : List UInt8} {p : Nat} (h : At w0 w r bv L p) : At w0 (w.setCell ⟨r, 1, none⟩ (.int .i64 ((p : Int) + 1))) r bv L (p + 1) := by
  have := h.set (p + 1)
  rw [Int.natCast_add] at this
  exact this
theorem At.wr {w0 w : World} {r : Nat} {bv : Value} {L : List UInt8} {p : Nat} (h : At w0 w r bv L p) (hp : p < L.length) : IntKind.i64.wrap ((p : Int) + 1) = (p : Int) + 1 := by
  have := h.lim
  rw [IntKind.wrap_i64]; omega
theorem At.step {w0 w : World} {r : Nat} {bv : Value} {L : List UInt8} {p q : Nat} (h : At w0 w r bv L p) (e : q = p + 1) : At w0 (w.setCell ⟨r, 1, none⟩ (.int .i64 ((p : Int) + 1))) r bv L q := e ▸ h.set1
theorem At.stx {w0 w u : World} {r : Nat} {bv : Value} {L : List UInt8} {p : Nat} (h : At w0 w r bv L p) (x : Ex r u w) : Ex r u (w.setCell ⟨r, 1, none⟩ (.int .i64 ((p : Int) + 1))) := x.trans (Ex.set r _ 1 _)
/-- the bytes from a to b are digits, and the next is none -/
structure Run (L : List UInt8) (a b : Nat) : Prop where
  lt : a < b
  dg : ∀ i, a ≤ i → i < b → isD (pk L i) = true
  nd : isD (pk L b) = false
/-- the reader's one cell of place stands free to be written -/
theorem At.fz {w0 w : World} {r : Nat} {bv : Value} {L : List UInt8} {p : Nat} (h : At w0 w r bv L p) : w.frozen? ⟨r, 1, none⟩ = false := h.blk.frozen 1
theorem pk_in {L : List UInt8} {q : Nat} (h : pk L q ≠ 0) : q < L.length := by
  unfold pk at h
  split at h
  · assumption
  · exact absurd rfl h
end RJ
theorem jdigit_any (c : Nat) (hc : c < 256) (w : World) :
    Calls Tryz.prog 219 #[.int .u8 (c : Int)] w fun e w' => e = .returned (.bool (RJ.isD c)) ∧ Below w.heap.size w w' := by
  by_cases h1 : 48 ≤ c
  · by_cases h2 : c ≤ 57
    · have HE : Hd (RJ.isD c = true) := hd (by unfold RJ.isD; simp [h1, h2])
      have t1 : ((48 : Int) ≤ (c : Int)) = True := eq_true (by omega)
      have t2 : ((c : Int) ≤ 57) = True := eq_true (by omega)
      rw [HE.o]
      go_enter Tryz.func219, Tryz.ntmps219
      go_wp2
      go_ret
      exact ⟨rfl, Below.refl _ _⟩
    · have HE : Hd (RJ.isD c = false) := hd (by unfold RJ.isD; simp [h1, h2])
      have t1 : ((48 : Int) ≤ (c : Int)) = True := eq_true (by omega)
      have t2 : ((c : Int) ≤ 57) = False := eq_false (by omega)
      rw [HE.o]
      go_enter Tryz.func219, Tryz.ntmps219
      go_wp2
      go_ret
      exact ⟨rfl, Below.refl _ _⟩
  · have HE : Hd (RJ.isD c = false) := hd (by unfold RJ.isD; simp [h1])
    have t1 : ((48 : Int) ≤ (c : Int)) = False := eq_false (by omega)
    rw [HE.o]
    go_enter Tryz.func219, Tryz.ntmps219
    go_wp2
    go_ret
    exact ⟨rfl, Below.refl _ _⟩
section
variable {w0 w : World} {r : Nat} {bv : Value} {L : List UInt8} {p : Nat}
set_option maxHeartbeats 1000000 in
theorem jdigits_any (h : At w0 w r bv L p) (k : Nat) (hk : 0 < k) (h1 : ∀ i, i < k → RJ.isD (RJ.pk L (p + i)) = true) (h2 : RJ.isD (RJ.pk L (p + k)) = false) :
    Calls Tryz.prog 183 #[.pointer (some ⟨r, 0, none⟩)] w fun e w' => e = .returned (.tuple #[]) ∧ At w0 w' r bv L (p + k) ∧ Ex r w w' := by
  have HA := hd h
  have H1 := hd h1
  have H2 := hd h2
  have e0 : RJ.isD (RJ.pk L p) = true := h1 0 hk
  have HK := hd hk
  clear h h1 h2 hk
  go_enter Tryz.func183, Tryz.ntmps183
  go_wp2_with (first
    | (go_at_call 129; refine (jpeek_any HA.o).mono ?_; rintro e w1 ⟨rfl, hb1⟩; have HA1 := hd (HA.o.below hb1); have HX1 := hd (Ex.of_below (r := r) hb1); clear hb1)
    | (go_at_call 219; refine (jdigit_any _ (RJ.pk_lt _ _) _).mono ?_; rintro e w2 ⟨rfl, hb2⟩; have HA2 := hd (HA1.o.below hb2); have HX2 := hd (HX1.o.trans (Ex.of_below (r := r) hb2)); clear hb2))
  have HA3 := HA2
  have HX3 := HX2
  clear HA HA1 HX1 HA2 HX2
  go_loopw [] (fun wr => ∃ q i : Nat, Hd (q = p + i) ∧ i ≤ k ∧ Hd (At w0 wr r bv L q) ∧ Hd (Ex r w wr)) (fun wr => p + k - RJ.pos wr r)
  case atStart => exact ⟨p, 0, hd rfl, Nat.zero_le _, HA3, HX3⟩
  case round =>
    obtain ⟨q, i, HQ, hi, HA, HX⟩ := hrel
    clear HA3 HX3
    by_cases hik : i < k
    · have HD : Hd (RJ.isD (RJ.pk L q) = true) := hd (HQ.o ▸ H1.o i hik)
      have hlt : q < L.length := RJ.pk_in (fun e => by have := HD.o; rw [e] at this; exact absurd this (by decide))
      have hw := HA.o.wr hlt
      have ed := HD.o
      go_wp2_with (first
        | (go_at_call 129; refine (jpeek_any HA.o).mono ?_; rintro e w4 ⟨rfl, hb1⟩; have HA1 := hd (HA.o.below hb1); have HX1 := hd (HX.o.trans (Ex.of_below (r := r) hb1)); clear hb1)
        | (go_at_call 219; refine (jdigit_any _ (RJ.pk_lt _ _) _).mono ?_; rintro e w5 ⟨rfl, hb2⟩; have HA2 := hd (HA1.o.below hb2); have HX2 := hd (HX1.o.trans (Ex.of_below (r := r) hb2)); have cc := HA2.o.c1; have fz := HA2.o.fz; clear hb2))
      go_roundw
      case rel => exact ⟨q + 1, i + 1, hd (by rw [HQ.o]; omega), by omega, hd (HA2.o.set1), hd (HX2.o.trans (Ex.set r _ 1 _))⟩
      case measure => rw [HA2.o.set1.pos, HA.o.pos]; have := HQ.o; omega
    · obtain rfl : i = k := by omega
      have ed : RJ.isD (RJ.pk L q) = false := HQ.o ▸ H2.o
      go_wp2_with (first
        | (go_at_call 129; refine (jpeek_any HA.o).mono ?_; rintro e w4 ⟨rfl, hb1⟩; have HA1 := hd (HA.o.below hb1); have HX1 := hd (HX.o.trans (Ex.of_below (r := r) hb1)); clear hb1)
        | (go_at_call 219; refine (jdigit_any _ (RJ.pk_lt _ _) _).mono ?_; rintro e w5 ⟨rfl, hb2⟩; have HA2 := hd (HA1.o.below hb2); have HX2 := hd (HX1.o.trans (Ex.of_below (r := r) hb2)); have cc := HA2.o.c1; have fz := HA2.o.fz; clear hb2))
      go_end0
      exact ⟨rfl, HQ.o ▸ HA2.o, HX2.o⟩
theorem jdigits_run {a b : Nat} (h : At w0 w r bv L a) (d : RJ.Run L a b) :
    Calls Tryz.prog 183 #[.pointer (some ⟨r, 0, none⟩)] w fun e w' => e = .returned (.tuple #[]) ∧ At w0 w' r bv L b ∧ Ex r w w' := by
  have e : b = a + (b - a) := by have := d.lt; omega
  have := jdigits_any h (b - a) (by have := d.lt; omega) (fun i hi => d.dg _ (by omega) (by omega)) (by rw [← e]; exact d.nd)
  rw [← e] at this
  exact this
/-- the bytes from p to q read as a text -/
theorem RJ.At.cut {b off c : Nat} {q : Nat} (h : At w0 w r (.slice (some ⟨b, off, none⟩) L.length c) L p) {a : Nat} (haq : a < q) (hq : q ≤ L.length) (s : ByteArray) (hs : (L.drop a).take (q - a) = s.data.toList) :
    (∀ W : World, (Instr.sliceAt 32 (.slice (some ⟨b, off, none⟩) L.length c) (some (.int .i64 (a : Int))) (some (.int .i64 (q : Int))) none).run Tryz.prog W = .ok (.slice (some ⟨b, off + a, none⟩) s.size (c - a)) W) ∧
    ∀ n : Nat, (convert 32 9 (.slice (some ⟨b, off + a, none⟩) s.size (c - a))).run Tryz.prog (w.drewN n) = .ok (.string s) (w.drewN n) := by
  have hsz : s.size = q - a := by
    rw [Lib.size_eq, ← hs, List.length_take, List.length_drop]; omega
  obtain ⟨b', off', c', e, hc, hb, hcell⟩ := h.row (by omega)
  simp only [Value.slice.injEq, Option.some.injEq, Addr.mk.injEq, and_true, true_and] at e
  obtain ⟨⟨rfl, rfl⟩, rfl⟩ := e
  refine ⟨fun W => ?_, fun n => ?_⟩
  · have := jslice_run W b off L.length c a s.size (by omega) (by omega)
    rw [hsz] at this ⊢
    have e2 : (a : Int) + ((q - a : Nat) : Int) = (q : Int) := by omega
    rw [e2] at this
    exact this
  · have hI : IsL 1 (w.drewN n) (.slice (some ⟨b, off + a, none⟩) s.size (c - a)) s.size (cellsB s.data.toList) := by
      refine ⟨by rw [cellsB_len, Nat.mul_one, ← Lib.size_eq], _, _, rfl, fun k hk => ⟨b, off + a, rfl, ?_⟩⟩
      rw [cellsB_len, ← Lib.size_eq] at hk
      rw [Nat.add_assoc, hcell (w.drewN n) (bel_drew h.old n) (a + k) (by omega)]
      have e1 : (cellsB s.data.toList)[k]? = some (.int .u8 ((L[a + k]'(by omega)).toNat : Int)) := by
        rw [← hs]
        unfold cellsB
        rw [List.getElem?_map, List.getElem?_take_of_lt (by omega), List.getElem?_drop, List.getElem?_eq_getElem (by omega)]
        rfl
      rw [List.getElem?_eq_getElem (by rw [cellsB_len, ← Lib.size_eq]; exact hk)] at e1
      exact e1.symm
    rw [conv_isL hI]
set_option maxHeartbeats 4000000 in
theorem jnumber_any (h : At w0 w r bv L p) (p1 p2 p3 p4 : Nat)
    (hs : (p1 = p + 1 ∧ RJ.pk L p = 45) ∨ (p = p1 ∧ RJ.pk L p ≠ 45))
    (hi : (p2 = p1 + 1 ∧ RJ.pk L p1 = 48) ∨ (RJ.Run L p1 p2 ∧ RJ.pk L p1 ≠ 48))
    (hf : (p3 = p2 + 1 ∧ RJ.pk L p2 = 46 ∧ RJ.Run L p3 p4) ∨ (p2 = p4 ∧ RJ.pk L p2 ≠ 46))
    (he : RJ.pk L p4 ≠ 101 ∧ RJ.pk L p4 ≠ 69) (hq : p4 ≤ L.length) (s : ByteArray) (hst : (L.drop p).take (p4 - p) = s.data.toList) :
    Calls Tryz.prog 133 #[.pointer (some ⟨r, 0, none⟩)] w fun e w' => e = .returned (.string s) ∧ At w0 w' r bv L p4 ∧ Ex r w w' := by
  have hlt : p < p4 := by
    have x1 : p ≤ p1 := by omega
    have x2 : p1 < p2 := by rcases hi with ⟨e, _⟩ | ⟨e, _⟩; omega; exact e.lt
    have x3 : p2 ≤ p4 := by rcases hf with ⟨e, _, e2⟩ | ⟨e, _⟩; have := e2.lt; omega; omega
    omega
  obtain ⟨b, off, c, rfl, x⟩ := h.row (by omega)
  clear x
  have HC := hd fun W (hW : At w0 W r (.slice (some ⟨b, off, none⟩) L.length c) L p4) => hW.cut hlt hq s hst
  have t1 : ((RJ.pk L p4 : Int) == 101) = false := by rw [beq_eq_false_iff_ne]; omega
  have t2 : ((RJ.pk L p4 : Int) == 69) = false := by rw [beq_eq_false_iff_ne]; omega
  have HS : (Hd (p1 = p + 1) ∧ ((RJ.pk L p : Int) == 45) = true) ∨ (p = p1 ∧ ((RJ.pk L p : Int) == 45) = false) := by
    rcases hs with ⟨e, t⟩ | ⟨e, t⟩
    · exact .inl ⟨hd e, by rw [beq_iff_eq]; omega⟩
    · exact .inr ⟨e, by rw [beq_eq_false_iff_ne]; omega⟩
  have c0 := h.c1
  have fz0 := h.fz
  have w0p := h.wr (by omega)
  have w1p : IntKind.i64.wrap ((p1 : Int) + 1) = (p1 : Int) + 1 := by
    have := h.lim
    rw [IntKind.wrap_i64]; omega
  have w2p : IntKind.i64.wrap ((p2 : Int) + 1) = (p2 : Int) + 1 := by
    have := h.lim
    have : p2 ≤ p4 := by rcases hf with ⟨e, _, e2⟩ | ⟨e, _⟩; have := e2.lt; omega; omega
    rw [IntKind.wrap_i64]; omega
  have HI : (Hd (p2 = p1 + 1) ∧ ((RJ.pk L p1 : Int) == 48) = true) ∨ (Hd (RJ.Run L p1 p2) ∧ ((RJ.pk L p1 : Int) == 48) = false) := by
    rcases hi with ⟨e, t⟩ | ⟨e, t⟩
    · exact .inl ⟨hd e, by rw [beq_iff_eq]; omega⟩
    · exact .inr ⟨hd e, by rw [beq_eq_false_iff_ne]; omega⟩
  have HF : (Hd (p3 = p2 + 1) ∧ ((RJ.pk L p2 : Int) == 46) = true ∧ Hd (RJ.Run L p3 p4)) ∨ (p2 = p4 ∧ ((RJ.pk L p2 : Int) == 46) = false) := by
    rcases hf with ⟨e, t, d⟩ | ⟨e, t⟩
    · exact .inl ⟨hd e, by rw [beq_iff_eq]; omega, hd d⟩
    · exact .inr ⟨e, by rw [beq_eq_false_iff_ne]; omega⟩
  have HA := hd h
  have HX := hd (Ex.refl r w)
  clear h hs hi hf he hst hq hlt
  rcases HS with ⟨E1, u1⟩ | ⟨rfl, u1⟩ <;> rcases HI with ⟨E2, u2⟩ | ⟨D2, u2⟩ <;> rcases HF with ⟨E3, u3, D3⟩ | ⟨rfl, u3⟩
  all_goals
    go_enter Tryz.func133, Tryz.ntmps133
    go_wp2_with (first
      | (go_at_call 129; (first | (with_reducible refine (jpeek_any HA.o).mono ?_) | (replace HX := hd (HA.o.stx HX.o); replace HA := hd (HA.o.step E1.o); with_reducible refine (jpeek_any HA.o).mono ?_) | (replace HX := hd (HA.o.stx HX.o); replace HA := hd (HA.o.step E2.o); with_reducible refine (jpeek_any HA.o).mono ?_)); rintro e wn ⟨rfl, hb1⟩; replace HX := hd (HX.o.trans (Ex.of_below (r := r) hb1)); replace HA := hd (HA.o.below hb1); have cc := HA.o.c1; have fz := HA.o.fz; clear hb1)
      | (go_at_call 183; (first | (with_reducible refine (jdigits_run HA.o D2.o).mono ?_) | (replace HX := hd (HA.o.stx HX.o); replace HA := hd (HA.o.step E1.o); with_reducible refine (jdigits_run HA.o D2.o).mono ?_) | (replace HX := hd (HA.o.stx HX.o); replace HA := hd (HA.o.step E3.o); with_reducible refine (jdigits_run HA.o D3.o).mono ?_)); rintro e wn ⟨rfl, hb1, hx1⟩; replace HX := hd (HX.o.trans hx1); replace HA := hd hb1; have cc := HA.o.c1; have fz := HA.o.fz; clear hb1 hx1))
    have HC2 := hd (HC.o _ HA.o)
    have hsl := HC2.o.1
    have hcv := HC2.o.2
    have a0 := fun n : Nat => (HA.o.below (bel_drew (Below.refl _ _) n)).c0
    have a1 := fun n : Nat => (HA.o.below (bel_drew (Below.refl _ _) n)).c1
    have HF := hd (fun n : Nat => And.intro (HA.o.below (bel_drew (Below.refl _ _) n)) (HX.o.trans (Ex.of_below (r := r) (bel_drew (Below.refl _ _) n))))
    clear HA HX HC HC2
    go_quiet (fail)
    go_wp2
    go_ret
    exact ⟨rfl, HF.o _⟩
end
end Go.Proofs.YteckfdohgiddgaaGreatDoor
namespace Go.Proofs.YteckfdohgiddgaaGreatDoor
open Go.RowKit
set_option linter.unusedVariables false
set_option linter.unusedSimpArgs false
open RJ
theorem RJ.wr8 (x : Int) (h0 : 0 ≤ x) (h1 : x < 256) : IntKind.u8.wrap x = x := by simp [IntKind.wrap, IntKind.bits, IntKind.signed]; omega
theorem jhex_any (c d : Nat) (hc : c = U.hxN d) (hd16 : d < 16) (w : World) :
    Calls Tryz.prog 243 #[.int .u8 (c : Int)] w fun e w' => e = .returned (.int .i64 (d : Int)) ∧ Below w.heap.size w w' := by
  unfold U.hxN at hc
  by_cases h1 : d < 10
  · rw [if_pos h1] at hc
    have t1 : ((48 : Int) ≤ (c : Int)) = True := eq_true (by omega)
    have t2 : ((c : Int) ≤ 57) = True := eq_true (by omega)
    have e1 : IntKind.u8.wrap ((c : Int) - 48) = (d : Int) := by rw [show (c : Int) - 48 = (d : Int) by omega]; exact RJ.wr8 _ (by omega) (by omega)
    have e2 : IntKind.i64.wrap (d : Int) = (d : Int) := by rw [IntKind.wrap_i64]; omega
    clear hc
    go_enter Tryz.func243, Tryz.ntmps243
    go_wp2
    go_ret
    exact ⟨rfl, Below.refl _ _⟩
  · rw [if_neg h1] at hc
    have t1 : ((48 : Int) ≤ (c : Int)) = True := eq_true (by omega)
    have t2 : ((c : Int) ≤ 57) = False := eq_false (by omega)
    have t3 : ((97 : Int) ≤ (c : Int)) = True := eq_true (by omega)
    have t4 : ((c : Int) ≤ 102) = True := eq_true (by omega)
    have e1 : IntKind.u8.wrap ((c : Int) - 97) = (d : Int) - 10 := by rw [show (c : Int) - 97 = (d : Int) - 10 by omega]; exact RJ.wr8 _ (by omega) (by omega)
    have e2 : IntKind.i64.wrap ((d : Int) - 10) = (d : Int) - 10 := by rw [IntKind.wrap_i64]; omega
    have e3 : IntKind.i64.wrap ((d : Int) - 10 + 10) = (d : Int) := by rw [IntKind.wrap_i64]; omega
    clear hc
    go_enter Tryz.func243, Tryz.ntmps243
    go_wp2
    go_ret
    exact ⟨rfl, Below.refl _ _⟩
theorem jutf8_any (n : Nat) (hn : n < 128) (w : World) :
    Calls Tryz.prog 218 #[.int .i64 (n : Int)] w fun e w' => ∃ v, e = .returned v ∧ w'.ownsRow w.heap.size 5 1 v 1 [.int .u8 (n : Int)] ∧ Below w.heap.size w w' := by
  have t1 : ((n : Int) < 128) = True := eq_true (by omega)
  have e1 : IntKind.u8.wrap (n : Int) = (n : Int) := RJ.wr8 _ (by omega) (by omega)
  go_enter Tryz.func218, Tryz.ntmps218
  go_wp2
  go_ret
  exact ⟨_, rfl, World.ownsRow_lit (base := w.heap.size) w #[.int .u8 (n : Int)] 1 (Nat.le_refl _) (by decide) rfl, (Below.refl _ _).alloc (Nat.le_refl _) _⟩
section
variable {w0 w : World} {r : Nat} {bv : Value} {L : List UInt8} {p : Nat}
def RJ.uv (f : Nat → Nat) : Nat → Nat
  | 0 => 0
  | i + 1 => RJ.uv f i * 16 + f i
theorem RJ.uv_lt (f : Nat → Nat) (hf : ∀ i, i < 4 → f i < 16) : ∀ i, i ≤ 4 → RJ.uv f i < 16 ^ i
  | 0, _ => by show 0 < 1; omega
  | i + 1, h => by
    have := RJ.uv_lt f hf i (by omega)
    have := hf i (by omega)
    rw [RJ.uv, Nat.pow_succ]; omega
set_option maxHeartbeats 1000000 in
theorem junit_any (h : At w0 w r bv L p) (f : Nat → Nat) (hf : ∀ i, i < 4 → f i < 16) (h1 : ∀ i, i < 4 → RJ.pk L (p + i) = U.hxN (f i)) :
    Calls Tryz.prog 217 #[.pointer (some ⟨r, 0, none⟩)] w fun e w' => e = .returned (.int .i64 (RJ.uv f 4 : Int)) ∧ At w0 w' r bv L (p + 4) ∧ Ex r w w' := by
  have HA3 := hd h
  have H1 := hd h1
  have HF := hd hf
  have HV := hd (RJ.uv_lt f hf)
  clear h h1 hf
  go_enter Tryz.func217, Tryz.ntmps217
  go_wp2_with fail
  go_loopw [3, 4] (fun n x wr => ∃ q i N : Nat, Hd (q = p + i) ∧ i ≤ 4 ∧ x = .int .i64 i ∧ n = .int .i64 N ∧ Hd (N = RJ.uv f i) ∧ Hd (At w0 wr r bv L q) ∧ Hd (Ex r w wr)) (fun _ x wr => 4 - (intOf x).toNat)
  case atStart => exact ⟨p, 0, 0, hd rfl, by omega, rfl, rfl, hd rfl, HA3, hd (Ex.refl r w)⟩
  case round =>
    obtain ⟨q, i, N, HQ, hi, rfl, rfl, HN, HA, HX⟩ := hrel
    clear HA3
    by_cases hik : i < 4
    · have ed := hd (HQ.o ▸ H1.o i hik)
      have hlt : q < L.length := RJ.pk_in (fun e => by have := ed.o; rw [e] at this; unfold U.hxN at this; split at this <;> omega)
      have hw := HA.o.wr hlt
      have hik2 : (i : Int) < 4 := by omega
      obtain ⟨d, hdv⟩ : ∃ d, f i = d := ⟨_, rfl⟩
      have hd16 : d < 16 := hdv ▸ HF.o i hik
      have hN : N < 65536 := by
        have e := HV.o i hi
        rw [← HN.o] at e
        exact Nat.lt_of_lt_of_le e (Nat.pow_le_pow_right (by decide) hi)
      have e1 : IntKind.i64.wrap ((N : Int) * 16) = (N : Int) * 16 := by rw [IntKind.wrap_i64]; omega
      have e2 : IntKind.i64.wrap ((N : Int) * 16 + (d : Int)) = (N : Int) * 16 + (d : Int) := by rw [IntKind.wrap_i64]; omega
      have e3 : IntKind.i64.wrap ((i : Int) + 1) = (i : Int) + 1 := by rw [IntKind.wrap_i64]; omega
      have t0 : ((d : Int) < 0) = False := eq_false (by omega)
      rw [hdv] at ed
      have HE : Hd (N * 16 + d = RJ.uv f (i + 1)) := hd (by rw [RJ.uv, HN.o, hdv])
      clear hdv hN
      go_wp2_with (first
        | (go_at_call 129; refine (jpeek_any HA.o).mono ?_; rintro e w4 ⟨rfl, hb1⟩; have HA1 := hd (HA.o.below hb1); have HX1 := hd (HX.o.trans (Ex.of_below (r := r) hb1)); clear hb1)
        | (go_at_call 243; refine (jhex_any _ d ed.o hd16 _).mono ?_; rintro e w5 ⟨rfl, hb2⟩; have HA2 := hd (HA1.o.below hb2); have HX2 := hd (HX1.o.trans (Ex.of_below (r := r) hb2)); have cc := HA2.o.c1; have fz := HA2.o.fz; clear hb2))
      go_roundw
      case rel => exact ⟨q + 1, i + 1, N * 16 + d, hd (by rw [HQ.o]; omega), by omega, by go_num, by go_num, HE, hd (HA2.o.set1), hd (HA2.o.stx HX2.o)⟩
      case measure => simp [intOf]; omega
    · obtain rfl : i = 4 := by omega
      have HE := HN.o
      subst HE
      go_wp2
      go_ret
      exact ⟨rfl, HQ.o ▸ HA.o, HX.o⟩
/-- what an escape gives: a row of its own -/
structure RJ.Es (w0 w w' : World) (r : Nat) (bv : Value) (L : List UInt8) (q : Nat) (v : Value) (y : Nat) : Prop where
  at_ : At w0 w' r bv L q
  ex : Ex r w w'
  own : w'.ownsRow w.heap.size 5 1 v 1 [.int .u8 (y : Int)]
theorem own_up {w : World} {B C : Nat} {e : TypeId} {size : Nat} {v : Value} {n : Nat} {xs : List Value} (h : w.ownsRow C e size v n xs) (hC : B ≤ C) : w.ownsRow B e size v n xs := by
  refine ⟨h.1, ?_⟩
  rcases h.2 with hn | ⟨g, cap, cur, rfl, hB, rest⟩
  · exact .inl hn
  · exact .inr ⟨g, cap, cur, rfl, by omega, rest⟩
theorem RJ.es_lit {w4 : World} (h : At w0 w4 r bv L p) (x : Ex r w w4) (y : Nat) :
    RJ.Es w0 w ((w4.setCell ⟨r, 1, none⟩ (.int .i64 ((p : Int) + 1))).alloc (.cells #[.int .u8 (y : Int)] 5)) r bv L (p + 1) (.slice (some ⟨w4.heap.size, 0, none⟩) 1 1) y := by
  refine ⟨h.set1.below ((Below.refl _ _).alloc (Nat.le_refl _) _), (h.stx x).trans (Ex.of_below ((Below.refl _ _).alloc (Nat.le_refl _) _)), ?_⟩
  have e : w4.heap.size = (w4.setCell ⟨r, 1, none⟩ (.int .i64 ((p : Int) + 1))).heap.size := by simp [World.setCell]
  rw [e]
  exact own_up (World.ownsRow_lit _ #[.int .u8 (y : Int)] 1 (Nat.le_refl _) (by decide) rfl) (h.stx x).size
/-- the letter x behind a backslash means the byte y -/
def RJ.Lt (x y : Nat) : Prop := (x = 34 ∧ y = 34) ∨ (x = 92 ∧ y = 92) ∨ (x = 98 ∧ y = 8) ∨ (x = 102 ∧ y = 12) ∨ (x = 110 ∧ y = 10) ∨ (x = 114 ∧ y = 13) ∨ (x = 116 ∧ y = 9)
set_option maxHeartbeats 4000000 in
theorem jesc_let (h : At w0 w r bv L p) (x y : Nat) (hx : RJ.pk L p = x) (hl : RJ.Lt x y) :
    Calls Tryz.prog 182 #[.pointer (some ⟨r, 0, none⟩)] w fun e w' => ∃ v, e = .returned v ∧ RJ.Es w0 w w' r bv L (p + 1) v y := by
  have HA := hd h
  have HX := hd hx
  have hlt : p < L.length := RJ.pk_in (by rw [hx]; rcases hl with h | h | h | h | h | h | h <;> omega)
  have hw := h.wr hlt
  clear h hx hlt
  rcases hl with ⟨rfl, rfl⟩ | ⟨rfl, rfl⟩ | ⟨rfl, rfl⟩ | ⟨rfl, rfl⟩ | ⟨rfl, rfl⟩ | ⟨rfl, rfl⟩ | ⟨rfl, rfl⟩
  all_goals
    go_enter Tryz.func182, Tryz.ntmps182
    go_wp2_with (go_at_call 129; refine (jpeek_any HA.o).mono ?_; rintro e w4 ⟨rfl, hb1⟩; rw [HX.o]; have HA1 := hd (HA.o.below hb1); have HX1 := hd (Ex.of_below (r := r) hb1); have cc := HA1.o.c1; have fz := HA1.o.fz; clear hb1)
    go_ret
    exact ⟨_, rfl, RJ.es_lit HA1.o HX1.o _⟩
set_option maxHeartbeats 4000000 in
theorem jesc_hex (h : At w0 w r bv L p) (c : Nat) (hc : c < 128) (h0 : RJ.pk L p = 117) (h1 : RJ.pk L (p + 1) = 48) (h2 : RJ.pk L (p + 2) = 48) (h3 : RJ.pk L (p + 3) = U.hxN (c / 16)) (h4 : RJ.pk L (p + 4) = U.hxN (c % 16)) :
    Calls Tryz.prog 182 #[.pointer (some ⟨r, 0, none⟩)] w fun e w' => ∃ v, e = .returned v ∧ RJ.Es w0 w w' r bv L (p + 5) v c := by
  have HA := hd h
  have HX := hd h0
  have hlt : p < L.length := RJ.pk_in (by rw [h0]; decide)
  have hw := h.wr hlt
  obtain ⟨f, hf⟩ : ∃ f : Nat → Nat, f = fun i => if i = 0 then 0 else if i = 1 then 0 else if i = 2 then c / 16 else c % 16 := ⟨_, rfl⟩
  have HU : Hd (RJ.uv f 4 = c) := hd (by simp [RJ.uv, hf]; omega)
  have HF := hd (show ∀ i, i < 4 → f i < 16 from fun i hi => by
    rcases (by omega : i = 0 ∨ i = 1 ∨ i = 2 ∨ i = 3) with rfl | rfl | rfl | rfl <;> simp [hf] <;> omega)
  have HP := hd (show ∀ i, i < 4 → RJ.pk L (p + 1 + i) = U.hxN (f i) from fun i hi => by
    rcases (by omega : i = 0 ∨ i = 1 ∨ i = 2 ∨ i = 3) with rfl | rfl | rfl | rfl
    · rw [hf]; exact h1
    · rw [hf]; exact h2
    · simpa [hf, show p + 1 + 2 = p + 3 by omega] using h3
    · simpa [hf, show p + 1 + 3 = p + 4 by omega] using h4)
  have HC := hd hc
  have t1 : ((55296 : Int) ≤ (c : Int)) = False := eq_false (by omega)
  have t2 : ((56320 : Int) ≤ (c : Int)) = False := eq_false (by omega)
  clear h h0 h1 h2 h3 h4 hlt hf
  go_enter Tryz.func182, Tryz.ntmps182
  go_wp2_with (first
    | (go_at_call 129; refine (jpeek_any HA.o).mono ?_; rintro e w4 ⟨rfl, hb1⟩; rw [HX.o]; have HA1 := hd (HA.o.below hb1); have HX1 := hd (Ex.of_below (r := r) hb1); have cc := HA1.o.c1; have fz := HA1.o.fz; clear hb1)
    | (go_at_call 217; refine (junit_any HA1.o.set1 f HF.o HP.o).mono ?_; rintro e w5 ⟨rfl, ha2, hx2⟩; rw [HU.o]; have HA2 := hd ha2; have HX2 := hd ((HA1.o.stx HX1.o).trans hx2); clear ha2 hx2)
    | (go_at_call 218; refine (jutf8_any c HC.o _).mono ?_; rintro e w6 ⟨v, rfl, ho, hb⟩; have HO := hd ho; have HB := hd hb; clear ho hb))
  go_ret
  exact ⟨_, rfl, HA2.o.below HB.o, HX2.o.trans (Ex.of_below HB.o), own_up HO.o HX2.o.size⟩
end
end Go.Proofs.YteckfdohgiddgaaGreatDoor
namespace Go.Proofs.YteckfdohgiddgaaGreatDoor
open Go.RowKit
set_option linter.unusedVariables false
set_option linter.unusedSimpArgs false
open RJ
namespace RJ
theorem pk_drop {L : List UInt8} {q : Nat} {x : UInt8} {t : List UInt8} (h : L.drop q = x :: t) : pk L q = x.toNat ∧ q < L.length ∧ L.drop (q + 1) = t := by
  have hlt : q < L.length := by
    rcases Nat.lt_or_ge q L.length with h1 | h1
    · exact h1
    · rw [List.drop_of_length_le h1] at h; cases h
  rw [List.drop_eq_getElem_cons hlt] at h
  simp only [List.cons.injEq] at h
  refine ⟨?_, hlt, h.2⟩
  unfold pk; rw [dif_pos hlt, h.1]
theorem wr_cases (c : UInt8) : (U.wrJ c = [c] ∧ 32 ≤ c.toNat ∧ c.toNat ≠ 34 ∧ c.toNat ≠ 92) ∨ (∃ x, U.wrJ c = [92, x] ∧ RJ.Lt x.toNat c.toNat) ∨
    ∃ h1 h2 : UInt8, U.wrJ c = [92, 117, 48, 48, h1, h2] ∧ c.toNat < 128 ∧ h1.toNat = U.hxN (c.toNat / 16) ∧ h2.toNat = U.hxN (c.toNat % 16) := by
  have hc : UInt8.ofNat c.toNat = c := by simp
  have hlt := c.toNat_lt
  by_cases a : c.toNat = 34 ∨ c.toNat = 92
  · refine .inr (.inl ⟨c, ?_, ?_⟩)
    · have := U.wrJ_back c.toNat hlt a
      rw [hc] at this; exact this
    · unfold RJ.Lt; omega
  by_cases b : 8 ≤ c.toNat ∧ c.toNat ≤ 13 ∧ c.toNat ≠ 11
  · refine .inr (.inl ⟨U.letJ.getD (c.toNat - 8) 0, ?_, ?_⟩)
    · have := U.wrJ_let c.toNat hlt b
      rw [hc] at this; exact this
    · have e : c.toNat = 8 ∨ c.toNat = 9 ∨ c.toNat = 10 ∨ c.toNat = 12 ∨ c.toNat = 13 := by omega
      unfold RJ.Lt
      rcases e with e | e | e | e | e <;> rw [e] <;> decide
  by_cases d : c.toNat < 32
  · refine .inr (.inr ⟨UInt8.ofNat (U.hxN (c.toNat / 16)), UInt8.ofNat (U.hxN (c.toNat % 16)), ?_, by omega, ?_, ?_⟩)
    · have := U.wrJ_hex c.toNat hlt ⟨d, b⟩
      rw [hc] at this; exact this
    · unfold U.hxN; split <;> (rw [UInt8.toNat_ofNat']; omega)
    · unfold U.hxN; split <;> (rw [UInt8.toNat_ofNat']; omega)
  · refine .inl ⟨?_, by omega, by omega, by omega⟩
    have := U.wrJ_self c.toNat hlt (by omega)
    rw [hc] at this; exact this
theorem drop_step {bs : List UInt8} {i : Nat} {y : UInt8} {ys : List UInt8} (h : bs.drop i = y :: ys) : bs.drop (i + 1) = ys ∧ bs.take (i + 1) = bs.take i ++ [y] ∧ i < bs.length := by
  have h2 := pk_drop h
  refine ⟨h2.2.2, ?_, h2.2.1⟩
  rw [List.take_succ_eq_append_getElem h2.2.1]
  rw [List.drop_eq_getElem_cons h2.2.1] at h
  simp only [List.cons.injEq] at h
  rw [h.1]
theorem Ex.belowB {r : Nat} {w a b : World} (h : Ex r w a) (hb : Below w.heap.size a b) : Ex r w b :=
  ⟨hb.os.trans h.os, hb.tape.trans h.tape, hb.output.trans h.output, Nat.le_trans h.size hb.size, fun k hk hr => (hb.block k hk).trans (h.block k hk hr)⟩
theorem cell_snoc (l : List UInt8) (y : UInt8) : cellsB (l ++ [y]) = cellsB l ++ [.int .u8 (y.toNat : Int)] := by rw [cellsB_app]; rfl
theorem At.belowB {w0 w w' : World} {r B : Nat} {bv : Value} {L : List UInt8} {p : Nat} (h : At w0 w r bv L p) (hb : Below B w w') (h0 : w0.heap.size ≤ B) (hr : r < B) : At w0 w' r bv L p :=
  ⟨h.old.trans (hb.mono h0), h.rb, (hb.block r hr).trans h.blk, h.bs, h.lim, h.cp⟩
end RJ
section
variable {w0 w : World} {r : Nat} {bv : Value} {L : List UInt8} {p : Nat}
set_option maxHeartbeats 4000000 in
theorem jtext_any (h : At w0 w r bv L p) (bs rest : List UInt8) (hL : L.drop p = 34 :: bs.flatMap U.wrJ ++ 34 :: rest) (hbs : bs.length ≤ 70368744177664) (hv : U.valid ⟨bs.toArray⟩ = true) :
    Calls Tryz.prog 131 #[.pointer (some ⟨r, 0, none⟩)] w fun e w' => e = .returned (.string ⟨bs.toArray⟩) ∧ (∃ q, L.drop q = rest ∧ q ≤ L.length ∧ At w0 w' r bv L q) ∧ Ex r w w' := by
  have hd0 := RJ.pk_drop (x := 34) (t := bs.flatMap U.wrJ ++ 34 :: rest) hL
  have HT := hd (jtake_any h ⟨#[34]⟩ (by decide) (by decide) (by have : ByteArray.size ⟨#[34]⟩ = 1 := rfl; omega) (by rw [hL]; rfl))
  obtain ⟨A, c, rfl⟩ := h.shape
  have hszw := h.le
  have hrw := h.lt
  have HV := hd hv
  have HL := hd hd0.2.2
  clear h hL hd0 hv
  go_enter Tryz.func131, Tryz.ntmps131
  go_wp2_with (go_at_call 130; refine HT.o.mono ?_; rintro e w1 ⟨rfl, ha, hx⟩; have HA := hd ha; have HX := hd hx; clear ha hx HT)
  go_loopw [3] (fun v wr => ∃ (i q : Nat), i ≤ bs.length ∧ Hd (L.drop q = (bs.drop i).flatMap U.wrJ ++ 34 :: rest) ∧ Hd (At w0 wr r (.slice A L.length c) L q) ∧ Hd (Ex r w wr) ∧ Hd (wr.ownsRow w.heap.size 5 1 v i (cellsB (bs.take i)))) (fun v wr => L.length - RJ.pos wr r)
  case atStart => exact ⟨0, p + 1, Nat.zero_le _, hd (by rw [List.drop_zero]; exact HL.o), HA, HX, hd (World.ownsRow_nil _ _ _ _)⟩
  case round =>
    obtain ⟨i, q, hi, HD, HA2, HX2, HO⟩ := hrel
    clear HA HX HL
    have b2 := HA2.o.c2
    have hQ : q < L.length := by
      have := HD.o
      rcases Nat.lt_or_ge q L.length with h1 | h1
      · exact h1
      · rw [List.drop_of_length_le h1] at this
        simp at this
    have dge : decide (L.length ≤ q) = false := by rw [decide_eq_false_iff_not]; omega
    have hwq := HA2.o.wr hQ
    have HPK := hd (fun p : BelW wr => Calls.below_of (p := p) (jpeek_any (HA2.o.below p.h)))
    have f0 := fun p : BelW wr => p.cell HA2.o.c0
    have f1 := fun p : BelW wr => p.cell HA2.o.c1
    by_cases hlast : i = bs.length
    · subst hlast
      have hD2 := HD.o
      rw [List.drop_length] at hD2
      rw [List.take_length] at HO
      obtain ⟨k1, hq1, k2⟩ := RJ.pk_drop (x := 34) (t := rest) hD2
      rw [k1] at HPK
      have HK2 := hd k2
      clear hD2 k2 HD
      go_wp2_with fail
      refine wp_region_below (by kernel_rfl) (by kernel_rfl) ?_
      repeat (go_big_quiet_step (first | (go_at_call 129; exact HPK.o _)))
      refine wpQuiet_nil ?_
      rintro _ ⟨⟨w2, hb2⟩, rfl⟩
      have HA3 := hd (HA2.o.below hb2)
      have HX3 := hd (HX2.o.trans (Ex.of_below (r := r) hb2))
      have HO3 := hd (own_below HO.o hb2)
      clear f0 f1 HPK b2 hb2 HX2 HO
      go_wp2_with (first
        | (go_at_call 129; refine (jpeek_any HA3.o).mono ?_; rintro e w3 ⟨rfl, hb3⟩; rw [k1]; have HA4 := hd (HA3.o.below hb3); have HX4 := hd (HX3.o.trans (Ex.of_below (r := r) hb3)); have HO4 := hd (own_ex (own_below HO3.o hb3) (Ex.set r w3 1 (.int .i64 ((q : Int) + 1))) hrw); have hB4 := (HA4.o.stx HX4.o).size; have cc := HA4.o.c1; have fz := HA4.o.fz; have hcv1 := conv_isL (IsL.own HO4.o); clear hb3)
        | (go_at_call 33; refine (refValid_any _ _ (by show bs.length ≤ _; omega)).mono ?_; rintro e w7 ⟨rfl, hb7⟩; rw [HV.o]; have HA7 := hd (HA4.o.set1.below hb7); have HX7 := hd ((HA4.o.stx HX4.o).trans (Ex.of_below (r := r) hb7)); have hcv2 := conv_isL (IsL.own (own_below HO4.o hb7)); clear hb7))
      go_ret
      exact ⟨rfl, ⟨q + 1, HK2.o, hq1, HA7.o⟩, HX7.o⟩
    · obtain ⟨y, ys, hy⟩ : ∃ y ys, bs.drop i = y :: ys := by
        rw [List.drop_eq_getElem_cons (by omega)]; exact ⟨_, _, rfl⟩
      obtain ⟨d1, d2, d3⟩ := RJ.drop_step hy
      have HO2 := hd (congrArg cellsB d2)
      rw [RJ.cell_snoc] at HO2
      have HD2 := HD.o
      rw [hy, List.flatMap_cons] at HD2
      rw [← d1] at HD2
      rcases RJ.wr_cases y with ⟨e, y1, y2, y3⟩ | ⟨x, e, hl⟩ | ⟨h1, h2, e, hc, g1, g2⟩
      · rw [e] at HD2
        obtain ⟨k1, _, k2⟩ := RJ.pk_drop (x := y) HD2
        have HK2 := hd k2
        have t1 : decide ((y.toNat : Int) < 32) = false := by rw [decide_eq_false_iff_not]; omega
        have t1b : decide (y.toNat < 32) = false := by rw [decide_eq_false_iff_not]; omega
        have t2 : ((y.toNat : Int) == 34) = false := by rw [beq_eq_false_iff_ne]; omega
        have t3 : ((y.toNat : Int) != 92) = true := by rw [bne_iff_ne]; omega
        rw [k1] at HPK
        clear d1 d2 hy HD2 k2 e HD
        generalize y.toNat = z at *
        go_wp2_with fail
        refine wp_region_below (by kernel_rfl) (by kernel_rfl) ?_
        repeat (go_big_quiet_step (first | (go_at_call 129; exact HPK.o _)))
        refine wpQuiet_nil ?_
        rintro _ ⟨⟨w2, hb2⟩, rfl⟩
        have HA3 := hd (HA2.o.below hb2)
        have HX3 := hd (HX2.o.trans (Ex.of_below (r := r) hb2))
        have HO3 := hd (own_below HO.o hb2)
        clear f0 f1 HPK b2 hb2 HX2 HO
        go_wp2_with (first
          | (go_at_call 129; refine (jpeek_any HA3.o).mono ?_; rintro e w3 ⟨rfl, hb3⟩; rw [k1]; have HA4 := hd (HA3.o.below hb3); have HX4 := hd (HX3.o.trans (Ex.of_below (r := r) hb3)); have HO4 := hd (own_ex (own_below HO3.o hb3) (Ex.set r w3 1 (.int .i64 ((q : Int) + 1))) hrw); have hB4 := (HA4.o.stx HX4.o).size; have cc := HA4.o.c1; have fz := HA4.o.fz; clear hb3)
          | (at_builtin; refine wpList_app_litH 32 5 (.int .u8 0) 1 1 Tryz.underlying32 info_u8 rfl (by decide) rfl _ _ rfl w.heap.size u3 i (cellsB (bs.take i)) _ #[.int .u8 (z : Int)] 1 _ (by simp [World.setCell]) rfl rfl HO4.o rfl (by simp [Value.oneCell']) (by omega) (by omega) hB4 ?_))
        intro v' w5 ho hg
        have HG := hd ((Below.refl w.heap.size _).grown hg hB4 (fun k hk => (HO4.o.lt k hk).1))
        have HA5 := hd (HA4.o.set1.belowB HG.o hszw hrw)
        have HX5 := hd ((HA4.o.stx HX4.o).belowB HG.o)
        have HO5 : Hd (w5.ownsRow w.heap.size 5 1 v' (i + 1) (cellsB (bs.take (i + 1)))) := hd (by rw [HO2.o]; exact ho)
        clear ho hg
        go_wp2
        go_roundw
        case rel => exact ⟨i + 1, q + 1, by omega, HK2, HA5, HX5, HO5⟩
        case measure => rw [HA5.o.pos, HA2.o.pos]; omega
      · rw [e] at HD2
        obtain ⟨k1, _, k2⟩ := RJ.pk_drop (x := 92) HD2
        obtain ⟨k3, q1, k4⟩ := RJ.pk_drop (x := x) k2
        rw [show (92 : UInt8).toNat = 92 from rfl] at k1
        have HK2 := hd (show L.drop (q + 2) = _ from k4)
        have t1b : decide ((92 : Int) < 32) = false := rfl
        rw [k1] at HPK
        clear d1 d2 hy HD2 e HD
        go_wp2_with fail
        refine wp_region_below (by kernel_rfl) (by kernel_rfl) ?_
        repeat (go_big_quiet_step (first | (go_at_call 129; exact HPK.o _)))
        refine wpQuiet_nil ?_
        rintro _ ⟨⟨w2, hb2⟩, rfl⟩
        have HA3 := hd (HA2.o.below hb2)
        have HX3 := hd (HX2.o.trans (Ex.of_below (r := r) hb2))
        have HO3 := hd (own_below HO.o hb2)
        clear f0 f1 HPK b2 hb2 HX2 HO
        go_wp2_with (first
          | (go_at_call 129; refine (jpeek_any HA3.o).mono ?_; rintro e w3 ⟨rfl, hb3⟩; rw [k1]; have HA4 := hd (HA3.o.below hb3); have HX4 := hd (HX3.o.trans (Ex.of_below (r := r) hb3)); have HO4 := hd (own_ex (own_below HO3.o hb3) (Ex.set r w3 1 (.int .i64 ((q : Int) + 1))) hrw); have hB4 := (HA4.o.stx HX4.o).size; have cc := HA4.o.c1; have fz := HA4.o.fz; clear hb3)
          | (go_at_call 182; refine (jesc_let HA4.o.set1 x.toNat y.toNat k3 hl).mono ?_; rintro e w6 ⟨v, rfl, es⟩; have HA6 := hd es.at_; have HX6 := hd ((HA4.o.stx HX4.o).trans es.ex); have HO6 := hd (own_ex HO4.o es.ex hrw); have HE6 := hd es.own; have hB6 := (HX6.o).size; clear es)
          | (at_builtin; refine wpList_app_any _ 32 5 (.int .u8 0) 1 1 Tryz.underlying32 info_u8 rfl (by decide) rfl _ _ rfl w.heap.size u3 i (cellsB (bs.take i)) rfl HO6.o v 1 [.int .u8 (y.toNat : Int)] rfl (IsL.own HE6.o) (by simp [Value.oneCell']) (by omega) (by omega) hB6 ?_))
        intro v' w5 ho hg
        have HG := hd ((Below.refl w.heap.size _).grown hg hB6 (fun k hk => (HO6.o.lt k hk).1))
        have HA5 := hd (HA6.o.belowB HG.o hszw hrw)
        have HX5 := hd (HX6.o.belowB HG.o)
        have HO5 : Hd (w5.ownsRow w.heap.size 5 1 v' (i + 1) (cellsB (bs.take (i + 1)))) := hd (by rw [HO2.o]; exact ho)
        clear ho hg
        go_wp2
        go_roundw
        case rel => exact ⟨i + 1, q + 2, by omega, HK2, HA5, HX5, HO5⟩
        case measure => rw [HA5.o.pos, HA2.o.pos]; omega
      · rw [e] at HD2
        obtain ⟨k1, _, k2⟩ := RJ.pk_drop (x := 92) HD2
        obtain ⟨k3, _, k4⟩ := RJ.pk_drop (x := 117) k2
        obtain ⟨k5, _, k6⟩ := RJ.pk_drop (x := 48) k4
        obtain ⟨k7, _, k8⟩ := RJ.pk_drop (x := 48) k6
        obtain ⟨k9, _, k10⟩ := RJ.pk_drop (x := h1) k8
        obtain ⟨k11, q1, k12⟩ := RJ.pk_drop (x := h2) k10
        rw [show (92 : UInt8).toNat = 92 from rfl] at k1
        have HK2 := hd (show L.drop (q + 6) = _ from k12)
        have t1b : decide ((92 : Int) < 32) = false := rfl
        rw [k1] at HPK
        clear d1 d2 hy HD2 e HD
        go_wp2_with fail
        refine wp_region_below (by kernel_rfl) (by kernel_rfl) ?_
        repeat (go_big_quiet_step (first | (go_at_call 129; exact HPK.o _)))
        refine wpQuiet_nil ?_
        rintro _ ⟨⟨w2, hb2⟩, rfl⟩
        have HA3 := hd (HA2.o.below hb2)
        have HX3 := hd (HX2.o.trans (Ex.of_below (r := r) hb2))
        have HO3 := hd (own_below HO.o hb2)
        clear f0 f1 HPK b2 hb2 HX2 HO
        go_wp2_with (first
          | (go_at_call 129; refine (jpeek_any HA3.o).mono ?_; rintro e w3 ⟨rfl, hb3⟩; rw [k1]; have HA4 := hd (HA3.o.below hb3); have HX4 := hd (HX3.o.trans (Ex.of_below (r := r) hb3)); have HO4 := hd (own_ex (own_below HO3.o hb3) (Ex.set r w3 1 (.int .i64 ((q : Int) + 1))) hrw); have hB4 := (HA4.o.stx HX4.o).size; have cc := HA4.o.c1; have fz := HA4.o.fz; clear hb3)
          | (go_at_call 182; refine (jesc_hex HA4.o.set1 y.toNat hc k3 k5 k7 (k9.trans g1) (k11.trans g2)).mono ?_; rintro e w6 ⟨v, rfl, es⟩; have HA6 := hd es.at_; have HX6 := hd ((HA4.o.stx HX4.o).trans es.ex); have HO6 := hd (own_ex HO4.o es.ex hrw); have HE6 := hd es.own; have hB6 := (HX6.o).size; clear es)
          | (at_builtin; refine wpList_app_any _ 32 5 (.int .u8 0) 1 1 Tryz.underlying32 info_u8 rfl (by decide) rfl _ _ rfl w.heap.size u3 i (cellsB (bs.take i)) rfl HO6.o v 1 [.int .u8 (y.toNat : Int)] rfl (IsL.own HE6.o) (by simp [Value.oneCell']) (by omega) (by omega) hB6 ?_))
        intro v' w5 ho hg
        have HG := hd ((Below.refl w.heap.size _).grown hg hB6 (fun k hk => (HO6.o.lt k hk).1))
        have HA5 := hd (HA6.o.belowB HG.o hszw hrw)
        have HX5 := hd (HX6.o.belowB HG.o)
        have HO5 : Hd (w5.ownsRow w.heap.size 5 1 v' (i + 1) (cellsB (bs.take (i + 1)))) := hd (by rw [HO2.o]; exact ho)
        clear ho hg
        go_wp2
        go_roundw
        case rel => exact ⟨i + 1, q + 6, by omega, HK2, HA5, HX5, HO5⟩
        case measure => rw [HA5.o.pos, HA2.o.pos]; omega
end
end Go.Proofs.YteckfdohgiddgaaGreatDoor
namespace Go.Proofs.YteckfdohgiddgaaGreatDoor
open Go.RowKit
set_option linter.unusedVariables false
set_option linter.unusedSimpArgs false
open RJ
/-- the four cells of a J laid anew -/
theorem RJ.st4 {W : World} {g : Nat} {a b c d a' b' c' d' : Value} (h : Bk W g 80 [a, b, c, d]) :
    Bk ((((W.setCell ⟨g, 0, none⟩ a').setCell ⟨g, 1, none⟩ b').setCell ⟨g, 2, none⟩ c').setCell ⟨g, 3, none⟩ d') g 80 [a', b', c', d'] := (((h.set 0 a').set 1 b').set 2 c').set 3 d'
theorem RJ.st4_ex {W : World} {g B : Nat} (a' b' c' d' : Value) (hg : B ≤ g) :
    Below B W ((((W.setCell ⟨g, 0, none⟩ a').setCell ⟨g, 1, none⟩ b').setCell ⟨g, 2, none⟩ c').setCell ⟨g, 3, none⟩ d') :=
  ((((Below.refl B W).setCell (p := ⟨g, 0, none⟩) hg a').setCell (p := ⟨g, 1, none⟩) hg b').setCell (p := ⟨g, 2, none⟩) hg c').setCell (p := ⟨g, 3, none⟩) hg d'
theorem RJ.res4 {fn : Func} {q : Tmp} {W : World} {g : Nat} {a b c d : Value} (hf : fn.results = #[.cell q 80]) (tmps : Array Value) (hp : tmps.getD q undef = .pointer (some ⟨g, 0, none⟩)) (h : Bk W g 80 [a, b, c, d]) :
    (results fn tmps).run Tryz.prog W = .ok (.agg #[a, b, c, d]) W :=
  results_cell_row hf tmps W g 80 #[a, b, c, d] (0, 0) _ hp h Tryz.underlying80 rfl (by kernel_rfl)
section
variable {w0 w : World} {r : Nat} {bv : Value} {L : List UInt8} {p : Nat}
set_option maxHeartbeats 4000000 in
theorem jval_txt (h : At w0 w r bv L p) (deep : Nat) (hd0 : 0 < deep) (bs rest : List UInt8) (hL : L.drop p = 34 :: bs.flatMap U.wrJ ++ 34 :: rest) (hbs : bs.length ≤ 70368744177664) (hv : U.valid ⟨bs.toArray⟩ = true) :
    Calls Tryz.prog 76 #[.pointer (some ⟨r, 0, none⟩), .int .i64 (deep : Int)] w fun e w' => e = .returned (.agg #[.int .i64 4, .string ⟨bs.toArray⟩, .slice none 0 0, .slice none 0 0]) ∧ (∃ q, L.drop q = rest ∧ q ≤ L.length ∧ At w0 w' r bv L q) ∧ Ex r w w' := by
  obtain ⟨k1, _, _⟩ := RJ.pk_drop (x := 34) hL
  rw [show (34 : UInt8).toNat = 34 from rfl] at k1
  have HA := hd (h.below ((Below.refl _ _).alloc (Nat.le_refl _) (.cells #[.int .i64 0, .string ⟨#[]⟩, .slice none 0 0, .slice none 0 0] 80)))
  have HX := hd (Ex.of_below (r := r) ((Below.refl w.heap.size w).alloc (Nat.le_refl _) (.cells #[.int .i64 0, .string ⟨#[]⟩, .slice none 0 0, .slice none 0 0] 80)))
  have HK : Hd (Bk (w.alloc (.cells #[.int .i64 0, .string ⟨#[]⟩, .slice none 0 0, .slice none 0 0] 80)) w.heap.size 80 [.int .i64 0, .string ⟨#[]⟩, .slice none 0 0, .slice none 0 0]) := hd (heap_alloc_new _ _)
  have hrw := h.lt
  have hsw := h.le
  have HT := hd (fun W (hW : At w0 W r bv L p) => jtext_any hW bs rest hL hbs hv)
  have hdd : ((deep : Int) ≤ 0) = False := eq_false (by omega)
  clear h hL hv
  go_enter Tryz.func76, Tryz.ntmps76
  go_wp2_with (first
    | (go_at_call 77; refine (jblanks_any HA.o (by rw [k1]; decide)).mono ?_; rintro e w1 ⟨rfl, hb1⟩; replace HX := hd (HX.o.trans (Ex.of_below (r := r) hb1)); replace HK := hd (bk_ex HK.o (Ex.of_below (r := r) hb1) (by omega)); replace HA := hd (HA.o.below hb1); have c2 := HA.o.c2; clear hb1)
    | (go_at_call 129; refine (jpeek_any HA.o).mono ?_; rintro e w2 ⟨rfl, hb1⟩; rw [k1]; replace HX := hd (HX.o.trans (Ex.of_below (r := r) hb1)); replace HK := hd (bk_ex HK.o (Ex.of_below (r := r) hb1) (by omega)); replace HA := hd (HA.o.below hb1); clear hb1)
    | (go_at_call 131; refine (HT.o _ HA.o).mono ?_; rintro e w3 ⟨rfl, hq, hx⟩; replace HX := hd (HX.o.trans hx); replace HK := hd (bk_ex HK.o hx (by omega)); have HQ := hd hq; have hB3 := HX.o.size; have f0 := HK.o.frozen 0; have f1 := HK.o.frozen 1; have f2 := HK.o.frozen 2; have f3 := HK.o.frozen 3; have k0 := HK.o.cell 0 (by simp); have kk1 := HK.o.cell 1 (by simp); have kk2 := HK.o.cell 2 (by simp); have kk3 := HK.o.cell 3 (by simp); clear hq hx))
  refine bodyPost_ret (RJ.res4 rfl _ rfl (RJ.st4 HK.o)) rfl ?_
  obtain ⟨q, q1, q2, q3⟩ := HQ.o
  exact ⟨rfl, ⟨q, q1, q2, q3.belowB (RJ.st4_ex _ _ _ _ (Nat.le_refl _)) hsw hrw⟩, HX.o.belowB (RJ.st4_ex _ _ _ _ (Nat.le_refl _))⟩
set_option maxHeartbeats 4000000 in
theorem jval_num (h : At w0 w r bv L p) (deep : Nat) (hd0 : 0 < deep) (p1 p2 p3 p4 : Nat) (hc : RJ.pk L p = 45 ∨ RJ.isD (RJ.pk L p) = true)
    (hs : (p1 = p + 1 ∧ RJ.pk L p = 45) ∨ (p = p1 ∧ RJ.pk L p ≠ 45))
    (hi : (p2 = p1 + 1 ∧ RJ.pk L p1 = 48) ∨ (RJ.Run L p1 p2 ∧ RJ.pk L p1 ≠ 48))
    (hf : (p3 = p2 + 1 ∧ RJ.pk L p2 = 46 ∧ RJ.Run L p3 p4) ∨ (p2 = p4 ∧ RJ.pk L p2 ≠ 46))
    (he : RJ.pk L p4 ≠ 101 ∧ RJ.pk L p4 ≠ 69) (hq : p4 ≤ L.length) (s : ByteArray) (hst : (L.drop p).take (p4 - p) = s.data.toList) :
    Calls Tryz.prog 76 #[.pointer (some ⟨r, 0, none⟩), .int .i64 (deep : Int)] w fun e w' => e = .returned (.agg #[.int .i64 3, .string s, .slice none 0 0, .slice none 0 0]) ∧ At w0 w' r bv L p4 ∧ Ex r w w' := by
  have HNu := hd (fun W (hW : At w0 W r bv L p) => jnumber_any hW p1 p2 p3 p4 hs hi hf he hq s hst)
  obtain ⟨c, k1⟩ : ∃ c, RJ.pk L p = c := ⟨_, rfl⟩
  have hcc : 45 ≤ c ∧ c ≤ 57 := by
    rw [k1] at hc
    rcases hc with e | e
    · omega
    · unfold RJ.isD at e
      simp only [Bool.and_eq_true, decide_eq_true_eq] at e
      omega
  have t1 : ((c : Int) == 110) = false := by rw [beq_eq_false_iff_ne]; omega
  have t2 : ((c : Int) == 116) = false := by rw [beq_eq_false_iff_ne]; omega
  have t3 : ((c : Int) == 102) = false := by rw [beq_eq_false_iff_ne]; omega
  have t4 : ((c : Int) == 34) = false := by rw [beq_eq_false_iff_ne]; omega
  have t5 : ((c : Int) == 91) = false := by rw [beq_eq_false_iff_ne]; omega
  have t6 : ((c : Int) == 123) = false := by rw [beq_eq_false_iff_ne]; omega
  have HA := hd (h.below ((Below.refl _ _).alloc (Nat.le_refl _) (.cells #[.int .i64 0, .string ⟨#[]⟩, .slice none 0 0, .slice none 0 0] 80)))
  have HX := hd (Ex.of_below (r := r) ((Below.refl w.heap.size w).alloc (Nat.le_refl _) (.cells #[.int .i64 0, .string ⟨#[]⟩, .slice none 0 0, .slice none 0 0] 80)))
  have HK : Hd (Bk (w.alloc (.cells #[.int .i64 0, .string ⟨#[]⟩, .slice none 0 0, .slice none 0 0] 80)) w.heap.size 80 [.int .i64 0, .string ⟨#[]⟩, .slice none 0 0, .slice none 0 0]) := hd (heap_alloc_new _ _)
  have hrw := h.lt
  have hsw := h.le
  have hdd : ((deep : Int) ≤ 0) = False := eq_false (by omega)
  have HCC := hd hcc
  clear h hs hi hf he hq hst hc hcc
  go_enter Tryz.func76, Tryz.ntmps76
  go_wp2_with (first
    | (go_at_call 77; refine (jblanks_any HA.o (by rw [k1]; have := HCC.o; omega)).mono ?_; rintro e w1 ⟨rfl, hb1⟩; replace HX := hd (HX.o.trans (Ex.of_below (r := r) hb1)); replace HK := hd (bk_ex HK.o (Ex.of_below (r := r) hb1) (by omega)); replace HA := hd (HA.o.below hb1); have c2 := HA.o.c2; clear hb1)
    | (go_at_call 129; refine (jpeek_any HA.o).mono ?_; rintro e w2 ⟨rfl, hb1⟩; rw [k1]; replace HX := hd (HX.o.trans (Ex.of_below (r := r) hb1)); replace HK := hd (bk_ex HK.o (Ex.of_below (r := r) hb1) (by omega)); replace HA := hd (HA.o.below hb1); clear hb1)
    | (go_at_call 133; refine (HNu.o _ HA.o).mono ?_; rintro e w3 ⟨rfl, hq, hx⟩; replace HX := hd (HX.o.trans hx); replace HK := hd (bk_ex HK.o hx (by omega)); have HQ := hd hq; have hB3 := HX.o.size; have f0 := HK.o.frozen 0; have f1 := HK.o.frozen 1; have f2 := HK.o.frozen 2; have f3 := HK.o.frozen 3; have k0 := HK.o.cell 0 (by simp); have kk1 := HK.o.cell 1 (by simp); have kk2 := HK.o.cell 2 (by simp); have kk3 := HK.o.cell 3 (by simp); clear hq hx))
  refine bodyPost_ret (RJ.res4 rfl _ rfl (RJ.st4 HK.o)) rfl ?_
  exact ⟨rfl, HQ.o.belowB (RJ.st4_ex _ _ _ _ (Nat.le_refl _)) hsw hrw, HX.o.belowB (RJ.st4_ex _ _ _ _ (Nat.le_refl _))⟩
set_option maxHeartbeats 4000000 in
theorem jval_nul (h : At w0 w r bv L p) (deep : Nat) (hd0 : 0 < deep) (rest : List UInt8) (hL : L.drop p = [110, 117, 108, 108] ++ rest) :
    Calls Tryz.prog 76 #[.pointer (some ⟨r, 0, none⟩), .int .i64 (deep : Int)] w fun e w' => e = .returned (.agg #[.int .i64 1, .string ⟨#[]⟩, .slice none 0 0, .slice none 0 0]) ∧ At w0 w' r bv L (p + 4) ∧ Ex r w w' := by
  obtain ⟨k1, _, _⟩ := RJ.pk_drop (x := 110) hL
  rw [show (110 : UInt8).toNat = 110 from rfl] at k1
  have HA := hd (h.below ((Below.refl _ _).alloc (Nat.le_refl _) (.cells #[.int .i64 0, .string ⟨#[]⟩, .slice none 0 0, .slice none 0 0] 80)))
  have HX := hd (Ex.of_below (r := r) ((Below.refl w.heap.size w).alloc (Nat.le_refl _) (.cells #[.int .i64 0, .string ⟨#[]⟩, .slice none 0 0, .slice none 0 0] 80)))
  have HK : Hd (Bk (w.alloc (.cells #[.int .i64 0, .string ⟨#[]⟩, .slice none 0 0, .slice none 0 0] 80)) w.heap.size 80 [.int .i64 0, .string ⟨#[]⟩, .slice none 0 0, .slice none 0 0]) := hd (heap_alloc_new _ _)
  have hrw := h.lt
  have hsw := h.le
  have HT := hd (fun W (hW : At w0 W r bv L p) => jtake_any hW ⟨#[110, 117, 108, 108]⟩ (by decide) (by decide) (by have e := congrArg List.length hL; rw [List.length_drop, List.length_append] at e; simp only [List.length_cons, List.length_nil] at e; have : ByteArray.size ⟨#[110, 117, 108, 108]⟩ = 4 := rfl; omega) (by rw [hL]; rfl))
  have hdd : ((deep : Int) ≤ 0) = False := eq_false (by omega)
  clear h hL
  go_enter Tryz.func76, Tryz.ntmps76
  go_wp2_with (first
    | (go_at_call 77; refine (jblanks_any HA.o (by rw [k1]; decide)).mono ?_; rintro e w1 ⟨rfl, hb1⟩; replace HX := hd (HX.o.trans (Ex.of_below (r := r) hb1)); replace HK := hd (bk_ex HK.o (Ex.of_below (r := r) hb1) (by omega)); replace HA := hd (HA.o.below hb1); have c2 := HA.o.c2; clear hb1)
    | (go_at_call 129; refine (jpeek_any HA.o).mono ?_; rintro e w2 ⟨rfl, hb1⟩; rw [k1]; replace HX := hd (HX.o.trans (Ex.of_below (r := r) hb1)); replace HK := hd (bk_ex HK.o (Ex.of_below (r := r) hb1) (by omega)); replace HA := hd (HA.o.below hb1); clear hb1)
    | (go_at_call 130; refine (HT.o _ HA.o).mono ?_; rintro e w3 ⟨rfl, hq, hx⟩; replace HX := hd (HX.o.trans hx); replace HK := hd (bk_ex HK.o hx (by omega)); have HQ := hd hq; have hB3 := HX.o.size; have f0 := HK.o.frozen 0; have f1 := HK.o.frozen 1; have f2 := HK.o.frozen 2; have f3 := HK.o.frozen 3; have k0 := HK.o.cell 0 (by simp); have kk1 := HK.o.cell 1 (by simp); have kk2 := HK.o.cell 2 (by simp); have kk3 := HK.o.cell 3 (by simp); clear hq hx))
  refine bodyPost_ret (RJ.res4 rfl _ rfl (RJ.st4 HK.o)) rfl ?_
  exact ⟨rfl, HQ.o.belowB (RJ.st4_ex _ _ _ _ (Nat.le_refl _)) hsw hrw, HX.o.belowB (RJ.st4_ex _ _ _ _ (Nat.le_refl _))⟩
end
end Go.Proofs.YteckfdohgiddgaaGreatDoor
