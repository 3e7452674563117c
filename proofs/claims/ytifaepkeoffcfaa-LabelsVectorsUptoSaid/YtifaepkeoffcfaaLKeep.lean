/- The walks of slices.Index and slices.Contains over texts, of labels.stays and labels.Keep. -/
import Derived.Test.YtifaepkeoffcfaaLWith
namespace Go.Proofs.Ytifaepkeoffcfaa
open Go.RowKit
set_option linter.unusedVariables false
set_option linter.unusedSimpArgs false
def cellsS (l : List ByteArray) : List Value := l.map Value.string
theorem cellsS_len (l : List ByteArray) : (cellsS l).length = l.length := by simp [cellsS]
theorem strs_at {w : World} {A : Option Addr} {n c : Nat} {l : List ByteArray} (h : IsL 1 w (.slice A n c) n (cellsS l)) (i : Nat) (hi : i < l.length) :
    ∃ b off, A = some ⟨b, off, none⟩ ∧ b < w.heap.size ∧ w.cell? ⟨b, off + i, none⟩ = some (.string l[i]) := by
  obtain ⟨hl, A', c', e, r⟩ := h
  simp only [Value.slice.injEq, true_and] at e
  obtain ⟨rfl, _⟩ := e
  obtain ⟨b, off, rfl, hb, hc⟩ := r.head (by rw [cellsS_len]; omega)
  refine ⟨b, off, rfl, hb, ?_⟩
  rw [hc i (by rw [cellsS_len]; exact hi)]
  simp [cellsS]
theorem strs_len {w : World} {v : Value} {n : Nat} {l : List ByteArray} (h : IsL 1 w v n (cellsS l)) : l.length = n := by
  have := h.1; rw [cellsS_len] at this; omega
namespace L
def idx (x : ByteArray) : Nat → List ByteArray → Int
  | _, [] => -1
  | k, y :: r => if x = y then (k : Int) else idx x (k + 1) r
def isIn (x : ByteArray) : List ByteArray → Bool
  | [] => false
  | y :: r => if x = y then true else isIn x r
theorem isIn_iff (x : ByteArray) : ∀ l : List ByteArray, isIn x l = true ↔ x ∈ l
  | [] => by simp [isIn]
  | y :: r => by
    unfold isIn
    by_cases h : x = y
    · rw [if_pos h]; simp [h]
    · rw [if_neg h, isIn_iff x r]; simp [h]
theorem idx_mem (x : ByteArray) : ∀ (l : List ByteArray) (k : Nat), decide (0 ≤ idx x k l) = isIn x l
  | [], k => by simp [idx, isIn]
  | y :: r, k => by
    unfold idx isIn
    by_cases h : x = y
    · rw [if_pos h, if_pos h]; simp
    · rw [if_neg h, if_neg h, idx_mem x r (k + 1)]
theorem idx_bd (x : ByteArray) : ∀ (l : List ByteArray) (k : Nat), -1 ≤ idx x k l ∧ idx x k l < (k + l.length + 1 : Nat)
  | [], k => by simp [idx]; omega
  | y :: r, k => by
    unfold idx
    have := idx_bd x r (k + 1)
    split
    · simp; omega
    · simp at this ⊢; omega
def metric : ByteArray := ⟨#[95, 95, 110, 97, 109, 101, 95, 95]⟩
def stays (name : ByteArray) (names : List ByteArray) (without : Bool) : Bool :=
  if without then decide (name ≠ metric) && !isIn name names else isIn name names
def keepL (l : List Lb) (names : List ByteArray) (without : Bool) : List Lb := l.filter fun x => stays x.1 names without
end L
theorem index_any (va : Value) (n : Nat) (l : List ByteArray) (x : ByteArray) (w : World) (hl : IsL 1 w va n (cellsS l)) (hn : n ≤ 8796093021952) :
    Calls Try.prog 77 #[va, .string x] w fun e w' => e = .returned (.int .i64 (L.idx x 0 l)) ∧ w = w' := by
  have hll := strs_len hl
  obtain ⟨A, c, rfl⟩ := hl.shape
  have HL := hd hl
  have HLL := hd hll
  clear hl hll
  go_enter Try.func77, Try.ntmps77
  go_wp2
  go_loop [8] (fun i => ∃ k : Nat, k ≤ n ∧ i = .int .i64 k ∧ Hd (L.idx x k (l.drop k) = L.idx x 0 l)) (fun i => n - (intOf i).toNat)
  case atStart => exact ⟨0, Nat.zero_le _, rfl, hd rfl⟩
  case round =>
    obtain ⟨k, hk, rfl, hG⟩ := hrel
    by_cases hlt : k < n
    · have hkl : k < l.length := by rw [HLL.o]; exact hlt
      obtain ⟨b, off, rfl, hbl, c1⟩ := strs_at HL.o k hkl
      have HDR := hd (List.drop_eq_getElem_cons hkl)
      generalize l[k]'hkl = y at *
      by_cases hxy : x = y
      · have G : Hd (L.idx x 0 l = k) := hd <| by rw [← hG.o, HDR.o, L.idx, if_pos hxy]
        have he : (x.toList == y.toList) = true := by rw [hxy]; simp
        clear hxy
        go_wp2
        go_ret
        exact ⟨ret_int G.o.symm, rfl⟩
      · have G : Hd (L.idx x (k + 1) (l.drop (k + 1)) = L.idx x 0 l) := hd <| by rw [← hG.o, HDR.o, L.idx, if_neg hxy]
        have he : (x.toList == y.toList) = false := bytes_ne hxy
        clear hxy
        go_wp2
        go_round
        case rel => exact ⟨k + 1, by omega, by go_num, G⟩
        case measure => simp [intOf]; omega
    · have G : Hd (L.idx x 0 l = -1) := hd <| by rw [← hG.o, List.drop_eq_nil_of_le (by rw [HLL.o]; omega)]; rfl
      go_wp2
      go_ret
      exact ⟨ret_int G.o.symm, rfl⟩
theorem contains_any (va : Value) (n : Nat) (l : List ByteArray) (x : ByteArray) (w : World) (hl : IsL 1 w va n (cellsS l)) (hn : n ≤ 8796093021952) :
    Calls Try.prog 64 #[va, .string x] w fun e w' => e = .returned (.bool (L.isIn x l)) ∧ w = w' := by
  have G : Hd (decide (0 ≤ L.idx x 0 l) = L.isIn x l) := hd (L.idx_mem x l 0)
  have HL := hd hl
  clear hl
  go_enter Try.func64, Try.ntmps64
  go_wp2_with (go_at_call 77; refine (index_any va n l x _ HL.o hn).mono ?_; rintro e w' ⟨rfl, rfl⟩)
  go_ret
  exact ⟨ret_bool (by rw [← G.o]), rfl⟩
theorem stays_any (va : Value) (n : Nat) (l : List ByteArray) (x : ByteArray) (b : Bool) (w : World) (hl : IsL 1 w va n (cellsS l)) (hn : n ≤ 8796093021952) :
    Calls Try.prog 37 #[.string x, va, .bool b] w fun e w' => e = .returned (.bool (L.stays x l b)) ∧ w = w' := by
  have HL := hd hl
  clear hl
  cases b with
  | false =>
    have G : Hd (L.stays x l false = L.isIn x l) := hd rfl
    go_enter Try.func37, Try.ntmps37
    go_wp2_with (go_at_call 64; refine (contains_any va n l x _ HL.o hn).mono ?_; rintro e w' ⟨rfl, rfl⟩)
    go_ret
    exact ⟨ret_bool (by rw [← G.o]), rfl⟩
  | true =>
    by_cases hm : x = L.metric
    · have G : Hd (L.stays x l true = false) := hd <| by unfold L.stays; simp [hm]
      have he : (x.toList == [95, 95, 110, 97, 109, 101, 95, 95]) = true := by rw [hm]; decide +kernel
      have he2 : x.toList = [95, 95, 110, 97, 109, 101, 95, 95] := by rw [hm]; decide +kernel
      clear hm
      go_enter Try.func37, Try.ntmps37
      go_wp2_with (go_at_call 64; refine (contains_any va n l x _ HL.o hn).mono ?_; rintro e w' ⟨rfl, rfl⟩)
      go_ret
      exact ⟨ret_bool G.o.symm, rfl⟩
    · have G : Hd (L.stays x l true = !(L.isIn x l)) := hd <| by unfold L.stays; simp [hm]
      have he2 : ¬ x.toList = [95, 95, 110, 97, 109, 101, 95, 95] := fun h => hm (toList_inj.1 (h.trans (by decide +kernel)))
      have he : (x.toList == [95, 95, 110, 97, 109, 101, 95, 95]) = false := by rw [beq_eq_false_iff_ne]; exact he2
      clear hm
      go_enter Try.func37, Try.ntmps37
      go_wp2_with (go_at_call 64; refine (contains_any va n l x _ HL.o hn).mono ?_; rintro e w' ⟨rfl, rfl⟩)
      go_ret
      exact ⟨ret_bool (by rw [← G.o]), rfl⟩
end Go.Proofs.Ytifaepkeoffcfaa
