/- The walks of labels.Get, of the reference's Get and named. -/
import Derived.Test.YtifaepkeoffcfaaLWith
namespace Go.Proofs.Ytifaepkeoffcfaa
open Go.RowKit
set_option linter.unusedVariables false
set_option linter.unusedSimpArgs false
namespace L
def get (n : ByteArray) : List Lb → ByteArray
  | [] => ⟨#[]⟩
  | x :: r => if x.1 = n then x.2 else get n r
def named (n : ByteArray) : List Lb → Bool
  | [] => false
  | x :: r => if x.1 = n then true else named n r
theorem named_iff (n : ByteArray) : ∀ l : List Lb, named n l = true ↔ ∃ x ∈ l, x.1 = n
  | [] => by simp [named]
  | x :: r => by
    unfold named
    by_cases h : x.1 = n
    · simp [h]
    · rw [if_neg h, named_iff n r]; simp [h]
end L
theorem get_any (va : Value) (n : Nat) (l : List Lb) (a : ByteArray) (w : World) (hl : IsL 2 w va n (cellsL l)) (hn : n ≤ 8796093021952) :
    Calls Try.prog 35 #[va, .string a] w fun e w' => e = .returned (.string (L.get a l)) ∧ Below w.heap.size w w' := by
  have hll := IsLb.len hl
  obtain ⟨A, c, rfl⟩ := hl.shape
  have HL := hd hl
  have HLL := hd hll
  clear hl hll
  go_enter Try.func35, Try.ntmps35
  go_wp2
  go_loopw [9] (fun x wr => ∃ k : Nat, k ≤ n ∧ x = .int .i64 k ∧ Hd (L.get a (l.drop k) = L.get a l) ∧ Hd (Below w.heap.size w wr)) (fun x _ => n - (intOf x).toNat)
  case atStart => exact ⟨0, Nat.zero_le _, rfl, hd rfl, hd (Below.refl _ _)⟩
  case round =>
    obtain ⟨k, hk, rfl, hG, HB⟩ := hrel
    have hzr := HB.o.size
    by_cases hlt : k < n
    · have hkl : k < l.length := by rw [HLL.o]; exact hlt
      obtain ⟨b, off, rfl, hbl, c1, c2⟩ := IsLb.at_ HL.o k hkl
      have d1 := (HB.o.cell (p := ⟨b, off + k * 2, none⟩) hbl).trans c1
      have d2 := (HB.o.cell (p := ⟨b, off + k * 2 + 1, none⟩) hbl).trans c2
      have HDR := hd (List.drop_eq_getElem_cons hkl)
      clear c1 c2
      generalize l[k]'hkl = x at *
      obtain ⟨x1, x2⟩ := x
      simp only at d1 d2
      have HB1 := hd (HB.o.alloc hzr (.cells #[.string x1, .string x2] 26))
      by_cases hxa : x1 = a
      · have G : Hd (L.get a l = x2) := hd <| by rw [← hG.o, HDR.o, L.get, if_pos hxa]
        have he : (x1.toList == a.toList) = true := by rw [hxa]; simp
        clear hxa
        go_wp2
        go_ret
        exact ⟨ret_str G.o.symm, HB1.o⟩
      · have G : Hd (L.get a (l.drop (k + 1)) = L.get a l) := hd <| by rw [← hG.o, HDR.o, L.get, if_neg hxa]
        have he : (x1.toList == a.toList) = false := bytes_ne hxa
        clear hxa
        go_wp2
        go_roundw
        case rel => exact ⟨k + 1, by omega, by go_num, G, HB1⟩
        case measure => simp [intOf]; omega
    · have G : Hd (L.get a l = ⟨#[]⟩) := hd <| by rw [← hG.o, List.drop_eq_nil_of_le (by rw [HLL.o]; omega)]; rfl
      go_wp2
      go_ret
      exact ⟨ret_str G.o.symm, HB.o⟩
theorem refGet_any (va : Value) (n : Nat) (l : List Lb) (a : ByteArray) (w : World) (hl : IsL 2 w va n (cellsL l)) (hn : n ≤ 8796093021952) :
    Calls Try.prog 36 #[va, .string a] w fun e w' => e = .returned (.string (L.get a l)) ∧ Below w.heap.size w w' := by
  have hll := IsLb.len hl
  obtain ⟨A, c, rfl⟩ := hl.shape
  have HL := hd hl
  have HLL := hd hll
  clear hl hll
  go_enter Try.func36, Try.ntmps36
  go_wp2
  go_loop [5] (fun x => ∃ k : Nat, k ≤ n ∧ x = .int .i64 k ∧ Hd (L.get a (l.drop k) = L.get a l)) (fun x => n - (intOf x).toNat)
  case atStart => exact ⟨0, Nat.zero_le _, rfl, hd rfl⟩
  case round =>
    obtain ⟨k, hk, rfl, hG⟩ := hrel
    by_cases hlt : k < n
    · have hkl : k < l.length := by rw [HLL.o]; exact hlt
      obtain ⟨b, off, rfl, hbl, d1, d2⟩ := IsLb.at_ HL.o k hkl
      have HDR := hd (List.drop_eq_getElem_cons hkl)
      generalize l[k]'hkl = x at *
      obtain ⟨x1, x2⟩ := x
      simp only at d1 d2
      by_cases hxa : x1 = a
      · have G : Hd (L.get a l = x2) := hd <| by rw [← hG.o, HDR.o, L.get, if_pos hxa]
        have he : (x1.toList == a.toList) = true := by rw [hxa]; simp
        clear hxa
        go_wp2
        go_ret
        exact ⟨ret_str G.o.symm, Below.refl _ _⟩
      · have G : Hd (L.get a (l.drop (k + 1)) = L.get a l) := hd <| by rw [← hG.o, HDR.o, L.get, if_neg hxa]
        have he : (x1.toList == a.toList) = false := bytes_ne hxa
        clear hxa
        go_wp2
        go_round
        case rel => exact ⟨k + 1, by omega, by go_num, G⟩
        case measure => simp [intOf]; omega
    · have G : Hd (L.get a l = ⟨#[]⟩) := hd <| by rw [← hG.o, List.drop_eq_nil_of_le (by rw [HLL.o]; omega)]; rfl
      go_wp2
      go_ret
      exact ⟨ret_str G.o.symm, Below.refl _ _⟩
theorem named_any (va : Value) (n : Nat) (l : List Lb) (a : ByteArray) (w : World) (hl : IsL 2 w va n (cellsL l)) (hn : n ≤ 8796093021952) :
    Calls Try.prog 58 #[va, .string a] w fun e w' => e = .returned (.bool (L.named a l)) ∧ w = w' := by
  have hll := IsLb.len hl
  obtain ⟨A, c, rfl⟩ := hl.shape
  have HL := hd hl
  have HLL := hd hll
  clear hl hll
  go_enter Try.func58, Try.ntmps58
  go_wp2
  go_loop [5] (fun x => ∃ k : Nat, k ≤ n ∧ x = .int .i64 k ∧ Hd (L.named a (l.drop k) = L.named a l)) (fun x => n - (intOf x).toNat)
  case atStart => exact ⟨0, Nat.zero_le _, rfl, hd rfl⟩
  case round =>
    obtain ⟨k, hk, rfl, hG⟩ := hrel
    by_cases hlt : k < n
    · have hkl : k < l.length := by rw [HLL.o]; exact hlt
      obtain ⟨b, off, rfl, hbl, d1, d2⟩ := IsLb.at_ HL.o k hkl
      have HDR := hd (List.drop_eq_getElem_cons hkl)
      generalize l[k]'hkl = x at *
      obtain ⟨x1, x2⟩ := x
      simp only at d1 d2
      by_cases hxa : x1 = a
      · have G : Hd (L.named a l = true) := hd <| by rw [← hG.o, HDR.o, L.named, if_pos hxa]
        have he : (x1.toList == a.toList) = true := by rw [hxa]; simp
        clear hxa
        go_wp2
        go_ret
        exact ⟨ret_bool G.o.symm, rfl⟩
      · have G : Hd (L.named a (l.drop (k + 1)) = L.named a l) := hd <| by rw [← hG.o, HDR.o, L.named, if_neg hxa]
        have he : (x1.toList == a.toList) = false := bytes_ne hxa
        clear hxa
        go_wp2
        go_round
        case rel => exact ⟨k + 1, by omega, by go_num, G⟩
        case measure => simp [intOf]; omega
    · have G : Hd (L.named a l = false) := hd <| by rw [← hG.o, List.drop_eq_nil_of_le (by rw [HLL.o]; omega)]; rfl
      go_wp2
      go_ret
      exact ⟨ret_bool G.o.symm, rfl⟩
end Go.Proofs.Ytifaepkeoffcfaa
