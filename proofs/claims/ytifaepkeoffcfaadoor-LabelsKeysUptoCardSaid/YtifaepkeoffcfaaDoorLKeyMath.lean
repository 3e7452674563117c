/- Plain law: texts with their lengths ahead, one behind the other, are told apart. No program in sight. -/
import Derived.Test.YtifaepkeoffcfaaDoorLKeep
import Derived.Lib.ItoaLen
import Derived.Lib.ItoaMem
namespace Go.Proofs.YtifaepkeoffcfaaDoor
set_option linter.unusedVariables false
set_option linter.unusedSimpArgs false
namespace L
def vl10 (l : List UInt8) : Nat := l.foldl (fun a c => a * 10 + (c.toNat - 48)) 0
theorem dig_nat (d : Nat) (h : d < 10) : (UInt8.ofNat (48 + d)).toNat = 48 + d := by
  rw [UInt8.toNat_ofNat']; omega
/-- a decimal number of so many digits, with its length ahead: the text's header -/
def hdr (s : ByteArray) : List UInt8 := Lib.itoa (s.size : Int) ++ 58 :: s.data.toList
def keyB : List Lb → List UInt8
  | [] => []
  | x :: r => hdr x.1 ++ (hdr x.2 ++ keyB r)
theorem split58 : ∀ {a b x y : List UInt8}, (∀ c ∈ a, c ≠ 58) → (∀ c ∈ b, c ≠ 58) → a ++ 58 :: x = b ++ 58 :: y → a = b ∧ x = y
  | [], [], x, y, _, _, h => ⟨rfl, by simpa using h⟩
  | [], d :: b, x, y, _, hb, h => by
    have : (58 : UInt8) = d := by injection h
    exact absurd this.symm (hb d (List.mem_cons_self ..))
  | c :: a, [], x, y, ha, _, h => by
    have : c = 58 := by injection h
    exact absurd this (ha c (List.mem_cons_self ..))
  | c :: a, d :: b, x, y, ha, hb, h => by
    have h1 : c = d := by injection h
    have h2 : a ++ 58 :: x = b ++ 58 :: y := by injection h
    obtain ⟨e1, e2⟩ := split58 (fun q hq => ha q (List.mem_cons_of_mem _ hq)) (fun q hq => hb q (List.mem_cons_of_mem _ hq)) h2
    exact ⟨by rw [h1, e1], e2⟩
theorem vl10_snoc (l : List UInt8) (c : UInt8) : vl10 (l ++ [c]) = vl10 l * 10 + (c.toNat - 48) := by
  unfold vl10; rw [List.foldl_append]; rfl
theorem dec_val (u : Nat) : vl10 (Lib.decDigits u) = u := by
  induction u using Nat.strongRecOn with
  | _ u ih =>
    rw [Lib.decDigits]
    by_cases h : u < 10
    · rw [dif_pos h]
      show 0 * 10 + ((UInt8.ofNat (48 + u)).toNat - 48) = u
      rw [dig_nat u h]; omega
    · rw [dif_neg h, vl10_snoc, ih (u / 10) (by omega), dig_nat (u % 10) (by omega)]; omega
theorem dec_58 (u : Nat) : ∀ c ∈ Lib.decDigits u, c ≠ 58 := by
  induction u using Nat.strongRecOn with
  | _ u ih =>
    intro c hc
    rw [Lib.decDigits] at hc
    have key : ∀ d, d < 10 → UInt8.ofNat (48 + d) ≠ 58 := fun d hd e => by
      have := congrArg UInt8.toNat e
      rw [dig_nat d hd] at this
      have h58 : (58 : UInt8).toNat = 58 := rfl
      omega
    by_cases h : u < 10
    · rw [dif_pos h, List.mem_singleton] at hc
      rw [hc]; exact key u h
    · rw [dif_neg h, List.mem_append, List.mem_singleton] at hc
      rcases hc with hc | hc
      · exact ih (u / 10) (by omega) c hc
      · rw [hc]; exact key _ (by omega)
theorem hdr_inj {s t : ByteArray} {x y : List UInt8} (h : hdr s ++ x = hdr t ++ y) : s = t ∧ x = y := by
  unfold hdr at h
  rw [Lib.itoa_nonneg, Lib.itoa_nonneg, List.append_assoc, List.append_assoc, List.cons_append, List.cons_append] at h
  obtain ⟨e1, e2⟩ := split58 (dec_58 _) (dec_58 _) h
  have e3 : s.size = t.size := by rw [← dec_val s.size, e1, dec_val]
  have hl : s.data.toList.length = t.data.toList.length := by rw [← Lib.size_eq, ← Lib.size_eq]; exact e3
  obtain ⟨e4, e5⟩ := List.append_inj e2 hl
  exact ⟨ByteArray.ext (Array.toList_inj.1 e4), e5⟩
theorem hdr_ne (s : ByteArray) (x : List UInt8) : hdr s ++ x ≠ [] := by
  unfold hdr; simp
theorem keyB_inj : ∀ {a b : List Lb}, keyB a = keyB b → a = b
  | [], [], _ => rfl
  | [], y :: b, h => by
    unfold keyB at h
    exact absurd h.symm (hdr_ne _ _)
  | x :: a, [], h => by
    unfold keyB at h
    exact absurd h (hdr_ne _ _)
  | x :: a, y :: b, h => by
    unfold keyB at h
    obtain ⟨e1, h2⟩ := hdr_inj h
    obtain ⟨e2, h3⟩ := hdr_inj h2
    have e3 := keyB_inj h3
    rw [e3, show x = y from Prod.ext e1 e2]
theorem keyB_snoc (x : Lb) : ∀ l : List Lb, keyB (l ++ [x]) = keyB l ++ (hdr x.1 ++ hdr x.2)
  | [] => by simp [keyB]
  | y :: l => by simp only [List.cons_append, keyB, keyB_snoc x l, List.append_assoc]
theorem hdr_len (s : ByteArray) (h : s.size ≤ 1048577) : (hdr s).length ≤ 1048599 := by
  unfold hdr
  have := Lib.itoa_length_le (s.size : Int) (by omega) (by omega)
  have h2 : s.data.toList.length = s.size := (Lib.size_eq s).symm
  simp; omega
theorem keyB_len : ∀ (l : List Lb), (∀ y ∈ l, y.1.size ≤ 1048577 ∧ y.2.size ≤ 1048577) → (keyB l).length ≤ l.length * 2097198
  | [], _ => by simp [keyB]
  | x :: l, h => by
    have h1 := keyB_len l fun y hy => h y (List.mem_cons_of_mem _ hy)
    have h2 := hdr_len x.1 (h x (List.mem_cons_self ..)).1
    have h3 := hdr_len x.2 (h x (List.mem_cons_self ..)).2
    simp only [keyB, List.length_append, List.length_cons]
    omega
theorem key_eq (a b : List Lb) : ((⟨(keyB a).toArray⟩ : ByteArray).toList == (⟨(keyB b).toArray⟩ : ByteArray).toList) = decide (a = b) := by
  rw [Bool.eq_iff_iff, beq_iff_eq, decide_eq_true_eq, ByteArray.toList_eq, ByteArray.toList_eq]
  constructor
  · intro h; exact keyB_inj (by simpa using h)
  · rintro rfl; rfl
end L
end Go.Proofs.YtifaepkeoffcfaaDoor
