/- Plain law: literals, escapes and what they mean, over lists of bytes. No program in sight. -/
import Derived.Test.YtifaepkeoffcfaaUNext
namespace Go.Proofs.Ytifaepkeoffcfaa.U
open Go
/-- where the literal with the quote q ends, looked at from i on -/
def lit (s : ByteArray) (q i : Nat) : Option Nat :=
  if _h : i < s.size then
    (if at' s i = q then some (i + 1) else if q = 96 then lit s q (i + 1) else if at' s i = 10 then none
     else if at' s i = 92 then (if i + 1 < s.size ∧ at' s (i + 1) = 10 then none else lit s q (i + 2)) else lit s q (i + 1))
  else none
termination_by s.size - i
decreasing_by all_goals omega
theorem lit_end (s : ByteArray) (q i : Nat) (h : ¬ i < s.size) : lit s q i = none := by rw [lit, dif_neg h]
theorem lit_hit (s : ByteArray) (q i : Nat) (h : i < s.size) (hq : at' s i = q) : lit s q i = some (i + 1) := by rw [lit, dif_pos h, if_pos hq]
theorem lit_raw (s : ByteArray) (i : Nat) (h : i < s.size) (hq : at' s i ≠ 96) : lit s 96 i = lit s 96 (i + 1) := by rw [lit, dif_pos h, if_neg hq, if_pos rfl]
theorem lit_nl (s : ByteArray) (q i : Nat) (h : i < s.size) (hq : at' s i ≠ q) (h96 : q ≠ 96) (hn : at' s i = 10) : lit s q i = none := by rw [lit, dif_pos h, if_neg hq, if_neg h96, if_pos hn]
theorem lit_esc_nl (s : ByteArray) (q i : Nat) (h : i + 1 < s.size) (hq : at' s i ≠ q) (h96 : q ≠ 96) (hb : at' s i = 92) (hn : at' s (i + 1) = 10) : lit s q i = none := by
  rw [lit, dif_pos (by omega), if_neg hq, if_neg h96, if_neg (by omega), if_pos hb, if_pos ⟨h, hn⟩]
theorem lit_esc (s : ByteArray) (q i : Nat) (h : i < s.size) (hq : at' s i ≠ q) (h96 : q ≠ 96) (hb : at' s i = 92) (hn : ¬ (i + 1 < s.size ∧ at' s (i + 1) = 10)) : lit s q i = lit s q (i + 2) := by
  rw [lit, dif_pos h, if_neg hq, if_neg h96, if_neg (by omega), if_pos hb, if_neg hn]
theorem lit_step (s : ByteArray) (q i : Nat) (h : i < s.size) (hq : at' s i ≠ q) (h96 : q ≠ 96) (hn : at' s i ≠ 10) (hb : at' s i ≠ 92) : lit s q i = lit s q (i + 1) := by
  rw [lit, dif_pos h, if_neg hq, if_neg h96, if_neg hn, if_neg hb]
/-- place and error -/
def litR : Option Nat → Int × Int
  | some n => (n, 0)
  | none => (0, 10)
def literal (s : ByteArray) (i : Int) : Int × Int :=
  if 0 ≤ i ∧ i < s.size then
    (if at' s i.toNat = 34 ∨ at' s i.toNat = 39 ∨ at' s i.toNat = 96 then litR (lit s (at' s i.toNat) (i.toNat + 1)) else (0, 10))
  else (0, 10)
theorem literal_out (s : ByteArray) (i : Int) (h : i < 0 ∨ s.size ≤ i) : literal s i = (0, 10) := by unfold literal; rw [if_neg (by omega)]
theorem literal_no (s : ByteArray) (i : Nat) (h : i < s.size) (hq : at' s i ≠ 34 ∧ at' s i ≠ 39 ∧ at' s i ≠ 96) : literal s i = (0, 10) := by
  unfold literal; rw [if_pos (by omega), Int.toNat_natCast, if_neg (by omega)]
theorem literal_in (s : ByteArray) (i : Nat) (h : i < s.size) (hq : at' s i = 34 ∨ at' s i = 39 ∨ at' s i = 96) : literal s i = litR (lit s (at' s i) (i + 1)) := by
  unfold literal; rw [if_pos (by omega), Int.toNat_natCast, if_pos hq]

/-! ### digits -/
def dig (c : Nat) : Int := if 48 ≤ c ∧ c ≤ 57 then (c : Int) - 48 else if 97 ≤ c ∧ c ≤ 102 then (c : Int) - 87 else if 65 ≤ c ∧ c ≤ 70 then (c : Int) - 55 else -1
theorem dig_bd (c : Nat) : -1 ≤ dig c ∧ dig c ≤ 15 := by unfold dig; (repeat' split) <;> omega
/-- the number of the digits l, behind the number v -/
def numF (base : Nat) : List UInt8 → Nat → Option Nat
  | [], v => some v
  | c :: r, v => if 0 ≤ dig c.toNat ∧ dig c.toNat < base then numF base r (v * base + (dig c.toNat).toNat) else none
def numL (base k : Nat) (l : List UInt8) : Option Nat := if l.length < k then none else numF base (l.take k) 0
/-- the same, given up where the number gets great -/
def numP (base : Nat) : List UInt8 → Nat → Option Nat
  | [], v => some v
  | c :: r, v => if 0 ≤ dig c.toNat ∧ dig c.toNat < base ∧ v ≤ 8388607 then numP base r (v * base + (dig c.toNat).toNat) else none
theorem numF_ge (base : Nat) (hb : 1 ≤ base) : ∀ (l : List UInt8) (v r : Nat), numF base l v = some r → v ≤ r
  | [], v, r, h => by simp [numF] at h; omega
  | c :: l, v, r, h => by
    simp only [numF] at h
    split at h
    · have := numF_ge base hb l _ _ h
      have := Nat.le_mul_of_pos_right v hb
      omega
    · cases h
theorem numP_some (base : Nat) : ∀ (l : List UInt8) (v r : Nat), numP base l v = some r → numF base l v = some r
  | [], v, r, h => by simpa [numP, numF] using h
  | c :: l, v, r, h => by
    simp only [numP] at h
    split at h
    · rename_i hc
      simp only [numF]
      rw [if_pos ⟨hc.1, hc.2.1⟩]
      exact numP_some base l _ _ h
    · cases h
theorem numP_none (base : Nat) (hb : 2 ≤ base) : ∀ (l : List UInt8) (v : Nat), numP base l v = none → numF base l v = none ∨ ∃ r, numF base l v = some r ∧ 1114111 < r
  | [], v, h => by simp [numP] at h
  | c :: l, v, h => by
    simp only [numP] at h
    simp only [numF]
    by_cases hd : 0 ≤ dig c.toNat ∧ dig c.toNat < base
    · rw [if_pos hd]
      by_cases hv : v ≤ 8388607
      · rw [if_pos ⟨hd.1, hd.2, hv⟩] at h
        exact numP_none base hb l _ h
      · cases hf : numF base l (v * base + (dig c.toNat).toNat) with
        | none => exact .inl rfl
        | some r =>
          have := numF_ge base (by omega) l _ _ hf
          have := Nat.le_mul_of_pos_right v (show 0 < base by omega)
          exact .inr ⟨r, rfl, by omega⟩
    · rw [if_neg hd]; exact .inl rfl
theorem numF_lt (base : Nat) (hb : 1 ≤ base) : ∀ (l : List UInt8) (v r : Nat), numF base l v = some r → r < (v + 1) * base ^ l.length
  | [], v, r, h => by simp [numF] at h; simp; omega
  | c :: l, v, r, h => by
    simp only [numF] at h
    split at h
    · rename_i hc
      have h1 := numF_lt base hb l _ _ h
      have h2 : v * base + (dig c.toNat).toNat + 1 ≤ (v + 1) * base := by rw [Nat.add_mul]; omega
      have h3 := Nat.mul_le_mul_right (base ^ l.length) h2
      rw [List.length_cons, Nat.pow_succ, ← Nat.mul_assoc, Nat.mul_right_comm]
      omega
    · cases h

/-! ### escapes -/
def plainB (c : Nat) : Nat := if c = 97 then 7 else if c = 98 then 8 else if c = 116 then 9 else if c = 110 then 10 else if c = 118 then 11 else if c = 102 then 12 else 13
def isLetter (c : Nat) : Bool := c == 97 || c == 98 || c == 116 || c == 110 || c == 118 || c == 102 || c == 114
def byteOf (v : Nat) : List UInt8 := [UInt8.ofNat v]
/-- what stands behind a backslash: what it means, and how many bytes it takes -/
def escL (q : Nat) : List UInt8 → Option (List UInt8 × Nat)
  | [] => none
  | c :: r =>
    if isLetter c.toNat then some (byteOf (plainB c.toNat), 1)
    else if c.toNat = 92 ∨ c.toNat = q then some ([c], 1)
    else if c.toNat = 120 then (numL 16 2 r).map fun v => (byteOf v, 3)
    else if c.toNat = 117 then (numL 16 4 r).bind fun v => if Utf8.valid (v : Int) then some ((Utf8.encode (v : Int)).toList, 5) else none
    else if c.toNat = 85 then (numL 16 8 r).bind fun v => if Utf8.valid (v : Int) then some ((Utf8.encode (v : Int)).toList, 9) else none
    else (numL 8 3 (c :: r)).bind fun v => if v ≤ 255 then some (byteOf v, 3) else none
/-- what the bytes between the quotes mean -/
def unq (q : Nat) (l : List UInt8) : Option (List UInt8) :=
  match l with
  | [] => some []
  | c :: r =>
    if c.toNat ≠ 92 then (unq q r).map (c :: ·)
    else match escL q r with
      | none => none
      | some (bs, n) => (unq q (r.drop n)).map (bs ++ ·)
termination_by l.length
decreasing_by
  · simp
  · simp; omega
theorem unq_nil (q : Nat) : unq q [] = some [] := by rw [unq]
theorem unq_plain (q : Nat) (c : UInt8) (r : List UInt8) (h : c.toNat ≠ 92) : unq q (c :: r) = (unq q r).map (c :: ·) := by rw [unq, if_pos h]
theorem unq_none (q : Nat) (c : UInt8) (r : List UInt8) (h : c.toNat = 92) (he : escL q r = none) : unq q (c :: r) = none := by rw [unq, if_neg (by omega), he]
theorem unq_some (q : Nat) (c : UInt8) (r : List UInt8) (h : c.toNat = 92) (bs : List UInt8) (n : Nat) (he : escL q r = some (bs, n)) : unq q (c :: r) = (unq q (r.drop n)).map (bs ++ ·) := by rw [unq, if_neg (by omega), he]
/-- the meaning and the error -/
def unqR : Option (List UInt8) → List UInt8 × Int
  | none => ([], 11)
  | some b => if valid ⟨b.toArray⟩ then (b, 0) else ([], 13)
/-- a literal's value and the error -/
def unquote (s : ByteArray) : List UInt8 × Int :=
  if valid s = false then ([], 4)
  else if literal s 0 ≠ ((s.size : Int), 0) then ([], 10)
  else if at' s 0 = 96 then ((s.data.toList.drop 1).take (s.size - 2), 0)
  else unqR (unq (at' s 0) ((s.data.toList.drop 1).take (s.size - 2)))
end Go.Proofs.Ytifaepkeoffcfaa.U
