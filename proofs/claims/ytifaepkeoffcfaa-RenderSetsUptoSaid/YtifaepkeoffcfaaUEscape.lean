/- The walks of utf.plain and utf.escape: what stands behind a backslash, put behind a row of the caller's. -/
import Derived.Test.YtifaepkeoffcfaaUForm
import Derived.Test.YtifaepkeoffcfaaUDigits
namespace Go.Proofs.Ytifaepkeoffcfaa
open Go.RowKit
set_option linter.unusedVariables false
set_option linter.unusedSimpArgs false
namespace U
theorem numQ_none (base k : Nat) (l : List UInt8) (hb : 2 ≤ base) (h : numQ base k l = none) : numL base k l = none ∨ ∃ r, numL base k l = some r ∧ 1114111 < r := by
  unfold numQ at h
  unfold numL
  by_cases hl : l.length < k
  · rw [if_pos hl]; exact .inl rfl
  · rw [if_neg hl] at h ⊢
    exact numP_none base hb _ _ h
theorem numQ_some (base k : Nat) (l : List UInt8) (r : Nat) (h : numQ base k l = some r) : numL base k l = some r := by
  unfold numQ at h
  unfold numL
  by_cases hl : l.length < k
  · rw [if_pos hl] at h; cases h
  · rw [if_neg hl] at h ⊢
    exact numP_some base _ _ _ h
theorem numL_lt (base k : Nat) (l : List UInt8) (r : Nat) (hb : 1 ≤ base) (h : numL base k l = some r) : r < base ^ k := by
  unfold numL at h
  by_cases hl : l.length < k
  · rw [if_pos hl] at h; cases h
  · rw [if_neg hl] at h
    have := numF_lt base hb _ _ _ h
    rw [List.length_take, Nat.min_eq_left (by omega)] at this
    omega
theorem numQ_eq (base k : Nat) (l : List UInt8) (hb : 2 ≤ base) (hk : base ^ k ≤ 1114111) : numQ base k l = numL base k l := by
  cases h : numQ base k l with
  | some r => exact (numQ_some base k l r h).symm
  | none =>
    rcases numQ_none base k l hb h with h1 | ⟨r, h1, h2⟩
    · exact h1.symm
    · have := numL_lt base k l r (by omega) h1; omega
theorem valid_big (r : Nat) (h : 1114111 < r) : Utf8.valid (r : Int) = false := by
  cases hv : Utf8.valid (r : Int) with
  | false => rfl
  | true => have := (valid_iff _).1 hv; omega
/-- a number's rune and what is made of it -/
def runeOf (o : Option Nat) (k : Nat) : Option (List UInt8 × Nat) := o.bind fun v => if Utf8.valid (v : Int) then some ((Utf8.encode (v : Int)).toList, k) else none
theorem runeOf_none (k : Nat) : runeOf none k = none := rfl
theorem runeOf_bad (v k : Nat) (h : Utf8.valid (v : Int) = false) : runeOf (some v) k = none := by unfold runeOf; rw [Option.bind_some, h]; rfl
theorem runeOf_good (v k : Nat) (h : Utf8.valid (v : Int) = true) : runeOf (some v) k = some ((Utf8.encode (v : Int)).toList, k) := by unfold runeOf; rw [Option.bind_some, h]; rfl
theorem rune8 (m : Nat) (l : List UInt8) (k : Nat) : runeOf (numL 16 m l) k = runeOf (numQ 16 m l) k := by
  cases h : numQ 16 m l with
  | some r => rw [numQ_some 16 m l r h]
  | none =>
    rcases numQ_none 16 m l (by omega) h with h1 | ⟨r, h1, h2⟩
    · rw [h1]
    · rw [h1, runeOf_bad r k (valid_big r h2), runeOf_none]
theorem numQ_lt (base k : Nat) (l : List UInt8) (r : Nat) (hb : 1 ≤ base) (h : numQ base k l = some r) : r < base ^ k := numL_lt base k l r hb (numQ_some base k l r h)
end U

theorem list_head (s : ByteArray) (h : 0 < s.size) : ∃ c : UInt8, c.toNat = U.at' s 0 ∧ s.data.toList = c :: (s.extract 1 s.size).data.toList := by
  obtain ⟨h', e⟩ := list_at s 0 h
  refine ⟨_, e, ?_⟩
  rw [Lib.extract_data]
  have h1 : s.data.toList.length = s.size := (Lib.size_eq s).symm
  have h2 := List.drop_eq_getElem_cons h'
  rw [List.drop_zero] at h2
  rw [← h1, show s.data.toList.length - 1 = (s.data.toList.drop 1).length by simp, List.take_length]
  exact h2

theorem grown_trans {a b c : World} {row : Option Nat} (h : a.grownBy b row) (k : b.grownBy c row) : a.grownBy c row :=
  ⟨k.os.trans h.os, k.tape.trans h.tape, k.output.trans h.output, Nat.le_trans h.size k.size, fun i hi hne => (k.block i (Nat.lt_of_lt_of_le hi h.size) hne).trans (h.block i hi hne)⟩
theorem grown_of_below {a b : World} (h : Below a.heap.size a b) (row : Option Nat) : a.grownBy b row := ⟨h.os, h.tape, h.output, h.size, fun i hi _ => h.block i hi⟩

/-- what escape leaves: nothing is put behind the row (and 0), or what the escape means (and how many bytes it takes) -/
def EscPost (B : Nat) (e : TypeId) (w : World) (v : Value) (n : Nat) (xs : List Value) (r : Option (List UInt8 × Nat)) (en : Ending) (w' : World) : Prop :=
  match r with
  | none => en = .returned (.tuple #[v, .int .i64 0]) ∧ Below w.heap.size w w'
  | some (bs, k) => ∃ v', en = .returned (.tuple #[v', .int .i64 (k : Int)]) ∧ w'.ownsRow B e 1 v' (n + bs.length) (xs ++ cellsB bs) ∧ w.grownBy w' v.ownBlock

theorem numP_le (base : Nat) (hb : base ≤ 16) : ∀ (l : List UInt8) (v r : Nat), v ≤ 134217743 → U.numP base l v = some r → r ≤ 134217743
  | [], v, r, hv, h => by simp [U.numP] at h; omega
  | c :: l, v, r, hv, h => by
    simp only [U.numP] at h
    split at h
    · rename_i hc
      refine numP_le base hb l _ _ ?_ h
      have := U.dig_bd c.toNat
      have h2 := Nat.mul_le_mul hc.2.2 hb
      omega
    · cases h
theorem numQ_i32 {base k : Nat} {l : List UInt8} {r : Nat} (h : U.numQ base k l = some r) (hb : base ≤ 16 := by decide) : r ≤ 2147483647 := by
  unfold U.numQ at h
  split at h
  · cases h
  · have := numP_le base hb _ _ _ (by omega) h; omega

end Go.Proofs.Ytifaepkeoffcfaa
