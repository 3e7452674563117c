/- Plain law: bounds and steps of what a literal means. -/
import Derived.Test.YtifaepkeoffcfaaUEscape
namespace Go.Proofs.Ytifaepkeoffcfaa.U
open Go
theorem enc_len (v : Nat) (hv : Utf8.valid (v : Int) = true) : (Utf8.encode (v : Int)).toList.length ≤ 4 := by
  have := enc_size v hv
  rw [ByteArray.toList_eq, ← Lib.size_eq, this]
  repeat' split
  all_goals omega
theorem escL_len (q : Nat) (l : List UInt8) (bs : List UInt8) (k : Nat) (h : escL q l = some (bs, k)) : bs.length ≤ k ∧ 1 ≤ k ∧ k ≤ l.length := by
  cases l with
  | nil => cases h
  | cons c r =>
    rw [escL] at h
    by_cases h1 : isLetter c.toNat = true
    · rw [if_pos h1] at h; cases h; exact ⟨by simp [byteOf], by omega, by simp⟩
    rw [if_neg h1] at h
    by_cases h2 : c.toNat = 92 ∨ c.toNat = q
    · rw [if_pos h2] at h; cases h; exact ⟨by simp, by omega, by simp⟩
    rw [if_neg h2] at h
    have nl : ∀ b m v, numL b m r = some v → m ≤ r.length := by
      intro b m v hv; unfold numL at hv; split at hv
      · cases hv
      · omega
    by_cases h3 : c.toNat = 120
    · rw [if_pos h3] at h
      cases hn : numL 16 2 r with
      | none => rw [hn] at h; cases h
      | some v => rw [hn] at h; cases h; have := nl _ _ _ hn; exact ⟨by simp [byteOf], by omega, by simp; omega⟩
    rw [if_neg h3] at h
    have ru : ∀ m kk, 4 ≤ kk → kk ≤ m + 1 → runeOf (numL 16 m r) kk = some (bs, k) → bs.length ≤ k ∧ 1 ≤ k ∧ k ≤ (c :: r).length := by
      intro m kk h4 h5 hr
      cases hn : numL 16 m r with
      | none => rw [hn] at hr; cases hr
      | some v =>
        rw [hn] at hr
        have := nl _ _ _ hn
        cases hv : Utf8.valid (v : Int) with
        | false => rw [runeOf_bad v _ hv] at hr; cases hr
        | true =>
          rw [runeOf_good v _ hv] at hr
          cases hr
          have := enc_len v hv
          exact ⟨by omega, by omega, by simp; omega⟩
    by_cases h4 : c.toNat = 117
    · rw [if_pos h4] at h; exact ru 4 5 (by omega) (by omega) h
    rw [if_neg h4] at h
    by_cases h5 : c.toNat = 85
    · rw [if_pos h5] at h; exact ru 8 9 (by omega) (by omega) h
    rw [if_neg h5] at h
    cases hn : numL 8 3 (c :: r) with
    | none => rw [hn] at h; cases h
    | some v =>
      rw [hn] at h
      have hl : 3 ≤ (c :: r).length := by
        unfold numL at hn; split at hn
        · cases hn
        · omega
      by_cases h6 : v ≤ 255
      · have h' : some (byteOf v, 3) = some (bs, k) := by rw [← h]; exact (if_pos h6).symm
        cases h'; exact ⟨by simp [byteOf], by omega, hl⟩
      · have h' : (none : Option (List UInt8 × Nat)) = some (bs, k) := by rw [← h]; exact (if_neg h6).symm
        cases h'
theorem drop_cons (t : ByteArray) (p : Nat) (h : p < t.size) : ∃ c : UInt8, c.toNat = at' t p ∧ t.data.toList.drop p = c :: t.data.toList.drop (p + 1) := by
  obtain ⟨h', e⟩ := list_at t p h
  exact ⟨_, e, List.drop_eq_getElem_cons h'⟩
theorem ext_drop (t : ByteArray) (p : Nat) : (t.extract p t.size).data.toList = t.data.toList.drop p := by
  rw [Lib.extract_data, Lib.size_eq, ← List.length_drop, List.take_length]
theorem ext_mid (s : ByteArray) (h : 2 ≤ s.size) : (s.extract 1 (s.size - 1)).data.toList = (s.data.toList.drop 1).take (s.size - 2) := by
  rw [Lib.extract_data, show s.size - 1 - 1 = s.size - 2 by omega]
theorem lit_gt (s : ByteArray) (q : Nat) : ∀ m i n, s.size - i = m → lit s q i = some n → i < n ∧ n ≤ s.size := by
  intro m
  induction m using Nat.strongRecOn with
  | ind m ih =>
    intro i n hm h
    rw [lit] at h
    split at h
    · rename_i hi
      split at h
      · cases h; omega
      · split at h
        · have := ih (s.size - (i + 1)) (by omega) _ _ rfl h; omega
        · split at h
          · cases h
          · split at h
            · split at h
              · cases h
              · have := ih (s.size - (i + 2)) (by omega) _ _ rfl h; omega
            · have := ih (s.size - (i + 1)) (by omega) _ _ rfl h; omega
    · cases h
end Go.Proofs.Ytifaepkeoffcfaa.U
