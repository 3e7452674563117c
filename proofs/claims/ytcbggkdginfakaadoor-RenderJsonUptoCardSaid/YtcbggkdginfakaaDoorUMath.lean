/- Plain law: the model's decoding of UTF-8, and the reference's way to say which rune begins at a place. No program in sight. -/
import Derived.Test.YtcbggkdginfakaaDoorRows
import Derived.WalkKit
import Derived.Lib.Strings
namespace Go.Proofs.YtcbggkdginfakaaDoor.U
open Go

/-- byte i of s, as a number (0 behind the end) -/
def at' (s : ByteArray) (i : Nat) : Nat := (s.get! i).toNat
theorem at_lt (s : ByteArray) (i : Nat) : at' s i < 256 := (s.get! i).toNat_lt
theorem at_eq (s : ByteArray) (i : Nat) (h : i < s.size) : at' s i = (s[i]'h).toNat := by
  have := get_at s i h
  simp only [Nat.add_zero] at this
  rw [at', this]

set_option maxRecDepth 100000 in
/-- the model's decoding in terms of at' -/
theorem decode_eq (s : ByteArray) (i : Nat) : Utf8.decode s i =
    (if at' s i < 128 then (at' s i, 1)
     else if at' s i / 32 = 6 ∧ i + 1 < s.size ∧ at' s (i+1) / 64 = 2 then
       (if 128 ≤ (at' s i % 32) * 64 + at' s (i+1) % 64 then ((at' s i % 32) * 64 + at' s (i+1) % 64, 2) else (65533, 1))
     else if at' s i / 16 = 14 ∧ (i + 1 < s.size ∧ at' s (i+1) / 64 = 2) ∧ (i + 2 < s.size ∧ at' s (i+2) / 64 = 2) then
       (if 2048 ≤ (at' s i % 16) * 4096 + (at' s (i+1) % 64) * 64 + at' s (i+2) % 64 ∧ Utf8.valid (((at' s i % 16) * 4096 + (at' s (i+1) % 64) * 64 + at' s (i+2) % 64 : Nat) : Int) = true
        then ((at' s i % 16) * 4096 + (at' s (i+1) % 64) * 64 + at' s (i+2) % 64, 3) else (65533, 1))
     else if at' s i / 8 = 30 ∧ (i + 1 < s.size ∧ at' s (i+1) / 64 = 2) ∧ (i + 2 < s.size ∧ at' s (i+2) / 64 = 2) ∧ (i + 3 < s.size ∧ at' s (i+3) / 64 = 2) then
       (if 65536 ≤ (at' s i % 8) * 262144 + (at' s (i+1) % 64) * 4096 + (at' s (i+2) % 64) * 64 + at' s (i+3) % 64 ∧ Utf8.valid (((at' s i % 8) * 262144 + (at' s (i+1) % 64) * 4096 + (at' s (i+2) % 64) * 64 + at' s (i+3) % 64 : Nat) : Int) = true
        then ((at' s i % 8) * 262144 + (at' s (i+1) % 64) * 4096 + (at' s (i+2) % 64) * 64 + at' s (i+3) % 64, 4) else (65533, 1))
     else (65533, 1)) := by
  have e : ∀ k, (s.get! k).toNat = at' s k := fun _ => rfl
  unfold Utf8.decode
  simp only [e, Utf8.runeError, Nat.add_zero]
  simp only [Bool.and_eq_true, decide_eq_true_eq, beq_iff_eq, ge_iff_le, and_assoc]

/-- does no rune begin at i? -/
def bad (s : ByteArray) (i : Nat) : Bool := Utf8.decode s i == (65533, 1)
/-- the width of the rune that begins at i; 0: none -/
def wid (s : ByteArray) (i : Nat) : Nat := if i < s.size then (if bad s i then 0 else (Utf8.decode s i).2) else 0
def run (s : ByteArray) (i : Nat) : Nat := (Utf8.decode s i).1

theorem valid_iff (n : Int) : Utf8.valid n = true ↔ (0 ≤ n ∧ n < 55296) ∨ (57344 ≤ n ∧ n ≤ 1114111) := by
  simp [Utf8.valid]

theorem dec_pos (s : ByteArray) (i : Nat) : 1 ≤ (Utf8.decode s i).2 ∧ (Utf8.decode s i).2 ≤ 4 := by
  rw [decode_eq]; repeat' split
  all_goals omega

theorem dec_le (s : ByteArray) (i : Nat) (h : i < s.size) : i + (Utf8.decode s i).2 ≤ s.size := by
  rw [decode_eq]; repeat' split
  all_goals omega

/-- what stands at i where a rune begins there: the rune's form -/
theorem good_cases (s : ByteArray) (i : Nat) (h : bad s i = false) :
    (at' s i < 128 ∧ Utf8.decode s i = (at' s i, 1)) ∨
    (i + 1 < s.size ∧ 128 ≤ run s i ∧ run s i < 2048 ∧ at' s i = 192 + run s i / 64 ∧ at' s (i+1) = 128 + run s i % 64 ∧ (Utf8.decode s i).2 = 2) ∨
    (i + 2 < s.size ∧ 2048 ≤ run s i ∧ run s i < 65536 ∧ Utf8.valid (run s i : Int) = true ∧ at' s i = 224 + run s i / 4096 ∧ at' s (i+1) = 128 + run s i / 64 % 64 ∧ at' s (i+2) = 128 + run s i % 64 ∧ (Utf8.decode s i).2 = 3) ∨
    (i + 3 < s.size ∧ 65536 ≤ run s i ∧ Utf8.valid (run s i : Int) = true ∧ at' s i = 240 + run s i / 262144 ∧ at' s (i+1) = 128 + run s i / 4096 % 64 ∧ at' s (i+2) = 128 + run s i / 64 % 64 ∧ at' s (i+3) = 128 + run s i % 64 ∧ (Utf8.decode s i).2 = 4) := by
  have h0 := at_lt s i; have h1 := at_lt s (i+1); have h2 := at_lt s (i+2); have h3 := at_lt s (i+3)
  unfold bad at h
  unfold run
  rw [decode_eq] at h ⊢
  by_cases c1 : at' s i < 128
  · left; rw [if_pos c1] at h ⊢; exact ⟨c1, rfl⟩
  rw [if_neg c1] at h ⊢
  by_cases c2 : at' s i / 32 = 6 ∧ i + 1 < s.size ∧ at' s (i+1) / 64 = 2
  · rw [if_pos c2] at h ⊢
    by_cases d : 128 ≤ (at' s i % 32) * 64 + at' s (i+1) % 64
    · rw [if_pos d] at h ⊢; right; left; dsimp only; omega
    · rw [if_neg d] at h; simp at h
  rw [if_neg c2] at h ⊢
  by_cases c3 : at' s i / 16 = 14 ∧ (i + 1 < s.size ∧ at' s (i+1) / 64 = 2) ∧ (i + 2 < s.size ∧ at' s (i+2) / 64 = 2)
  · rw [if_pos c3] at h ⊢
    by_cases d : 2048 ≤ (at' s i % 16) * 4096 + (at' s (i+1) % 64) * 64 + at' s (i+2) % 64 ∧ Utf8.valid (((at' s i % 16) * 4096 + (at' s (i+1) % 64) * 64 + at' s (i+2) % 64 : Nat) : Int) = true
    · rw [if_pos d] at h ⊢; right; right; left; dsimp only; refine ⟨by omega, by omega, by omega, d.2, by omega, by omega, by omega, rfl⟩
    · rw [if_neg d] at h; simp at h
  rw [if_neg c3] at h ⊢
  by_cases c4 : at' s i / 8 = 30 ∧ (i + 1 < s.size ∧ at' s (i+1) / 64 = 2) ∧ (i + 2 < s.size ∧ at' s (i+2) / 64 = 2) ∧ (i + 3 < s.size ∧ at' s (i+3) / 64 = 2)
  · rw [if_pos c4] at h ⊢
    by_cases d : 65536 ≤ (at' s i % 8) * 262144 + (at' s (i+1) % 64) * 4096 + (at' s (i+2) % 64) * 64 + at' s (i+3) % 64 ∧ Utf8.valid (((at' s i % 8) * 262144 + (at' s (i+1) % 64) * 4096 + (at' s (i+2) % 64) * 64 + at' s (i+3) % 64 : Nat) : Int) = true
    · rw [if_pos d] at h ⊢; right; right; right; dsimp only; refine ⟨by omega, by omega, d.2, by omega, by omega, by omega, by omega, rfl⟩
    · rw [if_neg d] at h; simp at h
  · rw [if_neg c4] at h; simp at h

/-- conversely: where a rune's form stands, the decoding gives it -/
theorem dec1 (s : ByteArray) (i : Nat) (h : at' s i < 128) : Utf8.decode s i = (at' s i, 1) := by
  rw [decode_eq, if_pos h]
theorem dec2 (s : ByteArray) (i n : Nat) (hi : i + 1 < s.size) (h1 : 128 ≤ n) (h2 : n < 2048) (b0 : at' s i = 192 + n / 64) (b1 : at' s (i+1) = 128 + n % 64) : Utf8.decode s i = (n, 2) := by
  rw [decode_eq, if_neg (by omega), if_pos (by omega), if_pos (by omega)]
  congr 1; omega
theorem dec3 (s : ByteArray) (i n : Nat) (hi : i + 2 < s.size) (h1 : 2048 ≤ n) (h2 : n < 65536) (hv : Utf8.valid (n : Int) = true) (b0 : at' s i = 224 + n / 4096) (b1 : at' s (i+1) = 128 + n / 64 % 64) (b2 : at' s (i+2) = 128 + n % 64) : Utf8.decode s i = (n, 3) := by
  have e : (at' s i % 16) * 4096 + (at' s (i+1) % 64) * 64 + at' s (i+2) % 64 = n := by omega
  rw [decode_eq, if_neg (by omega), if_neg (by omega), if_pos (by omega), e, if_pos ⟨h1, hv⟩]
theorem dec4 (s : ByteArray) (i n : Nat) (hi : i + 3 < s.size) (h1 : 65536 ≤ n) (hv : Utf8.valid (n : Int) = true) (b0 : at' s i = 240 + n / 262144) (b1 : at' s (i+1) = 128 + n / 4096 % 64) (b2 : at' s (i+2) = 128 + n / 64 % 64) (b3 : at' s (i+3) = 128 + n % 64) : Utf8.decode s i = (n, 4) := by
  have h2 : n ≤ 1114111 := by have := (valid_iff _).1 hv; omega
  have e : (at' s i % 8) * 262144 + (at' s (i+1) % 64) * 4096 + (at' s (i+2) % 64) * 64 + at' s (i+3) % 64 = n := by omega
  rw [decode_eq, if_neg (by omega), if_neg (by omega), if_neg (by omega), if_pos (by omega), e, if_pos ⟨h1, hv⟩]

theorem good_valid (s : ByteArray) (i : Nat) (h : bad s i = false) : Utf8.valid (run s i : Int) = true := by
  rw [valid_iff]
  rcases good_cases s i h with ⟨h1, h2⟩ | ⟨_, h1, h2, _⟩ | ⟨_, _, _, h1, _⟩ | ⟨_, _, h1, _⟩
  · unfold run; rw [h2]; dsimp only; omega
  · omega
  · exact (valid_iff _).1 h1
  · exact (valid_iff _).1 h1

/-- the width says how great the rune is -/
theorem good_width (s : ByteArray) (i : Nat) (h : bad s i = false) : (Utf8.decode s i).2 = if run s i < 128 then 1 else if run s i < 2048 then 2 else if run s i < 65536 then 3 else 4 := by
  rcases good_cases s i h with ⟨h1, h2⟩ | ⟨_, h1, h2, _, _, h3⟩ | ⟨_, h1, h2, _, _, _, _, h3⟩ | ⟨_, h1, _, _, _, _, _, h3⟩
  · have : run s i = at' s i := by unfold run; rw [h2]
    rw [this, if_pos h1, h2]
  all_goals rw [h3]; (repeat' split) <;> omega

theorem bad_run (s : ByteArray) (i : Nat) (h : bad s i = true) : run s i = 65533 ∧ (Utf8.decode s i).2 = 1 := by
  unfold bad at h; rw [beq_iff_eq] at h; unfold run; rw [h]; exact ⟨rfl, rfl⟩

/-- the rune 0xFFFD itself stands at i -/
def rep (s : ByteArray) (i : Nat) : Bool := decide (i + 3 ≤ s.size) && ((s.extract i (i + 3)).toList == [239, 191, 189])

theorem rep_iff (s : ByteArray) (i : Nat) : rep s i = true ↔ i + 3 ≤ s.size ∧ at' s i = 239 ∧ at' s (i+1) = 191 ∧ at' s (i+2) = 189 := by
  unfold rep
  rw [Bool.and_eq_true, decide_eq_true_eq, beq_iff_eq, Lib.extract_toList]
  constructor
  · rintro ⟨h, e⟩
    have hl : s.data.toList.length = s.size := (Lib.size_eq s).symm
    have g : ∀ k, k < 3 → s.data.toList[i+k]? = [239, 191, 189][k]? := by
      intro k hk
      rw [← e, List.getElem?_take, if_pos (by omega), List.getElem?_drop]
    have get : ∀ k, i + k < s.size → s.data.toList[i+k]? = some (s.get! (i+k)) := by
      intro k hk
      have := get_at s (i+k) hk
      rw [Nat.add_zero] at this
      rw [this]
      simp [ByteArray.getElem_eq_getElem_data, hk]
    refine ⟨h, ?_, ?_, ?_⟩
    · have a := g 0 (by omega); rw [get 0 (by omega)] at a; simp at a; rw [at', a]; rfl
    · have a := g 1 (by omega); rw [get 1 (by omega)] at a; simp at a; rw [at', a]; rfl
    · have a := g 2 (by omega); rw [get 2 (by omega)] at a; simp at a; rw [at', a]; rfl
  · rintro ⟨h, a0, a1, a2⟩
    refine ⟨h, ?_⟩
    have hl : s.data.toList.length = s.size := (Lib.size_eq s).symm
    have get : ∀ k, i + k < s.size → s.data.toList[i+k]? = some (s.get! (i+k)) := by
      intro k hk
      have := get_at s (i+k) hk
      rw [Nat.add_zero] at this
      rw [this]
      simp [ByteArray.getElem_eq_getElem_data, hk]
    apply List.ext_getElem?
    intro k
    rw [List.getElem?_take]
    by_cases hk : k < 3
    · rw [if_pos (by omega), List.getElem?_drop, get k (by omega)]
      match k, hk with
      | 0, _ => simp; exact UInt8.toNat_inj.1 a0
      | 1, _ => simp; exact UInt8.toNat_inj.1 a1
      | 2, _ => simp; exact UInt8.toNat_inj.1 a2
    · rw [if_neg (by omega), List.getElem?_eq_none (by simp; omega)]

/-- the program's test: the range gives 0xFFFD and it doesn't stand there -/
theorem bad_iff (s : ByteArray) (i : Nat) (_h : i < s.size) : bad s i = true ↔ (Utf8.decode s i).1 = 65533 ∧ rep s i = false := by
  constructor
  · intro hb
    have hd : Utf8.decode s i = (65533, 1) := by unfold bad at hb; rwa [beq_iff_eq] at hb
    refine ⟨by rw [hd], ?_⟩
    cases hr : rep s i with
    | false => rfl
    | true =>
      obtain ⟨h1, a0, a1, a2⟩ := (rep_iff s i).1 hr
      have := dec3 s i 65533 (by omega) (by omega) (by omega) (by decide) a0 a1 a2
      rw [hd] at this
      simp at this
  · rintro ⟨h1, h2⟩
    cases hb : bad s i with
    | true => rfl
    | false =>
      have hr : run s i = 65533 := h1
      rcases good_cases s i hb with ⟨h3, h4⟩ | ⟨_, _, h3, _⟩ | ⟨h3, _, _, _, a0, a1, a2, _⟩ | ⟨_, h3, _⟩
      · rw [h4] at h1; dsimp only at h1; omega
      · omega
      · have : rep s i = true := (rep_iff s i).2 ⟨by omega, by omega, by omega, by omega⟩
        rw [this] at h2; cases h2
      · omega

/-- is s, from p on, forms of runes one behind another? -/
def vfrom (s : ByteArray) (p : Nat) : Bool :=
  if _h : p < s.size then (if bad s p then false else vfrom s (p + (Utf8.decode s p).2)) else true
termination_by s.size - p
decreasing_by have := dec_pos s p; omega
def valid (s : ByteArray) : Bool := vfrom s 0
theorem vfrom_bad (s : ByteArray) (p : Nat) (h : p < s.size) (hb : bad s p = true) : vfrom s p = false := by rw [vfrom, dif_pos h, if_pos hb]
theorem vfrom_step (s : ByteArray) (p : Nat) (h : p < s.size) (hb : bad s p = false) : vfrom s p = vfrom s (p + (Utf8.decode s p).2) := by rw [vfrom, dif_pos h, if_neg (by simp [hb])]
theorem vfrom_end (s : ByteArray) (p : Nat) (h : ¬ p < s.size) : vfrom s p = true := by rw [vfrom, dif_neg h]

end Go.Proofs.YtcbggkdginfakaaDoor.U
