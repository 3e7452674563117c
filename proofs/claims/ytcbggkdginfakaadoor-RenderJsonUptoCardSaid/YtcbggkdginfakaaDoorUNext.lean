/- Plain law: the reference's search for the rune that begins at a place finds what the model's decoding says. -/
import Derived.Test.YtcbggkdginfakaaDoorUMath
namespace Go.Proofs.YtcbggkdginfakaaDoor.U
open Go

theorem data_get (s : ByteArray) (k : Nat) (h : k < s.size) : s.data.toList[k]? = some (s.get! k) := by
  have := get_at s k h
  rw [Nat.add_zero] at this
  rw [this]
  simp [ByteArray.getElem_eq_getElem_data, h]

theorem ext_iff (s : ByteArray) (i : Nat) (l : List UInt8) (hi : i + l.length ≤ s.size) :
    (s.extract i (i + l.length)).toList = l ↔ ∀ k (h : k < l.length), at' s (i + k) = (l[k]'h).toNat := by
  rw [Lib.extract_toList, Nat.add_sub_cancel_left]
  have hl : s.data.toList.length = s.size := (Lib.size_eq s).symm
  constructor
  · intro e k hk
    have a : ((s.data.toList.drop i).take l.length)[k]? = l[k]? := by rw [e]
    rw [List.getElem?_take, if_pos hk, List.getElem?_drop, data_get s _ (by omega), List.getElem?_eq_getElem hk] at a
    rw [at', Option.some.inj a]
  · intro e
    apply List.ext_getElem?
    intro k
    rw [List.getElem?_take]
    by_cases hk : k < l.length
    · rw [if_pos hk, List.getElem?_drop, data_get s _ (by omega), List.getElem?_eq_getElem hk]
      exact congrArg some (UInt8.toNat_inj.1 (e k hk))
    · rw [if_neg hk, List.getElem?_eq_none (by omega)]

/-- the bytes of a rune's form -/
theorem enc_list (n : Nat) (hv : Utf8.valid (n : Int) = true) : (Utf8.encode (n : Int)).toList =
    if n < 128 then [UInt8.ofNat n] else if n < 2048 then [UInt8.ofNat (192 + n / 64), UInt8.ofNat (128 + n % 64)]
    else if n < 65536 then [UInt8.ofNat (224 + n / 4096), UInt8.ofNat (128 + n / 64 % 64), UInt8.ofNat (128 + n % 64)]
    else [UInt8.ofNat (240 + n / 262144), UInt8.ofNat (128 + n / 4096 % 64), UInt8.ofNat (128 + n / 64 % 64), UInt8.ofNat (128 + n % 64)] := by
  unfold Utf8.encode
  simp only [hv, if_true, Int.toNat_natCast]
  repeat' split
  all_goals exact ByteArray.toList_mk _

theorem enc_size (n : Nat) (hv : Utf8.valid (n : Int) = true) : (Utf8.encode (n : Int)).size = if n < 128 then 1 else if n < 2048 then 2 else if n < 65536 then 3 else 4 := by
  have : (Utf8.encode (n : Int)).size = (Utf8.encode (n : Int)).toList.length := by rw [ByteArray.toList_eq, Lib.size_eq]
  rw [this, enc_list n hv]
  repeat' split
  all_goals rfl

/-- the reference's form: nothing, if n is no rune -/
def formB (n : Int) : ByteArray := if Utf8.valid n then Utf8.encode n else ⟨#[]⟩
/-- the reference's guess -/
def gs (s : ByteArray) (i : Nat) : Nat → Int
  | 1 => at' s i
  | 2 => ((at' s i : Int) - 192) * 64 + at' s (i+1) - 128
  | 3 => (((at' s i : Int) - 224) * 64 + at' s (i+1) - 128) * 64 + at' s (i+2) - 128
  | _ => ((((at' s i : Int) - 240) * 64 + at' s (i+1) - 128) * 64 + at' s (i+2) - 128) * 64 + at' s (i+3) - 128
def hit (s : ByteArray) (i w : Nat) : Bool := (formB (gs s i w)).size == w && (s.extract i (i + w)).toList == (formB (gs s i w)).toList

theorem ofNat_toNat (n : Nat) (h : n < 256) : (UInt8.ofNat n).toNat = n := by
  rw [UInt8.toNat_ofNat']; omega

theorem hit_dec (s : ByteArray) (i w : Nat) (hw : 1 ≤ w ∧ w ≤ 4) (hi : i + w ≤ s.size) (h : hit s i w = true) :
    0 ≤ gs s i w ∧ Utf8.decode s i = ((gs s i w).toNat, w) ∧ bad s i = false := by
  unfold hit at h
  rw [Bool.and_eq_true, beq_iff_eq, beq_iff_eq] at h
  obtain ⟨h1, h2⟩ := h
  have hv : Utf8.valid (gs s i w) = true := by
    cases hv : Utf8.valid (gs s i w) with
    | true => rfl
    | false =>
      have z : (⟨#[]⟩ : ByteArray).size = 0 := rfl
      simp only [formB, hv, Bool.false_eq_true, if_false] at h1
      omega
  have hf : formB (gs s i w) = Utf8.encode (gs s i w) := by simp [formB, hv]
  rw [hf] at h1 h2
  have h0 := (valid_iff _).1 hv
  obtain ⟨n, hn⟩ := Int.eq_ofNat_of_zero_le (show 0 ≤ gs s i w by omega)
  have hn' : gs s i w = (n : Int) := hn
  rw [hn'] at h1 h2 hv h0 ⊢
  have he := enc_list n hv
  have hs := enc_size n hv
  rw [hs] at h1
  have hl : (Utf8.encode (n : Int)).toList.length = w := by rw [← h1, ← hs, ByteArray.toList_eq, Lib.size_eq]
  have hx : (s.extract i (i + (Utf8.encode (n : Int)).toList.length)).toList = (Utf8.encode (n : Int)).toList := by rw [hl]; exact h2
  have hb := (ext_iff s i _ (by rw [hl]; exact hi)).1 hx
  rw [he] at hb
  have hg : ∀ d : Utf8.decode s i = (n, w), (0 : Int) ≤ n ∧ Utf8.decode s i = ((n : Int).toNat, w) ∧ bad s i = false := by
    intro d
    refine ⟨by omega, by rw [d]; simp, ?_⟩
    cases hb2 : bad s i with
    | false => rfl
    | true =>
      unfold bad at hb2
      rw [beq_iff_eq, d] at hb2
      simp only [Prod.mk.injEq] at hb2
      obtain ⟨q1, q2⟩ := hb2
      subst q1
      subst q2
      exact absurd h1 (by decide)
  by_cases c1 : n < 128
  · rw [if_pos c1] at h1
    simp only [if_pos c1] at hb
    have b0 := hb 0 (by simp)
    simp only [List.getElem_cons_zero, Nat.add_zero] at b0
    rw [ofNat_toNat n (by omega)] at b0
    refine hg ?_
    rw [dec1 s i (by omega), b0, ← h1]
  rw [if_neg c1] at h1
  by_cases c2 : n < 2048
  · rw [if_pos c2] at h1
    simp only [if_neg c1, if_pos c2] at hb
    have b0 := hb 0 (by simp)
    have b1 := hb 1 (by simp)
    simp only [List.getElem_cons_zero, List.getElem_cons_succ, Nat.add_zero] at b0 b1
    rw [ofNat_toNat _ (by omega)] at b0 b1
    exact hg (by rw [dec2 s i n (by omega) (by omega) c2 b0 b1, h1])
  rw [if_neg c2] at h1
  by_cases c3 : n < 65536
  · rw [if_pos c3] at h1
    simp only [if_neg c1, if_neg c2, if_pos c3] at hb
    have b0 := hb 0 (by simp)
    have b1 := hb 1 (by simp)
    have b2 := hb 2 (by simp)
    simp only [List.getElem_cons_zero, List.getElem_cons_succ, Nat.add_zero] at b0 b1 b2
    rw [ofNat_toNat _ (by omega)] at b0 b1 b2
    exact hg (by rw [dec3 s i n (by omega) (by omega) c3 hv b0 b1 b2, h1])
  rw [if_neg c3] at h1
  simp only [if_neg c1, if_neg c2, if_neg c3] at hb
  have b0 := hb 0 (by simp)
  have b1 := hb 1 (by simp)
  have b2 := hb 2 (by simp)
  have b3 := hb 3 (by simp)
  simp only [List.getElem_cons_zero, List.getElem_cons_succ, Nat.add_zero] at b0 b1 b2 b3
  rw [ofNat_toNat _ (by omega)] at b0 b1 b2 b3
  exact hg (by rw [dec4 s i n (by omega) (by omega) hv b0 b1 b2 b3, h1])

/-- the form of the rune that begins at i stands at i -/
theorem good_form (s : ByteArray) (i : Nat) (hi : i < s.size) (h : bad s i = false) :
    (s.extract i (i + (Utf8.decode s i).2)).toList = (Utf8.encode (run s i : Int)).toList := by
  have hv := good_valid s i h
  have hw := good_width s i h
  have hs := enc_size _ hv
  have hl : (Utf8.encode (run s i : Int)).toList.length = (Utf8.decode s i).2 := by rw [hw, ← hs, ByteArray.toList_eq, Lib.size_eq]
  rw [← hl]
  have hle := dec_le s i hi
  rw [ext_iff s i _ (by rw [hl]; exact hle)]
  rw [enc_list _ hv]
  intro k hk
  have hr : run s i ≤ 1114111 := by have := (valid_iff _).1 hv; omega
  rcases good_cases s i h with ⟨h1, h2⟩ | ⟨_, h1, h2, a0, a1, h3⟩ | ⟨_, h1, h2, _, a0, a1, a2, h3⟩ | ⟨_, h1, _, a0, a1, a2, a3, h3⟩
  · have e : run s i = at' s i := by unfold run; rw [h2]
    have h1' : run s i < 128 := by omega
    simp only [if_pos h1'] at hk ⊢
    simp at hk
    subst hk
    simp only [List.getElem_cons_zero, Nat.add_zero]
    rw [ofNat_toNat _ (by omega), e]
  · simp only [if_neg (show ¬ run s i < 128 by omega), if_pos h2] at hk ⊢
    have hk' : k < 2 := hk
    rcases (show k = 0 ∨ k = 1 by omega) with rfl | rfl
    · simp only [List.getElem_cons_zero, Nat.add_zero]; rw [ofNat_toNat _ (by omega), a0]
    · simp only [List.getElem_cons_zero, List.getElem_cons_succ]; rw [ofNat_toNat _ (by omega), a1]
  · simp only [if_neg (show ¬ run s i < 128 by omega), if_neg (show ¬ run s i < 2048 by omega), if_pos h2] at hk ⊢
    have hk' : k < 3 := hk
    rcases (show k = 0 ∨ k = 1 ∨ k = 2 by omega) with rfl | rfl | rfl
    · simp only [List.getElem_cons_zero, Nat.add_zero]; rw [ofNat_toNat _ (by omega), a0]
    · simp only [List.getElem_cons_zero, List.getElem_cons_succ]; rw [ofNat_toNat _ (by omega), a1]
    · simp only [List.getElem_cons_zero, List.getElem_cons_succ]; rw [ofNat_toNat _ (by omega), a2]
  · simp only [if_neg (show ¬ run s i < 128 by omega), if_neg (show ¬ run s i < 2048 by omega), if_neg (show ¬ run s i < 65536 by omega)] at hk ⊢
    have hk' : k < 4 := hk
    rcases (show k = 0 ∨ k = 1 ∨ k = 2 ∨ k = 3 by omega) with rfl | rfl | rfl | rfl
    · simp only [List.getElem_cons_zero, Nat.add_zero]; rw [ofNat_toNat _ (by omega), a0]
    · simp only [List.getElem_cons_zero, List.getElem_cons_succ]; rw [ofNat_toNat _ (by omega), a1]
    · simp only [List.getElem_cons_zero, List.getElem_cons_succ]; rw [ofNat_toNat _ (by omega), a2]
    · simp only [List.getElem_cons_zero, List.getElem_cons_succ]; rw [ofNat_toNat _ (by omega), a3]

theorem dec_hit (s : ByteArray) (i : Nat) (hi : i < s.size) (h : bad s i = false) : hit s i (Utf8.decode s i).2 = true := by
  have hv := good_valid s i h
  have hw := good_width s i h
  have hr : run s i ≤ 1114111 := by have := (valid_iff _).1 hv; omega
  have hg : gs s i (Utf8.decode s i).2 = (run s i : Int) := by
    rcases good_cases s i h with ⟨h1, h2⟩ | ⟨_, h1, h2, a0, a1, h3⟩ | ⟨_, h1, h2, _, a0, a1, a2, h3⟩ | ⟨_, h1, _, a0, a1, a2, a3, h3⟩
    · have e : run s i = at' s i := by unfold run; rw [h2]
      rw [e, h2]; rfl
    · rw [h3]; simp only [gs]; omega
    · rw [h3]; simp only [gs]; omega
    · rw [h3]; simp only [gs]; omega
  unfold hit
  rw [hg]
  have hf : formB (run s i : Int) = Utf8.encode (run s i : Int) := by simp [formB, hv]
  rw [hf, good_form s i hi h, enc_size _ hv, ← hw]
  simp

theorem no_hit (s : ByteArray) (i : Nat) (hi : i < s.size) (h : ∀ w, 1 ≤ w → w ≤ 4 → i + w ≤ s.size → hit s i w = false) : bad s i = true := by
  cases hb : bad s i with
  | true => rfl
  | false =>
    have := dec_hit s i hi hb
    have h1 := dec_pos s i
    rw [h _ h1.1 h1.2 (dec_le s i hi)] at this
    cases this
end Go.Proofs.YtcbggkdginfakaaDoor.U
