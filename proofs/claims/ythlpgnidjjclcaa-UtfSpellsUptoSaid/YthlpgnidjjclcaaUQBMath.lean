/- Plain law: what Quote writes of a text is one literal, in visible bytes, and means the text again; shared words for Json. -/
import Derived.Test.YthlpgnidjjclcaaUBackMath
namespace Go.Proofs.Ythlpgnidjjclcaa.U
open Go
/-- byte k of a piece that stands behind another -/
theorem at_pre (pre w r : List UInt8) (k : Nat) (hk : k < w.length) : at' ⟨(pre ++ (w ++ r)).toArray⟩ (pre.length + k) = ((w[k]?).getD 0).toNat := by
  rw [at_mk, List.getElem?_append_right (by omega), Nat.add_sub_cancel_left, List.getElem?_append_left hk]
theorem pre_size (pre w r : List UInt8) : (⟨(pre ++ (w ++ r)).toArray⟩ : ByteArray).size = pre.length + (w.length + r.length) := by
  rw [mk_size, List.length_append, List.length_append]

/-! ### runes and bytes below 128 -/
def bytesR (l : List UInt8) : List Int := l.map fun b => (b.toNat : Int)
theorem encs_bytes : ∀ l : List UInt8, (∀ b ∈ l, b.toNat < 128) → encs (bytesR l) = l ∧ allRunes (bytesR l) = true
  | [], _ => ⟨rfl, rfl⟩
  | c :: l, h => by
    have ih := encs_bytes l fun b hb => h b (by simp [hb])
    have hc := h c (by simp)
    unfold bytesR at *
    rw [List.map_cons, encs_cons, ih.1, enc_low _ hc, u8_of]
    refine ⟨rfl, ?_⟩
    unfold allRunes at *
    rw [List.all_cons, ih.2, (valid_iff _).2 (by omega)]; rfl
def wrR (f : UInt8 → List UInt8) (r : Int) : List Int := if r < 128 then bytesR (f (UInt8.ofNat r.toNat)) else [r]
theorem allRunes_app (a b : List Int) : allRunes (a ++ b) = (allRunes a && allRunes b) := List.all_append
theorem flat_encs (f : UInt8 → List UInt8) (hf : ∀ c : UInt8, 128 ≤ c.toNat → f c = [c]) (hl : ∀ c : UInt8, c.toNat < 128 → ∀ b ∈ f c, b.toNat < 128) :
    ∀ l : List Int, allRunes l = true → (encs l).flatMap f = encs (l.flatMap (wrR f)) ∧ allRunes (l.flatMap (wrR f)) = true
  | [], _ => ⟨rfl, rfl⟩
  | r :: l, h => by
    unfold allRunes at h
    rw [List.all_cons, Bool.and_eq_true] at h
    have ih := flat_encs f hf hl l h.2
    obtain ⟨n, rfl, _⟩ := valid_nat r h.1
    rw [encs_cons, List.flatMap_append, ih.1, List.flatMap_cons, encs_app, allRunes_app, ih.2, Bool.and_true]
    by_cases c1 : n < 128
    · have hw : wrR f (n : Int) = bytesR (f (UInt8.ofNat n)) := by unfold wrR; rw [if_pos (by omega), Int.toNat_natCast]
      have hb := encs_bytes (f (UInt8.ofNat n)) (hl _ (by rw [ofNat_toNat _ (by omega)]; exact c1))
      rw [hw, enc_low n c1, hb.1]
      exact ⟨by simp, hb.2⟩
    · have hw : wrR f (n : Int) = [(n : Int)] := by unfold wrR; rw [if_neg (by omega)]
      rw [hw, encs_one, flat_self f hf _ (enc_high n h.1 (by omega))]
      exact ⟨rfl, by unfold allRunes; rw [List.all_cons, h.1]; rfl⟩
/-- what stands between quotes is UTF-8 -/
theorem quoted_valid (f : UInt8 → List UInt8) (hf : ∀ c : UInt8, 128 ≤ c.toNat → f c = [c]) (hl : ∀ c : UInt8, c.toNat < 128 → ∀ b ∈ f c, b.toNat < 128)
    (l : List Int) (h : allRunes l = true) : valid ⟨(34 :: (encs l).flatMap f ++ [34]).toArray⟩ = true := by
  have hq := encs_bytes [34] (by decide)
  obtain ⟨h1, h2⟩ := flat_encs f hf hl l h
  have e : (34 :: (encs l).flatMap f ++ [34] : List UInt8) = encs (bytesR [34] ++ (l.flatMap (wrR f) ++ bytesR [34])) := by
    rw [encs_app, encs_app, hq.1, ← h1]; rfl
  rw [e]
  exact encs_valid _ (by rw [allRunes_app, allRunes_app, hq.2, h2]; rfl)

/-! ### Quote -/
theorem wrQ_bytes : ∀ c : Nat, c < 256 → (wrQ (UInt8.ofNat c)).all (fun b => 32 ≤ b.toNat && b.toNat != 127 && (128 ≤ c || b.toNat < 128)) = true := by decide +kernel
theorem wrQ_low (c : UInt8) (h : c.toNat < 128) : ∀ b ∈ wrQ c, b.toNat < 128 := by
  intro b hb
  have h1 := wrQ_bytes c.toNat c.toNat_lt
  rw [u8_of] at h1
  have := List.all_eq_true.1 h1 b hb
  simp at this
  omega
theorem hex2 : ∀ c : Nat, c < 256 → numF 16 [UInt8.ofNat (hxN (c / 16)), UInt8.ofNat (hxN (c % 16))] 0 = some c := by decide +kernel
theorem letQ_all : ∀ k : Nat, k < 7 → isLetter (letQ.getD k 0).toNat = true ∧ plainB (letQ.getD k 0).toNat = k + 7 ∧ (letQ.getD k 0).toNat ≠ 10 := by decide +kernel
theorem hxN_ok : ∀ k : Nat, k < 16 → hxN k < 256 ∧ hxN k ≠ 34 ∧ hxN k ≠ 10 ∧ hxN k ≠ 92 := by decide +kernel
theorem map_cons_eq (c : UInt8) (o : Option (List UInt8)) : o.map ([c] ++ ·) = o.map (c :: ·) := rfl
theorem unq_wrQ (c : UInt8) (r : List UInt8) : unq 34 (wrQ c ++ r) = (unq 34 r).map (c :: ·) := by
  have hc := c.toNat_lt
  have e := u8_of c
  by_cases h1 : c.toNat = 34 ∨ c.toNat = 92
  · have := wrQ_back c.toNat hc h1
    rw [e] at this
    rw [this, List.cons_append, unq_some 34 92 ([c] ++ r) rfl [c] 1 ?_]
    · rfl
    · rw [List.singleton_append, escL]
      rw [if_neg (by rcases h1 with h | h <;> rw [h] <;> decide), if_pos (by omega)]
  by_cases h2 : 7 ≤ c.toNat ∧ c.toNat ≤ 13
  · have := wrQ_let c.toNat hc h2
    rw [e] at this
    obtain ⟨l1, l2, _⟩ := letQ_all (c.toNat - 7) (by omega)
    rw [this]
    generalize letQ.getD (c.toNat - 7) 0 = x at l1 l2 this
    rw [List.cons_append, unq_some 34 92 ([x] ++ r) rfl [c] 1 ?_]
    · rfl
    · rw [List.singleton_append, escL, if_pos l1, l2, show c.toNat - 7 + 7 = c.toNat by omega]
      unfold byteOf; rw [e]
  by_cases h3 : c.toNat < 32 ∨ c.toNat = 127
  · have := wrQ_hex c.toNat hc ⟨h3, h2⟩
    rw [e] at this
    have hh := hex2 c.toNat hc
    rw [this]
    generalize UInt8.ofNat (hxN (c.toNat / 16)) = x at hh this
    generalize UInt8.ofNat (hxN (c.toNat % 16)) = y at hh this
    rw [List.cons_append, unq_some 34 92 ([120, x, y] ++ r) rfl [c] 3 ?_]
    · rfl
    · show escL 34 (120 :: x :: y :: r) = _
      rw [escL, if_neg (by decide), if_neg (by decide), if_pos (by decide)]
      unfold numL
      rw [if_neg (by simp)]
      show (numF 16 [x, y] 0).map _ = _
      rw [hh, Option.map_some]
      unfold byteOf; rw [e]
  · have := wrQ_self c.toNat hc (by omega)
    rw [e] at this
    rw [this, List.singleton_append, unq_plain 34 c r (by omega)]
theorem unq_flat : ∀ l : List UInt8, unq 34 (l.flatMap wrQ) = some l
  | [] => by rw [List.flatMap_nil, unq_nil]
  | c :: l => by rw [List.flatMap_cons, unq_wrQ, unq_flat l]; rfl
theorem lit_wrQ (pre r : List UInt8) (c : UInt8) : lit ⟨(pre ++ (wrQ c ++ r)).toArray⟩ 34 pre.length = lit ⟨(pre ++ (wrQ c ++ r)).toArray⟩ 34 (pre.length + (wrQ c).length) := by
  have hc := c.toNat_lt
  have e := u8_of c
  have hat := at_pre pre (wrQ c) r
  have hsz := pre_size pre (wrQ c) r
  generalize (⟨(pre ++ (wrQ c ++ r)).toArray⟩ : ByteArray) = s at hat hsz ⊢
  by_cases h1 : c.toNat = 34 ∨ c.toNat = 92
  · have hw := wrQ_back c.toNat hc h1
    rw [e] at hw
    rw [hw] at hat hsz ⊢
    have a0 := hat 0 (by simp)
    have a1 := hat 1 (by simp)
    simp only [List.getElem?_cons_zero, List.getElem?_cons_succ, Option.getD_some, Nat.add_zero, List.length_cons, List.length_nil] at a0 a1 hsz ⊢
    have a0' : at' s pre.length = 92 := a0
    exact lit_esc s 34 _ (by omega) (by omega) (by decide) a0' (by omega)
  by_cases h2 : 7 ≤ c.toNat ∧ c.toNat ≤ 13
  · have hw := wrQ_let c.toNat hc h2
    rw [e] at hw
    obtain ⟨_, _, l3⟩ := letQ_all (c.toNat - 7) (by omega)
    rw [hw] at hat hsz ⊢
    generalize letQ.getD (c.toNat - 7) 0 = x at l3 hat hsz ⊢
    have a0 := hat 0 (by simp)
    have a1 := hat 1 (by simp)
    simp only [List.getElem?_cons_zero, List.getElem?_cons_succ, Option.getD_some, Nat.add_zero, List.length_cons, List.length_nil] at a0 a1 hsz ⊢
    have a0' : at' s pre.length = 92 := a0
    exact lit_esc s 34 _ (by omega) (by omega) (by decide) a0' (by omega)
  by_cases h3 : c.toNat < 32 ∨ c.toNat = 127
  · have hw := wrQ_hex c.toNat hc ⟨h3, h2⟩
    rw [e] at hw
    have x1 := hxN_ok (c.toNat / 16) (by omega)
    have x2 := hxN_ok (c.toNat % 16) (by omega)
    rw [hw] at hat hsz ⊢
    have a0 := hat 0 (by simp)
    have a1 := hat 1 (by simp)
    have a2 := hat 2 (by simp)
    have a3 := hat 3 (by simp)
    simp only [List.getElem?_cons_zero, List.getElem?_cons_succ, Option.getD_some, Nat.add_zero, List.length_cons, List.length_nil] at a0 a1 a2 a3 hsz ⊢
    rw [ofNat_toNat _ x1.1] at a2
    rw [ofNat_toNat _ x2.1] at a3
    have a0' : at' s pre.length = 92 := a0
    have a1' : at' s (pre.length + 1) = 120 := a1
    rw [lit_esc s 34 _ (by omega) (by omega) (by decide) a0' (by omega), lit_step s 34 (pre.length + 2) (by omega) (by omega) (by decide) (by omega) (by omega),
      lit_step s 34 (pre.length + 3) (by omega) (by omega) (by decide) (by omega) (by omega)]
  · have hw := wrQ_self c.toNat hc (by omega)
    rw [e] at hw
    rw [hw] at hat hsz ⊢
    have a0 := hat 0 (by simp)
    simp only [List.getElem?_cons_zero, Option.getD_some, Nat.add_zero, List.length_cons, List.length_nil] at a0 hsz ⊢
    exact lit_step s 34 _ (by omega) (by omega) (by decide) (by omega) (by omega)
theorem lit_flat : ∀ (l pre r : List UInt8), lit ⟨(pre ++ (l.flatMap wrQ ++ 34 :: r)).toArray⟩ 34 pre.length = some (pre.length + (l.flatMap wrQ).length + 1)
  | [], pre, r => by
    have hat := at_pre pre [34] r 0 (by simp)
    have hsz := pre_size pre [34] r
    rw [List.flatMap_nil, List.nil_append]
    exact lit_hit _ _ _ (by rw [List.singleton_append] at hsz; rw [hsz]; simp; omega) hat
  | c :: l, pre, r => by
    rw [List.flatMap_cons, List.append_assoc, lit_wrQ]
    have := lit_flat l (pre ++ wrQ c) r
    rw [List.length_append, List.append_assoc] at this
    rw [this, List.length_append]
    congr 1; omega
/-- what Quote writes of the runes l -/
def quo (l : List Int) : List UInt8 := 34 :: (encs l).flatMap wrQ ++ [34]
theorem quo_len (l : List Int) : (quo l).length = ((encs l).flatMap wrQ).length + 2 := by unfold quo; simp
theorem quo_valid (l : List Int) (h : allRunes l = true) : valid ⟨(quo l).toArray⟩ = true := quoted_valid wrQ wrQ_high wrQ_low l h
theorem quo_bytes (l : List Int) (i : Nat) (hi : i < (quo l).length) : 32 ≤ at' ⟨(quo l).toArray⟩ i ∧ at' ⟨(quo l).toArray⟩ i ≠ 127 := by
  rw [at_mk, List.getElem?_eq_getElem hi, Option.getD_some]
  have hm : (quo l)[i] ∈ quo l := List.getElem_mem _
  generalize (quo l)[i] = b at hm
  unfold quo at hm
  simp only [List.cons_append, List.mem_cons, List.mem_append, List.not_mem_nil, or_false, List.mem_flatMap] at hm
  rcases hm with rfl | ⟨c, _, hc⟩ | rfl
  · decide
  · have h1 := wrQ_bytes c.toNat c.toNat_lt
    rw [u8_of] at h1
    have := List.all_eq_true.1 h1 b hc
    simp at this
    omega
  · decide
theorem quo_first (l : List Int) : at' ⟨(quo l).toArray⟩ 0 = 34 := by rw [at_mk]; rfl
theorem quo_literal (l : List Int) (head rest : List UInt8) : literal ⟨(head ++ (quo l ++ rest)).toArray⟩ (head.length : Int) = (((head.length + (quo l).length : Nat) : Int), 0) := by
  have e : head ++ (quo l ++ rest) = (head ++ [34]) ++ ((encs l).flatMap wrQ ++ 34 :: rest) := by unfold quo; simp
  have h1 := lit_flat (encs l) (head ++ [34]) rest
  have hz := pre_size head (quo l) rest
  have ha := at_pre head (quo l) rest 0 (by unfold quo; simp)
  have hq : ((quo l)[0]?.getD 0).toNat = 34 := rfl
  rw [hq, Nat.add_zero] at ha
  have hl := quo_len l
  rw [literal_in _ head.length (by rw [hz]; omega) (.inl ha), ha, e, show head.length + 1 = (head ++ [34]).length by simp, h1]
  unfold litR
  rw [List.length_append, hl]
  simp
  omega
theorem quo_unquote (l : List Int) (h : allRunes l = true) : unquote ⟨(quo l).toArray⟩ = (encs l, 0) := by
  have h1 := quo_literal l [] []
  rw [List.append_nil, List.nil_append, List.length_nil, Nat.zero_add] at h1
  have hz := mk_size (quo l)
  unfold unquote
  rw [if_neg (by rw [quo_valid l h]; decide), if_neg (by rw [hz]; exact fun hn => hn h1), quo_first, if_neg (by decide)]
  have e : ((⟨(quo l).toArray⟩ : ByteArray).data.toList.drop 1).take ((⟨(quo l).toArray⟩ : ByteArray).size - 2) = (encs l).flatMap wrQ := by
    rw [hz, quo_len, Nat.add_sub_cancel]
    show (((encs l).flatMap wrQ ++ [34]).take _) = _
    rw [List.take_append_of_le_length (Nat.le_refl _), List.take_length]
  rw [e, unq_flat]
  show (if valid ⟨(encs l).toArray⟩ then (encs l, 0) else ([], 13)) = _
  rw [encs_valid l h]; rfl
end Go.Proofs.Ythlpgnidjjclcaa.U
