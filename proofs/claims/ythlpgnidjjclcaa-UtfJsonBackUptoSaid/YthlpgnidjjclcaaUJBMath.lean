/- Plain law: what Json writes of a text is one string of JSON, and means the text again. -/
import Derived.Test.YthlpgnidjjclcaaUQBMath
import Derived.Test.YthlpgnidjjclcaaUJMath
namespace Go.Proofs.Ythlpgnidjjclcaa.U
open Go
theorem wrJ_bytes : ∀ c : Nat, c < 256 → (wrJ (UInt8.ofNat c)).all (fun b => 32 ≤ b.toNat && (128 ≤ c || b.toNat < 128)) = true := by decide +kernel
theorem wrJ_low (c : UInt8) (h : c.toNat < 128) : ∀ b ∈ wrJ c, b.toNat < 128 := by
  intro b hb
  have h1 := wrJ_bytes c.toNat c.toNat_lt
  rw [u8_of] at h1
  have := List.all_eq_true.1 h1 b hb
  simp at this
  omega
theorem hex4 : ∀ c : Nat, c < 256 → numF 16 [48, 48, UInt8.ofNat (hxN (c / 16)), UInt8.ofNat (hxN (c % 16))] 0 = some c := by decide +kernel
theorem letJ_all : ∀ k : Nat, k < 6 → k ≠ 3 → simpJ (letJ.getD k 0).toNat = some (k + 8) ∧ 32 ≤ (letJ.getD k 0).toNat := by decide +kernel
/-- the law's own look at what stands between the quotes -/
def okJ : List UInt8 → Bool
  | [] => true
  | [c] => decide (32 ≤ c.toNat ∧ c.toNat ≠ 34 ∧ c.toNat ≠ 92)
  | c :: d :: r => decide (32 ≤ c.toNat ∧ c.toNat ≠ 34) && (if c.toNat = 92 then decide (32 ≤ d.toNat) && okJ r else okJ (d :: r))
theorem okJ_plain (c : UInt8) (r : List UInt8) (h : c.toNat ≠ 92) (h2 : 32 ≤ c.toNat) (h3 : c.toNat ≠ 34) : okJ (c :: r) = okJ r := by
  cases r with
  | nil => simp [okJ, h, h2, h3]
  | cons d r => rw [okJ, if_neg h, decide_eq_true ⟨h2, h3⟩]; rfl
theorem okJ_esc (d : UInt8) (r : List UInt8) (h : 32 ≤ d.toNat) : okJ (92 :: d :: r) = okJ r := by
  rw [okJ, if_pos (show (92 : UInt8).toNat = 92 from rfl), decide_eq_true h]; rfl
theorem okJ_plain_inv (c : UInt8) (r : List UInt8) (h : okJ (c :: r) = true) : 32 ≤ c.toNat ∧ c.toNat ≠ 34 ∧ (c.toNat ≠ 92 → okJ r = true) ∧ (c.toNat = 92 → ∃ d r', r = d :: r' ∧ 32 ≤ d.toNat ∧ okJ r' = true) := by
  cases r with
  | nil =>
    simp only [okJ, decide_eq_true_eq] at h
    exact ⟨h.1, h.2.1, fun _ => rfl, fun e => absurd e h.2.2⟩
  | cons d r =>
    rw [okJ, Bool.and_eq_true, decide_eq_true_eq] at h
    refine ⟨h.1.1, h.1.2, fun e => ?_, fun e => ?_⟩
    · have := h.2; rwa [if_neg e] at this
    · have := h.2
      rw [if_pos e, Bool.and_eq_true, decide_eq_true_eq] at this
      exact ⟨d, r, rfl, this.1, this.2⟩
theorem hxN_ge : ∀ k : Nat, k < 16 → 48 ≤ hxN k := by decide +kernel
theorem wrJ_all (c : UInt8) (r : List UInt8) : unqJ (wrJ c ++ r) = (unqJ r).map (c :: ·) ∧ okJ (wrJ c ++ r) = okJ r ∧
    ∀ pre : List UInt8, jend ⟨(pre ++ (wrJ c ++ r)).toArray⟩ pre.length = jend ⟨(pre ++ (wrJ c ++ r)).toArray⟩ (pre.length + (wrJ c).length) := by
  have hc := c.toNat_lt
  have e := u8_of c
  by_cases h1 : c.toNat = 34 ∨ c.toNat = 92
  · have hw := wrJ_back c.toNat hc h1
    rw [e] at hw
    rw [hw]
    refine ⟨?_, okJ_esc c r (by omega), fun pre => ?_⟩
    · rw [List.cons_append, unqJ_some 92 ([c] ++ r) rfl [c] 1 ?_]
      · rfl
      · rw [List.singleton_append, escJ_simp c r c.toNat (by rcases h1 with h | h <;> rw [h] <;> decide)]
        unfold byteOf; rw [e]
    · have hat := at_pre pre [92, c] r
      have hsz := pre_size pre [92, c] r
      generalize (⟨(pre ++ ([92, c] ++ r)).toArray⟩ : ByteArray) = s at hat hsz ⊢
      have a0 : at' s pre.length = 92 := hat 0 (by simp)
      simp only [List.length_cons, List.length_nil] at hsz
      exact jend_esc s _ (by omega) a0
  by_cases h2 : 8 ≤ c.toNat ∧ c.toNat ≤ 13 ∧ c.toNat ≠ 11
  · have hw := wrJ_let c.toNat hc h2
    rw [e] at hw
    obtain ⟨l1, l2⟩ := letJ_all (c.toNat - 8) (by omega) (by omega)
    rw [hw]
    generalize letJ.getD (c.toNat - 8) 0 = x at l1 l2 hw
    refine ⟨?_, okJ_esc x r l2, fun pre => ?_⟩
    · rw [List.cons_append, unqJ_some 92 ([x] ++ r) rfl [c] 1 ?_]
      · rfl
      · rw [List.singleton_append, escJ_simp x r _ l1, show c.toNat - 8 + 8 = c.toNat by omega]
        unfold byteOf; rw [e]
    · have hat := at_pre pre [92, x] r
      have hsz := pre_size pre [92, x] r
      generalize (⟨(pre ++ ([92, x] ++ r)).toArray⟩ : ByteArray) = s at hat hsz ⊢
      have a0 : at' s pre.length = 92 := hat 0 (by simp)
      simp only [List.length_cons, List.length_nil] at hsz
      exact jend_esc s _ (by omega) a0
  by_cases h3 : c.toNat < 32
  · have hw := wrJ_hex c.toNat hc ⟨h3, h2⟩
    rw [e] at hw
    have hh := hex4 c.toNat hc
    have x1 := hxN_ok (c.toNat / 16) (by omega)
    have x2 := hxN_ok (c.toNat % 16) (by omega)
    have g1 := hxN_ge (c.toNat / 16) (by omega)
    have g2 := hxN_ge (c.toNat % 16) (by omega)
    have q1 := ofNat_toNat _ x1.1
    have q2 := ofNat_toNat _ x2.1
    rw [← q1] at x1 g1
    rw [← q2] at x2 g2
    clear q1 q2
    rw [hw]
    generalize UInt8.ofNat (hxN (c.toNat / 16)) = x at hh hw x1 g1
    generalize UInt8.ofNat (hxN (c.toNat % 16)) = y at hh hw x2 g2
    refine ⟨?_, ?_, fun pre => ?_⟩
    · rw [List.cons_append, unqJ_some 92 ([117, 48, 48, x, y] ++ r) rfl [c] 5 ?_]
      · rfl
      · show escJ (117 :: (48 :: 48 :: x :: y :: r)) = _
        have hn : numL 16 4 (48 :: 48 :: x :: y :: r) = some c.toNat := by
          unfold numL
          rw [if_neg (by simp)]
          exact hh
        rw [escJ_rune 117 _ rfl c.toNat hn (by omega), runeOf_good _ _ ((valid_iff _).2 (by omega)), enc_low _ (by omega), e]
    · show okJ (92 :: 117 :: 48 :: 48 :: x :: y :: r) = _
      rw [okJ_esc 117 _ (by decide), okJ_plain 48 _ (by decide) (by decide) (by decide), okJ_plain 48 _ (by decide) (by decide) (by decide),
        okJ_plain x _ (by omega) (by omega) (by omega), okJ_plain y _ (by omega) (by omega) (by omega)]
    · have hat := at_pre pre [92, 117, 48, 48, x, y] r
      have hsz := pre_size pre [92, 117, 48, 48, x, y] r
      generalize (⟨(pre ++ ([92, 117, 48, 48, x, y] ++ r)).toArray⟩ : ByteArray) = s at hat hsz ⊢
      have a0 : at' s pre.length = 92 := hat 0 (by simp)
      have a2 : at' s (pre.length + 2) = 48 := hat 2 (by simp)
      have a3 : at' s (pre.length + 3) = 48 := hat 3 (by simp)
      have a4 : at' s (pre.length + 4) = x.toNat := hat 4 (by simp)
      have a5 : at' s (pre.length + 5) = y.toNat := hat 5 (by simp)
      simp only [List.length_cons, List.length_nil] at hsz
      rw [jend_esc s _ (by omega) a0, jend_step s (pre.length + 2) (by omega) (by omega) (by omega), jend_step s (pre.length + 3) (by omega) (by omega) (by omega),
        jend_step s (pre.length + 4) (by omega) (by omega) (by omega), jend_step s (pre.length + 5) (by omega) (by omega) (by omega)]
      rfl
  · have hw := wrJ_self c.toNat hc (by omega)
    rw [e] at hw
    rw [hw]
    refine ⟨?_, okJ_plain c r (by omega) (by omega) (by omega), fun pre => ?_⟩
    · rw [List.singleton_append, unqJ_plain c r (by omega)]
    · have hat := at_pre pre [c] r
      have hsz := pre_size pre [c] r
      generalize (⟨(pre ++ ([c] ++ r)).toArray⟩ : ByteArray) = s at hat hsz ⊢
      have a0 : at' s pre.length = c.toNat := hat 0 (by simp)
      simp only [List.length_cons, List.length_nil] at hsz
      exact jend_step s _ (by omega) (by omega) (by omega)
theorem unqJ_flat : ∀ l : List UInt8, unqJ (l.flatMap wrJ) = some l
  | [] => by rw [List.flatMap_nil, unqJ_nil]
  | c :: l => by rw [List.flatMap_cons, (wrJ_all c _).1, unqJ_flat l]; rfl
theorem okJ_flat : ∀ l : List UInt8, okJ (l.flatMap wrJ) = true
  | [] => rfl
  | c :: l => by rw [List.flatMap_cons, (wrJ_all c _).2.1, okJ_flat l]
theorem jend_flat : ∀ (l pre r : List UInt8), jend ⟨(pre ++ (l.flatMap wrJ ++ 34 :: r)).toArray⟩ pre.length = decide (r = [])
  | [], pre, r => by
    have hat : at' ⟨(pre ++ (34 :: r)).toArray⟩ pre.length = 34 := at_pre pre [34] r 0 (by simp)
    have hsz := pre_size pre [34] r
    rw [List.singleton_append] at hsz
    rw [List.flatMap_nil, List.nil_append, jend_hit _ _ (by rw [hsz]; simp; omega) hat]
    rw [hsz, Bool.eq_iff_iff, decide_eq_true_eq, decide_eq_true_eq]
    cases r with
    | nil => simp
    | cons a r => simp
  | c :: l, pre, r => by
    rw [List.flatMap_cons, List.append_assoc, (wrJ_all c _).2.2 pre]
    have := jend_flat l (pre ++ wrJ c) r
    rw [List.length_append, List.append_assoc] at this
    exact this
/-- what Json writes of the runes l -/
def jso (l : List Int) : List UInt8 := 34 :: (encs l).flatMap wrJ ++ [34]
theorem jso_len (l : List Int) : (jso l).length = ((encs l).flatMap wrJ).length + 2 := by unfold jso; simp
theorem jso_valid (l : List Int) (h : allRunes l = true) : valid ⟨(jso l).toArray⟩ = true := quoted_valid wrJ wrJ_high wrJ_low l h
theorem jso_first (l : List Int) : at' ⟨(jso l).toArray⟩ 0 = 34 := by rw [at_mk]; rfl
theorem jso_last (l : List Int) : at' ⟨(jso l).toArray⟩ ((jso l).length - 1) = 34 := by
  rw [at_mk, jso_len]
  unfold jso
  rw [show ((encs l).flatMap wrJ).length + 2 - 1 = (34 :: (encs l).flatMap wrJ).length + 0 by simp, List.getElem?_append_right (by omega), Nat.add_sub_cancel_left]
  rfl
theorem jso_mid (l : List Int) : ((⟨(jso l).toArray⟩ : ByteArray).extract 1 ((jso l).length - 1)).data.toList = (encs l).flatMap wrJ := by
  have hz := mk_size (jso l)
  rw [← hz, ext_mid _ (by rw [hz, jso_len]; omega), hz, jso_len, Nat.add_sub_cancel]
  show (((encs l).flatMap wrJ ++ [34]).take _) = _
  rw [List.take_append_of_le_length (Nat.le_refl _), List.take_length]
theorem jso_closed (l : List Int) : closedB ⟨(jso l).toArray⟩ = true := by
  unfold closedB
  have hz := mk_size (jso l)
  have hj := jend_flat (encs l) [34] []
  have e : ([34] ++ ((encs l).flatMap wrJ ++ [34]) : List UInt8) = jso l := rfl
  rw [e] at hj
  rw [hz, jso_len, jso_first, show jend ⟨(jso l).toArray⟩ 1 = true from hj, decide_eq_true (by omega), Bool.and_true, Bool.true_and, decide_eq_true rfl, Bool.true_and, List.all_eq_true]
  intro b hb
  have hm : b ∈ jso l := hb
  unfold jso at hm
  simp only [List.cons_append, List.mem_cons, List.mem_append, List.not_mem_nil, or_false, List.mem_flatMap] at hm
  rw [decide_eq_true_eq]
  rcases hm with rfl | ⟨c, _, hc⟩ | rfl
  · decide
  · have h1 := wrJ_bytes c.toNat c.toNat_lt
    rw [u8_of] at h1
    have := List.all_eq_true.1 h1 b hc
    simp at this
    omega
  · decide
theorem jso_unjson (l : List Int) (h : allRunes l = true) : unjson ⟨(jso l).toArray⟩ = (encs l, 0) := by
  unfold unjson
  rw [if_neg (by rw [jso_valid l h]; decide), if_neg (by rw [jso_closed l]; decide), mk_size, jso_mid, unqJ_flat]; rfl
/-- one step of the law's look between the quotes -/
theorem jso_step (l : List Int) (p : Nat) (hp : p < ((encs l).flatMap wrJ).length) (hok : okJ (((encs l).flatMap wrJ).drop p) = true) :
    32 ≤ at' ⟨(jso l).toArray⟩ (p + 1) ∧ at' ⟨(jso l).toArray⟩ (p + 1) ≠ 34 ∧
    (at' ⟨(jso l).toArray⟩ (p + 1) ≠ 92 → okJ (((encs l).flatMap wrJ).drop (p + 1)) = true) ∧
    (at' ⟨(jso l).toArray⟩ (p + 1) = 92 → p + 1 < ((encs l).flatMap wrJ).length ∧ 32 ≤ at' ⟨(jso l).toArray⟩ (p + 2) ∧ okJ (((encs l).flatMap wrJ).drop (p + 2)) = true) := by
  have hat := fun k hk => at_pre [34] ((encs l).flatMap wrJ) [34] k hk
  have e : ([34] ++ ((encs l).flatMap wrJ ++ [34]) : List UInt8) = jso l := rfl
  rw [e] at hat
  generalize (encs l).flatMap wrJ = M at hp hok hat ⊢
  have h0 := hat p hp
  rw [List.getElem?_eq_getElem hp, Option.getD_some, show ([34] : List UInt8).length + p = p + 1 by simp; omega] at h0
  rw [List.drop_eq_getElem_cons hp] at hok
  obtain ⟨g1, g2, g3, g4⟩ := okJ_plain_inv _ _ hok
  rw [h0]
  refine ⟨g1, g2, g3, fun h92 => ?_⟩
  obtain ⟨d, r', e2, h32, hr⟩ := g4 h92
  have hp2 : p + 1 < M.length := by
    rcases Nat.lt_or_ge (p + 1) M.length with h | h
    · exact h
    · rw [List.drop_of_length_le h] at e2; cases e2
  have h1 := hat (p + 1) hp2
  rw [List.getElem?_eq_getElem hp2, Option.getD_some, show ([34] : List UInt8).length + (p + 1) = p + 2 by simp; omega] at h1
  rw [List.drop_eq_getElem_cons hp2] at e2
  obtain ⟨e3, e4⟩ := List.cons.inj e2
  exact ⟨hp2, by rw [h1, e3]; exact h32, by rw [show p + 2 = p + 1 + 1 from rfl, e4]; exact hr⟩
end Go.Proofs.Ythlpgnidjjclcaa.U
