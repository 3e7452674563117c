/- Plain law: pieces that stand for a text within a literal: digits, letters, runes as they are. -/
import Derived.Test.YthlpgnidjjclcaaUQBMath
namespace Go.Proofs.Ythlpgnidjjclcaa.U
open Go
/-! ### digits -/
def hexC (d : Nat) : Nat := if d < 10 then 48 + d else if d < 16 then 87 + d else 49 + d
/-- the byte of one digit: the letters' case hangs on what stands ahead -/
def dch (n base : Nat) : Nat := if 9 < n % base ∧ n / base % 2 = 1 then hexC (n % base + 6) else hexC (n % base)
def dgs (n base : Nat) : Nat → List UInt8
  | 0 => []
  | k + 1 => dgs (n / base) base k ++ [UInt8.ofNat (dch n base)]
theorem dgs_len (base : Nat) : ∀ k n : Nat, (dgs n base k).length = k
  | 0, n => rfl
  | k + 1, n => by rw [dgs, List.length_append, dgs_len base k]; rfl
theorem hexC_all : ∀ d : Nat, d < 16 → (hexC d < 128 ∧ dig (hexC d) = d) ∧ (9 < d → hexC (d + 6) < 128 ∧ dig (hexC (d + 6)) = d) := by decide +kernel
theorem dch_dig (n base : Nat) (h1 : 1 ≤ base) (h2 : base ≤ 16) : dch n base < 128 ∧ dig (dch n base) = ((n % base : Nat) : Int) := by
  have hd : n % base < 16 := Nat.lt_of_lt_of_le (Nat.mod_lt _ h1) h2
  have := hexC_all (n % base) hd
  unfold dch
  split
  · rename_i h; exact this.2 h.1
  · exact this.1
theorem dig_range : ∀ c : Nat, c < 256 → 0 ≤ dig c → 48 ≤ c ∧ c < 128 ∧ c ≠ 92 ∧ c ≠ 97 + 256 := by decide +kernel
theorem dgs_ok (base : Nat) (h1 : 1 ≤ base) (h2 : base ≤ 16) : ∀ (k n : Nat), ∀ c ∈ dgs n base k, 48 ≤ c.toNat ∧ c.toNat < 128 ∧ c.toNat ≠ 92
  | 0, n, c, h => by cases h
  | k + 1, n, c, h => by
    rw [dgs, List.mem_append] at h
    rcases h with h | h
    · exact dgs_ok base h1 h2 k _ c h
    · simp only [List.mem_singleton] at h
      subst h
      have := dch_dig n base h1 h2
      rw [ofNat_toNat _ (by omega)]
      have h3 := dig_range (dch n base) (by omega) (by omega)
      exact ⟨h3.1, h3.2.1, h3.2.2.1⟩
theorem numF_app (base : Nat) : ∀ (a b : List UInt8) (v : Nat), numF base (a ++ b) v = (numF base a v).bind (numF base b)
  | [], b, v => rfl
  | c :: a, b, v => by
    rw [List.cons_append]
    simp only [numF]
    split
    · exact numF_app base a b _
    · rfl
theorem dgs_num (base : Nat) (h1 : 1 ≤ base) (h2 : base ≤ 16) : ∀ (k n : Nat), n < base ^ k → numF base (dgs n base k) 0 = some n
  | 0, n, h => by simp at h; subst h; rfl
  | k + 1, n, h => by
    have hn : n / base < base ^ k := by
      rw [Nat.div_lt_iff_lt_mul h1]
      rwa [Nat.pow_succ] at h
    rw [dgs, numF_app, dgs_num base h1 h2 k (n / base) hn, Option.bind_some]
    have hd := dch_dig n base h1 h2
    have hl : n % base < base := Nat.mod_lt _ h1
    simp only [numF]
    rw [ofNat_toNat _ (by omega), hd.2, if_pos (by omega), Int.toNat_natCast]
    congr 1
    rw [Nat.mul_comm]
    exact Nat.div_add_mod n base
theorem dgs_numL (base k n : Nat) (h1 : 1 ≤ base) (h2 : base ≤ 16) (h : n < base ^ k) (rest : List UInt8) : numL base k (dgs n base k ++ rest) = some n := by
  unfold numL
  have hl := dgs_len base k n
  rw [if_neg (by rw [List.length_append]; omega), List.take_append_of_le_length (by omega), List.take_of_length_le (by omega)]
  exact dgs_num base h1 h2 k n h

/-! ### pieces -/
/-- S stands for the bytes bs within a literal with the quote q -/
def Sp (q : Nat) (bs S : List UInt8) : Prop :=
  (∃ l, S = encs l ∧ allRunes l = true) ∧ (∀ rest, unq q (S ++ rest) = (unq q rest).map (bs ++ ·)) ∧
  (∀ pre rest : List UInt8, lit ⟨(pre ++ (S ++ rest)).toArray⟩ q pre.length = lit ⟨(pre ++ (S ++ rest)).toArray⟩ q (pre.length + S.length))
theorem sp_nil (q : Nat) : Sp q [] [] := ⟨⟨[], rfl, rfl⟩, fun rest => by
  rw [List.nil_append]
  cases unq q rest <;> rfl, fun pre rest => rfl⟩
theorem sp_app {q : Nat} {a b S T : List UInt8} (h1 : Sp q a S) (h2 : Sp q b T) : Sp q (a ++ b) (S ++ T) := by
  obtain ⟨⟨l1, e1, v1⟩, u1, t1⟩ := h1
  obtain ⟨⟨l2, e2, v2⟩, u2, t2⟩ := h2
  refine ⟨⟨l1 ++ l2, by rw [e1, e2, encs_app], by rw [allRunes_app, v1, v2]; rfl⟩, fun rest => ?_, fun pre rest => ?_⟩
  · rw [List.append_assoc, u1, u2, Option.map_map]
    congr 1; funext x; simp
  · have h3 := t1 pre (T ++ rest)
    have h4 := t2 (pre ++ S) rest
    rw [List.append_assoc, List.length_append] at h4
    rw [List.append_assoc, h3, h4, List.length_append, Nat.add_assoc]
theorem lit_run (q : Nat) (h96 : q ≠ 96) : ∀ (D pre rest : List UInt8), (∀ c ∈ D, c.toNat ≠ q ∧ c.toNat ≠ 10 ∧ c.toNat ≠ 92) →
    lit ⟨(pre ++ (D ++ rest)).toArray⟩ q pre.length = lit ⟨(pre ++ (D ++ rest)).toArray⟩ q (pre.length + D.length)
  | [], pre, rest, _ => rfl
  | c :: D, pre, rest, h => by
    have hc := h c (by simp)
    have h0 : at' ⟨(pre ++ ((c :: D) ++ rest)).toArray⟩ pre.length = c.toNat := at_pre pre (c :: D) rest 0 (by simp)
    have hz := pre_size pre (c :: D) rest
    rw [lit_step _ q _ (by rw [hz]; simp; omega) (by rw [h0]; exact hc.1) h96 (by rw [h0]; exact hc.2.1) (by rw [h0]; exact hc.2.2)]
    have := lit_run q h96 D (pre ++ [c]) rest fun x hx => h x (by simp [hx])
    rw [List.length_append, List.append_assoc] at this
    rw [show (pre ++ (c :: D ++ rest) : List UInt8) = pre ++ ([c] ++ (D ++ rest)) from rfl]
    rw [show pre.length + 1 = pre.length + [c].length from rfl, this]
    congr 1
    simp; omega
/-- a backslash, a byte and digits -/
theorem sp_esc (q : Nat) (hq : q = 34 ∨ q = 39) (c : UInt8) (D bs : List UInt8) (hc : c.toNat < 128 ∧ c.toNat ≠ 10) (hD : ∀ d ∈ D, 48 ≤ d.toNat ∧ d.toNat < 128 ∧ d.toNat ≠ 92)
    (he : ∀ rest, escL q (c :: (D ++ rest)) = some (bs, D.length + 1)) : Sp q bs (92 :: c :: D) := by
  have ha := encs_bytes (92 :: c :: D) (by
    intro b hb
    rcases List.mem_cons.1 hb with rfl | hb
    · decide
    rcases List.mem_cons.1 hb with rfl | hb
    · exact hc.1
    · exact (hD b hb).2.1)
  refine ⟨⟨_, ha.1.symm, ha.2⟩, fun rest => ?_, fun pre rest => ?_⟩
  · show unq q (92 :: (c :: (D ++ rest))) = _
    rw [unq_some q 92 _ rfl bs (D.length + 1) (he rest)]
    congr 2
    rw [List.drop_succ_cons, List.drop_left]
  · have h0 : at' ⟨(pre ++ ((92 :: c :: D) ++ rest)).toArray⟩ pre.length = 92 := at_pre pre (92 :: c :: D) rest 0 (by simp)
    have h1 : at' ⟨(pre ++ ((92 :: c :: D) ++ rest)).toArray⟩ (pre.length + 1) = c.toNat := at_pre pre (92 :: c :: D) rest 1 (by simp)
    have hz := pre_size pre (92 :: c :: D) rest
    rw [lit_esc _ q _ (by rw [hz]; simp; omega) (by rw [h0]; omega) (by omega) h0 (by rw [h1]; omega)]
    have := lit_run q (by omega) D (pre ++ [92, c]) rest fun x hx => by have := hD x hx; omega
    rw [List.length_append, List.append_assoc] at this
    rw [show (pre ++ (92 :: c :: D ++ rest) : List UInt8) = pre ++ ([92, c] ++ (D ++ rest)) from rfl]
    rw [show pre.length + 2 = pre.length + [92, c].length from rfl, this]
    congr 1
    simp; omega
/-- a rune as it is -/
theorem sp_rune (q : Nat) (hq : q = 34 ∨ q = 39) (n : Nat) (hv : Utf8.valid (n : Int) = true) (h : n ≠ q ∧ n ≠ 10 ∧ n ≠ 92) : Sp q (Utf8.encode (n : Int)).toList (Utf8.encode (n : Int)).toList := by
  have hb : ∀ c ∈ (Utf8.encode (n : Int)).toList, c.toNat ≠ q ∧ c.toNat ≠ 10 ∧ c.toNat ≠ 92 := by
    intro c hc
    by_cases h1 : n < 128
    · rw [enc_low n h1] at hc
      simp only [List.mem_singleton] at hc
      subst hc
      rw [ofNat_toNat _ (by omega)]; exact h
    · have := enc_high n hv (by omega) c hc
      omega
  refine ⟨⟨[(n : Int)], (encs_one _).symm, by unfold allRunes; rw [List.all_cons, hv]; rfl⟩, fun rest => ?_, fun pre rest => lit_run q (by omega) _ pre rest hb⟩
  generalize (Utf8.encode (n : Int)).toList = L at hb ⊢
  induction L with
  | nil => rw [List.nil_append]; cases unq q rest <;> rfl
  | cons c L ih =>
    have hc := hb c (by simp)
    rw [List.cons_append, unq_plain q c _ hc.2.2, ih fun x hx => hb x (by simp [hx]), Option.map_map]
    congr 1
/-! ### the ways of writing -/
theorem sp_x (q : Nat) (hq : q = 34 ∨ q = 39) (c : Nat) (hc : c < 256) : Sp q [UInt8.ofNat c] (92 :: 120 :: dgs c 16 2) :=
  sp_esc q hq 120 _ _ (by decide) (dgs_ok 16 (by decide) (by decide) 2 c) fun rest => by
    rw [escL, if_neg (by decide), if_neg (by rcases hq with rfl | rfl <;> decide), if_pos (by decide), dgs_numL 16 2 c (by decide) (by decide) (by omega) rest, dgs_len]; rfl
theorem sp_u (q : Nat) (hq : q = 34 ∨ q = 39) (n : Nat) (hv : Utf8.valid (n : Int) = true) (hn : n < 65536) : Sp q (Utf8.encode (n : Int)).toList (92 :: 117 :: dgs n 16 4) :=
  sp_esc q hq 117 _ _ (by decide) (dgs_ok 16 (by decide) (by decide) 4 n) fun rest => by
    rw [escL, if_neg (by decide), if_neg (by rcases hq with rfl | rfl <;> decide), if_neg (by decide), if_pos (by decide), dgs_numL 16 4 n (by decide) (by decide) (by omega) rest, dgs_len, Option.bind_some, if_pos hv]
theorem sp_U (q : Nat) (hq : q = 34 ∨ q = 39) (n : Nat) (hv : Utf8.valid (n : Int) = true) : Sp q (Utf8.encode (n : Int)).toList (92 :: 85 :: dgs n 16 8) := by
  have hb := (valid_iff _).1 hv
  exact sp_esc q hq 85 _ _ (by decide) (dgs_ok 16 (by decide) (by decide) 8 n) fun rest => by
    rw [escL, if_neg (by decide), if_neg (by rcases hq with rfl | rfl <;> decide), if_neg (by decide), if_neg (by decide), if_pos (by decide), dgs_numL 16 8 n (by decide) (by decide) (by omega) rest, dgs_len, Option.bind_some, if_pos hv]
theorem sp_q (q : Nat) (hq : q = 34 ∨ q = 39) : Sp q [UInt8.ofNat q] [92, UInt8.ofNat q] :=
  sp_esc q hq (UInt8.ofNat q) [] _ (by rcases hq with rfl | rfl <;> decide) (fun d hd => by cases hd) fun rest => by
    rw [escL, if_neg (by rcases hq with rfl | rfl <;> decide), if_pos (.inr (by rcases hq with rfl | rfl <;> rfl))]; rfl
theorem sp_let (q : Nat) (hq : q = 34 ∨ q = 39) (c : UInt8) (b : Nat) (hl : isLetter c.toNat = true ∧ plainB c.toNat = b ∧ c.toNat < 128 ∧ c.toNat ≠ 10) : Sp q [UInt8.ofNat b] [92, c] :=
  sp_esc q hq c [] _ ⟨hl.2.2.1, hl.2.2.2⟩ (fun d hd => by cases hd) fun rest => by
    rw [escL, if_pos hl.1, hl.2.1]; rfl
theorem sp_bs (q : Nat) (hq : q = 34 ∨ q = 39) : Sp q [92] [92, 92] :=
  sp_esc q hq 92 [] _ (by decide) (fun d hd => by cases hd) fun rest => by
    rw [escL, if_neg (by decide), if_pos (.inl rfl)]; rfl
/-- octal: the first digit is at most 3 -/
theorem oct_first (c : Nat) (hc : c < 256) : ∃ d D, dgs c 8 3 = d :: D ∧ D.length = 2 ∧ 48 ≤ d.toNat ∧ d.toNat ≤ 51 ∧ (∀ x ∈ D, 48 ≤ x.toNat ∧ x.toNat < 128 ∧ x.toNat ≠ 92) := by
  have h : ∀ c : Nat, c < 256 → ∃ a b e, dgs c 8 3 = [UInt8.ofNat a, UInt8.ofNat b, UInt8.ofNat e] ∧ 48 ≤ a ∧ a ≤ 51 := fun c hc =>
    ⟨dch (c / 8 / 8) 8, dch (c / 8) 8, dch c 8, rfl, by
      have : ∀ c : Nat, c < 256 → 48 ≤ dch (c / 8 / 8) 8 ∧ dch (c / 8 / 8) 8 ≤ 51 := by decide +kernel
      exact this c hc⟩
  obtain ⟨a, b, e, h1, h2, h3⟩ := h c hc
  have hok := dgs_ok 8 (by decide) (by decide) 3 c
  refine ⟨_, _, h1, rfl, by rw [ofNat_toNat _ (by omega)]; exact h2, by rw [ofNat_toNat _ (by omega)]; exact h3, fun x hx => hok x (by rw [h1]; exact List.mem_cons_of_mem _ hx)⟩
theorem sp_o (q : Nat) (hq : q = 34 ∨ q = 39) (c : Nat) (hc : c < 256) : Sp q [UInt8.ofNat c] (92 :: dgs c 8 3) := by
  obtain ⟨d, D, h1, h2, h3, h4, h5⟩ := oct_first c hc
  have hn := fun rest => dgs_numL 8 3 c (by decide) (by decide) (by omega) rest
  rw [h1] at hn ⊢
  refine sp_esc q hq d D _ (by omega) h5 fun rest => ?_
  have hn2 := hn rest
  rw [List.cons_append] at hn2
  have hlt : isLetter d.toNat = false := by
    rcases (show d.toNat = 48 ∨ d.toNat = 49 ∨ d.toNat = 50 ∨ d.toNat = 51 by omega) with h | h | h | h <;> rw [h] <;> rfl
  rw [escL, if_neg (by rw [hlt]; decide), if_neg (by omega), if_neg (by omega), if_neg (by omega), if_neg (by omega), hn2, Option.bind_some, if_pos (by omega), h2]; rfl
/-- bytes one by one -/
theorem sp_bytes (q : Nat) (f : Nat → List UInt8) (hf : ∀ c : Nat, c < 256 → Sp q [UInt8.ofNat c] (f c)) : ∀ L : List UInt8, Sp q L (L.flatMap fun c => f c.toNat)
  | [] => sp_nil q
  | c :: L => by
    have h1 := hf c.toNat c.toNat_lt
    rw [u8_of] at h1
    rw [List.flatMap_cons]
    exact sp_app h1 (sp_bytes q f hf L)
/-- the whole literal -/
theorem sp_unquote (q : Nat) (hq : q = 34 ∨ q = 39) (bs S : List UInt8) (h : Sp q bs S) (hv : valid ⟨bs.toArray⟩ = true) : unquote ⟨((UInt8.ofNat q) :: S ++ [UInt8.ofNat q]).toArray⟩ = (bs, 0) := by
  obtain ⟨⟨l, e, v⟩, u, t⟩ := h
  have hqn : (UInt8.ofNat q).toNat = q := by rcases hq with rfl | rfl <;> rfl
  have hval : valid ⟨((UInt8.ofNat q) :: S ++ [UInt8.ofNat q]).toArray⟩ = true := by
    have hb := encs_bytes [UInt8.ofNat q] (by intro b hb; simp only [List.mem_singleton] at hb; subst hb; omega)
    have e2 : ((UInt8.ofNat q) :: S ++ [UInt8.ofNat q] : List UInt8) = encs (bytesR [UInt8.ofNat q] ++ (l ++ bytesR [UInt8.ofNat q])) := by
      rw [encs_app, encs_app, hb.1, ← e]; rfl
    rw [e2]
    exact encs_valid _ (by rw [allRunes_app, allRunes_app, hb.2, v]; rfl)
  have hz : (⟨((UInt8.ofNat q) :: S ++ [UInt8.ofNat q]).toArray⟩ : ByteArray).size = S.length + 2 := by rw [mk_size]; simp
  have h0 : at' ⟨((UInt8.ofNat q) :: S ++ [UInt8.ofNat q]).toArray⟩ 0 = q := by rw [at_mk]; exact hqn
  have hlit : literal ⟨((UInt8.ofNat q) :: S ++ [UInt8.ofNat q]).toArray⟩ 0 = (((⟨((UInt8.ofNat q) :: S ++ [UInt8.ofNat q]).toArray⟩ : ByteArray).size : Int), 0) := by
    have h1 := t [UInt8.ofNat q] [UInt8.ofNat q]
    have h2 : at' ⟨([UInt8.ofNat q] ++ (S ++ [UInt8.ofNat q])).toArray⟩ ([UInt8.ofNat q].length + S.length) = q := by
      have := at_pre ([UInt8.ofNat q] ++ S) [UInt8.ofNat q] [] 0 (by simp)
      rw [List.append_nil, List.append_assoc, List.length_append, Nat.add_zero] at this
      rw [this]; exact hqn
    rw [lit_hit _ q _ (by rw [mk_size]; simp; omega) h2] at h1
    have h3 := literal_in ⟨((UInt8.ofNat q) :: S ++ [UInt8.ofNat q]).toArray⟩ 0 (by rw [hz]; omega) (by rw [h0]; omega)
    rw [h0] at h3
    rw [show ((0 : Nat) : Int) = 0 from rfl] at h3
    rw [h3, hz, show lit ⟨((UInt8.ofNat q) :: S ++ [UInt8.ofNat q]).toArray⟩ q (0 + 1) = some ([UInt8.ofNat q].length + S.length + 1) from h1]
    unfold litR
    simp; omega
  unfold unquote
  rw [if_neg (by rw [hval]; decide), if_neg (fun hn => hn hlit), h0, if_neg (by omega)]
  have e3 : ((⟨((UInt8.ofNat q) :: S ++ [UInt8.ofNat q]).toArray⟩ : ByteArray).data.toList.drop 1).take ((⟨((UInt8.ofNat q) :: S ++ [UInt8.ofNat q]).toArray⟩ : ByteArray).size - 2) = S := by
    rw [hz, Nat.add_sub_cancel]
    show ((S ++ [UInt8.ofNat q]).take _) = _
    rw [List.take_append_of_le_length (Nat.le_refl _), List.take_length]
  have h4 := u []
  rw [List.append_nil, unq_nil, Option.map_some, List.append_nil] at h4
  rw [e3, h4]
  show (if valid ⟨bs.toArray⟩ then (bs, 0) else ([], 13)) = _
  rw [hv]; rfl
end Go.Proofs.Ythlpgnidjjclcaa.U
