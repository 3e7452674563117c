/- The walk of weirref01.escape: the same escapes. -/
import Derived.Test.YthlpgnidjjclcaaURefNum
import Derived.Test.YthlpgnidjjclcaaUUnq
namespace Go.Proofs.Ythlpgnidjjclcaa
open Go.RowKit
set_option linter.unusedVariables false
set_option linter.unusedSimpArgs false
namespace U
def escR : Option (List UInt8 × Nat) → List UInt8 × Int
  | none => ([], 0)
  | some (bs, k) => (bs, (k : Int) + 1)
/-- the list of letters and their bytes -/
def pairs1 : List UInt8 := [97, 7, 98, 8, 116, 9, 110, 10, 118, 11, 102, 12, 114, 13]
theorem pairs1_yes (c : Nat) (h : isLetter c = true) : pairL pairs1 c = some (plainB c) := by
  simp only [isLetter, Bool.or_eq_true, beq_iff_eq] at h
  rcases h with (((((rfl | rfl) | rfl) | rfl) | rfl) | rfl) | rfl <;> decide
theorem pairs1_no (c : Nat) (h : isLetter c = false) : pairL pairs1 c = none := by
  simp only [isLetter, Bool.or_eq_false_iff, beq_eq_false_iff_ne] at h
  have d : ∀ k : Nat, k < 256 → (UInt8.ofNat k).toNat = k := fun k hk => ofNat_toNat k hk
  unfold pairs1
  simp only [pairL]
  have e1 : (97 : UInt8).toNat = 97 := rfl
  have e2 : (98 : UInt8).toNat = 98 := rfl
  have e3 : (116 : UInt8).toNat = 116 := rfl
  have e4 : (110 : UInt8).toNat = 110 := rfl
  have e5 : (118 : UInt8).toNat = 118 := rfl
  have e6 : (102 : UInt8).toNat = 102 := rfl
  have e7 : (114 : UInt8).toNat = 114 := rfl
  rw [e1, e2, e3, e4, e5, e6, e7, if_neg (by omega), if_neg (by omega), if_neg (by omega), if_neg (by omega), if_neg (by omega), if_neg (by omega), if_neg (by omega)]
end U
theorem take_cons (s : ByteArray) (e p : Nat) (h : p < e) (he : e ≤ s.size) : ∃ c : UInt8, c.toNat = U.at' s p ∧ (s.data.toList.take e).drop p = c :: (s.data.toList.take e).drop (p + 1) := by
  obtain ⟨h', ee⟩ := list_at s p (by omega)
  have hl : p < (s.data.toList.take e).length := by rw [List.length_take, ← Lib.size_eq]; omega
  refine ⟨_, ee, ?_⟩
  rw [List.drop_eq_getElem_cons hl]
  simp
theorem ret_escR {a : ByteArray} {b : Int} {r : List UInt8 × Int} (h1 : a.data.toList = r.1) (h2 : b = r.2) : Ending.returned (.tuple #[.string a, .int .i64 b]) = strR r := ret_strR h1 h2

theorem resc_nil (q : Nat) (hq : q = 34 ∨ q = 39) (s : ByteArray) (i e : Nat) (zi ze : Int) (hzi : zi = i) (hze : ze = e) (w : World) (hs : s.size ≤ 140737488351232) (he : e ≤ s.size) (hi : i ≤ 1125899906842624) (h0 : ¬ i + 1 < e) :
    Calls Try.prog 52 #[.string s, .int .i64 zi, .int .i64 ze, .int .u8 q] w fun en w' => en = strR (U.escR (U.escL q ((s.data.toList.take e).drop (i + 1)))) ∧ Below w.heap.size w w' := by
  subst hzi hze
  have G : Hd (U.escR (U.escL q ((s.data.toList.take e).drop (i + 1))) = ([], 0)) := hd <| by
    have : (s.data.toList.take e).drop (i + 1) = [] := List.eq_nil_of_length_eq_zero (by rw [List.length_drop, List.length_take, ← Lib.size_eq]; omega)
    rw [this]; rfl
  clear hq
  go_enter Try.func52, Try.ntmps52
  go_wp2
  go_ret2
  exact ⟨ret_escR (by rw [G.o]) (by rw [G.o]), Below.refl _ _⟩
theorem resc_back (q : Nat) (hq : q = 34 ∨ q = 39) (s : ByteArray) (i e : Nat) (zi ze : Int) (hzi : zi = i) (hze : ze = e) (w : World) (hs : s.size ≤ 140737488351232) (he : e ≤ s.size) (hi : i ≤ 1125899906842624) (h0 : i + 1 < e) (hc : U.at' s (i + 1) = 92) :
    Calls Try.prog 52 #[.string s, .int .i64 zi, .int .i64 ze, .int .u8 q] w fun en w' => en = strR (U.escR (U.escL q ((s.data.toList.take e).drop (i + 1)))) ∧ Below w.heap.size w w' := by
  subst hzi hze
  have hm : i + 1 < s.size := by omega
  obtain ⟨c, ec, el⟩ := take_cons s e (i + 1) h0 he
  rw [show i + 1 + 1 = i + 2 from rfl] at el
  have e0 := U.at_eq s (i + 1) hm
  have hdt : decide ((e : Int) ≤ (i : Int) + 1) = false := by rw [decide_eq_false_iff_not]; omega
  have hq' : ((s[i + 1]'hm).toNat : Int) = 92 := by rw [← e0, hc]; rfl
  have G : Hd (U.escR (U.escL q ((s.data.toList.take e).drop (i + 1))) = ([UInt8.ofNat 92], 2)) := hd <| by
    have hcc : c = UInt8.ofNat 92 := UInt8.toNat_inj.1 (by rw [ec, hc]; rfl)
    rw [el, U.escL, ec, hc, if_neg (by decide), if_pos (.inl rfl), hcc]; rfl
  have c1 := fun (W : World) (a : Int) => conv_new 1 _ [a] rfl rfl W
  simp only [List.map_cons, List.map_nil] at c1
  have f0 : ((92 : Int) == (q : Int)) = false := by rw [beq_eq_false_iff_ne]; omega
  clear ec el e0 hc hq
  go_enter Try.func52, Try.ntmps52
  go_wp2
  go_ret2
  exact ⟨ret_escR (by rw [G.o]; rfl) (by rw [G.o]), (Below.refl _ _).alloc (Nat.le_refl _) _⟩
theorem resc_quote (q : Nat) (hq : q = 34 ∨ q = 39) (s : ByteArray) (i e : Nat) (zi ze : Int) (hzi : zi = i) (hze : ze = e) (w : World) (hs : s.size ≤ 140737488351232) (he : e ≤ s.size) (hi : i ≤ 1125899906842624) (h0 : i + 1 < e) (hc : U.at' s (i + 1) = q) :
    Calls Try.prog 52 #[.string s, .int .i64 zi, .int .i64 ze, .int .u8 q] w fun en w' => en = strR (U.escR (U.escL q ((s.data.toList.take e).drop (i + 1)))) ∧ Below w.heap.size w w' := by
  subst hzi hze
  have hm : i + 1 < s.size := by omega
  obtain ⟨c, ec, el⟩ := take_cons s e (i + 1) h0 he
  rw [show i + 1 + 1 = i + 2 from rfl] at el
  have e0 := U.at_eq s (i + 1) hm
  have hdt : decide ((e : Int) ≤ (i : Int) + 1) = false := by rw [decide_eq_false_iff_not]; omega
  have hq' : ((s[i + 1]'hm).toNat : Int) = (q : Int) := by rw [← e0, hc]
  have hq256 : q < 256 := by omega
  have G : Hd (U.escR (U.escL q ((s.data.toList.take e).drop (i + 1))) = ([UInt8.ofNat q], 2)) := hd <| by
    have hcc : c = UInt8.ofNat q := UInt8.toNat_inj.1 (by rw [ec, hc, U.ofNat_toNat q hq256])
    rw [el, U.escL, ec, hc, hcc]; rcases hq with rfl | rfl <;> rfl
  have c1 := fun (W : World) (a : Int) => conv_new 1 _ [a] rfl rfl W
  simp only [List.map_cons, List.map_nil] at c1
  clear ec el e0 hc hq
  go_enter Try.func52, Try.ntmps52
  go_wp2
  go_ret2
  exact ⟨ret_escR (by rw [G.o]; rfl) (by rw [G.o]), (Below.refl _ _).alloc (Nat.le_refl _) _⟩
theorem resc_letter (k : Nat) (hk : U.isLetter k = true) (q : Nat) (hq : q = 34 ∨ q = 39) (s : ByteArray) (i e : Nat) (zi ze : Int) (hzi : zi = i) (hze : ze = e) (w : World) (hs : s.size ≤ 140737488351232) (he : e ≤ s.size) (hi : i ≤ 1125899906842624) (h0 : i + 1 < e) (hc : U.at' s (i + 1) = k) :
    Calls Try.prog 52 #[.string s, .int .i64 zi, .int .i64 ze, .int .u8 q] w fun en w' => en = strR (U.escR (U.escL q ((s.data.toList.take e).drop (i + 1)))) ∧ Below w.heap.size w w' := by
  subst hzi hze
  have hm : i + 1 < s.size := by omega
  obtain ⟨c, ec, el⟩ := take_cons s e (i + 1) h0 he
  rw [show i + 1 + 1 = i + 2 from rfl] at el
  have e0 := U.at_eq s (i + 1) hm
  have hdt : decide ((e : Int) ≤ (i : Int) + 1) = false := by rw [decide_eq_false_iff_not]; omega
  have hq' : ((s[i + 1]'hm).toNat : Int) = (k : Int) := by rw [← e0, hc]
  have hkk : (k = 97 ∨ k = 98 ∨ k = 116 ∨ k = 110 ∨ k = 118 ∨ k = 102 ∨ k = 114) := by simpa [U.isLetter, or_assoc] using hk
  have hk256 : k < 256 := by omega
  have hpv : U.plainB k < 256 := by unfold U.plainB; (repeat' split) <;> omega
  have G : Hd (U.escR (U.escL q ((s.data.toList.take e).drop (i + 1))) = (U.byteOf (U.plainB k), 2)) := hd <| by
    rw [el, U.escL, ec, hc, if_pos hk]; rfl
  have PL : Hd (U.pairL U.pairs1 k = some (U.plainB k)) := hd (U.pairs1_yes k hk)
  have f0 : ((k : Int) == (q : Int)) = false := by rw [beq_eq_false_iff_ne]; omega
  have f9 : ((k : Int) == 92) = false := by rw [beq_eq_false_iff_ne]; omega
  have hm2 : ((U.plainB k : Nat) : Int) % 256 = (U.plainB k : Nat) := by omega
  have c1 := fun (W : World) (a : Int) => conv_new 1 _ [a] rfl rfl W
  simp only [List.map_cons, List.map_nil] at c1
  clear ec el e0 hc hq hk hkk
  go_enter Try.func52, Try.ntmps52
  go_wp2_with (go_at_call 63; refine (letter_any k _ rfl _ _ (by decide) hk256).mono ?_; rintro e w' ⟨rfl, rfl⟩; rw [show U.pairL (ByteArray.data _).toList k = U.pairL U.pairs1 k from rfl, PL.o]; dsimp only [U.numR])
  go_ret2
  exact ⟨ret_escR (by rw [G.o]; rfl) (by rw [G.o]), (Below.refl _ _).alloc (Nat.le_refl _) _⟩
theorem resc_x (q : Nat) (hq : q = 34 ∨ q = 39) (s : ByteArray) (i e : Nat) (zi ze : Int) (hzi : zi = i) (hze : ze = e) (w : World) (hs : s.size ≤ 140737488351232) (he : e ≤ s.size) (hi : i ≤ 1125899906842624) (h0 : i + 1 < e) (hc : U.at' s (i + 1) = 120) :
    Calls Try.prog 52 #[.string s, .int .i64 zi, .int .i64 ze, .int .u8 q] w fun en w' => en = strR (U.escR (U.escL q ((s.data.toList.take e).drop (i + 1)))) ∧ Below w.heap.size w w' := by
  subst hzi hze
  have hm : i + 1 < s.size := by omega
  obtain ⟨c, ec, el⟩ := take_cons s e (i + 1) h0 he
  rw [show i + 1 + 1 = i + 2 from rfl] at el
  have e0 := U.at_eq s (i + 1) hm
  have hdt : decide ((e : Int) ≤ (i : Int) + 1) = false := by rw [decide_eq_false_iff_not]; omega
  have hq' : ((s[i + 1]'hm).toNat : Int) = 120 := by rw [← e0, hc]; rfl
  have hG : U.escL q ((s.data.toList.take e).drop (i + 1)) = (U.numL 16 2 ((s.data.toList.take e).drop (i + 2))).map fun v => (U.byteOf v, 3) := by
    rw [el, U.escL, ec, hc, if_neg (by decide), if_neg (by omega), if_pos rfl]
  have PL : Hd (U.pairL U.pairs1 120 = none) := hd (U.pairs1_no 120 rfl)
  have f0 : ((120 : Int) == (q : Int)) = false := by rw [beq_eq_false_iff_ne]; omega
  have c1 := fun (W : World) (a : Int) => conv_new 1 _ [a] rfl rfl W
  simp only [List.map_cons, List.map_nil] at c1
  cases hn : U.numL 16 2 ((s.data.toList.take e).drop (i + 2)) with
  | none =>
    have N := hd hn
    have G : Hd (U.escR (U.escL q ((s.data.toList.take e).drop (i + 1))) = ([], 0)) := hd <| by rw [hG, hn]; rfl
    clear hG hn ec el e0 hc hq
    go_enter Try.func52, Try.ntmps52
    go_wp2_with (first
      | (go_at_call 63; refine (letter_any 120 _ rfl _ _ (by decide) (by omega)).mono ?_; rintro e w' ⟨rfl, rfl⟩; rw [show U.pairL (ByteArray.data _).toList _ = U.pairL U.pairs1 _ from rfl, PL.o]; dsimp only [U.numR])
      | (go_at_call 64; refine (number16 s (i + 2) 2 e _ _ _ (by omega) rfl rfl _ (by omega) (by decide) (by decide) he (by omega)).mono ?_; rintro e w' ⟨rfl, rfl⟩; rw [N.o]; dsimp only [U.numR]))
    go_ret2
    exact ⟨ret_escR (by rw [G.o]) (by rw [G.o]), Below.refl _ _⟩
  | some r =>
    have N := hd hn
    have hr : r < 256 := U.numL_lt 16 2 _ r (by omega) hn
    have hm2 : (r : Int) % 256 = r := by omega
    have G : Hd (U.escR (U.escL q ((s.data.toList.take e).drop (i + 1))) = (U.byteOf r, 4)) := hd <| by rw [hG, hn]; rfl
    clear hG hn ec el e0 hc hq
    go_enter Try.func52, Try.ntmps52
    go_wp2_with (first
      | (go_at_call 63; refine (letter_any 120 _ rfl _ _ (by decide) (by omega)).mono ?_; rintro e w' ⟨rfl, rfl⟩; rw [show U.pairL (ByteArray.data _).toList _ = U.pairL U.pairs1 _ from rfl, PL.o]; dsimp only [U.numR])
      | (go_at_call 64; refine (number16 s (i + 2) 2 e _ _ _ (by omega) rfl rfl _ (by omega) (by decide) (by decide) he (by omega)).mono ?_; rintro e w' ⟨rfl, rfl⟩; rw [N.o]; dsimp only [U.numR]))
    go_ret2
    exact ⟨ret_escR (by rw [G.o]; rfl) (by rw [G.o]), (Below.refl _ _).alloc (Nat.le_refl _) _⟩
theorem resc_u (q : Nat) (hq : q = 34 ∨ q = 39) (s : ByteArray) (i e : Nat) (zi ze : Int) (hzi : zi = i) (hze : ze = e) (w : World) (hs : s.size ≤ 140737488351232) (he : e ≤ s.size) (hi : i ≤ 1125899906842624) (h0 : i + 1 < e) (hc : U.at' s (i + 1) = 117) :
    Calls Try.prog 52 #[.string s, .int .i64 zi, .int .i64 ze, .int .u8 q] w fun en w' => en = strR (U.escR (U.escL q ((s.data.toList.take e).drop (i + 1)))) ∧ Below w.heap.size w w' := by
  subst hzi hze
  have hm : i + 1 < s.size := by omega
  obtain ⟨c, ec, el⟩ := take_cons s e (i + 1) h0 he
  rw [show i + 1 + 1 = i + 2 from rfl] at el
  have e0 := U.at_eq s (i + 1) hm
  have hdt : decide ((e : Int) ≤ (i : Int) + 1) = false := by rw [decide_eq_false_iff_not]; omega
  have hq' : ((s[i + 1]'hm).toNat : Int) = 117 := by rw [← e0, hc]; rfl
  have hG : U.escL q ((s.data.toList.take e).drop (i + 1)) = U.runeOf (U.numL 16 4 ((s.data.toList.take e).drop (i + 2))) 5 := by
    rw [el, U.escL, ec, hc, if_neg (by decide), if_neg (by omega), if_neg (by decide), if_pos rfl]; rfl
  have PL : Hd (U.pairL U.pairs1 117 = none) := hd (U.pairs1_no 117 rfl)
  have f0 : ((117 : Int) == (q : Int)) = false := by rw [beq_eq_false_iff_ne]; omega
  cases hn : U.numL 16 4 ((s.data.toList.take e).drop (i + 2)) with
  | none =>
    have N := hd hn
    have V : Hd (Utf8.valid (-1) = false) := hd (by decide)
    have G : Hd (U.escR (U.escL q ((s.data.toList.take e).drop (i + 1))) = ([], 0)) := hd <| by rw [hG, hn]; rfl
    clear hG hn ec el e0 hc hq
    go_enter Try.func52, Try.ntmps52
    go_wp2_with (first
      | (go_at_call 63; refine (letter_any 117 _ rfl _ _ (by decide) (by omega)).mono ?_; rintro e w' ⟨rfl, rfl⟩; rw [show U.pairL (ByteArray.data _).toList _ = U.pairL U.pairs1 _ from rfl, PL.o]; dsimp only [U.numR])
      | (go_at_call 64; refine (number16 s (i + 2) 4 e _ _ _ (by omega) rfl rfl _ (by omega) (by decide) (by decide) he (by omega)).mono ?_; rintro e w' ⟨rfl, rfl⟩; rw [N.o]; dsimp only [U.numR])
      | (go_at_call 59; refine (IsRune_any _ _ (by omega) (by omega)).mono ?_; rintro e w' ⟨rfl, rfl⟩; rw [V.o]))
    go_ret2
    exact ⟨ret_escR (by rw [G.o]) (by rw [G.o]), Below.refl _ _⟩
  | some r =>
    have N := hd hn
    have hr : r < 4294967296 := Nat.lt_of_lt_of_le (U.numL_lt 16 4 _ r (by omega) hn) (by decide)
    cases hv : Utf8.valid (r : Int) with
    | false =>
      have V : Hd (Utf8.valid (r : Int) = false) := hd hv
      have G : Hd (U.escR (U.escL q ((s.data.toList.take e).drop (i + 1))) = ([], 0)) := hd <| by rw [hG, hn, U.runeOf_bad r _ hv]; rfl
      clear hG hn ec el e0 hc hq hv
      go_enter Try.func52, Try.ntmps52
      go_wp2_with (first
        | (go_at_call 63; refine (letter_any 117 _ rfl _ _ (by decide) (by omega)).mono ?_; rintro e w' ⟨rfl, rfl⟩; rw [show U.pairL (ByteArray.data _).toList _ = U.pairL U.pairs1 _ from rfl, PL.o]; dsimp only [U.numR])
        | (go_at_call 64; refine (number16 s (i + 2) 4 e _ _ _ (by omega) rfl rfl _ (by omega) (by decide) (by decide) he (by omega)).mono ?_; rintro e w' ⟨rfl, rfl⟩; rw [N.o]; dsimp only [U.numR])
        | (go_at_call 59; refine (IsRune_any _ _ (by omega) (by omega)).mono ?_; rintro e w' ⟨rfl, rfl⟩; rw [V.o]))
      go_ret2
      exact ⟨ret_escR (by rw [G.o]) (by rw [G.o]), Below.refl _ _⟩
    | true =>
      have V : Hd (Utf8.valid (r : Int) = true) := hd hv
      have G : Hd (U.escR (U.escL q ((s.data.toList.take e).drop (i + 1))) = ((Utf8.encode (r : Int)).toList, 6)) := hd <| by rw [hG, hn, U.runeOf_good r _ hv]; rfl
      have F : Hd (U.formB (r : Int) = Utf8.encode (r : Int)) := hd <| by unfold U.formB; rw [if_pos hv]
      clear hG hn ec el e0 hc hq hv
      go_enter Try.func52, Try.ntmps52
      go_wp2_with (first
        | (go_at_call 63; refine (letter_any 117 _ rfl _ _ (by decide) (by omega)).mono ?_; rintro e w' ⟨rfl, rfl⟩; rw [show U.pairL (ByteArray.data _).toList _ = U.pairL U.pairs1 _ from rfl, PL.o]; dsimp only [U.numR])
        | (go_at_call 64; refine (number16 s (i + 2) 4 e _ _ _ (by omega) rfl rfl _ (by omega) (by decide) (by decide) he (by omega)).mono ?_; rintro e w' ⟨rfl, rfl⟩; rw [N.o]; dsimp only [U.numR])
        | (go_at_call 59; refine (IsRune_any _ _ (by omega) (by omega)).mono ?_; rintro e w' ⟨rfl, rfl⟩; rw [V.o])
        | (go_at_call 47; refine (Form_any _ _ (by omega) (by omega)).mono ?_; rintro e w1 ⟨rfl, hb1⟩; rw [F.o]))
      go_ret2
      exact ⟨ret_escR (by rw [G.o]; exact (ByteArray.toList_eq _).symm) (by rw [G.o]), hb1⟩
theorem resc_U (q : Nat) (hq : q = 34 ∨ q = 39) (s : ByteArray) (i e : Nat) (zi ze : Int) (hzi : zi = i) (hze : ze = e) (w : World) (hs : s.size ≤ 140737488351232) (he : e ≤ s.size) (hi : i ≤ 1125899906842624) (h0 : i + 1 < e) (hc : U.at' s (i + 1) = 85) :
    Calls Try.prog 52 #[.string s, .int .i64 zi, .int .i64 ze, .int .u8 q] w fun en w' => en = strR (U.escR (U.escL q ((s.data.toList.take e).drop (i + 1)))) ∧ Below w.heap.size w w' := by
  subst hzi hze
  have hm : i + 1 < s.size := by omega
  obtain ⟨c, ec, el⟩ := take_cons s e (i + 1) h0 he
  rw [show i + 1 + 1 = i + 2 from rfl] at el
  have e0 := U.at_eq s (i + 1) hm
  have hdt : decide ((e : Int) ≤ (i : Int) + 1) = false := by rw [decide_eq_false_iff_not]; omega
  have hq' : ((s[i + 1]'hm).toNat : Int) = 85 := by rw [← e0, hc]; rfl
  have hG : U.escL q ((s.data.toList.take e).drop (i + 1)) = U.runeOf (U.numL 16 8 ((s.data.toList.take e).drop (i + 2))) 9 := by
    rw [el, U.escL, ec, hc, if_neg (by decide), if_neg (by omega), if_neg (by decide), if_neg (by decide), if_pos rfl]; rfl
  have PL : Hd (U.pairL U.pairs1 85 = none) := hd (U.pairs1_no 85 rfl)
  have f0 : ((85 : Int) == (q : Int)) = false := by rw [beq_eq_false_iff_ne]; omega
  cases hn : U.numL 16 8 ((s.data.toList.take e).drop (i + 2)) with
  | none =>
    have N := hd hn
    have V : Hd (Utf8.valid (-1) = false) := hd (by decide)
    have G : Hd (U.escR (U.escL q ((s.data.toList.take e).drop (i + 1))) = ([], 0)) := hd <| by rw [hG, hn]; rfl
    clear hG hn ec el e0 hc hq
    go_enter Try.func52, Try.ntmps52
    go_wp2_with (first
      | (go_at_call 63; refine (letter_any 85 _ rfl _ _ (by decide) (by omega)).mono ?_; rintro e w' ⟨rfl, rfl⟩; rw [show U.pairL (ByteArray.data _).toList _ = U.pairL U.pairs1 _ from rfl, PL.o]; dsimp only [U.numR])
      | (go_at_call 64; refine (number16 s (i + 2) 8 e _ _ _ (by omega) rfl rfl _ (by omega) (by decide) (by decide) he (by omega)).mono ?_; rintro e w' ⟨rfl, rfl⟩; rw [N.o]; dsimp only [U.numR])
      | (go_at_call 59; refine (IsRune_any _ _ (by omega) (by omega)).mono ?_; rintro e w' ⟨rfl, rfl⟩; rw [V.o]))
    go_ret2
    exact ⟨ret_escR (by rw [G.o]) (by rw [G.o]), Below.refl _ _⟩
  | some r =>
    have N := hd hn
    have hr : r < 4294967296 := Nat.lt_of_lt_of_le (U.numL_lt 16 8 _ r (by omega) hn) (by decide)
    cases hv : Utf8.valid (r : Int) with
    | false =>
      have V : Hd (Utf8.valid (r : Int) = false) := hd hv
      have G : Hd (U.escR (U.escL q ((s.data.toList.take e).drop (i + 1))) = ([], 0)) := hd <| by rw [hG, hn, U.runeOf_bad r _ hv]; rfl
      clear hG hn ec el e0 hc hq hv
      go_enter Try.func52, Try.ntmps52
      go_wp2_with (first
        | (go_at_call 63; refine (letter_any 85 _ rfl _ _ (by decide) (by omega)).mono ?_; rintro e w' ⟨rfl, rfl⟩; rw [show U.pairL (ByteArray.data _).toList _ = U.pairL U.pairs1 _ from rfl, PL.o]; dsimp only [U.numR])
        | (go_at_call 64; refine (number16 s (i + 2) 8 e _ _ _ (by omega) rfl rfl _ (by omega) (by decide) (by decide) he (by omega)).mono ?_; rintro e w' ⟨rfl, rfl⟩; rw [N.o]; dsimp only [U.numR])
        | (go_at_call 59; refine (IsRune_any _ _ (by omega) (by omega)).mono ?_; rintro e w' ⟨rfl, rfl⟩; rw [V.o]))
      go_ret2
      exact ⟨ret_escR (by rw [G.o]) (by rw [G.o]), Below.refl _ _⟩
    | true =>
      have V : Hd (Utf8.valid (r : Int) = true) := hd hv
      have G : Hd (U.escR (U.escL q ((s.data.toList.take e).drop (i + 1))) = ((Utf8.encode (r : Int)).toList, 10)) := hd <| by rw [hG, hn, U.runeOf_good r _ hv]; rfl
      have F : Hd (U.formB (r : Int) = Utf8.encode (r : Int)) := hd <| by unfold U.formB; rw [if_pos hv]
      clear hG hn ec el e0 hc hq hv
      go_enter Try.func52, Try.ntmps52
      go_wp2_with (first
        | (go_at_call 63; refine (letter_any 85 _ rfl _ _ (by decide) (by omega)).mono ?_; rintro e w' ⟨rfl, rfl⟩; rw [show U.pairL (ByteArray.data _).toList _ = U.pairL U.pairs1 _ from rfl, PL.o]; dsimp only [U.numR])
        | (go_at_call 64; refine (number16 s (i + 2) 8 e _ _ _ (by omega) rfl rfl _ (by omega) (by decide) (by decide) he (by omega)).mono ?_; rintro e w' ⟨rfl, rfl⟩; rw [N.o]; dsimp only [U.numR])
        | (go_at_call 59; refine (IsRune_any _ _ (by omega) (by omega)).mono ?_; rintro e w' ⟨rfl, rfl⟩; rw [V.o])
        | (go_at_call 47; refine (Form_any _ _ (by omega) (by omega)).mono ?_; rintro e w1 ⟨rfl, hb1⟩; rw [F.o]))
      go_ret2
      exact ⟨ret_escR (by rw [G.o]; exact (ByteArray.toList_eq _).symm) (by rw [G.o]), hb1⟩
theorem resc_oct (q : Nat) (hq : q = 34 ∨ q = 39) (s : ByteArray) (i e : Nat) (zi ze : Int) (hzi : zi = i) (hze : ze = e) (w : World) (hs : s.size ≤ 140737488351232) (he : e ≤ s.size) (hi : i ≤ 1125899906842624) (h0 : i + 1 < e) (hc : U.isLetter (U.at' s (i + 1)) = false) (hc2 : U.at' s (i + 1) ≠ 92 ∧ U.at' s (i + 1) ≠ q ∧ U.at' s (i + 1) ≠ 120 ∧ U.at' s (i + 1) ≠ 117 ∧ U.at' s (i + 1) ≠ 85) :
    Calls Try.prog 52 #[.string s, .int .i64 zi, .int .i64 ze, .int .u8 q] w fun en w' => en = strR (U.escR (U.escL q ((s.data.toList.take e).drop (i + 1)))) ∧ Below w.heap.size w w' := by
  subst hzi hze
  have hm : i + 1 < s.size := by omega
  obtain ⟨c, ec, el⟩ := take_cons s e (i + 1) h0 he
  rw [show i + 1 + 1 = i + 2 from rfl] at el
  have e0 := U.at_eq s (i + 1) hm
  have hdt : decide ((e : Int) ≤ (i : Int) + 1) = false := by rw [decide_eq_false_iff_not]; omega
  have hG : U.escL q ((s.data.toList.take e).drop (i + 1)) = (U.numL 8 3 ((s.data.toList.take e).drop (i + 1))).bind fun v => if v ≤ 255 then some (U.byteOf v, 3) else none := by
    rw [el, U.escL, ec, hc, if_neg (by simp), if_neg (by omega), if_neg hc2.2.2.1, if_neg hc2.2.2.2.1, if_neg hc2.2.2.2.2]
  have PL : Hd (U.pairL U.pairs1 (U.at' s (i + 1)) = none) := hd (U.pairs1_no _ hc)
  have heq : ((s[i + 1]'hm).toNat : Int) = (U.at' s (i + 1) : Int) := by rw [e0]
  have g1 : ((U.at' s (i + 1) : Int) == 92) = false := by rw [beq_eq_false_iff_ne]; omega
  have g2 : ((U.at' s (i + 1) : Int) == (q : Int)) = false := by rw [beq_eq_false_iff_ne]; omega
  have g3 : ((U.at' s (i + 1) : Int) == 120) = false := by rw [beq_eq_false_iff_ne]; omega
  have g4 : ((U.at' s (i + 1) : Int) == 117) = false := by rw [beq_eq_false_iff_ne]; omega
  have g5 : ((U.at' s (i + 1) : Int) == 85) = false := by rw [beq_eq_false_iff_ne]; omega
  have c1 := fun (W : World) (a : Int) => conv_new 1 _ [a] rfl rfl W
  simp only [List.map_cons, List.map_nil] at c1
  cases hn : U.numL 8 3 ((s.data.toList.take e).drop (i + 1)) with
  | none =>
    have N := hd hn
    have G : Hd (U.escR (U.escL q ((s.data.toList.take e).drop (i + 1))) = ([], 0)) := hd <| by rw [hG, hn]; rfl
    clear hG hn ec el e0 hc hq hc2
    go_enter Try.func52, Try.ntmps52
    go_wp2_with (first
      | (go_at_call 63; refine (letter_any (U.at' s (i + 1)) _ rfl _ _ (by decide) (U.at_lt s (i + 1))).mono ?_; rintro e w' ⟨rfl, rfl⟩; rw [show U.pairL (ByteArray.data _).toList (U.at' s (i + 1)) = U.pairL U.pairs1 (U.at' s (i + 1)) from rfl, PL.o]; dsimp only [U.numR])
      | (go_at_call 64; refine (number8 s (i + 1) 3 e _ _ _ (by omega) rfl rfl _ (by omega) (by decide) (by decide) he (by omega)).mono ?_; rintro e w' ⟨rfl, rfl⟩; rw [N.o]; dsimp only [U.numR]))
    go_ret2
    exact ⟨ret_escR (by rw [G.o]) (by rw [G.o]), Below.refl _ _⟩
  | some r =>
    have N := hd hn
    have hr : r < 512 := U.numL_lt 8 3 _ r (by omega) hn
    by_cases h255 : r ≤ 255
    · have hm2 : (r : Int) % 256 = r := by omega
      have G : Hd (U.escR (U.escL q ((s.data.toList.take e).drop (i + 1))) = (U.byteOf r, 4)) := hd <| by rw [hG, hn, Option.bind_some, if_pos h255]; rfl
      clear hG hn ec el e0 hc hq hc2
      go_enter Try.func52, Try.ntmps52
      go_wp2_with (first
        | (go_at_call 63; refine (letter_any (U.at' s (i + 1)) _ rfl _ _ (by decide) (U.at_lt s (i + 1))).mono ?_; rintro e w' ⟨rfl, rfl⟩; rw [show U.pairL (ByteArray.data _).toList (U.at' s (i + 1)) = U.pairL U.pairs1 (U.at' s (i + 1)) from rfl, PL.o]; dsimp only [U.numR])
        | (go_at_call 64; refine (number8 s (i + 1) 3 e _ _ _ (by omega) rfl rfl _ (by omega) (by decide) (by decide) he (by omega)).mono ?_; rintro e w' ⟨rfl, rfl⟩; rw [N.o]; dsimp only [U.numR]))
      go_ret2
      exact ⟨ret_escR (by rw [G.o]; rfl) (by rw [G.o]), (Below.refl _ _).alloc (Nat.le_refl _) _⟩
    · have G : Hd (U.escR (U.escL q ((s.data.toList.take e).drop (i + 1))) = ([], 0)) := hd <| by rw [hG, hn, Option.bind_some, if_neg h255]; rfl
      clear hG hn ec el e0 hc hq hc2
      go_enter Try.func52, Try.ntmps52
      go_wp2_with (first
        | (go_at_call 63; refine (letter_any (U.at' s (i + 1)) _ rfl _ _ (by decide) (U.at_lt s (i + 1))).mono ?_; rintro e w' ⟨rfl, rfl⟩; rw [show U.pairL (ByteArray.data _).toList (U.at' s (i + 1)) = U.pairL U.pairs1 (U.at' s (i + 1)) from rfl, PL.o]; dsimp only [U.numR])
        | (go_at_call 64; refine (number8 s (i + 1) 3 e _ _ _ (by omega) rfl rfl _ (by omega) (by decide) (by decide) he (by omega)).mono ?_; rintro e w' ⟨rfl, rfl⟩; rw [N.o]; dsimp only [U.numR]))
      go_ret2
      exact ⟨ret_escR (by rw [G.o]) (by rw [G.o]), Below.refl _ _⟩
theorem resc_any (q : Nat) (hq : q = 34 ∨ q = 39) (s : ByteArray) (i e : Nat) (zi ze : Int) (hzi : zi = i) (hze : ze = e) (w : World) (hs : s.size ≤ 140737488351232) (he : e ≤ s.size) (hi : i ≤ 1125899906842624) :
    Calls Try.prog 52 #[.string s, .int .i64 zi, .int .i64 ze, .int .u8 q] w fun en w' => en = strR (U.escR (U.escL q ((s.data.toList.take e).drop (i + 1)))) ∧ Below w.heap.size w w' := by
  by_cases h0 : i + 1 < e
  · cases hl : U.isLetter (U.at' s (i + 1)) with
    | true => exact resc_letter (U.at' s (i + 1)) hl q hq s i e zi ze hzi hze w hs he hi h0 rfl
    | false =>
      by_cases h1 : U.at' s (i + 1) = 92
      · exact resc_back q hq s i e zi ze hzi hze w hs he hi h0 h1
      by_cases h2 : U.at' s (i + 1) = q
      · exact resc_quote q hq s i e zi ze hzi hze w hs he hi h0 h2
      by_cases h3 : U.at' s (i + 1) = 120
      · exact resc_x q hq s i e zi ze hzi hze w hs he hi h0 h3
      by_cases h4 : U.at' s (i + 1) = 117
      · exact resc_u q hq s i e zi ze hzi hze w hs he hi h0 h4
      by_cases h5 : U.at' s (i + 1) = 85
      · exact resc_U q hq s i e zi ze hzi hze w hs he hi h0 h5
      exact resc_oct q hq s i e zi ze hzi hze w hs he hi h0 hl ⟨h1, h2, h3, h4, h5⟩
  · exact resc_nil q hq s i e zi ze hzi hze w hs he hi h0
end Go.Proofs.Ythlpgnidjjclcaa
