/- The walk of weirref01.jsonEscape. -/
import Derived.Test.YthlpgnidjjclcaaUJMath
import Derived.Test.YthlpgnidjjclcaaURefEsc
namespace Go.Proofs.Ythlpgnidjjclcaa
open Go.RowKit
set_option linter.unusedVariables false
set_option linter.unusedSimpArgs false

theorem rjesc_nil (s : ByteArray) (i e : Nat) (zi ze : Int) (hzi : zi = i) (hze : ze = e) (w : World) (hs : s.size ≤ 140737488351232) (he : e ≤ s.size) (hi : i ≤ 1125899906842624) (h0 : ¬ i + 1 < e) :
    Calls Try.prog 58 #[.string s, .int .i64 zi, .int .i64 ze] w fun en w' => en = strR (U.escR (U.escJ ((s.data.toList.take e).drop (i + 1)))) ∧ Below w.heap.size w w' := by
  subst hzi hze
  have G : Hd (U.escR (U.escJ ((s.data.toList.take e).drop (i + 1))) = ([], 0)) := hd <| by
    have : ((s.data.toList.take e).drop (i + 1)) = [] := List.eq_nil_of_length_eq_zero (by rw [List.length_drop, List.length_take, ← Lib.size_eq]; omega)
    rw [this]; rfl
  go_enter Try.func58, Try.ntmps58
  go_wp2
  go_ret2
  exact ⟨ret_escR (by rw [G.o]) (by rw [G.o]), Below.refl _ _⟩
theorem rjesc_simp (b : Nat) (s : ByteArray) (i e : Nat) (zi ze : Int) (hzi : zi = i) (hze : ze = e) (w : World) (hs : s.size ≤ 140737488351232) (he : e ≤ s.size) (hi : i ≤ 1125899906842624) (h0 : i + 1 < e) (hc : U.simpJ (U.at' s (i + 1)) = some b) :
    Calls Try.prog 58 #[.string s, .int .i64 zi, .int .i64 ze] w fun en w' => en = strR (U.escR (U.escJ ((s.data.toList.take e).drop (i + 1)))) ∧ Below w.heap.size w w' := by
  subst hzi hze
  have hm : i + 1 < s.size := by omega
  obtain ⟨c, ec, el⟩ := take_cons s e (i + 1) h0 he
  rw [show i + 1 + 1 = i + 2 from rfl] at el
  have e0 := U.at_eq s (i + 1) hm
  have hdt : decide ((e : Int) ≤ (i : Int) + 1) = false := by rw [decide_eq_false_iff_not]; omega
  have hlt := U.at_lt s (i + 1)
  have heq : ((s[i + 1]'hm).toNat : Int) = (U.at' s (i + 1) : Int) := by rw [e0]
  have hb := U.simpJ_lt _ hlt b hc
  have PL : Hd (U.pairL U.pairs2 (U.at' s (i + 1)) = some b) := hd (by rw [U.pairs2_eq _ hlt, hc])
  have hm2 : (b : Int) % 256 = b := by omega
  have G : Hd (U.escR (U.escJ ((s.data.toList.take e).drop (i + 1))) = (U.byteOf b, 2)) := hd <| by
    rw [el, U.escJ_simp c _ b (by rw [ec]; exact hc)]; rfl
  have c1 := fun (W : World) (a : Int) => conv_new 1 _ [a] rfl rfl W
  simp only [List.map_cons, List.map_nil] at c1
  clear ec el e0 hc
  go_enter Try.func58, Try.ntmps58
  go_wp2_with (go_at_call 63; refine (letter_any (U.at' s (i + 1)) _ rfl _ _ (by decide) hlt).mono ?_; rintro e w' ⟨rfl, rfl⟩; rw [show U.pairL (ByteArray.data _).toList (U.at' s (i + 1)) = U.pairL U.pairs2 (U.at' s (i + 1)) from rfl, PL.o]; dsimp only [U.numR])
  go_ret2
  exact ⟨ret_escR (by rw [G.o]; rfl) (by rw [G.o]), (Below.refl _ _).alloc (Nat.le_refl _) _⟩
theorem rjesc_else (s : ByteArray) (i e : Nat) (zi ze : Int) (hzi : zi = i) (hze : ze = e) (w : World) (hs : s.size ≤ 140737488351232) (he : e ≤ s.size) (hi : i ≤ 1125899906842624) (h0 : i + 1 < e) (hc : U.simpJ (U.at' s (i + 1)) = none) (hc2 : U.at' s (i + 1) ≠ 117) :
    Calls Try.prog 58 #[.string s, .int .i64 zi, .int .i64 ze] w fun en w' => en = strR (U.escR (U.escJ ((s.data.toList.take e).drop (i + 1)))) ∧ Below w.heap.size w w' := by
  subst hzi hze
  have hm : i + 1 < s.size := by omega
  obtain ⟨c, ec, el⟩ := take_cons s e (i + 1) h0 he
  rw [show i + 1 + 1 = i + 2 from rfl] at el
  have e0 := U.at_eq s (i + 1) hm
  have hdt : decide ((e : Int) ≤ (i : Int) + 1) = false := by rw [decide_eq_false_iff_not]; omega
  have hlt := U.at_lt s (i + 1)
  have heq : ((s[i + 1]'hm).toNat : Int) = (U.at' s (i + 1) : Int) := by rw [e0]
  have PL : Hd (U.pairL U.pairs2 (U.at' s (i + 1)) = none) := hd (by rw [U.pairs2_eq _ hlt, hc])
  have b9 : ((U.at' s (i + 1) : Int) != 117) = true := by rw [bne_iff_ne]; omega
  have G : Hd (U.escR (U.escJ ((s.data.toList.take e).drop (i + 1))) = ([], 0)) := hd <| by
    rw [el, U.escJ_else c _ (by rw [ec]; exact hc) (by rw [ec]; exact hc2)]; rfl
  clear ec el e0 hc hc2
  go_enter Try.func58, Try.ntmps58
  go_wp2_with (go_at_call 63; refine (letter_any (U.at' s (i + 1)) _ rfl _ _ (by decide) hlt).mono ?_; rintro e w' ⟨rfl, rfl⟩; rw [show U.pairL (ByteArray.data _).toList (U.at' s (i + 1)) = U.pairL U.pairs2 (U.at' s (i + 1)) from rfl, PL.o]; dsimp only [U.numR])
  go_ret2
  exact ⟨ret_escR (by rw [G.o]) (by rw [G.o]), Below.refl _ _⟩
theorem rjesc_u (s : ByteArray) (i e : Nat) (zi ze : Int) (hzi : zi = i) (hze : ze = e) (w : World) (hs : s.size ≤ 140737488351232) (he : e ≤ s.size) (hi : i ≤ 1125899906842624) (h0 : i + 1 < e) (hc : U.at' s (i + 1) = 117) (hv : ∀ r, U.numL 16 4 ((s.data.toList.take e).drop (i + 2)) = some r → ¬ (55296 ≤ r ∧ r ≤ 56319)) :
    Calls Try.prog 58 #[.string s, .int .i64 zi, .int .i64 ze] w fun en w' => en = strR (U.escR (U.escJ ((s.data.toList.take e).drop (i + 1)))) ∧ Below w.heap.size w w' := by
  subst hzi hze
  have hm : i + 1 < s.size := by omega
  obtain ⟨c, ec, el⟩ := take_cons s e (i + 1) h0 he
  rw [show i + 1 + 1 = i + 2 from rfl] at el
  have e0 := U.at_eq s (i + 1) hm
  have hdt : decide ((e : Int) ≤ (i : Int) + 1) = false := by rw [decide_eq_false_iff_not]; omega
  have hq' : ((s[i + 1]'hm).toNat : Int) = 117 := by rw [← e0, hc]; rfl
  have h117 : c.toNat = 117 := by rw [ec, hc]
  have PL : Hd (U.pairL U.pairs2 117 = none) := hd (by decide)
  cases hn : U.numL 16 4 ((s.data.toList.take e).drop (i + 2)) with
  | none =>
    have N := hd hn
    have V : Hd (Utf8.valid (-1) = false) := hd (by decide)
    have G : Hd (U.escR (U.escJ ((s.data.toList.take e).drop (i + 1))) = ([], 0)) := hd <| by rw [el, U.escJ_none c _ h117 hn]; rfl
    clear ec el e0 hc h117 hn hv
    go_enter Try.func58, Try.ntmps58
    go_wp2_with (first
      | (go_at_call 63; refine (letter_any 117 _ rfl _ _ (by decide) (by decide)).mono ?_; rintro e w' ⟨rfl, rfl⟩; rw [show U.pairL (ByteArray.data _).toList 117 = U.pairL U.pairs2 117 from rfl, PL.o]; dsimp only [U.numR])
      | (go_at_call 64; refine (number16 s (i + 2) 4 e _ _ _ (by omega) rfl rfl _ (by omega) (by decide) (by decide) he (by omega)).mono ?_; rintro e w' ⟨rfl, rfl⟩; rw [N.o]; dsimp only [U.numR]; (try rw [← HZ.o]))
      | (go_at_call 59; refine (IsRune_any _ _ (by omega) (by omega)).mono ?_; rintro e w' ⟨rfl, rfl⟩; rw [V.o]))
    go_ret2
    exact ⟨ret_escR (by rw [G.o]) (by rw [G.o]), Below.refl _ _⟩
  | some r =>
    have N := hd hn
    have hr : r < 65536 := U.numL_lt 16 4 _ r (by omega) hn
    have hnv := hv r hn
    have hG : U.escJ ((s.data.toList.take e).drop (i + 1)) = U.runeOf (some r) 5 := by rw [el, U.escJ_rune c _ h117 r hn hnv]
    obtain ⟨z, hz⟩ : ∃ z : Int, z = (r : Int) := ⟨_, rfl⟩
    have HZ := hd hz
    have z1 : 0 ≤ z := by omega
    have z2 : z ≤ 65535 := by omega
    cases hvv : Utf8.valid (r : Int) with
    | false =>
      have hr2 : 56320 ≤ r := by
        rcases Nat.lt_or_ge r 56320 with h | h
        · have := (U.valid_iff (r : Int)).2 (.inl (by omega)); rw [hvv] at this; cases this
        · exact h
      have V : Hd (Utf8.valid z = false) := hd (by rw [hz]; exact hvv)
      have z3 : 56320 ≤ z := by omega
      have G : Hd (U.escR (U.escJ ((s.data.toList.take e).drop (i + 1))) = ([], 0)) := hd <| by rw [hG, U.runeOf_bad r _ hvv]; rfl
      clear hG ec el e0 hc h117 hn hv hvv hnv hr hz hr2
      go_enter Try.func58, Try.ntmps58
      go_wp2_with (first
        | (go_at_call 63; refine (letter_any 117 _ rfl _ _ (by decide) (by decide)).mono ?_; rintro e w' ⟨rfl, rfl⟩; rw [show U.pairL (ByteArray.data _).toList 117 = U.pairL U.pairs2 117 from rfl, PL.o]; dsimp only [U.numR])
        | (go_at_call 64; refine (number16 s (i + 2) 4 e _ _ _ (by omega) rfl rfl _ (by omega) (by decide) (by decide) he (by omega)).mono ?_; rintro e w' ⟨rfl, rfl⟩; rw [N.o]; dsimp only [U.numR]; (try rw [← HZ.o]))
        | (go_at_call 59; refine (IsRune_any _ _ (by omega) (by omega)).mono ?_; rintro e w' ⟨rfl, rfl⟩; rw [V.o]))
      go_ret2
      exact ⟨ret_escR (by rw [G.o]) (by rw [G.o]), Below.refl _ _⟩
    | true =>
      have V : Hd (Utf8.valid z = true) := hd (by rw [hz]; exact hvv)
      have G : Hd (U.escR (U.escJ ((s.data.toList.take e).drop (i + 1))) = ((Utf8.encode z).toList, 6)) := hd <| by rw [hG, U.runeOf_good r _ hvv, hz]; rfl
      have F : Hd (U.formB z = Utf8.encode z) := hd <| by unfold U.formB; rw [if_pos V.o]
      rcases (show z ≤ 55295 ∨ 56320 ≤ z by omega) with z3 | z3
      · clear hG ec el e0 hc h117 hn hv hvv hnv hr hz
        go_enter Try.func58, Try.ntmps58
        go_wp2_with (first
          | (go_at_call 63; refine (letter_any 117 _ rfl _ _ (by decide) (by decide)).mono ?_; rintro e w' ⟨rfl, rfl⟩; rw [show U.pairL (ByteArray.data _).toList 117 = U.pairL U.pairs2 117 from rfl, PL.o]; dsimp only [U.numR])
          | (go_at_call 64; refine (number16 s (i + 2) 4 e _ _ _ (by omega) rfl rfl _ (by omega) (by decide) (by decide) he (by omega)).mono ?_; rintro e w' ⟨rfl, rfl⟩; rw [N.o]; dsimp only [U.numR]; (try rw [← HZ.o]))
          | (go_at_call 59; refine (IsRune_any _ _ (by omega) (by omega)).mono ?_; rintro e w' ⟨rfl, rfl⟩; rw [V.o])
          | (go_at_call 47; refine (Form_any _ _ (by omega) (by omega)).mono ?_; rintro e w1 ⟨rfl, hb1⟩; rw [F.o]))
        go_ret2
        exact ⟨ret_escR (by rw [G.o]; exact (ByteArray.toList_eq _).symm) (by rw [G.o]), hb1⟩
      · clear hG ec el e0 hc h117 hn hv hvv hnv hr hz
        go_enter Try.func58, Try.ntmps58
        go_wp2_with (first
          | (go_at_call 63; refine (letter_any 117 _ rfl _ _ (by decide) (by decide)).mono ?_; rintro e w' ⟨rfl, rfl⟩; rw [show U.pairL (ByteArray.data _).toList 117 = U.pairL U.pairs2 117 from rfl, PL.o]; dsimp only [U.numR])
          | (go_at_call 64; refine (number16 s (i + 2) 4 e _ _ _ (by omega) rfl rfl _ (by omega) (by decide) (by decide) he (by omega)).mono ?_; rintro e w' ⟨rfl, rfl⟩; rw [N.o]; dsimp only [U.numR]; (try rw [← HZ.o]))
          | (go_at_call 59; refine (IsRune_any _ _ (by omega) (by omega)).mono ?_; rintro e w' ⟨rfl, rfl⟩; rw [V.o])
          | (go_at_call 47; refine (Form_any _ _ (by omega) (by omega)).mono ?_; rintro e w1 ⟨rfl, hb1⟩; rw [F.o]))
        go_ret2
        exact ⟨ret_escR (by rw [G.o]; exact (ByteArray.toList_eq _).symm) (by rw [G.o]), hb1⟩
set_option maxHeartbeats 9600000 in
theorem rjesc_sur (s : ByteArray) (i e : Nat) (zi ze : Int) (hzi : zi = i) (hze : ze = e) (w : World) (hs : s.size ≤ 140737488351232) (he : e ≤ s.size) (hi : i ≤ 1125899906842624) (h0 : i + 1 < e) (hc : U.at' s (i + 1) = 117) (r : Nat) (hr1 : 55296 ≤ r) (hr2 : r ≤ 56319) (hn : U.numL 16 4 ((s.data.toList.take e).drop (i + 2)) = some r) :
    Calls Try.prog 58 #[.string s, .int .i64 zi, .int .i64 ze] w fun en w' => en = strR (U.escR (U.escJ ((s.data.toList.take e).drop (i + 1)))) ∧ Below w.heap.size w w' := by
  subst hzi hze
  have hm : i + 1 < s.size := by omega
  obtain ⟨c, ec, el⟩ := take_cons s e (i + 1) h0 he
  rw [show i + 1 + 1 = i + 2 from rfl] at el
  have e0 := U.at_eq s (i + 1) hm
  have hdt : decide ((e : Int) ≤ (i : Int) + 1) = false := by rw [decide_eq_false_iff_not]; omega
  have hq' : ((s[i + 1]'hm).toNat : Int) = 117 := by rw [← e0, hc]; rfl
  have h117 : c.toNat = 117 := by rw [ec, hc]
  have PL : Hd (U.pairL U.pairs2 117 = none) := hd (by decide)
  have N := hd hn
  obtain ⟨z, hz⟩ : ∃ z : Int, z = (r : Int) := ⟨_, rfl⟩
  have HZ := hd hz
  have z1 : 55296 ≤ z := by omega
  have z2 : z ≤ 56319 := by omega
  have hG : U.escJ ((s.data.toList.take e).drop (i + 1)) = U.surJ r ((s.data.toList.take e).drop (i + 6)) := by rw [el, U.escJ_sur c _ h117 r hn ⟨hr1, hr2⟩, List.drop_drop]
  by_cases h7 : i + 7 < e
  · obtain ⟨a, ea, ela⟩ := take_cons s e (i + 6) (by omega) he
    obtain ⟨b, eb, elb⟩ := take_cons s e (i + 7) h7 he
    rw [show i + 6 + 1 = i + 7 from rfl] at ela
    rw [show i + 7 + 1 = i + 8 from rfl] at elb
    rw [ela, elb] at hG
    have hm6 : i + 6 < s.size := by omega
    have hm7 : i + 7 < s.size := by omega
    have e6 := U.at_eq s (i + 6) hm6
    have e7 := U.at_eq s (i + 7) hm7
    have i6 : ((s[i + 6]'hm6).toNat : Int) = (U.at' s (i + 6) : Int) := by rw [e6]
    have i7 : ((s[i + 7]'hm7).toNat : Int) = (U.at' s (i + 7) : Int) := by rw [e7]
    have hd7 : decide ((i : Int) + 7 < (e : Int)) = true := by rw [decide_eq_true_iff]; omega
    by_cases h5 : U.at' s (i + 6) = 92
    · have b5 : ((U.at' s (i + 6) : Int) == 92) = true := by rw [h5]; rfl
      by_cases h6 : U.at' s (i + 7) = 117
      · have b6 : ((U.at' s (i + 7) : Int) == 117) = true := by rw [h6]; rfl
        have hab : a.toNat = 92 ∧ b.toNat = 117 := ⟨by rw [ea, h5], by rw [eb, h6]⟩
        cases hm2 : U.numL 16 4 ((s.data.toList.take e).drop (i + 8)) with
        | none =>
          have N2 := hd hm2
          have G : Hd (U.escR (U.escJ ((s.data.toList.take e).drop (i + 1))) = ([], 0)) := hd <| by rw [hG, U.surJ_none r a b _ hm2]; rfl
          clear hr1 hr2 hz hG ec el e0 hc h117 hn ea ela eb elb e6 e7 h5 h6 hab hm2
          go_enter Try.func58, Try.ntmps58
          go_wp2_with (first
            | (go_at_call 63; refine (letter_any 117 _ rfl _ _ (by decide) (by decide)).mono ?_; rintro e w' ⟨rfl, rfl⟩; rw [show U.pairL (ByteArray.data _).toList 117 = U.pairL U.pairs2 117 from rfl, PL.o]; dsimp only [U.numR])
            | (go_at_call 64; refine (number16 s (i + 2) 4 e _ _ _ (by omega) rfl rfl _ (by omega) (by decide) (by decide) he (by omega)).mono ?_; rintro e w' ⟨rfl, rfl⟩; rw [N.o]; dsimp only [U.numR]; (try rw [← HZ.o]))
            | (go_at_call 64; refine (number16 s (i + 8) 4 e _ _ _ (by omega) rfl rfl _ (by omega) (by decide) (by decide) he (by omega)).mono ?_; rintro e w' ⟨rfl, rfl⟩; rw [N2.o]; dsimp only [U.numR]; (try rw [← HY.o])))
          go_ret2
          exact ⟨ret_escR (by rw [G.o]) (by rw [G.o]), Below.refl _ _⟩
        | some m =>
          have N2 := hd hm2
          have hm16 : m < 65536 := U.numL_lt 16 4 _ m (by omega) hm2
          obtain ⟨y, hy⟩ : ∃ y : Int, y = (m : Int) := ⟨_, rfl⟩
          have HY := hd hy
          by_cases hm1 : m < 56320
          · have G : Hd (U.escR (U.escJ ((s.data.toList.take e).drop (i + 1))) = ([], 0)) := hd <| by rw [hG, U.surJ_out r a b _ m hm2 (by omega)]; rfl
            have y1 : 0 ≤ y := by omega
            have y2 : y < 56320 := by omega
            clear hr1 hr2 hz hG ec el e0 hc h117 hn ea ela eb elb e6 e7 h5 h6 hab hm2 hm16 hm1 hy
            go_enter Try.func58, Try.ntmps58
            go_wp2_with (first
              | (go_at_call 63; refine (letter_any 117 _ rfl _ _ (by decide) (by decide)).mono ?_; rintro e w' ⟨rfl, rfl⟩; rw [show U.pairL (ByteArray.data _).toList 117 = U.pairL U.pairs2 117 from rfl, PL.o]; dsimp only [U.numR])
              | (go_at_call 64; refine (number16 s (i + 2) 4 e _ _ _ (by omega) rfl rfl _ (by omega) (by decide) (by decide) he (by omega)).mono ?_; rintro e w' ⟨rfl, rfl⟩; rw [N.o]; dsimp only [U.numR]; (try rw [← HZ.o]))
              | (go_at_call 64; refine (number16 s (i + 8) 4 e _ _ _ (by omega) rfl rfl _ (by omega) (by decide) (by decide) he (by omega)).mono ?_; rintro e w' ⟨rfl, rfl⟩; rw [N2.o]; dsimp only [U.numR]; (try rw [← HY.o])))
            go_ret2
            exact ⟨ret_escR (by rw [G.o]) (by rw [G.o]), Below.refl _ _⟩
          by_cases hm3 : 57343 < m
          · have G : Hd (U.escR (U.escJ ((s.data.toList.take e).drop (i + 1))) = ([], 0)) := hd <| by rw [hG, U.surJ_out r a b _ m hm2 (by omega)]; rfl
            have y1 : 57343 < y := by omega
            have y2 : y < 65536 := by omega
            clear hr1 hr2 hz hG ec el e0 hc h117 hn ea ela eb elb e6 e7 h5 h6 hab hm2 hm16 hm1 hm3 hy
            go_enter Try.func58, Try.ntmps58
            go_wp2_with (first
              | (go_at_call 63; refine (letter_any 117 _ rfl _ _ (by decide) (by decide)).mono ?_; rintro e w' ⟨rfl, rfl⟩; rw [show U.pairL (ByteArray.data _).toList 117 = U.pairL U.pairs2 117 from rfl, PL.o]; dsimp only [U.numR])
              | (go_at_call 64; refine (number16 s (i + 2) 4 e _ _ _ (by omega) rfl rfl _ (by omega) (by decide) (by decide) he (by omega)).mono ?_; rintro e w' ⟨rfl, rfl⟩; rw [N.o]; dsimp only [U.numR]; (try rw [← HZ.o]))
              | (go_at_call 64; refine (number16 s (i + 8) 4 e _ _ _ (by omega) rfl rfl _ (by omega) (by decide) (by decide) he (by omega)).mono ?_; rintro e w' ⟨rfl, rfl⟩; rw [N2.o]; dsimp only [U.numR]; (try rw [← HY.o])))
            go_ret2
            exact ⟨ret_escR (by rw [G.o]) (by rw [G.o]), Below.refl _ _⟩
          obtain ⟨x, hx⟩ : ∃ x : Int, x = (U.surV r m : Int) := ⟨_, rfl⟩
          have hbd := U.surV_bd r m ⟨hr1, hr2⟩ ⟨by omega, by omega⟩
          have HX : Hd (65536 + (z - 55296) * 1024 + (y - 56320) = x) := hd <| by rw [hx, hz, hy]; unfold U.surV; omega
          have hval : Utf8.valid x = true := by rw [hx]; exact U.surV_valid r m ⟨hr1, hr2⟩ ⟨by omega, by omega⟩
          have G : Hd (U.escR (U.escJ ((s.data.toList.take e).drop (i + 1))) = ((Utf8.encode x).toList, 12)) := hd <| by rw [hG, U.surJ_good r a b _ hab m hm2 ⟨by omega, by omega⟩, hx]; rfl
          have F : Hd (U.formB x = Utf8.encode x) := hd <| by unfold U.formB; rw [if_pos hval]
          have x1 : 65536 ≤ x := by omega
          have x2 : x ≤ 1114111 := by omega
          have y1 : 56320 ≤ y := by omega
          have y2 : y ≤ 57343 := by omega
          clear hr1 hr2 hz hG ec el e0 hc h117 hn ea ela eb elb e6 e7 h5 h6 hab hm2 hm16 hm1 hm3 hy hx hbd hval
          go_enter Try.func58, Try.ntmps58
          go_wp2_with (first
            | (go_at_call 63; refine (letter_any 117 _ rfl _ _ (by decide) (by decide)).mono ?_; rintro e w' ⟨rfl, rfl⟩; rw [show U.pairL (ByteArray.data _).toList 117 = U.pairL U.pairs2 117 from rfl, PL.o]; dsimp only [U.numR])
            | (go_at_call 64; refine (number16 s (i + 2) 4 e _ _ _ (by omega) rfl rfl _ (by omega) (by decide) (by decide) he (by omega)).mono ?_; rintro e w' ⟨rfl, rfl⟩; rw [N.o]; dsimp only [U.numR]; (try rw [← HZ.o]))
            | (go_at_call 64; refine (number16 s (i + 8) 4 e _ _ _ (by omega) rfl rfl _ (by omega) (by decide) (by decide) he (by omega)).mono ?_; rintro e w' ⟨rfl, rfl⟩; rw [N2.o]; dsimp only [U.numR]; (try rw [← HY.o]))
            | (go_at_call 47; rw [HX.o]; refine (Form_any _ _ (by omega) (by omega)).mono ?_; rintro e w1 ⟨rfl, hb1⟩; rw [F.o]))
          go_ret2
          exact ⟨ret_escR (by rw [G.o]; exact (ByteArray.toList_eq _).symm) (by rw [G.o]), hb1⟩
      · have b6 : ((U.at' s (i + 7) : Int) == 117) = false := by rw [beq_eq_false_iff_ne]; omega
        have G : Hd (U.escR (U.escJ ((s.data.toList.take e).drop (i + 1))) = ([], 0)) := hd <| by rw [hG, U.surJ_no r a b _ (by rw [eb]; omega)]; rfl
        clear hr1 hr2 hz hG ec el e0 hc h117 hn ea ela eb elb e6 e7 h5 h6
        go_enter Try.func58, Try.ntmps58
        go_wp2_with (first
          | (go_at_call 63; refine (letter_any 117 _ rfl _ _ (by decide) (by decide)).mono ?_; rintro e w' ⟨rfl, rfl⟩; rw [show U.pairL (ByteArray.data _).toList 117 = U.pairL U.pairs2 117 from rfl, PL.o]; dsimp only [U.numR])
          | (go_at_call 64; refine (number16 s (i + 2) 4 e _ _ _ (by omega) rfl rfl _ (by omega) (by decide) (by decide) he (by omega)).mono ?_; rintro e w' ⟨rfl, rfl⟩; rw [N.o]; dsimp only [U.numR]; (try rw [← HZ.o])))
        go_ret2
        exact ⟨ret_escR (by rw [G.o]) (by rw [G.o]), Below.refl _ _⟩
    · have b5 : ((U.at' s (i + 6) : Int) == 92) = false := by rw [beq_eq_false_iff_ne]; omega
      have G : Hd (U.escR (U.escJ ((s.data.toList.take e).drop (i + 1))) = ([], 0)) := hd <| by rw [hG, U.surJ_no r a b _ (by rw [ea]; omega)]; rfl
      clear hr1 hr2 hz hG ec el e0 hc h117 hn ea ela eb elb e6 e7 h5
      go_enter Try.func58, Try.ntmps58
      go_wp2_with (first
        | (go_at_call 63; refine (letter_any 117 _ rfl _ _ (by decide) (by decide)).mono ?_; rintro e w' ⟨rfl, rfl⟩; rw [show U.pairL (ByteArray.data _).toList 117 = U.pairL U.pairs2 117 from rfl, PL.o]; dsimp only [U.numR])
        | (go_at_call 64; refine (number16 s (i + 2) 4 e _ _ _ (by omega) rfl rfl _ (by omega) (by decide) (by decide) he (by omega)).mono ?_; rintro e w' ⟨rfl, rfl⟩; rw [N.o]; dsimp only [U.numR]; (try rw [← HZ.o])))
      go_ret2
      exact ⟨ret_escR (by rw [G.o]) (by rw [G.o]), Below.refl _ _⟩
  · have hd7 : decide ((i : Int) + 7 < (e : Int)) = false := by rw [decide_eq_false_iff_not]; omega
    have G : Hd (U.escR (U.escJ ((s.data.toList.take e).drop (i + 1))) = ([], 0)) := hd <| by rw [hG, U.surJ_short r _ (by rw [List.length_drop, List.length_take, ← Lib.size_eq]; omega)]; rfl
    clear hr1 hr2 hz hG ec el e0 hc h117 hn
    go_enter Try.func58, Try.ntmps58
    go_wp2_with (first
      | (go_at_call 63; refine (letter_any 117 _ rfl _ _ (by decide) (by decide)).mono ?_; rintro e w' ⟨rfl, rfl⟩; rw [show U.pairL (ByteArray.data _).toList 117 = U.pairL U.pairs2 117 from rfl, PL.o]; dsimp only [U.numR])
      | (go_at_call 64; refine (number16 s (i + 2) 4 e _ _ _ (by omega) rfl rfl _ (by omega) (by decide) (by decide) he (by omega)).mono ?_; rintro e w' ⟨rfl, rfl⟩; rw [N.o]; dsimp only [U.numR]; (try rw [← HZ.o])))
    go_ret2
    exact ⟨ret_escR (by rw [G.o]) (by rw [G.o]), Below.refl _ _⟩

theorem rjesc_any (s : ByteArray) (i e : Nat) (zi ze : Int) (hzi : zi = i) (hze : ze = e) (w : World) (hs : s.size ≤ 140737488351232) (he : e ≤ s.size) (hi : i ≤ 1125899906842624) :
    Calls Try.prog 58 #[.string s, .int .i64 zi, .int .i64 ze] w fun en w' => en = strR (U.escR (U.escJ ((s.data.toList.take e).drop (i + 1)))) ∧ Below w.heap.size w w' := by
  by_cases h0 : i + 1 < e
  · cases hs1 : U.simpJ (U.at' s (i + 1)) with
    | some b => exact rjesc_simp b s i e zi ze hzi hze w hs he hi h0 hs1
    | none =>
      by_cases h117 : U.at' s (i + 1) = 117
      · cases hn2 : U.numL 16 4 ((s.data.toList.take e).drop (i + 2)) with
        | none => exact rjesc_u s i e zi ze hzi hze w hs he hi h0 h117 (fun r h => by rw [hn2] at h; cases h)
        | some r =>
          by_cases hr : 55296 ≤ r ∧ r ≤ 56319
          · exact rjesc_sur s i e zi ze hzi hze w hs he hi h0 h117 r hr.1 hr.2 hn2
          · exact rjesc_u s i e zi ze hzi hze w hs he hi h0 h117 (fun r' h => by rw [hn2] at h; cases h; exact hr)
      · exact rjesc_else s i e zi ze hzi hze w hs he hi h0 hs1 h117
  · exact rjesc_nil s i e zi ze hzi hze w hs he hi h0
end Go.Proofs.Ythlpgnidjjclcaa
