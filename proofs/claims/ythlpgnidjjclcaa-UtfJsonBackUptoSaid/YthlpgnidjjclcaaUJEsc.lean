/- The walk of utf.jsonEscape. -/
import Derived.Test.YthlpgnidjjclcaaUJMath
namespace Go.Proofs.Ythlpgnidjjclcaa
open Go.RowKit
set_option linter.unusedVariables false
set_option linter.unusedSimpArgs false

theorem jesc_simp (k : Nat) (hk : k = 34 ∨ k = 92 ∨ k = 47 ∨ k = 98 ∨ k = 116 ∨ k = 110 ∨ k = 102 ∨ k = 114) (s : ByteArray) (hs : s.size ≤ 1125899906842624) (B : Nat) (v : Value) (n : Nat) (xs : List Value) (w : World) (hown : w.ownsRow B 5 1 v n xs) (hB : B ≤ w.heap.size) (hn : n ≤ 140737488351232) (h0 : 0 < s.size) (hc : U.at' s 0 = k) :
    Calls Try.prog 55 #[v, .string s] w (EscPost B 5 w v n xs (U.escJ s.data.toList)) := by
  obtain ⟨c, ec, el⟩ := list_head s h0
  have G : Hd (U.escJ s.data.toList = some (U.byteOf ((U.simpJ k).getD 0), 1)) := hd <| by
    rw [el, U.escJ_simp c _ ((U.simpJ k).getD 0)]
    rw [ec, hc]; rcases hk with rfl | rfl | rfl | rfl | rfl | rfl | rfl | rfl <;> rfl
  have e0 := U.at_eq s 0 h0
  have hq' : ((s[0]'h0).toNat : Int) = k := by rw [← e0, hc]
  clear e0 ec el hc
  rcases hk with rfl | rfl | rfl | rfl | rfl | rfl | rfl | rfl
  all_goals
    go_enter Try.func55, Try.ntmps55
    go_wp2_with (first
      | (go_at_call 61; refine (plain_any _ _ rfl _ (by decide)).mono ?_; rintro e w' ⟨rfl, rfl⟩)
      | (at_builtin; refine wpList_app_lit 62 5 (.int .u8 0) 1 1 Try.underlying62 info_u8 rfl (by decide) rfl _ _ rfl B v n xs w #[_] 1 rfl rfl hown rfl ?_ ?_ ?_ hB ?_))
    any_goals (first | omega | (simp [Value.oneCell']; done))
    intro v' w' ho hg
    go_wp2
    go_ret2
    unfold EscPost
    rw [G.o]
    exact ⟨v', rfl, ho, hg⟩

theorem jesc_else (s : ByteArray) (hs : s.size ≤ 1125899906842624) (B : Nat) (v : Value) (n : Nat) (xs : List Value) (w : World) (hown : w.ownsRow B 5 1 v n xs) (hB : B ≤ w.heap.size) (hn : n ≤ 140737488351232) (h0 : 0 < s.size) (hc : U.simpJ (U.at' s 0) = none) (hc2 : U.at' s 0 ≠ 117) :
    Calls Try.prog 55 #[v, .string s] w (EscPost B 5 w v n xs (U.escJ s.data.toList)) := by
  obtain ⟨c, ec, el⟩ := list_head s h0
  have e0 := U.at_eq s 0 h0
  have heq : ((s[0]'h0).toNat : Int) = (U.at' s 0 : Int) := by rw [e0]
  have G : Hd (U.escJ s.data.toList = none) := hd <| by
    rw [el, U.escJ_else c _ (by rw [ec]; exact hc) (by rw [ec]; exact hc2)]
  have hnn : U.at' s 0 ≠ 34 ∧ U.at' s 0 ≠ 92 ∧ U.at' s 0 ≠ 47 ∧ U.at' s 0 ≠ 98 ∧ U.at' s 0 ≠ 116 ∧ U.at' s 0 ≠ 110 ∧ U.at' s 0 ≠ 102 ∧ U.at' s 0 ≠ 114 := by
    refine ⟨?_, ?_, ?_, ?_, ?_, ?_, ?_, ?_⟩ <;> (intro h; rw [h] at hc; cases hc)
  have b1 : ((U.at' s 0 : Int) == 34) = false := by rw [beq_eq_false_iff_ne]; omega
  have b2 : ((U.at' s 0 : Int) == 92) = false := by rw [beq_eq_false_iff_ne]; omega
  have b3 : ((U.at' s 0 : Int) == 47) = false := by rw [beq_eq_false_iff_ne]; omega
  have b4 : ((U.at' s 0 : Int) == 98) = false := by rw [beq_eq_false_iff_ne]; omega
  have b5 : ((U.at' s 0 : Int) == 116) = false := by rw [beq_eq_false_iff_ne]; omega
  have b6 : ((U.at' s 0 : Int) == 110) = false := by rw [beq_eq_false_iff_ne]; omega
  have b7 : ((U.at' s 0 : Int) == 102) = false := by rw [beq_eq_false_iff_ne]; omega
  have b8 : ((U.at' s 0 : Int) == 114) = false := by rw [beq_eq_false_iff_ne]; omega
  have b9 : ((U.at' s 0 : Int) == 117) = false := by rw [beq_eq_false_iff_ne]; omega
  clear e0 ec el hc hc2 hnn
  go_enter Try.func55, Try.ntmps55
  go_wp2
  go_ret2
  unfold EscPost
  rw [G.o]
  exact ⟨rfl, Below.refl _ _⟩

theorem jesc_u (s : ByteArray) (hs : s.size ≤ 1125899906842624) (B : Nat) (v : Value) (n : Nat) (xs : List Value) (w : World) (hown : w.ownsRow B 5 1 v n xs) (hB : B ≤ w.heap.size) (hn : n ≤ 140737488351232) (h0 : 0 < s.size) (hc : U.at' s 0 = 117) (hv : ∀ r, U.numL 16 4 (s.extract 1 s.size).data.toList = some r → ¬ (55296 ≤ r ∧ r ≤ 56319)) :
    Calls Try.prog 55 #[v, .string s] w (EscPost B 5 w v n xs (U.escJ s.data.toList)) := by
  obtain ⟨c, ec, el⟩ := list_head s h0
  have e0 := U.at_eq s 0 h0
  have h117 : c.toNat = 117 := by rw [ec, hc]
  have hsz : (s.extract 1 s.size).size ≤ 1125899906842624 := by rw [ByteArray.size_extract]; omega
  have hq' : ((s[0]'h0).toNat : Int) = 117 := by rw [← e0, hc]; rfl
  obtain ⟨t1, ht1⟩ : ∃ t1, s.extract 1 s.size = t1 := ⟨_, rfl⟩
  have hsz : t1.size ≤ 1125899906842624 := by rw [← ht1]; exact hsz
  have hnq := U.numQ_eq 16 4 (s.extract 1 s.size).data.toList (by omega) (by decide)
  cases hn2 : U.numL 16 4 (s.extract 1 s.size).data.toList with
  | none =>
    have N : Hd (U.numQ 16 4 t1.data.toList = none) := hd (by rw [← ht1]; exact hnq.trans hn2)
    have G : Hd (U.escJ s.data.toList = none) := hd <| by rw [el, U.escJ_none c _ h117 hn2]
    clear hn2 hnq e0 ec el hc h117 hv
    go_enter Try.func55, Try.ntmps55
    go_wp2_with (go_at_call 62; refine (digits16 t1 4 _ rfl _ hsz (by decide)).mono ?_; (rintro e w1 ⟨rfl, hb1⟩; rw [N.o]; dsimp only [digR]; (try rw [← HZ.o]); have ho1 := own_below hown hb1; have hB1 := Nat.le_trans hB hb1.size; have HB1 := hd hb1))
    go_ret2
    unfold EscPost
    rw [G.o]
    exact ⟨rfl, by assumption⟩
  | some r =>
    have N : Hd (U.numQ 16 4 t1.data.toList = some r) := hd (by rw [← ht1]; exact hnq.trans hn2)
    have hr : r < 65536 := U.numL_lt 16 4 _ r (by omega) hn2
    have hnv := hv r hn2
    have hG : U.escJ s.data.toList = U.runeOf (some r) 5 := by rw [el, U.escJ_rune c _ h117 r hn2 hnv]
    cases hvv : Utf8.valid (r : Int) with
    | false =>
      have hr2 : 56320 ≤ r := by
        rcases Nat.lt_or_ge r 56320 with h | h
        · have := (U.valid_iff (r : Int)).2 (.inl (by omega)); rw [hvv] at this; cases this
        · exact h
      have G : Hd (U.escJ s.data.toList = none) := hd <| by rw [hG, U.runeOf_bad r _ hvv]
      obtain ⟨z, hz⟩ : ∃ z : Int, z = (r : Int) := ⟨_, rfl⟩
      have HZ := hd hz
      have V : Hd (Utf8.valid z = false) := hd (by rw [hz]; exact hvv)
      have z1 : 56320 ≤ z := by omega
      have z2 : z ≤ 65535 := by omega
      clear hG hn2 hnq e0 ec el hc h117 hv hvv hnv hr hz hr2
      go_enter Try.func55, Try.ntmps55
      go_wp2_with (first
        | (go_at_call 62; refine (digits16 t1 4 _ rfl _ hsz (by decide)).mono ?_; (rintro e w1 ⟨rfl, hb1⟩; rw [N.o]; dsimp only [digR]; (try rw [← HZ.o]); have ho1 := own_below hown hb1; have hB1 := Nat.le_trans hB hb1.size; have HB1 := hd hb1))
        | (go_at_call 48; refine (isRune_any _ _ (by omega) (by omega)).mono ?_; rintro e w' ⟨rfl, rfl⟩; rw [V.o]))
      go_ret2
      unfold EscPost
      rw [G.o]
      exact ⟨rfl, by assumption⟩
    | true =>
      obtain ⟨z, hz⟩ : ∃ z : Int, z = (r : Int) := ⟨_, rfl⟩
      have G : Hd (U.escJ s.data.toList = some ((Utf8.encode z).toList, 5)) := hd <| by rw [hG, U.runeOf_good r _ hvv, hz]
      have HZ := hd hz
      have V : Hd (Utf8.valid z = true) := hd (by rw [hz]; exact hvv)
      have z1 : 0 ≤ z := by omega
      have z2 : z ≤ 65535 := by omega
      clear hG hn2 hnq e0 ec el hc h117 hv hvv hnv hr hz
      go_enter Try.func55, Try.ntmps55
      go_wp2_with (first
        | (go_at_call 62; refine (digits16 t1 4 _ rfl _ hsz (by decide)).mono ?_; (rintro e w1 ⟨rfl, hb1⟩; rw [N.o]; dsimp only [digR]; (try rw [← HZ.o]); have ho1 := own_below hown hb1; have hB1 := Nat.le_trans hB hb1.size; have HB1 := hd hb1))
        | (go_at_call 48; refine (isRune_any _ _ (by omega) (by omega)).mono ?_; rintro e w' ⟨rfl, rfl⟩; rw [V.o])
        | (go_at_call 49; refine (form_any _ V.o B v n xs w1 ho1 hB1 hn).mono ?_; rintro e w3 ⟨v', rfl, ho, hg⟩; have hg2 := grown_trans (grown_of_below HB1.o v.ownBlock) hg; clear hg))
      go_ret2
      unfold EscPost
      rw [G.o]
      exact ⟨_, rfl, by assumption, by assumption⟩

set_option maxHeartbeats 9600000 in
theorem jesc_sur (s : ByteArray) (hs : s.size ≤ 1125899906842624) (B : Nat) (v : Value) (n : Nat) (xs : List Value) (w : World) (hown : w.ownsRow B 5 1 v n xs) (hB : B ≤ w.heap.size) (hn : n ≤ 140737488351232) (h0 : 0 < s.size) (hc : U.at' s 0 = 117) (r : Nat) (hr1 : 55296 ≤ r) (hr2 : r ≤ 56319) (hn2 : U.numL 16 4 (s.extract 1 s.size).data.toList = some r) :
    Calls Try.prog 55 #[v, .string s] w (EscPost B 5 w v n xs (U.escJ s.data.toList)) := by
  obtain ⟨c, ec, el⟩ := list_head s h0
  have e0 := U.at_eq s 0 h0
  have h117 : c.toNat = 117 := by rw [ec, hc]
  have hsz : (s.extract 1 s.size).size ≤ 1125899906842624 := by rw [ByteArray.size_extract]; omega
  have hq' : ((s[0]'h0).toNat : Int) = 117 := by rw [← e0, hc]; rfl
  obtain ⟨t1, ht1⟩ : ∃ t1, s.extract 1 s.size = t1 := ⟨_, rfl⟩
  have hsz : t1.size ≤ 1125899906842624 := by rw [← ht1]; exact hsz
  have hnq := U.numQ_eq 16 4 (s.extract 1 s.size).data.toList (by omega) (by decide)
  have N : Hd (U.numQ 16 4 t1.data.toList = some r) := hd (by rw [← ht1]; exact hnq.trans hn2)
  obtain ⟨z, hz⟩ : ∃ z : Int, z = (r : Int) := ⟨_, rfl⟩
  have HZ := hd hz
  have z1 : 55296 ≤ z := by omega
  have z2 : z ≤ 56319 := by omega
  have V : Hd (Utf8.valid z = false) := hd <| by
    cases hvv : Utf8.valid z with
    | false => rfl
    | true => have := (U.valid_iff _).1 hvv; omega
  have hd5 : (s.extract 1 s.size).data.toList.drop 4 = s.data.toList.drop 5 := by
    have := U.ext_drop s 1
    rw [this, List.drop_drop]
  have hG : U.escJ s.data.toList = U.surJ r (s.data.toList.drop 5) := by rw [el, U.escJ_sur c _ h117 r hn2 ⟨hr1, hr2⟩, hd5]; rw [← el]
  by_cases h7 : s.size < 7
  · have G : Hd (U.escJ s.data.toList = none) := hd <| by rw [hG, U.surJ_short r _ (by rw [List.length_drop, ← Lib.size_eq]; omega)]
    clear hr1 hr2 hz hG hn2 hnq e0 ec el hc h117 hd5
    go_enter Try.func55, Try.ntmps55
    go_wp2_with (first
      | (go_at_call 62; refine (digits16 t1 4 _ rfl _ hsz (by decide)).mono ?_; (rintro e w1 ⟨rfl, hb1⟩; rw [N.o]; dsimp only [digR]; (try rw [← HZ.o]); have ho1 := own_below hown hb1; have hB1 := Nat.le_trans hB hb1.size; have HB1 := hd hb1))
      | (go_at_call 48; refine (isRune_any _ _ (by omega) (by omega)).mono ?_; rintro e w' ⟨rfl, rfl⟩; rw [V.o]))
    go_ret2
    unfold EscPost
    rw [G.o]
    exact ⟨rfl, by assumption⟩
  obtain ⟨a, ea, ela⟩ := drop_cons' s 5 (by omega)
  obtain ⟨b, eb, elb⟩ := drop_cons' s 6 (by omega)
  rw [ela, elb] at hG
  have e5 := U.at_eq s 5 (by omega)
  have e6 := U.at_eq s 6 (by omega)
  have i5 : ((s[5]'(by omega)).toNat : Int) = (U.at' s 5 : Int) := by rw [e5]
  have i6 : ((s[6]'(by omega)).toNat : Int) = (U.at' s 6 : Int) := by rw [e6]
  by_cases h5 : U.at' s 5 = 92
  · have b5 : ((U.at' s 5 : Int) != 92) = false := by rw [h5]; rfl
    by_cases h6 : U.at' s 6 = 117
    · have b6 : ((U.at' s 6 : Int) != 117) = false := by rw [h6]; rfl
      have hab : a.toNat = 92 ∧ b.toNat = 117 := ⟨by rw [ea, h5], by rw [eb, h6]⟩
      have hsz7 : (s.extract 7 s.size).size ≤ 1125899906842624 := by rw [ByteArray.size_extract]; omega
      have h7e : (s.extract 7 s.size).data.toList = s.data.toList.drop 7 := U.ext_drop s 7
      rw [← h7e] at hG
      obtain ⟨t7, ht7⟩ : ∃ t7, s.extract 7 s.size = t7 := ⟨_, rfl⟩
      have hsz7 : t7.size ≤ 1125899906842624 := by rw [← ht7]; exact hsz7
      have hnq2 := U.numQ_eq 16 4 (s.extract 7 s.size).data.toList (by omega) (by decide)
      cases hm : U.numL 16 4 (s.extract 7 s.size).data.toList with
      | none =>
        have N2 : Hd (U.numQ 16 4 t7.data.toList = none) := hd (by rw [← ht7]; exact hnq2.trans hm)
        have G : Hd (U.escJ s.data.toList = none) := hd <| by rw [hG, U.surJ_none r a b _ hm]
        clear hr1 hr2 hz hG hn2 hnq e0 ec el hc h117 hd5 ela elb ea eb e5 e6 h5 h6 hab h7e hnq2 hm
        go_enter Try.func55, Try.ntmps55
        go_wp2_with (first
          | (go_at_call 62; refine (digits16 _ 4 _ rfl _ ?_ (by decide)).mono ?_; (first | exact hsz | exact hsz7); first | (rintro e w1 ⟨rfl, hb1⟩; rw [N.o]; dsimp only [digR]; (try rw [← HZ.o]); have ho1 := own_below hown hb1; have hB1 := Nat.le_trans hB hb1.size; have HB1 := hd hb1) | (rintro e w2 ⟨rfl, hb2⟩; rw [N2.o]; dsimp only [digR]; (try rw [← HY.o]); have hb12 := bel HB1.o hb2; have ho2 := own_below hown hb12; have hB2 := Nat.le_trans hB hb12.size; have HB12 := hd hb12))
          | (go_at_call 48; refine (isRune_any _ _ (by omega) (by omega)).mono ?_; rintro e w' ⟨rfl, rfl⟩; rw [V.o]))
        go_ret2
        unfold EscPost
        rw [G.o]
        exact ⟨rfl, by assumption⟩
      | some m =>
        have N2 : Hd (U.numQ 16 4 t7.data.toList = some m) := hd (by rw [← ht7]; exact hnq2.trans hm)
        have hm16 : m < 65536 := U.numL_lt 16 4 _ m (by omega) hm
        obtain ⟨y, hy⟩ : ∃ y : Int, y = (m : Int) := ⟨_, rfl⟩
        have HY := hd hy
        by_cases hm1 : m < 56320
        · have G : Hd (U.escJ s.data.toList = none) := hd <| by rw [hG, U.surJ_out r a b _ m hm (by omega)]
          have y1 : 0 ≤ y := by omega
          have y2 : y < 56320 := by omega
          clear hr1 hr2 hz hG hn2 hnq e0 ec el hc h117 hd5 ela elb ea eb e5 e6 h5 h6 hab h7e hnq2 hm hm16 hm1 hy
          go_enter Try.func55, Try.ntmps55
          go_wp2_with (first
            | (go_at_call 62; refine (digits16 _ 4 _ rfl _ ?_ (by decide)).mono ?_; (first | exact hsz | exact hsz7); first | (rintro e w1 ⟨rfl, hb1⟩; rw [N.o]; dsimp only [digR]; (try rw [← HZ.o]); have ho1 := own_below hown hb1; have hB1 := Nat.le_trans hB hb1.size; have HB1 := hd hb1) | (rintro e w2 ⟨rfl, hb2⟩; rw [N2.o]; dsimp only [digR]; (try rw [← HY.o]); have hb12 := bel HB1.o hb2; have ho2 := own_below hown hb12; have hB2 := Nat.le_trans hB hb12.size; have HB12 := hd hb12))
            | (go_at_call 48; refine (isRune_any _ _ (by omega) (by omega)).mono ?_; rintro e w' ⟨rfl, rfl⟩; rw [V.o]))
          go_ret2
          unfold EscPost
          rw [G.o]
          exact ⟨rfl, by assumption⟩
        by_cases hm2 : 57343 < m
        · have G : Hd (U.escJ s.data.toList = none) := hd <| by rw [hG, U.surJ_out r a b _ m hm (by omega)]
          have y1 : 57343 < y := by omega
          have y2 : y < 65536 := by omega
          clear hr1 hr2 hz hG hn2 hnq e0 ec el hc h117 hd5 ela elb ea eb e5 e6 h5 h6 hab h7e hnq2 hm hm16 hm1 hy hm2
          go_enter Try.func55, Try.ntmps55
          go_wp2_with (first
            | (go_at_call 62; refine (digits16 _ 4 _ rfl _ ?_ (by decide)).mono ?_; (first | exact hsz | exact hsz7); first | (rintro e w1 ⟨rfl, hb1⟩; rw [N.o]; dsimp only [digR]; (try rw [← HZ.o]); have ho1 := own_below hown hb1; have hB1 := Nat.le_trans hB hb1.size; have HB1 := hd hb1) | (rintro e w2 ⟨rfl, hb2⟩; rw [N2.o]; dsimp only [digR]; (try rw [← HY.o]); have hb12 := bel HB1.o hb2; have ho2 := own_below hown hb12; have hB2 := Nat.le_trans hB hb12.size; have HB12 := hd hb12))
            | (go_at_call 48; refine (isRune_any _ _ (by omega) (by omega)).mono ?_; rintro e w' ⟨rfl, rfl⟩; rw [V.o]))
          go_ret2
          unfold EscPost
          rw [G.o]
          exact ⟨rfl, by assumption⟩
        obtain ⟨x, hx⟩ : ∃ x : Int, x = (U.surV r m : Int) := ⟨_, rfl⟩
        have HX : Hd (65536 + (z - 55296) * 1024 + (y - 56320) = x) := hd <| by rw [hx, hz, hy]; unfold U.surV; omega
        have G : Hd (U.escJ s.data.toList = some ((Utf8.encode x).toList, 11)) := hd <| by rw [hG, U.surJ_good r a b _ hab m hm ⟨by omega, by omega⟩, hx]
        have hval : Hd (Utf8.valid x = true) := hd (by rw [hx]; exact U.surV_valid r m ⟨hr1, hr2⟩ ⟨by omega, by omega⟩)
        have y1 : 56320 ≤ y := by omega
        have y2 : y ≤ 57343 := by omega
        clear hr1 hr2 hz hG hn2 hnq e0 ec el hc h117 hd5 ela elb ea eb e5 e6 h5 h6 hab h7e hnq2 hm hm16 hm1 hm2 hy hx
        go_enter Try.func55, Try.ntmps55
        go_wp2_with (first
          | (go_at_call 62; refine (digits16 _ 4 _ rfl _ ?_ (by decide)).mono ?_; (first | exact hsz | exact hsz7); first | (rintro e w1 ⟨rfl, hb1⟩; rw [N.o]; dsimp only [digR]; (try rw [← HZ.o]); have ho1 := own_below hown hb1; have hB1 := Nat.le_trans hB hb1.size; have HB1 := hd hb1) | (rintro e w2 ⟨rfl, hb2⟩; rw [N2.o]; dsimp only [digR]; (try rw [← HY.o]); have hb12 := bel HB1.o hb2; have ho2 := own_below hown hb12; have hB2 := Nat.le_trans hB hb12.size; have HB12 := hd hb12))
          | (go_at_call 48; refine (isRune_any _ _ (by omega) (by omega)).mono ?_; rintro e w' ⟨rfl, rfl⟩; rw [V.o])
          | (go_at_call 49; rw [HX.o]; refine (form_any _ hval.o B v n xs w2 ho2 hB2 hn).mono ?_; rintro e w3 ⟨v', rfl, ho, hg⟩; have hg2 := grown_trans (grown_of_below HB12.o v.ownBlock) hg; clear hg))
        go_ret2
        unfold EscPost
        rw [G.o]
        exact ⟨_, rfl, by assumption, by assumption⟩
    · have b6 : ((U.at' s 6 : Int) != 117) = true := by rw [bne_iff_ne]; omega
      have G : Hd (U.escJ s.data.toList = none) := hd <| by rw [hG, U.surJ_no r a b _ (by rw [eb]; omega)]
      clear hr1 hr2 hz hG hn2 hnq e0 ec el hc h117 hd5 ela elb ea eb e5 e6 h5 h6
      go_enter Try.func55, Try.ntmps55
      go_wp2_with (first
        | (go_at_call 62; refine (digits16 t1 4 _ rfl _ hsz (by decide)).mono ?_; (rintro e w1 ⟨rfl, hb1⟩; rw [N.o]; dsimp only [digR]; (try rw [← HZ.o]); have ho1 := own_below hown hb1; have hB1 := Nat.le_trans hB hb1.size; have HB1 := hd hb1))
        | (go_at_call 48; refine (isRune_any _ _ (by omega) (by omega)).mono ?_; rintro e w' ⟨rfl, rfl⟩; rw [V.o]))
      go_ret2
      unfold EscPost
      rw [G.o]
      exact ⟨rfl, by assumption⟩
  · have b5 : ((U.at' s 5 : Int) != 92) = true := by rw [bne_iff_ne]; omega
    have G : Hd (U.escJ s.data.toList = none) := hd <| by rw [hG, U.surJ_no r a b _ (by rw [ea]; omega)]
    clear hr1 hr2 hz hG hn2 hnq e0 ec el hc h117 hd5 ela elb ea eb e5 e6 h5
    go_enter Try.func55, Try.ntmps55
    go_wp2_with (first
      | (go_at_call 62; refine (digits16 t1 4 _ rfl _ hsz (by decide)).mono ?_; (rintro e w1 ⟨rfl, hb1⟩; rw [N.o]; dsimp only [digR]; (try rw [← HZ.o]); have ho1 := own_below hown hb1; have hB1 := Nat.le_trans hB hb1.size; have HB1 := hd hb1))
      | (go_at_call 48; refine (isRune_any _ _ (by omega) (by omega)).mono ?_; rintro e w' ⟨rfl, rfl⟩; rw [V.o]))
    go_ret2
    unfold EscPost
    rw [G.o]
    exact ⟨rfl, by assumption⟩

theorem jesc_any (s : ByteArray) (hs : s.size ≤ 1125899906842624) (B : Nat) (v : Value) (n : Nat) (xs : List Value) (w : World) (hown : w.ownsRow B 5 1 v n xs) (hB : B ≤ w.heap.size) (hn : n ≤ 140737488351232) (h0 : 0 < s.size) :
    Calls Try.prog 55 #[v, .string s] w (EscPost B 5 w v n xs (U.escJ s.data.toList)) := by
  cases hs1 : U.simpJ (U.at' s 0) with
  | some b =>
    have hk : U.at' s 0 = 34 ∨ U.at' s 0 = 92 ∨ U.at' s 0 = 47 ∨ U.at' s 0 = 98 ∨ U.at' s 0 = 116 ∨ U.at' s 0 = 110 ∨ U.at' s 0 = 102 ∨ U.at' s 0 = 114 := by
      unfold U.simpJ at hs1
      (repeat' split at hs1) <;> first | omega | cases hs1
    exact jesc_simp _ hk s hs B v n xs w hown hB hn h0 rfl
  | none =>
    by_cases h117 : U.at' s 0 = 117
    · cases hn2 : U.numL 16 4 (s.extract 1 s.size).data.toList with
      | none => exact jesc_u s hs B v n xs w hown hB hn h0 h117 (fun r h => by rw [hn2] at h; cases h)
      | some r =>
        by_cases hr : 55296 ≤ r ∧ r ≤ 56319
        · exact jesc_sur s hs B v n xs w hown hB hn h0 h117 r hr.1 hr.2 hn2
        · exact jesc_u s hs B v n xs w hown hB hn h0 h117 (fun r' h => by rw [hn2] at h; cases h; exact hr)
    · exact jesc_else s hs B v n xs w hown hB hn h0 hs1 h117
end Go.Proofs.Ythlpgnidjjclcaa
