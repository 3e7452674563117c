/- The walks of utf.plain and utf.escape: what stands behind a backslash, put behind a row of the caller's. -/
import Derived.Test.YthlpgnidjjclcaaUForm
import Derived.Test.YthlpgnidjjclcaaUDigits
namespace Go.Proofs.Ythlpgnidjjclcaa
open Go.RowKit
set_option linter.unusedVariables false
set_option linter.unusedSimpArgs false
namespace U
theorem numQ_none (base k : Nat) (l : List UInt8) (hb : 2 ≤ base) (h : numQ base k l = none) : numL base k l = none ∨ ∃ r, numL base k l = some r ∧ 1114111 < r := by
  unfold numQ at h
  unfold numL
  by_cases hl : l.length < k
  · rw [if_pos hl]; exact .inl rfl
  · rw [if_neg hl] at h ⊢
    exact numP_none base hb _ _ h
theorem numQ_some (base k : Nat) (l : List UInt8) (r : Nat) (h : numQ base k l = some r) : numL base k l = some r := by
  unfold numQ at h
  unfold numL
  by_cases hl : l.length < k
  · rw [if_pos hl] at h; cases h
  · rw [if_neg hl] at h ⊢
    exact numP_some base _ _ _ h
theorem numL_lt (base k : Nat) (l : List UInt8) (r : Nat) (hb : 1 ≤ base) (h : numL base k l = some r) : r < base ^ k := by
  unfold numL at h
  by_cases hl : l.length < k
  · rw [if_pos hl] at h; cases h
  · rw [if_neg hl] at h
    have := numF_lt base hb _ _ _ h
    rw [List.length_take, Nat.min_eq_left (by omega)] at this
    omega
theorem numQ_eq (base k : Nat) (l : List UInt8) (hb : 2 ≤ base) (hk : base ^ k ≤ 1114111) : numQ base k l = numL base k l := by
  cases h : numQ base k l with
  | some r => exact (numQ_some base k l r h).symm
  | none =>
    rcases numQ_none base k l hb h with h1 | ⟨r, h1, h2⟩
    · exact h1.symm
    · have := numL_lt base k l r (by omega) h1; omega
theorem valid_big (r : Nat) (h : 1114111 < r) : Utf8.valid (r : Int) = false := by
  cases hv : Utf8.valid (r : Int) with
  | false => rfl
  | true => have := (valid_iff _).1 hv; omega
/-- a number's rune and what is made of it -/
def runeOf (o : Option Nat) (k : Nat) : Option (List UInt8 × Nat) := o.bind fun v => if Utf8.valid (v : Int) then some ((Utf8.encode (v : Int)).toList, k) else none
theorem runeOf_none (k : Nat) : runeOf none k = none := rfl
theorem runeOf_bad (v k : Nat) (h : Utf8.valid (v : Int) = false) : runeOf (some v) k = none := by unfold runeOf; rw [Option.bind_some, h]; rfl
theorem runeOf_good (v k : Nat) (h : Utf8.valid (v : Int) = true) : runeOf (some v) k = some ((Utf8.encode (v : Int)).toList, k) := by unfold runeOf; rw [Option.bind_some, h]; rfl
theorem rune8 (m : Nat) (l : List UInt8) (k : Nat) : runeOf (numL 16 m l) k = runeOf (numQ 16 m l) k := by
  cases h : numQ 16 m l with
  | some r => rw [numQ_some 16 m l r h]
  | none =>
    rcases numQ_none 16 m l (by omega) h with h1 | ⟨r, h1, h2⟩
    · rw [h1]
    · rw [h1, runeOf_bad r k (valid_big r h2), runeOf_none]
theorem numQ_lt (base k : Nat) (l : List UInt8) (r : Nat) (hb : 1 ≤ base) (h : numQ base k l = some r) : r < base ^ k := numL_lt base k l r hb (numQ_some base k l r h)
end U

theorem list_head (s : ByteArray) (h : 0 < s.size) : ∃ c : UInt8, c.toNat = U.at' s 0 ∧ s.data.toList = c :: (s.extract 1 s.size).data.toList := by
  obtain ⟨h', e⟩ := list_at s 0 h
  refine ⟨_, e, ?_⟩
  rw [Lib.extract_data]
  have h1 : s.data.toList.length = s.size := (Lib.size_eq s).symm
  have h2 := List.drop_eq_getElem_cons h'
  rw [List.drop_zero] at h2
  rw [← h1, show s.data.toList.length - 1 = (s.data.toList.drop 1).length by simp, List.take_length]
  exact h2

theorem grown_trans {a b c : World} {row : Option Nat} (h : a.grownBy b row) (k : b.grownBy c row) : a.grownBy c row :=
  ⟨k.os.trans h.os, k.tape.trans h.tape, k.output.trans h.output, Nat.le_trans h.size k.size, fun i hi hne => (k.block i (Nat.lt_of_lt_of_le hi h.size) hne).trans (h.block i hi hne)⟩
theorem grown_of_below {a b : World} (h : Below a.heap.size a b) (row : Option Nat) : a.grownBy b row := ⟨h.os, h.tape, h.output, h.size, fun i hi _ => h.block i hi⟩

/-- what escape leaves: nothing is put behind the row (and 0), or what the escape means (and how many bytes it takes) -/
def EscPost (B : Nat) (e : TypeId) (w : World) (v : Value) (n : Nat) (xs : List Value) (r : Option (List UInt8 × Nat)) (en : Ending) (w' : World) : Prop :=
  match r with
  | none => en = .returned (.tuple #[v, .int .i64 0]) ∧ Below w.heap.size w w'
  | some (bs, k) => ∃ v', en = .returned (.tuple #[v', .int .i64 (k : Int)]) ∧ w'.ownsRow B e 1 v' (n + bs.length) (xs ++ cellsB bs) ∧ w.grownBy w' v.ownBlock

theorem numP_le (base : Nat) (hb : base ≤ 16) : ∀ (l : List UInt8) (v r : Nat), v ≤ 134217743 → U.numP base l v = some r → r ≤ 134217743
  | [], v, r, hv, h => by simp [U.numP] at h; omega
  | c :: l, v, r, hv, h => by
    simp only [U.numP] at h
    split at h
    · rename_i hc
      refine numP_le base hb l _ _ ?_ h
      have := U.dig_bd c.toNat
      have h2 := Nat.mul_le_mul hc.2.2 hb
      omega
    · cases h
theorem numQ_i32 {base k : Nat} {l : List UInt8} {r : Nat} (h : U.numQ base k l = some r) (hb : base ≤ 16 := by decide) : r ≤ 2147483647 := by
  unfold U.numQ at h
  split at h
  · cases h
  · have := numP_le base hb _ _ _ (by omega) h; omega

theorem plain_any (c : Nat) (z : Int) (hz : z = c) (w : World) (h : c < 256) :
    Calls Try.prog 61 #[.int .u8 z] w fun e w' => e = .returned (.int .u8 (U.plainB c)) ∧ w = w' := by
  subst hz
  by_cases hh : c = 97 ∨ c = 98 ∨ c = 116 ∨ c = 110 ∨ c = 118 ∨ c = 102
  · rcases hh with rfl | rfl | rfl | rfl | rfl | rfl
    all_goals
      go_enter Try.func61, Try.ntmps61
      go_wp2
      go_ret
      exact ⟨rfl, rfl⟩
  · have G : Hd (U.plainB c = 13) := hd <| by unfold U.plainB; (repeat' rw [if_neg (by omega)])
    have b1 : ((c : Int) == 97) = false := by rw [beq_eq_false_iff_ne]; omega
    have b2 : ((c : Int) == 98) = false := by rw [beq_eq_false_iff_ne]; omega
    have b3 : ((c : Int) == 116) = false := by rw [beq_eq_false_iff_ne]; omega
    have b4 : ((c : Int) == 110) = false := by rw [beq_eq_false_iff_ne]; omega
    have b5 : ((c : Int) == 118) = false := by rw [beq_eq_false_iff_ne]; omega
    have b6 : ((c : Int) == 102) = false := by rw [beq_eq_false_iff_ne]; omega
    clear hh
    go_enter Try.func61, Try.ntmps61
    go_wp2
    go_ret
    exact ⟨ret_int (by rw [G.o]; rfl), rfl⟩

theorem esc_letter (k : Nat) (hk : k = 97 ∨ k = 98 ∨ k = 116 ∨ k = 110 ∨ k = 118 ∨ k = 102 ∨ k = 114) (q : Nat) (hq : q = 34 ∨ q = 39) (s : ByteArray) (hs : s.size ≤ 1125899906842624) (B : Nat) (v : Value) (n : Nat) (xs : List Value) (w : World) (hown : w.ownsRow B 5 1 v n xs) (hB : B ≤ w.heap.size) (hn : n ≤ 140737488351232) (h0 : 0 < s.size) (hc : U.at' s 0 = k) :
    Calls Try.prog 51 #[v, .string s, .int .u8 q] w (EscPost B 5 w v n xs (U.escL q s.data.toList)) := by
  obtain ⟨c, ec, el⟩ := list_head s h0
  have G : Hd (U.escL q s.data.toList = some (U.byteOf (U.plainB k), 1)) := hd <| by
    rw [el, U.escL, if_pos]
    · rw [ec, hc]
    · rw [ec, hc]; rcases hk with rfl | rfl | rfl | rfl | rfl | rfl | rfl <;> rfl
  have e0 := U.at_eq s 0 h0
  have hne : s.toList.isEmpty = false := by rw [ByteArray.toList_eq, el]; rfl
  have hq' : ((s[0]'h0).toNat : Int) = k := by rw [← e0, hc]
  clear e0 ec el hq
  rcases hk with rfl | rfl | rfl | rfl | rfl | rfl | rfl
  all_goals
    go_enter Try.func51, Try.ntmps51
    go_wp2_with (first
      | (go_at_call 61; refine (plain_any _ _ rfl _ (by decide)).mono ?_; rintro e w' ⟨rfl, rfl⟩)
      | (at_builtin; refine wpList_app_lit 62 5 (.int .u8 0) 1 1 Try.underlying62 info_u8 rfl (by decide) rfl _ _ rfl B v n xs w #[_] 1 rfl rfl hown rfl ?_ ?_ ?_ hB ?_))
    any_goals (first | omega | (simp [Value.oneCell']; done))
    intro v' w' ho hg
    go_wp2
    go_ret2
    unfold EscPost
    rw [G.o]
    exact ⟨v', rfl, ho, hg⟩

theorem esc_nil (q : Nat) (hq : q = 34 ∨ q = 39) (s : ByteArray) (hs : s.size ≤ 1125899906842624) (B : Nat) (v : Value) (n : Nat) (xs : List Value) (w : World) (hown : w.ownsRow B 5 1 v n xs) (hB : B ≤ w.heap.size) (hn : n ≤ 140737488351232) (h0 : s.size = 0) :
    Calls Try.prog 51 #[v, .string s, .int .u8 q] w (EscPost B 5 w v n xs (U.escL q s.data.toList)) := by
  have el : s.data.toList = [] := List.eq_nil_of_length_eq_zero (by rw [← Lib.size_eq]; exact h0)
  have hne : s.toList.isEmpty = true := by rw [ByteArray.toList_eq, el]; rfl
  have G : Hd (U.escL q s.data.toList = none) := hd <| by rw [el]; rfl
  clear el hq
  go_enter Try.func51, Try.ntmps51
  go_wp2
  go_ret2
  unfold EscPost
  rw [G.o]
  exact ⟨rfl, Below.refl _ _⟩
theorem esc_back (q : Nat) (hq : q = 34 ∨ q = 39) (s : ByteArray) (hs : s.size ≤ 1125899906842624) (B : Nat) (v : Value) (n : Nat) (xs : List Value) (w : World) (hown : w.ownsRow B 5 1 v n xs) (hB : B ≤ w.heap.size) (hn : n ≤ 140737488351232) (h0 : 0 < s.size) (hc : U.at' s 0 = 92) :
    Calls Try.prog 51 #[v, .string s, .int .u8 q] w (EscPost B 5 w v n xs (U.escL q s.data.toList)) := by
  obtain ⟨c, ec, el⟩ := list_head s h0
  have e0 := U.at_eq s 0 h0
  have hne : s.toList.isEmpty = false := by rw [ByteArray.toList_eq, el]; rfl
  have G : Hd (U.escL q s.data.toList = some ([c], 1)) := hd <| by
    rw [el, U.escL, ec, hc, if_neg (by decide), if_pos (.inl rfl)]
  have hcc : Hd (cellsB [c] = [.int .u8 92]) := hd <| by simp only [cellsB, List.map_cons, List.map_nil]; rw [ec, hc]; rfl
  have hq' : ((s[0]'h0).toNat : Int) = 92 := by rw [← e0, hc]; rfl
  clear e0 ec el hq
  go_enter Try.func51, Try.ntmps51
  go_wp2_with (at_builtin; refine wpList_app_lit 62 5 (.int .u8 0) 1 1 Try.underlying62 info_u8 rfl (by decide) rfl _ _ rfl B v n xs w #[_] 1 rfl rfl hown rfl ?_ ?_ ?_ hB ?_)
  any_goals (first | omega | (simp [Value.oneCell']; done))
  intro v' w' ho hg
  go_wp2
  go_ret2
  unfold EscPost
  rw [G.o]
  exact ⟨v', rfl, by rw [hcc.o]; exact ho, hg⟩
theorem esc_quote (q : Nat) (hq : q = 34 ∨ q = 39) (s : ByteArray) (hs : s.size ≤ 1125899906842624) (B : Nat) (v : Value) (n : Nat) (xs : List Value) (w : World) (hown : w.ownsRow B 5 1 v n xs) (hB : B ≤ w.heap.size) (hn : n ≤ 140737488351232) (h0 : 0 < s.size) (hc : U.at' s 0 = q) :
    Calls Try.prog 51 #[v, .string s, .int .u8 q] w (EscPost B 5 w v n xs (U.escL q s.data.toList)) := by
  obtain ⟨c, ec, el⟩ := list_head s h0
  have e0 := U.at_eq s 0 h0
  have hne : s.toList.isEmpty = false := by rw [ByteArray.toList_eq, el]; rfl
  have G : Hd (U.escL q s.data.toList = some ([c], 1)) := hd <| by
    rw [el, U.escL, ec, hc]
    rcases hq with rfl | rfl <;> rfl
  have hcc : Hd (cellsB [c] = [.int .u8 (q : Int)]) := hd <| by simp only [cellsB, List.map_cons, List.map_nil]; rw [ec, hc]
  have hq' : ((s[0]'h0).toNat : Int) = (q : Int) := by rw [← e0, hc]
  clear e0 ec el hc
  rcases hq with rfl | rfl
  all_goals
    go_enter Try.func51, Try.ntmps51
    go_wp2_with (at_builtin; refine wpList_app_lit 62 5 (.int .u8 0) 1 1 Try.underlying62 info_u8 rfl (by decide) rfl _ _ rfl B v n xs w #[_] 1 rfl rfl hown rfl ?_ ?_ ?_ hB ?_)
    any_goals (first | omega | (simp [Value.oneCell']; done))
    intro v' w' ho hg
    go_wp2
    go_ret2
    unfold EscPost
    rw [G.o]
    exact ⟨v', rfl, by rw [hcc.o]; exact ho, hg⟩

theorem esc_x (q : Nat) (hq : q = 34 ∨ q = 39) (s : ByteArray) (hs : s.size ≤ 1125899906842624) (B : Nat) (v : Value) (n : Nat) (xs : List Value) (w : World) (hown : w.ownsRow B 5 1 v n xs) (hB : B ≤ w.heap.size) (hn : n ≤ 140737488351232) (h0 : 0 < s.size) (hc : U.at' s 0 = 120) :
    Calls Try.prog 51 #[v, .string s, .int .u8 q] w (EscPost B 5 w v n xs (U.escL q s.data.toList)) := by
  obtain ⟨c, ec, el⟩ := list_head s h0
  have e0 := U.at_eq s 0 h0
  have hne : s.toList.isEmpty = false := by rw [ByteArray.toList_eq, el]; rfl
  have hG : U.escL q s.data.toList = (U.numQ 16 2 (s.extract 1 s.size).data.toList).map fun v => (U.byteOf v, 3) := by
    rw [el, U.escL, ec, hc, if_neg (by decide), if_neg (by omega), if_pos rfl, U.numQ_eq 16 2 _ (by omega) (by decide)]
  have hsz : (s.extract 1 s.size).size ≤ 1125899906842624 := by rw [ByteArray.size_extract]; omega
  have f1 : ((120 : Int) == (q : Int)) = false := by rw [beq_eq_false_iff_ne]; omega
  have f2 : ((117 : Int) == (q : Int)) = false := by rw [beq_eq_false_iff_ne]; omega
  have f3 : ((85 : Int) == (q : Int)) = false := by rw [beq_eq_false_iff_ne]; omega
  have hq' : ((s[0]'h0).toNat : Int) = 120 := by rw [← e0, hc]; rfl
  cases hn2 : U.numQ 16 2 (s.extract 1 s.size).data.toList with
  | none =>
    have N := hd hn2
    have G : Hd (U.escL q s.data.toList = none) := hd <| by rw [hG, hn2]; rfl
    clear hG hn2 e0 ec el hq hc
    go_enter Try.func51, Try.ntmps51
    go_wp2_with (go_at_call 62; refine (digits16 _ 2 _ rfl _ hsz (by decide)).mono ?_; rintro e w1 ⟨rfl, hb1⟩; rw [N.o]; dsimp only [digR])
    go_ret2
    unfold EscPost
    rw [G.o]
    exact ⟨rfl, by assumption⟩
  | some r =>
    have N := hd hn2
    have hr : r < 256 := U.numQ_lt 16 2 _ r (by omega) hn2
    have G : Hd (U.escL q s.data.toList = some (U.byteOf r, 3)) := hd <| by rw [hG, hn2]; rfl
    have hm : (r : Int) % 256 = r := by omega
    have hcc : Hd (cellsB (U.byteOf r) = [.int .u8 (r : Int)]) := hd <| by simp only [cellsB, U.byteOf, List.map_cons, List.map_nil]; rw [U.ofNat_toNat r hr]
    clear hG hn2 e0 ec el hq hc
    go_enter Try.func51, Try.ntmps51
    go_wp2_with (first
      | (go_at_call 62; refine (digits16 _ 2 _ rfl _ hsz (by decide)).mono ?_; rintro e w1 ⟨rfl, hb1⟩; rw [N.o]; dsimp only [digR]; have ho1 := own_below hown hb1; have hB1 := Nat.le_trans hB hb1.size)
      | (at_builtin; refine wpList_app_lit 62 5 (.int .u8 0) 1 1 Try.underlying62 info_u8 rfl (by decide) rfl _ _ rfl B v n xs w1 #[_] 1 rfl rfl ho1 rfl ?_ ?_ ?_ hB1 ?_))
    any_goals (first | omega | (simp [Value.oneCell']; done))
    intro v' w' ho hg
    have hg2 := grown_trans (grown_of_below (show Below w.heap.size w w1 by assumption) v.ownBlock) hg
    clear hg
    go_wp2
    go_ret2
    unfold EscPost
    rw [G.o]
    exact ⟨v', rfl, by rw [hcc.o]; exact ho, hg2⟩

theorem esc_u (q : Nat) (hq : q = 34 ∨ q = 39) (s : ByteArray) (hs : s.size ≤ 1125899906842624) (B : Nat) (v : Value) (n : Nat) (xs : List Value) (w : World) (hown : w.ownsRow B 5 1 v n xs) (hB : B ≤ w.heap.size) (hn : n ≤ 140737488351232) (h0 : 0 < s.size) (hc : U.at' s 0 = 117) :
    Calls Try.prog 51 #[v, .string s, .int .u8 q] w (EscPost B 5 w v n xs (U.escL q s.data.toList)) := by
  obtain ⟨c, ec, el⟩ := list_head s h0
  have e0 := U.at_eq s 0 h0
  have hne : s.toList.isEmpty = false := by rw [ByteArray.toList_eq, el]; rfl
  have hG : U.escL q s.data.toList = U.runeOf (U.numQ 16 4 (s.extract 1 s.size).data.toList) 5 := by
    rw [el, U.escL, ec, hc, if_neg (by decide), if_neg (by omega), if_neg (by decide), if_pos rfl]; exact (U.rune8 4 _ 5)
  have hsz : (s.extract 1 s.size).size ≤ 1125899906842624 := by rw [ByteArray.size_extract]; omega
  have f1 : ((120 : Int) == (q : Int)) = false := by rw [beq_eq_false_iff_ne]; omega
  have f2 : ((117 : Int) == (q : Int)) = false := by rw [beq_eq_false_iff_ne]; omega
  have f3 : ((85 : Int) == (q : Int)) = false := by rw [beq_eq_false_iff_ne]; omega
  have hq' : ((s[0]'h0).toNat : Int) = 117 := by rw [← e0, hc]; rfl
  cases hn2 : U.numQ 16 4 (s.extract 1 s.size).data.toList with
  | none =>
    have N := hd hn2
    have G : Hd (U.escL q s.data.toList = none) := hd <| by rw [hG, hn2]; rfl
    clear hG hn2 e0 ec el hq hc
    go_enter Try.func51, Try.ntmps51
    go_wp2_with (go_at_call 62; refine (digits16 _ 4 _ rfl _ hsz (by decide)).mono ?_; rintro e w1 ⟨rfl, hb1⟩; rw [N.o]; dsimp only [digR])
    go_ret2
    unfold EscPost
    rw [G.o]
    exact ⟨rfl, by assumption⟩
  | some r =>
    have N := hd hn2
    have hr : r < 4294967296 := Nat.lt_of_lt_of_le (U.numQ_lt 16 4 _ r (by omega) hn2) (by decide)
    have hr2 : r ≤ 2147483647 := numQ_i32 hn2
    clear hr
    cases hv : Utf8.valid (r : Int) with
    | false =>
      have V : Hd (Utf8.valid (r : Int) = false) := hd hv
      have G : Hd (U.escL q s.data.toList = none) := hd <| by rw [hG, hn2, U.runeOf_bad r _ hv]
      clear hG hn2 e0 ec el hq hc hv
      go_enter Try.func51, Try.ntmps51
      go_wp2_with (first
        | (go_at_call 62; refine (digits16 _ 4 _ rfl _ hsz (by decide)).mono ?_; rintro e w1 ⟨rfl, hb1⟩; rw [N.o]; dsimp only [digR])
        | (go_at_call 48; refine (isRune_any _ _ (by omega) (by omega)).mono ?_; rintro e w' ⟨rfl, rfl⟩; rw [V.o]))
      go_ret2
      unfold EscPost
      rw [G.o]
      exact ⟨rfl, by assumption⟩
    | true =>
      have V : Hd (Utf8.valid (r : Int) = true) := hd hv
      have G : Hd (U.escL q s.data.toList = some ((Utf8.encode (r : Int)).toList, 5)) := hd <| by rw [hG, hn2, U.runeOf_good r _ hv]
      clear hG hn2 e0 ec el hq hc hv
      go_enter Try.func51, Try.ntmps51
      go_wp2_with (first
        | (go_at_call 62; refine (digits16 _ 4 _ rfl _ hsz (by decide)).mono ?_; rintro e w1 ⟨rfl, hb1⟩; rw [N.o]; dsimp only [digR]; have ho1 := own_below hown hb1; have hB1 := Nat.le_trans hB hb1.size)
        | (go_at_call 48; refine (isRune_any _ _ (by omega) (by omega)).mono ?_; rintro e w' ⟨rfl, rfl⟩; rw [V.o])
        | (go_at_call 49; refine (form_any _ V.o B v n xs w1 ho1 hB1 hn).mono ?_; rintro e w2 ⟨v', rfl, ho, hg⟩; have hg2 := grown_trans (grown_of_below (show Below w.heap.size w w1 by assumption) v.ownBlock) hg; clear hg))
      go_ret2
      unfold EscPost
      rw [G.o]
      exact ⟨_, rfl, by assumption, by assumption⟩

theorem esc_U (q : Nat) (hq : q = 34 ∨ q = 39) (s : ByteArray) (hs : s.size ≤ 1125899906842624) (B : Nat) (v : Value) (n : Nat) (xs : List Value) (w : World) (hown : w.ownsRow B 5 1 v n xs) (hB : B ≤ w.heap.size) (hn : n ≤ 140737488351232) (h0 : 0 < s.size) (hc : U.at' s 0 = 85) :
    Calls Try.prog 51 #[v, .string s, .int .u8 q] w (EscPost B 5 w v n xs (U.escL q s.data.toList)) := by
  obtain ⟨c, ec, el⟩ := list_head s h0
  have e0 := U.at_eq s 0 h0
  have hne : s.toList.isEmpty = false := by rw [ByteArray.toList_eq, el]; rfl
  have hG : U.escL q s.data.toList = U.runeOf (U.numQ 16 8 (s.extract 1 s.size).data.toList) 9 := by
    rw [el, U.escL, ec, hc, if_neg (by decide), if_neg (by omega), if_neg (by decide), if_neg (by decide), if_pos rfl]; exact (U.rune8 8 _ 9)
  have hsz : (s.extract 1 s.size).size ≤ 1125899906842624 := by rw [ByteArray.size_extract]; omega
  have f1 : ((120 : Int) == (q : Int)) = false := by rw [beq_eq_false_iff_ne]; omega
  have f2 : ((117 : Int) == (q : Int)) = false := by rw [beq_eq_false_iff_ne]; omega
  have f3 : ((85 : Int) == (q : Int)) = false := by rw [beq_eq_false_iff_ne]; omega
  have hq' : ((s[0]'h0).toNat : Int) = 85 := by rw [← e0, hc]; rfl
  cases hn2 : U.numQ 16 8 (s.extract 1 s.size).data.toList with
  | none =>
    have N := hd hn2
    have G : Hd (U.escL q s.data.toList = none) := hd <| by rw [hG, hn2]; rfl
    clear hG hn2 e0 ec el hq hc
    go_enter Try.func51, Try.ntmps51
    go_wp2_with (go_at_call 62; refine (digits16 _ 8 _ rfl _ hsz (by decide)).mono ?_; rintro e w1 ⟨rfl, hb1⟩; rw [N.o]; dsimp only [digR])
    go_ret2
    unfold EscPost
    rw [G.o]
    exact ⟨rfl, by assumption⟩
  | some r =>
    have N := hd hn2
    have hr : r < 4294967296 := Nat.lt_of_lt_of_le (U.numQ_lt 16 8 _ r (by omega) hn2) (by decide)
    have hr2 : r ≤ 2147483647 := numQ_i32 hn2
    clear hr
    cases hv : Utf8.valid (r : Int) with
    | false =>
      have V : Hd (Utf8.valid (r : Int) = false) := hd hv
      have G : Hd (U.escL q s.data.toList = none) := hd <| by rw [hG, hn2, U.runeOf_bad r _ hv]
      clear hG hn2 e0 ec el hq hc hv
      go_enter Try.func51, Try.ntmps51
      go_wp2_with (first
        | (go_at_call 62; refine (digits16 _ 8 _ rfl _ hsz (by decide)).mono ?_; rintro e w1 ⟨rfl, hb1⟩; rw [N.o]; dsimp only [digR])
        | (go_at_call 48; refine (isRune_any _ _ (by omega) (by omega)).mono ?_; rintro e w' ⟨rfl, rfl⟩; rw [V.o]))
      go_ret2
      unfold EscPost
      rw [G.o]
      exact ⟨rfl, by assumption⟩
    | true =>
      have V : Hd (Utf8.valid (r : Int) = true) := hd hv
      have G : Hd (U.escL q s.data.toList = some ((Utf8.encode (r : Int)).toList, 9)) := hd <| by rw [hG, hn2, U.runeOf_good r _ hv]
      clear hG hn2 e0 ec el hq hc hv
      go_enter Try.func51, Try.ntmps51
      go_wp2_with (first
        | (go_at_call 62; refine (digits16 _ 8 _ rfl _ hsz (by decide)).mono ?_; rintro e w1 ⟨rfl, hb1⟩; rw [N.o]; dsimp only [digR]; have ho1 := own_below hown hb1; have hB1 := Nat.le_trans hB hb1.size)
        | (go_at_call 48; refine (isRune_any _ _ (by omega) (by omega)).mono ?_; rintro e w' ⟨rfl, rfl⟩; rw [V.o])
        | (go_at_call 49; refine (form_any _ V.o B v n xs w1 ho1 hB1 hn).mono ?_; rintro e w2 ⟨v', rfl, ho, hg⟩; have hg2 := grown_trans (grown_of_below (show Below w.heap.size w w1 by assumption) v.ownBlock) hg; clear hg))
      go_ret2
      unfold EscPost
      rw [G.o]
      exact ⟨_, rfl, by assumption, by assumption⟩

theorem esc_oct (q : Nat) (hq : q = 34 ∨ q = 39) (s : ByteArray) (hs : s.size ≤ 1125899906842624) (B : Nat) (v : Value) (n : Nat) (xs : List Value) (w : World) (hown : w.ownsRow B 5 1 v n xs) (hB : B ≤ w.heap.size) (hn : n ≤ 140737488351232) (h0 : 0 < s.size) (hc : U.isLetter (U.at' s 0) = false) (hc2 : U.at' s 0 ≠ 92 ∧ U.at' s 0 ≠ q ∧ U.at' s 0 ≠ 120 ∧ U.at' s 0 ≠ 117 ∧ U.at' s 0 ≠ 85) :
    Calls Try.prog 51 #[v, .string s, .int .u8 q] w (EscPost B 5 w v n xs (U.escL q s.data.toList)) := by
  obtain ⟨c, ec, el⟩ := list_head s h0
  have e0 := U.at_eq s 0 h0
  have hne : s.toList.isEmpty = false := by rw [ByteArray.toList_eq, el]; rfl
  have hG : U.escL q s.data.toList = (U.numQ 8 3 s.data.toList).bind fun v => if v ≤ 255 then some (U.byteOf v, 3) else none := by
    rw [el, U.escL, ec, hc, if_neg (by simp), if_neg (by omega), if_neg hc2.2.2.1, if_neg hc2.2.2.2.1, if_neg hc2.2.2.2.2, U.numQ_eq 8 3 _ (by omega) (by decide)]
  have hlt : U.at' s 0 ≠ 97 ∧ U.at' s 0 ≠ 98 ∧ U.at' s 0 ≠ 116 ∧ U.at' s 0 ≠ 110 ∧ U.at' s 0 ≠ 118 ∧ U.at' s 0 ≠ 102 ∧ U.at' s 0 ≠ 114 := by
    simp only [U.isLetter, Bool.or_eq_false_iff, beq_eq_false_iff_ne] at hc
    omega
  have g97 : ((((s[0]'h0).toNat : Int) == 97)) = false := by rw [beq_eq_false_iff_ne]; omega
  have g98 : ((((s[0]'h0).toNat : Int) == 98)) = false := by rw [beq_eq_false_iff_ne]; omega
  have g116 : ((((s[0]'h0).toNat : Int) == 116)) = false := by rw [beq_eq_false_iff_ne]; omega
  have g110 : ((((s[0]'h0).toNat : Int) == 110)) = false := by rw [beq_eq_false_iff_ne]; omega
  have g118 : ((((s[0]'h0).toNat : Int) == 118)) = false := by rw [beq_eq_false_iff_ne]; omega
  have g102 : ((((s[0]'h0).toNat : Int) == 102)) = false := by rw [beq_eq_false_iff_ne]; omega
  have g114 : ((((s[0]'h0).toNat : Int) == 114)) = false := by rw [beq_eq_false_iff_ne]; omega
  have g92 : ((((s[0]'h0).toNat : Int) == 92)) = false := by rw [beq_eq_false_iff_ne]; omega
  have g120 : ((((s[0]'h0).toNat : Int) == 120)) = false := by rw [beq_eq_false_iff_ne]; omega
  have g117 : ((((s[0]'h0).toNat : Int) == 117)) = false := by rw [beq_eq_false_iff_ne]; omega
  have g85 : ((((s[0]'h0).toNat : Int) == 85)) = false := by rw [beq_eq_false_iff_ne]; omega
  have gq : ((((s[0]'h0).toNat : Int) == (q : Int))) = false := by rw [beq_eq_false_iff_ne]; omega
  cases hn2 : U.numQ 8 3 s.data.toList with
  | none =>
    have N := hd hn2
    have G : Hd (U.escL q s.data.toList = none) := hd <| by rw [hG, hn2]; rfl
    clear hG hn2 e0 ec el hq hc hc2 hlt
    go_enter Try.func51, Try.ntmps51
    go_wp2_with (go_at_call 62; refine (digits8 _ 3 _ rfl _ hs (by decide)).mono ?_; rintro e w1 ⟨rfl, hb1⟩; rw [N.o]; dsimp only [digR])
    go_ret2
    unfold EscPost
    rw [G.o]
    exact ⟨rfl, by assumption⟩
  | some r =>
    have N := hd hn2
    have hr : r < 512 := U.numQ_lt 8 3 _ r (by omega) hn2
    by_cases h255 : r ≤ 255
    · have G : Hd (U.escL q s.data.toList = some (U.byteOf r, 3)) := hd <| by rw [hG, hn2]; exact if_pos h255
      have hm : (r : Int) % 256 = r := by omega
      have hcc : Hd (cellsB (U.byteOf r) = [.int .u8 (r : Int)]) := hd <| by simp only [cellsB, U.byteOf, List.map_cons, List.map_nil]; rw [U.ofNat_toNat r (by omega)]
      clear hG hn2 e0 ec el hq hc hc2 hlt
      go_enter Try.func51, Try.ntmps51
      go_wp2_with (first
        | (go_at_call 62; refine (digits8 _ 3 _ rfl _ hs (by decide)).mono ?_; rintro e w1 ⟨rfl, hb1⟩; rw [N.o]; dsimp only [digR]; have ho1 := own_below hown hb1; have hB1 := Nat.le_trans hB hb1.size)
        | (at_builtin; refine wpList_app_lit 62 5 (.int .u8 0) 1 1 Try.underlying62 info_u8 rfl (by decide) rfl _ _ rfl B v n xs w1 #[_] 1 rfl rfl ho1 rfl ?_ ?_ ?_ hB1 ?_))
      any_goals (first | omega | (simp [Value.oneCell']; done))
      intro v' w' ho hg
      have hg2 := grown_trans (grown_of_below (show Below w.heap.size w w1 by assumption) v.ownBlock) hg
      clear hg
      go_wp2
      go_ret2
      unfold EscPost
      rw [G.o]
      exact ⟨v', rfl, by rw [hcc.o]; exact ho, hg2⟩
    · have G : Hd (U.escL q s.data.toList = none) := hd <| by rw [hG, hn2]; exact if_neg h255
      clear hG hn2 e0 ec el hq hc hc2 hlt
      go_enter Try.func51, Try.ntmps51
      go_wp2_with (go_at_call 62; refine (digits8 _ 3 _ rfl _ hs (by decide)).mono ?_; rintro e w1 ⟨rfl, hb1⟩; rw [N.o]; dsimp only [digR])
      go_ret2
      unfold EscPost
      rw [G.o]
      exact ⟨rfl, by assumption⟩

theorem escape_any (q : Nat) (hq : q = 34 ∨ q = 39) (s : ByteArray) (hs : s.size ≤ 1125899906842624) (B : Nat) (v : Value) (n : Nat) (xs : List Value) (w : World) (hown : w.ownsRow B 5 1 v n xs) (hB : B ≤ w.heap.size) (hn : n ≤ 140737488351232) :
    Calls Try.prog 51 #[v, .string s, .int .u8 q] w (EscPost B 5 w v n xs (U.escL q s.data.toList)) := by
  by_cases h0 : s.size = 0
  · exact esc_nil q hq s hs B v n xs w hown hB hn h0
  have h0' : 0 < s.size := by omega
  cases hl : U.isLetter (U.at' s 0) with
  | true =>
    refine esc_letter (U.at' s 0) ?_ q hq s hs B v n xs w hown hB hn h0' rfl
    simpa [U.isLetter, or_assoc] using hl
  | false =>
    by_cases h1 : U.at' s 0 = 92
    · exact esc_back q hq s hs B v n xs w hown hB hn h0' h1
    by_cases h2 : U.at' s 0 = q
    · exact esc_quote q hq s hs B v n xs w hown hB hn h0' h2
    by_cases h3 : U.at' s 0 = 120
    · exact esc_x q hq s hs B v n xs w hown hB hn h0' h3
    by_cases h4 : U.at' s 0 = 117
    · exact esc_u q hq s hs B v n xs w hown hB hn h0' h4
    by_cases h5 : U.at' s 0 = 85
    · exact esc_U q hq s hs B v n xs w hown hB hn h0' h5
    exact esc_oct q hq s hs B v n xs w hown hB hn h0' hl ⟨h1, h2, h3, h4, h5⟩
end Go.Proofs.Ythlpgnidjjclcaa
