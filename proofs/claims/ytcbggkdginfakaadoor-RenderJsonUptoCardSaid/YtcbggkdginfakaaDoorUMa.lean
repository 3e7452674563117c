/- The walks of utf.replaced, utf.width, utf.Valid, weirref01.IsRune, Form, guess: what each computes. Plain law: the bit operations that write a rune's form. The walks of utf.tail, utf.isRune, utf.form: a rune's form put behind a row of the caller's. Plain law: literals, escapes and what they mean, over lists of bytes. No program in sight. The walks of weirref01.IsRune, Form, guess, Next, Valid: what each computes. The walks of weirref01.Next, Valid and utf.Next: all by one word, U.next, U.valid. The walks of utf.digit and utf.digits. The walks of utf.plain and utf.escape: what stands behind a backslash, put behind a row of the caller's. Plain law: bounds and steps of what a literal means. Plain law: two texts behind one another; a text cut where a rune begins. Plain law: what Quote and Json write, byte by byte and rune by rune. -/
import Derived.Test.YtcbggkdginfakaaDoorUNext
import Derived.Test.YtcbggkdginfakaaDoorBase
import Derived.Test.YtcbggkdginfakaaDoorBase2
import Derived.Laws.BitsAllLaws
import Derived.Laws.BitsLemmas
import Derived.Test.YtcbggkdginfakaaDoorBase4
namespace Go.Proofs.YtcbggkdginfakaaDoor
open Go.RowKit

/-- a rune's width -/
def U.wd (r : Int) : Int := if r < 128 then 1 else if r < 2048 then 2 else if r < 65536 then 3 else 4

theorem replaced_any (s : ByteArray) (i : Nat) (w : World) (hs : s.size ≤ 1125899906842624) (hi : i ≤ s.size) :
    Calls Tryd.prog 54 #[.string s, .int .i64 i] w fun e w' => e = .returned (.bool (U.rep s i)) ∧ w = w' := by
  by_cases h3 : i + 3 ≤ s.size
  · have hd : decide (i + 3 ≤ s.size) = true := by simpa using h3
    go_enter Tryd.func54, Tryd.ntmps54
    go_wp2
    all_goals go_ret
    all_goals exact ⟨ret_bool (by unfold U.rep; rw [hd]; rfl), rfl⟩
  · have hd : decide (i + 3 ≤ s.size) = false := by simpa using h3
    go_enter Tryd.func54, Tryd.ntmps54
    go_wp2
    all_goals go_ret
    all_goals exact ⟨ret_bool (by unfold U.rep; rw [hd]; rfl), rfl⟩

theorem Valid_any (s : ByteArray) (w : World) (hs : s.size ≤ 1125899906842624) :
    Calls Tryd.prog 42 #[.string s] w fun e w' => e = .returned (.bool (U.valid s)) ∧ Below w.heap.size w w' := by
  go_enter Tryd.func42, Tryd.ntmps42
  go_wp2
  go_loopw [] (fun wr => ∃ pos : Nat, pos ≤ s.size ∧ wr = w.iter s pos ∧ Hid (U.vfrom s pos = U.valid s)) (fun wr => s.size - wr.iterPos w.heap.size)
  case atStart => exact ⟨0, Nat.zero_le _, rfl, rfl⟩
  case round =>
    obtain ⟨pos, hpos, rfl, hv⟩ := hrel
    by_cases hp : pos < s.size
    · have hnx := fun ty => run_next_any (P := Tryd.prog) w s pos ty hp
      have hb1 := decode_le s pos
      have hdp := U.dec_pos s pos
      have hle := U.dec_le s pos hp
      by_cases hr : (Utf8.decode s pos).1 = 65533
      · have hr' : Hid ((Utf8.decode s pos).1 = 65533) := hr
        have hb : (((Utf8.decode s pos).1 : Int) == 65533) = true := by rw [hr]; rfl
        clear hr
        cases hrep : U.rep s pos with
        | false =>
          have hbad := (U.bad_iff s pos hp).2 ⟨hr'.out, hrep⟩
          have H : Hid (U.rep s pos = false) := hrep
          have G : Hid (U.valid s = false) := by rw [← hv.out]; exact U.vfrom_bad s pos hp hbad
          clear hrep hbad
          go_wp2_with (go_at_call 54; refine (replaced_any s pos _ hs hpos).mono ?_; rintro e w' ⟨rfl, rfl⟩; rw [H.out])
          go_ret
          exact ⟨ret_bool G.out.symm, (Below.refl _ _).alloc (Nat.le_refl _) _⟩
        | true =>
          have hbad : U.bad s pos = false := by
            cases hb : U.bad s pos with
            | false => rfl
            | true => have := ((U.bad_iff s pos hp).1 hb).2; rw [hrep] at this; cases this
          have H : Hid (U.rep s pos = true) := hrep
          have G : Hid (U.vfrom s (pos + (Utf8.decode s pos).2) = U.valid s) := by rw [← hv.out]; exact (U.vfrom_step s pos hp hbad).symm
          clear hrep hbad
          go_wp2_with (go_at_call 54; refine (replaced_any s pos _ hs hpos).mono ?_; rintro e w' ⟨rfl, rfl⟩; rw [H.out])
          go_roundw
          case rel => exact ⟨_, hle, rfl, G⟩
          case measure => simp; omega
      · have hb : (((Utf8.decode s pos).1 : Int) == 65533) = false := by rw [beq_eq_false_iff_ne]; omega
        have hbad : U.bad s pos = false := by
          cases hb : U.bad s pos with
          | false => rfl
          | true => exact absurd ((U.bad_iff s pos hp).1 hb).1 hr
        have G : Hid (U.vfrom s (pos + (Utf8.decode s pos).2) = U.valid s) := by rw [← hv.out]; exact (U.vfrom_step s pos hp hbad).symm
        clear hbad hr
        go_wp2
        go_roundw
        case rel => exact ⟨_, hle, rfl, G⟩
        case measure => simp; omega
    · have hnx := fun ty => run_next_end (P := Tryd.prog) w s pos ty hp
      have G : Hid (U.valid s = true) := by rw [← hv.out]; exact U.vfrom_end s pos hp
      go_wp2
      go_ret
      exact ⟨ret_bool G.out.symm, (Below.refl _ _).alloc (Nat.le_refl _) _⟩
end Go.Proofs.YtcbggkdginfakaaDoor
namespace Go.Proofs.YtcbggkdginfakaaDoor
theorem ofInt_i32 (a : Nat) (ha : a < 2147483648) : (BitVec.ofInt 32 (a : Int)).toNat = a := by
  rw [BitVec.ofInt_natCast, BitVec.toNat_ofNat]; exact Nat.mod_eq_of_lt (by omega)
theorem i32_and_nat (a b : Nat) (ha : a < 2147483648) (hb : b < 2147483648) : bits .and .i32 (a : Int) (b : Int) = ((a &&& b : Nat) : Int) := by
  have hx : a &&& b < 2 ^ 31 := Nat.and_lt_two_pow _ (by omega)
  show IntKind.i32.wrap ((BitVec.ofInt 32 (a : Int) &&& BitVec.ofInt 32 (b : Int)).toNat : Int) = _
  rw [BitVec.toNat_and, ofInt_i32 a ha, ofInt_i32 b hb]
  rw [IntKind.wrap_i32]
  omega
theorem and63 (r : Int) (h0 : 0 ≤ r) (h1 : r ≤ 2147483647) : bits .and .i32 r 63 = r % 64 := by
  obtain ⟨n, rfl⟩ := Int.eq_ofNat_of_zero_le h0
  have h := i32_and_nat n 63 (by omega) (by omega)
  have h2 : n &&& 63 = n % 64 := Nat.and_two_pow_sub_one_eq_mod n 6
  rw [h2] at h
  exact h.trans (by omega)
theorem or_all : ∀ x : Nat, x < 64 → bits .or .u8 128 (x : Int) = 128 + x ∧ (x < 32 → bits .or .u8 192 (x : Int) = 192 + x) ∧ (x < 16 → bits .or .u8 224 (x : Int) = 224 + x) ∧ (x < 8 → bits .or .u8 240 (x : Int) = 240 + x) := by decide +kernel
theorem or128 (x : Int) (h0 : 0 ≤ x) (h1 : x < 64) : bits .or .u8 128 x = 128 + x := by
  obtain ⟨n, rfl⟩ := Int.eq_ofNat_of_zero_le h0
  exact (or_all n (by omega)).1
theorem or192 (x : Int) (h0 : 0 ≤ x) (h1 : x < 32) : bits .or .u8 192 x = 192 + x := by
  obtain ⟨n, rfl⟩ := Int.eq_ofNat_of_zero_le h0
  exact (or_all n (by omega)).2.1 (by omega)
theorem or224 (x : Int) (h0 : 0 ≤ x) (h1 : x < 16) : bits .or .u8 224 x = 224 + x := by
  obtain ⟨n, rfl⟩ := Int.eq_ofNat_of_zero_le h0
  exact (or_all n (by omega)).2.2.1 (by omega)
theorem or240 (x : Int) (h0 : 0 ≤ x) (h1 : x < 8) : bits .or .u8 240 x = 240 + x := by
  obtain ⟨n, rfl⟩ := Int.eq_ofNat_of_zero_le h0
  exact (or_all n (by omega)).2.2.2 (by omega)
end Go.Proofs.YtcbggkdginfakaaDoor
namespace Go.Proofs.YtcbggkdginfakaaDoor
open Go.RowKit
theorem tail_any (r : Int) (w : World) (h0 : 0 ≤ r) (h : r ≤ 1114111) :
    Calls Tryd.prog 55 #[.int .i32 r] w fun e w' => e = .returned (.int .u8 (128 + r % 64)) ∧ w = w' := by
  have e1 := and63 r h0 (by omega)
  have e2 := or128 (r % 64) (by omega) (by omega)
  have e3 : r % 64 % 256 = r % 64 := by omega
  go_enter Tryd.func55, Tryd.ntmps55
  go_wp2
  go_ret
  exact ⟨rfl, rfl⟩
theorem info_u8 : (Tryd.prog.info? 5).map (fun i => (i.zero, i.size, i.bytes)) = some (some (.int .u8 0), 1, 1) := by kernel_rfl

theorem form_any (r : Int) (hv : Utf8.valid r = true) (B : Nat) (v : Value) (n : Nat) (xs : List Value) (w : World) (hown : w.ownsRow B 5 1 v n xs) (hB : B ≤ w.heap.size) (hn : n ≤ 140737488351232) :
    Calls Tryd.prog 43 #[v, .int .i32 r] w (Appd B 5 1 w v n xs (Utf8.encode r).toList.length (cellsB (Utf8.encode r).toList)) := by
  have hr := (U.valid_iff _).1 hv
  have hr0 : 0 ≤ r := by omega
  have hr1 : r ≤ 1114111 := by omega
  clear hr
  have HV : Unit → Utf8.valid r = true := fun _ => hv
  clear hv
  by_cases h1 : r < 128
  · go_enter Tryd.func43, Tryd.ntmps43
    go_wp2_with (at_builtin; refine wpList_app_lit 35 5 (.int .u8 0) 1 1 Tryd.underlying35 info_u8 rfl (by decide) rfl _ _ rfl B v n xs w #[.int .u8 r] 1 rfl rfl hown rfl ?c1 ?c2 ?c3 hB ?_)
    case c1 => simp [Value.oneCell']
    case c2 => omega
    case c3 => omega
    intro v' w' ho hg
    go_wp2
    go_ret
    refine ⟨v', rfl, ?_, hg⟩
    obtain ⟨m, rfl⟩ := Int.eq_ofNat_of_zero_le hr0
    rw [U.enc_list m (HV ())]
    rw [if_pos (by omega)]
    have e : cellsB [UInt8.ofNat (m)] = [.int .u8 (m : Int)] := by
      simp only [cellsB, List.map_cons, List.map_nil]; rw [U.ofNat_toNat _ (by omega)]
    rw [e]
    exact ho
  by_cases h2 : r < 2048
  · have e6 : r / 64 % 256 = r / 64 := by omega
    have o1 := or192 (r / 64) (by omega) (by omega)
    go_enter Tryd.func43, Tryd.ntmps43
    go_wp2_with (first | (go_at_call 55; refine (tail_any _ _ (by omega) (by omega)).mono ?_; rintro e w' ⟨rfl, rfl⟩) | (at_builtin; refine wpList_app_lit 35 5 (.int .u8 0) 1 1 Tryd.underlying35 info_u8 rfl (by decide) rfl _ _ rfl B v n xs w #[.int .u8 (192 + r / 64), .int .u8 (128 + r % 64)] 2 rfl rfl hown rfl ?c1 ?c2 ?c3 hB ?_))
    case c1 => simp [Value.oneCell']
    case c2 => omega
    case c3 => omega
    intro v' w' ho hg
    go_wp2
    go_ret
    refine ⟨v', rfl, ?_, hg⟩
    obtain ⟨m, rfl⟩ := Int.eq_ofNat_of_zero_le hr0
    rw [U.enc_list m (HV ())]
    rw [if_neg (by omega), if_pos (by omega)]
    have e : cellsB [UInt8.ofNat (192 + m / 64), UInt8.ofNat (128 + m % 64)] = [.int .u8 (192 + (m : Int) / 64), .int .u8 (128 + (m : Int) % 64)] := by
      simp only [cellsB, List.map_cons, List.map_nil]; rw [U.ofNat_toNat _ (by omega), U.ofNat_toNat _ (by omega)]; rfl
    rw [e]
    exact ho
  by_cases h3 : r < 65536
  · have e6 : r / 4096 % 256 = r / 4096 := by omega
    have o1 := or224 (r / 4096) (by omega) (by omega)
    go_enter Tryd.func43, Tryd.ntmps43
    go_wp2_with (first | (go_at_call 55; refine (tail_any _ _ (by omega) (by omega)).mono ?_; rintro e w' ⟨rfl, rfl⟩) | (at_builtin; refine wpList_app_lit 35 5 (.int .u8 0) 1 1 Tryd.underlying35 info_u8 rfl (by decide) rfl _ _ rfl B v n xs w #[.int .u8 (224 + r / 4096), .int .u8 (128 + r / 64 % 64), .int .u8 (128 + r % 64)] 3 rfl rfl hown rfl ?c1 ?c2 ?c3 hB ?_))
    case c1 => simp [Value.oneCell']
    case c2 => omega
    case c3 => omega
    intro v' w' ho hg
    go_wp2
    go_ret
    refine ⟨v', rfl, ?_, hg⟩
    obtain ⟨m, rfl⟩ := Int.eq_ofNat_of_zero_le hr0
    rw [U.enc_list m (HV ())]
    rw [if_neg (by omega), if_neg (by omega), if_pos (by omega)]
    have e : cellsB [UInt8.ofNat (224 + m / 4096), UInt8.ofNat (128 + m / 64 % 64), UInt8.ofNat (128 + m % 64)] = [.int .u8 (224 + (m : Int) / 4096), .int .u8 (128 + (m : Int) / 64 % 64), .int .u8 (128 + (m : Int) % 64)] := by
      simp only [cellsB, List.map_cons, List.map_nil]; rw [U.ofNat_toNat _ (by omega), U.ofNat_toNat _ (by omega), U.ofNat_toNat _ (by omega)]; rfl
    rw [e]
    exact ho
  · have e6 : r / 262144 % 256 = r / 262144 := by omega
    have o1 := or240 (r / 262144) (by omega) (by omega)
    go_enter Tryd.func43, Tryd.ntmps43
    go_wp2_with (first | (go_at_call 55; refine (tail_any _ _ (by omega) (by omega)).mono ?_; rintro e w' ⟨rfl, rfl⟩) | (at_builtin; refine wpList_app_lit 35 5 (.int .u8 0) 1 1 Tryd.underlying35 info_u8 rfl (by decide) rfl _ _ rfl B v n xs w #[.int .u8 (240 + r / 262144), .int .u8 (128 + r / 4096 % 64), .int .u8 (128 + r / 64 % 64), .int .u8 (128 + r % 64)] 4 rfl rfl hown rfl ?c1 ?c2 ?c3 hB ?_))
    case c1 => simp [Value.oneCell']
    case c2 => omega
    case c3 => omega
    intro v' w' ho hg
    go_wp2
    go_ret
    refine ⟨v', rfl, ?_, hg⟩
    obtain ⟨m, rfl⟩ := Int.eq_ofNat_of_zero_le hr0
    rw [U.enc_list m (HV ())]
    rw [if_neg (by omega), if_neg (by omega), if_neg (by omega)]
    have e : cellsB [UInt8.ofNat (240 + m / 262144), UInt8.ofNat (128 + m / 4096 % 64), UInt8.ofNat (128 + m / 64 % 64), UInt8.ofNat (128 + m % 64)] = [.int .u8 (240 + (m : Int) / 262144), .int .u8 (128 + (m : Int) / 4096 % 64), .int .u8 (128 + (m : Int) / 64 % 64), .int .u8 (128 + (m : Int) % 64)] := by
      simp only [cellsB, List.map_cons, List.map_nil]; rw [U.ofNat_toNat _ (by omega), U.ofNat_toNat _ (by omega), U.ofNat_toNat _ (by omega), U.ofNat_toNat _ (by omega)]; rfl
    rw [e]
    exact ho
end Go.Proofs.YtcbggkdginfakaaDoor
namespace Go.Proofs.YtcbggkdginfakaaDoor.U
open Go
/-- where the literal with the quote q ends, looked at from i on -/
def lit (s : ByteArray) (q i : Nat) : Option Nat :=
  if _h : i < s.size then
    (if at' s i = q then some (i + 1) else if q = 96 then lit s q (i + 1) else if at' s i = 10 then none
     else if at' s i = 92 then (if i + 1 < s.size ∧ at' s (i + 1) = 10 then none else lit s q (i + 2)) else lit s q (i + 1))
  else none
termination_by s.size - i
decreasing_by all_goals omega
theorem lit_end (s : ByteArray) (q i : Nat) (h : ¬ i < s.size) : lit s q i = none := by rw [lit, dif_neg h]
theorem lit_hit (s : ByteArray) (q i : Nat) (h : i < s.size) (hq : at' s i = q) : lit s q i = some (i + 1) := by rw [lit, dif_pos h, if_pos hq]
theorem lit_raw (s : ByteArray) (i : Nat) (h : i < s.size) (hq : at' s i ≠ 96) : lit s 96 i = lit s 96 (i + 1) := by rw [lit, dif_pos h, if_neg hq, if_pos rfl]
theorem lit_nl (s : ByteArray) (q i : Nat) (h : i < s.size) (hq : at' s i ≠ q) (h96 : q ≠ 96) (hn : at' s i = 10) : lit s q i = none := by rw [lit, dif_pos h, if_neg hq, if_neg h96, if_pos hn]
theorem lit_esc_nl (s : ByteArray) (q i : Nat) (h : i + 1 < s.size) (hq : at' s i ≠ q) (h96 : q ≠ 96) (hb : at' s i = 92) (hn : at' s (i + 1) = 10) : lit s q i = none := by
  rw [lit, dif_pos (by omega), if_neg hq, if_neg h96, if_neg (by omega), if_pos hb, if_pos ⟨h, hn⟩]
theorem lit_esc (s : ByteArray) (q i : Nat) (h : i < s.size) (hq : at' s i ≠ q) (h96 : q ≠ 96) (hb : at' s i = 92) (hn : ¬ (i + 1 < s.size ∧ at' s (i + 1) = 10)) : lit s q i = lit s q (i + 2) := by
  rw [lit, dif_pos h, if_neg hq, if_neg h96, if_neg (by omega), if_pos hb, if_neg hn]
theorem lit_step (s : ByteArray) (q i : Nat) (h : i < s.size) (hq : at' s i ≠ q) (h96 : q ≠ 96) (hn : at' s i ≠ 10) (hb : at' s i ≠ 92) : lit s q i = lit s q (i + 1) := by
  rw [lit, dif_pos h, if_neg hq, if_neg h96, if_neg hn, if_neg hb]
/-- place and error -/
def litR : Option Nat → Int × Int
  | some n => (n, 0)
  | none => (0, 10)
def literal (s : ByteArray) (i : Int) : Int × Int :=
  if 0 ≤ i ∧ i < s.size then
    (if at' s i.toNat = 34 ∨ at' s i.toNat = 39 ∨ at' s i.toNat = 96 then litR (lit s (at' s i.toNat) (i.toNat + 1)) else (0, 10))
  else (0, 10)
theorem literal_out (s : ByteArray) (i : Int) (h : i < 0 ∨ s.size ≤ i) : literal s i = (0, 10) := by unfold literal; rw [if_neg (by omega)]
theorem literal_no (s : ByteArray) (i : Nat) (h : i < s.size) (hq : at' s i ≠ 34 ∧ at' s i ≠ 39 ∧ at' s i ≠ 96) : literal s i = (0, 10) := by
  unfold literal; rw [if_pos (by omega), Int.toNat_natCast, if_neg (by omega)]
theorem literal_in (s : ByteArray) (i : Nat) (h : i < s.size) (hq : at' s i = 34 ∨ at' s i = 39 ∨ at' s i = 96) : literal s i = litR (lit s (at' s i) (i + 1)) := by
  unfold literal; rw [if_pos (by omega), Int.toNat_natCast, if_pos hq]

/-! ### digits -/
def dig (c : Nat) : Int := if 48 ≤ c ∧ c ≤ 57 then (c : Int) - 48 else if 97 ≤ c ∧ c ≤ 102 then (c : Int) - 87 else if 65 ≤ c ∧ c ≤ 70 then (c : Int) - 55 else -1
theorem dig_bd (c : Nat) : -1 ≤ dig c ∧ dig c ≤ 15 := by unfold dig; (repeat' split) <;> omega
/-- the number of the digits l, behind the number v -/
def numF (base : Nat) : List UInt8 → Nat → Option Nat
  | [], v => some v
  | c :: r, v => if 0 ≤ dig c.toNat ∧ dig c.toNat < base then numF base r (v * base + (dig c.toNat).toNat) else none
def numL (base k : Nat) (l : List UInt8) : Option Nat := if l.length < k then none else numF base (l.take k) 0
/-- the same, given up where the number gets great -/
def numP (base : Nat) : List UInt8 → Nat → Option Nat
  | [], v => some v
  | c :: r, v => if 0 ≤ dig c.toNat ∧ dig c.toNat < base ∧ v ≤ 8388607 then numP base r (v * base + (dig c.toNat).toNat) else none
theorem numF_ge (base : Nat) (hb : 1 ≤ base) : ∀ (l : List UInt8) (v r : Nat), numF base l v = some r → v ≤ r
  | [], v, r, h => by simp [numF] at h; omega
  | c :: l, v, r, h => by
    simp only [numF] at h
    split at h
    · have := numF_ge base hb l _ _ h
      have := Nat.le_mul_of_pos_right v hb
      omega
    · cases h
theorem numP_some (base : Nat) : ∀ (l : List UInt8) (v r : Nat), numP base l v = some r → numF base l v = some r
  | [], v, r, h => by simpa [numP, numF] using h
  | c :: l, v, r, h => by
    simp only [numP] at h
    split at h
    · rename_i hc
      simp only [numF]
      rw [if_pos ⟨hc.1, hc.2.1⟩]
      exact numP_some base l _ _ h
    · cases h
theorem numP_none (base : Nat) (hb : 2 ≤ base) : ∀ (l : List UInt8) (v : Nat), numP base l v = none → numF base l v = none ∨ ∃ r, numF base l v = some r ∧ 1114111 < r
  | [], v, h => by simp [numP] at h
  | c :: l, v, h => by
    simp only [numP] at h
    simp only [numF]
    by_cases hd : 0 ≤ dig c.toNat ∧ dig c.toNat < base
    · rw [if_pos hd]
      by_cases hv : v ≤ 8388607
      · rw [if_pos ⟨hd.1, hd.2, hv⟩] at h
        exact numP_none base hb l _ h
      · cases hf : numF base l (v * base + (dig c.toNat).toNat) with
        | none => exact .inl rfl
        | some r =>
          have := numF_ge base (by omega) l _ _ hf
          have := Nat.le_mul_of_pos_right v (show 0 < base by omega)
          exact .inr ⟨r, rfl, by omega⟩
    · rw [if_neg hd]; exact .inl rfl
theorem numF_lt (base : Nat) (hb : 1 ≤ base) : ∀ (l : List UInt8) (v r : Nat), numF base l v = some r → r < (v + 1) * base ^ l.length
  | [], v, r, h => by simp [numF] at h; simp; omega
  | c :: l, v, r, h => by
    simp only [numF] at h
    split at h
    · rename_i hc
      have h1 := numF_lt base hb l _ _ h
      have h2 : v * base + (dig c.toNat).toNat + 1 ≤ (v + 1) * base := by rw [Nat.add_mul]; omega
      have h3 := Nat.mul_le_mul_right (base ^ l.length) h2
      rw [List.length_cons, Nat.pow_succ, ← Nat.mul_assoc, Nat.mul_right_comm]
      omega
    · cases h

/-! ### escapes -/
def plainB (c : Nat) : Nat := if c = 97 then 7 else if c = 98 then 8 else if c = 116 then 9 else if c = 110 then 10 else if c = 118 then 11 else if c = 102 then 12 else 13
def isLetter (c : Nat) : Bool := c == 97 || c == 98 || c == 116 || c == 110 || c == 118 || c == 102 || c == 114
def byteOf (v : Nat) : List UInt8 := [UInt8.ofNat v]
/-- what stands behind a backslash: what it means, and how many bytes it takes -/
def escL (q : Nat) : List UInt8 → Option (List UInt8 × Nat)
  | [] => none
  | c :: r =>
    if isLetter c.toNat then some (byteOf (plainB c.toNat), 1)
    else if c.toNat = 92 ∨ c.toNat = q then some ([c], 1)
    else if c.toNat = 120 then (numL 16 2 r).map fun v => (byteOf v, 3)
    else if c.toNat = 117 then (numL 16 4 r).bind fun v => if Utf8.valid (v : Int) then some ((Utf8.encode (v : Int)).toList, 5) else none
    else if c.toNat = 85 then (numL 16 8 r).bind fun v => if Utf8.valid (v : Int) then some ((Utf8.encode (v : Int)).toList, 9) else none
    else (numL 8 3 (c :: r)).bind fun v => if v ≤ 255 then some (byteOf v, 3) else none
/-- what the bytes between the quotes mean -/
def unq (q : Nat) (l : List UInt8) : Option (List UInt8) :=
  match l with
  | [] => some []
  | c :: r =>
    if c.toNat ≠ 92 then (unq q r).map (c :: ·)
    else match escL q r with
      | none => none
      | some (bs, n) => (unq q (r.drop n)).map (bs ++ ·)
termination_by l.length
decreasing_by
  · simp
  · simp; omega
theorem unq_nil (q : Nat) : unq q [] = some [] := by rw [unq]
theorem unq_plain (q : Nat) (c : UInt8) (r : List UInt8) (h : c.toNat ≠ 92) : unq q (c :: r) = (unq q r).map (c :: ·) := by rw [unq, if_pos h]
theorem unq_none (q : Nat) (c : UInt8) (r : List UInt8) (h : c.toNat = 92) (he : escL q r = none) : unq q (c :: r) = none := by rw [unq, if_neg (by omega), he]
theorem unq_some (q : Nat) (c : UInt8) (r : List UInt8) (h : c.toNat = 92) (bs : List UInt8) (n : Nat) (he : escL q r = some (bs, n)) : unq q (c :: r) = (unq q (r.drop n)).map (bs ++ ·) := by rw [unq, if_neg (by omega), he]
/-- the meaning and the error -/
def unqR : Option (List UInt8) → List UInt8 × Int
  | none => ([], 11)
  | some b => if valid ⟨b.toArray⟩ then (b, 0) else ([], 13)
/-- a literal's value and the error -/
def unquote (s : ByteArray) : List UInt8 × Int :=
  if valid s = false then ([], 4)
  else if literal s 0 ≠ ((s.size : Int), 0) then ([], 10)
  else if at' s 0 = 96 then ((s.data.toList.drop 1).take (s.size - 2), 0)
  else unqR (unq (at' s 0) ((s.data.toList.drop 1).take (s.size - 2)))
end Go.Proofs.YtcbggkdginfakaaDoor.U
namespace Go.Proofs.YtcbggkdginfakaaDoor
open Go.RowKit

theorem IsRune_any (n : Int) (w : World) (h1 : -9223372036854775808 ≤ n) (h2 : n ≤ 9223372036854775807) :
    Calls Tryd.prog 45 #[.int .i64 n] w fun e w' => e = .returned (.bool (Utf8.valid n)) ∧ w = w' := by
  go_enter Tryd.func45, Tryd.ntmps45
  go_wp2
  all_goals go_ret
  all_goals exact ⟨ret_bool (by rw [Bool.eq_iff_iff, U.valid_iff]; simp; omega), rfl⟩

theorem strOfNums_enc (l : List Int) (b : ByteArray) (h : b.toList = l.map (fun n => UInt8.ofNat n.toNat)) : strOfNums l = b := by
  have : (strOfNums l).data.toList = b.data.toList := by rw [strOfNums_data, ← h, ByteArray.toList_eq]
  exact ByteArray.ext (Array.toList_inj.1 this)

theorem conv_new (k : Nat) (C : Array Value) (xs : List Int) (hC : C = (xs.map (Value.int .u8)).toArray) (hk : xs.length = k) (W : World) :
    (convert 35 9 (.slice (some ⟨W.heap.size, 0, none⟩) k k)).run Tryd.prog (W.alloc (.cells C 5)) = .ok (.string (strOfNums xs)) (W.alloc (.cells C 5)) := by
  refine run_convert_bytes_arg _ 35 5 Tryd.underlying35 Tryd.underlying5 _ 0 k k xs hk ?_ 9 Tryd.underlying9
  intro i hi
  rw [Nat.zero_add, World.cell?_alloc_mark, hC]
  simp [List.getD, hk ▸ hi]

theorem Form_any (n : Int) (w : World) (h1 : -9223372036854775808 ≤ n) (h2 : n ≤ 9223372036854775807) :
    Calls Tryd.prog 37 #[.int .i64 n] w fun e w' => e = .returned (.string (U.formB n)) ∧ Below w.heap.size w w' := by
  cases hv : Utf8.valid n with
  | false =>
    have H : Hid (Utf8.valid n = false) := hv
    clear hv
    go_enter Tryd.func37, Tryd.ntmps37
    go_wp2_with (go_at_call 45; refine (IsRune_any _ _ (by omega) (by omega)).mono ?_; rintro e w' ⟨rfl, rfl⟩; rw [H.out])
    go_ret
    exact ⟨ret_str (by unfold U.formB; rw [H.out]; rfl), Below.refl _ _⟩
  | true =>
    have h0 := (U.valid_iff n).1 hv
    have h3 : 0 ≤ n := by omega
    have h4 : n ≤ 1114111 := by omega
    clear h0
    have H : Hid (Utf8.valid n = true) := hv
    clear hv
    have c1 := fun (W : World) (a : Int) => conv_new 1 _ [a] rfl rfl W
    have c2 := fun (W : World) (a b : Int) => conv_new 2 _ [a, b] rfl rfl W
    have c3 := fun (W : World) (a b c : Int) => conv_new 3 _ [a, b, c] rfl rfl W
    have c4 := fun (W : World) (a b c d : Int) => conv_new 4 _ [a, b, c, d] rfl rfl W
    simp only [List.map_cons, List.map_nil] at c1 c2 c3 c4
    go_enter Tryd.func37, Tryd.ntmps37
    go_wp2_with (go_at_call 45; refine (IsRune_any _ _ (by omega) (by omega)).mono ?_; rintro e w' ⟨rfl, rfl⟩; rw [H.out])
    all_goals go_ret
    all_goals refine ⟨ret_str ?_, (Below.refl _ _).alloc (Nat.le_refl _) _⟩
    all_goals apply strOfNums_enc
    all_goals obtain ⟨m, rfl⟩ := Int.eq_ofNat_of_zero_le h3
    all_goals unfold U.formB
    all_goals rw [H.out, if_pos rfl, U.enc_list m H.out]
    · rw [if_pos (by omega)]; rfl
    · rw [if_neg (by omega), if_pos (by omega)]; rfl
    · rw [if_neg (by omega), if_neg (by omega), if_pos (by omega)]; rfl
    · rw [if_neg (by omega), if_neg (by omega), if_neg (by omega)]; rfl

theorem gs_bd (s : ByteArray) (i w : Nat) (hw : 1 ≤ w ∧ w ≤ 4) : -1000000000 ≤ U.gs s i w ∧ U.gs s i w ≤ 1000000000 := by
  have h0 := U.at_lt s i; have h1 := U.at_lt s (i+1); have h2 := U.at_lt s (i+2); have h3 := U.at_lt s (i+3)
  rcases (show w = 1 ∨ w = 2 ∨ w = 3 ∨ w = 4 by omega) with rfl | rfl | rfl | rfl <;> simp only [U.gs] <;> omega

theorem guess_any (s : ByteArray) (i w : Nat) (W : World) (hs : s.size ≤ 1125899906842624) (hw : 1 ≤ w ∧ w ≤ 4) (hi : i + w ≤ s.size) :
    Calls Tryd.prog 36 #[.string s, .int .i64 i, .int .i64 w] W fun e W' => e = .returned (.int .i64 (U.gs s i w)) ∧ W = W' := by
  have b0 := (s[i]'(by omega)).toNat_lt
  have e0 := U.at_eq s i (by omega)
  rcases (show w = 1 ∨ w = 2 ∨ w = 3 ∨ w = 4 by omega) with rfl | rfl | rfl | rfl
  · have E0 := Lib.hid e0; clear e0
    go_enter Tryd.func36, Tryd.ntmps36
    go_wp2
    go_ret
    exact ⟨ret_int (by simp only [U.gs]; rw [E0.out]), rfl⟩
  · have b1 := (s[i+1]'(by omega)).toNat_lt
    have e1 := U.at_eq s (i+1) (by omega)
    have E0 := Lib.hid e0; clear e0
    have E1 := Lib.hid e1; clear e1
    go_enter Tryd.func36, Tryd.ntmps36
    go_wp2
    refine wp_loop_rounds 2 ?_
    rw [rounds_succ]
    go_wp2
    rw [rounds_succ]
    go_wp2
    go_ret
    refine ⟨ret_int ?_, rfl⟩
    simp only [U.gs]
    rw [E0.out, E1.out]
  · have b1 := (s[i+1]'(by omega)).toNat_lt
    have e1 := U.at_eq s (i+1) (by omega)
    have b2 := (s[i+2]'(by omega)).toNat_lt
    have e2 := U.at_eq s (i+2) (by omega)
    have E0 := Lib.hid e0; clear e0
    have E1 := Lib.hid e1; clear e1
    have E2 := Lib.hid e2; clear e2
    go_enter Tryd.func36, Tryd.ntmps36
    go_wp2
    refine wp_loop_rounds 3 ?_
    rw [rounds_succ]
    go_wp2
    rw [rounds_succ]
    go_wp2
    rw [rounds_succ]
    go_wp2
    go_ret
    refine ⟨ret_int ?_, rfl⟩
    simp only [U.gs]
    rw [E0.out, E1.out, E2.out]
  · have b1 := (s[i+1]'(by omega)).toNat_lt
    have e1 := U.at_eq s (i+1) (by omega)
    have b2 := (s[i+2]'(by omega)).toNat_lt
    have e2 := U.at_eq s (i+2) (by omega)
    have b3 := (s[i+3]'(by omega)).toNat_lt
    have e3 := U.at_eq s (i+3) (by omega)
    have E0 := Lib.hid e0; clear e0
    have E1 := Lib.hid e1; clear e1
    have E2 := Lib.hid e2; clear e2
    have E3 := Lib.hid e3; clear e3
    go_enter Tryd.func36, Tryd.ntmps36
    go_wp2
    refine wp_loop_rounds 4 ?_
    rw [rounds_succ]
    go_wp2
    rw [rounds_succ]
    go_wp2
    rw [rounds_succ]
    go_wp2
    rw [rounds_succ]
    go_wp2
    go_ret
    refine ⟨ret_int ?_, rfl⟩
    simp only [U.gs]
    rw [E0.out, E1.out, E2.out, E3.out]
end Go.Proofs.YtcbggkdginfakaaDoor
namespace Go.Proofs.YtcbggkdginfakaaDoor
open Go.RowKit

namespace U
/-- the rune that begins at a place, and its width; -1 and 0: none -/
def next (s : ByteArray) (i : Int) : Int × Int :=
  if 0 ≤ i ∧ i < s.size then (if bad s i.toNat then (-1, 0) else (run s i.toNat, (Utf8.decode s i.toNat).2)) else (-1, 0)
theorem next_out (s : ByteArray) (i : Int) (h : i < 0 ∨ s.size ≤ i) : next s i = (-1, 0) := by
  unfold next; rw [if_neg (by omega)]
theorem next_bad (s : ByteArray) (i : Nat) (h : bad s i = true) : next s i = (-1, 0) := by
  unfold next; split <;> simp [h]
theorem next_good (s : ByteArray) (i : Nat) (hi : i < s.size) (h : bad s i = false) : next s i = ((run s i : Int), ((Utf8.decode s i).2 : Int)) := by
  unfold next; rw [if_pos (by omega)]; simp [h]
theorem next_wid (s : ByteArray) (i : Nat) : (next s i).2 = wid s i := by
  unfold next wid
  by_cases h : i < s.size
  · rw [if_pos (by omega), if_pos h]; simp only [Int.toNat_natCast]; split <;> rfl
  · rw [if_neg (by omega), if_neg h]; rfl
theorem run_bd (s : ByteArray) (i : Nat) : run s i ≤ 2147483647 := decode_le s i
end U

theorem ret_next {a b c d : Int} (h1 : a = c) (h2 : b = d) : Ending.returned (.tuple #[.int .i32 a, .int .i64 b]) = .returned (.tuple #[.int .i32 c, .int .i64 d]) := by rw [h1, h2]

theorem refNext_in (s : ByteArray) (i : Nat) (W : World) (hs : s.size ≤ 1125899906842624) (hi : i < s.size) :
    Calls Tryd.prog 25 #[.string s, .int .i64 i] W fun e W' => e = .returned (.tuple #[.int .i32 (U.next s i).1, .int .i64 (U.next s i).2]) ∧ Below W.heap.size W W' := by
  have hd : decide (s.size ≤ i) = false := by simpa using hi
  go_enter Tryd.func25, Tryd.ntmps25
  go_wp2
  go_loopw [6] (fun x wr => ∃ k : Nat, 1 ≤ k ∧ k ≤ 5 ∧ x = .int .i64 k ∧ Hid (∀ j, 1 ≤ j → j < k → i + j ≤ s.size → U.hit s i j = false) ∧ Below W.heap.size W wr) (fun x _ => 5 - (intOf x).toNat)
  case atStart => exact ⟨1, by omega, by omega, rfl, (fun j h1 h2 => by omega), Below.refl _ _⟩
  case round =>
    obtain ⟨k, hk1, hk5, rfl, hno, hbel⟩ := hrel
    by_cases hk : k ≤ 4 ∧ i + k ≤ s.size
    · obtain ⟨hk4, hik⟩ := hk
      have hg := gs_bd s i k ⟨hk1, hk4⟩
      cases c1 : (((U.formB (U.gs s i k)).size : Int) == (k : Int)) with
      | false =>
        have hh : U.hit s i k = false := by
          unfold U.hit
          have : ((U.formB (U.gs s i k)).size == k) = false := by rw [beq_eq_false_iff_ne] at c1 ⊢; omega
          rw [this]; rfl
        have G : Hid (∀ j, 1 ≤ j → j < k + 1 → i + j ≤ s.size → U.hit s i j = false) := fun j h1 h2 h3 => by
          by_cases e : j = k
          · rw [e]; exact hh
          · exact hno.out j h1 (by omega) h3
        clear hh
        go_wp2_with (first
          | (go_at_call 36; refine (guess_any s i k _ hs ⟨hk1, hk4⟩ hik).mono ?_; rintro e w' ⟨rfl, rfl⟩)
          | (go_at_call 37; refine (Form_any _ _ (by omega) (by omega)).mono ?_; rintro e w1 ⟨rfl, hb1⟩))
        go_roundw
        case rel => exact ⟨k + 1, by omega, by omega, by go_num, G, hbel.trans ((show Below _ _ _ by assumption).mono hbel.size)⟩
        case measure => simp [intOf]; omega
      | true =>
        cases c2 : ((s.extract i (i + k)).toList == (U.formB (U.gs s i k)).toList) with
        | false =>
          have hh : U.hit s i k = false := by
            unfold U.hit
            rw [c2, Bool.and_false]
          have G : Hid (∀ j, 1 ≤ j → j < k + 1 → i + j ≤ s.size → U.hit s i j = false) := fun j h1 h2 h3 => by
            by_cases e : j = k
            · rw [e]; exact hh
            · exact hno.out j h1 (by omega) h3
          clear hh
          go_wp2_with (first
            | (go_at_call 36; refine (guess_any s i k _ hs ⟨hk1, hk4⟩ hik).mono ?_; rintro e w' ⟨rfl, rfl⟩)
            | (go_at_call 37; refine (Form_any _ _ (by omega) (by omega)).mono ?_; rintro e w1 ⟨rfl, hb1⟩))
          go_roundw
          case rel => exact ⟨k + 1, by omega, by omega, by go_num, G, hbel.trans ((show Below _ _ _ by assumption).mono hbel.size)⟩
          case measure => simp [intOf]; omega
        | true =>
          have hh : U.hit s i k = true := by
            unfold U.hit
            have : ((U.formB (U.gs s i k)).size == k) = true := by rw [beq_iff_eq] at c1 ⊢; omega
            rw [this, c2]; rfl
          obtain ⟨d0, d1, d2⟩ := U.hit_dec s i k ⟨hk1, hk4⟩ hik hh
          have G : Hid (U.next s i = (U.gs s i k, (k : Int))) := by
            show _ = _
            rw [U.next_good s i hi d2]
            unfold U.run
            rw [d1]
            simp only [Int.toNat_of_nonneg d0]
          clear hh d1 d2
          go_wp2_with (first
            | (go_at_call 36; refine (guess_any s i k _ hs ⟨hk1, hk4⟩ hik).mono ?_; rintro e w' ⟨rfl, rfl⟩)
            | (go_at_call 37; refine (Form_any _ _ (by omega) (by omega)).mono ?_; rintro e w1 ⟨rfl, hb1⟩))
          go_ret2
          exact ⟨ret_next (by rw [G.out]) (by rw [G.out]), hbel.trans ((show Below _ _ _ by assumption).mono hbel.size)⟩
    · have G : Hid (U.next s i = (-1, 0)) := U.next_bad s i (U.no_hit s i hi fun j h1 h2 h3 => hno.out j h1 (by omega) h3)
      by_cases hk4 : k ≤ 4
      · have : ¬ (i + k ≤ s.size) := fun h => hk ⟨hk4, h⟩
        clear hk
        go_wp2
        go_ret2
        exact ⟨ret_next (by rw [G.out]) (by rw [G.out]), hbel⟩
      · clear hk
        go_wp2
        go_ret2
        exact ⟨ret_next (by rw [G.out]) (by rw [G.out]), hbel⟩

theorem refNext_any (s : ByteArray) (i : Int) (W : World) (hs : s.size ≤ 1125899906842624) :
    Calls Tryd.prog 25 #[.string s, .int .i64 i] W fun e W' => e = .returned (.tuple #[.int .i32 (U.next s i).1, .int .i64 (U.next s i).2]) ∧ Below W.heap.size W W' := by
  by_cases h0 : i < 0
  · have G : Hid (U.next s i = (-1, 0)) := U.next_out s i (Or.inl h0)
    go_enter Tryd.func25, Tryd.ntmps25
    go_wp2
    go_ret2
    exact ⟨ret_next (by rw [G.out]) (by rw [G.out]), Below.refl _ _⟩
  by_cases h1 : (s.size : Int) ≤ i
  · have G : Hid (U.next s i = (-1, 0)) := U.next_out s i (Or.inr h1)
    go_enter Tryd.func25, Tryd.ntmps25
    go_wp2
    go_ret2
    exact ⟨ret_next (by rw [G.out]) (by rw [G.out]), Below.refl _ _⟩
  obtain ⟨n, rfl⟩ := Int.eq_ofNat_of_zero_le (show 0 ≤ i by omega)
  exact refNext_in s n W hs (by omega)

theorem refValid_any (s : ByteArray) (W : World) (hs : s.size ≤ 1125899906842624) :
    Calls Tryd.prog 10 #[.string s] W fun e W' => e = .returned (.bool (U.valid s)) ∧ Below W.heap.size W W' := by
  go_enter Tryd.func10, Tryd.ntmps10
  go_wp2
  go_loopw [3] (fun x wr => ∃ p : Nat, p ≤ s.size ∧ x = .int .i64 p ∧ Hid (U.vfrom s p = U.valid s) ∧ Below W.heap.size W wr) (fun x _ => s.size - (intOf x).toNat)
  case atStart => exact ⟨0, by omega, rfl, rfl, Below.refl _ _⟩
  case round =>
    obtain ⟨p, hp, rfl, hv, hbel⟩ := hrel
    by_cases hlt : p < s.size
    · cases hb : U.bad s p with
      | true =>
        have N : Hid (U.next s p = (-1, 0)) := U.next_bad s p hb
        have G : Hid (U.valid s = false) := by show _ = _; rw [← hv.out, U.vfrom_bad s p hlt hb]
        clear hb
        go_wp2_with (go_at_call 25; refine (refNext_any s p _ hs).mono ?_; rintro e w1 ⟨rfl, hb1⟩; rw [N.out])
        go_ret
        exact ⟨ret_bool G.out.symm, hbel.trans ((show Below _ _ _ by assumption).mono hbel.size)⟩
      | false =>
        have N : Hid (U.next s p = ((U.run s p : Int), ((Utf8.decode s p).2 : Int))) := U.next_good s p hlt hb
        have G : Hid (U.vfrom s (p + (Utf8.decode s p).2) = U.valid s) := by show _ = _; rw [← hv.out, U.vfrom_step s p hlt hb]
        clear hb
        have hle := U.dec_le s p hlt
        have hdp := U.dec_pos s p
        have hne : (((Utf8.decode s p).2 : Int) == 0) = false := by rw [beq_eq_false_iff_ne]; omega
        go_wp2_with (go_at_call 25; refine (refNext_any s p _ hs).mono ?_; rintro e w1 ⟨rfl, hb1⟩; rw [N.out])
        go_roundw
        case rel => exact ⟨p + (Utf8.decode s p).2, hle, by go_num, G, hbel.trans ((show Below _ _ _ by assumption).mono hbel.size)⟩
        case measure => simp [intOf]; omega
    · have G : Hid (U.valid s = true) := by show _ = _; rw [← hv.out, U.vfrom_end s p hlt]
      go_wp2
      go_ret
      exact ⟨ret_bool G.out.symm, hbel⟩

namespace U
theorem at_out (s : ByteArray) (k : Nat) (h : s.size ≤ k) : at' s k = 0 := by
  unfold at'
  simp only [ByteArray.get!, Array.getElem!_eq_getD, Array.getD]
  rw [dif_neg (show ¬ k < s.data.size from Nat.not_lt.2 h)]
  rfl
theorem at_ext (s : ByteArray) (a b k : Nat) (hb : b ≤ s.size) (hk : a + k < b) : at' (s.extract a b) k = at' s (a + k) := by
  have hz : (s.extract a b).size = b - a := by rw [ByteArray.size_extract]; omega
  have h1 := Lib.extract_data s a b
  have h2 : (s.extract a b).data.toList[k]? = s.data.toList[a+k]? := by
    rw [h1, List.getElem?_take, if_pos (by omega), List.getElem?_drop]
  rw [data_get _ _ (by omega), data_get _ _ (by omega)] at h2
  unfold at'
  rw [Option.some.inj h2]
theorem dec_ext (s : ByteArray) (i e : Nat) (hi : i < s.size) (he : e = min s.size (i + 4)) : Utf8.decode (s.extract i e) 0 = Utf8.decode s i := by
  have hz : (s.extract i e).size = e - i := by rw [ByteArray.size_extract]; omega
  have h : ∀ k, k < 4 → at' (s.extract i e) k = at' s (i + k) := by
    intro k hk
    by_cases c : i + k < e
    · exact at_ext s i e k (by omega) c
    · rw [at_out _ _ (by omega), at_out _ _ (by omega)]
  have g0 := h 0 (by omega); have g1 := h 1 (by omega); have g2 := h 2 (by omega); have g3 := h 3 (by omega)
  have z : ∀ k, 1 ≤ k → k < 4 → ((0 + k < (s.extract i e).size) ↔ (i + k < s.size)) := fun k _ _ => by omega
  rw [decode_eq, decode_eq]
  simp only [Nat.zero_add, Nat.add_zero] at g0 g1 g2 g3 z ⊢
  have z1 := z 1 (by omega) (by omega); have z2 := z 2 (by omega) (by omega); have z3 := z 3 (by omega) (by omega)
  simp only [g0, g1, g2, g3, z1, z2, z3]
end U

end Go.Proofs.YtcbggkdginfakaaDoor
namespace Go.Proofs.YtcbggkdginfakaaDoor
open Go.RowKit
set_option linter.unusedVariables false
set_option linter.unusedSimpArgs false
/-- the number of k digits at the head of l, given up where it gets great -/
def U.numQ (base k : Nat) (l : List UInt8) : Option Nat := if l.length < k then none else U.numP base (l.take k) 0
def digR : Option Nat → Int × Bool
  | some v => (v, true)
  | none => (0, false)
theorem ret_dig {a c : Int} {b d : Bool} (h1 : a = c) (h2 : b = d) : Ending.returned (.tuple #[.int .i32 a, .bool b]) = .returned (.tuple #[.int .i32 c, .bool d]) := by rw [h1, h2]

end Go.Proofs.YtcbggkdginfakaaDoor
namespace Go.Proofs.YtcbggkdginfakaaDoor
open Go.RowKit
set_option linter.unusedVariables false
set_option linter.unusedSimpArgs false
namespace U
theorem numQ_none (base k : Nat) (l : List UInt8) (hb : 2 ≤ base) (h : numQ base k l = none) : numL base k l = none ∨ ∃ r, numL base k l = some r ∧ 1114111 < r := by
  unfold numQ at h
  unfold numL
  by_cases hl : l.length < k
  · rw [if_pos hl]; exact .inl rfl
  · rw [if_neg hl] at h ⊢
    exact numP_none base hb _ _ h
theorem numQ_some (base k : Nat) (l : List UInt8) (r : Nat) (h : numQ base k l = some r) : numL base k l = some r := by
  unfold numQ at h
  unfold numL
  by_cases hl : l.length < k
  · rw [if_pos hl] at h; cases h
  · rw [if_neg hl] at h ⊢
    exact numP_some base _ _ _ h
theorem numL_lt (base k : Nat) (l : List UInt8) (r : Nat) (hb : 1 ≤ base) (h : numL base k l = some r) : r < base ^ k := by
  unfold numL at h
  by_cases hl : l.length < k
  · rw [if_pos hl] at h; cases h
  · rw [if_neg hl] at h
    have := numF_lt base hb _ _ _ h
    rw [List.length_take, Nat.min_eq_left (by omega)] at this
    omega
theorem numQ_eq (base k : Nat) (l : List UInt8) (hb : 2 ≤ base) (hk : base ^ k ≤ 1114111) : numQ base k l = numL base k l := by
  cases h : numQ base k l with
  | some r => exact (numQ_some base k l r h).symm
  | none =>
    rcases numQ_none base k l hb h with h1 | ⟨r, h1, h2⟩
    · exact h1.symm
    · have := numL_lt base k l r (by omega) h1; omega
theorem valid_big (r : Nat) (h : 1114111 < r) : Utf8.valid (r : Int) = false := by
  cases hv : Utf8.valid (r : Int) with
  | false => rfl
  | true => have := (valid_iff _).1 hv; omega
/-- a number's rune and what is made of it -/
def runeOf (o : Option Nat) (k : Nat) : Option (List UInt8 × Nat) := o.bind fun v => if Utf8.valid (v : Int) then some ((Utf8.encode (v : Int)).toList, k) else none
theorem runeOf_none (k : Nat) : runeOf none k = none := rfl
theorem runeOf_bad (v k : Nat) (h : Utf8.valid (v : Int) = false) : runeOf (some v) k = none := by unfold runeOf; rw [Option.bind_some, h]; rfl
theorem runeOf_good (v k : Nat) (h : Utf8.valid (v : Int) = true) : runeOf (some v) k = some ((Utf8.encode (v : Int)).toList, k) := by unfold runeOf; rw [Option.bind_some, h]; rfl
theorem rune8 (m : Nat) (l : List UInt8) (k : Nat) : runeOf (numL 16 m l) k = runeOf (numQ 16 m l) k := by
  cases h : numQ 16 m l with
  | some r => rw [numQ_some 16 m l r h]
  | none =>
    rcases numQ_none 16 m l (by omega) h with h1 | ⟨r, h1, h2⟩
    · rw [h1]
    · rw [h1, runeOf_bad r k (valid_big r h2), runeOf_none]
theorem numQ_lt (base k : Nat) (l : List UInt8) (r : Nat) (hb : 1 ≤ base) (h : numQ base k l = some r) : r < base ^ k := numL_lt base k l r hb (numQ_some base k l r h)
end U

theorem list_head (s : ByteArray) (h : 0 < s.size) : ∃ c : UInt8, c.toNat = U.at' s 0 ∧ s.data.toList = c :: (s.extract 1 s.size).data.toList := by
  obtain ⟨h', e⟩ := list_at s 0 h
  refine ⟨_, e, ?_⟩
  rw [Lib.extract_data]
  have h1 : s.data.toList.length = s.size := (Lib.size_eq s).symm
  have h2 := List.drop_eq_getElem_cons h'
  rw [List.drop_zero] at h2
  rw [← h1, show s.data.toList.length - 1 = (s.data.toList.drop 1).length by simp, List.take_length]
  exact h2

theorem grown_trans {a b c : World} {row : Option Nat} (h : a.grownBy b row) (k : b.grownBy c row) : a.grownBy c row :=
  ⟨k.os.trans h.os, k.tape.trans h.tape, k.output.trans h.output, Nat.le_trans h.size k.size, fun i hi hne => (k.block i (Nat.lt_of_lt_of_le hi h.size) hne).trans (h.block i hi hne)⟩
theorem grown_of_below {a b : World} (h : Below a.heap.size a b) (row : Option Nat) : a.grownBy b row := ⟨h.os, h.tape, h.output, h.size, fun i hi _ => h.block i hi⟩

/-- what escape leaves: nothing is put behind the row (and 0), or what the escape means (and how many bytes it takes) -/
def EscPost (B : Nat) (e : TypeId) (w : World) (v : Value) (n : Nat) (xs : List Value) (r : Option (List UInt8 × Nat)) (en : Ending) (w' : World) : Prop :=
  match r with
  | none => en = .returned (.tuple #[v, .int .i64 0]) ∧ Below w.heap.size w w'
  | some (bs, k) => ∃ v', en = .returned (.tuple #[v', .int .i64 (k : Int)]) ∧ w'.ownsRow B e 1 v' (n + bs.length) (xs ++ cellsB bs) ∧ w.grownBy w' v.ownBlock

theorem numP_le (base : Nat) (hb : base ≤ 16) : ∀ (l : List UInt8) (v r : Nat), v ≤ 134217743 → U.numP base l v = some r → r ≤ 134217743
  | [], v, r, hv, h => by simp [U.numP] at h; omega
  | c :: l, v, r, hv, h => by
    simp only [U.numP] at h
    split at h
    · rename_i hc
      refine numP_le base hb l _ _ ?_ h
      have := U.dig_bd c.toNat
      have h2 := Nat.mul_le_mul hc.2.2 hb
      omega
    · cases h
theorem numQ_i32 {base k : Nat} {l : List UInt8} {r : Nat} (h : U.numQ base k l = some r) (hb : base ≤ 16 := by decide) : r ≤ 2147483647 := by
  unfold U.numQ at h
  split at h
  · cases h
  · have := numP_le base hb _ _ _ (by omega) h; omega

end Go.Proofs.YtcbggkdginfakaaDoor
namespace Go.Proofs.YtcbggkdginfakaaDoor.U
open Go
theorem enc_len (v : Nat) (hv : Utf8.valid (v : Int) = true) : (Utf8.encode (v : Int)).toList.length ≤ 4 := by
  have := enc_size v hv
  rw [ByteArray.toList_eq, ← Lib.size_eq, this]
  repeat' split
  all_goals omega
theorem escL_len (q : Nat) (l : List UInt8) (bs : List UInt8) (k : Nat) (h : escL q l = some (bs, k)) : bs.length ≤ k ∧ 1 ≤ k ∧ k ≤ l.length := by
  cases l with
  | nil => cases h
  | cons c r =>
    rw [escL] at h
    by_cases h1 : isLetter c.toNat = true
    · rw [if_pos h1] at h; cases h; exact ⟨by simp [byteOf], by omega, by simp⟩
    rw [if_neg h1] at h
    by_cases h2 : c.toNat = 92 ∨ c.toNat = q
    · rw [if_pos h2] at h; cases h; exact ⟨by simp, by omega, by simp⟩
    rw [if_neg h2] at h
    have nl : ∀ b m v, numL b m r = some v → m ≤ r.length := by
      intro b m v hv; unfold numL at hv; split at hv
      · cases hv
      · omega
    by_cases h3 : c.toNat = 120
    · rw [if_pos h3] at h
      cases hn : numL 16 2 r with
      | none => rw [hn] at h; cases h
      | some v => rw [hn] at h; cases h; have := nl _ _ _ hn; exact ⟨by simp [byteOf], by omega, by simp; omega⟩
    rw [if_neg h3] at h
    have ru : ∀ m kk, 4 ≤ kk → kk ≤ m + 1 → runeOf (numL 16 m r) kk = some (bs, k) → bs.length ≤ k ∧ 1 ≤ k ∧ k ≤ (c :: r).length := by
      intro m kk h4 h5 hr
      cases hn : numL 16 m r with
      | none => rw [hn] at hr; cases hr
      | some v =>
        rw [hn] at hr
        have := nl _ _ _ hn
        cases hv : Utf8.valid (v : Int) with
        | false => rw [runeOf_bad v _ hv] at hr; cases hr
        | true =>
          rw [runeOf_good v _ hv] at hr
          cases hr
          have := enc_len v hv
          exact ⟨by omega, by omega, by simp; omega⟩
    by_cases h4 : c.toNat = 117
    · rw [if_pos h4] at h; exact ru 4 5 (by omega) (by omega) h
    rw [if_neg h4] at h
    by_cases h5 : c.toNat = 85
    · rw [if_pos h5] at h; exact ru 8 9 (by omega) (by omega) h
    rw [if_neg h5] at h
    cases hn : numL 8 3 (c :: r) with
    | none => rw [hn] at h; cases h
    | some v =>
      rw [hn] at h
      have hl : 3 ≤ (c :: r).length := by
        unfold numL at hn; split at hn
        · cases hn
        · omega
      by_cases h6 : v ≤ 255
      · have h' : some (byteOf v, 3) = some (bs, k) := by rw [← h]; exact (if_pos h6).symm
        cases h'; exact ⟨by simp [byteOf], by omega, hl⟩
      · have h' : (none : Option (List UInt8 × Nat)) = some (bs, k) := by rw [← h]; exact (if_neg h6).symm
        cases h'
theorem drop_cons (t : ByteArray) (p : Nat) (h : p < t.size) : ∃ c : UInt8, c.toNat = at' t p ∧ t.data.toList.drop p = c :: t.data.toList.drop (p + 1) := by
  obtain ⟨h', e⟩ := list_at t p h
  exact ⟨_, e, List.drop_eq_getElem_cons h'⟩
theorem ext_drop (t : ByteArray) (p : Nat) : (t.extract p t.size).data.toList = t.data.toList.drop p := by
  rw [Lib.extract_data, Lib.size_eq, ← List.length_drop, List.take_length]
theorem ext_mid (s : ByteArray) (h : 2 ≤ s.size) : (s.extract 1 (s.size - 1)).data.toList = (s.data.toList.drop 1).take (s.size - 2) := by
  rw [Lib.extract_data, show s.size - 1 - 1 = s.size - 2 by omega]
theorem lit_gt (s : ByteArray) (q : Nat) : ∀ m i n, s.size - i = m → lit s q i = some n → i < n ∧ n ≤ s.size := by
  intro m
  induction m using Nat.strongRecOn with
  | ind m ih =>
    intro i n hm h
    rw [lit] at h
    split at h
    · rename_i hi
      split at h
      · cases h; omega
      · split at h
        · have := ih (s.size - (i + 1)) (by omega) _ _ rfl h; omega
        · split at h
          · cases h
          · split at h
            · split at h
              · cases h
              · have := ih (s.size - (i + 2)) (by omega) _ _ rfl h; omega
            · have := ih (s.size - (i + 1)) (by omega) _ _ rfl h; omega
    · cases h
end Go.Proofs.YtcbggkdginfakaaDoor.U
namespace Go.Proofs.YtcbggkdginfakaaDoor.U
open Go
theorem get_list (s : ByteArray) (k : Nat) : s.get! k = (s.data.toList[k]?).getD 0 := by
  by_cases h : k < s.size
  · rw [data_get s k h]; rfl
  · rw [List.getElem?_eq_none (by rw [← Lib.size_eq]; omega)]
    simp only [ByteArray.get!, Array.getElem!_eq_getD, Array.getD]
    rw [dif_neg (show ¬ k < s.data.size from h)]
    rfl
theorem at_list (s : ByteArray) (k : Nat) : at' s k = ((s.data.toList[k]?).getD 0).toNat := by unfold at'; rw [get_list]
theorem app_data (a b : ByteArray) : (a ++ b).data.toList = a.data.toList ++ b.data.toList := by
  rw [ByteArray.data_append, Array.toList_append]
theorem app_size (a b : ByteArray) : (a ++ b).size = a.size + b.size := ByteArray.size_append
theorem at_app_l (a b : ByteArray) (k : Nat) (h : k < a.size) : at' (a ++ b) k = at' a k := by
  rw [at_list, at_list, app_data, List.getElem?_append_left (by rw [← Lib.size_eq]; exact h)]
theorem at_app_r (a b : ByteArray) (k : Nat) : at' (a ++ b) (a.size + k) = at' b k := by
  rw [at_list, at_list, app_data, List.getElem?_append_right (by rw [← Lib.size_eq]; omega), ← Lib.size_eq, Nat.add_sub_cancel_left]

/-- a rune that stands whole in a stands in a ++ b -/
theorem dec_mono (a c : ByteArray) (p : Nat) (hg : bad a p = false) (hs : ∀ k, k < (Utf8.decode a p).2 → at' c (p + k) = at' a (p + k)) (hz : p + (Utf8.decode a p).2 ≤ c.size) : Utf8.decode c p = Utf8.decode a p := by
  have hv := good_valid a p hg
  rcases good_cases a p hg with ⟨h1, h2⟩ | ⟨_, h1, h2, a0, a1, h3⟩ | ⟨_, h1, h2, hv2, a0, a1, a2, h3⟩ | ⟨_, h1, hv2, a0, a1, a2, a3, h3⟩
  · have e := hs 0 (by rw [h2]; exact Nat.one_pos)
    rw [Nat.add_zero] at e
    rw [h2, ← e]
    exact dec1 c p (by omega)
  · rw [h3] at hs hz
    have e0 := hs 0 (by omega); have e1 := hs 1 (by omega)
    rw [Nat.add_zero] at e0
    rw [dec2 c p (run a p) (by omega) h1 h2 (by omega) (by omega)]
    exact Prod.ext rfl h3.symm
  · rw [h3] at hs hz
    have e0 := hs 0 (by omega); have e1 := hs 1 (by omega); have e2 := hs 2 (by omega)
    rw [Nat.add_zero] at e0
    rw [dec3 c p (run a p) (by omega) h1 h2 hv2 (by omega) (by omega) (by omega)]
    exact Prod.ext rfl h3.symm
  · rw [h3] at hs hz
    have e0 := hs 0 (by omega); have e1 := hs 1 (by omega); have e2 := hs 2 (by omega); have e3 := hs 3 (by omega)
    rw [Nat.add_zero] at e0
    rw [dec4 c p (run a p) (by omega) h1 hv2 (by omega) (by omega) (by omega) (by omega)]
    exact Prod.ext rfl h3.symm

theorem bad_eq {a c : ByteArray} {p q : Nat} (h : Utf8.decode c p = Utf8.decode a q) : bad c p = bad a q := by unfold bad; rw [h]
theorem run_eq {a c : ByteArray} {p q : Nat} (h : Utf8.decode c p = Utf8.decode a q) : run c p = run a q := by unfold run; rw [h]

/-- behind a, a ++ b decodes as b -/
theorem dec_app_r (a b : ByteArray) (q : Nat) : Utf8.decode (a ++ b) (a.size + q) = Utf8.decode b q := by
  have g : ∀ k, at' (a ++ b) (a.size + q + k) = at' b (q + k) := fun k => by rw [Nat.add_assoc]; exact at_app_r a b (q + k)
  have g0 := g 0; have g1 := g 1; have g2 := g 2; have g3 := g 3
  have z : ∀ k, ((a.size + q + k < (a ++ b).size) ↔ (q + k < b.size)) := fun k => by rw [app_size]; omega
  have z1 := z 1; have z2 := z 2; have z3 := z 3
  simp only [Nat.add_zero] at g0
  rw [decode_eq, decode_eq]
  simp only [g0, g1, g2, g3, z1, z2, z3]

/-- inside a form there are bytes that begin no rune -/
theorem mid_byte (s : ByteArray) (p m : Nat) (hg : bad s p = false) (h1 : p < m) (h2 : m < p + (Utf8.decode s p).2) : 128 ≤ at' s m ∧ at' s m < 192 := by
  have hv := (valid_iff _).1 (good_valid s p hg)
  rcases good_cases s p hg with ⟨c1, c2⟩ | ⟨_, _, _, a0, a1, h3⟩ | ⟨_, _, _, _, a0, a1, a2, h3⟩ | ⟨_, _, _, a0, a1, a2, a3, h3⟩
  · rw [c2] at h2; dsimp only at h2; omega
  · rw [h3] at h2
    obtain rfl : m = p + 1 := by omega
    omega
  · rw [h3] at h2
    rcases (show m = p + 1 ∨ m = p + 2 by omega) with rfl | rfl <;> omega
  · rw [h3] at h2
    rcases (show m = p + 1 ∨ m = p + 2 ∨ m = p + 3 by omega) with rfl | rfl | rfl <;> omega
theorem first_byte (s : ByteArray) (m : Nat) (hg : bad s m = false) : at' s m < 128 ∨ 192 ≤ at' s m := by
  rcases good_cases s m hg with ⟨c1, c2⟩ | ⟨_, _, _, a0, _⟩ | ⟨_, _, _, _, a0, _⟩ | ⟨_, _, _, a0, _⟩ <;> omega

/-- the runes from p on, up to the first fault -/
def runesFrom (s : ByteArray) (p : Nat) : List Nat :=
  if _h : p < s.size then (if bad s p then [] else run s p :: runesFrom s (p + (Utf8.decode s p).2)) else []
termination_by s.size - p
decreasing_by have := dec_pos s p; omega
def runes (s : ByteArray) : List Nat := runesFrom s 0
theorem runes_step (s : ByteArray) (p : Nat) (h : p < s.size) (hb : bad s p = false) : runesFrom s p = run s p :: runesFrom s (p + (Utf8.decode s p).2) := by rw [runesFrom, dif_pos h, if_neg (by simp [hb])]
theorem runes_end (s : ByteArray) (p : Nat) (h : ¬ p < s.size) : runesFrom s p = [] := by rw [runesFrom, dif_neg h]
theorem runes_bad (s : ByteArray) (p : Nat) (h : bad s p = true) : runesFrom s p = [] := by rw [runesFrom, if_pos h]; split <;> rfl

theorem vf_good (s : ByteArray) (p : Nat) (h : p < s.size) (hv : vfrom s p = true) : bad s p = false ∧ vfrom s (p + (Utf8.decode s p).2) = true := by
  cases hb : bad s p with
  | true => rw [vfrom_bad s p h hb] at hv; cases hv
  | false => exact ⟨rfl, by rw [← vfrom_step s p h hb]; exact hv⟩

/-- through b behind a -/
theorem through_r (a b : ByteArray) : ∀ n q, b.size - q = n → vfrom (a ++ b) (a.size + q) = vfrom b q ∧ runesFrom (a ++ b) (a.size + q) = runesFrom b q := by
  intro n
  induction n using Nat.strongRecOn with
  | ind n ih =>
    intro q hq
    have hd := dec_app_r a b q
    by_cases h : q < b.size
    · have h' : a.size + q < (a ++ b).size := by rw [app_size]; omega
      cases hb : bad b q with
      | true =>
        have hb' : bad (a ++ b) (a.size + q) = true := by rw [bad_eq hd]; exact hb
        exact ⟨by rw [vfrom_bad _ _ h' hb', vfrom_bad _ _ h hb], by rw [runes_bad _ _ hb', runes_bad _ _ hb]⟩
      | false =>
        have hb' : bad (a ++ b) (a.size + q) = false := by rw [bad_eq hd]; exact hb
        have hp := dec_pos b q
        have := ih (b.size - (q + (Utf8.decode b q).2)) (by omega) (q + (Utf8.decode b q).2) rfl
        rw [← Nat.add_assoc] at this
        exact ⟨by rw [vfrom_step _ _ h' hb', vfrom_step _ _ h hb, hd]; exact this.1, by rw [runes_step _ _ h' hb', runes_step _ _ h hb, hd, run_eq hd, this.2]⟩
    · have h' : ¬ a.size + q < (a ++ b).size := by rw [app_size]; omega
      exact ⟨by rw [vfrom_end _ _ h', vfrom_end _ _ h], by rw [runes_end _ _ h', runes_end _ _ h]⟩

/-- through a, if a is UTF-8 -/
theorem through_l (a b : ByteArray) : ∀ n p, a.size - p = n → p ≤ a.size → vfrom a p = true → vfrom (a ++ b) p = vfrom (a ++ b) a.size ∧ runesFrom (a ++ b) p = runesFrom a p ++ runesFrom (a ++ b) a.size := by
  intro n
  induction n using Nat.strongRecOn with
  | ind n ih =>
    intro p hn hp hv
    by_cases h : p < a.size
    · obtain ⟨hg, hv2⟩ := vf_good a p h hv
      have hle := dec_le a p h
      have hd : Utf8.decode (a ++ b) p = Utf8.decode a p := dec_mono a _ p hg (fun k hk => at_app_l a b _ (by omega)) (by rw [app_size]; omega)
      have h' : p < (a ++ b).size := by rw [app_size]; omega
      have hb' : bad (a ++ b) p = false := by rw [bad_eq hd]; exact hg
      have hps := dec_pos a p
      have := ih (a.size - (p + (Utf8.decode a p).2)) (by omega) _ rfl hle hv2
      exact ⟨by rw [vfrom_step _ _ h' hb', hd]; exact this.1, by rw [runes_step _ _ h' hb', runes_step _ _ h hg, hd, run_eq hd, this.2]; rfl⟩
    · obtain rfl : p = a.size := by omega
      exact ⟨rfl, by rw [runes_end a _ h]; rfl⟩

theorem joined (a b : ByteArray) (ha : valid a = true) (hb : valid b = true) : valid (a ++ b) = true ∧ runes (a ++ b) = runes a ++ runes b := by
  have h1 := through_l a b _ 0 rfl (Nat.zero_le _) ha
  have h2 := through_r a b _ 0 rfl
  rw [Nat.add_zero] at h2
  unfold valid runes at *
  exact ⟨by rw [h1.1, h2.1]; exact hb, by rw [h1.2, h2.2]⟩

/-- cut where a rune begins -/
theorem cut_l (a b : ByteArray) (hc : bad (a ++ b) a.size = false) : ∀ n p, a.size - p = n → p ≤ a.size → vfrom (a ++ b) p = true → vfrom a p = true ∧ vfrom (a ++ b) a.size = true := by
  intro n
  induction n using Nat.strongRecOn with
  | ind n ih =>
    intro p hn hp hv
    by_cases h : p < a.size
    · have h' : p < (a ++ b).size := by rw [app_size]; omega
      obtain ⟨hg, hv2⟩ := vf_good _ p h' hv
      have hps := dec_pos (a ++ b) p
      have hle : p + (Utf8.decode (a ++ b) p).2 ≤ a.size := by
        rcases Nat.lt_or_ge a.size (p + (Utf8.decode (a ++ b) p).2) with hlt | hge
        · have := mid_byte _ p a.size hg h hlt
          have := first_byte _ _ hc
          omega
        · exact hge
      have hd : Utf8.decode a p = Utf8.decode (a ++ b) p := dec_mono (a ++ b) a p hg (fun k hk => (at_app_l a b _ (by omega)).symm) hle
      have hb' : bad a p = false := by rw [bad_eq hd]; exact hg
      have := ih (a.size - (p + (Utf8.decode (a ++ b) p).2)) (by omega) _ rfl hle hv2
      exact ⟨by rw [vfrom_step _ _ h hb', hd]; exact this.1, this.2⟩
    · obtain rfl : p = a.size := by omega
      exact ⟨vfrom_end _ _ h, hv⟩

theorem wid_pos (s : ByteArray) (p : Nat) : 0 < wid s p ↔ p < s.size ∧ bad s p = false := by
  unfold wid
  have := dec_pos s p
  constructor
  · intro h
    split at h
    · rename_i h1
      split at h
      · omega
      · rename_i h2; exact ⟨h1, by simpa using h2⟩
    · omega
  · rintro ⟨h1, h2⟩
    rw [if_pos h1, if_neg (by simp [h2])]
    omega

theorem app_nil (a b : ByteArray) (h : b.size = 0) : a ++ b = a := by
  apply ByteArray.ext
  have hb : b.data = #[] := Array.eq_empty_of_size_eq_zero h
  rw [ByteArray.data_append, hb, Array.append_empty]

/-- the law on cutting -/
theorem cut_iff (a b : ByteArray) (hv : valid (a ++ b) = true) : (0 < wid (a ++ b) a.size ∨ b.size = 0) ↔ (valid a = true ∧ valid b = true) := by
  constructor
  · rintro (h | h)
    · obtain ⟨_, hc⟩ := (wid_pos _ _).1 h
      have h1 := cut_l a b hc _ 0 rfl (Nat.zero_le _) hv
      have h2 := through_r a b _ 0 rfl
      rw [Nat.add_zero] at h2
      exact ⟨h1.1, by unfold valid; rw [← h2.1]; exact h1.2⟩
    · rw [app_nil a b h] at hv
      exact ⟨hv, vfrom_end _ _ (by omega)⟩
  · rintro ⟨ha, hb⟩
    by_cases h : b.size = 0
    · exact .inr h
    · left
      rw [wid_pos]
      have hd := dec_app_r a b 0
      rw [Nat.add_zero] at hd
      exact ⟨by rw [app_size]; omega, by rw [bad_eq hd]; exact (vf_good b 0 (by omega) hb).1⟩
end Go.Proofs.YtcbggkdginfakaaDoor.U
namespace Go.Proofs.YtcbggkdginfakaaDoor.U
open Go
def hxN (i : Nat) : Nat := if i < 10 then 48 + i else 87 + i
/-- the first of two, by the second; 0: none -/
def backL : List UInt8 → Nat → Nat
  | a :: b :: r, c => if b.toNat = c then a.toNat else backL r c
  | _, _ => 0
/-- how a byte is written -/
def wrB (list head : List UInt8) (del : Bool) (c : UInt8) : List UInt8 :=
  if backL list c.toNat ≠ 0 then [92, UInt8.ofNat (backL list c.toNat)]
  else if c.toNat < 32 ∨ (del = true ∧ c.toNat = 127) then head ++ [UInt8.ofNat (hxN (c.toNat / 16)), UInt8.ofNat (hxN (c.toNat % 16))]
  else [c]
def listQ : List UInt8 := [34, 34, 92, 92, 97, 7, 98, 8, 116, 9, 110, 10, 118, 11, 102, 12, 114, 13]
def listJ : List UInt8 := [34, 34, 92, 92, 98, 8, 116, 9, 110, 10, 102, 12, 114, 13]
def wrQ : UInt8 → List UInt8 := wrB listQ [92, 120] true
def wrJ : UInt8 → List UInt8 := wrB listJ [92, 117, 48, 48] false
def letQ : List UInt8 := [97, 98, 116, 110, 118, 102, 114]
def letJ : List UInt8 := [98, 116, 110, 46, 102, 114]
theorem wrQ_back : ∀ c : Nat, c < 256 → (c = 34 ∨ c = 92) → wrQ (UInt8.ofNat c) = [92, UInt8.ofNat c] := by decide +kernel
theorem wrQ_let : ∀ c : Nat, c < 256 → (7 ≤ c ∧ c ≤ 13) → wrQ (UInt8.ofNat c) = [92, letQ.getD (c - 7) 0] := by decide +kernel
theorem wrQ_hex : ∀ c : Nat, c < 256 → ((c < 32 ∨ c = 127) ∧ ¬ (7 ≤ c ∧ c ≤ 13)) → wrQ (UInt8.ofNat c) = [92, 120, UInt8.ofNat (hxN (c / 16)), UInt8.ofNat (hxN (c % 16))] := by decide +kernel
theorem wrQ_self : ∀ c : Nat, c < 256 → (32 ≤ c ∧ c ≠ 127 ∧ c ≠ 34 ∧ c ≠ 92) → wrQ (UInt8.ofNat c) = [UInt8.ofNat c] := by decide +kernel
theorem wrJ_back : ∀ c : Nat, c < 256 → (c = 34 ∨ c = 92) → wrJ (UInt8.ofNat c) = [92, UInt8.ofNat c] := by decide +kernel
theorem wrJ_let : ∀ c : Nat, c < 256 → (8 ≤ c ∧ c ≤ 13 ∧ c ≠ 11) → wrJ (UInt8.ofNat c) = [92, letJ.getD (c - 8) 0] := by decide +kernel
theorem wrJ_hex : ∀ c : Nat, c < 256 → (c < 32 ∧ ¬ (8 ≤ c ∧ c ≤ 13 ∧ c ≠ 11)) → wrJ (UInt8.ofNat c) = [92, 117, 48, 48, UInt8.ofNat (hxN (c / 16)), UInt8.ofNat (hxN (c % 16))] := by decide +kernel
theorem wrJ_self : ∀ c : Nat, c < 256 → (32 ≤ c ∧ c ≠ 34 ∧ c ≠ 92) → wrJ (UInt8.ofNat c) = [UInt8.ofNat c] := by decide +kernel
theorem wrQ_len : ∀ c : Nat, c < 256 → (wrQ (UInt8.ofNat c)).length ≤ 6 := by decide +kernel
theorem wrJ_len : ∀ c : Nat, c < 256 → (wrJ (UInt8.ofNat c)).length ≤ 6 := by decide +kernel

/-- the text as it is written, between quotes -/
def wrS (f : UInt8 → List UInt8) (s : ByteArray) : List UInt8 × Int := if valid s then (34 :: s.data.toList.flatMap f ++ [34], 0) else ([], 4)

theorem flat_self (f : UInt8 → List UInt8) (hf : ∀ c : UInt8, 128 ≤ c.toNat → f c = [c]) : ∀ l : List UInt8, (∀ c ∈ l, 128 ≤ c.toNat) → l.flatMap f = l
  | [], _ => rfl
  | c :: l, h => by
    rw [List.flatMap_cons, hf c (h c (by simp)), flat_self f hf l (fun x hx => h x (by simp [hx]))]
    rfl
theorem take_rune (s : ByteArray) (p : Nat) (h : p < s.size) (hg : bad s p = false) : s.data.toList.take (p + (Utf8.decode s p).2) = s.data.toList.take p ++ (Utf8.encode (run s p : Int)).toList := by
  have := good_form s p h hg
  rw [Lib.extract_toList, Nat.add_sub_cancel_left] at this
  rw [← this, List.take_add]
theorem enc_high (v : Nat) (hv : Utf8.valid (v : Int) = true) (h : 128 ≤ v) : ∀ c ∈ (Utf8.encode (v : Int)).toList, 128 ≤ c.toNat := by
  have hb := (valid_iff _).1 hv
  rw [enc_list v hv, if_neg (by omega)]
  intro c hc
  by_cases h2 : v < 2048
  · rw [if_pos h2] at hc
    simp only [List.mem_cons, List.not_mem_nil, or_false] at hc
    rcases hc with rfl | rfl <;> rw [ofNat_toNat _ (by omega)] <;> omega
  rw [if_neg h2] at hc
  by_cases h3 : v < 65536
  · rw [if_pos h3] at hc
    simp only [List.mem_cons, List.not_mem_nil, or_false] at hc
    rcases hc with rfl | rfl | rfl <;> rw [ofNat_toNat _ (by omega)] <;> omega
  rw [if_neg h3] at hc
  simp only [List.mem_cons, List.not_mem_nil, or_false] at hc
  rcases hc with rfl | rfl | rfl | rfl <;> rw [ofNat_toNat _ (by omega)] <;> omega
theorem enc_low (v : Nat) (h : v < 128) : (Utf8.encode (v : Int)).toList = [UInt8.ofNat v] := by
  rw [enc_list v ((valid_iff _).2 (by omega)), if_pos h]
/-- one rune on: below 128 its byte is written, above it is itself -/
theorem flat_low (f : UInt8 → List UInt8) (s : ByteArray) (p : Nat) (h : p < s.size) (hg : bad s p = false) (hr : run s p < 128) :
    (s.data.toList.take (p + (Utf8.decode s p).2)).flatMap f = (s.data.toList.take p).flatMap f ++ f (UInt8.ofNat (run s p)) := by
  rw [take_rune s p h hg, List.flatMap_append, enc_low _ hr]
  simp
theorem flat_high (f : UInt8 → List UInt8) (hf : ∀ c : UInt8, 128 ≤ c.toNat → f c = [c]) (s : ByteArray) (p : Nat) (h : p < s.size) (hg : bad s p = false) (hr : 128 ≤ run s p) :
    (s.data.toList.take (p + (Utf8.decode s p).2)).flatMap f = (s.data.toList.take p).flatMap f ++ (Utf8.encode (run s p : Int)).toList := by
  rw [take_rune s p h hg, List.flatMap_append, flat_self f hf _ (enc_high _ (good_valid s p hg) hr)]
theorem u8_of (c : UInt8) : UInt8.ofNat c.toNat = c := UInt8.toNat_inj.1 (ofNat_toNat _ c.toNat_lt)
theorem wrQ_high (c : UInt8) (h : 128 ≤ c.toNat) : wrQ c = [c] := by
  have := wrQ_self c.toNat c.toNat_lt (by omega)
  rwa [u8_of] at this
theorem wrJ_high (c : UInt8) (h : 128 ≤ c.toNat) : wrJ c = [c] := by
  have := wrJ_self c.toNat c.toNat_lt (by omega)
  rwa [u8_of] at this
theorem flat_len (f : UInt8 → List UInt8) (hf : ∀ c : Nat, c < 256 → (f (UInt8.ofNat c)).length ≤ 6) : ∀ l : List UInt8, (l.flatMap f).length ≤ 6 * l.length
  | [] => by simp
  | c :: l => by
    rw [List.flatMap_cons, List.length_append, List.length_cons]
    have h1 := hf c.toNat c.toNat_lt
    rw [u8_of] at h1
    have := flat_len f hf l
    omega
end Go.Proofs.YtcbggkdginfakaaDoor.U
