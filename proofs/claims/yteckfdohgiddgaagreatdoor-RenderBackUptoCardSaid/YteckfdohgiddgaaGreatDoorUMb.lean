/- The walks of utf.replaced, utf.width, utf.Valid, weirref01.IsRune, Form, guess: what each computes. Plain law: the bit operations that write a rune's form. The walks of utf.tail, utf.isRune, utf.form: a rune's form put behind a row of the caller's. Plain law: literals, escapes and what they mean, over lists of bytes. No program in sight. The walks of weirref01.IsRune, Form, guess, Next, Valid: what each computes. The walks of weirref01.Next, Valid and utf.Next: all by one word, U.next, U.valid. The walks of utf.digit and utf.digits. The walks of utf.plain and utf.escape: what stands behind a backslash, put behind a row of the caller's. Plain law: bounds and steps of what a literal means. Plain law: two texts behind one another; a text cut where a rune begins. Plain law: what Quote and Json write, byte by byte and rune by rune. The walks of utf.Literal: where a literal ends, by one word. The walk of utf.Unquote: a literal's value by one word. The walk of utf.Quote. The walk of utf.Json. The walks of weirref01.digit, number, letter. The walks of weirref01.back, written, Quote, Json. -/
import Derived.Test.YteckfdohgiddgaaGreatDoorUNext
import Derived.Test.YteckfdohgiddgaaGreatDoorBase
import Derived.Test.YteckfdohgiddgaaGreatDoorBase3
import Derived.Laws.BitsAllLaws
import Derived.Laws.BitsLemmas
import Derived.Test.YteckfdohgiddgaaGreatDoorBase4
import Derived.StillTailTactics
import Derived.Deep.RegionLaw
import Derived.Test.YteckfdohgiddgaaGreatDoorBase5
namespace Go.Proofs.YteckfdohgiddgaaGreatDoor
open Go.RowKit

/-- a rune's width -/
def U.wd (r : Int) : Int := if r < 128 then 1 else if r < 2048 then 2 else if r < 65536 then 3 else 4

theorem replaced_any (s : ByteArray) (i : Nat) (w : World) (hs : s.size ≤ 1125899906842624) (hi : i ≤ s.size) :
    Calls Tryz.prog 176 #[.string s, .int .i64 i] w fun e w' => e = .returned (.bool (U.rep s i)) ∧ w = w' := by
  by_cases h3 : i + 3 ≤ s.size
  · have hd : decide (i + 3 ≤ s.size) = true := by simpa using h3
    go_enter Tryz.func176, Tryz.ntmps176
    go_wp2
    all_goals go_ret
    all_goals exact ⟨ret_bool (by unfold U.rep; rw [hd]; rfl), rfl⟩
  · have hd : decide (i + 3 ≤ s.size) = false := by simpa using h3
    go_enter Tryz.func176, Tryz.ntmps176
    go_wp2
    all_goals go_ret
    all_goals exact ⟨ret_bool (by unfold U.rep; rw [hd]; rfl), rfl⟩

theorem Valid_any (s : ByteArray) (w : World) (hs : s.size ≤ 1125899906842624) :
    Calls Tryz.prog 119 #[.string s] w fun e w' => e = .returned (.bool (U.valid s)) ∧ Below w.heap.size w w' := by
  go_enter Tryz.func119, Tryz.ntmps119
  go_wp2
  go_loopw [] (fun wr => ∃ pos : Nat, pos ≤ s.size ∧ wr = w.iter s pos ∧ Hid (U.vfrom s pos = U.valid s)) (fun wr => s.size - wr.iterPos w.heap.size)
  case atStart => exact ⟨0, Nat.zero_le _, rfl, rfl⟩
  case round =>
    obtain ⟨pos, hpos, rfl, hv⟩ := hrel
    by_cases hp : pos < s.size
    · have hnx := fun ty => run_next_any (P := Tryz.prog) w s pos ty hp
      have hb1 := decode_le s pos
      have hdp := U.dec_pos s pos
      have hle := U.dec_le s pos hp
      by_cases hr : (Utf8.decode s pos).1 = 65533
      · have hr' : Hid ((Utf8.decode s pos).1 = 65533) := hr
        have hb : (((Utf8.decode s pos).1 : Int) == 65533) = true := by rw [hr]; rfl
        clear hr
        cases hrep : U.rep s pos with
        | false =>
          have hbad := (U.bad_iff s pos hp).2 ⟨hr'.out, hrep⟩
          have H : Hid (U.rep s pos = false) := hrep
          have G : Hid (U.valid s = false) := by rw [← hv.out]; exact U.vfrom_bad s pos hp hbad
          clear hrep hbad
          go_wp2_with (go_at_call 176; refine (replaced_any s pos _ hs hpos).mono ?_; rintro e w' ⟨rfl, rfl⟩; rw [H.out])
          go_ret
          exact ⟨ret_bool G.out.symm, (Below.refl _ _).alloc (Nat.le_refl _) _⟩
        | true =>
          have hbad : U.bad s pos = false := by
            cases hb : U.bad s pos with
            | false => rfl
            | true => have := ((U.bad_iff s pos hp).1 hb).2; rw [hrep] at this; cases this
          have H : Hid (U.rep s pos = true) := hrep
          have G : Hid (U.vfrom s (pos + (Utf8.decode s pos).2) = U.valid s) := by rw [← hv.out]; exact (U.vfrom_step s pos hp hbad).symm
          clear hrep hbad
          go_wp2_with (go_at_call 176; refine (replaced_any s pos _ hs hpos).mono ?_; rintro e w' ⟨rfl, rfl⟩; rw [H.out])
          go_roundw
          case rel => exact ⟨_, hle, rfl, G⟩
          case measure => simp; omega
      · have hb : (((Utf8.decode s pos).1 : Int) == 65533) = false := by rw [beq_eq_false_iff_ne]; omega
        have hbad : U.bad s pos = false := by
          cases hb : U.bad s pos with
          | false => rfl
          | true => exact absurd ((U.bad_iff s pos hp).1 hb).1 hr
        have G : Hid (U.vfrom s (pos + (Utf8.decode s pos).2) = U.valid s) := by rw [← hv.out]; exact (U.vfrom_step s pos hp hbad).symm
        clear hbad hr
        go_wp2
        go_roundw
        case rel => exact ⟨_, hle, rfl, G⟩
        case measure => simp; omega
    · have hnx := fun ty => run_next_end (P := Tryz.prog) w s pos ty hp
      have G : Hid (U.valid s = true) := by rw [← hv.out]; exact U.vfrom_end s pos hp
      go_wp2
      go_ret
      exact ⟨ret_bool G.out.symm, (Below.refl _ _).alloc (Nat.le_refl _) _⟩
end Go.Proofs.YteckfdohgiddgaaGreatDoor
namespace Go.Proofs.YteckfdohgiddgaaGreatDoor
theorem ofInt_i32 (a : Nat) (ha : a < 2147483648) : (BitVec.ofInt 32 (a : Int)).toNat = a := by
  rw [BitVec.ofInt_natCast, BitVec.toNat_ofNat]; exact Nat.mod_eq_of_lt (by omega)
theorem i32_and_nat (a b : Nat) (ha : a < 2147483648) (hb : b < 2147483648) : bits .and .i32 (a : Int) (b : Int) = ((a &&& b : Nat) : Int) := by
  have hx : a &&& b < 2 ^ 31 := Nat.and_lt_two_pow _ (by omega)
  show IntKind.i32.wrap ((BitVec.ofInt 32 (a : Int) &&& BitVec.ofInt 32 (b : Int)).toNat : Int) = _
  rw [BitVec.toNat_and, ofInt_i32 a ha, ofInt_i32 b hb]
  rw [IntKind.wrap_i32]
  omega
theorem and63 (r : Int) (h0 : 0 ≤ r) (h1 : r ≤ 2147483647) : bits .and .i32 r 63 = r % 64 := by
  obtain ⟨n, rfl⟩ := Int.eq_ofNat_of_zero_le h0
  have h := i32_and_nat n 63 (by omega) (by omega)
  have h2 : n &&& 63 = n % 64 := Nat.and_two_pow_sub_one_eq_mod n 6
  rw [h2] at h
  exact h.trans (by omega)
theorem or_all : ∀ x : Nat, x < 64 → bits .or .u8 128 (x : Int) = 128 + x ∧ (x < 32 → bits .or .u8 192 (x : Int) = 192 + x) ∧ (x < 16 → bits .or .u8 224 (x : Int) = 224 + x) ∧ (x < 8 → bits .or .u8 240 (x : Int) = 240 + x) := by decide +kernel
theorem or128 (x : Int) (h0 : 0 ≤ x) (h1 : x < 64) : bits .or .u8 128 x = 128 + x := by
  obtain ⟨n, rfl⟩ := Int.eq_ofNat_of_zero_le h0
  exact (or_all n (by omega)).1
theorem or192 (x : Int) (h0 : 0 ≤ x) (h1 : x < 32) : bits .or .u8 192 x = 192 + x := by
  obtain ⟨n, rfl⟩ := Int.eq_ofNat_of_zero_le h0
  exact (or_all n (by omega)).2.1 (by omega)
theorem or224 (x : Int) (h0 : 0 ≤ x) (h1 : x < 16) : bits .or .u8 224 x = 224 + x := by
  obtain ⟨n, rfl⟩ := Int.eq_ofNat_of_zero_le h0
  exact (or_all n (by omega)).2.2.1 (by omega)
theorem or240 (x : Int) (h0 : 0 ≤ x) (h1 : x < 8) : bits .or .u8 240 x = 240 + x := by
  obtain ⟨n, rfl⟩ := Int.eq_ofNat_of_zero_le h0
  exact (or_all n (by omega)).2.2.2 (by omega)
end Go.Proofs.YteckfdohgiddgaaGreatDoor
namespace Go.Proofs.YteckfdohgiddgaaGreatDoor
open Go.RowKit
theorem tail_any (r : Int) (w : World) (h0 : 0 ≤ r) (h : r ≤ 1114111) :
    Calls Tryz.prog 199 #[.int .i32 r] w fun e w' => e = .returned (.int .u8 (128 + r % 64)) ∧ w = w' := by
  have e1 := and63 r h0 (by omega)
  have e2 := or128 (r % 64) (by omega) (by omega)
  have e3 : r % 64 % 256 = r % 64 := by omega
  go_enter Tryz.func199, Tryz.ntmps199
  go_wp2
  go_ret
  exact ⟨rfl, rfl⟩
theorem info_u8 : (Tryz.prog.info? 5).map (fun i => (i.zero, i.size, i.bytes)) = some (some (.int .u8 0), 1, 1) := by kernel_rfl

theorem form_any (r : Int) (hv : Utf8.valid r = true) (B : Nat) (v : Value) (n : Nat) (xs : List Value) (w : World) (hown : w.ownsRow B 5 1 v n xs) (hB : B ≤ w.heap.size) (hn : n ≤ 140737488351232) :
    Calls Tryz.prog 143 #[v, .int .i32 r] w (Appd B 5 1 w v n xs (Utf8.encode r).toList.length (cellsB (Utf8.encode r).toList)) := by
  have hr := (U.valid_iff _).1 hv
  have hr0 : 0 ≤ r := by omega
  have hr1 : r ≤ 1114111 := by omega
  clear hr
  have HV : Unit → Utf8.valid r = true := fun _ => hv
  clear hv
  by_cases h1 : r < 128
  · go_enter Tryz.func143, Tryz.ntmps143
    go_wp2_with (at_builtin; refine wpList_app_lit 32 5 (.int .u8 0) 1 1 Tryz.underlying32 info_u8 rfl (by decide) rfl _ _ rfl B v n xs w #[.int .u8 r] 1 rfl rfl hown rfl ?c1 ?c2 ?c3 hB ?_)
    case c1 => simp [Value.oneCell']
    case c2 => omega
    case c3 => omega
    intro v' w' ho hg
    go_wp2
    go_ret
    refine ⟨v', rfl, ?_, hg⟩
    obtain ⟨m, rfl⟩ := Int.eq_ofNat_of_zero_le hr0
    rw [U.enc_list m (HV ())]
    rw [if_pos (by omega)]
    have e : cellsB [UInt8.ofNat (m)] = [.int .u8 (m : Int)] := by
      simp only [cellsB, List.map_cons, List.map_nil]; rw [U.ofNat_toNat _ (by omega)]
    rw [e]
    exact ho
  by_cases h2 : r < 2048
  · have e6 : r / 64 % 256 = r / 64 := by omega
    have o1 := or192 (r / 64) (by omega) (by omega)
    go_enter Tryz.func143, Tryz.ntmps143
    go_wp2_with (first | (go_at_call 199; refine (tail_any _ _ (by omega) (by omega)).mono ?_; rintro e w' ⟨rfl, rfl⟩) | (at_builtin; refine wpList_app_lit 32 5 (.int .u8 0) 1 1 Tryz.underlying32 info_u8 rfl (by decide) rfl _ _ rfl B v n xs w #[.int .u8 (192 + r / 64), .int .u8 (128 + r % 64)] 2 rfl rfl hown rfl ?c1 ?c2 ?c3 hB ?_))
    case c1 => simp [Value.oneCell']
    case c2 => omega
    case c3 => omega
    intro v' w' ho hg
    go_wp2
    go_ret
    refine ⟨v', rfl, ?_, hg⟩
    obtain ⟨m, rfl⟩ := Int.eq_ofNat_of_zero_le hr0
    rw [U.enc_list m (HV ())]
    rw [if_neg (by omega), if_pos (by omega)]
    have e : cellsB [UInt8.ofNat (192 + m / 64), UInt8.ofNat (128 + m % 64)] = [.int .u8 (192 + (m : Int) / 64), .int .u8 (128 + (m : Int) % 64)] := by
      simp only [cellsB, List.map_cons, List.map_nil]; rw [U.ofNat_toNat _ (by omega), U.ofNat_toNat _ (by omega)]; rfl
    rw [e]
    exact ho
  by_cases h3 : r < 65536
  · have e6 : r / 4096 % 256 = r / 4096 := by omega
    have o1 := or224 (r / 4096) (by omega) (by omega)
    go_enter Tryz.func143, Tryz.ntmps143
    go_wp2_with (first | (go_at_call 199; refine (tail_any _ _ (by omega) (by omega)).mono ?_; rintro e w' ⟨rfl, rfl⟩) | (at_builtin; refine wpList_app_lit 32 5 (.int .u8 0) 1 1 Tryz.underlying32 info_u8 rfl (by decide) rfl _ _ rfl B v n xs w #[.int .u8 (224 + r / 4096), .int .u8 (128 + r / 64 % 64), .int .u8 (128 + r % 64)] 3 rfl rfl hown rfl ?c1 ?c2 ?c3 hB ?_))
    case c1 => simp [Value.oneCell']
    case c2 => omega
    case c3 => omega
    intro v' w' ho hg
    go_wp2
    go_ret
    refine ⟨v', rfl, ?_, hg⟩
    obtain ⟨m, rfl⟩ := Int.eq_ofNat_of_zero_le hr0
    rw [U.enc_list m (HV ())]
    rw [if_neg (by omega), if_neg (by omega), if_pos (by omega)]
    have e : cellsB [UInt8.ofNat (224 + m / 4096), UInt8.ofNat (128 + m / 64 % 64), UInt8.ofNat (128 + m % 64)] = [.int .u8 (224 + (m : Int) / 4096), .int .u8 (128 + (m : Int) / 64 % 64), .int .u8 (128 + (m : Int) % 64)] := by
      simp only [cellsB, List.map_cons, List.map_nil]; rw [U.ofNat_toNat _ (by omega), U.ofNat_toNat _ (by omega), U.ofNat_toNat _ (by omega)]; rfl
    rw [e]
    exact ho
  · have e6 : r / 262144 % 256 = r / 262144 := by omega
    have o1 := or240 (r / 262144) (by omega) (by omega)
    go_enter Tryz.func143, Tryz.ntmps143
    go_wp2_with (first | (go_at_call 199; refine (tail_any _ _ (by omega) (by omega)).mono ?_; rintro e w' ⟨rfl, rfl⟩) | (at_builtin; refine wpList_app_lit 32 5 (.int .u8 0) 1 1 Tryz.underlying32 info_u8 rfl (by decide) rfl _ _ rfl B v n xs w #[.int .u8 (240 + r / 262144), .int .u8 (128 + r / 4096 % 64), .int .u8 (128 + r / 64 % 64), .int .u8 (128 + r % 64)] 4 rfl rfl hown rfl ?c1 ?c2 ?c3 hB ?_))
    case c1 => simp [Value.oneCell']
    case c2 => omega
    case c3 => omega
    intro v' w' ho hg
    go_wp2
    go_ret
    refine ⟨v', rfl, ?_, hg⟩
    obtain ⟨m, rfl⟩ := Int.eq_ofNat_of_zero_le hr0
    rw [U.enc_list m (HV ())]
    rw [if_neg (by omega), if_neg (by omega), if_neg (by omega)]
    have e : cellsB [UInt8.ofNat (240 + m / 262144), UInt8.ofNat (128 + m / 4096 % 64), UInt8.ofNat (128 + m / 64 % 64), UInt8.ofNat (128 + m % 64)] = [.int .u8 (240 + (m : Int) / 262144), .int .u8 (128 + (m : Int) / 4096 % 64), .int .u8 (128 + (m : Int) / 64 % 64), .int .u8 (128 + (m : Int) % 64)] := by
      simp only [cellsB, List.map_cons, List.map_nil]; rw [U.ofNat_toNat _ (by omega), U.ofNat_toNat _ (by omega), U.ofNat_toNat _ (by omega), U.ofNat_toNat _ (by omega)]; rfl
    rw [e]
    exact ho
end Go.Proofs.YteckfdohgiddgaaGreatDoor
namespace Go.Proofs.YteckfdohgiddgaaGreatDoor.U
open Go
/-- where the literal with the quote q ends, looked at from i on -/
def lit (s : ByteArray) (q i : Nat) : Option Nat :=
  if _h : i < s.size then
    (if at' s i = q then some (i + 1) else if q = 96 then lit s q (i + 1) else if at' s i = 10 then none
     else if at' s i = 92 then (if i + 1 < s.size ∧ at' s (i + 1) = 10 then none else lit s q (i + 2)) else lit s q (i + 1))
  else none
termination_by s.size - i
decreasing_by all_goals omega
/-! ### digits -/
def dig (c : Nat) : Int := if 48 ≤ c ∧ c ≤ 57 then (c : Int) - 48 else if 97 ≤ c ∧ c ≤ 102 then (c : Int) - 87 else if 65 ≤ c ∧ c ≤ 70 then (c : Int) - 55 else -1
/-! ### escapes -/
end Go.Proofs.YteckfdohgiddgaaGreatDoor.U
namespace Go.Proofs.YteckfdohgiddgaaGreatDoor
open Go.RowKit

theorem IsRune_any (n : Int) (w : World) (h1 : -9223372036854775808 ≤ n) (h2 : n ≤ 9223372036854775807) :
    Calls Tryz.prog 181 #[.int .i64 n] w fun e w' => e = .returned (.bool (Utf8.valid n)) ∧ w = w' := by
  go_enter Tryz.func181, Tryz.ntmps181
  go_wp2
  all_goals go_ret
  all_goals exact ⟨ret_bool (by rw [Bool.eq_iff_iff, U.valid_iff]; simp; omega), rfl⟩

theorem strOfNums_enc (l : List Int) (b : ByteArray) (h : b.toList = l.map (fun n => UInt8.ofNat n.toNat)) : strOfNums l = b := by
  have : (strOfNums l).data.toList = b.data.toList := by rw [strOfNums_data, ← h, ByteArray.toList_eq]
  exact ByteArray.ext (Array.toList_inj.1 this)

theorem conv_new (k : Nat) (C : Array Value) (xs : List Int) (hC : C = (xs.map (Value.int .u8)).toArray) (hk : xs.length = k) (W : World) :
    (convert 32 9 (.slice (some ⟨W.heap.size, 0, none⟩) k k)).run Tryz.prog (W.alloc (.cells C 5)) = .ok (.string (strOfNums xs)) (W.alloc (.cells C 5)) := by
  refine run_convert_bytes_arg _ 32 5 Tryz.underlying32 Tryz.underlying5 _ 0 k k xs hk ?_ 9 Tryz.underlying9
  intro i hi
  rw [Nat.zero_add, World.cell?_alloc_mark, hC]
  simp [List.getD, hk ▸ hi]

theorem Form_any (n : Int) (w : World) (h1 : -9223372036854775808 ≤ n) (h2 : n ≤ 9223372036854775807) :
    Calls Tryz.prog 128 #[.int .i64 n] w fun e w' => e = .returned (.string (U.formB n)) ∧ Below w.heap.size w w' := by
  cases hv : Utf8.valid n with
  | false =>
    have H : Hid (Utf8.valid n = false) := hv
    clear hv
    go_enter Tryz.func128, Tryz.ntmps128
    go_wp2_with (go_at_call 181; refine (IsRune_any _ _ (by omega) (by omega)).mono ?_; rintro e w' ⟨rfl, rfl⟩; rw [H.out])
    go_ret
    exact ⟨ret_str (by unfold U.formB; rw [H.out]; rfl), Below.refl _ _⟩
  | true =>
    have h0 := (U.valid_iff n).1 hv
    have h3 : 0 ≤ n := by omega
    have h4 : n ≤ 1114111 := by omega
    clear h0
    have H : Hid (Utf8.valid n = true) := hv
    clear hv
    have c1 := fun (W : World) (a : Int) => conv_new 1 _ [a] rfl rfl W
    have c2 := fun (W : World) (a b : Int) => conv_new 2 _ [a, b] rfl rfl W
    have c3 := fun (W : World) (a b c : Int) => conv_new 3 _ [a, b, c] rfl rfl W
    have c4 := fun (W : World) (a b c d : Int) => conv_new 4 _ [a, b, c, d] rfl rfl W
    simp only [List.map_cons, List.map_nil] at c1 c2 c3 c4
    go_enter Tryz.func128, Tryz.ntmps128
    go_wp2_with (go_at_call 181; refine (IsRune_any _ _ (by omega) (by omega)).mono ?_; rintro e w' ⟨rfl, rfl⟩; rw [H.out])
    all_goals go_ret
    all_goals refine ⟨ret_str ?_, (Below.refl _ _).alloc (Nat.le_refl _) _⟩
    all_goals apply strOfNums_enc
    all_goals obtain ⟨m, rfl⟩ := Int.eq_ofNat_of_zero_le h3
    all_goals unfold U.formB
    all_goals rw [H.out, if_pos rfl, U.enc_list m H.out]
    · rw [if_pos (by omega)]; rfl
    · rw [if_neg (by omega), if_pos (by omega)]; rfl
    · rw [if_neg (by omega), if_neg (by omega), if_pos (by omega)]; rfl
    · rw [if_neg (by omega), if_neg (by omega), if_neg (by omega)]; rfl

theorem gs_bd (s : ByteArray) (i w : Nat) (hw : 1 ≤ w ∧ w ≤ 4) : -1000000000 ≤ U.gs s i w ∧ U.gs s i w ≤ 1000000000 := by
  have h0 := U.at_lt s i; have h1 := U.at_lt s (i+1); have h2 := U.at_lt s (i+2); have h3 := U.at_lt s (i+3)
  rcases (show w = 1 ∨ w = 2 ∨ w = 3 ∨ w = 4 by omega) with rfl | rfl | rfl | rfl <;> simp only [U.gs] <;> omega

theorem guess_any (s : ByteArray) (i w : Nat) (W : World) (hs : s.size ≤ 1125899906842624) (hw : 1 ≤ w ∧ w ≤ 4) (hi : i + w ≤ s.size) :
    Calls Tryz.prog 127 #[.string s, .int .i64 i, .int .i64 w] W fun e W' => e = .returned (.int .i64 (U.gs s i w)) ∧ W = W' := by
  have b0 := (s[i]'(by omega)).toNat_lt
  have e0 := U.at_eq s i (by omega)
  rcases (show w = 1 ∨ w = 2 ∨ w = 3 ∨ w = 4 by omega) with rfl | rfl | rfl | rfl
  · have E0 := Lib.hid e0; clear e0
    go_enter Tryz.func127, Tryz.ntmps127
    go_wp2
    go_ret
    exact ⟨ret_int (by simp only [U.gs]; rw [E0.out]), rfl⟩
  · have b1 := (s[i+1]'(by omega)).toNat_lt
    have e1 := U.at_eq s (i+1) (by omega)
    have E0 := Lib.hid e0; clear e0
    have E1 := Lib.hid e1; clear e1
    go_enter Tryz.func127, Tryz.ntmps127
    go_wp2
    refine wp_loop_rounds 2 ?_
    rw [rounds_succ]
    go_wp2
    rw [rounds_succ]
    go_wp2
    go_ret
    refine ⟨ret_int ?_, rfl⟩
    simp only [U.gs]
    rw [E0.out, E1.out]
  · have b1 := (s[i+1]'(by omega)).toNat_lt
    have e1 := U.at_eq s (i+1) (by omega)
    have b2 := (s[i+2]'(by omega)).toNat_lt
    have e2 := U.at_eq s (i+2) (by omega)
    have E0 := Lib.hid e0; clear e0
    have E1 := Lib.hid e1; clear e1
    have E2 := Lib.hid e2; clear e2
    go_enter Tryz.func127, Tryz.ntmps127
    go_wp2
    refine wp_loop_rounds 3 ?_
    rw [rounds_succ]
    go_wp2
    rw [rounds_succ]
    go_wp2
    rw [rounds_succ]
    go_wp2
    go_ret
    refine ⟨ret_int ?_, rfl⟩
    simp only [U.gs]
    rw [E0.out, E1.out, E2.out]
  · have b1 := (s[i+1]'(by omega)).toNat_lt
    have e1 := U.at_eq s (i+1) (by omega)
    have b2 := (s[i+2]'(by omega)).toNat_lt
    have e2 := U.at_eq s (i+2) (by omega)
    have b3 := (s[i+3]'(by omega)).toNat_lt
    have e3 := U.at_eq s (i+3) (by omega)
    have E0 := Lib.hid e0; clear e0
    have E1 := Lib.hid e1; clear e1
    have E2 := Lib.hid e2; clear e2
    have E3 := Lib.hid e3; clear e3
    go_enter Tryz.func127, Tryz.ntmps127
    go_wp2
    refine wp_loop_rounds 4 ?_
    rw [rounds_succ]
    go_wp2
    rw [rounds_succ]
    go_wp2
    rw [rounds_succ]
    go_wp2
    rw [rounds_succ]
    go_wp2
    go_ret
    refine ⟨ret_int ?_, rfl⟩
    simp only [U.gs]
    rw [E0.out, E1.out, E2.out, E3.out]
end Go.Proofs.YteckfdohgiddgaaGreatDoor
namespace Go.Proofs.YteckfdohgiddgaaGreatDoor
open Go.RowKit

namespace U
/-- the rune that begins at a place, and its width; -1 and 0: none -/
def next (s : ByteArray) (i : Int) : Int × Int :=
  if 0 ≤ i ∧ i < s.size then (if bad s i.toNat then (-1, 0) else (run s i.toNat, (Utf8.decode s i.toNat).2)) else (-1, 0)
theorem next_out (s : ByteArray) (i : Int) (h : i < 0 ∨ s.size ≤ i) : next s i = (-1, 0) := by
  unfold next; rw [if_neg (by omega)]
theorem next_bad (s : ByteArray) (i : Nat) (h : bad s i = true) : next s i = (-1, 0) := by
  unfold next; split <;> simp [h]
theorem next_good (s : ByteArray) (i : Nat) (hi : i < s.size) (h : bad s i = false) : next s i = ((run s i : Int), ((Utf8.decode s i).2 : Int)) := by
  unfold next; rw [if_pos (by omega)]; simp [h]
end U

theorem ret_next {a b c d : Int} (h1 : a = c) (h2 : b = d) : Ending.returned (.tuple #[.int .i32 a, .int .i64 b]) = .returned (.tuple #[.int .i32 c, .int .i64 d]) := by rw [h1, h2]

theorem refNext_in (s : ByteArray) (i : Nat) (W : World) (hs : s.size ≤ 1125899906842624) (hi : i < s.size) :
    Calls Tryz.prog 75 #[.string s, .int .i64 i] W fun e W' => e = .returned (.tuple #[.int .i32 (U.next s i).1, .int .i64 (U.next s i).2]) ∧ Below W.heap.size W W' := by
  have hd : decide (s.size ≤ i) = false := by simpa using hi
  go_enter Tryz.func75, Tryz.ntmps75
  go_wp2
  go_loopw [6] (fun x wr => ∃ k : Nat, 1 ≤ k ∧ k ≤ 5 ∧ x = .int .i64 k ∧ Hid (∀ j, 1 ≤ j → j < k → i + j ≤ s.size → U.hit s i j = false) ∧ Below W.heap.size W wr) (fun x _ => 5 - (intOf x).toNat)
  case atStart => exact ⟨1, by omega, by omega, rfl, (fun j h1 h2 => by omega), Below.refl _ _⟩
  case round =>
    obtain ⟨k, hk1, hk5, rfl, hno, hbel⟩ := hrel
    by_cases hk : k ≤ 4 ∧ i + k ≤ s.size
    · obtain ⟨hk4, hik⟩ := hk
      have hg := gs_bd s i k ⟨hk1, hk4⟩
      cases c1 : (((U.formB (U.gs s i k)).size : Int) == (k : Int)) with
      | false =>
        have hh : U.hit s i k = false := by
          unfold U.hit
          have : ((U.formB (U.gs s i k)).size == k) = false := by rw [beq_eq_false_iff_ne] at c1 ⊢; omega
          rw [this]; rfl
        have G : Hid (∀ j, 1 ≤ j → j < k + 1 → i + j ≤ s.size → U.hit s i j = false) := fun j h1 h2 h3 => by
          by_cases e : j = k
          · rw [e]; exact hh
          · exact hno.out j h1 (by omega) h3
        clear hh
        go_wp2_with (first
          | (go_at_call 127; refine (guess_any s i k _ hs ⟨hk1, hk4⟩ hik).mono ?_; rintro e w' ⟨rfl, rfl⟩)
          | (go_at_call 128; refine (Form_any _ _ (by omega) (by omega)).mono ?_; rintro e w1 ⟨rfl, hb1⟩))
        go_roundw
        case rel => exact ⟨k + 1, by omega, by omega, by go_num, G, hbel.trans ((show Below _ _ _ by assumption).mono hbel.size)⟩
        case measure => simp [intOf]; omega
      | true =>
        cases c2 : ((s.extract i (i + k)).toList == (U.formB (U.gs s i k)).toList) with
        | false =>
          have hh : U.hit s i k = false := by
            unfold U.hit
            rw [c2, Bool.and_false]
          have G : Hid (∀ j, 1 ≤ j → j < k + 1 → i + j ≤ s.size → U.hit s i j = false) := fun j h1 h2 h3 => by
            by_cases e : j = k
            · rw [e]; exact hh
            · exact hno.out j h1 (by omega) h3
          clear hh
          go_wp2_with (first
            | (go_at_call 127; refine (guess_any s i k _ hs ⟨hk1, hk4⟩ hik).mono ?_; rintro e w' ⟨rfl, rfl⟩)
            | (go_at_call 128; refine (Form_any _ _ (by omega) (by omega)).mono ?_; rintro e w1 ⟨rfl, hb1⟩))
          go_roundw
          case rel => exact ⟨k + 1, by omega, by omega, by go_num, G, hbel.trans ((show Below _ _ _ by assumption).mono hbel.size)⟩
          case measure => simp [intOf]; omega
        | true =>
          have hh : U.hit s i k = true := by
            unfold U.hit
            have : ((U.formB (U.gs s i k)).size == k) = true := by rw [beq_iff_eq] at c1 ⊢; omega
            rw [this, c2]; rfl
          obtain ⟨d0, d1, d2⟩ := U.hit_dec s i k ⟨hk1, hk4⟩ hik hh
          have G : Hid (U.next s i = (U.gs s i k, (k : Int))) := by
            show _ = _
            rw [U.next_good s i hi d2]
            unfold U.run
            rw [d1]
            simp only [Int.toNat_of_nonneg d0]
          clear hh d1 d2
          go_wp2_with (first
            | (go_at_call 127; refine (guess_any s i k _ hs ⟨hk1, hk4⟩ hik).mono ?_; rintro e w' ⟨rfl, rfl⟩)
            | (go_at_call 128; refine (Form_any _ _ (by omega) (by omega)).mono ?_; rintro e w1 ⟨rfl, hb1⟩))
          go_ret2
          exact ⟨ret_next (by rw [G.out]) (by rw [G.out]), hbel.trans ((show Below _ _ _ by assumption).mono hbel.size)⟩
    · have G : Hid (U.next s i = (-1, 0)) := U.next_bad s i (U.no_hit s i hi fun j h1 h2 h3 => hno.out j h1 (by omega) h3)
      by_cases hk4 : k ≤ 4
      · have : ¬ (i + k ≤ s.size) := fun h => hk ⟨hk4, h⟩
        clear hk
        go_wp2
        go_ret2
        exact ⟨ret_next (by rw [G.out]) (by rw [G.out]), hbel⟩
      · clear hk
        go_wp2
        go_ret2
        exact ⟨ret_next (by rw [G.out]) (by rw [G.out]), hbel⟩

theorem refNext_any (s : ByteArray) (i : Int) (W : World) (hs : s.size ≤ 1125899906842624) :
    Calls Tryz.prog 75 #[.string s, .int .i64 i] W fun e W' => e = .returned (.tuple #[.int .i32 (U.next s i).1, .int .i64 (U.next s i).2]) ∧ Below W.heap.size W W' := by
  by_cases h0 : i < 0
  · have G : Hid (U.next s i = (-1, 0)) := U.next_out s i (Or.inl h0)
    go_enter Tryz.func75, Tryz.ntmps75
    go_wp2
    go_ret2
    exact ⟨ret_next (by rw [G.out]) (by rw [G.out]), Below.refl _ _⟩
  by_cases h1 : (s.size : Int) ≤ i
  · have G : Hid (U.next s i = (-1, 0)) := U.next_out s i (Or.inr h1)
    go_enter Tryz.func75, Tryz.ntmps75
    go_wp2
    go_ret2
    exact ⟨ret_next (by rw [G.out]) (by rw [G.out]), Below.refl _ _⟩
  obtain ⟨n, rfl⟩ := Int.eq_ofNat_of_zero_le (show 0 ≤ i by omega)
  exact refNext_in s n W hs (by omega)

theorem refValid_any (s : ByteArray) (W : World) (hs : s.size ≤ 1125899906842624) :
    Calls Tryz.prog 33 #[.string s] W fun e W' => e = .returned (.bool (U.valid s)) ∧ Below W.heap.size W W' := by
  go_enter Tryz.func33, Tryz.ntmps33
  go_wp2
  go_loopw [3] (fun x wr => ∃ p : Nat, p ≤ s.size ∧ x = .int .i64 p ∧ Hid (U.vfrom s p = U.valid s) ∧ Below W.heap.size W wr) (fun x _ => s.size - (intOf x).toNat)
  case atStart => exact ⟨0, by omega, rfl, rfl, Below.refl _ _⟩
  case round =>
    obtain ⟨p, hp, rfl, hv, hbel⟩ := hrel
    by_cases hlt : p < s.size
    · cases hb : U.bad s p with
      | true =>
        have N : Hid (U.next s p = (-1, 0)) := U.next_bad s p hb
        have G : Hid (U.valid s = false) := by show _ = _; rw [← hv.out, U.vfrom_bad s p hlt hb]
        clear hb
        go_wp2_with (go_at_call 75; refine (refNext_any s p _ hs).mono ?_; rintro e w1 ⟨rfl, hb1⟩; rw [N.out])
        go_ret
        exact ⟨ret_bool G.out.symm, hbel.trans ((show Below _ _ _ by assumption).mono hbel.size)⟩
      | false =>
        have N : Hid (U.next s p = ((U.run s p : Int), ((Utf8.decode s p).2 : Int))) := U.next_good s p hlt hb
        have G : Hid (U.vfrom s (p + (Utf8.decode s p).2) = U.valid s) := by show _ = _; rw [← hv.out, U.vfrom_step s p hlt hb]
        clear hb
        have hle := U.dec_le s p hlt
        have hdp := U.dec_pos s p
        have hne : (((Utf8.decode s p).2 : Int) == 0) = false := by rw [beq_eq_false_iff_ne]; omega
        go_wp2_with (go_at_call 75; refine (refNext_any s p _ hs).mono ?_; rintro e w1 ⟨rfl, hb1⟩; rw [N.out])
        go_roundw
        case rel => exact ⟨p + (Utf8.decode s p).2, hle, by go_num, G, hbel.trans ((show Below _ _ _ by assumption).mono hbel.size)⟩
        case measure => simp [intOf]; omega
    · have G : Hid (U.valid s = true) := by show _ = _; rw [← hv.out, U.vfrom_end s p hlt]
      go_wp2
      go_ret
      exact ⟨ret_bool G.out.symm, hbel⟩

namespace U
end U

end Go.Proofs.YteckfdohgiddgaaGreatDoor
namespace Go.Proofs.YteckfdohgiddgaaGreatDoor
open Go.RowKit
set_option linter.unusedVariables false
set_option linter.unusedSimpArgs false
end Go.Proofs.YteckfdohgiddgaaGreatDoor
namespace Go.Proofs.YteckfdohgiddgaaGreatDoor
open Go.RowKit
set_option linter.unusedVariables false
set_option linter.unusedSimpArgs false
namespace U
end U

end Go.Proofs.YteckfdohgiddgaaGreatDoor
namespace Go.Proofs.YteckfdohgiddgaaGreatDoor.U
open Go
end Go.Proofs.YteckfdohgiddgaaGreatDoor.U
namespace Go.Proofs.YteckfdohgiddgaaGreatDoor.U
open Go
theorem get_list (s : ByteArray) (k : Nat) : s.get! k = (s.data.toList[k]?).getD 0 := by
  by_cases h : k < s.size
  · rw [data_get s k h]; rfl
  · rw [List.getElem?_eq_none (by rw [← Lib.size_eq]; omega)]
    simp only [ByteArray.get!, Array.getElem!_eq_getD, Array.getD]
    rw [dif_neg (show ¬ k < s.data.size from h)]
    rfl
theorem at_list (s : ByteArray) (k : Nat) : at' s k = ((s.data.toList[k]?).getD 0).toNat := by unfold at'; rw [get_list]
theorem app_data (a b : ByteArray) : (a ++ b).data.toList = a.data.toList ++ b.data.toList := by
  rw [ByteArray.data_append, Array.toList_append]
theorem app_size (a b : ByteArray) : (a ++ b).size = a.size + b.size := ByteArray.size_append
theorem at_app_l (a b : ByteArray) (k : Nat) (h : k < a.size) : at' (a ++ b) k = at' a k := by
  rw [at_list, at_list, app_data, List.getElem?_append_left (by rw [← Lib.size_eq]; exact h)]
theorem at_app_r (a b : ByteArray) (k : Nat) : at' (a ++ b) (a.size + k) = at' b k := by
  rw [at_list, at_list, app_data, List.getElem?_append_right (by rw [← Lib.size_eq]; omega), ← Lib.size_eq, Nat.add_sub_cancel_left]

/-- a rune that stands whole in a stands in a ++ b -/
theorem dec_mono (a c : ByteArray) (p : Nat) (hg : bad a p = false) (hs : ∀ k, k < (Utf8.decode a p).2 → at' c (p + k) = at' a (p + k)) (hz : p + (Utf8.decode a p).2 ≤ c.size) : Utf8.decode c p = Utf8.decode a p := by
  have hv := good_valid a p hg
  rcases good_cases a p hg with ⟨h1, h2⟩ | ⟨_, h1, h2, a0, a1, h3⟩ | ⟨_, h1, h2, hv2, a0, a1, a2, h3⟩ | ⟨_, h1, hv2, a0, a1, a2, a3, h3⟩
  · have e := hs 0 (by rw [h2]; exact Nat.one_pos)
    rw [Nat.add_zero] at e
    rw [h2, ← e]
    exact dec1 c p (by omega)
  · rw [h3] at hs hz
    have e0 := hs 0 (by omega); have e1 := hs 1 (by omega)
    rw [Nat.add_zero] at e0
    rw [dec2 c p (run a p) (by omega) h1 h2 (by omega) (by omega)]
    exact Prod.ext rfl h3.symm
  · rw [h3] at hs hz
    have e0 := hs 0 (by omega); have e1 := hs 1 (by omega); have e2 := hs 2 (by omega)
    rw [Nat.add_zero] at e0
    rw [dec3 c p (run a p) (by omega) h1 h2 hv2 (by omega) (by omega) (by omega)]
    exact Prod.ext rfl h3.symm
  · rw [h3] at hs hz
    have e0 := hs 0 (by omega); have e1 := hs 1 (by omega); have e2 := hs 2 (by omega); have e3 := hs 3 (by omega)
    rw [Nat.add_zero] at e0
    rw [dec4 c p (run a p) (by omega) h1 hv2 (by omega) (by omega) (by omega) (by omega)]
    exact Prod.ext rfl h3.symm

theorem bad_eq {a c : ByteArray} {p q : Nat} (h : Utf8.decode c p = Utf8.decode a q) : bad c p = bad a q := by unfold bad; rw [h]
theorem run_eq {a c : ByteArray} {p q : Nat} (h : Utf8.decode c p = Utf8.decode a q) : run c p = run a q := by unfold run; rw [h]

/-- behind a, a ++ b decodes as b -/
theorem dec_app_r (a b : ByteArray) (q : Nat) : Utf8.decode (a ++ b) (a.size + q) = Utf8.decode b q := by
  have g : ∀ k, at' (a ++ b) (a.size + q + k) = at' b (q + k) := fun k => by rw [Nat.add_assoc]; exact at_app_r a b (q + k)
  have g0 := g 0; have g1 := g 1; have g2 := g 2; have g3 := g 3
  have z : ∀ k, ((a.size + q + k < (a ++ b).size) ↔ (q + k < b.size)) := fun k => by rw [app_size]; omega
  have z1 := z 1; have z2 := z 2; have z3 := z 3
  simp only [Nat.add_zero] at g0
  rw [decode_eq, decode_eq]
  simp only [g0, g1, g2, g3, z1, z2, z3]

/-- the runes from p on, up to the first fault -/
def runesFrom (s : ByteArray) (p : Nat) : List Nat :=
  if _h : p < s.size then (if bad s p then [] else run s p :: runesFrom s (p + (Utf8.decode s p).2)) else []
termination_by s.size - p
decreasing_by have := dec_pos s p; omega
def runes (s : ByteArray) : List Nat := runesFrom s 0
theorem runes_step (s : ByteArray) (p : Nat) (h : p < s.size) (hb : bad s p = false) : runesFrom s p = run s p :: runesFrom s (p + (Utf8.decode s p).2) := by rw [runesFrom, dif_pos h, if_neg (by simp [hb])]
theorem runes_end (s : ByteArray) (p : Nat) (h : ¬ p < s.size) : runesFrom s p = [] := by rw [runesFrom, dif_neg h]
theorem runes_bad (s : ByteArray) (p : Nat) (h : bad s p = true) : runesFrom s p = [] := by rw [runesFrom, if_pos h]; split <;> rfl

theorem vf_good (s : ByteArray) (p : Nat) (h : p < s.size) (hv : vfrom s p = true) : bad s p = false ∧ vfrom s (p + (Utf8.decode s p).2) = true := by
  cases hb : bad s p with
  | true => rw [vfrom_bad s p h hb] at hv; cases hv
  | false => exact ⟨rfl, by rw [← vfrom_step s p h hb]; exact hv⟩

/-- through b behind a -/
theorem through_r (a b : ByteArray) : ∀ n q, b.size - q = n → vfrom (a ++ b) (a.size + q) = vfrom b q ∧ runesFrom (a ++ b) (a.size + q) = runesFrom b q := by
  intro n
  induction n using Nat.strongRecOn with
  | ind n ih =>
    intro q hq
    have hd := dec_app_r a b q
    by_cases h : q < b.size
    · have h' : a.size + q < (a ++ b).size := by rw [app_size]; omega
      cases hb : bad b q with
      | true =>
        have hb' : bad (a ++ b) (a.size + q) = true := by rw [bad_eq hd]; exact hb
        exact ⟨by rw [vfrom_bad _ _ h' hb', vfrom_bad _ _ h hb], by rw [runes_bad _ _ hb', runes_bad _ _ hb]⟩
      | false =>
        have hb' : bad (a ++ b) (a.size + q) = false := by rw [bad_eq hd]; exact hb
        have hp := dec_pos b q
        have := ih (b.size - (q + (Utf8.decode b q).2)) (by omega) (q + (Utf8.decode b q).2) rfl
        rw [← Nat.add_assoc] at this
        exact ⟨by rw [vfrom_step _ _ h' hb', vfrom_step _ _ h hb, hd]; exact this.1, by rw [runes_step _ _ h' hb', runes_step _ _ h hb, hd, run_eq hd, this.2]⟩
    · have h' : ¬ a.size + q < (a ++ b).size := by rw [app_size]; omega
      exact ⟨by rw [vfrom_end _ _ h', vfrom_end _ _ h], by rw [runes_end _ _ h', runes_end _ _ h]⟩

/-- through a, if a is UTF-8 -/
theorem through_l (a b : ByteArray) : ∀ n p, a.size - p = n → p ≤ a.size → vfrom a p = true → vfrom (a ++ b) p = vfrom (a ++ b) a.size ∧ runesFrom (a ++ b) p = runesFrom a p ++ runesFrom (a ++ b) a.size := by
  intro n
  induction n using Nat.strongRecOn with
  | ind n ih =>
    intro p hn hp hv
    by_cases h : p < a.size
    · obtain ⟨hg, hv2⟩ := vf_good a p h hv
      have hle := dec_le a p h
      have hd : Utf8.decode (a ++ b) p = Utf8.decode a p := dec_mono a _ p hg (fun k hk => at_app_l a b _ (by omega)) (by rw [app_size]; omega)
      have h' : p < (a ++ b).size := by rw [app_size]; omega
      have hb' : bad (a ++ b) p = false := by rw [bad_eq hd]; exact hg
      have hps := dec_pos a p
      have := ih (a.size - (p + (Utf8.decode a p).2)) (by omega) _ rfl hle hv2
      exact ⟨by rw [vfrom_step _ _ h' hb', hd]; exact this.1, by rw [runes_step _ _ h' hb', runes_step _ _ h hg, hd, run_eq hd, this.2]; rfl⟩
    · obtain rfl : p = a.size := by omega
      exact ⟨rfl, by rw [runes_end a _ h]; rfl⟩

theorem joined (a b : ByteArray) (ha : valid a = true) (hb : valid b = true) : valid (a ++ b) = true ∧ runes (a ++ b) = runes a ++ runes b := by
  have h1 := through_l a b _ 0 rfl (Nat.zero_le _) ha
  have h2 := through_r a b _ 0 rfl
  rw [Nat.add_zero] at h2
  unfold valid runes at *
  exact ⟨by rw [h1.1, h2.1]; exact hb, by rw [h1.2, h2.2]⟩

end Go.Proofs.YteckfdohgiddgaaGreatDoor.U
namespace Go.Proofs.YteckfdohgiddgaaGreatDoor.U
open Go
def hxN (i : Nat) : Nat := if i < 10 then 48 + i else 87 + i
/-- the first of two, by the second; 0: none -/
def backL : List UInt8 → Nat → Nat
  | a :: b :: r, c => if b.toNat = c then a.toNat else backL r c
  | _, _ => 0
/-- how a byte is written -/
def wrB (list head : List UInt8) (del : Bool) (c : UInt8) : List UInt8 :=
  if backL list c.toNat ≠ 0 then [92, UInt8.ofNat (backL list c.toNat)]
  else if c.toNat < 32 ∨ (del = true ∧ c.toNat = 127) then head ++ [UInt8.ofNat (hxN (c.toNat / 16)), UInt8.ofNat (hxN (c.toNat % 16))]
  else [c]
def listJ : List UInt8 := [34, 34, 92, 92, 98, 8, 116, 9, 110, 10, 102, 12, 114, 13]
def wrJ : UInt8 → List UInt8 := wrB listJ [92, 117, 48, 48] false
def letJ : List UInt8 := [98, 116, 110, 46, 102, 114]
theorem wrJ_back : ∀ c : Nat, c < 256 → (c = 34 ∨ c = 92) → wrJ (UInt8.ofNat c) = [92, UInt8.ofNat c] := by decide +kernel
theorem wrJ_let : ∀ c : Nat, c < 256 → (8 ≤ c ∧ c ≤ 13 ∧ c ≠ 11) → wrJ (UInt8.ofNat c) = [92, letJ.getD (c - 8) 0] := by decide +kernel
theorem wrJ_hex : ∀ c : Nat, c < 256 → (c < 32 ∧ ¬ (8 ≤ c ∧ c ≤ 13 ∧ c ≠ 11)) → wrJ (UInt8.ofNat c) = [92, 117, 48, 48, UInt8.ofNat (hxN (c / 16)), UInt8.ofNat (hxN (c % 16))] := by decide +kernel
theorem wrJ_self : ∀ c : Nat, c < 256 → (32 ≤ c ∧ c ≠ 34 ∧ c ≠ 92) → wrJ (UInt8.ofNat c) = [UInt8.ofNat c] := by decide +kernel
theorem wrJ_len : ∀ c : Nat, c < 256 → (wrJ (UInt8.ofNat c)).length ≤ 6 := by decide +kernel

/-- the text as it is written, between quotes -/
def wrS (f : UInt8 → List UInt8) (s : ByteArray) : List UInt8 × Int := if valid s then (34 :: s.data.toList.flatMap f ++ [34], 0) else ([], 4)

theorem flat_self (f : UInt8 → List UInt8) (hf : ∀ c : UInt8, 128 ≤ c.toNat → f c = [c]) : ∀ l : List UInt8, (∀ c ∈ l, 128 ≤ c.toNat) → l.flatMap f = l
  | [], _ => rfl
  | c :: l, h => by
    rw [List.flatMap_cons, hf c (h c (by simp)), flat_self f hf l (fun x hx => h x (by simp [hx]))]
    rfl
theorem take_rune (s : ByteArray) (p : Nat) (h : p < s.size) (hg : bad s p = false) : s.data.toList.take (p + (Utf8.decode s p).2) = s.data.toList.take p ++ (Utf8.encode (run s p : Int)).toList := by
  have := good_form s p h hg
  rw [Lib.extract_toList, Nat.add_sub_cancel_left] at this
  rw [← this, List.take_add]
theorem enc_high (v : Nat) (hv : Utf8.valid (v : Int) = true) (h : 128 ≤ v) : ∀ c ∈ (Utf8.encode (v : Int)).toList, 128 ≤ c.toNat := by
  have hb := (valid_iff _).1 hv
  rw [enc_list v hv, if_neg (by omega)]
  intro c hc
  by_cases h2 : v < 2048
  · rw [if_pos h2] at hc
    simp only [List.mem_cons, List.not_mem_nil, or_false] at hc
    rcases hc with rfl | rfl <;> rw [ofNat_toNat _ (by omega)] <;> omega
  rw [if_neg h2] at hc
  by_cases h3 : v < 65536
  · rw [if_pos h3] at hc
    simp only [List.mem_cons, List.not_mem_nil, or_false] at hc
    rcases hc with rfl | rfl | rfl <;> rw [ofNat_toNat _ (by omega)] <;> omega
  rw [if_neg h3] at hc
  simp only [List.mem_cons, List.not_mem_nil, or_false] at hc
  rcases hc with rfl | rfl | rfl | rfl <;> rw [ofNat_toNat _ (by omega)] <;> omega
theorem enc_low (v : Nat) (h : v < 128) : (Utf8.encode (v : Int)).toList = [UInt8.ofNat v] := by
  rw [enc_list v ((valid_iff _).2 (by omega)), if_pos h]
/-- one rune on: below 128 its byte is written, above it is itself -/
theorem flat_low (f : UInt8 → List UInt8) (s : ByteArray) (p : Nat) (h : p < s.size) (hg : bad s p = false) (hr : run s p < 128) :
    (s.data.toList.take (p + (Utf8.decode s p).2)).flatMap f = (s.data.toList.take p).flatMap f ++ f (UInt8.ofNat (run s p)) := by
  rw [take_rune s p h hg, List.flatMap_append, enc_low _ hr]
  simp
theorem flat_high (f : UInt8 → List UInt8) (hf : ∀ c : UInt8, 128 ≤ c.toNat → f c = [c]) (s : ByteArray) (p : Nat) (h : p < s.size) (hg : bad s p = false) (hr : 128 ≤ run s p) :
    (s.data.toList.take (p + (Utf8.decode s p).2)).flatMap f = (s.data.toList.take p).flatMap f ++ (Utf8.encode (run s p : Int)).toList := by
  rw [take_rune s p h hg, List.flatMap_append, flat_self f hf _ (enc_high _ (good_valid s p hg) hr)]
theorem u8_of (c : UInt8) : UInt8.ofNat c.toNat = c := UInt8.toNat_inj.1 (ofNat_toNat _ c.toNat_lt)
theorem wrJ_high (c : UInt8) (h : 128 ≤ c.toNat) : wrJ c = [c] := by
  have := wrJ_self c.toNat c.toNat_lt (by omega)
  rwa [u8_of] at this
theorem flat_len (f : UInt8 → List UInt8) (hf : ∀ c : Nat, c < 256 → (f (UInt8.ofNat c)).length ≤ 6) : ∀ l : List UInt8, (l.flatMap f).length ≤ 6 * l.length
  | [] => by simp
  | c :: l => by
    rw [List.flatMap_cons, List.length_append, List.length_cons]
    have h1 := hf c.toNat c.toNat_lt
    rw [u8_of] at h1
    have := flat_len f hf l
    omega
end Go.Proofs.YteckfdohgiddgaaGreatDoor.U
namespace Go.Proofs.YteckfdohgiddgaaGreatDoor
open Go.RowKit
set_option linter.unusedVariables false
set_option linter.unusedSimpArgs false
end Go.Proofs.YteckfdohgiddgaaGreatDoor
namespace Go.Proofs.YteckfdohgiddgaaGreatDoor
open Go.RowKit
set_option linter.unusedVariables false
set_option linter.unusedSimpArgs false
def strR (r : List UInt8 × Int) : Ending := .returned (.tuple #[.string ⟨r.1.toArray⟩, .int .i64 r.2])
theorem ret_strR {a : ByteArray} {b : Int} {r : List UInt8 × Int} (h1 : a.data.toList = r.1) (h2 : b = r.2) : Ending.returned (.tuple #[.string a, .int .i64 b]) = strR r := by
  unfold strR; rw [h2, ← h1]

end Go.Proofs.YteckfdohgiddgaaGreatDoor
namespace Go.Proofs.YteckfdohgiddgaaGreatDoor
open Go.RowKit
set_option linter.unusedVariables false
set_option linter.unusedSimpArgs false

theorem and15 (r : Int) (h0 : 0 ≤ r) (h1 : r ≤ 2147483647) : bits .and .i32 r 15 = r % 16 := by
  obtain ⟨n, rfl⟩ := Int.eq_ofNat_of_zero_le h0
  have h := i32_and_nat n 15 (by omega) (by omega)
  have h2 : n &&& 15 = n % 16 := Nat.and_two_pow_sub_one_eq_mod n 4
  rw [h2] at h
  exact h.trans (by omega)
theorem U.hxN_lt : ∀ i, i < 16 → U.hxN i < 256 := by decide
theorem hexAt : ∀ (i : Nat) (h : i < (⟨#[48, 49, 50, 51, 52, 53, 54, 55, 56, 57, 97, 98, 99, 100, 101, 102]⟩ : ByteArray).size), ((⟨#[48, 49, 50, 51, 52, 53, 54, 55, 56, 57, 97, 98, 99, 100, 101, 102]⟩ : ByteArray)[i]'h).toNat = U.hxN i := by
  have : ∀ i : Fin 16, ((⟨#[48, 49, 50, 51, 52, 53, 54, 55, 56, 57, 97, 98, 99, 100, 101, 102]⟩ : ByteArray)[i.val]'i.isLt).toNat = U.hxN i := by decide +kernel
  exact fun i h => this ⟨i, h⟩

theorem run_hex (k : IntKind) (n : Int) (h0 : 0 ≤ n) (h1 : n < 16) (w : World) :
    (Instr.index 9 (.string ⟨#[48, 49, 50, 51, 52, 53, 54, 55, 56, 57, 97, 98, 99, 100, 101, 102]⟩) (.int k n)).run Tryz.prog w = .ok (.int .u8 (U.hxN n.toNat : Int)) w := by
  have hz : ((⟨#[48, 49, 50, 51, 52, 53, 54, 55, 56, 57, 97, 98, 99, 100, 101, 102]⟩ : ByteArray).size) = 16 := rfl
  rw [run_index_string _ _ _ _ _ Tryz.underlying9]
  rw [dif_pos (show 0 ≤ n ∧ n < _ by rw [hz]; omega)]
  rw [hexAt]

section
variable {P : Program} {ops : Array Oper} {o : Oper} {a : Act} {K : Act → World → Prop} {Q : Exit → Act → World → Prop} {E : Prop}
theorem step_app_lit (t e : TypeId) (z : Value) (size bytes : Nat) (ht : P.underlying t = some (.slice e)) (hinfo : (P.info? e).map (fun i => (i.zero, i.size, i.bytes)) = some (some z, size, bytes)) (hzs : z.cells.size = size) (hsz : 0 < size)
    (hgd : o.guard = none) (s x : Operand) (ho : o.op = .call { callee := .builtin .append, args := #[s, x], argTypes := #[t, t] })
    (B : Nat) (v : Value) (n : Nat) (xs : List Value) (W : World) (C : Array Value) (m : Nat) (hs : a.eval s = v) (hx : a.eval x = .slice (some ⟨W.heap.size, 0, none⟩) m m)
    (hown : W.ownsRow B e size v n xs) (hC : C.size = m * size) (h1 : ∀ u ∈ C.toList, u.oneCell' = true) (hb : (n + m) * bytes ≤ 140737488355328) (hn : n + m ≤ 140737488355328) (hB : B ≤ W.heap.size)
    (h : ∀ v' w', w'.ownsRow B e size v' (n + m) (xs ++ C.toList) → W.grownBy w' v.ownBlock → K (a.put o.dst v') w') :
    if Region.wanted o (yielded ops a.tmps) = true then Oper.wp P o a (W.alloc (.cells C e)).drew K Q else E := by
  have hw : Region.wanted o (yielded ops a.tmps) = true := by simp [Region.wanted, hgd]
  rw [if_pos hw]
  obtain ⟨i, hi, hz0, hz1, hz2⟩ := info_parts hinfo
  obtain ⟨v', w', hrun, h2, h3, _, h5⟩ := run_append_own_at (P := P) (W.alloc (.cells C e)).drew B t o.type e i z size bytes ht hi hz0 hz1 hz2 hzs hsz v n xs (hown.alloc _).drew ⟨W.heap.size, 0, none⟩ m m C.toList (by simpa using hC) (by
    intro j u hj
    rw [add_plain, Nat.zero_add]
    change (W.alloc (.cells C e)).cell? _ = _
    rw [World.cell?_alloc_mark]
    simpa using hj) h1 (by unfold maxLen; omega) hb (by change B ≤ (W.alloc (.cells C e)).heap.size; simp; omega)
  unfold Oper.wp execOp
  simp only [ho, resolve, invoke, builtin, Sem.run_bind, Sem.run_pure, Result.andThen_ok, List.map_toArray, List.map_cons, List.map_nil, hs, hx, hrun]
  exact h v' w' h2 (grown_of_alloc (W := W) (ob := .cells C e) ⟨h3.os, h3.tape, h3.output, h3.size, h3.block⟩)
end

end Go.Proofs.YteckfdohgiddgaaGreatDoor
namespace Go.Proofs.YteckfdohgiddgaaGreatDoor
open Go.RowKit
set_option linter.unusedVariables false
set_option linter.unusedSimpArgs false

theorem json_no (s : ByteArray) (w : World) (hs : s.size ≤ 8388608) (hv : U.valid s = false) :
    Calls Tryz.prog 86 #[.string s] w fun e w' => e = strR (U.wrS U.wrJ s) ∧ Below w.heap.size w w' := by
  have V := hd hv
  have G : Hd (U.wrS U.wrJ s = ([], 4)) := hd <| by unfold U.wrS; rw [if_neg (by simp [hv])]
  clear hv
  go_enter Tryz.func86, Tryz.ntmps86
  go_wp2_with (go_at_call 119; refine (Valid_any _ _ (by omega)).mono ?_; rintro e w1 ⟨rfl, hb1⟩; rw [V.o])
  go_ret2
  exact ⟨ret_strR (by rw [G.o]) (by rw [G.o]), by assumption⟩

set_option maxHeartbeats 3200000 in
theorem json_yes (s : ByteArray) (w : World) (hs : s.size ≤ 8388608) (hv : U.valid s = true) :
    Calls Tryz.prog 86 #[.string s] w fun e w' => e = strR (U.wrS U.wrJ s) ∧ Below w.heap.size w w' := by
  have V := hd hv
  have HG : Hd (U.wrS U.wrJ s = (34 :: s.data.toList.flatMap U.wrJ ++ [34], 0)) := hd <| by unfold U.wrS; rw [if_pos hv]
  have HV : Hd (U.vfrom s 0 = true) := hd hv
  clear hv
  go_enter Tryz.func86, Tryz.ntmps86
  go_wp2_with (go_at_call 119; refine (Valid_any _ _ (by omega)).mono ?_; rintro e w1 ⟨rfl, hb1⟩; rw [V.o])
  have hb1 : Below w.heap.size w w1 := by assumption
  have hz1 := hb1.size
  have ho0 : (w1.alloc (.cells #[.int .u8 34] 5)).ownsRow w.heap.size 5 1 (.slice (some ⟨w1.heap.size, 0, none⟩) 1 1) 1 (cellsB [34]) := World.ownsRow_lit w1 #[.int .u8 34] 1 hz1 (by decide) rfl
  obtain ⟨kk, hkk⟩ : ∃ kk, kk = (w1.alloc (.cells #[.int .u8 34] 5)).heap.size := ⟨_, rfl⟩
  have hkz : w.heap.size ≤ kk := by rw [hkk]; simp; omega
  have HIT0 : Hd (((w1.alloc (.cells #[.int .u8 34] 5)).iter s 0).heap[kk]? = some (.stringIter s 0)) := hd <| by rw [hkk]; exact World.iter_heap _ _ _
  have HB0 : Hd (Below w.heap.size w ((w1.alloc (.cells #[.int .u8 34] 5)).iter s 0)) := hd ((hb1.alloc hz1 _).alloc (by simp; omega) _)
  have HO0 := hd (ho0.alloc (.stringIter s 0))
  have hkk' : w1.heap.size + 1 = kk := by rw [hkk]; simp
  clear ho0 hb1 hkk
  rw [hkk']
  go_loopw [4] (fun v wr => ∃ (p : Nat) (bs : List UInt8), p ≤ s.size ∧ wr.heap[kk]? = some (.stringIter s p) ∧ wr.ownsRow w.heap.size 5 1 v bs.length (cellsB bs) ∧ Below w.heap.size w wr ∧ Hd (bs = 34 :: (s.data.toList.take p).flatMap U.wrJ) ∧ Hd (U.vfrom s p = true)) (fun _ wr => s.size - wr.iterPos kk)
  case atStart => exact ⟨0, [34], Nat.zero_le _, HIT0.o, HO0.o, HB0.o, hd rfl, HV⟩
  case round =>
    obtain ⟨p, bs, hpos, hit, how, hbw, hr, hvp⟩ := hrel
    have hsz : kk < wr.heap.size := (Array.getElem?_eq_some_iff.1 hit).1
    have hbl : bs.length ≤ 6 * s.size + 1 := by
      have := U.flat_len U.wrJ U.wrJ_len (s.data.toList.take p)
      rw [hr.o, List.length_cons]
      rw [List.length_take, ← Lib.size_eq] at this
      omega
    by_cases hp : p < s.size
    · have hnx : ∀ ty, (Instr.next (.pointer (some ⟨kk, 0, none⟩)) true ty).run Tryz.prog wr = _ := fun ty => Lib.run_next_any_at wr kk s p ty hit hp
      have hb1 := decode_le s p
      have hdp := U.dec_pos s p
      have hle := U.dec_le s p hp
      have gg := U.vf_good s p hp hvp.o
      have GV : Hd (U.vfrom s (p + (Utf8.decode s p).2) = true) := hd gg.2
      have GB : Hd (U.bad s p = false) := hd gg.1
      clear gg
      have hit2 := Lib.iterAt_heap wr kk s p (p + (Utf8.decode s p).2) hit
      have how2 := own_iterAt how hit (p + (Utf8.decode s p).2)
      have hbw2 := Lib.below_iterAt hbw (k := kk) hkz s (p + (Utf8.decode s p).2)
      have hzz : w.heap.size ≤ (wr.iterAt kk s (p + (Utf8.decode s p).2)).heap.size := hbw2.size
      have HIT := hd hit2
      have HIP := hd (iterPos_of hit)
      have HBW := hd hbw2
      have HNE := hd (own_ne_iter how2 hit2)
      have hbl2 : bs.length ≤ 50331649 := by omega
      clear hit hit2 hbw2 hbl
      by_cases hlow : (Utf8.decode s p).1 < 128
      · have hstep := U.flat_low U.wrJ s p hp GB.o hlow
        unfold U.run at hstep
        by_cases hA : (Utf8.decode s p).1 = 34 ∨ (Utf8.decode s p).1 = 92
        · rw [U.wrJ_back _ (by omega) hA] at hstep
          have G : Hd (bs ++ [92, UInt8.ofNat (Utf8.decode s p).1] = 34 :: (s.data.toList.take (p + (Utf8.decode s p).2)).flatMap U.wrJ) := hd <| by rw [hstep, hr.o]; rfl
          have HNEW : Hd (cellsB [92, UInt8.ofNat (Utf8.decode s p).1] = [.int .u8 92, .int .u8 (Utf8.decode s p).1]) := hd <| by simp only [cellsB, List.map_cons, List.map_nil]; rw [U.ofNat_toNat _ (by omega)]; rfl
          have hm : ((Utf8.decode s p).1 : Int) % 256 = (Utf8.decode s p).1 := by omega
          clear hstep
          rcases hA with hA | hA
          · have b1 : (((Utf8.decode s p).1 : Int) == 34) = true := by rw [hA]; rfl
            clear hA
            go_wp2_with (at_builtin; refine wpList_app_lit 32 5 (.int .u8 0) 1 1 Tryz.underlying32 info_u8 rfl (by decide) rfl _ _ rfl w.heap.size u4 bs.length (cellsB bs) (wr.iterAt kk s (p + (Utf8.decode s p).2)) #[.int .u8 92, .int .u8 (Utf8.decode s p).1] 2 rfl rfl how2 rfl ?_ ?_ ?_ hzz ?_)
            any_goals (first | omega | (simp [Value.oneCell']; done))
            intro v' w' ho' hg'
            have hit' := hd (grown_keep hg' HIT.o HNE.o)
            have hbw' := bel_grown HBW.o hg' (fun k hk => (how2.lt k hk).1)
            have HO : Hd (w'.ownsRow w.heap.size 5 1 v' (bs ++ [92, UInt8.ofNat (Utf8.decode s p).1]).length (cellsB (bs ++ [92, UInt8.ofNat (Utf8.decode s p).1]))) := hd <| by
              rw [cellsB_app, List.length_append, HNEW.o]
              exact ho'
            clear how how2 ho' hg'
            go_wp2
            go_roundw
            case rel => exact ⟨p + (Utf8.decode s p).2, bs ++ [92, UInt8.ofNat (Utf8.decode s p).1], hle, hit'.o, HO.o, hbw', G, GV⟩
            case measure => rw [iterPos_of hit'.o, HIP.o]; omega

          · have b1 : (((Utf8.decode s p).1 : Int) == 34) = false := by rw [hA]; rfl
            have b2 : (((Utf8.decode s p).1 : Int) == 92) = true := by rw [hA]; rfl
            clear hA
            go_wp2_with (at_builtin; refine wpList_app_lit 32 5 (.int .u8 0) 1 1 Tryz.underlying32 info_u8 rfl (by decide) rfl _ _ rfl w.heap.size u4 bs.length (cellsB bs) (wr.iterAt kk s (p + (Utf8.decode s p).2)) #[.int .u8 92, .int .u8 (Utf8.decode s p).1] 2 rfl rfl how2 rfl ?_ ?_ ?_ hzz ?_)
            any_goals (first | omega | (simp [Value.oneCell']; done))
            intro v' w' ho' hg'
            have hit' := hd (grown_keep hg' HIT.o HNE.o)
            have hbw' := bel_grown HBW.o hg' (fun k hk => (how2.lt k hk).1)
            have HO : Hd (w'.ownsRow w.heap.size 5 1 v' (bs ++ [92, UInt8.ofNat (Utf8.decode s p).1]).length (cellsB (bs ++ [92, UInt8.ofNat (Utf8.decode s p).1]))) := hd <| by
              rw [cellsB_app, List.length_append, HNEW.o]
              exact ho'
            clear how how2 ho' hg'
            go_wp2
            go_roundw
            case rel => exact ⟨p + (Utf8.decode s p).2, bs ++ [92, UInt8.ofNat (Utf8.decode s p).1], hle, hit'.o, HO.o, hbw', G, GV⟩
            case measure => rw [iterPos_of hit'.o, HIP.o]; omega

        by_cases hB : 8 ≤ (Utf8.decode s p).1 ∧ (Utf8.decode s p).1 ≤ 13 ∧ (Utf8.decode s p).1 ≠ 11
        · rw [U.wrJ_let _ (by omega) hB] at hstep
          have h7 : (Utf8.decode s p).1 = 8 ∨ (Utf8.decode s p).1 = 9 ∨ (Utf8.decode s p).1 = 10 ∨ (Utf8.decode s p).1 = 12 ∨ (Utf8.decode s p).1 = 13 := by omega
          clear hA hB hlow
          rcases h7 with h7 | h7 | h7 | h7 | h7
          · have hv7 : ((Utf8.decode s p).1 : Int) = 8 := by rw [h7]; rfl
            rw [h7] at hstep
            have G : Hd (bs ++ [92, 98] = 34 :: (s.data.toList.take (p + (Utf8.decode s p).2)).flatMap U.wrJ) := hd <| by rw [hstep, hr.o]; rfl
            have HNEW : Hd (cellsB [92, 98] = [.int .u8 92, .int .u8 98]) := hd rfl
            clear hstep h7
            go_wp2_with (at_builtin; refine wpList_app_lit 32 5 (.int .u8 0) 1 1 Tryz.underlying32 info_u8 rfl (by decide) rfl _ _ rfl w.heap.size u4 bs.length (cellsB bs) (wr.iterAt kk s (p + (Utf8.decode s p).2)) #[.int .u8 92, .int .u8 98] 2 rfl rfl how2 rfl ?_ ?_ ?_ hzz ?_)
            any_goals (first | omega | (simp [Value.oneCell']; done))
            intro v' w' ho' hg'
            have hit' := hd (grown_keep hg' HIT.o HNE.o)
            have hbw' := bel_grown HBW.o hg' (fun k hk => (how2.lt k hk).1)
            have HO : Hd (w'.ownsRow w.heap.size 5 1 v' (bs ++ [92, 98]).length (cellsB (bs ++ [92, 98]))) := hd <| by
              rw [cellsB_app, List.length_append, HNEW.o]
              exact ho'
            clear how how2 ho' hg'
            go_wp2
            go_roundw
            case rel => exact ⟨p + (Utf8.decode s p).2, bs ++ [92, 98], hle, hit'.o, HO.o, hbw', G, GV⟩
            case measure => rw [iterPos_of hit'.o, HIP.o]; omega
          · have hv7 : ((Utf8.decode s p).1 : Int) = 9 := by rw [h7]; rfl
            rw [h7] at hstep
            have G : Hd (bs ++ [92, 116] = 34 :: (s.data.toList.take (p + (Utf8.decode s p).2)).flatMap U.wrJ) := hd <| by rw [hstep, hr.o]; rfl
            have HNEW : Hd (cellsB [92, 116] = [.int .u8 92, .int .u8 116]) := hd rfl
            clear hstep h7
            go_wp2_with (at_builtin; refine wpList_app_lit 32 5 (.int .u8 0) 1 1 Tryz.underlying32 info_u8 rfl (by decide) rfl _ _ rfl w.heap.size u4 bs.length (cellsB bs) (wr.iterAt kk s (p + (Utf8.decode s p).2)) #[.int .u8 92, .int .u8 116] 2 rfl rfl how2 rfl ?_ ?_ ?_ hzz ?_)
            any_goals (first | omega | (simp [Value.oneCell']; done))
            intro v' w' ho' hg'
            have hit' := hd (grown_keep hg' HIT.o HNE.o)
            have hbw' := bel_grown HBW.o hg' (fun k hk => (how2.lt k hk).1)
            have HO : Hd (w'.ownsRow w.heap.size 5 1 v' (bs ++ [92, 116]).length (cellsB (bs ++ [92, 116]))) := hd <| by
              rw [cellsB_app, List.length_append, HNEW.o]
              exact ho'
            clear how how2 ho' hg'
            go_wp2
            go_roundw
            case rel => exact ⟨p + (Utf8.decode s p).2, bs ++ [92, 116], hle, hit'.o, HO.o, hbw', G, GV⟩
            case measure => rw [iterPos_of hit'.o, HIP.o]; omega
          · have hv7 : ((Utf8.decode s p).1 : Int) = 10 := by rw [h7]; rfl
            rw [h7] at hstep
            have G : Hd (bs ++ [92, 110] = 34 :: (s.data.toList.take (p + (Utf8.decode s p).2)).flatMap U.wrJ) := hd <| by rw [hstep, hr.o]; rfl
            have HNEW : Hd (cellsB [92, 110] = [.int .u8 92, .int .u8 110]) := hd rfl
            clear hstep h7
            go_wp2_with (at_builtin; refine wpList_app_lit 32 5 (.int .u8 0) 1 1 Tryz.underlying32 info_u8 rfl (by decide) rfl _ _ rfl w.heap.size u4 bs.length (cellsB bs) (wr.iterAt kk s (p + (Utf8.decode s p).2)) #[.int .u8 92, .int .u8 110] 2 rfl rfl how2 rfl ?_ ?_ ?_ hzz ?_)
            any_goals (first | omega | (simp [Value.oneCell']; done))
            intro v' w' ho' hg'
            have hit' := hd (grown_keep hg' HIT.o HNE.o)
            have hbw' := bel_grown HBW.o hg' (fun k hk => (how2.lt k hk).1)
            have HO : Hd (w'.ownsRow w.heap.size 5 1 v' (bs ++ [92, 110]).length (cellsB (bs ++ [92, 110]))) := hd <| by
              rw [cellsB_app, List.length_append, HNEW.o]
              exact ho'
            clear how how2 ho' hg'
            go_wp2
            go_roundw
            case rel => exact ⟨p + (Utf8.decode s p).2, bs ++ [92, 110], hle, hit'.o, HO.o, hbw', G, GV⟩
            case measure => rw [iterPos_of hit'.o, HIP.o]; omega
          · have hv7 : ((Utf8.decode s p).1 : Int) = 12 := by rw [h7]; rfl
            rw [h7] at hstep
            have G : Hd (bs ++ [92, 102] = 34 :: (s.data.toList.take (p + (Utf8.decode s p).2)).flatMap U.wrJ) := hd <| by rw [hstep, hr.o]; rfl
            have HNEW : Hd (cellsB [92, 102] = [.int .u8 92, .int .u8 102]) := hd rfl
            clear hstep h7
            go_wp2_with (at_builtin; refine wpList_app_lit 32 5 (.int .u8 0) 1 1 Tryz.underlying32 info_u8 rfl (by decide) rfl _ _ rfl w.heap.size u4 bs.length (cellsB bs) (wr.iterAt kk s (p + (Utf8.decode s p).2)) #[.int .u8 92, .int .u8 102] 2 rfl rfl how2 rfl ?_ ?_ ?_ hzz ?_)
            any_goals (first | omega | (simp [Value.oneCell']; done))
            intro v' w' ho' hg'
            have hit' := hd (grown_keep hg' HIT.o HNE.o)
            have hbw' := bel_grown HBW.o hg' (fun k hk => (how2.lt k hk).1)
            have HO : Hd (w'.ownsRow w.heap.size 5 1 v' (bs ++ [92, 102]).length (cellsB (bs ++ [92, 102]))) := hd <| by
              rw [cellsB_app, List.length_append, HNEW.o]
              exact ho'
            clear how how2 ho' hg'
            go_wp2
            go_roundw
            case rel => exact ⟨p + (Utf8.decode s p).2, bs ++ [92, 102], hle, hit'.o, HO.o, hbw', G, GV⟩
            case measure => rw [iterPos_of hit'.o, HIP.o]; omega
          · have hv7 : ((Utf8.decode s p).1 : Int) = 13 := by rw [h7]; rfl
            rw [h7] at hstep
            have G : Hd (bs ++ [92, 114] = 34 :: (s.data.toList.take (p + (Utf8.decode s p).2)).flatMap U.wrJ) := hd <| by rw [hstep, hr.o]; rfl
            have HNEW : Hd (cellsB [92, 114] = [.int .u8 92, .int .u8 114]) := hd rfl
            clear hstep h7
            go_wp2_with (at_builtin; refine wpList_app_lit 32 5 (.int .u8 0) 1 1 Tryz.underlying32 info_u8 rfl (by decide) rfl _ _ rfl w.heap.size u4 bs.length (cellsB bs) (wr.iterAt kk s (p + (Utf8.decode s p).2)) #[.int .u8 92, .int .u8 114] 2 rfl rfl how2 rfl ?_ ?_ ?_ hzz ?_)
            any_goals (first | omega | (simp [Value.oneCell']; done))
            intro v' w' ho' hg'
            have hit' := hd (grown_keep hg' HIT.o HNE.o)
            have hbw' := bel_grown HBW.o hg' (fun k hk => (how2.lt k hk).1)
            have HO : Hd (w'.ownsRow w.heap.size 5 1 v' (bs ++ [92, 114]).length (cellsB (bs ++ [92, 114]))) := hd <| by
              rw [cellsB_app, List.length_append, HNEW.o]
              exact ho'
            clear how how2 ho' hg'
            go_wp2
            go_roundw
            case rel => exact ⟨p + (Utf8.decode s p).2, bs ++ [92, 114], hle, hit'.o, HO.o, hbw', G, GV⟩
            case measure => rw [iterPos_of hit'.o, HIP.o]; omega
        by_cases hC : (Utf8.decode s p).1 < 32
        · rw [U.wrJ_hex _ (by omega) ⟨hC, hB⟩] at hstep
          have G : Hd (bs ++ [92, 117, 48, 48, UInt8.ofNat (U.hxN ((Utf8.decode s p).1 / 16)), UInt8.ofNat (U.hxN ((Utf8.decode s p).1 % 16))] = 34 :: (s.data.toList.take (p + (Utf8.decode s p).2)).flatMap U.wrJ) := hd <| by rw [hstep, hr.o]; rfl
          have b1 : (((Utf8.decode s p).1 : Int) == 34) = false := by rw [beq_eq_false_iff_ne]; omega
          have b2 : (((Utf8.decode s p).1 : Int) == 92) = false := by rw [beq_eq_false_iff_ne]; omega
          clear hstep
          have hC' : (Utf8.decode s p).1 < 8 ∨ (14 ≤ (Utf8.decode s p).1 ∧ (Utf8.decode s p).1 < 32) ∨ (Utf8.decode s p).1 = 11 := by omega
          have ha15 := and15 ((Utf8.decode s p).1 : Int) (by omega) (by omega)
          have x1 := fun w => run_hex .i32 ((Utf8.decode s p).1 / 16) (by omega) (by omega) w
          have x2 := fun w => run_hex .i32 ((Utf8.decode s p).1 % 16) (by omega) (by omega) w
          have HNEW : Hd (cellsB [92, 117, 48, 48, UInt8.ofNat (U.hxN ((Utf8.decode s p).1 / 16)), UInt8.ofNat (U.hxN ((Utf8.decode s p).1 % 16))] = [.int .u8 92, .int .u8 117, .int .u8 48, .int .u8 48, .int .u8 (U.hxN (((Utf8.decode s p).1 : Int) / 16).toNat : Int), .int .u8 (U.hxN (((Utf8.decode s p).1 : Int) % 16).toNat : Int)]) := hd <| by
            have e1 : (((Utf8.decode s p).1 : Int) / 16).toNat = (Utf8.decode s p).1 / 16 := by omega
            have e2 : (((Utf8.decode s p).1 : Int) % 16).toNat = (Utf8.decode s p).1 % 16 := by omega
            rw [e1, e2]
            simp only [cellsB, List.map_cons, List.map_nil]
            rw [U.ofNat_toNat _ (U.hxN_lt _ (by omega)), U.ofNat_toNat _ (U.hxN_lt _ (by omega))]; rfl
          clear hA hB hC
          rcases hC' with hC | hC | hC
          · go_wp2_with fail
            go_region_law (refine step_app_lit 32 5 (.int .u8 0) 1 1 Tryz.underlying32 info_u8 rfl (by decide) rfl (.tmp 51) (.tmp 58) rfl w.heap.size u4 bs.length (cellsB bs) (wr.iterAt kk s (p + (Utf8.decode s p).2)) _ 6 rfl rfl how2 rfl (by simp [Value.oneCell']) (by omega) (by omega) hzz ?_; intro v' w' ho' hg')
            all_goals
              have hit' := hd (grown_keep hg' HIT.o HNE.o)
              have hbw' := bel_grown HBW.o hg' (fun k hk => (how2.lt k hk).1)
              have HO : Hd (w'.ownsRow w.heap.size 5 1 v' (bs ++ [92, 117, 48, 48, UInt8.ofNat (U.hxN ((Utf8.decode s p).1 / 16)), UInt8.ofNat (U.hxN ((Utf8.decode s p).1 % 16))]).length (cellsB (bs ++ [92, 117, 48, 48, UInt8.ofNat (U.hxN ((Utf8.decode s p).1 / 16)), UInt8.ofNat (U.hxN ((Utf8.decode s p).1 % 16))]))) := hd <| by
                rw [cellsB_app, List.length_append, HNEW.o]
                exact ho'
              clear how how2 ho' hg'
              go_simp
              go_wp2
              go_roundw
              case rel => exact ⟨p + (Utf8.decode s p).2, _, hle, hit'.o, HO.o, hbw', G, GV⟩
              case measure => rw [iterPos_of hit'.o, HIP.o]; omega
          · go_wp2_with fail
            go_region_law (refine step_app_lit 32 5 (.int .u8 0) 1 1 Tryz.underlying32 info_u8 rfl (by decide) rfl (.tmp 51) (.tmp 58) rfl w.heap.size u4 bs.length (cellsB bs) (wr.iterAt kk s (p + (Utf8.decode s p).2)) _ 6 rfl rfl how2 rfl (by simp [Value.oneCell']) (by omega) (by omega) hzz ?_; intro v' w' ho' hg')
            all_goals
              have hit' := hd (grown_keep hg' HIT.o HNE.o)
              have hbw' := bel_grown HBW.o hg' (fun k hk => (how2.lt k hk).1)
              have HO : Hd (w'.ownsRow w.heap.size 5 1 v' (bs ++ [92, 117, 48, 48, UInt8.ofNat (U.hxN ((Utf8.decode s p).1 / 16)), UInt8.ofNat (U.hxN ((Utf8.decode s p).1 % 16))]).length (cellsB (bs ++ [92, 117, 48, 48, UInt8.ofNat (U.hxN ((Utf8.decode s p).1 / 16)), UInt8.ofNat (U.hxN ((Utf8.decode s p).1 % 16))]))) := hd <| by
                rw [cellsB_app, List.length_append, HNEW.o]
                exact ho'
              clear how how2 ho' hg'
              go_simp
              go_wp2
              go_roundw
              case rel => exact ⟨p + (Utf8.decode s p).2, _, hle, hit'.o, HO.o, hbw', G, GV⟩
              case measure => rw [iterPos_of hit'.o, HIP.o]; omega
          · have b3 : (((Utf8.decode s p).1 : Int) != 11) = false := by rw [hC]; rfl
            have hC1 : 11 ≤ (Utf8.decode s p).1 := by omega
            have hC2 : (Utf8.decode s p).1 ≤ 11 := by omega
            clear hC
            go_wp2_with fail
            go_region_law (refine step_app_lit 32 5 (.int .u8 0) 1 1 Tryz.underlying32 info_u8 rfl (by decide) rfl (.tmp 51) (.tmp 58) rfl w.heap.size u4 bs.length (cellsB bs) (wr.iterAt kk s (p + (Utf8.decode s p).2)) _ 6 rfl rfl how2 rfl (by simp [Value.oneCell']) (by omega) (by omega) hzz ?_; intro v' w' ho' hg')
            all_goals
              have hit' := hd (grown_keep hg' HIT.o HNE.o)
              have hbw' := bel_grown HBW.o hg' (fun k hk => (how2.lt k hk).1)
              have HO : Hd (w'.ownsRow w.heap.size 5 1 v' (bs ++ [92, 117, 48, 48, UInt8.ofNat (U.hxN ((Utf8.decode s p).1 / 16)), UInt8.ofNat (U.hxN ((Utf8.decode s p).1 % 16))]).length (cellsB (bs ++ [92, 117, 48, 48, UInt8.ofNat (U.hxN ((Utf8.decode s p).1 / 16)), UInt8.ofNat (U.hxN ((Utf8.decode s p).1 % 16))]))) := hd <| by
                rw [cellsB_app, List.length_append, HNEW.o]
                exact ho'
              clear how how2 ho' hg'
              go_simp
              go_wp2
              go_roundw
              case rel => exact ⟨p + (Utf8.decode s p).2, _, hle, hit'.o, HO.o, hbw', G, GV⟩
              case measure => rw [iterPos_of hit'.o, HIP.o]; omega
        · have hc : 32 ≤ (Utf8.decode s p).1 ∧ (Utf8.decode s p).1 ≠ 34 ∧ (Utf8.decode s p).1 ≠ 92 := by omega
          rw [U.wrJ_self _ (by omega) hc, ← U.enc_low _ hlow] at hstep
          have G : Hd (bs ++ (Utf8.encode ((Utf8.decode s p).1 : Int)).toList = 34 :: (s.data.toList.take (p + (Utf8.decode s p).2)).flatMap U.wrJ) := hd <| by rw [hstep, hr.o]; rfl
          clear hstep
          have b1 : (((Utf8.decode s p).1 : Int) == 34) = false := by rw [beq_eq_false_iff_ne]; omega
          have b2 : (((Utf8.decode s p).1 : Int) == 92) = false := by rw [beq_eq_false_iff_ne]; omega
          have hv := hd (U.good_valid s p GB.o)
          have hn : bs.length ≤ 140737488351232 := by omega
          have hr32 : 32 ≤ (Utf8.decode s p).1 := by omega
          have hcast : 32 ≤ (Utf8.decode s p).1 := hr32
          clear hA hB hC hlow hc
          go_wp2_with (go_at_call 143; refine (form_any _ hv.o w.heap.size u4 bs.length (cellsB bs) _ how2 hzz hn).mono ?_; rintro e w' ⟨v', rfl, ho', hg'⟩)
          have hit' := hd (grown_keep hg' HIT.o HNE.o)
          have hbw' := bel_grown HBW.o hg' (fun k hk => (how2.lt k hk).1)
          have HO : Hd (w'.ownsRow w.heap.size 5 1 v' (bs ++ (Utf8.encode ((Utf8.decode s p).1 : Int)).toList).length (cellsB (bs ++ (Utf8.encode ((Utf8.decode s p).1 : Int)).toList))) := hd <| by
            rw [cellsB_app, List.length_append]
            exact ho'
          clear how how2 ho' hg' hv
          go_wp2
          go_roundw
          case rel => exact ⟨p + (Utf8.decode s p).2, _, hle, hit'.o, HO.o, hbw', G, GV⟩
          case measure => rw [iterPos_of hit'.o, HIP.o]; omega
      · have hstep := U.flat_high U.wrJ U.wrJ_high s p hp GB.o (by unfold U.run; omega)
        unfold U.run at hstep
        have G : Hd (bs ++ (Utf8.encode ((Utf8.decode s p).1 : Int)).toList = 34 :: (s.data.toList.take (p + (Utf8.decode s p).2)).flatMap U.wrJ) := hd <| by rw [hstep, hr.o]; rfl
        clear hstep
        have b1 : (((Utf8.decode s p).1 : Int) == 34) = false := by rw [beq_eq_false_iff_ne]; omega
        have b2 : (((Utf8.decode s p).1 : Int) == 92) = false := by rw [beq_eq_false_iff_ne]; omega
        have hv := hd (U.good_valid s p GB.o)
        have hn : bs.length ≤ 140737488351232 := by omega
        have hr32 : 32 ≤ (Utf8.decode s p).1 := by omega
        have hcast : 32 ≤ (Utf8.decode s p).1 := hr32
        clear hlow
        go_wp2_with (go_at_call 143; refine (form_any _ hv.o w.heap.size u4 bs.length (cellsB bs) _ how2 hzz hn).mono ?_; rintro e w' ⟨v', rfl, ho', hg'⟩)
        have hit' := hd (grown_keep hg' HIT.o HNE.o)
        have hbw' := bel_grown HBW.o hg' (fun k hk => (how2.lt k hk).1)
        have HO : Hd (w'.ownsRow w.heap.size 5 1 v' (bs ++ (Utf8.encode ((Utf8.decode s p).1 : Int)).toList).length (cellsB (bs ++ (Utf8.encode ((Utf8.decode s p).1 : Int)).toList))) := hd <| by
          rw [cellsB_app, List.length_append]
          exact ho'
        clear how how2 ho' hg' hv
        go_wp2
        go_roundw
        case rel => exact ⟨p + (Utf8.decode s p).2, _, hle, hit'.o, HO.o, hbw', G, GV⟩
        case measure => rw [iterPos_of hit'.o, HIP.o]; omega
    · have hnx := fun ty => Lib.run_next_end_at (P := Tryz.prog) wr kk s p ty hit hp
      have G : Hd (bs ++ [34] = (U.wrS U.wrJ s).1) := hd <| by
        rw [HG.o, hr.o, List.take_of_length_le (by rw [← Lib.size_eq]; omega)]
      have hzz : w.heap.size ≤ wr.heap.size := hbw.size
      go_wp2_with (at_builtin; refine wpList_app_lit 32 5 (.int .u8 0) 1 1 Tryz.underlying32 info_u8 rfl (by decide) rfl _ _ rfl w.heap.size u4 bs.length (cellsB bs) _ #[.int .u8 34] 1 rfl rfl how rfl ?c1 ?c2 ?c3 hzz ?_)
      case c1 => simp [Value.oneCell']
      case c2 => omega
      case c3 => omega
      intro v' w' ho' hg'
      have hbw' := bel_grown hbw hg' (fun k hk => (how.lt k hk).1)
      have HO : w'.ownsRow w.heap.size 5 1 v' (bs ++ [34]).length (cellsB (bs ++ [34])) := by
        rw [cellsB_app, List.length_append]
        exact ho'
      have io := IsL.own HO
      have hcv := run_string_of w' 32 9 5 Tryz.underlying32 Tryz.underlying5 Tryz.underlying9 v' _ _ io
      clear how ho' hg' HO io hr
      go_wp2
      go_ret2
      exact ⟨ret_strR (by rw [← G.o]) (by rw [HG.o]), hbw'⟩
end Go.Proofs.YteckfdohgiddgaaGreatDoor
namespace Go.Proofs.YteckfdohgiddgaaGreatDoor
open Go.RowKit
set_option linter.unusedVariables false
set_option linter.unusedSimpArgs false
end Go.Proofs.YteckfdohgiddgaaGreatDoor
namespace Go.Proofs.YteckfdohgiddgaaGreatDoor
open Go.RowKit
set_option linter.unusedVariables false
set_option linter.unusedSimpArgs false

theorem wrap_u8 (x : Int) (h0 : 0 ≤ x) (h1 : x < 256) : IntKind.u8.wrap x = x := by
  rw [IntKind.wrap_u8]; omega
end Go.Proofs.YteckfdohgiddgaaGreatDoor
