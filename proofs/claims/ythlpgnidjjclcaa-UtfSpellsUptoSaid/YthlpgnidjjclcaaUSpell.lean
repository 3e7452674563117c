/- The walk of weirlaw01.spelled: a piece that stands for one rune. -/
import Derived.Test.YthlpgnidjjclcaaUSpDigits
import Derived.Test.YthlpgnidjjclcaaURuneStr
namespace Go.Proofs.Ythlpgnidjjclcaa
open Go.RowKit
set_option linter.unusedVariables false
set_option linter.unusedSimpArgs false
/-- what spelled leaves -/
def SpPost (w : World) (q : Nat) (bs : List UInt8) (en : Ending) (w' : World) : Prop :=
  ∃ S, en = .returned (.string ⟨S.toArray⟩) ∧ U.Sp q bs S ∧ S.length ≤ 64 ∧ Below w.heap.size w w'
theorem app_mk (a b : List UInt8) : (⟨a.toArray⟩ : ByteArray) ++ ⟨b.toArray⟩ = ⟨(a ++ b).toArray⟩ := by
  apply ByteArray.ext
  apply Array.toList_inj.1
  rw [U.app_data]
theorem conv_byte (q : Nat) (hq : q < 256) (W : World) : (convert 62 9 (.slice (some ⟨W.heap.size, 0, none⟩) 1 1)).run Try.prog (W.alloc (.cells #[.int .u8 q] 5)) = .ok (.string ⟨[UInt8.ofNat q].toArray⟩) (W.alloc (.cells #[.int .u8 q] 5)) := by
  refine run_string_of _ 62 9 5 Try.underlying62 Try.underlying5 Try.underlying9 _ 1 [UInt8.ofNat q] (IsL.own (B := W.heap.size) (e := 5) ?_)
  have := World.ownsRow_lit (base := W.heap.size) (e := 5) (size := 1) W #[.int .u8 q] 1 (Nat.le_refl _) (by decide) rfl
  have e : cellsB [UInt8.ofNat q] = [.int .u8 (q : Int)] := by simp only [cellsB, List.map_cons, List.map_nil]; rw [U.ofNat_toNat _ hq]
  rw [e]; exact this
theorem conv_rune (r : Int) (W : World) : (convert 23 9 (.slice (some ⟨W.heap.size, 0, none⟩) 1 1)).run Try.prog (W.alloc (.cells #[.int .i32 r] 21)) = .ok (.string ⟨(U.encs [r]).toArray⟩) (W.alloc (.cells #[.int .i32 r] 21)) :=
  run_runes_of _ _ 1 [r] (IsL.own (World.ownsRow_lit W #[.int .i32 r] 1 (Nat.le_refl _) (by decide) rfl))

theorem spell_1 (m : Nat) (how : Int) (q : Nat) (w : World) (hv : Utf8.valid (m : Int) = true) (hq : q = 34 ∨ q = 39) (he : how = 1) :
    Calls Try.prog 36 #[.int .i32 m, .int .i64 how, .int .u8 q] w (SpPost w q (Utf8.encode (m : Int)).toList) := by
  have hm := (U.valid_iff _).1 hv
  have hmm : m ≤ 1114111 := by omega
  have HV := hd hv
  have HB : Hd (Below w.heap.size w w) := hd (Below.refl _ _)
  clear hm hv
  obtain ⟨r, hr⟩ : ∃ r : Int, r = (m : Int) := ⟨_, rfl⟩
  have hr0 : 0 ≤ r := by omega
  have hr1 : r ≤ 1114111 := by omega
  rw [← hr]
  have HR := hd hr
  clear hr
  subst he
  go_enter Try.func36, Try.ntmps36
  have G := hd (U.sp_U q hq m HV.o)
  go_wp2_with (go_at_call 53; rw [HR.o]; refine (digits_any m 16 8 _ (by decide) (by decide) (by decide) (by omega)).mono ?_; rintro e w4 ⟨rfl, hb4⟩; have HB4 := hd (bel HB.o hb4); clear hb4)
  go_ret
  refine ⟨92 :: 85 :: U.dgs m 16 8, ret_str ?_, by rw [HR.o]; exact G.o, ?_, HB4.o⟩
  · exact app_mk [92, 85] _
  · simp [U.dgs_len]

theorem spell_2 (m : Nat) (how : Int) (q : Nat) (w : World) (hv : Utf8.valid (m : Int) = true) (hq : q = 34 ∨ q = 39) (he : how = 2) :
    Calls Try.prog 36 #[.int .i32 m, .int .i64 how, .int .u8 q] w (SpPost w q (Utf8.encode (m : Int)).toList) := by
  have hm := (U.valid_iff _).1 hv
  have hmm : m ≤ 1114111 := by omega
  have HV := hd hv
  have HB : Hd (Below w.heap.size w w) := hd (Below.refl _ _)
  clear hm hv
  obtain ⟨r, hr⟩ : ∃ r : Int, r = (m : Int) := ⟨_, rfl⟩
  have hr0 : 0 ≤ r := by omega
  have hr1 : r ≤ 1114111 := by omega
  rw [← hr]
  have HR := hd hr
  clear hr
  subst he
  by_cases hlt : m < 65536
  · have t1 : decide (r < 65536) = true := by have := HR.o; simp; omega
    have G := hd (U.sp_u q hq m HV.o hlt)
    go_enter Try.func36, Try.ntmps36
    go_wp2_with (go_at_call 53; rw [HR.o]; refine (digits_any m 16 4 _ (by decide) (by decide) (by decide) (by omega)).mono ?_; rintro e w4 ⟨rfl, hb4⟩; have HB4 := hd (bel HB.o hb4); clear hb4)
    go_ret
    refine ⟨92 :: 117 :: U.dgs m 16 4, ret_str ?_, by rw [HR.o]; exact G.o, ?_, HB4.o⟩
    · exact app_mk [92, 117] _
    · simp [U.dgs_len]
  · have t1 : decide (r < 65536) = false := by have := HR.o; simp; omega
    clear hlt
    go_enter Try.func36, Try.ntmps36
    by_cases hs : m = 10 ∨ m = 92 ∨ m = q
    · have hm2 : m < 256 := by omega
      have t10 : ∃ q1 q2 q3 : Bool, (r == 10) = q1 ∧ (r == 92) = q2 ∧ (r == (q : Int)) = q3 ∧ Hd ((q1 || q2 || q3) = true) :=
        ⟨_, _, _, rfl, rfl, rfl, hd (by have := HR.o; simp; omega)⟩
      obtain ⟨q1, q2, q3, e1, e2, e3, HQ⟩ := t10
      have G := hd (U.sp_x q hq m hm2)
      have GE : Hd ((Utf8.encode (m : Int)).toList = [UInt8.ofNat m]) := hd (U.enc_low m (by omega))
      clear hs
      cases q1 <;> cases q2 <;> cases q3
      all_goals first
        | (exfalso; have := HQ.o; revert this; decide)
        | (go_wp2_with (go_at_call 53; rw [HR.o]; refine (digits_any m 16 2 _ (by decide) (by decide) (by decide) (by omega)).mono ?_; rintro e w4 ⟨rfl, hb4⟩; have HB4 := hd (bel HB.o hb4); clear hb4)
           go_ret
           refine ⟨92 :: 120 :: U.dgs m 16 2, ret_str ?_, ?_, ?_, HB4.o⟩
           · exact app_mk [92, 120] _
           · rw [HR.o, GE.o]; exact G.o
           · simp [U.dgs_len])
    · have e1 : (r == 10) = false := by rw [beq_eq_false_iff_ne]; have := HR.o; omega
      have e2 : (r == 92) = false := by rw [beq_eq_false_iff_ne]; have := HR.o; omega
      have e3 : (r == (q : Int)) = false := by rw [beq_eq_false_iff_ne]; have := HR.o; omega
      have G := hd (U.sp_rune q hq m HV.o (by omega))
      have hcv := conv_rune r
      clear hs
      go_wp2
      go_ret
      refine ⟨_, rfl, by rw [U.encs_one, HR.o]; exact G.o, ?_, ?_⟩
      · rw [U.encs_one, HR.o]; have := U.enc_len m HV.o; omega
      · exact (HB.o).alloc (HB.o).size _

theorem spell_3 (m : Nat) (how : Int) (q : Nat) (w : World) (hv : Utf8.valid (m : Int) = true) (hq : q = 34 ∨ q = 39) (he : how = 3) :
    Calls Try.prog 36 #[.int .i32 m, .int .i64 how, .int .u8 q] w (SpPost w q (Utf8.encode (m : Int)).toList) := by
  have hm := (U.valid_iff _).1 hv
  have hmm : m ≤ 1114111 := by omega
  have HV := hd hv
  have HB : Hd (Below w.heap.size w w) := hd (Below.refl _ _)
  clear hm hv
  obtain ⟨r, hr⟩ : ∃ r : Int, r = (m : Int) := ⟨_, rfl⟩
  have hr0 : 0 ≤ r := by omega
  have hr1 : r ≤ 1114111 := by omega
  rw [← hr]
  have HR := hd hr
  clear hr
  subst he
  have hcv := conv_rune r
  have hel : (Utf8.encode r).toList.length ≤ 4 := by rw [HR.o]; exact U.enc_len m HV.o
  have HEL := hd hel
  clear hel
  have HSZ : Hd ((⟨(U.encs [r]).toArray⟩ : ByteArray).size ≤ 4) := hd (by rw [U.mk_size, U.encs_one]; exact HEL.o)
  have HAT : Hd (∀ k, U.at' ⟨(U.encs [r]).toArray⟩ k = ((((Utf8.encode r).toList)[k]?).getD 0).toNat) := hd fun k => by rw [U.at_mk, U.encs_one]
  have HSL : Hd ((⟨(U.encs [r]).toArray⟩ : ByteArray).size = (Utf8.encode r).toList.length) := hd (by rw [U.mk_size, U.encs_one])
  generalize (⟨(U.encs [r]).toArray⟩ : ByteArray) = s at *
  generalize (Utf8.encode r).toList = L at *
  go_enter Try.func36, Try.ntmps36
  go_wp2_with (refine wpList_bytes_of _ 9 62 5 _ Try.underlying9 Try.underlying62 Try.underlying5 rfl _ rfl rfl ?_)
  intro cap w2 hb2 hz2 hcells
  have HB2 : Hd (Below w.heap.size w w2) := hd (bel ((HB.o).alloc (HB.o).size _) (by simpa using hb2))
  have HC := hd hcells
  have hbb : w.heap.size + 1 < w2.heap.size := by simpa using hz2
  clear hcells hb2 hz2
  go_wp2
  go_loopw [7, 35] (fun v x wr => ∃ (k : Nat) (S : List UInt8), k ≤ s.size ∧ x = .int .i64 k ∧ v = .string ⟨S.toArray⟩ ∧ S.length ≤ 4 * k ∧ Below w2.heap.size w2 wr ∧ Hd (U.Sp q (L.take k) S)) (fun _ x _ => s.size - (intOf x).toNat)
  case atStart => exact ⟨0, [], Nat.zero_le _, rfl, rfl, Nat.le_refl _, Below.refl _ _, hd (U.sp_nil q)⟩
  case round =>
    obtain ⟨k, S, hk, rfl, rfl, hS, hbw, hsp⟩ := hrel
    have HBw := hd hbw
    have hs4 := HSZ.o
    by_cases hlt : k < s.size
    · have c0 := HC.o k hlt
      have d0 := (hbw.cell (p := ⟨w.heap.size + 1, k, none⟩) hbb).trans (by simpa using c0)
      have hc := U.at_lt s k
      have hkl : k < L.length := by have := HSL.o; omega
      have hel : L[k]'hkl = UInt8.ofNat (U.at' s k) := by rw [HAT.o k, List.getElem?_eq_getElem hkl, Option.getD_some, U.u8_of]
      have G : Hd (U.Sp q (L.take (k + 1)) (S ++ (92 :: 120 :: U.dgs (U.at' s k) 16 2))) := hd <| by
        rw [List.take_succ_eq_append_getElem hkl, hel]
        exact U.sp_app hsp.o (U.sp_x q hq (U.at' s k) hc)
      generalize U.at' s k = c at *
      have hl2 := U.dgs_len 16 2 c
      have hS16 : S.length ≤ 16 := by omega
      clear hel c0
      go_wp2_with (go_at_call 53; refine (digits_any c 16 2 _ (by decide) (by decide) (by decide) (by omega)).mono ?_; rintro e w4 ⟨rfl, hb4⟩; have HB4 := hd (bel HBw.o hb4); clear hb4)
      go_roundw
      case rel => exact ⟨k + 1, _, by omega, by go_num, by rw [app_mk [92, 120], app_mk S]; rfl, by simp [U.dgs_len]; omega, HB4.o, G⟩
      case measure => simp [intOf]; omega
    · have hkk : Hd (L.take k = L) := hd (List.take_of_length_le (by have := HSL.o; omega))
      go_wp2
      go_ret
      exact ⟨S, rfl, by rw [← hkk.o]; exact hsp.o, by omega, bel HB2.o HBw.o⟩

theorem spell_4 (m : Nat) (how : Int) (q : Nat) (w : World) (hv : Utf8.valid (m : Int) = true) (hq : q = 34 ∨ q = 39) (he : how = 4) :
    Calls Try.prog 36 #[.int .i32 m, .int .i64 how, .int .u8 q] w (SpPost w q (Utf8.encode (m : Int)).toList) := by
  have hm := (U.valid_iff _).1 hv
  have hmm : m ≤ 1114111 := by omega
  have HV := hd hv
  have HB : Hd (Below w.heap.size w w) := hd (Below.refl _ _)
  clear hm hv
  obtain ⟨r, hr⟩ : ∃ r : Int, r = (m : Int) := ⟨_, rfl⟩
  have hr0 : 0 ≤ r := by omega
  have hr1 : r ≤ 1114111 := by omega
  rw [← hr]
  have HR := hd hr
  clear hr
  subst he
  have hcv := conv_rune r
  have hel : (Utf8.encode r).toList.length ≤ 4 := by rw [HR.o]; exact U.enc_len m HV.o
  have HEL := hd hel
  clear hel
  have HSZ : Hd ((⟨(U.encs [r]).toArray⟩ : ByteArray).size ≤ 4) := hd (by rw [U.mk_size, U.encs_one]; exact HEL.o)
  have HAT : Hd (∀ k, U.at' ⟨(U.encs [r]).toArray⟩ k = ((((Utf8.encode r).toList)[k]?).getD 0).toNat) := hd fun k => by rw [U.at_mk, U.encs_one]
  have HSL : Hd ((⟨(U.encs [r]).toArray⟩ : ByteArray).size = (Utf8.encode r).toList.length) := hd (by rw [U.mk_size, U.encs_one])
  generalize (⟨(U.encs [r]).toArray⟩ : ByteArray) = s at *
  generalize (Utf8.encode r).toList = L at *
  go_enter Try.func36, Try.ntmps36
  go_wp2_with (refine wpList_bytes_of _ 9 62 5 _ Try.underlying9 Try.underlying62 Try.underlying5 rfl _ rfl rfl ?_)
  intro cap w2 hb2 hz2 hcells
  have HB2 : Hd (Below w.heap.size w w2) := hd (bel ((HB.o).alloc (HB.o).size _) (by simpa using hb2))
  have HC := hd hcells
  have hbb : w.heap.size + 1 < w2.heap.size := by simpa using hz2
  clear hcells hb2 hz2
  go_wp2
  go_loopw [7, 35] (fun v x wr => ∃ (k : Nat) (S : List UInt8), k ≤ s.size ∧ x = .int .i64 k ∧ v = .string ⟨S.toArray⟩ ∧ S.length ≤ 4 * k ∧ Below w2.heap.size w2 wr ∧ Hd (U.Sp q (L.take k) S)) (fun _ x _ => s.size - (intOf x).toNat)
  case atStart => exact ⟨0, [], Nat.zero_le _, rfl, rfl, Nat.le_refl _, Below.refl _ _, hd (U.sp_nil q)⟩
  case round =>
    obtain ⟨k, S, hk, rfl, rfl, hS, hbw, hsp⟩ := hrel
    have HBw := hd hbw
    have hs4 := HSZ.o
    by_cases hlt : k < s.size
    · have c0 := HC.o k hlt
      have d0 := (hbw.cell (p := ⟨w.heap.size + 1, k, none⟩) hbb).trans (by simpa using c0)
      have hc := U.at_lt s k
      have hkl : k < L.length := by have := HSL.o; omega
      have hel : L[k]'hkl = UInt8.ofNat (U.at' s k) := by rw [HAT.o k, List.getElem?_eq_getElem hkl, Option.getD_some, U.u8_of]
      have G : Hd (U.Sp q (L.take (k + 1)) (S ++ (92 :: U.dgs (U.at' s k) 8 3))) := hd <| by
        rw [List.take_succ_eq_append_getElem hkl, hel]
        exact U.sp_app hsp.o (U.sp_o q hq (U.at' s k) hc)
      generalize U.at' s k = c at *
      have hl2 := U.dgs_len 8 3 c
      have hS16 : S.length ≤ 16 := by omega
      clear hel c0
      go_wp2_with (go_at_call 53; refine (digits_any c 8 3 _ (by decide) (by decide) (by decide) (by omega)).mono ?_; rintro e w4 ⟨rfl, hb4⟩; have HB4 := hd (bel HBw.o hb4); clear hb4)
      go_roundw
      case rel => exact ⟨k + 1, _, by omega, by go_num, by rw [app_mk [92], app_mk S]; rfl, by simp [U.dgs_len]; omega, HB4.o, G⟩
      case measure => simp [intOf]; omega
    · have hkk : Hd (L.take k = L) := hd (List.take_of_length_le (by have := HSL.o; omega))
      go_wp2
      go_ret
      exact ⟨S, rfl, by rw [← hkk.o]; exact hsp.o, by omega, bel HB2.o HBw.o⟩

theorem spell_else (m : Nat) (how : Int) (q : Nat) (w : World) (hv : Utf8.valid (m : Int) = true) (hq : q = 34 ∨ q = 39) (he : ¬ (how = 1 ∨ how = 2 ∨ how = 3 ∨ how = 4 ∨ how = 5)) :
    Calls Try.prog 36 #[.int .i32 m, .int .i64 how, .int .u8 q] w (SpPost w q (Utf8.encode (m : Int)).toList) := by
  have hm := (U.valid_iff _).1 hv
  have hmm : m ≤ 1114111 := by omega
  have HV := hd hv
  have HB : Hd (Below w.heap.size w w) := hd (Below.refl _ _)
  clear hm hv
  obtain ⟨r, hr⟩ : ∃ r : Int, r = (m : Int) := ⟨_, rfl⟩
  have hr0 : 0 ≤ r := by omega
  have hr1 : r ≤ 1114111 := by omega
  rw [← hr]
  have HR := hd hr
  clear hr
  have h1 : (how == 1) = false := by rw [beq_eq_false_iff_ne]; omega
  have h2 : (how == 2) = false := by rw [beq_eq_false_iff_ne]; omega
  have h3 : (how == 3) = false := by rw [beq_eq_false_iff_ne]; omega
  have h4 : (how == 4) = false := by rw [beq_eq_false_iff_ne]; omega
  have h5 : (how == 5) = false := by rw [beq_eq_false_iff_ne]; omega
  clear he
  go_enter Try.func36, Try.ntmps36
  by_cases hs : m = 10 ∨ m = 92 ∨ m = q
  · have hm2 : m < 256 := by omega
    have t10 : ∃ q1 q2 q3 : Bool, (r == 10) = q1 ∧ (r == 92) = q2 ∧ (r == (q : Int)) = q3 ∧ Hd ((q1 || q2 || q3) = true) :=
      ⟨_, _, _, rfl, rfl, rfl, hd (by have := HR.o; simp; omega)⟩
    obtain ⟨q1, q2, q3, e1, e2, e3, HQ⟩ := t10
    have G := hd (U.sp_x q hq m hm2)
    have GE : Hd ((Utf8.encode (m : Int)).toList = [UInt8.ofNat m]) := hd (U.enc_low m (by omega))
    clear hs
    cases q1 <;> cases q2 <;> cases q3
    all_goals first
      | (exfalso; have := HQ.o; revert this; decide)
      | (go_wp2_with (go_at_call 53; rw [HR.o]; refine (digits_any m 16 2 _ (by decide) (by decide) (by decide) (by omega)).mono ?_; rintro e w4 ⟨rfl, hb4⟩; have HB4 := hd (bel HB.o hb4); clear hb4)
         go_ret
         refine ⟨92 :: 120 :: U.dgs m 16 2, ret_str ?_, ?_, ?_, HB4.o⟩
         · exact app_mk [92, 120] _
         · rw [HR.o, GE.o]; exact G.o
         · simp [U.dgs_len])
  · have e1 : (r == 10) = false := by rw [beq_eq_false_iff_ne]; have := HR.o; omega
    have e2 : (r == 92) = false := by rw [beq_eq_false_iff_ne]; have := HR.o; omega
    have e3 : (r == (q : Int)) = false := by rw [beq_eq_false_iff_ne]; have := HR.o; omega
    have G := hd (U.sp_rune q hq m HV.o (by omega))
    have hcv := conv_rune r
    clear hs
    go_wp2
    go_ret
    refine ⟨_, rfl, by rw [U.encs_one, HR.o]; exact G.o, ?_, ?_⟩
    · rw [U.encs_one, HR.o]; have := U.enc_len m HV.o; omega
    · exact (HB.o).alloc (HB.o).size _

theorem spell_5 (m : Nat) (how : Int) (q : Nat) (w : World) (hv : Utf8.valid (m : Int) = true) (hq : q = 34 ∨ q = 39) (he : how = 5) :
    Calls Try.prog 36 #[.int .i32 m, .int .i64 how, .int .u8 q] w (SpPost w q (Utf8.encode (m : Int)).toList) := by
  have hm := (U.valid_iff _).1 hv
  have hmm : m ≤ 1114111 := by omega
  have HV := hd hv
  have HB : Hd (Below w.heap.size w w) := hd (Below.refl _ _)
  clear hm hv
  obtain ⟨r, hr⟩ : ∃ r : Int, r = (m : Int) := ⟨_, rfl⟩
  have hr0 : 0 ≤ r := by omega
  have hr1 : r ≤ 1114111 := by omega
  rw [← hr]
  have HR := hd hr
  clear hr
  subst he
  cases hqr : (r == (q : Int)) with
  | true =>
    have hrq : r = (q : Int) := by simpa using hqr
    have GE : Hd ((Utf8.encode r).toList = [UInt8.ofNat q]) := hd (by rw [hrq]; exact U.enc_low q (by omega))
    have c1 := conv_byte q (by omega)
    clear hrq
    go_enter Try.func36, Try.ntmps36
    go_wp2
    go_ret
    refine ⟨[92, UInt8.ofNat q], ret_str ?_, by rw [GE.o]; exact U.sp_q q hq, by simp, (HB.o).alloc (HB.o).size _⟩
    exact app_mk [92] [UInt8.ofNat q]
  | false =>
    go_enter Try.func36, Try.ntmps36
    go_wp2
    go_loopw [11] (fun x wr => ∃ j : Nat, j ≤ 8 ∧ x = .int .i64 ((2 * j : Nat) : Int) ∧ Below w.heap.size w wr) (fun x _ => 16 - (intOf x).toNat)
    case atStart => exact ⟨0, by omega, rfl, HB.o⟩
    case round =>
      obtain ⟨j, hj, rfl, hbw⟩ := hrel
      have HBw := hd hbw
      rcases (show j = 0 ∨ j = 1 ∨ j = 2 ∨ j = 3 ∨ j = 4 ∨ j = 5 ∨ j = 6 ∨ j = 7 ∨ j = 8 by omega) with rfl | rfl | rfl | rfl | rfl | rfl | rfl | rfl | rfl
      · cases h : (r == 7) with
        | true =>
          have hrm : r = 7 := by simpa using h
          have GE : Hd ((Utf8.encode r).toList = [UInt8.ofNat 7]) := hd (by rw [hrm]; exact U.enc_low 7 (by decide))
          have h' : ((7 : Int) == r) = true := by rw [beq_iff_eq]; omega
          have hw : wrap32 (((⟨#[97, 7, 98, 8, 116, 9, 110, 10, 118, 11, 102, 12, 114, 13, 92, 92]⟩ : ByteArray)[1]'(by decide)).toNat : Int) = 7 := by decide +kernel
          clear h hrm
          go_wp2
          go_ret
          exact ⟨[92, 97], by first | rfl | decide, by rw [GE.o]; exact U.sp_let q hq 97 7 (by decide), by decide, HBw.o⟩
        | false =>
          have h' : ((7 : Int) == r) = false := by rw [beq_eq_false_iff_ne]; have : r ≠ 7 := (by simpa using h); omega
          have hw : wrap32 (((⟨#[97, 7, 98, 8, 116, 9, 110, 10, 118, 11, 102, 12, 114, 13, 92, 92]⟩ : ByteArray)[1]'(by decide)).toNat : Int) = 7 := by decide +kernel
          clear h
          go_wp2
          go_roundw
          case rel => exact ⟨1, by omega, rfl, HBw.o⟩
          case measure => simp [intOf]
      · cases h : (r == 8) with
        | true =>
          have hrm : r = 8 := by simpa using h
          have GE : Hd ((Utf8.encode r).toList = [UInt8.ofNat 8]) := hd (by rw [hrm]; exact U.enc_low 8 (by decide))
          have h' : ((8 : Int) == r) = true := by rw [beq_iff_eq]; omega
          have hw : wrap32 (((⟨#[97, 7, 98, 8, 116, 9, 110, 10, 118, 11, 102, 12, 114, 13, 92, 92]⟩ : ByteArray)[3]'(by decide)).toNat : Int) = 8 := by decide +kernel
          clear h hrm
          go_wp2
          go_ret
          exact ⟨[92, 98], by first | rfl | decide, by rw [GE.o]; exact U.sp_let q hq 98 8 (by decide), by decide, HBw.o⟩
        | false =>
          have h' : ((8 : Int) == r) = false := by rw [beq_eq_false_iff_ne]; have : r ≠ 8 := (by simpa using h); omega
          have hw : wrap32 (((⟨#[97, 7, 98, 8, 116, 9, 110, 10, 118, 11, 102, 12, 114, 13, 92, 92]⟩ : ByteArray)[3]'(by decide)).toNat : Int) = 8 := by decide +kernel
          clear h
          go_wp2
          go_roundw
          case rel => exact ⟨2, by omega, rfl, HBw.o⟩
          case measure => simp [intOf]
      · cases h : (r == 9) with
        | true =>
          have hrm : r = 9 := by simpa using h
          have GE : Hd ((Utf8.encode r).toList = [UInt8.ofNat 9]) := hd (by rw [hrm]; exact U.enc_low 9 (by decide))
          have h' : ((9 : Int) == r) = true := by rw [beq_iff_eq]; omega
          have hw : wrap32 (((⟨#[97, 7, 98, 8, 116, 9, 110, 10, 118, 11, 102, 12, 114, 13, 92, 92]⟩ : ByteArray)[5]'(by decide)).toNat : Int) = 9 := by decide +kernel
          clear h hrm
          go_wp2
          go_ret
          exact ⟨[92, 116], by first | rfl | decide, by rw [GE.o]; exact U.sp_let q hq 116 9 (by decide), by decide, HBw.o⟩
        | false =>
          have h' : ((9 : Int) == r) = false := by rw [beq_eq_false_iff_ne]; have : r ≠ 9 := (by simpa using h); omega
          have hw : wrap32 (((⟨#[97, 7, 98, 8, 116, 9, 110, 10, 118, 11, 102, 12, 114, 13, 92, 92]⟩ : ByteArray)[5]'(by decide)).toNat : Int) = 9 := by decide +kernel
          clear h
          go_wp2
          go_roundw
          case rel => exact ⟨3, by omega, rfl, HBw.o⟩
          case measure => simp [intOf]
      · cases h : (r == 10) with
        | true =>
          have hrm : r = 10 := by simpa using h
          have GE : Hd ((Utf8.encode r).toList = [UInt8.ofNat 10]) := hd (by rw [hrm]; exact U.enc_low 10 (by decide))
          have h' : ((10 : Int) == r) = true := by rw [beq_iff_eq]; omega
          have hw : wrap32 (((⟨#[97, 7, 98, 8, 116, 9, 110, 10, 118, 11, 102, 12, 114, 13, 92, 92]⟩ : ByteArray)[7]'(by decide)).toNat : Int) = 10 := by decide +kernel
          clear h hrm
          go_wp2
          go_ret
          exact ⟨[92, 110], by first | rfl | decide, by rw [GE.o]; exact U.sp_let q hq 110 10 (by decide), by decide, HBw.o⟩
        | false =>
          have h' : ((10 : Int) == r) = false := by rw [beq_eq_false_iff_ne]; have : r ≠ 10 := (by simpa using h); omega
          have hw : wrap32 (((⟨#[97, 7, 98, 8, 116, 9, 110, 10, 118, 11, 102, 12, 114, 13, 92, 92]⟩ : ByteArray)[7]'(by decide)).toNat : Int) = 10 := by decide +kernel
          clear h
          go_wp2
          go_roundw
          case rel => exact ⟨4, by omega, rfl, HBw.o⟩
          case measure => simp [intOf]
      · cases h : (r == 11) with
        | true =>
          have hrm : r = 11 := by simpa using h
          have GE : Hd ((Utf8.encode r).toList = [UInt8.ofNat 11]) := hd (by rw [hrm]; exact U.enc_low 11 (by decide))
          have h' : ((11 : Int) == r) = true := by rw [beq_iff_eq]; omega
          have hw : wrap32 (((⟨#[97, 7, 98, 8, 116, 9, 110, 10, 118, 11, 102, 12, 114, 13, 92, 92]⟩ : ByteArray)[9]'(by decide)).toNat : Int) = 11 := by decide +kernel
          clear h hrm
          go_wp2
          go_ret
          exact ⟨[92, 118], by first | rfl | decide, by rw [GE.o]; exact U.sp_let q hq 118 11 (by decide), by decide, HBw.o⟩
        | false =>
          have h' : ((11 : Int) == r) = false := by rw [beq_eq_false_iff_ne]; have : r ≠ 11 := (by simpa using h); omega
          have hw : wrap32 (((⟨#[97, 7, 98, 8, 116, 9, 110, 10, 118, 11, 102, 12, 114, 13, 92, 92]⟩ : ByteArray)[9]'(by decide)).toNat : Int) = 11 := by decide +kernel
          clear h
          go_wp2
          go_roundw
          case rel => exact ⟨5, by omega, rfl, HBw.o⟩
          case measure => simp [intOf]
      · cases h : (r == 12) with
        | true =>
          have hrm : r = 12 := by simpa using h
          have GE : Hd ((Utf8.encode r).toList = [UInt8.ofNat 12]) := hd (by rw [hrm]; exact U.enc_low 12 (by decide))
          have h' : ((12 : Int) == r) = true := by rw [beq_iff_eq]; omega
          have hw : wrap32 (((⟨#[97, 7, 98, 8, 116, 9, 110, 10, 118, 11, 102, 12, 114, 13, 92, 92]⟩ : ByteArray)[11]'(by decide)).toNat : Int) = 12 := by decide +kernel
          clear h hrm
          go_wp2
          go_ret
          exact ⟨[92, 102], by first | rfl | decide, by rw [GE.o]; exact U.sp_let q hq 102 12 (by decide), by decide, HBw.o⟩
        | false =>
          have h' : ((12 : Int) == r) = false := by rw [beq_eq_false_iff_ne]; have : r ≠ 12 := (by simpa using h); omega
          have hw : wrap32 (((⟨#[97, 7, 98, 8, 116, 9, 110, 10, 118, 11, 102, 12, 114, 13, 92, 92]⟩ : ByteArray)[11]'(by decide)).toNat : Int) = 12 := by decide +kernel
          clear h
          go_wp2
          go_roundw
          case rel => exact ⟨6, by omega, rfl, HBw.o⟩
          case measure => simp [intOf]
      · cases h : (r == 13) with
        | true =>
          have hrm : r = 13 := by simpa using h
          have GE : Hd ((Utf8.encode r).toList = [UInt8.ofNat 13]) := hd (by rw [hrm]; exact U.enc_low 13 (by decide))
          have h' : ((13 : Int) == r) = true := by rw [beq_iff_eq]; omega
          have hw : wrap32 (((⟨#[97, 7, 98, 8, 116, 9, 110, 10, 118, 11, 102, 12, 114, 13, 92, 92]⟩ : ByteArray)[13]'(by decide)).toNat : Int) = 13 := by decide +kernel
          clear h hrm
          go_wp2
          go_ret
          exact ⟨[92, 114], by first | rfl | decide, by rw [GE.o]; exact U.sp_let q hq 114 13 (by decide), by decide, HBw.o⟩
        | false =>
          have h' : ((13 : Int) == r) = false := by rw [beq_eq_false_iff_ne]; have : r ≠ 13 := (by simpa using h); omega
          have hw : wrap32 (((⟨#[97, 7, 98, 8, 116, 9, 110, 10, 118, 11, 102, 12, 114, 13, 92, 92]⟩ : ByteArray)[13]'(by decide)).toNat : Int) = 13 := by decide +kernel
          clear h
          go_wp2
          go_roundw
          case rel => exact ⟨7, by omega, rfl, HBw.o⟩
          case measure => simp [intOf]
      · cases h : (r == 92) with
        | true =>
          have hrm : r = 92 := by simpa using h
          have GE : Hd ((Utf8.encode r).toList = [UInt8.ofNat 92]) := hd (by rw [hrm]; exact U.enc_low 92 (by decide))
          have h' : ((92 : Int) == r) = true := by rw [beq_iff_eq]; omega
          have hw : wrap32 (((⟨#[97, 7, 98, 8, 116, 9, 110, 10, 118, 11, 102, 12, 114, 13, 92, 92]⟩ : ByteArray)[15]'(by decide)).toNat : Int) = 92 := by decide +kernel
          clear h hrm
          go_wp2
          go_ret
          exact ⟨[92, 92], by first | rfl | decide, by rw [GE.o]; exact U.sp_bs q hq, by decide, HBw.o⟩
        | false =>
          have h' : ((92 : Int) == r) = false := by rw [beq_eq_false_iff_ne]; have : r ≠ 92 := (by simpa using h); omega
          have hw : wrap32 (((⟨#[97, 7, 98, 8, 116, 9, 110, 10, 118, 11, 102, 12, 114, 13, 92, 92]⟩ : ByteArray)[15]'(by decide)).toNat : Int) = 92 := by decide +kernel
          clear h
          go_wp2
          go_roundw
          case rel => exact ⟨8, by omega, rfl, HBw.o⟩
          case measure => simp [intOf]
      · clear hj hqr
        by_cases hs : m = 10 ∨ m = 92 ∨ m = q
        · have hm2 : m < 256 := by omega
          have t10 : ∃ q1 q2 q3 : Bool, (r == 10) = q1 ∧ (r == 92) = q2 ∧ (r == (q : Int)) = q3 ∧ Hd ((q1 || q2 || q3) = true) :=
            ⟨_, _, _, rfl, rfl, rfl, hd (by have := HR.o; simp; omega)⟩
          obtain ⟨q1, q2, q3, e1, e2, e3, HQ⟩ := t10
          have G := hd (U.sp_x q hq m hm2)
          have GE : Hd ((Utf8.encode (m : Int)).toList = [UInt8.ofNat m]) := hd (U.enc_low m (by omega))
          clear hs
          cases q1 <;> cases q2 <;> cases q3
          all_goals first
            | (exfalso; have := HQ.o; revert this; decide)
            | (go_wp2_with (go_at_call 53; rw [HR.o]; refine (digits_any m 16 2 _ (by decide) (by decide) (by decide) (by omega)).mono ?_; rintro e w4 ⟨rfl, hb4⟩; have HB4 := hd (bel HBw.o hb4); clear hb4)
               go_ret
               refine ⟨92 :: 120 :: U.dgs m 16 2, ret_str ?_, ?_, ?_, HB4.o⟩
               · exact app_mk [92, 120] _
               · rw [HR.o, GE.o]; exact G.o
               · simp [U.dgs_len])
        · have e1 : (r == 10) = false := by rw [beq_eq_false_iff_ne]; have := HR.o; omega
          have e2 : (r == 92) = false := by rw [beq_eq_false_iff_ne]; have := HR.o; omega
          have e3 : (r == (q : Int)) = false := by rw [beq_eq_false_iff_ne]; have := HR.o; omega
          have G := hd (U.sp_rune q hq m HV.o (by omega))
          have hcv := conv_rune r
          clear hs
          go_wp2
          go_ret
          refine ⟨_, rfl, by rw [U.encs_one, HR.o]; exact G.o, ?_, ?_⟩
          · rw [U.encs_one, HR.o]; have := U.enc_len m HV.o; omega
          · exact (HBw.o).alloc (HBw.o).size _

theorem spell_any (m : Nat) (how : Int) (q : Nat) (w : World) (hv : Utf8.valid (m : Int) = true) (hq : q = 34 ∨ q = 39) :
    Calls Try.prog 36 #[.int .i32 m, .int .i64 how, .int .u8 q] w (SpPost w q (Utf8.encode (m : Int)).toList) := by
  by_cases h1 : how = 1
  · exact spell_1 m how q w hv hq h1
  by_cases h2 : how = 2
  · exact spell_2 m how q w hv hq h2
  by_cases h3 : how = 3
  · exact spell_3 m how q w hv hq h3
  by_cases h4 : how = 4
  · exact spell_4 m how q w hv hq h4
  by_cases h5 : how = 5
  · exact spell_5 m how q w hv hq h5
  exact spell_else m how q w hv hq (by omega)

end Go.Proofs.Ythlpgnidjjclcaa
