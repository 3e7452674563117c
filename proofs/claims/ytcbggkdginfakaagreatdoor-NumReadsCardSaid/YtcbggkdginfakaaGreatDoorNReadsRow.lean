/- num.Read of every text. num.Parse and weirref02.Parse of every text. NumReads: the law's walk. NumReads: for every input the law returns true and every argument reads as before; the card. -/
import Derived.Test.YtcbggkdginfakaaGreatDoorRfRead
import Derived.Test.YtcbggkdginfakaaGreatDoorHxFl
import Derived.Test.YtcbggkdginfakaaGreatDoorPPlain
import Derived.Test.YtcbggkdginfakaaGreatDoorBQuiet
import Derived.Test.YtcbggkdginfakaaGreatDoorLMm
import Derived.Test.YtcbggkdginfakaaGreatDoorPLay
import Derived.Test.YtcbggkdginfakaaGreatDoorPRdA
import Derived.Test.YtcbggkdginfakaaGreatDoorLOp
import Derived.Test.YtcbggkdginfakaaGreatDoorRows
import Derived.Test.YtcbggkdginfakaaGreatDoorTie
import Derived.Test.YtcbggkdginfakaaGreatDoorCards
import Derived.WalkKit
import Derived.ProofKit
import Derived.Lay
import Derived.LaidOnce
import Derived.SevenTiedAt
import Derived.Lib.LaidTab
import Derived.Stop.LaidErr
namespace Go.Proofs.YtcbggkdginfakaaGreatDoor
open Go.RowKit
set_option linter.unusedVariables false
set_option linter.unusedSimpArgs false
set_option maxRecDepth 100000 in
set_option maxHeartbeats 4000000 in
theorem nread_rest (s : ByteArray) (w : World) (hs : s.size ≤ 1125899906842624) (hno : 512 < s.size ∨ s.size = 0 ∨ PN.pfx s.data.toList ≠ s.size) :
    Calls Tryz.prog 21 #[.string s] w fun x w' => Below w.heap.size w w' ∧ ∃ v, RdOk s v ∧ x = .returned v := by
  by_cases hlong : 512 < s.size
  · have HOK : Hd (RdOk s (rdTup 0 1)) := hd (.inl ⟨hlong, rfl⟩)
    have t : ((512 : Int) < (s.size : Int)) = True := by apply eq_true; omega
    go_enter Tryz.func21, Tryz.ntmps21
    go_wp2
    go_ret2
    exact ⟨Below.refl _ _, _, HOK.o, rfl⟩
  have hno := hno.resolve_left hlong
  have t : ((512 : Int) < (s.size : Int)) = False := by apply eq_false; omega
  have HW1 := hd (fun W => word_any s infW W (by decide))
  have HW2 := hd (fun W => word_any s nanW W (by decide))
  have qI : ∀ W, (callFunc 68 #[.int .u64 9218868437227405312]).run Tryz.prog W = .ok (.value (.float .f64 9218868437227405312)) W := fun W => mfrom_run 9218868437227405312 W
  have qN : ∀ W, (callFunc 68 #[.int .u64 9221120237041090561]).run Tryz.prog W = .ok (.value (.float .f64 9221120237041090561)) W := fun W => mfrom_run 9221120237041090561 W
  have hs5 : s.size ≤ 512 := by omega
  have hne2 : 0 < s.size → s.toList.isEmpty = false := fun h0 => by
    rw [ByteArray.toList_eq, List.isEmpty_eq_false_iff]
    intro h
    have h2 : s.size = 0 := by rw [Lib.size_eq, h]; rfl
    omega
  have HNO := hd hno
  have hne : 0 < s.size → ¬ s = ByteArray.empty := fun h0 h => by subst h; exact absurd h0 (by decide)
  clear hno
  go_enter Tryz.func21, Tryz.ntmps21
  go_wp2_with fail
  refine (HW1.o _).mono ?_
  rintro x w1 ⟨hb1, b1, hw1, rfl⟩
  have B1 := hd hb1
  have hw1 := hd hw1
  clear hb1
  cases b1 with
  | true =>
    have HOK : Hd (RdOk s (rdTup 9218868437227405312 0)) := hd (.inr (.inl ⟨hs5, hw1.o.1 rfl, rfl⟩))
    go_wp2
    go_ret2
    exact ⟨B1.o, _, HOK.o, rfl⟩
  | false =>
    have HN1 : Hd (¬ Wd s infW) := hd (fun h => by have := hw1.o.2 h; cases this)
    clear hw1
    go_wp2_with fail
    refine (HW2.o _).mono ?_
    rintro x w2 ⟨hb2, b2, hw2, rfl⟩
    have B2 := hd (bel B1.o hb2)
    have hw2 := hd hw2
    clear hb2
    cases b2 with
    | true =>
      have HOK : Hd (RdOk s (rdTup 9221120237041090561 0)) := hd (.inr (.inr (.inl ⟨hs5, HN1.o, hw2.o.1 rfl, rfl⟩)))
      go_wp2
      go_ret2
      exact ⟨B2.o, _, HOK.o, rfl⟩
    | false =>
      have HN2 : Hd (¬ Wd s nanW) := hd (fun h => by have := hw2.o.2 h; cases this)
      have HOK : Hd (RdOk s (rdTup 0 20)) := hd (.inr (.inr (.inr (.inl ⟨hs5, HN1.o, HN2.o, HNO.o, rfl⟩))))
      clear hw2 qI qN
      by_cases h0 : s.size = 0
      · have he : s = ByteArray.empty := by
          apply ByteArray.ext
          exact Array.eq_empty_of_size_eq_zero h0
        subst he
        have te : ByteArray.empty.toList.isEmpty = true := by rw [ByteArray.toList_eq]; rfl
        clear h0 hne hne2
        go_wp2
        go_ret2
        exact ⟨B2.o, _, HOK.o, rfl⟩
      · have hp := HNO.o.resolve_left h0
        have hne1 := hne (by omega)
        have hne3 := hne2 (by omega)
        have CP := hd (fun W => prefix_any s W (by omega))
        have tp : (((PN.pfx s.data.toList : Nat) : Int) != (s.size : Int)) = true := by rw [bne_iff_ne]; omega
        generalize PN.pfx s.data.toList = z at *
        clear hp hne hne2 h0
        go_wp2_with (go_at_call 24; (with_reducible refine (CP.o _).mono ?_); rintro e w' ⟨rfl, rfl⟩)
        go_ret2
        exact ⟨B2.o, _, HOK.o, rfl⟩
/-- a lexeme is no word -/
theorem lex_no_word {s : ByteArray} (h0 : 0 < s.size) (h : (s[0]'h0).toNat = 46 ∨ (48 ≤ (s[0]'h0).toNat ∧ (s[0]'h0).toNat ≤ 57)) : ¬ Wd s infW ∧ ¬ Wd s nanW := by
  have h1 := List.all_eq_true.1 low_first (s[0]'h0).toNat (List.mem_range.2 (by omega))
  rw [if_pos (by omega), Bool.and_eq_true, bne_iff_ne, bne_iff_ne] at h1
  exact ⟨not_word h0 (by decide) h1.1, not_word h0 (by decide) h1.2⟩
theorem nread_dec (s : ByteArray) (w : World) (N : Nm2 w) (hs : s.size ≤ 512) (h0 : 0 < s.size) (hp : PN.pfx s.data.toList = s.size) (hh : PN.hexHead s.data.toList = false) :
    Calls Tryz.prog 21 #[.string s] w fun x w' => Below w.heap.size w w' ∧ ∃ v, RdOk s v ∧ x = .returned v := by
  obtain ⟨a, r, e, hda, hr, hok, chars, first⟩ := dec_parts s hs hp h0 hh
  obtain ⟨n1, n2⟩ := lex_no_word h0 first
  refine (read_all s w N hs h0 hp hh a r e hda hr).mono ?_
  rintro x w' ⟨hb, b, hv, rfl⟩
  exact ⟨hb, _, .inr (.inr (.inr (.inr ⟨hs, n1, n2, h0, hp, b, .inr ⟨hh, a, r, e, hda, hr, hv⟩, rfl⟩))), rfl⟩
set_option maxRecDepth 100000 in
set_option maxHeartbeats 2000000 in
theorem atof_hex (t : ByteArray) (H : List UInt8) (w : World) (D : PF.Hex t H) (N : Nms w) :
    Calls Tryz.prog 153 #[.string t] w fun e w' => Below w.heap.size w w' ∧ ∃ b, PVal (PF.hval H 0) 0 b ∧ e = .returned (.tuple #[.float .f64 b, .int .i64 (t.size : Int), erOf b]) := by
  have h0 : 0 < t.size := by have := D.z; omega
  have e0 := D.b0 h0
  have HS := hd (special_no t w h0 (by omega))
  have HR := hd (readHex_any t H w D)
  have I := PF.HInv.start.fold H D.x
  have hbd := I.bd
  have A := I.arg
  have hnd : (PF.hfold H PF.hs0).nd ≤ 600 := by have := hbd.nd; have := D.m; omega
  have hle : (PF.hfold H PF.hs0).nm ≤ (PF.hfold H PF.hs0).nd := by have := I.nm; omega
  have hm0 : (PF.hfold H PF.hs0).m = 0 → (PF.hfold H PF.hs0).nd = 0 := fun h => by
    have hz := A.zl h
    rcases Nat.eq_zero_or_pos (PF.hfold H PF.hs0).nd with e | e
    · exact e
    · have := I.lo e
      have hp : 0 < 16 ^ ((PF.hfold H PF.hs0).nd - 1) := Nat.pow_pos (by decide)
      omega
  generalize PF.hfold H PF.hs0 = q at *
  obtain ⟨m, nd, nm, dp, sg, tr⟩ := q
  dsimp only at HR
  have HH := hd (fun s => hexf_any s (PF.hval H 0) m (nd - nm) tr w A (by show nd - nm ≤ 600; have : nd ≤ 600 := hnd; omega) N.g (if m = 0 then 0 else (nd : Int) * 4 - (nm : Int) * 4) (by
    by_cases h : m = 0
    · have : nd = 0 := hm0 h
      rw [if_pos h, this, Nat.zero_sub]; rfl
    · rw [if_neg h]
      have : nm ≤ nd := hle
      omega))
  have HF : Hd (∀ b, ((PF.hval H 0 = 0 ∧ b = 0) ∨ (0 < PF.hval H 0 ∧ FS.Rnd (PF.hval H 0) 1 b)) → PVal (PF.hval H 0) 0 b) := hd fun b hb => by
    rcases hb with hb | ⟨h1, h2⟩
    · exact .inl hb
    · exact pval_hex h1 h2
  generalize (if m = 0 then (0 : Int) else (nd : Int) * 4 - (nm : Int) * 4) = E at *
  clear I A hbd hnd hle hm0 D e0
  go_enter Tryz.func153, Tryz.ntmps153
  go_wp2_with (first | (go_at_call 180; refine HS.o.mono ?_; rintro e w' ⟨rfl, rfl⟩) | (go_at_call 181; refine HR.o.mono ?_; rintro e w' ⟨rfl, rfl⟩) | (go_at_call 182; (with_reducible refine (HH.o _).mono ?_); rintro e w' ⟨⟨b, hb, rfl⟩, n1, rfl⟩; have HB := hd hb; clear hb))
  refine bodyPost_ret (v := .tuple #[.float .f64 b, .int .i64 (t.size : Int), erOf b]) (by simp [results, Tryz.results153, go_sem]) rfl ⟨bel_drew (Below.refl _ _) _, b, HF.o b HB.o, rfl⟩
/-- the lexeme with p0 behind it -/
theorem hex_p0 (s : ByteArray) (hs : s.size ≤ 512) (h0 : 0 < s.size) (hp : PN.pfx s.data.toList = s.size) (hh : PN.hexHead s.data.toList = true) :
    PF.Hex (s ++ ⟨#[112, 48]⟩) (s.data.toList.drop 2) ∧ (s[0]'h0).toNat = 48 ∧ (∃ h : 1 < s.size, (s[1]'h).toNat = 120 ∨ (s[1]'h).toNat = 88) := by
  have hsz := Lib.size_eq s
  obtain ⟨h2, hx, a, b, t, el, ha, hb⟩ := hex_parts _ hh (by omega)
  have hd : (s ++ ⟨#[112, 48]⟩ : ByteArray).data.toList = s.data.toList ++ [112, 48] := by
    rw [ByteArray.data_append, Array.toList_append]
  have hz : (s ++ ⟨#[112, 48]⟩ : ByteArray).size = s.size + 2 := by rw [ByteArray.size_append]; rfl
  have g0 : (s[0]'h0).toNat = 48 := by
    have x := data_drop' s 0 h0
    rw [el] at x
    injection x with x1 x2
    rw [← x1]; exact ha
  have g1 : (s[1]'(by omega)).toNat = 120 ∨ (s[1]'(by omega)).toNat = 88 := by
    have x := data_drop' s 1 (by omega)
    rw [el] at x
    injection x with x1 x2
    rw [← x1]; exact hb
  refine ⟨⟨?_, ?_, fun h => ?_, fun h => ?_, ?_, ?_, hx⟩, g0, by omega, g1⟩
  · rw [hd, List.drop_append_of_le_length (by omega)]
  · rw [hz, List.length_drop]; omega
  · have x := data_drop' (s ++ ⟨#[112, 48]⟩) 0 h
    rw [hd, el] at x
    injection x with x1 x2
    rw [← x1]; exact ha
  · have x := data_drop' (s ++ ⟨#[112, 48]⟩) 1 h
    rw [hd, el] at x
    injection x with x1 x2
    rw [← x1]; exact hb
  · rw [List.length_drop]; omega
  · rw [List.length_drop]; omega
set_option maxRecDepth 100000 in
set_option maxHeartbeats 4000000 in
theorem nread_hex (s : ByteArray) (w : World) (N : Nms w) (hs : s.size ≤ 512) (h0 : 0 < s.size) (hp : PN.pfx s.data.toList = s.size) (hh : PN.hexHead s.data.toList = true) :
    Calls Tryz.prog 21 #[.string s] w fun x w' => Below w.heap.size w w' ∧ ∃ v, RdOk s v ∧ x = .returned v := by
  obtain ⟨D, g0, h1, g1⟩ := hex_p0 s hs h0 hp hh
  obtain ⟨n1, n2⟩ := lex_no_word h0 (by omega)
  have f1 : PF.low (s[0]'h0).toNat ≠ 105 := by rw [g0]; decide
  have f2 : PF.low (s[0]'h0).toNat ≠ 110 := by rw [g0]; decide
  have HW1 := hd (fun W => word_first s ⟨#[105, 110, 102]⟩ W h0 (by decide) f1)
  have HW2 := hd (fun W => word_first s ⟨#[110, 97, 110]⟩ W h0 (by decide) f2)
  have HP := hd (fun W => prefix_any s W (by omega))
  have HPX := hd hp
  rw [hp] at HP
  have HS := hd (fun W => small_any s W (by omega))
  have hz : (s ++ ⟨#[112, 48]⟩ : ByteArray).size = s.size + 2 := by rw [ByteArray.size_append]; rfl
  have HF := hd (fun W (hb : Below w.heap.size w W) => parse_of (s ++ ⟨#[112, 48]⟩) W (N.below hb) (by omega) (PVal (PF.hval (s.data.toList.drop 2) 0) 0) (hd (atof_hex _ _ W D (N.below hb))))
  have hne : ¬ s = ByteArray.empty := fun h => by subst h; exact absurd h0 (by decide)
  have hne2 : s.toList.isEmpty = false := by
    rw [ByteArray.toList_eq, List.isEmpty_eq_false_iff]
    intro h
    have h2 : s.size = 0 := by rw [Lib.size_eq, h]; rfl
    omega
  have x2 : bits .or .u8 ((s[1]'h1).toNat : Int) 32 = 120 := by
    have := u8_or_nat (s[1]'h1).toNat 32 (s[1]'h1).toNat_lt (by decide)
    rw [show ((32 : Nat) : Int) = 32 from rfl] at this
    rw [this]
    rcases g1 with h | h <;> rw [h] <;> rfl
  have HNODD : Hd (¬ DD s.data.toList) := hd (fun h => by
    have := h _ (mem_data h1)
    omega)
  have FIN : Hd (∀ b, PVal (PF.hval (s.data.toList.drop 2) 0) 0 b → RdOk s (RdAns b)) := hd fun b hb => .inr (.inr (.inr (.inr ⟨hs, n1, n2, h0, HPX.o, b, .inl ⟨hh, hb⟩, rfl⟩)))
  have HFIN : Hd (∀ {b : Nat}, PVal (PF.hval (s.data.toList.drop 2) 0) 0 b → b ≤ FS.INF) := hd fun {b} h => h.le
  clear N D g0 g1 n1 n2 f1 f2 hp hh hz
  go_enter Tryz.func21, Tryz.ntmps21
  go_wp2_with (first | (go_at_call 61; (with_reducible refine (HW1.o _).mono ?_); rintro e wa ⟨rfl, hB⟩; have HBa := hd hB; clear hB) | (go_at_call 61; (with_reducible refine (HW2.o _).mono ?_); rintro e wb ⟨rfl, hB⟩; have HBb := hd (bel HBa.o hB); clear hB) | (go_at_call 24; (with_reducible refine (HP.o _).mono ?_); rintro e w' ⟨rfl, rfl⟩) | (go_at_call 64; (with_reducible refine (HS.o _).mono ?_); rintro e w1 ⟨hB, f, ok, rfl, hh⟩; have HB := hd (bel HBb.o hB); have HH := hd hh; clear hB hh; revert HH))
  intro HH
  cases ok
  case true => exact absurd (HH.o rfl).2.2 HNODD.o
  case false =>
    clear HW1 HW2 HP HS HH
    go_wp2_with fail
    refine (HF.o _ HB.o).mono ?_
    rintro e w2 ⟨hB2, b, er, hV, rfl⟩
    have HB2 := hd (bel HB.o hB2)
    have HV := hd hV
    clear hB2 hV
    have HI := hd (fun W => isInf_pos b W (HFIN.o HV.o))
    have HOK := hd (FIN.o b HV.o)
    by_cases c : b = FS.INF
    · have e1 : (b == FS.INF) = true := beq_iff_eq.2 c
      have HR : Hd (RdAns b = .tuple #[.float .f64 0, .int .i64 21]) := hd (by unfold RdAns; rw [if_pos c])
      rw [e1] at HI
      clear c e1
      go_wp2_with (go_at_call 66; (with_reducible refine (HI.o _).mono ?_); rintro e w' ⟨rfl, rfl⟩)
      go_ret2
      exact ⟨HB2.o, _, HOK.o, congrArg Ending.returned HR.o.symm⟩
    · have e1 : (b == FS.INF) = false := beq_eq_false_iff_ne.2 c
      have HR : Hd (RdAns b = .tuple #[.float .f64 b, .int .i64 0]) := hd (by unfold RdAns; rw [if_neg c])
      rw [e1] at HI
      clear c e1
      go_wp2_with (go_at_call 66; (with_reducible refine (HI.o _).mono ?_); rintro e w' ⟨rfl, rfl⟩)
      go_ret2
      exact ⟨HB2.o, _, HOK.o, congrArg Ending.returned HR.o.symm⟩
theorem nread_any (s : ByteArray) (w : World) (N : Nm2 w) (hs : s.size ≤ 1125899906842624) :
    Calls Tryz.prog 21 #[.string s] w fun x w' => Below w.heap.size w w' ∧ ∃ v, RdOk s v ∧ x = .returned v := by
  by_cases h : 512 < s.size ∨ s.size = 0 ∨ PN.pfx s.data.toList ≠ s.size
  · exact nread_rest s w hs h
  · have h1 : ¬ 512 < s.size := fun hh => h (.inl hh)
    have h2 : ¬ s.size = 0 := fun hh => h (.inr (.inl hh))
    have h3 : PN.pfx s.data.toList = s.size := Decidable.byContradiction fun hh => h (.inr (.inr hh))
    cases hh : PN.hexHead s.data.toList with
    | true => exact nread_hex s w N.n (by omega) (by omega) h3 hh
    | false => exact nread_dec s w N (by omega) (by omega) h3 hh
end Go.Proofs.YtcbggkdginfakaaGreatDoor
namespace Go.Proofs.YtcbggkdginfakaaGreatDoor
open Go.RowKit
set_option linter.unusedVariables false
set_option linter.unusedSimpArgs false
def psTup (f : Nat) (ok : Bool) : Value := .tuple #[.float .f64 f, .bool ok]
/-- the sign and what stands behind it -/
def SgT (s : ByteArray) (mi : Bool) (t : ByteArray) : Prop :=
  (∃ h : 0 < s.size, ((s[0]'h).toNat = 43 ∧ mi = false ∨ (s[0]'h).toNat = 45 ∧ mi = true) ∧ t = s.extract 1 s.size) ∨
  ((∀ h : 0 < s.size, (s[0]'h).toNat ≠ 43 ∧ (s[0]'h).toNat ≠ 45) ∧ mi = false ∧ t = s)
theorem SgT.ext {s t t' : ByteArray} {mi mi' : Bool} (h : SgT s mi t) (k : SgT s mi' t') : mi = mi' ∧ t = t' := by
  rcases h with ⟨h1, h2, h3⟩ | ⟨h1, h2, h3⟩ <;> rcases k with ⟨k1, k2, k3⟩ | ⟨k1, k2, k3⟩
  · refine ⟨?_, h3.trans k3.symm⟩
    rcases h2 with ⟨a, b⟩ | ⟨a, b⟩ <;> rcases k2 with ⟨c, d⟩ | ⟨c, d⟩
    · rw [b, d]
    · omega
    · omega
    · rw [b, d]
  · have := k1 h1; omega
  · have := h1 k1; omega
  · exact ⟨h2.trans k2.symm, h3.trans k3.symm⟩
def psOf (mi : Bool) (b : Nat) (e : Int) : Value := if e = 0 then psTup (if mi then b + 9223372036854775808 else b) true else psTup 0 false
/-- what Parse answers -/
def PsOk (s : ByteArray) (v : Value) : Prop :=
  (512 < s.size ∧ v = psTup 0 false) ∨ (s.size ≤ 512 ∧ ∃ mi t b e, SgT s mi t ∧ RdOk t (rdTup b e) ∧ v = psOf mi b e)
theorem rdTup_inj {b c : Nat} {e f : Int} (h : rdTup b e = rdTup c f) : b = c ∧ e = f := by
  unfold rdTup at h
  have h1 := congrArg (fun v => match v with | Value.tuple a => a.toList | _ => []) h
  simp at h1
  exact h1
theorem PsOk.ext {s : ByteArray} {v u : Value} (h : PsOk s v) (k : PsOk s u) : v = u := by
  rcases h with ⟨h1, h2⟩ | ⟨h1, mi, t, b, e, h2, h3, h4⟩ <;> rcases k with ⟨k1, k2⟩ | ⟨k1, mi', t', b', e', k2, k3, k4⟩
  · rw [h2, k2]
  · omega
  · omega
  · obtain ⟨rfl, rfl⟩ := h2.ext k2
    obtain ⟨rfl, rfl⟩ := rdTup_inj (h3.ext k3)
    rw [h4, k4]
theorem PsOk.shape {s : ByteArray} {v : Value} (h : PsOk s v) : ∃ b ok, v = psTup b ok ∧ b < 18446744073709551616 := by
  rcases h with ⟨h1, h2⟩ | ⟨h1, mi, t, b, e, h2, h3, h4⟩
  · exact ⟨_, _, h2, by decide⟩
  · obtain ⟨b', e', h5, h6, _⟩ := h3.shape
    obtain ⟨rfl, rfl⟩ := rdTup_inj h5
    unfold psOf at h4
    split at h4
    · exact ⟨_, _, h4, by split <;> omega⟩
    · exact ⟨_, _, h4, by decide⟩
set_option maxRecDepth 100000 in
set_option maxHeartbeats 4000000 in
theorem nparse_any (s : ByteArray) (w : World) (N : Nm2 w) (hs : s.size ≤ 1125899906842624) :
    Calls Tryz.prog 26 #[.string s] w fun x w' => (∃ v, PsOk s v ∧ x = .returned v) ∧ Below w.heap.size w w' := by
  by_cases hlong : 512 < s.size
  · have HOK : Hd (PsOk s (psTup 0 false)) := hd (.inl ⟨hlong, rfl⟩)
    have t : ((512 : Int) < (s.size : Int)) = True := by apply eq_true; omega
    go_enter Tryz.func26, Tryz.ntmps26
    go_wp2
    go_ret2
    exact ⟨⟨_, HOK.o, rfl⟩, Below.refl _ _⟩
  have t : ((512 : Int) < (s.size : Int)) = False := by apply eq_false; omega
  have hs5 : s.size ≤ 512 := by omega
  have FIN : Hd (∀ mi t b e, SgT s mi t → RdOk t (rdTup b e) → PsOk s (psOf mi b e)) := hd fun mi t b e h1 h2 => .inr ⟨hs5, mi, t, b, e, h1, h2, rfl⟩
  have RD : Hd (∀ t : ByteArray, t.size ≤ 512 → Calls Tryz.prog 21 #[.string t] w fun x w' => (∃ b e, RdOk t (rdTup b e) ∧ b < 9223372036854775808 ∧ x = .returned (.tuple #[.float .f64 b, .int .i64 e])) ∧ Below w.heap.size w w') := hd fun t ht => by
    refine (nread_any t w N (by omega)).mono ?_
    rintro x w' ⟨hb, v, hv, rfl⟩
    obtain ⟨b, e, rfl, h1, _⟩ := hv.shape
    exact ⟨⟨b, e, hv, h1, rfl⟩, hb⟩
  have hne2 : 0 < s.size → s.toList.isEmpty = false := fun h0 => by
    rw [ByteArray.toList_eq, List.isEmpty_eq_false_iff]
    intro h
    have h2 : s.size = 0 := by rw [Lib.size_eq, h]; rfl
    omega
  have hne : 0 < s.size → ¬ s = ByteArray.empty := fun h0 h => by subst h; exact absurd h0 (by decide)
  clear N
  by_cases h0 : 0 < s.size
  · have hne1 := hne h0
    have hne3 := hne2 h0
    clear hne hne2
    have h0I : (0 : Int) < (s.size : Int) := by omega
    have h1I : (1 : Int) ≤ (s.size : Int) := by omega
    by_cases c43 : (s[0]'h0).toNat = 43
    · have SG : Hd (SgT s false (s.extract 1 s.size)) := hd (.inl ⟨h0, .inl ⟨c43, rfl⟩, rfl⟩)
      have HR := hd (RD.o (s.extract 1 s.size) (by rw [ByteArray.size_extract]; omega))
      have t43 : (((s[0]'h0).toNat : Int) == 43) = true := by rw [beq_iff_eq]; omega
      have t45 : (((s[0]'h0).toNat : Int) == 45) = false := by rw [beq_eq_false_iff_ne]; omega
      obtain ⟨t, ht⟩ : ∃ t, s.extract 1 s.size = t := ⟨_, rfl⟩
      rw [ht] at HR SG
      clear c43 RD
      go_enter Tryz.func26, Tryz.ntmps26
      go_wp2_with fail
      refine HR.o.mono ?_
      rintro x w1 ⟨⟨b, e, hr, hb63, rfl⟩, hb⟩
      have B1 := hd hb
      have HOK := hd (FIN.o false _ b e SG.o hr)
      clear hb hr FIN
      by_cases he : e = 0
      · have HE : Hd (psOf false b e = psTup b true) := hd (by unfold psOf; rw [if_pos he]; rfl)
        subst he
        skip
        clear hb63
        go_wp2
        go_ret2
        exact ⟨⟨_, HOK.o, by rw [HE.o]; rfl⟩, B1.o⟩
      · have HE : Hd (psOf false b e = psTup 0 false) := hd (by unfold psOf; rw [if_neg he])
        have te : (e != 0) = true := by rw [bne_iff_ne]; exact he
        clear hb63
        go_wp2
        go_ret2
        exact ⟨⟨_, HOK.o, by rw [HE.o]; rfl⟩, B1.o⟩
    by_cases c45 : (s[0]'h0).toNat = 45
    · have SG : Hd (SgT s true (s.extract 1 s.size)) := hd (.inl ⟨h0, .inr ⟨c45, rfl⟩, rfl⟩)
      have HR := hd (RD.o (s.extract 1 s.size) (by rw [ByteArray.size_extract]; omega))
      have t43 : (((s[0]'h0).toNat : Int) == 43) = false := by rw [beq_eq_false_iff_ne]; omega
      have t45 : (((s[0]'h0).toNat : Int) == 45) = true := by rw [beq_iff_eq]; omega
      obtain ⟨t, ht⟩ : ∃ t, s.extract 1 s.size = t := ⟨_, rfl⟩
      rw [ht] at HR SG
      clear c45 RD
      go_enter Tryz.func26, Tryz.ntmps26
      go_wp2_with fail
      refine HR.o.mono ?_
      rintro x w1 ⟨⟨b, e, hr, hb63, rfl⟩, hb⟩
      have B1 := hd hb
      have HOK := hd (FIN.o true _ b e SG.o hr)
      clear hb hr FIN
      by_cases he : e = 0
      · have HE : Hd (psOf true b e = psTup (b + 9223372036854775808) true) := hd (by unfold psOf; rw [if_pos he]; rfl)
        subst he
        have hneg := neg_run b hb63
        clear hb63
        go_wp2
        go_ret2
        exact ⟨⟨_, HOK.o, by rw [HE.o]; rfl⟩, B1.o⟩
      · have HE : Hd (psOf true b e = psTup 0 false) := hd (by unfold psOf; rw [if_neg he])
        have te : (e != 0) = true := by rw [bne_iff_ne]; exact he
        clear hb63
        go_wp2
        go_ret2
        exact ⟨⟨_, HOK.o, by rw [HE.o]; rfl⟩, B1.o⟩
    have SG : Hd (SgT s false s) := hd (.inr ⟨fun h => ⟨c43, c45⟩, rfl, rfl⟩)
    have HR := hd (RD.o s hs5)
    have t43 : (((s[0]'h0).toNat : Int) == 43) = false := by rw [beq_eq_false_iff_ne]; omega
    have t45 : (((s[0]'h0).toNat : Int) == 45) = false := by rw [beq_eq_false_iff_ne]; omega
    clear c43 c45 RD
    go_enter Tryz.func26, Tryz.ntmps26
    go_wp2_with fail
    refine HR.o.mono ?_
    rintro x w1 ⟨⟨b, e, hr, hb63, rfl⟩, hb⟩
    have B1 := hd hb
    have HOK := hd (FIN.o false _ b e SG.o hr)
    clear hb hr FIN
    by_cases he : e = 0
    · have HE : Hd (psOf false b e = psTup b true) := hd (by unfold psOf; rw [if_pos he]; rfl)
      subst he
      skip
      clear hb63
      go_wp2
      go_ret2
      exact ⟨⟨_, HOK.o, by rw [HE.o]; rfl⟩, B1.o⟩
    · have HE : Hd (psOf false b e = psTup 0 false) := hd (by unfold psOf; rw [if_neg he])
      have te : (e != 0) = true := by rw [bne_iff_ne]; exact he
      clear hb63
      go_wp2
      go_ret2
      exact ⟨⟨_, HOK.o, by rw [HE.o]; rfl⟩, B1.o⟩
  · have SG : Hd (SgT s false s) := hd (.inr ⟨fun h => absurd h h0, rfl, rfl⟩)
    have HR := hd (RD.o s hs5)
    have hz : s.size = 0 := by omega
    have he0 : s = ByteArray.empty := by
      apply ByteArray.ext
      exact Array.eq_empty_of_size_eq_zero hz
    subst he0
    have te : ByteArray.empty.toList.isEmpty = true := by rw [ByteArray.toList_eq]; rfl
    clear RD h0 hne hne2 hz hs hlong hs5
    go_enter Tryz.func26, Tryz.ntmps26
    go_wp2_with fail
    refine HR.o.mono ?_
    rintro x w1 ⟨⟨b, e, hr, hb63, rfl⟩, hb⟩
    have B1 := hd hb
    have HOK := hd (FIN.o false _ b e SG.o hr)
    clear hb hr FIN
    by_cases he : e = 0
    · have HE : Hd (psOf false b e = psTup b true) := hd (by unfold psOf; rw [if_pos he]; rfl)
      subst he
      skip
      clear hb63
      go_wp2
      go_ret2
      exact ⟨⟨_, HOK.o, by rw [HE.o]; rfl⟩, B1.o⟩
    · have HE : Hd (psOf false b e = psTup 0 false) := hd (by unfold psOf; rw [if_neg he])
      have te : (e != 0) = true := by rw [bne_iff_ne]; exact he
      clear hb63
      go_wp2
      go_ret2
      exact ⟨⟨_, HOK.o, by rw [HE.o]; rfl⟩, B1.o⟩
set_option maxRecDepth 100000 in
set_option maxHeartbeats 4000000 in
theorem rfparse_any (s : ByteArray) (w : World) (hs : s.size ≤ 1125899906842624) :
    Calls Tryz.prog 27 #[.string s] w fun x w' => (∃ v, PsOk s v ∧ x = .returned v) ∧ Below w.heap.size w w' := by
  by_cases hlong : 512 < s.size
  · have HOK : Hd (PsOk s (psTup 0 false)) := hd (.inl ⟨hlong, rfl⟩)
    have t : ((512 : Int) < (s.size : Int)) = True := by apply eq_true; omega
    go_enter Tryz.func27, Tryz.ntmps27
    go_wp2
    go_ret2
    exact ⟨⟨_, HOK.o, rfl⟩, Below.refl _ _⟩
  have t : ((512 : Int) < (s.size : Int)) = False := by apply eq_false; omega
  have hs5 : s.size ≤ 512 := by omega
  have FIN : Hd (∀ mi t b e, SgT s mi t → RdOk t (rdTup b e) → PsOk s (psOf mi b e)) := hd fun mi t b e h1 h2 => .inr ⟨hs5, mi, t, b, e, h1, h2, rfl⟩
  have RD : Hd (∀ t : ByteArray, t.size ≤ 512 → Calls Tryz.prog 22 #[.string t] w fun x w' => (∃ b e, RdOk t (rdTup b e) ∧ b < 9223372036854775808 ∧ x = .returned (.tuple #[.float .f64 b, .int .i64 e])) ∧ Below w.heap.size w w') := hd fun t ht => by
    refine (rfread_any t w (by omega)).mono ?_
    rintro x w' ⟨⟨v, hv, rfl⟩, hb⟩
    obtain ⟨b, e, rfl, h1, _⟩ := hv.shape
    exact ⟨⟨b, e, hv, h1, rfl⟩, hb⟩
  by_cases h0 : 0 < s.size
  · skip
    have h0I : (0 : Int) < (s.size : Int) := by omega
    have h1I : (1 : Int) ≤ (s.size : Int) := by omega
    by_cases c43 : (s[0]'h0).toNat = 43
    · have SG : Hd (SgT s false (s.extract 1 s.size)) := hd (.inl ⟨h0, .inl ⟨c43, rfl⟩, rfl⟩)
      have HR := hd (RD.o (s.extract 1 s.size) (by rw [ByteArray.size_extract]; omega))
      have t43 : (((s[0]'h0).toNat : Int) == 43) = true := by rw [beq_iff_eq]; omega
      have t45 : (((s[0]'h0).toNat : Int) == 45) = false := by rw [beq_eq_false_iff_ne]; omega
      obtain ⟨t, ht⟩ : ∃ t, s.extract 1 s.size = t := ⟨_, rfl⟩
      rw [ht] at HR SG
      clear c43 RD
      go_enter Tryz.func27, Tryz.ntmps27
      go_wp2_with fail
      refine HR.o.mono ?_
      rintro x w1 ⟨⟨b, e, hr, hb63, rfl⟩, hb⟩
      have B1 := hd hb
      have HOK := hd (FIN.o false _ b e SG.o hr)
      clear hb hr FIN
      by_cases he : e = 0
      · have HE : Hd (psOf false b e = psTup b true) := hd (by unfold psOf; rw [if_pos he]; rfl)
        subst he
        skip
        clear hb63
        go_wp2
        go_ret2
        exact ⟨⟨_, HOK.o, by rw [HE.o]; rfl⟩, B1.o⟩
      · have HE : Hd (psOf false b e = psTup 0 false) := hd (by unfold psOf; rw [if_neg he])
        have te : (e != 0) = true := by rw [bne_iff_ne]; exact he
        clear hb63
        go_wp2
        go_ret2
        exact ⟨⟨_, HOK.o, by rw [HE.o]; rfl⟩, B1.o⟩
    by_cases c45 : (s[0]'h0).toNat = 45
    · have SG : Hd (SgT s true (s.extract 1 s.size)) := hd (.inl ⟨h0, .inr ⟨c45, rfl⟩, rfl⟩)
      have HR := hd (RD.o (s.extract 1 s.size) (by rw [ByteArray.size_extract]; omega))
      have t43 : (((s[0]'h0).toNat : Int) == 43) = false := by rw [beq_eq_false_iff_ne]; omega
      have t45 : (((s[0]'h0).toNat : Int) == 45) = true := by rw [beq_iff_eq]; omega
      obtain ⟨t, ht⟩ : ∃ t, s.extract 1 s.size = t := ⟨_, rfl⟩
      rw [ht] at HR SG
      clear c45 RD
      go_enter Tryz.func27, Tryz.ntmps27
      go_wp2_with fail
      refine HR.o.mono ?_
      rintro x w1 ⟨⟨b, e, hr, hb63, rfl⟩, hb⟩
      have B1 := hd hb
      have HOK := hd (FIN.o true _ b e SG.o hr)
      clear hb hr FIN
      by_cases he : e = 0
      · have HE : Hd (psOf true b e = psTup (b + 9223372036854775808) true) := hd (by unfold psOf; rw [if_pos he]; rfl)
        subst he
        have hneg := neg_run b hb63
        clear hb63
        go_wp2
        go_ret2
        exact ⟨⟨_, HOK.o, by rw [HE.o]; rfl⟩, B1.o⟩
      · have HE : Hd (psOf true b e = psTup 0 false) := hd (by unfold psOf; rw [if_neg he])
        have te : (e != 0) = true := by rw [bne_iff_ne]; exact he
        clear hb63
        go_wp2
        go_ret2
        exact ⟨⟨_, HOK.o, by rw [HE.o]; rfl⟩, B1.o⟩
    have SG : Hd (SgT s false s) := hd (.inr ⟨fun h => ⟨c43, c45⟩, rfl, rfl⟩)
    have HR := hd (RD.o s hs5)
    have t43 : (((s[0]'h0).toNat : Int) == 43) = false := by rw [beq_eq_false_iff_ne]; omega
    have t45 : (((s[0]'h0).toNat : Int) == 45) = false := by rw [beq_eq_false_iff_ne]; omega
    clear c43 c45 RD
    go_enter Tryz.func27, Tryz.ntmps27
    go_wp2_with fail
    refine HR.o.mono ?_
    rintro x w1 ⟨⟨b, e, hr, hb63, rfl⟩, hb⟩
    have B1 := hd hb
    have HOK := hd (FIN.o false _ b e SG.o hr)
    clear hb hr FIN
    by_cases he : e = 0
    · have HE : Hd (psOf false b e = psTup b true) := hd (by unfold psOf; rw [if_pos he]; rfl)
      subst he
      skip
      clear hb63
      go_wp2
      go_ret2
      exact ⟨⟨_, HOK.o, by rw [HE.o]; rfl⟩, B1.o⟩
    · have HE : Hd (psOf false b e = psTup 0 false) := hd (by unfold psOf; rw [if_neg he])
      have te : (e != 0) = true := by rw [bne_iff_ne]; exact he
      clear hb63
      go_wp2
      go_ret2
      exact ⟨⟨_, HOK.o, by rw [HE.o]; rfl⟩, B1.o⟩
  · have SG : Hd (SgT s false s) := hd (.inr ⟨fun h => absurd h h0, rfl, rfl⟩)
    have HR := hd (RD.o s hs5)
    have hz : s.size = 0 := by omega
    have he0 : s = ByteArray.empty := by
      apply ByteArray.ext
      exact Array.eq_empty_of_size_eq_zero hz
    subst he0
    clear RD h0 hz hs hlong hs5 t
    go_enter Tryz.func27, Tryz.ntmps27
    go_wp2_with fail
    refine HR.o.mono ?_
    rintro x w1 ⟨⟨b, e, hr, hb63, rfl⟩, hb⟩
    have B1 := hd hb
    have HOK := hd (FIN.o false _ b e SG.o hr)
    clear hb hr FIN
    by_cases he : e = 0
    · have HE : Hd (psOf false b e = psTup b true) := hd (by unfold psOf; rw [if_pos he]; rfl)
      subst he
      skip
      clear hb63
      go_wp2
      go_ret2
      exact ⟨⟨_, HOK.o, by rw [HE.o]; rfl⟩, B1.o⟩
    · have HE : Hd (psOf false b e = psTup 0 false) := hd (by unfold psOf; rw [if_neg he])
      have te : (e != 0) = true := by rw [bne_iff_ne]; exact he
      clear hb63
      go_wp2
      go_ret2
      exact ⟨⟨_, HOK.o, by rw [HE.o]; rfl⟩, B1.o⟩
end Go.Proofs.YtcbggkdginfakaaGreatDoor
namespace Go.Proofs.YtcbggkdginfakaaGreatDoor
open Go.RowKit
set_option linter.unusedVariables false
set_option linter.unusedSimpArgs false
set_option maxRecDepth 100000 in
set_option maxHeartbeats 4000000 in
theorem numReads_walk (A : Option Addr) (c : Nat) (l : List ByteArray) (w : World) (hl : IsL 1 w (.slice A l.length c) l.length (cellsS l)) (hs : ∀ x ∈ l, x.size ≤ 1125899906842624) (hn2 : l.length ≤ 9223372036854775807) (N : Nm2 w) (G : Glb w) (hT : Tbl w) :
    Calls Tryz.prog 5 #[.slice A l.length c] w fun e w' => e = .returned (.bool true) ∧ Below w.heap.size w w' := by
  have HA := hd (alive_any w G hT)
  have HN := hd N
  have HL := hd hl
  have HS := hd hs
  obtain ⟨n, hn⟩ : ∃ n, n = l.length := ⟨_, rfl⟩
  have HNL := hd hn
  rw [← hn] at hn2 HL ⊢
  clear hl hs G hT N hn
  go_enter Tryz.func5, Tryz.ntmps5
  go_wp2_with (go_at_call 20; refine HA.o.mono ?_; rintro e w1 ⟨rfl, h1⟩; have B1 := hd h1; clear h1)
  go_loopw [3] (fun xi wr => ∃ k : Nat, k ≤ n ∧ xi = .int .i64 (k : Int) ∧ Hd (Below w.heap.size w wr)) (fun xi wr => n - (intOf xi).toNat)
  case atStart => exact ⟨0, Nat.zero_le _, rfl, B1⟩
  case round =>
    obtain ⟨k, hk, rfl, HB⟩ := hrel
    by_cases hlt : k < n
    · obtain ⟨b, off, s, rfl, hb, d0, hss⟩ : ∃ b off s, A = some ⟨b, off, none⟩ ∧ b < w.heap.size ∧ w.cell? ⟨b, off + k, none⟩ = some (.string s) ∧ s.size ≤ 1125899906842624 := by
        obtain ⟨A', c', e, hr⟩ := HL.o.2
        simp only [Value.slice.injEq] at e
        obtain ⟨rfl, _, rfl⟩ := e
        have hk' : k < l.length := by rw [← HNL.o]; exact hlt
        obtain ⟨b, off, rfl, hb, hcell⟩ := hr.head (by rw [cellsS_len]; omega)
        refine ⟨b, off, l[k], rfl, hb, ?_, HS.o _ (List.getElem_mem hk')⟩
        rw [hcell k (by rw [cellsS_len]; exact hk')]
        simp [cellsS]
      have d1 := (HB.o.cell (p := ⟨b, off + k, none⟩) hb).trans d0
      have HSS := hd hss
      have C1 := hd (nread_any s wr (HN.o.below HB.o) hss)
      clear hss
      go_wp2_with fail
      refine C1.o.mono ?_
      rintro x w1 ⟨hb1, v, hv, rfl⟩
      have B1 := hd (bel HB.o hb1)
      have B1r := hd hb1
      have HV := hd hv
      obtain ⟨f, e, rfl, hf63, he0, he21⟩ := hv.shape
      have d2 : w1.cell? ⟨b, off + k, none⟩ = some (.string s) := (B1.o.cell (p := ⟨b, off + k, none⟩) hb).trans d0
      clear hb1 hv C1
      have C2 := hd (rfread_any s w1 HSS.o)
      unfold rdTup
      go_wp2_with fail
      refine C2.o.mono ?_
      rintro x w2 ⟨⟨v, hv, rfl⟩, hb2⟩
      obtain rfl := HV.o.ext hv
      have B2 := hd (bel B1.o hb2)
      have d3 : w2.cell? ⟨b, off + k, none⟩ = some (.string s) := (B2.o.cell (p := ⟨b, off + k, none⟩) hb).trans d0
      clear hb2 hv C2 HV
      unfold rdTup
      have S0 := hd (fun p : BelW w2 => same0_any f p.w)
      have S1 := hd (fun p : BelW w2 => prefix_any s p.w HSS.o)
      have S2 := hd (fun p : BelW w2 => rfprefix_any s p.w HSS.o)
      generalize PN.pfx s.data.toList = px at *
      go_wp2_with fail
      refine wp_region_below (by kernel_rfl) (by kernel_rfl) ?_
      have f1 := fun p : BelW w2 => p.cell d3
      repeat (go_big_quiet_step (first | (go_at_call 23; exact Calls.below_same (S0.o _)) | (go_at_call 24; exact Calls.below_same (S1.o _)) | (go_at_call 25; exact Calls.below_same (S2.o _))))
      refine wpQuiet_nil ?_
      rintro w3 ⟨⟨_, hb3⟩, rfl⟩
      have B3 := hd (bel B2.o hb3)
      clear f1 S0 S1 S2 hf63 he0 he21
      have d4 : w3.cell? ⟨b, off + k, none⟩ = some (.string s) := (B3.o.cell (p := ⟨b, off + k, none⟩) hb).trans d0
      have C3 := hd (nparse_any s w3 (HN.o.below B3.o) HSS.o)
      clear hb3
      go_wp2_with fail
      refine C3.o.mono ?_
      rintro x w4 ⟨⟨v, hv, rfl⟩, hb1⟩
      have B4 := hd (bel B3.o hb1)
      have HV := hd hv
      obtain ⟨g, ok, rfl, hg64⟩ := hv.shape
      have d5 : w4.cell? ⟨b, off + k, none⟩ = some (.string s) := (B4.o.cell (p := ⟨b, off + k, none⟩) hb).trans d0
      clear hb1 hv C3
      have C4 := hd (rfparse_any s w4 HSS.o)
      unfold psTup
      go_wp2_with fail
      refine C4.o.mono ?_
      rintro x w5 ⟨⟨v, hv, rfl⟩, hb2⟩
      obtain rfl := HV.o.ext hv
      have B5 := hd (bel B4.o hb2)
      clear hb2 hv C4 HV
      unfold psTup
      have tk : (ok != ok) = false := by cases ok <;> rfl
      have S0 := hd (same0_any g w5)
      clear hg64
      go_wp2_with fail
      refine S0.o.mono ?_
      rintro x w6 ⟨rfl, rfl⟩
      go_wp2
      go_roundw
      case rel => exact ⟨k + 1, by omega, by go_num, B5⟩
      case measure => simp [intOf]; omega
    · obtain rfl : k = n := by omega
      go_wp2
      go_ret
      exact ⟨rfl, HB.o⟩
end Go.Proofs.YtcbggkdginfakaaGreatDoor
namespace Go.Proofs.YtcbggkdginfakaaGreatDoor
open Go.RowKit Go.ChangeShapes Go.WideShapes Go.ChangeAt Go.Deep
section
variable {H : Type} {enc : TypeId × Value → H} {w : World} {base : Nat}
set_option maxRecDepth 100000 in
theorem open_strsZ {v : Value} {d : DataW H} {p : List MemPlace} (hv : Value.okWide Tryz.prog w .any base 36 v) (h : DataW.Trod enc Tryz.prog w 0 (fun _ => true) true 36 v d p)
    (hw : ∀ n ∈ d.weights Tryz.prog 36, n ≤ reachBytes) : ∃ l A c, v = .slice A l.length c ∧ IsL 1 w v l.length (cellsS l) ∧ (∀ x ∈ l, x.size ≤ reachBytes) ∧ l.length ≤ maxLen := by
  obtain ⟨A, len, cap, rfl⟩ := okWide_slice Tryz.underlying36 hv
  obtain ⟨fuel, hf⟩ := h
  rcases open_strings Tryz.underlying36 Tryz.underlying9 (by kernel_rfl) hf with ⟨hcs, hx⟩ | ⟨a, len', cap', ss, hcs, _, hl, hm, hz, hx, hi, _⟩
  · simp [Value.cells] at hcs
    obtain ⟨rfl, rfl, rfl⟩ := hcs
    exact ⟨[], none, 0, rfl, IsL.nil 1 w none 0, (fun x hx => by cases hx), by simp⟩
  · simp [Value.cells] at hcs
    obtain ⟨rfl, rfl, rfl⟩ := hcs
    simp only [if_true] at hz
    simp only [Prod.mk.injEq] at hx
    obtain ⟨hd, _⟩ := hx
    subst hd
    have hlen : (ss.take len).length = len := by rw [List.length_take]; omega
    refine ⟨ss.take len, some a, cap, by rw [hlen], ⟨by rw [cellsS_len, hlen, Nat.mul_one], some a, cap, by rw [hlen], fun k hk => ?_⟩, fun x hx => ?_, by rw [hlen]; omega⟩
    · rw [cellsS_len, hlen] at hk
      have hc := hi k (by omega)
      have hget : ss.getD k ByteArray.empty = (ss.take len)[k]'(by omega) := by
        rw [List.getElem_take, List.getD_eq_getElem?_getD, List.getElem?_eq_getElem (by omega)]; rfl
      rw [hget] at hc
      have ha : a = ⟨a.block, a.off, none⟩ := by
        have h0 := hi 0 (by omega)
        rw [show a.add 0 = a from by simp [Addr.add]] at h0
        exact plain_of_cell h0
      refine ⟨a.block, a.off, congrArg some ha, ?_⟩
      rw [ha, add_plain] at hc
      rw [hc]
      simp [cellsS]
    · have hm2 : (DataW.lit (H := H) (.string x.data.toList)) ∈ strs (H := H) (ss.take len) := by
        unfold strs; exact List.mem_map.2 ⟨_, hx, rfl⟩
      have := hw _ (weights_mem_slice Tryz.underlying36 hm2 (n := x.data.toList.length) (by simp [DataW.weights]))
      rw [Lib.size_eq]; exact this
end
end Go.Proofs.YtcbggkdginfakaaGreatDoor
namespace Go.Proofs.YtcbggkdginfakaaGreatDoor.numReads
open Go.RowKit Go.ChangeShapes Go.WideShapes Go.ChangeAt
theorem own : ownKnob Tryz.prog.godebug = none := by kernel_rfl
theorem laidOut : laidOutB Tryz.prog = true := by kernel_rfl
def laid : List (String × DataW Unit) := Rows.numReadsRow.laid
theorem int_bd {k : IntKind} {x : Int} (h : (Lit.int k x).wf = true) : k.min ≤ x ∧ x ≤ k.max := by
  simpa [Lit.wf] using h
theorem u64_bd {x : Int} (h : (Lit.int .u64 x).wf = true) : 0 ≤ x ∧ x < 18446744073709551616 := by
  have := int_bd h
  simp [IntKind.min, IntKind.max, IntKind.signed, IntKind.bits] at this
  omega
theorem i64_bd {x : Int} (h : (Lit.int .i64 x).wf = true) : -9223372036854775808 ≤ x ∧ x ≤ 9223372036854775807 := by
  simpa [Lit.wf, IntKind.min, IntKind.max, IntKind.signed, IntKind.bits] using h
set_option maxRecDepth 100000 in
theorem lifted (os : Os) (started : os.Started) (H : Type) (enc : TypeId × Value → H) :
    ReturnsInHanded {} Tryz.checked os 5 .any (fun w args => (Rows.numReadsSpec.pre enc Tryz.prog Tryz.f5 [] false w args ∧ laidMetH Tryz.prog laid w) ∧ sizedMet enc Tryz.prog Tryz.f5 (OpenSpec.ofChange Rows.numReadsSpec) false w args)
      (Rows.numReadsSpec.post enc Tryz.prog Tryz.f5 false true false false) := by
  refine returnsInHanded_of_change_and (C := Tryz.checked) (X := fun w _ => laidMetH Tryz.prog laid w) (fun _ _ _ hh h => h.of_heap hh) own started (by kernel_rfl) Tryz.func5
    (ChangeSpec.witness_shaped (enc := enc) (C := Tryz.checked) (os := os) (X := fun w _ => laidMetH Tryz.prog laid w) false (World.laidAll Tryz.prog os laid) #[.slice none 0 0] 8 (World.laidAll_os _ _ _)
      (World.shaped_of_ZipB (by kernel_rfl) (by kernel_rfl)) (by kernel_rfl) (by kernel_rfl) (by kernel_rfl)
      (by rw [MakeChecks.laidMetH_plain _ _ _ (by kernel_rfl)]; exact laidMet_laidAll _ (by kernel_rfl) (by kernel_rfl))) ?_
  intro W base args ds gs before hval0 hW _ hsz0 hL _
  have hsz : (DataW.weightsEach Tryz.prog (Tryz.f5.params.toList ++ Rows.numReadsSpec.plain.varTypes Tryz.prog) (ds ++ gs)).all (· ≤ reachBytes) = true := hsz0
  have hval : ∀ (j : Nat) t v, Tryz.f5.params[j]? = some t → args[j]? = some v → Value.okWide Tryz.prog W .any base t v := hval0
  have hW' := hW
  obtain ⟨p, q, hA0, hV, rfl, _, _⟩ := hW
  have hA : DataW.TrodAll enc Tryz.prog W 0 (fun _ => true) true Tryz.f5.params.toList args.toList ds p := hA0
  rw [Tryz.params5] at hA hval hsz
  obtain ⟨v0, vs0, d0, ds0, p0, q0, hargs, rfl, rfl, h0, r0⟩ := trodAll_cons hA
  obtain ⟨rfl, rfl, rfl⟩ := trodAll_nil r0
  obtain rfl : args = #[v0] := by cases args; simp_all
  obtain ⟨rfl, rfl⟩ := trodVars_none hV
  have k0 := h0
  have lt0 : ∀ x ∈ p0, x.block < W.heap.size := by obtain ⟨m, hm⟩ := k0; exact DataW.trod_lt m _ _ _ hm
  have w0 : ∀ n ∈ d0.weights Tryz.prog 36, n ≤ reachBytes := fun n hn => by simpa using List.all_eq_true.1 hsz _ (DataW.weights_mem_each (j := 0) rfl rfl n hn)
  obtain ⟨l, A0, c0, rfl, I0, S0, L0⟩ := open_strsZ (hval 0 36 v0 rfl rfl) h0 w0
  rw [MakeChecks.laidMetH_plain _ _ _ (by kernel_rfl)] at hL
  have hL : laidMet Tryz.prog laid13 W := hL
  refine (numReads_walk A0 c0 l W I0 (fun x hx => by have := S0 x hx; unfold reachBytes at this; omega) (by unfold maxLen at L0; omega) (nm2_of13 hL) (nms_of13 hL).g (nms_of13 hL).t).mono fun e W' ⟨he, hb⟩ => ?_
  subst he
  exact ⟨_, rfl, _, _, _, [], _, [], hW', trodAll_mk1 (shut_bool Tryz.underlying4 _), trodAll_cons_mk (Below.trod laidOut (by kernel_rfl) (of_decide_eq_true (by kernel_rfl)) k0 hb lt0) trodAll_mk0, rfl, hb.frame _, fun h => by cases h⟩
theorem over : Rows.numReadsRow.holds Tryz.pinned (OpenSpec.ofChange Rows.numReadsSpec) :=
  OpenClaim.holds_of_wide 5 Tryz.f5 rfl rfl rfl rfl rfl rfl rfl ⟨rfl, rfl, rfl, rfl, rfl⟩ rfl rfl rfl rfl rfl (by kernel_rfl) Tryz.func5 (by kernel_rfl)
    (of_decide_eq_true (by kernel_rfl)) (by unfold Func.isWrapper; first | (rw [if_pos (by decide +kernel)]; kernel_rfl) | (rw [if_neg (by decide +kernel)]; exact ⟨rfl, rfl⟩))
    (fun os started H enc _ => lifted os started H enc)
theorem proved : Rows.NumReadsCardSaid :=
  Claim7.holds_tied_plain_at .later [] [.data, .data, .widerDeep, .widerDeep, .data, .data, .data, .data, .data, .sentinel, .sentinel, .pinned, .pinned] true (true, "3054eab9ec1aac32052f0d40115b88ed02aea5495fee84b9029e95cca4418665") true over (fun _ h => by cases h) (by kernel_rfl) (fun _ h => by cases h) numReads_row_tie rfl ⟨rfl, rfl⟩ (by kernel_rfl) rfl
    (fun f fn hf hfn => by
      obtain rfl : f = 5 := Option.some.inj ((show Tryz.prog.funcNamed "weir/weirlaw02.NumReads" = some 5 by kernel_rfl).symm.trans hf) |>.symm
      obtain rfl : fn = Tryz.f5 := (Option.some.inj (Tryz.func5.symm.trans hfn)).symm
      exact ⟨by kernel_rfl, fun j t ht => by
        rw [Tryz.params5] at ht
        have hm : t ∈ [36] := by simpa using Array.mem_of_getElem? ht
        have hall : ([36].all fun u => !Tryz.prog.wantsStandIn u) = true := by kernel_rfl
        exact (show Tryz.prog.wantsStandIn t = false by simpa using List.all_eq_true.1 hall t hm)⟩)
    (by kernel_rfl)
#print axioms proved
end Go.Proofs.YtcbggkdginfakaaGreatDoor.numReads
