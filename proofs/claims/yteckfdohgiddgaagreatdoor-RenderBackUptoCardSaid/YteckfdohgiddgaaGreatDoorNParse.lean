/- num.Read of every text. num.Parse and weirref02.Parse of every text. -/
import Derived.Test.YteckfdohgiddgaaGreatDoorRfRead
import Derived.Test.YteckfdohgiddgaaGreatDoorHxFl
namespace Go.Proofs.YteckfdohgiddgaaGreatDoor
open Go.RowKit
set_option linter.unusedVariables false
set_option linter.unusedSimpArgs false
end Go.Proofs.YteckfdohgiddgaaGreatDoor
namespace Go.Proofs.YteckfdohgiddgaaGreatDoor
open Go.RowKit
set_option linter.unusedVariables false
set_option linter.unusedSimpArgs false
def psTup (f : Nat) (ok : Bool) : Value := .tuple #[.float .f64 f, .bool ok]
/-- the sign and what stands behind it -/
def SgT (s : ByteArray) (mi : Bool) (t : ByteArray) : Prop :=
  (∃ h : 0 < s.size, ((s[0]'h).toNat = 43 ∧ mi = false ∨ (s[0]'h).toNat = 45 ∧ mi = true) ∧ t = s.extract 1 s.size) ∨
  ((∀ h : 0 < s.size, (s[0]'h).toNat ≠ 43 ∧ (s[0]'h).toNat ≠ 45) ∧ mi = false ∧ t = s)
theorem SgT.ext {s t t' : ByteArray} {mi mi' : Bool} (h : SgT s mi t) (k : SgT s mi' t') : mi = mi' ∧ t = t' := by
  rcases h with ⟨h1, h2, h3⟩ | ⟨h1, h2, h3⟩ <;> rcases k with ⟨k1, k2, k3⟩ | ⟨k1, k2, k3⟩
  · refine ⟨?_, h3.trans k3.symm⟩
    rcases h2 with ⟨a, b⟩ | ⟨a, b⟩ <;> rcases k2 with ⟨c, d⟩ | ⟨c, d⟩
    · rw [b, d]
    · omega
    · omega
    · rw [b, d]
  · have := k1 h1; omega
  · have := h1 k1; omega
  · exact ⟨h2.trans k2.symm, h3.trans k3.symm⟩
def psOf (mi : Bool) (b : Nat) (e : Int) : Value := if e = 0 then psTup (if mi then b + 9223372036854775808 else b) true else psTup 0 false
/-- what Parse answers -/
def PsOk (s : ByteArray) (v : Value) : Prop :=
  (512 < s.size ∧ v = psTup 0 false) ∨ (s.size ≤ 512 ∧ ∃ mi t b e, SgT s mi t ∧ RdOk t (rdTup b e) ∧ v = psOf mi b e)
theorem rdTup_inj {b c : Nat} {e f : Int} (h : rdTup b e = rdTup c f) : b = c ∧ e = f := by
  unfold rdTup at h
  have h1 := congrArg (fun v => match v with | Value.tuple a => a.toList | _ => []) h
  simp at h1
  exact h1
theorem PsOk.ext {s : ByteArray} {v u : Value} (h : PsOk s v) (k : PsOk s u) : v = u := by
  rcases h with ⟨h1, h2⟩ | ⟨h1, mi, t, b, e, h2, h3, h4⟩ <;> rcases k with ⟨k1, k2⟩ | ⟨k1, mi', t', b', e', k2, k3, k4⟩
  · rw [h2, k2]
  · omega
  · omega
  · obtain ⟨rfl, rfl⟩ := h2.ext k2
    obtain ⟨rfl, rfl⟩ := rdTup_inj (h3.ext k3)
    rw [h4, k4]
theorem PsOk.shape {s : ByteArray} {v : Value} (h : PsOk s v) : ∃ b ok, v = psTup b ok ∧ b < 18446744073709551616 := by
  rcases h with ⟨h1, h2⟩ | ⟨h1, mi, t, b, e, h2, h3, h4⟩
  · exact ⟨_, _, h2, by decide⟩
  · obtain ⟨b', e', h5, h6, _⟩ := h3.shape
    obtain ⟨rfl, rfl⟩ := rdTup_inj h5
    unfold psOf at h4
    split at h4
    · exact ⟨_, _, h4, by split <;> omega⟩
    · exact ⟨_, _, h4, by decide⟩
set_option maxRecDepth 100000 in
set_option maxHeartbeats 4000000 in
theorem rfparse_any (s : ByteArray) (w : World) (hs : s.size ≤ 1125899906842624) :
    Calls Tryz.prog 78 #[.string s] w fun x w' => (∃ v, PsOk s v ∧ x = .returned v) ∧ Below w.heap.size w w' := by
  by_cases hlong : 512 < s.size
  · have HOK : Hd (PsOk s (psTup 0 false)) := hd (.inl ⟨hlong, rfl⟩)
    have t : ((512 : Int) < (s.size : Int)) = True := by apply eq_true; omega
    go_enter Tryz.func78, Tryz.ntmps78
    go_wp2
    go_ret2
    exact ⟨⟨_, HOK.o, rfl⟩, Below.refl _ _⟩
  have t : ((512 : Int) < (s.size : Int)) = False := by apply eq_false; omega
  have hs5 : s.size ≤ 512 := by omega
  have FIN : Hd (∀ mi t b e, SgT s mi t → RdOk t (rdTup b e) → PsOk s (psOf mi b e)) := hd fun mi t b e h1 h2 => .inr ⟨hs5, mi, t, b, e, h1, h2, rfl⟩
  have RD : Hd (∀ t : ByteArray, t.size ≤ 512 → Calls Tryz.prog 134 #[.string t] w fun x w' => (∃ b e, RdOk t (rdTup b e) ∧ b < 9223372036854775808 ∧ x = .returned (.tuple #[.float .f64 b, .int .i64 e])) ∧ Below w.heap.size w w') := hd fun t ht => by
    refine (rfread_any t w (by omega)).mono ?_
    rintro x w' ⟨⟨v, hv, rfl⟩, hb⟩
    obtain ⟨b, e, rfl, h1, _⟩ := hv.shape
    exact ⟨⟨b, e, hv, h1, rfl⟩, hb⟩
  by_cases h0 : 0 < s.size
  · skip
    have h0I : (0 : Int) < (s.size : Int) := by omega
    have h1I : (1 : Int) ≤ (s.size : Int) := by omega
    by_cases c43 : (s[0]'h0).toNat = 43
    · have SG : Hd (SgT s false (s.extract 1 s.size)) := hd (.inl ⟨h0, .inl ⟨c43, rfl⟩, rfl⟩)
      have HR := hd (RD.o (s.extract 1 s.size) (by rw [ByteArray.size_extract]; omega))
      have t43 : (((s[0]'h0).toNat : Int) == 43) = true := by rw [beq_iff_eq]; omega
      have t45 : (((s[0]'h0).toNat : Int) == 45) = false := by rw [beq_eq_false_iff_ne]; omega
      obtain ⟨t, ht⟩ : ∃ t, s.extract 1 s.size = t := ⟨_, rfl⟩
      rw [ht] at HR SG
      clear c43 RD
      go_enter Tryz.func78, Tryz.ntmps78
      go_wp2_with fail
      refine HR.o.mono ?_
      rintro x w1 ⟨⟨b, e, hr, hb63, rfl⟩, hb⟩
      have B1 := hd hb
      have HOK := hd (FIN.o false _ b e SG.o hr)
      clear hb hr FIN
      by_cases he : e = 0
      · have HE : Hd (psOf false b e = psTup b true) := hd (by unfold psOf; rw [if_pos he]; rfl)
        subst he
        skip
        clear hb63
        go_wp2
        go_ret2
        exact ⟨⟨_, HOK.o, by rw [HE.o]; rfl⟩, B1.o⟩
      · have HE : Hd (psOf false b e = psTup 0 false) := hd (by unfold psOf; rw [if_neg he])
        have te : (e != 0) = true := by rw [bne_iff_ne]; exact he
        clear hb63
        go_wp2
        go_ret2
        exact ⟨⟨_, HOK.o, by rw [HE.o]; rfl⟩, B1.o⟩
    by_cases c45 : (s[0]'h0).toNat = 45
    · have SG : Hd (SgT s true (s.extract 1 s.size)) := hd (.inl ⟨h0, .inr ⟨c45, rfl⟩, rfl⟩)
      have HR := hd (RD.o (s.extract 1 s.size) (by rw [ByteArray.size_extract]; omega))
      have t43 : (((s[0]'h0).toNat : Int) == 43) = false := by rw [beq_eq_false_iff_ne]; omega
      have t45 : (((s[0]'h0).toNat : Int) == 45) = true := by rw [beq_iff_eq]; omega
      obtain ⟨t, ht⟩ : ∃ t, s.extract 1 s.size = t := ⟨_, rfl⟩
      rw [ht] at HR SG
      clear c45 RD
      go_enter Tryz.func78, Tryz.ntmps78
      go_wp2_with fail
      refine HR.o.mono ?_
      rintro x w1 ⟨⟨b, e, hr, hb63, rfl⟩, hb⟩
      have B1 := hd hb
      have HOK := hd (FIN.o true _ b e SG.o hr)
      clear hb hr FIN
      by_cases he : e = 0
      · have HE : Hd (psOf true b e = psTup (b + 9223372036854775808) true) := hd (by unfold psOf; rw [if_pos he]; rfl)
        subst he
        have hneg := neg_run b hb63
        clear hb63
        go_wp2
        go_ret2
        exact ⟨⟨_, HOK.o, by rw [HE.o]; rfl⟩, B1.o⟩
      · have HE : Hd (psOf true b e = psTup 0 false) := hd (by unfold psOf; rw [if_neg he])
        have te : (e != 0) = true := by rw [bne_iff_ne]; exact he
        clear hb63
        go_wp2
        go_ret2
        exact ⟨⟨_, HOK.o, by rw [HE.o]; rfl⟩, B1.o⟩
    have SG : Hd (SgT s false s) := hd (.inr ⟨fun h => ⟨c43, c45⟩, rfl, rfl⟩)
    have HR := hd (RD.o s hs5)
    have t43 : (((s[0]'h0).toNat : Int) == 43) = false := by rw [beq_eq_false_iff_ne]; omega
    have t45 : (((s[0]'h0).toNat : Int) == 45) = false := by rw [beq_eq_false_iff_ne]; omega
    clear c43 c45 RD
    go_enter Tryz.func78, Tryz.ntmps78
    go_wp2_with fail
    refine HR.o.mono ?_
    rintro x w1 ⟨⟨b, e, hr, hb63, rfl⟩, hb⟩
    have B1 := hd hb
    have HOK := hd (FIN.o false _ b e SG.o hr)
    clear hb hr FIN
    by_cases he : e = 0
    · have HE : Hd (psOf false b e = psTup b true) := hd (by unfold psOf; rw [if_pos he]; rfl)
      subst he
      skip
      clear hb63
      go_wp2
      go_ret2
      exact ⟨⟨_, HOK.o, by rw [HE.o]; rfl⟩, B1.o⟩
    · have HE : Hd (psOf false b e = psTup 0 false) := hd (by unfold psOf; rw [if_neg he])
      have te : (e != 0) = true := by rw [bne_iff_ne]; exact he
      clear hb63
      go_wp2
      go_ret2
      exact ⟨⟨_, HOK.o, by rw [HE.o]; rfl⟩, B1.o⟩
  · have SG : Hd (SgT s false s) := hd (.inr ⟨fun h => absurd h h0, rfl, rfl⟩)
    have HR := hd (RD.o s hs5)
    have hz : s.size = 0 := by omega
    have he0 : s = ByteArray.empty := by
      apply ByteArray.ext
      exact Array.eq_empty_of_size_eq_zero hz
    subst he0
    clear RD h0 hz hs hlong hs5 t
    go_enter Tryz.func78, Tryz.ntmps78
    go_wp2_with fail
    refine HR.o.mono ?_
    rintro x w1 ⟨⟨b, e, hr, hb63, rfl⟩, hb⟩
    have B1 := hd hb
    have HOK := hd (FIN.o false _ b e SG.o hr)
    clear hb hr FIN
    by_cases he : e = 0
    · have HE : Hd (psOf false b e = psTup b true) := hd (by unfold psOf; rw [if_pos he]; rfl)
      subst he
      skip
      clear hb63
      go_wp2
      go_ret2
      exact ⟨⟨_, HOK.o, by rw [HE.o]; rfl⟩, B1.o⟩
    · have HE : Hd (psOf false b e = psTup 0 false) := hd (by unfold psOf; rw [if_neg he])
      have te : (e != 0) = true := by rw [bne_iff_ne]; exact he
      clear hb63
      go_wp2
      go_ret2
      exact ⟨⟨_, HOK.o, by rw [HE.o]; rfl⟩, B1.o⟩
end Go.Proofs.YteckfdohgiddgaaGreatDoor
