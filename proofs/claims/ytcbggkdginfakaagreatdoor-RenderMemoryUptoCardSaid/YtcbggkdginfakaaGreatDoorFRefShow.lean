/- Show of the reference (weirref02/show.go). -/
import Derived.Test.YtcbggkdginfakaaGreatDoorFSht
import Derived.Test.YtcbggkdginfakaaGreatDoorFPlain
import Derived.Test.YtcbggkdginfakaaGreatDoorFDG
namespace Go.Proofs.YtcbggkdginfakaaGreatDoor
open Go.RowKit
set_option linter.unusedVariables false
set_option linter.unusedSimpArgs false
theorem ev_eq (m : Nat) : ((m : Int) % 2 == 0) = (m % 2 == 0) := by
  rw [Bool.eq_iff_iff]; simp; omega
theorem shortest_any (b : Nat) (w : World) (hb : b < 9218868437227405312) (hm0 : FS.mOf b ≠ 0) :
    Calls Tryz.prog 123 #[.int .u64 (b : Int)] w fun x w' => FS.ShtAns (FS.mOf b % 2 == 0) (FS.mOf b) (FS.eOf b) (if FS.sOf b then 1 else 2) x ∧ Below w.heap.size w w' := by
  have HP := hd (parts_any b w (by omega))
  have hx : FS.ex b ≠ 2047 := by unfold FS.ex; omega
  have hml := FS.mOf_lt' b
  obtain ⟨he1, he2⟩ := FS.eOf_bd b hx
  have h10 : 10 ≤ FS.mOf b ∨ FS.eOf b = -1074 := by
    unfold FS.mOf FS.eOf
    split
    · exact .inr (by omega)
    · exact .inl (by omega)
  rw [← ev_eq]
  have hs : ∀ c1 c2 : Bool, ((FS.mOf b : Int) == 4503599627370496) = c1 → decide (-1074 < FS.eOf b) = c2 → (if FS.sOf b then 1 else 2) = if c1 && c2 then 1 else 2 := fun c1 c2 h1 h2 => by
    have e : FS.sOf b = (c1 && c2) := by
      rw [← h1, ← h2, Bool.eq_iff_iff]
      unfold FS.sOf
      simp
      omega
    rw [e]
  rcases Int.lt_or_le (FS.eOf b) 0 with c | c
  · obtain ⟨E, hE⟩ : ∃ E : Nat, FS.eOf b = -(E : Int) := ⟨(-FS.eOf b).toNat, by omega⟩
    rw [hE] at HP h10 hs ⊢
    exact short_neg b (FS.mOf b) E _ ((FS.mOf b : Int) == 4503599627370496) (decide ((E : Int) < 1074)) w HP (by omega) hml (by omega) (hd h10) rfl rfl (hd (hs _ _ rfl (by rw [Bool.eq_iff_iff]; simp)))
  · obtain ⟨E, hE⟩ : ∃ E : Nat, FS.eOf b = (E : Int) := ⟨(FS.eOf b).toNat, by omega⟩
    rw [hE] at HP h10 hs ⊢
    exact short_pos b (FS.mOf b) E _ ((FS.mOf b : Int) == 4503599627370496) (decide (-1074 < (E : Int))) w HP (by omega) hml (by omega) (hd h10) rfl rfl (hd (hs _ _ rfl rfl))
theorem str_app (a b : List UInt8) (c : ByteArray) (h : c = ⟨a.toArray⟩ ++ ⟨b.toArray⟩) : c = ⟨(a ++ b).toArray⟩ := by
  subst h
  apply ByteArray.ext
  simp [ByteArray.data_append]
set_option maxRecDepth 10000 in
set_option maxHeartbeats 2000000 in
theorem refshow_any (f : Nat) (hf : f < 18446744073709551616) (w : World) :
    Calls Tryz.prog 93 #[.float .f64 f] w fun e w' => ∃ s : List UInt8, e = .returned (.string ⟨s.toArray⟩) ∧ FS.Shown f s ∧ Below w.heap.size w w' := by
  have HB := hd (refbits_any f w hf)
  by_cases c : FS.ex f = 2047 ∧ FS.mt f ≠ 0
  · have e1 : FS.bitsOf f = 9221120237041090561 := by unfold FS.bitsOf; rw [if_pos c]
    have HS := hd (show FS.Shown f [78, 97, 78] from .inl ⟨c.1, by rw [if_neg c.2]⟩)
    rw [e1] at HB
    clear c e1 hf
    go_enter Tryz.func93, Tryz.ntmps93
    go_wp2_with (go_at_call 90; refine HB.o.mono ?_; rintro e w' ⟨rfl, rfl⟩)
    go_ret
    exact ⟨_, rfl, HS.o, Below.refl _ _⟩
  · have e1 : FS.bitsOf f = f := by unfold FS.bitsOf; rw [if_neg c]
    rw [e1] at HB
    obtain ⟨g, hg⟩ : ∃ g, g = f % 9223372036854775808 := ⟨_, rfl⟩
    have t1 : ((f : Int) == 9221120237041090561) = false := by
      rw [beq_eq_false_iff_ne]
      unfold FS.ex FS.mt at c
      omega
    have t2 : ((f : Int) / 9223372036854775808 == 1) = FS.ng f := by
      rw [Bool.eq_iff_iff]
      unfold FS.ng
      simp
      omega
    have t3 : IntKind.u64.wrap ((f : Int) * 2) / 2 = (g : Int) := by
      rw [IntKind.wrap_u64]; omega
    cases hn : FS.ng f with
    | false =>
      rw [hn] at t2
      by_cases c1 : g = 9218868437227405312
      · have HS := hd (show FS.Shown f [43, 73, 110, 102] from .inl ⟨by unfold FS.ex; omega, by rw [if_pos (by unfold FS.mt; omega), hn]; rfl⟩)
        have t4 : ((g : Int) == 9218868437227405312) = true := by rw [beq_iff_eq]; omega
        clear c c1 hf hg e1 hn
        go_enter Tryz.func93, Tryz.ntmps93
        go_wp2_with (go_at_call 90; refine HB.o.mono ?_; rintro e w' ⟨rfl, rfl⟩)
        go_ret
        exact ⟨_, rfl, HS.o, Below.refl _ _⟩
      · have t4 : ((g : Int) == 9218868437227405312) = false := by rw [beq_eq_false_iff_ne]; omega
        by_cases c2 : g = 0
        · have HS := hd (show FS.Shown f [48] from .inr (.inl ⟨by unfold FS.ex at *; omega, by unfold FS.mOf FS.ex FS.mt; split <;> omega, by rw [hn]; rfl⟩))
          have t5 : ((g : Int) == 0) = true := by rw [beq_iff_eq]; omega
          clear c c1 c2 hf hg e1 hn
          go_enter Tryz.func93, Tryz.ntmps93
          go_wp2_with (go_at_call 90; refine HB.o.mono ?_; rintro e w' ⟨rfl, rfl⟩)
          go_ret
          exact ⟨_, rfl, HS.o, Below.refl _ _⟩
        · have t5 : ((g : Int) == 0) = false := by rw [beq_eq_false_iff_ne]; omega
          have hx : FS.ex f ≠ 2047 := fun hx => by
            rcases Classical.em (FS.mt f = 0) with h0 | h0
            · unfold FS.ex at hx; unfold FS.mt at h0; omega
            · exact c ⟨hx, h0⟩
          have em : FS.mOf g = FS.mOf f ∧ FS.eOf g = FS.eOf f := by
            have e2 : FS.ex g = FS.ex f := by unfold FS.ex; omega
            have e3 : FS.mt g = FS.mt f := by unfold FS.mt; omega
            unfold FS.mOf FS.eOf
            rw [e2, e3]
            exact ⟨rfl, rfl⟩
          have hm0 : FS.mOf f ≠ 0 := by
            rw [← em.1]
            unfold FS.mOf FS.ex FS.mt
            split <;> omega
          have C := hd (shortest_any g w (by unfold FS.ex at hx; omega) (by rw [em.1]; exact hm0))
          have es : FS.sOf g = FS.sOf f := by unfold FS.sOf; rw [em.1, em.2]
          rw [em.1, em.2, es] at C
          have HX := hd (And.intro hx (And.intro hm0 hn))
          clear c c1 c2 hf hg e1 hn hx em es hm0
          go_enter Tryz.func93, Tryz.ntmps93
          go_wp2_with (go_at_call 90; refine HB.o.mono ?_; rintro e w' ⟨rfl, rfl⟩)
          go_wp2_with (go_at_call 123; refine C.o.mono ?_; rintro e w1 ⟨⟨k', d, t, rfl, q1, q2, q3⟩, hb⟩; have Q1 := hd (And.intro q1 (And.intro q2 q3)); have B1 := hd hb; clear q1 q2 q3 hb)
          have TD : FS.Told f d t := Q1.o.1
          obtain ⟨b1, b2, b3⟩ := FS.Told.bd HX.o.1 HX.o.2.1 TD Q1.o.2.1
          have hd1 : 0 < d := by have := Q1.o.2.1; omega
          have hn18 : Lib.nDigits d ≤ 18 := FS.nd_up hd1 (by rw [show (10 : Nat) ^ 18 = 1000000000000000000 by decide]; exact b2)
          have hdl := Lib.decDigits_length d
          have hk := Q1.o.2.2
          have hnp := Lib.nDigits_pos d
          have HS := hd (show FS.Shown f ([] ++ plainT (Lib.decDigits d) k') from .inr (.inr ⟨HX.o.1, HX.o.2.1, d, t, TD, Q1.o.2.1, by rw [HX.o.2.2, hk]; rfl⟩))
          have HL := (FS.plainT_len (D := Lib.decDigits d) (k := k') (by omega) (by omega) (by omega) (by omega)).1
          have CP := hd (plain_any (Lib.decDigits d) k' w1 (by omega) (by omega) (by omega))
          clear b1 b2 b3 hd1 hn18 hdl hk hnp TD Q1
          generalize plainT (Lib.decDigits d) k' = PT at *
          have hlim : ∀ N : Nat, N ≤ 1000 → ¬ 9223372036854775807 < N + PT.length := fun N hN => by omega
          have hlim1 := hlim 0 (by decide)
          clear hlim
          go_wp2_with (go_at_call 124; refine CP.o.mono ?_; rintro e w2 ⟨rfl, hb⟩; have B2 := hd (bel B1.o hb); clear hb)
          go_ret
          exact ⟨_, by first | rfl | exact congrArg (fun x => Ending.returned (.string x)) (by apply ByteArray.ext; simp [ByteArray.data_append]), HS.o, B2.o⟩
    | true =>
      rw [hn] at t2
      by_cases c1 : g = 9218868437227405312
      · have HS := hd (show FS.Shown f [45, 73, 110, 102] from .inl ⟨by unfold FS.ex; omega, by rw [if_pos (by unfold FS.mt; omega), hn]; rfl⟩)
        have t4 : ((g : Int) == 9218868437227405312) = true := by rw [beq_iff_eq]; omega
        clear c c1 hf hg e1 hn
        go_enter Tryz.func93, Tryz.ntmps93
        go_wp2_with (go_at_call 90; refine HB.o.mono ?_; rintro e w' ⟨rfl, rfl⟩)
        go_ret
        exact ⟨_, rfl, HS.o, Below.refl _ _⟩
      · have t4 : ((g : Int) == 9218868437227405312) = false := by rw [beq_eq_false_iff_ne]; omega
        by_cases c2 : g = 0
        · have HS := hd (show FS.Shown f [45, 48] from .inr (.inl ⟨by unfold FS.ex at *; omega, by unfold FS.mOf FS.ex FS.mt; split <;> omega, by rw [hn]; rfl⟩))
          have t5 : ((g : Int) == 0) = true := by rw [beq_iff_eq]; omega
          clear c c1 c2 hf hg e1 hn
          go_enter Tryz.func93, Tryz.ntmps93
          go_wp2_with (go_at_call 90; refine HB.o.mono ?_; rintro e w' ⟨rfl, rfl⟩)
          go_ret
          exact ⟨_, rfl, HS.o, Below.refl _ _⟩
        · have t5 : ((g : Int) == 0) = false := by rw [beq_eq_false_iff_ne]; omega
          have hx : FS.ex f ≠ 2047 := fun hx => by
            rcases Classical.em (FS.mt f = 0) with h0 | h0
            · unfold FS.ex at hx; unfold FS.mt at h0; omega
            · exact c ⟨hx, h0⟩
          have em : FS.mOf g = FS.mOf f ∧ FS.eOf g = FS.eOf f := by
            have e2 : FS.ex g = FS.ex f := by unfold FS.ex; omega
            have e3 : FS.mt g = FS.mt f := by unfold FS.mt; omega
            unfold FS.mOf FS.eOf
            rw [e2, e3]
            exact ⟨rfl, rfl⟩
          have hm0 : FS.mOf f ≠ 0 := by
            rw [← em.1]
            unfold FS.mOf FS.ex FS.mt
            split <;> omega
          have C := hd (shortest_any g w (by unfold FS.ex at hx; omega) (by rw [em.1]; exact hm0))
          have es : FS.sOf g = FS.sOf f := by unfold FS.sOf; rw [em.1, em.2]
          rw [em.1, em.2, es] at C
          have HX := hd (And.intro hx (And.intro hm0 hn))
          clear c c1 c2 hf hg e1 hn hx em es hm0
          go_enter Tryz.func93, Tryz.ntmps93
          go_wp2_with (go_at_call 90; refine HB.o.mono ?_; rintro e w' ⟨rfl, rfl⟩)
          go_wp2_with (go_at_call 123; refine C.o.mono ?_; rintro e w1 ⟨⟨k', d, t, rfl, q1, q2, q3⟩, hb⟩; have Q1 := hd (And.intro q1 (And.intro q2 q3)); have B1 := hd hb; clear q1 q2 q3 hb)
          have TD : FS.Told f d t := Q1.o.1
          obtain ⟨b1, b2, b3⟩ := FS.Told.bd HX.o.1 HX.o.2.1 TD Q1.o.2.1
          have hd1 : 0 < d := by have := Q1.o.2.1; omega
          have hn18 : Lib.nDigits d ≤ 18 := FS.nd_up hd1 (by rw [show (10 : Nat) ^ 18 = 1000000000000000000 by decide]; exact b2)
          have hdl := Lib.decDigits_length d
          have hk := Q1.o.2.2
          have hnp := Lib.nDigits_pos d
          have HS := hd (show FS.Shown f ([45] ++ plainT (Lib.decDigits d) k') from .inr (.inr ⟨HX.o.1, HX.o.2.1, d, t, TD, Q1.o.2.1, by rw [HX.o.2.2, hk]; rfl⟩))
          have HL := (FS.plainT_len (D := Lib.decDigits d) (k := k') (by omega) (by omega) (by omega) (by omega)).1
          have CP := hd (plain_any (Lib.decDigits d) k' w1 (by omega) (by omega) (by omega))
          clear b1 b2 b3 hd1 hn18 hdl hk hnp TD Q1
          generalize plainT (Lib.decDigits d) k' = PT at *
          have hlim : ∀ N : Nat, N ≤ 1000 → ¬ 9223372036854775807 < N + PT.length := fun N hN => by omega
          have hlim1 := hlim 1 (by decide)
          clear hlim
          go_wp2_with (go_at_call 124; refine CP.o.mono ?_; rintro e w2 ⟨rfl, hb⟩; have B2 := hd (bel B1.o hb); clear hb)
          go_ret
          exact ⟨_, by first | rfl | exact congrArg (fun x => Ending.returned (.string x)) (by apply ByteArray.ext; simp [ByteArray.data_append]), HS.o, B2.o⟩
end Go.Proofs.YtcbggkdginfakaaGreatDoor
