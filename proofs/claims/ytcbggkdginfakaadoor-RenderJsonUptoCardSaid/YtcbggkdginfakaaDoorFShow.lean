/- num.Show, for every float. -/
import Derived.Test.YtcbggkdginfakaaDoorFTold
import Derived.Test.YtcbggkdginfakaaDoorBase4
import Derived.Test.YtcbggkdginfakaaDoorBase5
namespace Go.Proofs.YtcbggkdginfakaaDoor
open Go.RowKit
set_option linter.unusedVariables false
set_option linter.unusedSimpArgs false
theorem and_2047 (f : Nat) (hf : f < 18446744073709551616) : bits .and .i64 ((f : Int) / 4503599627370496) 2047 = (FS.ex f : Int) := by
  have h := bits_mask .i64 62 (by decide) (fun n h0 h1 => by rw [IntKind.wrap_i64]; simp only [Int.reducePow] at h1; omega) 11 (by decide) ((f : Int) / 4503599627370496) (by omega) (by simp only [Int.reducePow]; omega)
  simp only [Int.reducePow, Int.reduceSub] at h
  rw [h]
  unfold FS.ex
  omega
theorem and_mt (f : Nat) (hf : f < 18446744073709551616) : bits .and .u64 (f : Int) 4503599627370495 = (FS.mt f : Int) := by
  have h := u64_and_nat f 4503599627370495 hf (by decide)
  rw [Nat.and_two_pow_sub_one_eq_mod f 52] at h
  exact h
theorem or_mt (f : Nat) : bits .or .u64 (FS.mt f : Int) 4503599627370496 = ((FS.mt f + 4503599627370496 : Nat) : Int) := by
  have hm : FS.mt f < 4503599627370496 := Nat.mod_lt _ (by decide)
  have h := u64_or_nat (FS.mt f) 4503599627370496 (by omega) (by decide)
  rw [Nat.or_comm, nat_join 52 4503599627370496 (FS.mt f) (by decide) hm, Nat.add_comm] at h
  exact h
theorem ng_eq (f : Nat) (hf : f < 18446744073709551616) : ((f : Int) / 9223372036854775808 != 0) = FS.ng f := by
  unfold FS.ng
  by_cases h : 9223372036854775808 ≤ f
  · rw [decide_eq_true h, bne_iff_ne]; omega
  · rw [decide_eq_false h]
    simp only [bne_eq_false_iff_eq]
    omega
/-- the places that bring a number's head to the head of 64 bits -/
theorem head_z (m : Nat) (h0 : m ≠ 0) (h1 : m < 9007199254740992) : ∃ z : Nat, (Lib.bitLen m : Int) + z = 64 ∧ 11 ≤ z ∧ z ≤ 63 ∧ 2 ^ 63 ≤ m * 2 ^ z ∧ m * 2 ^ z < 2 ^ 64 ∧ (4503599627370496 ≤ m → z = 11) := by
  obtain ⟨b1, b2, b3⟩ := Lib.bitLenAux_bounds 64 m (by omega) h0
  have e : Lib.bitLenAux 64 m = Lib.bitLen m := rfl
  rw [e] at b1 b2 b3
  have b4 : Lib.bitLen m ≤ 53 := Lib.bitLen_le m 53 (by decide) h1
  refine ⟨64 - Lib.bitLen m, by omega, by omega, by omega, ?_, ?_, fun h => ?_⟩
  · calc 2 ^ 63 = 2 ^ (Lib.bitLen m - 1) * 2 ^ (64 - Lib.bitLen m) := by rw [← Nat.pow_add]; congr 1; omega
      _ ≤ m * 2 ^ (64 - Lib.bitLen m) := Nat.mul_le_mul_right _ b2
  · calc m * 2 ^ (64 - Lib.bitLen m) < 2 ^ Lib.bitLen m * 2 ^ (64 - Lib.bitLen m) := Nat.mul_lt_mul_of_pos_right b3 (Nat.two_pow_pos _)
      _ = 2 ^ 64 := by rw [← Nat.pow_add]; congr 1; omega
  · have : 53 ≤ Lib.bitLen m := by
      by_cases q : 53 ≤ Lib.bitLen m
      · exact q
      · have h5 : 2 ^ Lib.bitLen m ≤ 2 ^ 52 := Nat.pow_le_pow_right (by decide) (by omega)
        omega
    omega
theorem mOf_lt (f : Nat) : FS.mOf f < 9007199254740992 := by
  have : FS.mt f < 4503599627370496 := Nat.mod_lt _ (by decide)
  unfold FS.mOf; split <;> omega
theorem flt_of (f : Nat) (hx : FS.ex f ≠ 2047) (hm : FS.mOf f ≠ 0) : ∃ z : Nat, FS.Flt (FS.eOf f) (FS.mOf f) z (FS.sOf f) ∧ (Lib.bitLen (FS.mOf f) : Int) + z = 64 ∧ (z = 11 ∨ FS.eOf f = -1074) ∧ (FS.sOf f = true ↔ FS.mOf f * 2 ^ z = 9223372036854775808 ∧ z = 11 ∧ FS.eOf f ≠ -1074) := by
  have hml := mOf_lt f
  obtain ⟨z, z1, z2, z3, z4, z5, z6⟩ := head_z (FS.mOf f) hm hml
  have hxl : FS.ex f < 2048 := Nat.mod_lt _ (by decide)
  have hz : z = 11 ∨ FS.eOf f = -1074 := by
    by_cases h : FS.ex f = 0
    · right; unfold FS.eOf; rw [if_pos h]; rfl
    · left; apply z6; unfold FS.mOf; rw [if_neg h]; omega
  have he : -1074 ≤ FS.eOf f ∧ FS.eOf f ≤ 971 := by unfold FS.eOf; split <;> omega
  have hs : FS.sOf f = true ↔ FS.mOf f * 2 ^ z = 9223372036854775808 ∧ z = 11 ∧ FS.eOf f ≠ -1074 := by
    unfold FS.sOf
    rw [decide_eq_true_eq]
    constructor
    · rintro ⟨h1, h2⟩
      have h3 : z = 11 := by omega
      subst h3
      exact ⟨by rw [h1], rfl, h2⟩
    · rintro ⟨h1, rfl, h2⟩
      exact ⟨by omega, h2⟩
  refine ⟨z, ⟨Nat.pos_of_ne_zero hm, he.1, he.2, z2, z3, z4, z5, fun h => ?_⟩, z1, hz, hs⟩
  have h2 := hs.1 h
  refine ⟨h2.2.1, ?_, h2.2.2⟩
  unfold FS.sOf at h
  rw [decide_eq_true_eq] at h
  omega
set_option maxRecDepth 100000 in
set_option maxHeartbeats 2000000 in
theorem ftoa_any (f : Nat) (hf : f < 18446744073709551616) (w : World) (hT : Tbl w) (B : Nat) (v : Value) (hO : w.ownsRow B 5 1 v 0 []) (hB : B ≤ w.heap.size) :
    Calls Tryd.prog 58 #[v, .float .f64 f, .int .u8 102, .int .i64 (-1)] w fun e w' =>
      ∃ v' s, e = .returned v' ∧ FS.Shown f s ∧ w'.ownsRow B 5 1 v' s.length (cellsB s) ∧ Below B w w' := by
  have a1 := and_2047 f hf
  have a2 := and_mt f hf
  have a4 := ng_eq f hf
  have hxl : FS.ex f < 2048 := Nat.mod_lt _ (by decide)
  have q1 := bits_run f
  by_cases hx : FS.ex f = 2047
  · have HO := hd hO
    rw [hx] at a1
    have HSH := hd (show ∀ s, (s = if FS.mt f = 0 then (if FS.ng f then [45, 73, 110, 102] else [43, 73, 110, 102]) else [78, 97, 78]) → FS.Shown f s from fun s h => .inl ⟨hx, h⟩)
    clear hO hT hx hxl
    by_cases hm : FS.mt f = 0
    · rw [hm] at a2
      rw [if_pos hm] at HSH
      clear hm
      cases hn : FS.ng f with
      | false =>
        rw [hn] at a4 HSH
        rw [if_neg (by simp)] at HSH
        clear hn
        go_enter Tryd.func58, Tryd.ntmps58
        go_wp2
        go_quiet (fail)
        have hb : B ≤ (w.drewN nq).heap.size := hB
        have HOD := hd (own_below HO.o (bel_drew (Below.refl _ _) nq))
        go_wp2_with (at_builtin; refine wpList_app_str _ 35 9 5 Tryd.underlying35 Tryd.underlying9 info_u8f rfl _ _ rfl B v 0 [] rfl HOD.o ⟨#[43, 73, 110, 102]⟩ rfl (by decide) hb ?_)
        intro v' w' ho hg
        have H1 := hd ho
        have H2 := hd ((bel_drew (Below.refl B w) nq).grown hg hb (fun q hq => (HOD.o.lt q hq).1))
        clear ho hg
        go_wp2
        go_ret
        exact ⟨v', _, rfl, HSH.o _ rfl, H1.o, H2.o⟩
      | true =>
        rw [hn] at a4 HSH
        rw [if_pos rfl] at HSH
        clear hn
        go_enter Tryd.func58, Tryd.ntmps58
        go_wp2
        go_quiet (fail)
        have hb : B ≤ (w.drewN nq).heap.size := hB
        have HOD := hd (own_below HO.o (bel_drew (Below.refl _ _) nq))
        go_wp2_with (at_builtin; refine wpList_app_str _ 35 9 5 Tryd.underlying35 Tryd.underlying9 info_u8f rfl _ _ rfl B v 0 [] rfl HOD.o ⟨#[45, 73, 110, 102]⟩ rfl (by decide) hb ?_)
        intro v' w' ho hg
        have H1 := hd ho
        have H2 := hd ((bel_drew (Below.refl B w) nq).grown hg hb (fun q hq => (HOD.o.lt q hq).1))
        clear ho hg
        go_wp2
        go_ret
        exact ⟨v', _, rfl, HSH.o _ rfl, H1.o, H2.o⟩
    · rw [if_neg hm] at HSH
      have m1 : ((FS.mt f : Int) != 0) = true := by rw [bne_iff_ne]; omega
      clear hm
      go_enter Tryd.func58, Tryd.ntmps58
      go_wp2
      go_quiet (fail)
      have hb : B ≤ (w.drewN nq).heap.size := hB
      have HOD := hd (own_below HO.o (bel_drew (Below.refl _ _) nq))
      go_wp2_with (at_builtin; refine wpList_app_str _ 35 9 5 Tryd.underlying35 Tryd.underlying9 info_u8f rfl _ _ rfl B v 0 [] rfl HOD.o ⟨#[78, 97, 78]⟩ rfl (by decide) hb ?_)
      intro v' w' ho hg
      have H1 := hd ho
      have H2 := hd ((bel_drew (Below.refl B w) nq).grown hg hb (fun q hq => (HOD.o.lt q hq).1))
      clear ho hg
      go_wp2
      go_ret
      exact ⟨v', _, rfl, HSH.o _ rfl, H1.o, H2.o⟩
  · by_cases hm : FS.mOf f = 0
    · have hx0 : FS.ex f = 0 := by unfold FS.mOf at hm; split at hm <;> omega
      have hm0 : FS.mt f = 0 := by unfold FS.mOf at hm; rw [if_pos hx0] at hm; exact hm
      have HSH := hd (show ∀ s, s = sgn (FS.ng f) ++ [48] → FS.Shown f s from fun s h => .inr (.inl ⟨hx, hm, h⟩))
      rw [hx0] at a1
      rw [hm0] at a2
      have HO := hd hO
      clear hO hT hx hxl hm hx0 hm0
      generalize FS.ng f = neg at *
      have HEF := hd (fun W (h1 : Below w.heap.size w W) => efg0 W B v neg (own_below HO.o h1) (Nat.le_trans hB h1.size))
      go_enter Tryd.func58, Tryd.ntmps58
      go_wp2
      go_quiet (fail)
      go_wp2_with (go_at_call 68; refine (HEF.o _ (bel_drew (Below.refl _ _) nq)).mono ?_; rintro e w2 ⟨v2, rfl, h1, h2⟩; have H1 := hd h1; have H2 := hd h2; clear h1 h2)
      go_ret
      exact ⟨v2, _, rfl, HSH.o _ rfl, H1.o, (bel_drew (Below.refl B w) nq).trans H2.o⟩
    · obtain ⟨z, F, hbl, hz, hsk⟩ := flt_of f hx hm
      obtain ⟨e1, e2, e3⟩ := FS.lo_uq F
      have hml := mOf_lt f
      have fin : ∀ {e : Ending} {w' : World}, (∃ v' d t, e = .returned v' ∧ FS.Best (FS.mOf f % 2 == 0) (FS.Lo (FS.eOf f) (FS.mOf f) z (FS.sOf f)) (FS.Hi (FS.eOf f) (FS.mOf f) z) (FS.Va (FS.eOf f) (FS.mOf f) z) d t ∧ d % 10 ≠ 0 ∧ w'.ownsRow B 5 1 v' (sgn (FS.ng f) ++ plainT (Lib.decDigits d) ((Lib.nDigits d : Int) + t - 400)).length (cellsB (sgn (FS.ng f) ++ plainT (Lib.decDigits d) ((Lib.nDigits d : Int) + t - 400))) ∧ Below B w w') →
          ∃ v' s, e = .returned v' ∧ FS.Shown f s ∧ w'.ownsRow B 5 1 v' s.length (cellsB s) ∧ Below B w w' := fun {e w'} ⟨v', d, t, h1, h2, h3, h4, h5⟩ => by
        rw [e1, e2, e3] at h2
        exact ⟨v', _, h1, .inr (.inr ⟨hx, hm, d, t, h2, h3, rfl⟩), h4, h5⟩
      by_cases hx0 : FS.ex f = 0
      · have hmm : FS.mOf f = FS.mt f := by unfold FS.mOf; rw [if_pos hx0]
        rw [hx0] at a1
        rw [← hmm] at a2
        exact (ftoa_sub f (FS.mOf f) z hf (FS.eOf f) (FS.sOf f) (FS.ng f) w hT B v hO hB a4 a1 a2 (by rw [beq_eq_false_iff_ne]; omega) hml F hz hsk hbl (by unfold FS.eOf; rw [if_pos hx0]; rfl)).mono fun _ _ h => fin h
      · have hmm : FS.mOf f = FS.mt f + 4503599627370496 := by unfold FS.mOf; rw [if_neg hx0]
        have a3 := or_mt f
        rw [← hmm] at a3
        exact (ftoa_nrm f (FS.ex f) (FS.mt f) (FS.mOf f) z hf (FS.eOf f) (FS.sOf f) (FS.ng f) w hT B v hO hB a4 a1 a2 a3 (by rw [beq_eq_false_iff_ne]; omega) (by rw [beq_eq_false_iff_ne]; omega) (by omega) (by rw [beq_eq_false_iff_ne]; omega) hml F hz hsk hbl (by unfold FS.eOf; rw [if_neg hx0])).mono fun _ _ h => fin h
theorem conv_u8 {w : World} {v : Value} {m : Nat} {l : List UInt8} (h : IsL 1 w v m (cellsB l)) : (convert 35 9 v).run Tryd.prog w = .ok (.string ⟨l.toArray⟩) w :=
  run_string_of w 35 9 5 Tryd.underlying35 Tryd.underlying5 Tryd.underlying9 _ _ _ h
set_option maxRecDepth 100000 in
theorem fmtf_any (f : Nat) (hf : f < 18446744073709551616) (w : World) (hT : Tbl w) :
    Calls Tryd.prog 49 #[.float .f64 f, .int .u8 102, .int .i64 (-1), .int .i64 64] w fun e w' => ∃ s : List UInt8, e = .returned (.string ⟨s.toArray⟩) ∧ FS.Shown f s ∧ Below w.heap.size w w' := by
  have HT := hd hT
  clear hT
  have mx : max (3 : Int) 24 = 24 := by decide
  go_enter Tryd.func49, Tryd.ntmps49
  go_wp2_with (at_make; refine wpList_mk0 _ 35 5 (.int .u8 0) 1 1 Tryd.underlying35 info_u8f rfl _ _ rfl w.heap.size _ _ 24 rfl rfl (by decide) (by decide) (Nat.le_refl _) ?_)
  intro w2 ho hg
  have HB2 := hd (bel_grown (Below.refl w.heap.size w) hg (fun k h => by cases h))
  have HFT := hd (ftoa_any f hf w2 (HT.o.below HB2.o) w.heap.size _ ho HB2.o.size)
  clear ho hg
  go_wp2_with (go_at_call 58; refine HFT.o.mono ?_; rintro e w3 ⟨v3, s, rfl, hs, ho3, hb3⟩; have HS := hd hs; have HB3 := hd (HB2.o.trans hb3); have hcv := conv_u8 (IsL.own ho3); clear hs ho3 hb3)
  go_ret
  exact ⟨s, rfl, HS.o, HB3.o⟩
theorem show_any (f : Nat) (hf : f < 18446744073709551616) (w : World) (hT : Tbl w) :
    Calls Tryd.prog 31 #[.float .f64 f] w fun e w' => ∃ s : List UInt8, e = .returned (.string ⟨s.toArray⟩) ∧ FS.Shown f s ∧ Below w.heap.size w w' := by
  have H1 := hd (fmtf_any f hf w hT)
  have H2 : Hd (Calls Tryd.prog 40 #[.float .f64 f, .int .u8 102, .int .i64 (-1), .int .i64 64] w fun e w' => ∃ s : List UInt8, e = .returned (.string ⟨s.toArray⟩) ∧ FS.Shown f s ∧ Below w.heap.size w w') := hd (by
    go_enter Tryd.func40, Tryd.ntmps40
    go_wp2_with (go_at_call 49; refine H1.o.mono ?_; rintro e w3 ⟨s, rfl, hs, hb⟩; have HS := hd hs; have HB := hd hb; clear hs hb)
    go_ret
    exact ⟨s, rfl, HS.o, HB.o⟩)
  clear hT
  go_enter Tryd.func31, Tryd.ntmps31
  go_wp2_with (go_at_call 40; refine H2.o.mono ?_; rintro e w3 ⟨s, rfl, hs, hb⟩; have HS := hd hs; have HB := hd hb; clear hs hb)
  go_ret
  exact ⟨s, rfl, HS.o, HB.o⟩
end Go.Proofs.YtcbggkdginfakaaDoor
