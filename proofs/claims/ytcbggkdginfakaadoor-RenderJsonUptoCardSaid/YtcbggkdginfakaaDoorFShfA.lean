/- internal/strconv.shortFloat at float64: what it answers, for every float. -/
import Derived.Test.YtcbggkdginfakaaDoorFShf
namespace Go.Proofs.YtcbggkdginfakaaDoor
open Go.RowKit
set_option linter.unusedVariables false
set_option linter.unusedSimpArgs false
theorem and1_i64 (n : Nat) (h : n < 9223372036854775808) : bits .and .i64 (n : Int) 1 = ((n % 2 : Nat) : Int) := by
  have h1 : (BitVec.ofInt 64 (n : Int)).toNat = n := ofInt_u64 n (by omega)
  have h2 : (BitVec.ofInt 64 (1 : Int)).toNat = 1 := by decide
  show IntKind.i64.wrap ((BitVec.ofInt 64 (n : Int) &&& BitVec.ofInt 64 (1 : Int)).toNat : Int) = _
  rw [BitVec.toNat_and, h1, h2, nat_mask1, IntKind.wrap_i64]
  omega
set_option maxHeartbeats 1000000 in
theorem short_any {e0 : Int} {m z : Nat} {sk : Bool} (F : FS.Flt e0 m z sk) (hz : z = 11 ∨ e0 = -1074) (hsk : sk = true ↔ m * 2 ^ z = 9223372036854775808 ∧ z = 11 ∧ e0 ≠ -1074) (w : World) (hT : Tbl w) :
    Calls Tryd.prog 75 #[.int .u64 (m * 2 ^ z : Nat), .int .i64 (e0 - z)] w fun x w' => Below w.heap.size w w' ∧
      ∃ a b r : Nat, FS.Fine (m % 2 == 0) (FS.Lo e0 m z sk) (FS.Hi e0 m z) (FS.Va e0 m z) (400 - FS.pOf e0 sk).toNat a b r ∧ b ≤ 144115188075855875 ∧ 53 ≤ (400 - FS.pOf e0 sk).toNat ∧ (400 - FS.pOf e0 sk).toNat ≤ 748 ∧
        x = .returned (.tuple #[.int .u64 (FS.fineD a b r : Nat), .int .i64 ((FS.fineT a b (400 - FS.pOf e0 sk).toNat : Nat) - 400 : Int)]) := by
  have fine := FS.fine_of F
  have FF := F
  obtain ⟨m0, he1, he2, hz1, hz2, hlo, hhi, hk⟩ := F
  have fc := FS.facts he1 he2
  have hP : -348 ≤ FS.pOf e0 sk ∧ FS.pOf e0 sk ≤ 347 ∧ 0 ≤ FS.lp (FS.pOf e0 sk) + e0 ∧ FS.lp (FS.pOf e0 sk) + e0 ≤ 3 := by
    unfold FS.pOf; cases sk
    · exact ⟨fc.p1, fc.p2, fc.p3, fc.p4⟩
    · exact ⟨fc.q1, fc.q2, fc.q3, fc.q4⟩
  obtain ⟨P1, P2, P3, P4⟩ := hP
  obtain ⟨i, hi⟩ : ∃ i : Nat, (i : Int) - 348 = FS.pOf e0 sk := ⟨(FS.pOf e0 sk + 348).toNat, by omega⟩
  have hi2 : i < 696 := by omega
  have hs : ((FS.sh e0 (FS.pOf e0 sk) z : Nat) : Int) = -(e0 - z + FS.lp (FS.pOf e0 sk) + 3) := by unfold FS.sh; omega
  have hs5 : 5 ≤ FS.sh e0 (FS.pOf e0 sk) z := by omega
  have hs63 : FS.sh e0 (FS.pOf e0 sk) z ≤ 63 := by omega
  obtain ⟨t1, t2, t3, t4⟩ := FS.two_z hz1
  have hpow : 2 ^ z ≤ 2 ^ 63 := Nat.pow_le_pow_right (by decide) hz2
  have hd64 : 2 ^ 64 = 2 ^ (64 - z) * 2 ^ z := by rw [← Nat.pow_add]; congr 1; omega
  have hm64 : (m + 1) * 2 ^ z ≤ 2 ^ 64 := by
    have : m < 2 ^ (64 - z) := by
      apply Nat.lt_of_mul_lt_mul_right (a := 2 ^ z)
      rw [← hd64]; exact hhi
    rw [hd64]; exact Nat.mul_le_mul_right _ this
  rw [Nat.add_mul, Nat.one_mul] at hm64
  have hhalf : FS.half z sk ≤ 2 ^ (z - 1) := by unfold FS.half; cases sk <;> simp <;> omega
  have hm1 : FS.mid m z = m * 2 ^ z := rfl
  simp only [Nat.reducePow] at hlo hhi hpow hm64
  have hx1 : FS.mid m z - FS.half z sk < 18446744073709551616 ∧ 4611686018427387904 ≤ FS.mid m z - FS.half z sk := by rw [hm1]; omega
  have hx2 : FS.mid m z + 2 ^ (z - 1) < 18446744073709551616 ∧ 4611686018427387904 ≤ FS.mid m z + 2 ^ (z - 1) := by rw [hm1]; omega
  have hhi64 : FS.hiOf (FS.pOf e0 sk) < 18446744073709551616 := FS.hi_lt P1 P2
  have c1 : FS.cutOf e0 z sk (FS.mid m z - FS.half z sk) ≤ 576460752303423489 := cut_le hx1.1 hhi64 hs5
  have c2 : FS.cutOf e0 z sk (FS.mid m z + 2 ^ (z - 1)) ≤ 576460752303423489 := cut_le hx2.1 hhi64 hs5
  have c3 : FS.cutOf e0 z sk (FS.mid m z) ≤ 576460752303423489 := cut_le hhi hhi64 hs5
  have c4 : 4 ≤ FS.cutOf e0 z sk (FS.mid m z + 2 ^ (z - 1)) := by
    have h1 := fine.a0
    have h2 := fine.ab
    unfold FS.dmaxOf at h2
    omega
  have hod : m % 2 ≤ 1 := by omega
  have hm63 : m < 9223372036854775808 := by
    have : m * 2 ≤ m * 2 ^ z := Nat.mul_le_mul_left _ (by rw [t1]; have := Nat.two_pow_pos (z - 1); omega)
    omega
  have done : ∀ {x : Ending} {w' : World}, Below w.heap.size w w' ∧ x = .returned (.tuple #[.int .u64 (FS.fineD ((FS.cutOf e0 z sk (FS.mid m z - FS.half z sk) + m % 2 + 3) / 4) ((FS.cutOf e0 z sk (FS.mid m z + 2 ^ (z - 1)) - m % 2) / 4) ((FS.cutOf e0 z sk (FS.mid m z) + 1 + FS.cutOf e0 z sk (FS.mid m z) / 4 % 2) / 4) : Nat), .int .i64 ((FS.fineT ((FS.cutOf e0 z sk (FS.mid m z - FS.half z sk) + m % 2 + 3) / 4) ((FS.cutOf e0 z sk (FS.mid m z + 2 ^ (z - 1)) - m % 2) / 4) (748 - i) : Nat) - 400 : Int)]) →
      Below w.heap.size w w' ∧ ∃ a b r : Nat, FS.Fine (m % 2 == 0) (FS.Lo e0 m z sk) (FS.Hi e0 m z) (FS.Va e0 m z) (400 - FS.pOf e0 sk).toNat a b r ∧ b ≤ 144115188075855875 ∧ 53 ≤ (400 - FS.pOf e0 sk).toNat ∧ (400 - FS.pOf e0 sk).toNat ≤ 748 ∧
        x = .returned (.tuple #[.int .u64 (FS.fineD a b r : Nat), .int .i64 ((FS.fineT a b (400 - FS.pOf e0 sk).toNat : Nat) - 400 : Int)]) := fun {x w'} ⟨h1, h2⟩ => by
    refine ⟨h1, _, _, _, fine, by unfold FS.dmaxOf; omega, by omega, by omega, ?_⟩
    rw [h2, show 748 - i = (400 - FS.pOf e0 sk).toNat by omega]
    rfl
  have hcut : ∀ x, FS.cut x (FS.hiOf ((i : Int) - 348)) (FS.loOf ((i : Int) - 348)) (FS.sh e0 (FS.pOf e0 sk) z) = FS.cutOf e0 z sk x := fun x => by rw [hi]; rfl
  have hlq0 : -2000 ≤ FS.lp (FS.pOf e0 sk) ∧ FS.lp (FS.pOf e0 sk) ≤ 2000 := by omega
  have hMi : ((m * 2 ^ z : Nat) : Int) - FS.half z sk = ((FS.mid m z - FS.half z sk : Nat) : Int) := by rw [hm1]; omega
  have hMx : ((m * 2 ^ z : Nat) : Int) + (2 ^ (z - 1) : Nat) = ((FS.mid m z + 2 ^ (z - 1) : Nat) : Int) := by rw [hm1]; omega
  by_cases hz11 : z = 11
  · subst hz11
    have hod1 : bits .and .i64 (((m * 2 ^ 11 : Nat) : Int) / 2048) 1 = ((m % 2 : Nat) : Int) := by
      rw [show ((m * 2 ^ 11 : Nat) : Int) / 2048 = (m : Int) by simp only [Nat.reducePow]; omega]; exact and1_i64 m hm63
    have he11 : e0 - ((11 : Nat) : Int) + 11 = e0 := by omega
    cases sk with
    | true =>
      obtain ⟨s1, _, s2⟩ := hsk.1 rfl
      have hl : FS.skw (e0 - ((11 : Nat) : Int) + 11) = 348 - (i : Int) := by rw [he11]; have : FS.pOf e0 true = - FS.skw e0 := rfl; omega
      exact (shortA (m * 2 ^ 11) (FS.mid m 11 - FS.half 11 true) (FS.mid m 11 + 2 ^ (11 - 1)) _ _ _ (m % 2) i (FS.sh e0 (FS.pOf e0 true) 11) (e0 - ((11 : Nat) : Int)) (FS.lp (FS.pOf e0 true)) w hT (by rw [s1]; simp) (decide_eq_true (by omega)) hl (by rw [← hMi]; rfl) (by rw [← hMx]; rfl) hod1
        hhi hlo hi2 (by omega) (by omega) (by rw [hi]) hlq0.1 hlq0.2 (by rw [hs]) hs63 hod hx1.1 hx1.2 hx2.1 hx2.2 (hcut _) (hcut _) (hcut _) c1 c2 c3 c4).mono fun _ _ h => done h
    | false =>
      have hl : FS.l10 (e0 - ((11 : Nat) : Int) + 11) = 348 - (i : Int) := by rw [he11]; have : FS.pOf e0 false = - FS.l10 e0 := rfl; omega
      by_cases hp : m * 2 ^ 11 = 9223372036854775808
      · have he : e0 = -1074 := by
          by_cases q : e0 = -1074
          · exact q
          · exact absurd (hsk.2 ⟨hp, rfl, q⟩) (by simp)
        exact (shortB2 (m * 2 ^ 11) (FS.mid m 11 - FS.half 11 false) (FS.mid m 11 + 2 ^ (11 - 1)) _ _ _ (m % 2) i (FS.sh e0 (FS.pOf e0 false) 11) (e0 - ((11 : Nat) : Int)) (FS.lp (FS.pOf e0 false)) w hT (by omega) (beq_iff_eq.2 (by rw [hp]; rfl)) (decide_eq_false (by omega)) hl (by rw [← hMi]; rfl) (by rw [← hMx]; rfl) hod1
          hhi hlo hi2 (by omega) (by omega) (by rw [hi]) hlq0.1 hlq0.2 (by rw [hs]) hs63 hod hx1.1 hx1.2 hx2.1 hx2.2 (hcut _) (hcut _) (hcut _) c1 c2 c3 c4).mono fun _ _ h => done h
      · exact (shortB1 (m * 2 ^ 11) (FS.mid m 11 - FS.half 11 false) (FS.mid m 11 + 2 ^ (11 - 1)) _ _ _ (m % 2) i (FS.sh e0 (FS.pOf e0 false) 11) (e0 - ((11 : Nat) : Int)) (FS.lp (FS.pOf e0 false)) w hT (by omega) (by rw [beq_eq_false_iff_ne]; exact fun e => hp (by omega)) hl (by rw [← hMi]; rfl) (by rw [← hMx]; rfl) hod1
          hhi hlo hi2 (by omega) (by omega) (by rw [hi]) hlq0.1 hlq0.2 (by rw [hs]) hs63 hod hx1.1 hx1.2 hx2.1 hx2.2 (hcut _) (hcut _) (hcut _) c1 c2 c3 c4).mono fun _ _ h => done h
  · have he : e0 = -1074 := by omega
    subst he
    have hsf : sk = false := by
      cases sk
      · rfl
      · exact absurd (hsk.1 rfl).2.1 hz11
    subst hsf
    have hhf : FS.half z false = 2 ^ (z - 1) := rfl
    rw [hhf] at hMi
    have hzz : (2 ^ (z - 1) : Nat) ≤ 9223372036854775808 := by omega
    have hpc : ((2 : Int) ^ (z - 1)) = ((2 ^ (z - 1) : Nat) : Int) := by push_cast; rfl
    have hw1 : IntKind.u64.wrap ((2 : Int) ^ (z - 1)) = ((2 ^ (z - 1) : Nat) : Int) := by rw [hpc, IntKind.wrap_u64]; omega
    have hmn1 : IntKind.u64.wrap (((m * 2 ^ z : Nat) : Int) - IntKind.u64.wrap (2 ^ (z - 1))) = ((FS.mid m z - FS.half z false : Nat) : Int) := by
      rw [hw1, hMi, IntKind.wrap_u64]; omega
    have hmx1 : IntKind.u64.wrap (((m * 2 ^ z : Nat) : Int) + IntKind.u64.wrap (2 ^ (z - 1))) = ((FS.mid m z + 2 ^ (z - 1) : Nat) : Int) := by
      rw [hw1, hMx, IntKind.wrap_u64]; omega
    have hod1 : bits .and .i64 (wrap64 (((m * 2 ^ z : Nat) : Int) / 2 ^ z)) 1 = ((m % 2 : Nat) : Int) := by
      have e1 : ((m * 2 ^ z : Nat) : Int) / 2 ^ z = (m : Int) := by
        rw [show ((2 : Int) ^ z) = ((2 ^ z : Nat) : Int) by push_cast; rfl, ← Int.natCast_ediv, Nat.mul_div_cancel _ (Nat.two_pow_pos z)]
      rw [e1, show wrap64 (m : Int) = (m : Int) by unfold wrap64; omega]
      exact and1_i64 m hm63
    have hl : FS.l10 (-1074 - (z : Int) + z) = 348 - (i : Int) := by rw [show (-1074 : Int) - z + z = -1074 by omega]; have : FS.pOf (-1074) false = - FS.l10 (-1074) := rfl; omega
    by_cases hp : m * 2 ^ z = 9223372036854775808
    · exact (shortC2 (m * 2 ^ z) (FS.mid m z - FS.half z false) (FS.mid m z + 2 ^ (z - 1)) _ _ _ (m % 2) i (FS.sh (-1074) (FS.pOf (-1074) false) z) (-1074 - (z : Int)) (FS.lp (FS.pOf (-1074) false)) w hT (beq_iff_eq.2 (by rw [hp]; rfl)) z (by omega) (by omega) hz2 (by omega) (decide_eq_false (by omega)) hl hmn1 hmx1 hod1
        hhi hlo hi2 (by omega) (by omega) (by rw [hi]) hlq0.1 hlq0.2 (by rw [hs]) hs63 hod hx1.1 hx1.2 hx2.1 hx2.2 (hcut _) (hcut _) (hcut _) c1 c2 c3 c4).mono fun _ _ h => done h
    · exact (shortC1 (m * 2 ^ z) (FS.mid m z - FS.half z false) (FS.mid m z + 2 ^ (z - 1)) _ _ _ (m % 2) i (FS.sh (-1074) (FS.pOf (-1074) false) z) (-1074 - (z : Int)) (FS.lp (FS.pOf (-1074) false)) w hT (by rw [beq_eq_false_iff_ne]; exact fun e => hp (by omega)) z (by omega) (by omega) hz2 (by omega) (decide_eq_false (by omega)) hl hmn1 hmx1 hod1
        hhi hlo hi2 (by omega) (by omega) (by rw [hi]) hlq0.1 hlq0.2 (by rw [hs]) hs63 hod hx1.1 hx1.2 hx2.1 hx2.2 (hcut _) (hcut _) (hcut _) c1 c2 c3 c4).mono fun _ _ h => done h
end Go.Proofs.YtcbggkdginfakaaDoor
