/- digits: the shortest decimal, digit by digit (weirref02/show.go). -/
import Derived.Test.YtibmgmgdbicdlaaGreatDoorFNat
import Derived.Test.YtibmgmgdbicdlaaGreatDoorFText
namespace Go.Proofs.YtibmgmgdbicdlaaGreatDoor
open Go.RowKit
set_option linter.unusedVariables false
set_option linter.unusedSimpArgs false
namespace FS
/-- what digits answers -/
def Dug (ev : Bool) (L U V : Nat) (k : Int) (e : Ending) : Prop :=
  ∃ d t, e = .returned (.tuple #[.string ⟨(Lib.decDigits d).toArray⟩, .int .i64 k]) ∧ Best ev L U V d t ∧ d % 10 ≠ 0 ∧ k = (Lib.nDigits d : Int) + t - 400
/-- where digits stands at the head of a round -/
structure At (ev : Bool) (L U V κ N D Un Ov i d n : Nat) : Prop where
  e : d * D + n = N * 10 ^ i
  lt : n < D
  no : (i = 0 ∧ In ev L U (T κ)) ∨ ∀ e, ¬ In ev L U (e * T (κ - i))
theorem At.step {ev : Bool} {L U V κ N D Un Ov i d n c : Nat} (A : At ev L U V κ N D Un Ov i d n) (h1 : c * D ≤ n * 10) (h2 : n * 10 < (c + 1) * D) :
    (d * 10 + c) * D + (n * 10 - c * D) = N * 10 ^ (i + 1) ∧ n * 10 - c * D < D := by
  have e := A.e
  rw [Nat.add_mul, Nat.one_mul] at h2
  constructor
  · rw [Nat.pow_succ, ← Nat.mul_assoc, ← e, Nat.add_mul, Nat.add_mul, Nat.mul_right_comm]
    omega
  · omega
theorem cmp_sgn {x y : Nat} {p : Int} (h : FB.cmp x y = p) : (p < 0 ↔ x < y) ∧ (p = 0 ↔ x = y) := by
  subst h
  unfold FB.cmp
  by_cases c : x < y
  · rw [if_pos c]; exact ⟨⟨fun _ => c, fun _ => by decide⟩, ⟨fun h => by simp at h, fun h => by omega⟩⟩
  · rw [if_neg c]
    by_cases c2 : y < x
    · rw [if_pos c2]; exact ⟨⟨fun h => by simp at h, fun h => by omega⟩, ⟨fun h => by simp at h, fun h => by omega⟩⟩
    · rw [if_neg c2]; exact ⟨⟨fun h => by simp at h, fun h => by omega⟩, ⟨fun _ => by omega, fun _ => rfl⟩⟩
/-- does one side hold, as the sign tells -/
def sg (ev : Bool) (p : Int) : Prop := p < 0 ∨ (p = 0 ∧ ev = true)
theorem sg_iff {ev : Bool} {x y : Nat} {p : Int} (h : FB.cmp x y = p) : sg ev p ↔ dgDown ev x y := by
  unfold sg dgDown
  rw [(cmp_sgn h).1, (cmp_sgn h).2]
structure Lf (ev : Bool) (L U V κ N D Un Ov i d m : Nat) (k : Int) (p1 p2 p3 : Int) : Prop where
  dn : sg ev p1 → (¬ sg ev p2 ∨ p3 < 0 ∨ (p3 = 0 ∧ d % 2 = 0)) → Dug ev L U V k (.returned (.tuple #[.string ⟨(Lib.decDigits d).toArray⟩, .int .i64 k]))
  up : sg ev p2 → ¬ (sg ev p1 ∧ (p3 < 0 ∨ (p3 = 0 ∧ d % 2 = 0))) →
    (Lib.nDigits (d + 1) > i + 1 ∧ Dug ev L U V (k + 1) (.returned (.tuple #[.string ⟨#[49]⟩, .int .i64 (k + 1)]))) ∨
    (Lib.nDigits (d + 1) = i + 1 ∧ Dug ev L U V k (.returned (.tuple #[.string ⟨(Lib.decDigits (d + 1)).toArray⟩, .int .i64 k])))
  no : ¬ sg ev p1 → ¬ sg ev p2 → At ev L U V κ N D Un Ov (i + 1) d m ∧ i + 1 < 18
theorem DG.lf {ev : Bool} {L U V κ N D Un Ov i d0 d n m : Nat} {k p1 p2 p3 : Int} (G : DG ev L U V κ N D Un Ov) (hκ : (κ : Int) = k + 400) (hi : i < 18) (hκ18 : 18 ≤ κ) (A : At ev L U V κ N D Un Ov i d0 n)
    (h : d * D + m = N * 10 ^ (i + 1)) (hm : m < D) (h1 : FB.cmp m (Un * 10 ^ (i + 1)) = p1) (h2 : FB.cmp (D - m) (Ov * 10 ^ (i + 1)) = p2) (h3 : FB.cmp m (D - m) = p3) : Lf ev L U V κ N D Un Ov i d m k p1 p2 p3 := by
  have s3 := cmp_sgn h3
  have SZ := G.size h hm
  refine ⟨fun a b => ?_, fun a b => ?_, fun a b => ?_⟩
  · rw [sg_iff h1] at a
    rw [sg_iff h2, s3.1, s3.2] at b
    rcases A.no with ⟨rfl, hT⟩ | hno
    · obtain ⟨_, q1, q2, q3⟩ := G.nine hT (by omega) h hm
      rcases b with b | b | b
      · exact absurd q3 b
      · exact absurd b q1
      · exact absurd b.1 q2
    · obtain ⟨B1, B2⟩ := G.take (by omega) h hm hno a b
      refine ⟨d, κ - (i + 1), rfl, B1, B2, ?_⟩
      rw [Lib.nDigits_unique i d SZ.1 SZ.2]
      omega
  · rw [sg_iff h2] at a
    rw [sg_iff h1, s3.1, s3.2] at b
    rcases A.no with ⟨rfl, hT⟩ | hno
    · obtain ⟨q0, _, _, _⟩ := G.nine hT (by omega) h hm
      subst q0
      refine .inl ⟨by rw [Lib.nDigits_unique 1 10 (by decide) (by decide)]; decide, 1, κ, ?_, G.one hT, by decide, ?_⟩
      · rw [Lib.decDigits_one (by decide)]; rfl
      · rw [Lib.nDigits_small (by decide)]; omega
    · obtain ⟨B1, B2⟩ := G.takeUp (by omega) h hm hno a b
      have h10 : d + 1 < 10 ^ (i + 1) := by
        rcases Nat.lt_or_ge (d + 1) (10 ^ (i + 1)) with q | q
        · exact q
        · exfalso
          apply B2
          have : d + 1 = 10 ^ i * 10 := by rw [← Nat.pow_succ]; omega
          rw [this, Nat.mul_mod_left]
      have hn := Lib.nDigits_unique i (d + 1) (by omega) h10
      refine .inr ⟨hn, d + 1, κ - (i + 1), rfl, B1, B2, ?_⟩
      rw [hn]
      omega
  · rw [sg_iff h1] at a
    rw [sg_iff h2] at b
    obtain ⟨q1, q2⟩ := G.none (by omega) h hm a b
    exact ⟨⟨h, hm, .inr q1⟩, q2⟩
end FS
theorem times10_nv (v : Value) (N : Nat) (w : World) (k : Nat) (h : NV w v N) (hk : FB.Lt k N) (hk2 : k ≤ 10000) :
    Calls Tryz.prog 113 #[v, .int .u32 10, .int .u32 0] w fun e w' => ∃ v', e = .returned v' ∧ NV w' v' (N * 10) ∧ Below w.heap.size w w' :=
  times_nv v N 10 w k h hk hk2 (by decide)
theorem FB.Lt.ten {k N i : Nat} (h : FB.Lt k N) (hi : i ≤ 18) : FB.Lt (k + 2) (N * 10 ^ i) :=
  h.mul (Nat.lt_of_le_of_lt (Nat.pow_le_pow_right (by decide) hi) (by decide))
theorem FB.Lt.up {k j N : Nat} (h : FB.Lt k N) (hj : k ≤ j) : FB.Lt j N := Nat.lt_of_lt_of_le h (Nat.pow_le_pow_right (by decide) hj)
set_option maxRecDepth 100000 in
set_option maxHeartbeats 2000000 in
theorem digits_any (vn vu vo vd : Value) (ev : Bool) (k : Int) (L U V κ N D Un Ov K : Nat) (w : World) (G : FS.DG ev L U V κ N D Un Ov) (hκ : (κ : Int) = k + 400) (hκ18 : 18 ≤ κ) (hk1 : -4000 ≤ k) (hk2 : k ≤ 4000)
    (hn : NV w vn N) (hu : NV w vu Un) (ho : NV w vo Ov) (hdd : NV w vd D) (hD : FB.Lt K D) (hU : FB.Lt K Un) (hO : FB.Lt K Ov) (hK : K ≤ 5000) :
    Calls Tryz.prog 109 #[vn, vu, vo, vd, .bool ev, .int .i64 k] w fun e w' => (∃ k', FS.Dug ev L U V k' e) ∧ Below w.heap.size w w' := by
  have HG := hd G
  have HN := hd hn
  have HU := hd hu
  have HO := hd ho
  have HDD := hd hdd
  have HD := hd hD
  have HUk := hd hU
  have HOk := hd hO
  clear G hn hu ho hdd hD hU hO
  go_enter Tryz.func109, Tryz.ntmps109
  go_wp2
  go_loopw [0, 1, 2, 14, 15] (fun xn xu xo xd xi wr => ∃ (i d n : Nat), xi = .int .i64 i ∧ xd = .int .u64 d ∧ i < 18 ∧ d < 1000000000000000000 ∧ Hd (d < 10 ^ i) ∧ Hd (FS.At ev L U V κ N D Un Ov i d n) ∧ Hd (NV wr xn n) ∧ Hd (NV wr xu (Un * 10 ^ i)) ∧ Hd (NV wr xo (Ov * 10 ^ i)) ∧ Hd (Below w.heap.size w wr)) (fun xn xu xo xd xi wr => 18 - (intOf xi).toNat)
  case atStart => exact ⟨0, 0, N, rfl, rfl, by decide, by decide, hd (by decide), hd ⟨by simp, HG.o.lt, by
    by_cases c : FS.In ev L U (FS.T κ)
    · exact .inl ⟨rfl, c⟩
    · exact .inr (HG.o.start c)⟩, HN, by simpa using HU, by simpa using HO, hd (Below.refl _ _)⟩
  case round =>
    obtain ⟨wv, rfl⟩ : ∃ wv : World, wv = wr := ⟨_, rfl⟩
    obtain ⟨i, d, n, rfl, rfl, hi, hd18, HDi, HA, HN, HU, HO, HB⟩ := hrel
    have hiI : (i : Int) < 20 := by omega
    have HnK : Hd (FB.Lt K n) := hd (HD.o.le (Nat.le_of_lt HA.o.lt))
    have C1 := hd (times10_nv u0 n wv K HN.o HnK.o (by omega))
    go_wp2_with (go_at_call 113; with_reducible refine C1.o.mono ?_; rintro e w1 ⟨v1, rfl, h1, h2⟩; have N1 := hd h1; have B1 := hd h2; have BB1 := hd (bel HB.o h2); clear h1 h2)
    have C2 := hd (times10_nv u1 _ w1 (K + 2) (HU.o.below B1.o) (HUk.o.ten (by omega)) (by omega))
    go_wp2_with (go_at_call 113; with_reducible refine C2.o.mono ?_; rintro e w2 ⟨v2, rfl, h1, h2⟩; have U1 := hd h1; have B2 := hd h2; have BB2 := hd (bel BB1.o h2); clear h1 h2)
    have C3 := hd (times10_nv u2 _ w2 (K + 2) ((HO.o.below B1.o).below B2.o) (HOk.o.ten (by omega)) (by omega))
    go_wp2_with (go_at_call 113; with_reducible refine C3.o.mono ?_; rintro e w3 ⟨v3, rfl, h1, h2⟩; have O1 := hd h1; have B3 := hd h2; have BB3 := hd (bel BB2.o h2); clear h1 h2)
    have UU : Hd (NV w3 v2 (Un * 10 ^ (i + 1))) := hd (by rw [Nat.pow_succ, ← Nat.mul_assoc]; exact U1.o.below B3.o)
    have OO : Hd (NV w3 v3 (Ov * 10 ^ (i + 1))) := hd (by rw [Nat.pow_succ, ← Nat.mul_assoc]; exact O1.o)
    have NN : Hd (NV w3 v1 (n * 10)) := hd ((N1.o.below B2.o).below B3.o)
    clear C1 C2 C3 N1 U1 O1 HN HU HO HB BB1 BB2 B1 B2 B3
    go_loopw [0, 16] (fun xn xc wr => ∃ (c m : Nat), xc = .int .u64 c ∧ c ≤ 10 ∧ Hd (m + c * D = n * 10) ∧ Hd (NV wr xn m) ∧ Hd (Below w3.heap.size w3 wr)) (fun xn xc wr => 10 - (intOf xc).toNat)
    case atStart => exact ⟨0, n * 10, rfl, by decide, hd (by simp), NN, hd (Below.refl _ _)⟩
    case round =>
      obtain ⟨wq, rfl⟩ : ∃ wq : World, wq = wr := ⟨_, rfl⟩
      obtain ⟨c, m, rfl, hc, HM, NM, HBq⟩ := hrel
      have HDq : Hd (NV wq vd D) := hd ((HDD.o.below BB3.o).below HBq.o)
      have HmK : Hd (FB.Lt (K + 2) m) := hd ((HnK.o.ten (i := 1) (by decide)).le (by have := HM.o; omega))
      have CC := hd (cmp_nv u0 vd m D wq (K + 2) NM.o HDq.o HmK.o (HD.o.up (by omega)) (by omega))
      by_cases hmD : D ≤ m
      · obtain ⟨p, hp, hp0⟩ : ∃ p, FB.cmp m D = p ∧ 0 ≤ p := ⟨_, rfl, by unfold FB.cmp; rw [if_neg (by omega)]; split <;> decide⟩
        rw [hp] at CC
        clear hp
        have hc10 : c < 10 := by
          have h1 := HM.o
          have h2 := HA.o.lt
          rcases Nat.lt_or_ge c 10 with q | q
          · exact q
          · have := Nat.mul_le_mul_right D q
            omega
        have HMD := hd hmD
        clear hmD
        go_wp2_with (go_at_call 135; with_reducible refine CC.o.mono ?_; rintro e w4 ⟨rfl, h4⟩; have B4 := hd h4; have CL := hd (less_nv u0 vd m D w4 (K + 2) (NM.o.below B4.o) (HDq.o.below B4.o) HmK.o (by omega) HMD.o); clear h4)
        go_wp2_with (go_at_call 136; with_reducible refine CL.o.mono ?_; rintro e w5 ⟨v5, rfl, h5, h6⟩; have N5 := hd h5; have B5 := hd (bel (bel HBq.o B4.o) h6); clear h5 h6)
        go_roundw
        case rel => exact ⟨c + 1, m - D, by go_num, by omega, hd (by have h1 := HM.o; have h2 := HMD.o; rw [Nat.add_mul, Nat.one_mul]; omega), N5, B5⟩
        case measure => simp [intOf]; omega
      · have hmD : m < D := by omega
        rw [FB.cmp_lt hmD] at CC
        have HMD := hd hmD
        clear hmD
        obtain ⟨S1, S2⟩ := HA.o.step (c := c) (by have := HM.o; omega) (by have h1 := HM.o; have h2 := HMD.o; rw [Nat.add_mul, Nat.one_mul]; omega)
        have em : n * 10 - c * D = m := by have := HM.o; omega
        rw [em] at S1 S2
        have SZ := HG.o.size S1 S2
        have HS1 := hd S1
        have HSZ := hd SZ
        have hc9 : c ≤ 9 := by
          have h1 := HM.o
          have h2 := HA.o.lt
          rcases Nat.lt_or_ge c 10 with q | q
          · omega
          · have := Nat.mul_le_mul_right D q
            omega
        have hd10 : d * 10 + c < 1000000000000000000 := Nat.lt_of_lt_of_le SZ.2 (Nat.pow_le_pow_right (by decide) (show i + 1 ≤ 18 by omega))
        clear S1 S2 em SZ
        go_wp2_with (go_at_call 135; with_reducible refine CC.o.mono ?_; rintro e w4 ⟨rfl, h4⟩; have B4 := hd (bel HBq.o h4); have CL := hd (less_nv vd u0 D m w4 K (HDq.o.below h4) (NM.o.below h4) HD.o (by omega) (Nat.le_of_lt HMD.o)); have NM4 := hd (NM.o.below h4); clear h4)
        go_wp2_with (go_at_call 136; with_reducible refine CL.o.mono ?_; rintro e w5 ⟨v5, rfl, h5, h6⟩; have R5 := hd h5; have B5 := hd (bel B4.o h6); have NM5 := hd (NM4.o.below h6); clear h5 h6)
        have UK := hd ((HUk.o.ten (i := i + 1) (by omega)))
        have OK := hd ((HOk.o.ten (i := i + 1) (by omega)))
        have C6 := hd (cmp_nv u0 v2 m _ w5 (K + 2) NM5.o (UU.o.below B5.o) HmK.o UK.o (by omega))
        obtain ⟨p1, hp1⟩ : ∃ p, FB.cmp m (Un * 10 ^ (i + 1)) = p := ⟨_, rfl⟩
        rw [hp1] at C6
        have HP1 := hd hp1
        clear hp1
        go_wp2_with (go_at_call 135; with_reducible refine C6.o.mono ?_; rintro e w6 ⟨rfl, h6⟩; have B6 := hd (bel B5.o h6); have NM6 := hd (NM5.o.below h6); have R6 := hd (R5.o.below h6); clear h6)
        have C7 := hd (cmp_nv v5 v3 (D - m) _ w6 (K + 2) R6.o (OO.o.below B6.o) ((HD.o.le (Nat.sub_le _ _)).up (by omega)) OK.o (by omega))
        obtain ⟨p2, hp2⟩ : ∃ p, FB.cmp (D - m) (Ov * 10 ^ (i + 1)) = p := ⟨_, rfl⟩
        rw [hp2] at C7
        have HP2 := hd hp2
        clear hp2
        obtain ⟨p3, hp3⟩ : ∃ p, FB.cmp m (D - m) = p := ⟨_, rfl⟩
        have HP3 := hd hp3
        clear hp3
        have LF := hd (HG.o.lf hκ hi hκ18 HA.o HS1.o HMD.o HP1.o HP2.o HP3.o)
        have hdp : 0 < d * 10 + c := Nat.lt_of_lt_of_le (Nat.pow_pos (by decide)) HSZ.o.1
        have TX1 := hd (fun W : World => text_any (d * 10 + c) W hdp (by omega))
        have TX2 := hd (fun W : World => text_any (d * 10 + c + 1) W (by omega) (by omega))
        generalize hdc : d * 10 + c = dd at LF TX1 TX2 HSZ hd10
        have hdi : (d : Int) * 10 + (c : Int) = (dd : Int) := by omega
        clear hdc hdp
        have HDD10 := hd hd10
        go_wp2_with (go_at_call 135; with_reducible refine C7.o.mono ?_; rintro e w7 ⟨rfl, h7⟩; have B7 := hd (bel B6.o h7); have NM7 := hd (NM6.o.below h7); have C8 := hd (cmp_nv u0 v5 m (D - m) w7 (K + 2) (NM6.o.below h7) (R6.o.below h7) HmK.o ((HD.o.le (Nat.sub_le _ _)).up (by omega)) (by omega)); clear h7; revert B7)
        intro B7
        rw [HP3.o] at C8
        rcases Int.lt_trichotomy p1 0 with r1 | r1 | r1
        · skip
          have r1b : (p1 == 0) = false := by rw [beq_eq_false_iff_ne]; omega
          rcases Int.lt_trichotomy p2 0 with r2 | r2 | r2
          · skip
            have r2b : (p2 == 0) = false := by rw [beq_eq_false_iff_ne]; omega
            rcases Int.lt_trichotomy p3 0 with r3 | r3 | r3
            · have r3b : (p3 == 0) = false := by rw [beq_eq_false_iff_ne]; omega
              have Q := hd (LF.o.dn (.inl r1) (.inr (.inl r3)))
              clear LF
              go_wp2_with (first | (go_at_call 135; refine C8.o.mono ?_; rintro e w8 ⟨rfl, h8⟩; have B8 := hd (bel B7.o h8); have NM8 := hd (NM7.o.below h8); clear h8) | (go_at_call 137; refine (TX1.o _).mono ?_; rintro e w9 ⟨rfl, h9⟩; have B9 := hd (bel B8.o h9); clear h9))
              go_ret2
              exact ⟨⟨_, Q.o⟩, bel BB3.o B9.o⟩
            · subst r3
              rcases Nat.mod_two_eq_zero_or_one dd with r4 | r4
              · have r4i : (dd : Int) % 2 = 0 := by omega
                have Q := hd (LF.o.dn (.inl r1) (.inr (.inr ⟨rfl, r4⟩)))
                clear LF
                go_wp2_with (first | (go_at_call 135; refine C8.o.mono ?_; rintro e w8 ⟨rfl, h8⟩; have B8 := hd (bel B7.o h8); have NM8 := hd (NM7.o.below h8); clear h8) | (go_at_call 137; refine (TX1.o _).mono ?_; rintro e w9 ⟨rfl, h9⟩; have B9 := hd (bel B8.o h9); clear h9))
                go_ret2
                exact ⟨⟨_, Q.o⟩, bel BB3.o B9.o⟩
              · have r4i : (dd : Int) % 2 = 1 := by omega
                rcases LF.o.up (.inl r2) (fun h => by rcases h.2 with h | h <;> omega) with ⟨q1, q2⟩ | ⟨q1, q2⟩
                · have Q := hd q2
                  clear LF q2
                  have hln : (Lib.decDigits (dd + 1)).length > i + 1 := by rw [Lib.decDigits_length]; exact q1
                  generalize hL : (Lib.decDigits (dd + 1)).length = ll at hln
                  go_wp2_with (first | (go_at_call 135; refine C8.o.mono ?_; rintro e w8 ⟨rfl, h8⟩; have B8 := hd (bel B7.o h8); have NM8 := hd (NM7.o.below h8); clear h8) | (go_at_call 137; refine (TX2.o _).mono ?_; rintro e w9 ⟨rfl, h9⟩; have B9 := hd (bel B8.o h9); clear h9))
                  go_ret2
                  exact ⟨⟨_, Q.o⟩, bel BB3.o B9.o⟩
                · have Q := hd q2
                  clear LF q2
                  have hln : (Lib.decDigits (dd + 1)).length = i + 1 := by rw [Lib.decDigits_length]; exact q1
                  generalize hL : (Lib.decDigits (dd + 1)).length = ll at hln
                  go_wp2_with (first | (go_at_call 135; refine C8.o.mono ?_; rintro e w8 ⟨rfl, h8⟩; have B8 := hd (bel B7.o h8); have NM8 := hd (NM7.o.below h8); clear h8) | (go_at_call 137; refine (TX2.o _).mono ?_; rintro e w9 ⟨rfl, h9⟩; have B9 := hd (bel B8.o h9); clear h9))
                  go_ret2
                  exact ⟨⟨_, Q.o⟩, bel BB3.o B9.o⟩
            · have r3b : (p3 == 0) = false := by rw [beq_eq_false_iff_ne]; omega
              have r3c : ¬ p3 < 0 := by omega
              rcases LF.o.up (.inl r2) (fun h => by rcases h.2 with h | h <;> omega) with ⟨q1, q2⟩ | ⟨q1, q2⟩
              · have Q := hd q2
                clear LF q2
                have hln : (Lib.decDigits (dd + 1)).length > i + 1 := by rw [Lib.decDigits_length]; exact q1
                generalize hL : (Lib.decDigits (dd + 1)).length = ll at hln
                go_wp2_with (first | (go_at_call 135; refine C8.o.mono ?_; rintro e w8 ⟨rfl, h8⟩; have B8 := hd (bel B7.o h8); have NM8 := hd (NM7.o.below h8); clear h8) | (go_at_call 137; refine (TX2.o _).mono ?_; rintro e w9 ⟨rfl, h9⟩; have B9 := hd (bel B8.o h9); clear h9))
                go_ret2
                exact ⟨⟨_, Q.o⟩, bel BB3.o B9.o⟩
              · have Q := hd q2
                clear LF q2
                have hln : (Lib.decDigits (dd + 1)).length = i + 1 := by rw [Lib.decDigits_length]; exact q1
                generalize hL : (Lib.decDigits (dd + 1)).length = ll at hln
                go_wp2_with (first | (go_at_call 135; refine C8.o.mono ?_; rintro e w8 ⟨rfl, h8⟩; have B8 := hd (bel B7.o h8); have NM8 := hd (NM7.o.below h8); clear h8) | (go_at_call 137; refine (TX2.o _).mono ?_; rintro e w9 ⟨rfl, h9⟩; have B9 := hd (bel B8.o h9); clear h9))
                go_ret2
                exact ⟨⟨_, Q.o⟩, bel BB3.o B9.o⟩
          · skip
            subst r2
            cases ev with
            | false =>
              have Q := hd (LF.o.dn (.inl r1) (.inl (fun h => by rcases h with h | h; (omega); (exact absurd h.2 (by decide)))))
              clear LF
              go_wp2_with (first | (go_at_call 135; refine C8.o.mono ?_; rintro e w8 ⟨rfl, h8⟩; have B8 := hd (bel B7.o h8); have NM8 := hd (NM7.o.below h8); clear h8) | (go_at_call 137; refine (TX1.o _).mono ?_; rintro e w9 ⟨rfl, h9⟩; have B9 := hd (bel B8.o h9); clear h9))
              go_ret2
              exact ⟨⟨_, Q.o⟩, bel BB3.o B9.o⟩
            | true =>
              rcases Int.lt_trichotomy p3 0 with r3 | r3 | r3
              · have r3b : (p3 == 0) = false := by rw [beq_eq_false_iff_ne]; omega
                have Q := hd (LF.o.dn (.inl r1) (.inr (.inl r3)))
                clear LF
                go_wp2_with (first | (go_at_call 135; refine C8.o.mono ?_; rintro e w8 ⟨rfl, h8⟩; have B8 := hd (bel B7.o h8); have NM8 := hd (NM7.o.below h8); clear h8) | (go_at_call 137; refine (TX1.o _).mono ?_; rintro e w9 ⟨rfl, h9⟩; have B9 := hd (bel B8.o h9); clear h9))
                go_ret2
                exact ⟨⟨_, Q.o⟩, bel BB3.o B9.o⟩
              · subst r3
                rcases Nat.mod_two_eq_zero_or_one dd with r4 | r4
                · have r4i : (dd : Int) % 2 = 0 := by omega
                  have Q := hd (LF.o.dn (.inl r1) (.inr (.inr ⟨rfl, r4⟩)))
                  clear LF
                  go_wp2_with (first | (go_at_call 135; refine C8.o.mono ?_; rintro e w8 ⟨rfl, h8⟩; have B8 := hd (bel B7.o h8); have NM8 := hd (NM7.o.below h8); clear h8) | (go_at_call 137; refine (TX1.o _).mono ?_; rintro e w9 ⟨rfl, h9⟩; have B9 := hd (bel B8.o h9); clear h9))
                  go_ret2
                  exact ⟨⟨_, Q.o⟩, bel BB3.o B9.o⟩
                · have r4i : (dd : Int) % 2 = 1 := by omega
                  rcases LF.o.up (.inr ⟨rfl, rfl⟩) (fun h => by rcases h.2 with h | h <;> omega) with ⟨q1, q2⟩ | ⟨q1, q2⟩
                  · have Q := hd q2
                    clear LF q2
                    have hln : (Lib.decDigits (dd + 1)).length > i + 1 := by rw [Lib.decDigits_length]; exact q1
                    generalize hL : (Lib.decDigits (dd + 1)).length = ll at hln
                    go_wp2_with (first | (go_at_call 135; refine C8.o.mono ?_; rintro e w8 ⟨rfl, h8⟩; have B8 := hd (bel B7.o h8); have NM8 := hd (NM7.o.below h8); clear h8) | (go_at_call 137; refine (TX2.o _).mono ?_; rintro e w9 ⟨rfl, h9⟩; have B9 := hd (bel B8.o h9); clear h9))
                    go_ret2
                    exact ⟨⟨_, Q.o⟩, bel BB3.o B9.o⟩
                  · have Q := hd q2
                    clear LF q2
                    have hln : (Lib.decDigits (dd + 1)).length = i + 1 := by rw [Lib.decDigits_length]; exact q1
                    generalize hL : (Lib.decDigits (dd + 1)).length = ll at hln
                    go_wp2_with (first | (go_at_call 135; refine C8.o.mono ?_; rintro e w8 ⟨rfl, h8⟩; have B8 := hd (bel B7.o h8); have NM8 := hd (NM7.o.below h8); clear h8) | (go_at_call 137; refine (TX2.o _).mono ?_; rintro e w9 ⟨rfl, h9⟩; have B9 := hd (bel B8.o h9); clear h9))
                    go_ret2
                    exact ⟨⟨_, Q.o⟩, bel BB3.o B9.o⟩
              · have r3b : (p3 == 0) = false := by rw [beq_eq_false_iff_ne]; omega
                have r3c : ¬ p3 < 0 := by omega
                rcases LF.o.up (.inr ⟨rfl, rfl⟩) (fun h => by rcases h.2 with h | h <;> omega) with ⟨q1, q2⟩ | ⟨q1, q2⟩
                · have Q := hd q2
                  clear LF q2
                  have hln : (Lib.decDigits (dd + 1)).length > i + 1 := by rw [Lib.decDigits_length]; exact q1
                  generalize hL : (Lib.decDigits (dd + 1)).length = ll at hln
                  go_wp2_with (first | (go_at_call 135; refine C8.o.mono ?_; rintro e w8 ⟨rfl, h8⟩; have B8 := hd (bel B7.o h8); have NM8 := hd (NM7.o.below h8); clear h8) | (go_at_call 137; refine (TX2.o _).mono ?_; rintro e w9 ⟨rfl, h9⟩; have B9 := hd (bel B8.o h9); clear h9))
                  go_ret2
                  exact ⟨⟨_, Q.o⟩, bel BB3.o B9.o⟩
                · have Q := hd q2
                  clear LF q2
                  have hln : (Lib.decDigits (dd + 1)).length = i + 1 := by rw [Lib.decDigits_length]; exact q1
                  generalize hL : (Lib.decDigits (dd + 1)).length = ll at hln
                  go_wp2_with (first | (go_at_call 135; refine C8.o.mono ?_; rintro e w8 ⟨rfl, h8⟩; have B8 := hd (bel B7.o h8); have NM8 := hd (NM7.o.below h8); clear h8) | (go_at_call 137; refine (TX2.o _).mono ?_; rintro e w9 ⟨rfl, h9⟩; have B9 := hd (bel B8.o h9); clear h9))
                  go_ret2
                  exact ⟨⟨_, Q.o⟩, bel BB3.o B9.o⟩
          · skip
            have r2b : (p2 == 0) = false := by rw [beq_eq_false_iff_ne]; omega
            have r2c : ¬ p2 < 0 := by omega
            have Q := hd (LF.o.dn (.inl r1) (.inl (fun h => by rcases h with h | h <;> omega)))
            clear LF
            go_wp2_with (first | (go_at_call 135; refine C8.o.mono ?_; rintro e w8 ⟨rfl, h8⟩; have B8 := hd (bel B7.o h8); have NM8 := hd (NM7.o.below h8); clear h8) | (go_at_call 137; refine (TX1.o _).mono ?_; rintro e w9 ⟨rfl, h9⟩; have B9 := hd (bel B8.o h9); clear h9))
            go_ret2
            exact ⟨⟨_, Q.o⟩, bel BB3.o B9.o⟩
        · skip
          subst r1
          rcases Int.lt_trichotomy p2 0 with r2 | r2 | r2
          · skip
            have r2b : (p2 == 0) = false := by rw [beq_eq_false_iff_ne]; omega
            cases ev with
            | false =>
              rcases LF.o.up (.inl r2) (fun h => (fun h => by rcases h with h | h; (omega); (exact absurd h.2 (by decide))) h.1) with ⟨q1, q2⟩ | ⟨q1, q2⟩
              · have Q := hd q2
                clear LF q2
                have hln : (Lib.decDigits (dd + 1)).length > i + 1 := by rw [Lib.decDigits_length]; exact q1
                generalize hL : (Lib.decDigits (dd + 1)).length = ll at hln
                go_wp2_with (first | (go_at_call 135; refine C8.o.mono ?_; rintro e w8 ⟨rfl, h8⟩; have B8 := hd (bel B7.o h8); have NM8 := hd (NM7.o.below h8); clear h8) | (go_at_call 137; refine (TX2.o _).mono ?_; rintro e w9 ⟨rfl, h9⟩; have B9 := hd (bel B8.o h9); clear h9))
                go_ret2
                exact ⟨⟨_, Q.o⟩, bel BB3.o B9.o⟩
              · have Q := hd q2
                clear LF q2
                have hln : (Lib.decDigits (dd + 1)).length = i + 1 := by rw [Lib.decDigits_length]; exact q1
                generalize hL : (Lib.decDigits (dd + 1)).length = ll at hln
                go_wp2_with (first | (go_at_call 135; refine C8.o.mono ?_; rintro e w8 ⟨rfl, h8⟩; have B8 := hd (bel B7.o h8); have NM8 := hd (NM7.o.below h8); clear h8) | (go_at_call 137; refine (TX2.o _).mono ?_; rintro e w9 ⟨rfl, h9⟩; have B9 := hd (bel B8.o h9); clear h9))
                go_ret2
                exact ⟨⟨_, Q.o⟩, bel BB3.o B9.o⟩
            | true =>
              rcases Int.lt_trichotomy p3 0 with r3 | r3 | r3
              · have r3b : (p3 == 0) = false := by rw [beq_eq_false_iff_ne]; omega
                have Q := hd (LF.o.dn (.inr ⟨rfl, rfl⟩) (.inr (.inl r3)))
                clear LF
                go_wp2_with (first | (go_at_call 135; refine C8.o.mono ?_; rintro e w8 ⟨rfl, h8⟩; have B8 := hd (bel B7.o h8); have NM8 := hd (NM7.o.below h8); clear h8) | (go_at_call 137; refine (TX1.o _).mono ?_; rintro e w9 ⟨rfl, h9⟩; have B9 := hd (bel B8.o h9); clear h9))
                go_ret2
                exact ⟨⟨_, Q.o⟩, bel BB3.o B9.o⟩
              · subst r3
                rcases Nat.mod_two_eq_zero_or_one dd with r4 | r4
                · have r4i : (dd : Int) % 2 = 0 := by omega
                  have Q := hd (LF.o.dn (.inr ⟨rfl, rfl⟩) (.inr (.inr ⟨rfl, r4⟩)))
                  clear LF
                  go_wp2_with (first | (go_at_call 135; refine C8.o.mono ?_; rintro e w8 ⟨rfl, h8⟩; have B8 := hd (bel B7.o h8); have NM8 := hd (NM7.o.below h8); clear h8) | (go_at_call 137; refine (TX1.o _).mono ?_; rintro e w9 ⟨rfl, h9⟩; have B9 := hd (bel B8.o h9); clear h9))
                  go_ret2
                  exact ⟨⟨_, Q.o⟩, bel BB3.o B9.o⟩
                · have r4i : (dd : Int) % 2 = 1 := by omega
                  rcases LF.o.up (.inl r2) (fun h => by rcases h.2 with h | h <;> omega) with ⟨q1, q2⟩ | ⟨q1, q2⟩
                  · have Q := hd q2
                    clear LF q2
                    have hln : (Lib.decDigits (dd + 1)).length > i + 1 := by rw [Lib.decDigits_length]; exact q1
                    generalize hL : (Lib.decDigits (dd + 1)).length = ll at hln
                    go_wp2_with (first | (go_at_call 135; refine C8.o.mono ?_; rintro e w8 ⟨rfl, h8⟩; have B8 := hd (bel B7.o h8); have NM8 := hd (NM7.o.below h8); clear h8) | (go_at_call 137; refine (TX2.o _).mono ?_; rintro e w9 ⟨rfl, h9⟩; have B9 := hd (bel B8.o h9); clear h9))
                    go_ret2
                    exact ⟨⟨_, Q.o⟩, bel BB3.o B9.o⟩
                  · have Q := hd q2
                    clear LF q2
                    have hln : (Lib.decDigits (dd + 1)).length = i + 1 := by rw [Lib.decDigits_length]; exact q1
                    generalize hL : (Lib.decDigits (dd + 1)).length = ll at hln
                    go_wp2_with (first | (go_at_call 135; refine C8.o.mono ?_; rintro e w8 ⟨rfl, h8⟩; have B8 := hd (bel B7.o h8); have NM8 := hd (NM7.o.below h8); clear h8) | (go_at_call 137; refine (TX2.o _).mono ?_; rintro e w9 ⟨rfl, h9⟩; have B9 := hd (bel B8.o h9); clear h9))
                    go_ret2
                    exact ⟨⟨_, Q.o⟩, bel BB3.o B9.o⟩
              · have r3b : (p3 == 0) = false := by rw [beq_eq_false_iff_ne]; omega
                have r3c : ¬ p3 < 0 := by omega
                rcases LF.o.up (.inl r2) (fun h => by rcases h.2 with h | h <;> omega) with ⟨q1, q2⟩ | ⟨q1, q2⟩
                · have Q := hd q2
                  clear LF q2
                  have hln : (Lib.decDigits (dd + 1)).length > i + 1 := by rw [Lib.decDigits_length]; exact q1
                  generalize hL : (Lib.decDigits (dd + 1)).length = ll at hln
                  go_wp2_with (first | (go_at_call 135; refine C8.o.mono ?_; rintro e w8 ⟨rfl, h8⟩; have B8 := hd (bel B7.o h8); have NM8 := hd (NM7.o.below h8); clear h8) | (go_at_call 137; refine (TX2.o _).mono ?_; rintro e w9 ⟨rfl, h9⟩; have B9 := hd (bel B8.o h9); clear h9))
                  go_ret2
                  exact ⟨⟨_, Q.o⟩, bel BB3.o B9.o⟩
                · have Q := hd q2
                  clear LF q2
                  have hln : (Lib.decDigits (dd + 1)).length = i + 1 := by rw [Lib.decDigits_length]; exact q1
                  generalize hL : (Lib.decDigits (dd + 1)).length = ll at hln
                  go_wp2_with (first | (go_at_call 135; refine C8.o.mono ?_; rintro e w8 ⟨rfl, h8⟩; have B8 := hd (bel B7.o h8); have NM8 := hd (NM7.o.below h8); clear h8) | (go_at_call 137; refine (TX2.o _).mono ?_; rintro e w9 ⟨rfl, h9⟩; have B9 := hd (bel B8.o h9); clear h9))
                  go_ret2
                  exact ⟨⟨_, Q.o⟩, bel BB3.o B9.o⟩
          · skip
            subst r2
            cases ev with
            | false =>
              obtain ⟨q1, q2⟩ := LF.o.no (fun h => by rcases h with h | h; (omega); (exact absurd h.2 (by decide))) (fun h => by rcases h with h | h; (omega); (exact absurd h.2 (by decide)))
              have Q := hd q1
              clear LF q1
              go_wp2_with (go_at_call 135; refine C8.o.mono ?_; rintro e w8 ⟨rfl, h8⟩; have B8 := hd (bel B7.o h8); have NM8 := hd (NM7.o.below h8); clear h8)
              go_roundw
              case rel => exact ⟨i + 1, dd, m, by go_num, by go_num, q2, hd10, hd HSZ.o.2, Q, NM8, hd (UU.o.below B8.o), hd (OO.o.below B8.o), hd (bel BB3.o B8.o)⟩
              case measure => simp [intOf]; omega
            | true =>
              rcases Int.lt_trichotomy p3 0 with r3 | r3 | r3
              · have r3b : (p3 == 0) = false := by rw [beq_eq_false_iff_ne]; omega
                have Q := hd (LF.o.dn (.inr ⟨rfl, rfl⟩) (.inr (.inl r3)))
                clear LF
                go_wp2_with (first | (go_at_call 135; refine C8.o.mono ?_; rintro e w8 ⟨rfl, h8⟩; have B8 := hd (bel B7.o h8); have NM8 := hd (NM7.o.below h8); clear h8) | (go_at_call 137; refine (TX1.o _).mono ?_; rintro e w9 ⟨rfl, h9⟩; have B9 := hd (bel B8.o h9); clear h9))
                go_ret2
                exact ⟨⟨_, Q.o⟩, bel BB3.o B9.o⟩
              · subst r3
                rcases Nat.mod_two_eq_zero_or_one dd with r4 | r4
                · have r4i : (dd : Int) % 2 = 0 := by omega
                  have Q := hd (LF.o.dn (.inr ⟨rfl, rfl⟩) (.inr (.inr ⟨rfl, r4⟩)))
                  clear LF
                  go_wp2_with (first | (go_at_call 135; refine C8.o.mono ?_; rintro e w8 ⟨rfl, h8⟩; have B8 := hd (bel B7.o h8); have NM8 := hd (NM7.o.below h8); clear h8) | (go_at_call 137; refine (TX1.o _).mono ?_; rintro e w9 ⟨rfl, h9⟩; have B9 := hd (bel B8.o h9); clear h9))
                  go_ret2
                  exact ⟨⟨_, Q.o⟩, bel BB3.o B9.o⟩
                · have r4i : (dd : Int) % 2 = 1 := by omega
                  rcases LF.o.up (.inr ⟨rfl, rfl⟩) (fun h => by rcases h.2 with h | h <;> omega) with ⟨q1, q2⟩ | ⟨q1, q2⟩
                  · have Q := hd q2
                    clear LF q2
                    have hln : (Lib.decDigits (dd + 1)).length > i + 1 := by rw [Lib.decDigits_length]; exact q1
                    generalize hL : (Lib.decDigits (dd + 1)).length = ll at hln
                    go_wp2_with (first | (go_at_call 135; refine C8.o.mono ?_; rintro e w8 ⟨rfl, h8⟩; have B8 := hd (bel B7.o h8); have NM8 := hd (NM7.o.below h8); clear h8) | (go_at_call 137; refine (TX2.o _).mono ?_; rintro e w9 ⟨rfl, h9⟩; have B9 := hd (bel B8.o h9); clear h9))
                    go_ret2
                    exact ⟨⟨_, Q.o⟩, bel BB3.o B9.o⟩
                  · have Q := hd q2
                    clear LF q2
                    have hln : (Lib.decDigits (dd + 1)).length = i + 1 := by rw [Lib.decDigits_length]; exact q1
                    generalize hL : (Lib.decDigits (dd + 1)).length = ll at hln
                    go_wp2_with (first | (go_at_call 135; refine C8.o.mono ?_; rintro e w8 ⟨rfl, h8⟩; have B8 := hd (bel B7.o h8); have NM8 := hd (NM7.o.below h8); clear h8) | (go_at_call 137; refine (TX2.o _).mono ?_; rintro e w9 ⟨rfl, h9⟩; have B9 := hd (bel B8.o h9); clear h9))
                    go_ret2
                    exact ⟨⟨_, Q.o⟩, bel BB3.o B9.o⟩
              · have r3b : (p3 == 0) = false := by rw [beq_eq_false_iff_ne]; omega
                have r3c : ¬ p3 < 0 := by omega
                rcases LF.o.up (.inr ⟨rfl, rfl⟩) (fun h => by rcases h.2 with h | h <;> omega) with ⟨q1, q2⟩ | ⟨q1, q2⟩
                · have Q := hd q2
                  clear LF q2
                  have hln : (Lib.decDigits (dd + 1)).length > i + 1 := by rw [Lib.decDigits_length]; exact q1
                  generalize hL : (Lib.decDigits (dd + 1)).length = ll at hln
                  go_wp2_with (first | (go_at_call 135; refine C8.o.mono ?_; rintro e w8 ⟨rfl, h8⟩; have B8 := hd (bel B7.o h8); have NM8 := hd (NM7.o.below h8); clear h8) | (go_at_call 137; refine (TX2.o _).mono ?_; rintro e w9 ⟨rfl, h9⟩; have B9 := hd (bel B8.o h9); clear h9))
                  go_ret2
                  exact ⟨⟨_, Q.o⟩, bel BB3.o B9.o⟩
                · have Q := hd q2
                  clear LF q2
                  have hln : (Lib.decDigits (dd + 1)).length = i + 1 := by rw [Lib.decDigits_length]; exact q1
                  generalize hL : (Lib.decDigits (dd + 1)).length = ll at hln
                  go_wp2_with (first | (go_at_call 135; refine C8.o.mono ?_; rintro e w8 ⟨rfl, h8⟩; have B8 := hd (bel B7.o h8); have NM8 := hd (NM7.o.below h8); clear h8) | (go_at_call 137; refine (TX2.o _).mono ?_; rintro e w9 ⟨rfl, h9⟩; have B9 := hd (bel B8.o h9); clear h9))
                  go_ret2
                  exact ⟨⟨_, Q.o⟩, bel BB3.o B9.o⟩
          · skip
            have r2b : (p2 == 0) = false := by rw [beq_eq_false_iff_ne]; omega
            have r2c : ¬ p2 < 0 := by omega
            cases ev with
            | false =>
              obtain ⟨q1, q2⟩ := LF.o.no (fun h => by rcases h with h | h; (omega); (exact absurd h.2 (by decide))) (fun h => by rcases h with h | h <;> omega)
              have Q := hd q1
              clear LF q1
              go_wp2_with (go_at_call 135; refine C8.o.mono ?_; rintro e w8 ⟨rfl, h8⟩; have B8 := hd (bel B7.o h8); have NM8 := hd (NM7.o.below h8); clear h8)
              go_roundw
              case rel => exact ⟨i + 1, dd, m, by go_num, by go_num, q2, hd10, hd HSZ.o.2, Q, NM8, hd (UU.o.below B8.o), hd (OO.o.below B8.o), hd (bel BB3.o B8.o)⟩
              case measure => simp [intOf]; omega
            | true =>
              have Q := hd (LF.o.dn (.inr ⟨rfl, rfl⟩) (.inl (fun h => by rcases h with h | h <;> omega)))
              clear LF
              go_wp2_with (first | (go_at_call 135; refine C8.o.mono ?_; rintro e w8 ⟨rfl, h8⟩; have B8 := hd (bel B7.o h8); have NM8 := hd (NM7.o.below h8); clear h8) | (go_at_call 137; refine (TX1.o _).mono ?_; rintro e w9 ⟨rfl, h9⟩; have B9 := hd (bel B8.o h9); clear h9))
              go_ret2
              exact ⟨⟨_, Q.o⟩, bel BB3.o B9.o⟩
        · skip
          have r1b : (p1 == 0) = false := by rw [beq_eq_false_iff_ne]; omega
          have r1c : ¬ p1 < 0 := by omega
          rcases Int.lt_trichotomy p2 0 with r2 | r2 | r2
          · skip
            have r2b : (p2 == 0) = false := by rw [beq_eq_false_iff_ne]; omega
            rcases LF.o.up (.inl r2) (fun h => (fun h => by rcases h with h | h <;> omega) h.1) with ⟨q1, q2⟩ | ⟨q1, q2⟩
            · have Q := hd q2
              clear LF q2
              have hln : (Lib.decDigits (dd + 1)).length > i + 1 := by rw [Lib.decDigits_length]; exact q1
              generalize hL : (Lib.decDigits (dd + 1)).length = ll at hln
              go_wp2_with (first | (go_at_call 135; refine C8.o.mono ?_; rintro e w8 ⟨rfl, h8⟩; have B8 := hd (bel B7.o h8); have NM8 := hd (NM7.o.below h8); clear h8) | (go_at_call 137; refine (TX2.o _).mono ?_; rintro e w9 ⟨rfl, h9⟩; have B9 := hd (bel B8.o h9); clear h9))
              go_ret2
              exact ⟨⟨_, Q.o⟩, bel BB3.o B9.o⟩
            · have Q := hd q2
              clear LF q2
              have hln : (Lib.decDigits (dd + 1)).length = i + 1 := by rw [Lib.decDigits_length]; exact q1
              generalize hL : (Lib.decDigits (dd + 1)).length = ll at hln
              go_wp2_with (first | (go_at_call 135; refine C8.o.mono ?_; rintro e w8 ⟨rfl, h8⟩; have B8 := hd (bel B7.o h8); have NM8 := hd (NM7.o.below h8); clear h8) | (go_at_call 137; refine (TX2.o _).mono ?_; rintro e w9 ⟨rfl, h9⟩; have B9 := hd (bel B8.o h9); clear h9))
              go_ret2
              exact ⟨⟨_, Q.o⟩, bel BB3.o B9.o⟩
          · skip
            subst r2
            cases ev with
            | false =>
              obtain ⟨q1, q2⟩ := LF.o.no (fun h => by rcases h with h | h <;> omega) (fun h => by rcases h with h | h; (omega); (exact absurd h.2 (by decide)))
              have Q := hd q1
              clear LF q1
              go_wp2_with (go_at_call 135; refine C8.o.mono ?_; rintro e w8 ⟨rfl, h8⟩; have B8 := hd (bel B7.o h8); have NM8 := hd (NM7.o.below h8); clear h8)
              go_roundw
              case rel => exact ⟨i + 1, dd, m, by go_num, by go_num, q2, hd10, hd HSZ.o.2, Q, NM8, hd (UU.o.below B8.o), hd (OO.o.below B8.o), hd (bel BB3.o B8.o)⟩
              case measure => simp [intOf]; omega
            | true =>
              rcases LF.o.up (.inr ⟨rfl, rfl⟩) (fun h => (fun h => by rcases h with h | h <;> omega) h.1) with ⟨q1, q2⟩ | ⟨q1, q2⟩
              · have Q := hd q2
                clear LF q2
                have hln : (Lib.decDigits (dd + 1)).length > i + 1 := by rw [Lib.decDigits_length]; exact q1
                generalize hL : (Lib.decDigits (dd + 1)).length = ll at hln
                go_wp2_with (first | (go_at_call 135; refine C8.o.mono ?_; rintro e w8 ⟨rfl, h8⟩; have B8 := hd (bel B7.o h8); have NM8 := hd (NM7.o.below h8); clear h8) | (go_at_call 137; refine (TX2.o _).mono ?_; rintro e w9 ⟨rfl, h9⟩; have B9 := hd (bel B8.o h9); clear h9))
                go_ret2
                exact ⟨⟨_, Q.o⟩, bel BB3.o B9.o⟩
              · have Q := hd q2
                clear LF q2
                have hln : (Lib.decDigits (dd + 1)).length = i + 1 := by rw [Lib.decDigits_length]; exact q1
                generalize hL : (Lib.decDigits (dd + 1)).length = ll at hln
                go_wp2_with (first | (go_at_call 135; refine C8.o.mono ?_; rintro e w8 ⟨rfl, h8⟩; have B8 := hd (bel B7.o h8); have NM8 := hd (NM7.o.below h8); clear h8) | (go_at_call 137; refine (TX2.o _).mono ?_; rintro e w9 ⟨rfl, h9⟩; have B9 := hd (bel B8.o h9); clear h9))
                go_ret2
                exact ⟨⟨_, Q.o⟩, bel BB3.o B9.o⟩
          · skip
            have r2b : (p2 == 0) = false := by rw [beq_eq_false_iff_ne]; omega
            have r2c : ¬ p2 < 0 := by omega
            obtain ⟨q1, q2⟩ := LF.o.no (fun h => by rcases h with h | h <;> omega) (fun h => by rcases h with h | h <;> omega)
            have Q := hd q1
            clear LF q1
            go_wp2_with (go_at_call 135; refine C8.o.mono ?_; rintro e w8 ⟨rfl, h8⟩; have B8 := hd (bel B7.o h8); have NM8 := hd (NM7.o.below h8); clear h8)
            go_roundw
            case rel => exact ⟨i + 1, dd, m, by go_num, by go_num, q2, hd10, hd HSZ.o.2, Q, NM8, hd (UU.o.below B8.o), hd (OO.o.below B8.o), hd (bel BB3.o B8.o)⟩
            case measure => simp [intOf]; omega
end Go.Proofs.YtibmgmgdbicdlaaGreatDoor
