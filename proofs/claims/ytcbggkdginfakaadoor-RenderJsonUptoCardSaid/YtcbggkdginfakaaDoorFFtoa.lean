/- internal/strconv.ftoa64 at 'f', shortest: a float that is neither nought nor infinite. -/
import Derived.Test.YtcbggkdginfakaaDoorFBits
import Derived.BigQuiet
import Derived.Deep.RegionLaw
namespace Go.Proofs.YtcbggkdginfakaaDoor
open Go.RowKit
set_option linter.unusedVariables false
set_option linter.unusedSimpArgs false
/-- the digits D with the point k places behind their beginning -/
def plainT (D : List UInt8) (k : Int) : List UInt8 :=
  if k ≤ 0 then [48, 46] ++ List.replicate (-k).toNat 48 ++ D else if k < D.length then D.take k.toNat ++ [46] ++ D.drop k.toNat else D ++ List.replicate (k.toNat - D.length) 48
theorem strip10 : ∀ d : Nat, 1 ≤ d → ∃ e j, d = e * 10 ^ j ∧ e % 10 ≠ 0 := by
  intro d
  induction d using Nat.strongRecOn with
  | _ d ih =>
    intro h
    by_cases c : d % 10 = 0
    · obtain ⟨e, j, h1, h2⟩ := ih (d / 10) (by omega) (by omega)
      refine ⟨e, j + 1, ?_, h2⟩
      rw [Nat.pow_succ, ← Nat.mul_assoc, ← h1]
      omega
    · exact ⟨d, 0, by simp, c⟩
theorem fineD_bd {ev : Bool} {L U V t a b r : Nat} (F : FS.Fine ev L U V t a b r) : 1 ≤ FS.fineD a b r ∧ FS.fineD a b r ≤ b := by
  have h1 := F.ab
  have h2 := F.a0
  unfold FS.fineD
  split
  · omega
  · split
    · rename_i h; have := F.r_in h; omega
    · omega
/-- fmtEFG, whatever the point's place -/
theorem efg_any (w0 w : World) (B G : Nat) (L : List Value) (v : Value) (D : List UInt8) (neg : Bool) (k : Int) (hk0 : -400 ≤ k) (hk1 : k ≤ 400) (hO : Fo w0 B G L v [] w) (hD : 1 ≤ D.length) (hD2 : D.length ≤ 20)
    (hL : ∀ i (h : i < D.length), w.cell? ⟨G, i, none⟩ = some (.int .u8 ((D[i]'h).toNat : Int))) (pr : Int) (hp : pr = max ((D.length : Int) - k) 0) :
    Calls Tryd.prog 68 #[v, .bool neg, .slice (some ⟨G, 0, none⟩) 32 32, .int .i64 k, .int .i64 D.length, .int .i64 pr, .int .u8 102, .bool true] w fun e w' =>
      ∃ v', e = .returned v' ∧ Fo w0 B G L v' (sgn neg ++ plainT D k) w' := by
  by_cases c1 : k ≤ 0
  · obtain ⟨q, rfl⟩ : ∃ q : Nat, k = -(q : Int) := ⟨(-k).toNat, by omega⟩
    obtain rfl : pr = ((D.length + q : Nat) : Int) := by omega
    have e : plainT D (-(q : Int)) = [48, 46] ++ List.replicate q 48 ++ D := by
      unfold plainT; rw [if_pos c1]; simp
    rw [e]
    cases neg with
    | false => exact (efg1p w0 w B G L v D q (by omega) hO hD hD2 hL).mono fun _ _ ⟨v', h1, h2⟩ => ⟨v', h1, by simpa using h2⟩
    | true => exact (efg1n w0 w B G L v D q (by omega) hO hD hD2 hL).mono fun _ _ ⟨v', h1, h2⟩ => ⟨v', h1, by simpa using h2⟩
  · by_cases c2 : k < D.length
    · obtain ⟨q, rfl⟩ : ∃ q : Nat, k = (q : Int) := ⟨k.toNat, by omega⟩
      obtain rfl : pr = ((D.length - q : Nat) : Int) := by omega
      have e : plainT D (q : Int) = D.take q ++ [46] ++ D.drop q := by
        unfold plainT; rw [if_neg c1, if_pos c2]; simp
      rw [e]
      cases neg with
      | false => exact (efg2p w0 w B G L v D q (by omega) (by omega) hO hD hD2 hL).mono fun _ _ ⟨v', h1, h2⟩ => ⟨v', h1, by simpa using h2⟩
      | true => exact (efg2n w0 w B G L v D q (by omega) (by omega) hO hD hD2 hL).mono fun _ _ ⟨v', h1, h2⟩ => ⟨v', h1, by simpa using h2⟩
    · obtain ⟨q, rfl⟩ : ∃ q : Nat, k = ((D.length + q : Nat) : Int) := ⟨k.toNat - D.length, by omega⟩
      obtain rfl : pr = 0 := by omega
      have e : plainT D ((D.length + q : Nat) : Int) = D ++ List.replicate q 48 := by
        unfold plainT; rw [if_neg c1, if_neg c2, show ((D.length + q : Nat) : Int).toNat - D.length = q by omega]
      rw [e]
      cases neg with
      | false => exact (efg3p w0 w B G L v D q (by omega) hO hD hD2 hL).mono fun _ _ ⟨v', h1, h2⟩ => ⟨v', h1, by simpa using h2⟩
      | true => exact (efg3n w0 w B G L v D q (by omega) hO hD hD2 hL).mono fun _ _ ⟨v', h1, h2⟩ => ⟨v', h1, by simpa using h2⟩
def zeros32 : List Value := List.replicate 32 (.int .u8 0)
set_option maxRecDepth 100000 in
set_option maxHeartbeats 4000000 in
theorem ftoa_nrm (f x mt m z : Nat) (hf : f < 18446744073709551616) (e0 : Int) (sk neg : Bool) (w : World) (hT : Tbl w) (B : Nat) (v : Value) (hO : w.ownsRow B 5 1 v 0 []) (hB : B ≤ w.heap.size) (hneg : ((f : Int) / 9223372036854775808 != 0) = neg)
    (a1 : bits .and .i64 ((f : Int) / 4503599627370496) 2047 = (x : Int)) (a2 : bits .and .u64 (f : Int) 4503599627370495 = (mt : Int)) (a3 : bits .or .u64 (mt : Int) 4503599627370496 = (m : Int))
    (x1 : ((x : Int) == 0) = false) (x2 : ((x : Int) == 2047) = false) (x3 : x ≤ 2046) (m1 : ((m : Int) == 0) = false) (hm : m < 9007199254740992) (F : FS.Flt e0 m z sk) (hz : z = 11 ∨ e0 = -1074) (hsk : sk = true ↔ m * 2 ^ z = 9223372036854775808 ∧ z = 11 ∧ e0 ≠ -1074)
    (hbl : (Lib.bitLen m : Int) + z = 64) (he : (x : Int) - 1075 = e0) :
    Calls Tryd.prog 58 #[v, .float .f64 f, .int .u8 102, .int .i64 (-1)] w fun e w' =>
      ∃ v' d t, e = .returned v' ∧ FS.Best (m % 2 == 0) (FS.Lo e0 m z sk) (FS.Hi e0 m z) (FS.Va e0 m z) d t ∧ d % 10 ≠ 0 ∧ w'.ownsRow B 5 1 v' (sgn neg ++ plainT (Lib.decDigits d) ((Lib.nDigits d : Int) + t - 400)).length (cellsB (sgn neg ++ plainT (Lib.decDigits d) ((Lib.nDigits d : Int) + t - 400))) ∧ Below B w w' := by
  have q1 := bits_run f
  have HO := hd hO
  have HLEN := hd (fun W => Any.bits_Len64 Tryd.laysN129 m W (by omega) (by omega))
  have HSH := hd (fun W (hb : Below w.heap.size w W) => short_any F hz hsk W (hT.below hb))
  have HND := hd (fun (u : Nat) (h1 : 1 ≤ u) (h2 : u < 18446744073709551616) W (hb : Below w.heap.size w W) => numDigits_any u h1 h2 W (hT.below hb))
  have HF := hd F
  obtain ⟨M, hM⟩ : ∃ M, M = m * 2 ^ z := ⟨_, rfl⟩
  have hMlt : M < 18446744073709551616 := by have := F.hi; omega
  have s1 : 64 - (Lib.bitLen m : Int) = (z : Int) := by omega
  have s2 : IntKind.u64.wrap ((m : Int) * 2 ^ z) = (M : Int) := by
    rw [show ((m : Int) * 2 ^ z) = ((m * 2 ^ z : Nat) : Int) by push_cast; rfl, ← hM, IntKind.wrap_u64]; omega
  have hz2 : z ≤ 63 := F.z2
  have hz3 : 11 ≤ z := F.z1
  rw [Int.toNat_natCast] at HLEN
  rw [← hM] at HSH
  generalize Lib.bitLen m = bl at *
  obtain ⟨ee, hee⟩ : ∃ ee : Int, ee = e0 - z := ⟨_, rfl⟩
  have s3 : (x : Int) + -1023 - (z : Int) - 52 = ee := by omega
  have hx0 : (0 : Int) ≤ (x : Int) := by omega
  rw [← hee] at HSH
  have hxx : (x : Int) ≤ 2046 := by omega
  clear hO hT F hM hbl he hee hz hsk hm
  go_enter Tryd.func58, Tryd.ntmps58
  go_wp2
  go_quiet (fail)
  go_wp2_with (go_at_call 60; refine (HLEN.o _).mono ?_; rintro e w' ⟨rfl, rfl⟩)
  refine (HSH.o _ ((bel_drew (Below.refl _ _) nq).alloc (Nat.le_refl _) _)).mono ?_
  rintro e w2 ⟨hb2, a, b, r, hF2, hbb, ht1, ht2, rfl⟩
  have HBK := hd (show Bk w2 w.heap.size 110 zeros32 from Bk.below (heap_alloc_new (w.drewN nq) _) hb2)
  have HB2 := hd (show Below w.heap.size w w2 from bel ((bel_drew (Below.refl _ _) nq).alloc (Nat.le_refl _) _) hb2)
  obtain ⟨G, hG⟩ : ∃ G, G = w.heap.size := ⟨_, rfl⟩
  have HGB := hd (show B ≤ G ∧ G = w.heap.size from ⟨by omega, hG⟩)
  rw [← hG] at HBK ⊢
  obtain ⟨u1, u2⟩ := fineD_bd hF2
  obtain ⟨d, j, hdj, h10⟩ := strip10 _ u1
  have HBEST := hd (hF2.best hdj h10)
  have ht0 : FS.fineT a b (400 - FS.pOf e0 sk).toNat = (400 - FS.pOf e0 sk).toNat + 1 ∨ FS.fineT a b (400 - FS.pOf e0 sk).toNat = (400 - FS.pOf e0 sk).toNat := by unfold FS.fineT; split <;> simp
  have hud : d * 10 ^ j < 18446744073709551616 := by rw [← hdj]; omega
  have hd1 : 1 ≤ d := by omega
  have hu1 : 1 ≤ d * 10 ^ j := Nat.mul_pos hd1 (Nat.pow_pos (by decide))
  rw [hdj]
  generalize FS.fineT a b (400 - FS.pOf e0 sk).toNat = t0 at *
  obtain ⟨E, hE⟩ : ∃ E : Int, E = (t0 : Int) - 400 := ⟨_, rfl⟩
  have hE1 : -347 ≤ E ∧ E ≤ 349 := by omega
  have HE := hd hE
  rw [← hE]
  have HLN := hd (Lib.decDigits_length d)
  have hn20 := Lib.nDigits_le20 _ hud
  have hn1 := Lib.nDigits_pos d
  have hnj := (dec_tens d hd1 j).2
  obtain ⟨kk, hkk⟩ : ∃ kk : Int, ((Lib.nDigits d + j : Nat) : Int) + E = kk := ⟨_, rfl⟩
  have hkb : -400 ≤ kk ∧ kk ≤ 400 := by omega
  have HSD := hd (fun W (hb : Below w2.heap.size w2 W) => by
    have h := setDigits_any G d j E W 110 zeros32 (HBK.o.below hb) (fun k hk => by
      have hk32 : k < zeros32.length := by show k < 32; omega
      refine ⟨by rw [(HBK.o.below hb).cell k hk32]; exact congrArg some (List.getElem_replicate hk32), (HBK.o.below hb).frozen k⟩) h10 hud (by omega) (by omega)
    rw [hkk] at h; exact h)
  have HNDU := hd (fun W (hb : Below w2.heap.size w2 W) => HND.o (d * 10 ^ j) hu1 hud W (bel HB2.o hb))
  have HKK := hd hkk
  have HH10 := hd h10
  have HN20 : Hd (Lib.nDigits d ≤ 20) := hd (by omega)
  clear hF2 hbb ht1 ht2 u1 u2 hdj h10 ht0 hE hG hb2 hkk hnj hn20 hud hd1 hu1 HND HSH
  obtain ⟨n, hn⟩ : ∃ n, n = Lib.nDigits d := ⟨_, rfl⟩
  have HN := hd hn
  rw [← hn] at HSD hn1
  obtain ⟨pr, hpr⟩ : ∃ pr : Int, max ((n : Int) - kk) 0 = pr := ⟨_, rfl⟩
  obtain ⟨u, hu⟩ : ∃ u, u = d * 10 ^ j := ⟨_, rfl⟩
  obtain ⟨nu, hnu⟩ : ∃ nu, nu = Lib.nDigits (d * 10 ^ j) := ⟨_, rfl⟩
  rw [← hnu] at HSD HNDU
  rw [← hu] at HSD HNDU ⊢
  have hnn : n ≤ 20 := by rw [hn]; exact HN20.o
  obtain ⟨hkb1, hkb2⟩ := hkb
  clear hn hu hnu
  go_wp2_with fail
  go_region_law (first
    | (go_simp; go_at_call 51; refine (HNDU.o _ ((Below.refl _ _).drew)).mono ?_; rintro e w' ⟨rfl, rfl⟩)
    | (go_simp; go_at_call 70; refine (HSD.o _ ((Below.refl _ _).drew)).mono ?_; rintro e w3 ⟨rfl, hc, hg, L', hk', hl'⟩; have HW3 := hd (And.intro hc (And.intro hg hk')); clear hc hg hk'))
  all_goals (
    have HOD := hd (own_below (own_below HO.o HB2.o) (Below.refl _ _).drew)
    have HBD := hd (HBK.o.below (Below.refl _ _).drew)
    have hsz := HGB.o
    have HFO : Hd (Fo w B G L' v [] w3) := hd ⟨HOD.o.kept HW3.o.2.1 (.inr (own_other HOD.o HBD.o (by decide))), HW3.o.2.2,
      ((HB2.o.mono hB).drew).grown HW3.o.2.1 (Nat.le_trans hB (HB2.o.drew).size) (fun q hq => by have : G = q := Option.some.inj hq; omega),
      Nat.le_trans hB (Nat.le_trans (HB2.o.drew).size HW3.o.2.1.size)⟩
    have HEF := hd (efg_any w w3 B G L' v (Lib.decDigits d) neg kk hkb1 hkb2 HFO.o (by rw [HLN.o, ← HN.o]; exact hn1) (by rw [HLN.o]; exact HN20.o) HW3.o.1 pr (by rw [HLN.o, ← HN.o]; exact hpr.symm))
    rw [HLN.o, ← HN.o] at HEF
    clear HFO hsz HBD HOD HSD HNDU
    go_simp
    go_wp2_with fail
    with_reducible refine HEF.o.mono ?_
    rintro e w4 ⟨v4, rfl, hf4⟩
    have H4 := hd hf4
    clear hf4
    go_wp2
    go_ret
    refine ⟨v4, d, t0 + j, rfl, HBEST.o, HH10.o, ?_, H4.o.b⟩
    have ek : kk = (Lib.nDigits d : Int) + ((t0 + j : Nat) : Int) - 400 := by have := HKK.o; have := HE.o; omega
    rw [← ek]
    exact H4.o.o)
set_option maxRecDepth 100000 in
set_option maxHeartbeats 4000000 in
theorem ftoa_sub (f m z : Nat) (hf : f < 18446744073709551616) (e0 : Int) (sk neg : Bool) (w : World) (hT : Tbl w) (B : Nat) (v : Value) (hO : w.ownsRow B 5 1 v 0 []) (hB : B ≤ w.heap.size) (hneg : ((f : Int) / 9223372036854775808 != 0) = neg)
    (a1 : bits .and .i64 ((f : Int) / 4503599627370496) 2047 = 0) (a2 : bits .and .u64 (f : Int) 4503599627370495 = (m : Int))
    (m1 : ((m : Int) == 0) = false) (hm : m < 9007199254740992) (F : FS.Flt e0 m z sk) (hz : z = 11 ∨ e0 = -1074) (hsk : sk = true ↔ m * 2 ^ z = 9223372036854775808 ∧ z = 11 ∧ e0 ≠ -1074)
    (hbl : (Lib.bitLen m : Int) + z = 64) (he : -1074 = e0) :
    Calls Tryd.prog 58 #[v, .float .f64 f, .int .u8 102, .int .i64 (-1)] w fun e w' =>
      ∃ v' d t, e = .returned v' ∧ FS.Best (m % 2 == 0) (FS.Lo e0 m z sk) (FS.Hi e0 m z) (FS.Va e0 m z) d t ∧ d % 10 ≠ 0 ∧ w'.ownsRow B 5 1 v' (sgn neg ++ plainT (Lib.decDigits d) ((Lib.nDigits d : Int) + t - 400)).length (cellsB (sgn neg ++ plainT (Lib.decDigits d) ((Lib.nDigits d : Int) + t - 400))) ∧ Below B w w' := by
  have q1 := bits_run f
  have HO := hd hO
  have HLEN := hd (fun W => Any.bits_Len64 Tryd.laysN129 m W (by omega) (by omega))
  have HSH := hd (fun W (hb : Below w.heap.size w W) => short_any F hz hsk W (hT.below hb))
  have HND := hd (fun (u : Nat) (h1 : 1 ≤ u) (h2 : u < 18446744073709551616) W (hb : Below w.heap.size w W) => numDigits_any u h1 h2 W (hT.below hb))
  have HF := hd F
  obtain ⟨M, hM⟩ : ∃ M, M = m * 2 ^ z := ⟨_, rfl⟩
  have hMlt : M < 18446744073709551616 := by have := F.hi; omega
  have s1 : 64 - (Lib.bitLen m : Int) = (z : Int) := by omega
  have s2 : IntKind.u64.wrap ((m : Int) * 2 ^ z) = (M : Int) := by
    rw [show ((m : Int) * 2 ^ z) = ((m * 2 ^ z : Nat) : Int) by push_cast; rfl, ← hM, IntKind.wrap_u64]; omega
  have hz2 : z ≤ 63 := F.z2
  have hz3 : 11 ≤ z := F.z1
  rw [Int.toNat_natCast] at HLEN
  rw [← hM] at HSH
  generalize Lib.bitLen m = bl at *
  obtain ⟨ee, hee⟩ : ∃ ee : Int, ee = e0 - z := ⟨_, rfl⟩
  have s3 : -1022 - (z : Int) - 52 = ee := by omega
  rw [← hee] at HSH
  clear hO hT F hM hbl he hee hz hsk hm
  go_enter Tryd.func58, Tryd.ntmps58
  go_wp2
  go_quiet (fail)
  go_wp2_with (go_at_call 60; refine (HLEN.o _).mono ?_; rintro e w' ⟨rfl, rfl⟩)
  refine (HSH.o _ ((bel_drew (Below.refl _ _) nq).alloc (Nat.le_refl _) _)).mono ?_
  rintro e w2 ⟨hb2, a, b, r, hF2, hbb, ht1, ht2, rfl⟩
  have HBK := hd (show Bk w2 w.heap.size 110 zeros32 from Bk.below (heap_alloc_new (w.drewN nq) _) hb2)
  have HB2 := hd (show Below w.heap.size w w2 from bel ((bel_drew (Below.refl _ _) nq).alloc (Nat.le_refl _) _) hb2)
  obtain ⟨G, hG⟩ : ∃ G, G = w.heap.size := ⟨_, rfl⟩
  have HGB := hd (show B ≤ G ∧ G = w.heap.size from ⟨by omega, hG⟩)
  rw [← hG] at HBK ⊢
  obtain ⟨u1, u2⟩ := fineD_bd hF2
  obtain ⟨d, j, hdj, h10⟩ := strip10 _ u1
  have HBEST := hd (hF2.best hdj h10)
  have ht0 : FS.fineT a b (400 - FS.pOf e0 sk).toNat = (400 - FS.pOf e0 sk).toNat + 1 ∨ FS.fineT a b (400 - FS.pOf e0 sk).toNat = (400 - FS.pOf e0 sk).toNat := by unfold FS.fineT; split <;> simp
  have hud : d * 10 ^ j < 18446744073709551616 := by rw [← hdj]; omega
  have hd1 : 1 ≤ d := by omega
  have hu1 : 1 ≤ d * 10 ^ j := Nat.mul_pos hd1 (Nat.pow_pos (by decide))
  rw [hdj]
  generalize FS.fineT a b (400 - FS.pOf e0 sk).toNat = t0 at *
  obtain ⟨E, hE⟩ : ∃ E : Int, E = (t0 : Int) - 400 := ⟨_, rfl⟩
  have hE1 : -347 ≤ E ∧ E ≤ 349 := by omega
  have HE := hd hE
  rw [← hE]
  have HLN := hd (Lib.decDigits_length d)
  have hn20 := Lib.nDigits_le20 _ hud
  have hn1 := Lib.nDigits_pos d
  have hnj := (dec_tens d hd1 j).2
  obtain ⟨kk, hkk⟩ : ∃ kk : Int, ((Lib.nDigits d + j : Nat) : Int) + E = kk := ⟨_, rfl⟩
  have hkb : -400 ≤ kk ∧ kk ≤ 400 := by omega
  have HSD := hd (fun W (hb : Below w2.heap.size w2 W) => by
    have h := setDigits_any G d j E W 110 zeros32 (HBK.o.below hb) (fun k hk => by
      have hk32 : k < zeros32.length := by show k < 32; omega
      refine ⟨by rw [(HBK.o.below hb).cell k hk32]; exact congrArg some (List.getElem_replicate hk32), (HBK.o.below hb).frozen k⟩) h10 hud (by omega) (by omega)
    rw [hkk] at h; exact h)
  have HNDU := hd (fun W (hb : Below w2.heap.size w2 W) => HND.o (d * 10 ^ j) hu1 hud W (bel HB2.o hb))
  have HKK := hd hkk
  have HH10 := hd h10
  have HN20 : Hd (Lib.nDigits d ≤ 20) := hd (by omega)
  clear hF2 hbb ht1 ht2 u1 u2 hdj h10 ht0 hE hG hb2 hkk hnj hn20 hud hd1 hu1 HND HSH
  obtain ⟨n, hn⟩ : ∃ n, n = Lib.nDigits d := ⟨_, rfl⟩
  have HN := hd hn
  rw [← hn] at HSD hn1
  obtain ⟨pr, hpr⟩ : ∃ pr : Int, max ((n : Int) - kk) 0 = pr := ⟨_, rfl⟩
  obtain ⟨u, hu⟩ : ∃ u, u = d * 10 ^ j := ⟨_, rfl⟩
  obtain ⟨nu, hnu⟩ : ∃ nu, nu = Lib.nDigits (d * 10 ^ j) := ⟨_, rfl⟩
  rw [← hnu] at HSD HNDU
  rw [← hu] at HSD HNDU ⊢
  have hnn : n ≤ 20 := by rw [hn]; exact HN20.o
  obtain ⟨hkb1, hkb2⟩ := hkb
  clear hn hu hnu
  go_wp2_with fail
  go_region_law (first
    | (go_simp; go_at_call 51; refine (HNDU.o _ ((Below.refl _ _).drew)).mono ?_; rintro e w' ⟨rfl, rfl⟩)
    | (go_simp; go_at_call 70; refine (HSD.o _ ((Below.refl _ _).drew)).mono ?_; rintro e w3 ⟨rfl, hc, hg, L', hk', hl'⟩; have HW3 := hd (And.intro hc (And.intro hg hk')); clear hc hg hk'))
  all_goals (
    have HOD := hd (own_below (own_below HO.o HB2.o) (Below.refl _ _).drew)
    have HBD := hd (HBK.o.below (Below.refl _ _).drew)
    have hsz := HGB.o
    have HFO : Hd (Fo w B G L' v [] w3) := hd ⟨HOD.o.kept HW3.o.2.1 (.inr (own_other HOD.o HBD.o (by decide))), HW3.o.2.2,
      ((HB2.o.mono hB).drew).grown HW3.o.2.1 (Nat.le_trans hB (HB2.o.drew).size) (fun q hq => by have : G = q := Option.some.inj hq; omega),
      Nat.le_trans hB (Nat.le_trans (HB2.o.drew).size HW3.o.2.1.size)⟩
    have HEF := hd (efg_any w w3 B G L' v (Lib.decDigits d) neg kk hkb1 hkb2 HFO.o (by rw [HLN.o, ← HN.o]; exact hn1) (by rw [HLN.o]; exact HN20.o) HW3.o.1 pr (by rw [HLN.o, ← HN.o]; exact hpr.symm))
    rw [HLN.o, ← HN.o] at HEF
    clear HFO hsz HBD HOD HSD HNDU
    go_simp
    go_wp2_with fail
    with_reducible refine HEF.o.mono ?_
    rintro e w4 ⟨v4, rfl, hf4⟩
    have H4 := hd hf4
    clear hf4
    go_wp2
    go_ret
    refine ⟨v4, d, t0 + j, rfl, HBEST.o, HH10.o, ?_, H4.o.b⟩
    have ek : kk = (Lib.nDigits d : Int) + ((t0 + j : Nat) : Int) - 400 := by have := HKK.o; have := HE.o; omega
    rw [← ek]
    exact H4.o.o)
end Go.Proofs.YtcbggkdginfakaaDoor
