/- The floats' bits. internal/strconv.ftoa64 at 'f', shortest: a float that is neither nought nor infinite. What a float's text is, by its bits: the best decimal, written out. One text at most. num.Show, for every float. -/
import Derived.Test.YteckfdohgiddgaaGreatDoorFEfg
import Derived.Laws.Externs
import Derived.BigQuiet
import Derived.Deep.RegionLaw
import Derived.Test.YteckfdohgiddgaaGreatDoorBase4
import Derived.Test.YteckfdohgiddgaaGreatDoorBase5
namespace Go.Proofs.YteckfdohgiddgaaGreatDoor
open Go.RowKit
set_option linter.unusedVariables false
set_option linter.unusedSimpArgs false
theorem bits_run (f : Nat) (w : World) : (callFunc 247 #[.float .f64 f]).run Tryz.prog w = .ok (.value (.int .u64 f)) w := by
  rw [run_callFunc_extern Tryz.func247 (e := Extern.MathFloatBits.float64bits) (by kernel_rfl) (by kernel_rfl) (by kernel_rfl) (by rfl)]
  rfl
theorem mbits_run (f : Nat) (w : World) : (callFunc 144 #[.float .f64 f]).run Tryz.prog w = .ok (.value (.int .u64 f)) w := by
  rw [run_callFunc_extern Tryz.func144 (e := Extern.MathFloatBits.float64bits) (by kernel_rfl) (by kernel_rfl) (by kernel_rfl) (by rfl)]
  rfl
theorem mfrom_run (n : Nat) (w : World) : (callFunc 185 #[.int .u64 n]).run Tryz.prog w = .ok (.value (.float .f64 n)) w := by
  rw [run_callFunc_extern Tryz.func185 (e := Extern.MathFloatBits.float64frombits) (by kernel_rfl) (by kernel_rfl) (by kernel_rfl) (by rfl)]
  rfl
set_option maxRecDepth 100000 in
set_option maxHeartbeats 1000000 in
/-- nought -/
theorem efg0 (w : World) (B : Nat) (v : Value) (neg : Bool) (hO : w.ownsRow B 5 1 v 0 []) (hB : B ≤ w.heap.size) :
    Calls Tryz.prog 250 #[v, .bool neg, .slice none 0 0, .int .i64 0, .int .i64 0, .int .i64 (-1), .int .u8 102, .bool true] w fun e w' =>
      ∃ v', e = .returned v' ∧ w'.ownsRow B 5 1 v' (sgn neg ++ [48]).length (cellsB (sgn neg ++ [48])) ∧ Below B w w' := by
  have HO := hd hO
  clear hO
  cases neg with
  | false =>
    go_enter Tryz.func250, Tryz.ntmps250
    go_wp2_with (at_builtin; refine wpList_app_litH 32 5 (.int .u8 0) 1 1 Tryz.underlying32 info_u8f rfl (by decide) rfl _ _ rfl B v 0 [] _ #[.int .u8 48] 1 _ rfl rfl rfl HO.o rfl (by simp [Value.oneCell']) (by omega) (by omega) hB ?_)
    intro v' w' ho hg
    have H1 := hd ho
    have HB := hd ((Below.refl B w).grown hg hB (fun q hq => (HO.o.lt q hq).1))
    clear ho hg
    go_wp2
    go_ret
    exact ⟨_, rfl, H1.o, HB.o⟩
  | true =>
    go_enter Tryz.func250, Tryz.ntmps250
    go_wp2_with (at_builtin; refine wpList_app_litH 32 5 (.int .u8 0) 1 1 Tryz.underlying32 info_u8f rfl (by decide) rfl _ _ rfl B v 0 [] _ #[.int .u8 45] 1 _ rfl rfl rfl HO.o rfl (by simp [Value.oneCell']) (by omega) (by omega) hB ?_)
    intro v1 w1 ho hg
    have H1 := hd ho
    have HB := hd ((Below.refl B w).grown hg hB (fun q hq => (HO.o.lt q hq).1))
    have hz := HB.o.size
    have hB1 : B ≤ w1.heap.size := by omega
    clear ho hg hz
    go_wp2_with (at_builtin; refine wpList_app_litH 32 5 (.int .u8 0) 1 1 Tryz.underlying32 info_u8f rfl (by decide) rfl _ _ rfl B v1 (0 + 1) ([] ++ [.int .u8 45]) _ #[.int .u8 48] 1 _ rfl rfl rfl H1.o rfl (by simp [Value.oneCell']) (by omega) (by omega) hB1 ?_)
    intro v' w' ho hg
    have H2 := hd ho
    have HB2 := hd (HB.o.grown hg hB1 (fun q hq => (H1.o.lt q hq).1))
    clear ho hg
    go_wp2
    go_ret
    exact ⟨_, rfl, H2.o, HB2.o⟩
end Go.Proofs.YteckfdohgiddgaaGreatDoor
namespace Go.Proofs.YteckfdohgiddgaaGreatDoor
open Go.RowKit
set_option linter.unusedVariables false
set_option linter.unusedSimpArgs false
/-- the digits D with the point k places behind their beginning -/
def plainT (D : List UInt8) (k : Int) : List UInt8 :=
  if k ≤ 0 then [48, 46] ++ List.replicate (-k).toNat 48 ++ D else if k < D.length then D.take k.toNat ++ [46] ++ D.drop k.toNat else D ++ List.replicate (k.toNat - D.length) 48
theorem strip10 : ∀ d : Nat, 1 ≤ d → ∃ e j, d = e * 10 ^ j ∧ e % 10 ≠ 0 := by
  intro d
  induction d using Nat.strongRecOn with
  | _ d ih =>
    intro h
    by_cases c : d % 10 = 0
    · obtain ⟨e, j, h1, h2⟩ := ih (d / 10) (by omega) (by omega)
      refine ⟨e, j + 1, ?_, h2⟩
      rw [Nat.pow_succ, ← Nat.mul_assoc, ← h1]
      omega
    · exact ⟨d, 0, by simp, c⟩
theorem fineD_bd {ev : Bool} {L U V t a b r : Nat} (F : FS.Fine ev L U V t a b r) : 1 ≤ FS.fineD a b r ∧ FS.fineD a b r ≤ b := by
  have h1 := F.ab
  have h2 := F.a0
  unfold FS.fineD
  split
  · omega
  · split
    · rename_i h; have := F.r_in h; omega
    · omega
/-- fmtEFG, whatever the point's place -/
theorem efg_any (w0 w : World) (B G : Nat) (L : List Value) (v : Value) (D : List UInt8) (neg : Bool) (k : Int) (hk0 : -400 ≤ k) (hk1 : k ≤ 400) (hO : Fo w0 B G L v [] w) (hD : 1 ≤ D.length) (hD2 : D.length ≤ 20)
    (hL : ∀ i (h : i < D.length), w.cell? ⟨G, i, none⟩ = some (.int .u8 ((D[i]'h).toNat : Int))) (pr : Int) (hp : pr = max ((D.length : Int) - k) 0) :
    Calls Tryz.prog 250 #[v, .bool neg, .slice (some ⟨G, 0, none⟩) 32 32, .int .i64 k, .int .i64 D.length, .int .i64 pr, .int .u8 102, .bool true] w fun e w' =>
      ∃ v', e = .returned v' ∧ Fo w0 B G L v' (sgn neg ++ plainT D k) w' := by
  by_cases c1 : k ≤ 0
  · obtain ⟨q, rfl⟩ : ∃ q : Nat, k = -(q : Int) := ⟨(-k).toNat, by omega⟩
    obtain rfl : pr = ((D.length + q : Nat) : Int) := by omega
    have e : plainT D (-(q : Int)) = [48, 46] ++ List.replicate q 48 ++ D := by
      unfold plainT; rw [if_pos c1]; simp
    rw [e]
    cases neg with
    | false => exact (efg1p w0 w B G L v D q (by omega) hO hD hD2 hL).mono fun _ _ ⟨v', h1, h2⟩ => ⟨v', h1, by simpa using h2⟩
    | true => exact (efg1n w0 w B G L v D q (by omega) hO hD hD2 hL).mono fun _ _ ⟨v', h1, h2⟩ => ⟨v', h1, by simpa using h2⟩
  · by_cases c2 : k < D.length
    · obtain ⟨q, rfl⟩ : ∃ q : Nat, k = (q : Int) := ⟨k.toNat, by omega⟩
      obtain rfl : pr = ((D.length - q : Nat) : Int) := by omega
      have e : plainT D (q : Int) = D.take q ++ [46] ++ D.drop q := by
        unfold plainT; rw [if_neg c1, if_pos c2]; simp
      rw [e]
      cases neg with
      | false => exact (efg2p w0 w B G L v D q (by omega) (by omega) hO hD hD2 hL).mono fun _ _ ⟨v', h1, h2⟩ => ⟨v', h1, by simpa using h2⟩
      | true => exact (efg2n w0 w B G L v D q (by omega) (by omega) hO hD hD2 hL).mono fun _ _ ⟨v', h1, h2⟩ => ⟨v', h1, by simpa using h2⟩
    · obtain ⟨q, rfl⟩ : ∃ q : Nat, k = ((D.length + q : Nat) : Int) := ⟨k.toNat - D.length, by omega⟩
      obtain rfl : pr = 0 := by omega
      have e : plainT D ((D.length + q : Nat) : Int) = D ++ List.replicate q 48 := by
        unfold plainT; rw [if_neg c1, if_neg c2, show ((D.length + q : Nat) : Int).toNat - D.length = q by omega]
      rw [e]
      cases neg with
      | false => exact (efg3p w0 w B G L v D q (by omega) hO hD hD2 hL).mono fun _ _ ⟨v', h1, h2⟩ => ⟨v', h1, by simpa using h2⟩
      | true => exact (efg3n w0 w B G L v D q (by omega) hO hD hD2 hL).mono fun _ _ ⟨v', h1, h2⟩ => ⟨v', h1, by simpa using h2⟩
def zeros32 : List Value := List.replicate 32 (.int .u8 0)
set_option maxRecDepth 100000 in
set_option maxHeartbeats 4000000 in
theorem ftoa_nrm (f x mt m z : Nat) (hf : f < 18446744073709551616) (e0 : Int) (sk neg : Bool) (w : World) (hT : Tbl w) (B : Nat) (v : Value) (hO : w.ownsRow B 5 1 v 0 []) (hB : B ≤ w.heap.size) (hneg : ((f : Int) / 9223372036854775808 != 0) = neg)
    (a1 : bits .and .i64 ((f : Int) / 4503599627370496) 2047 = (x : Int)) (a2 : bits .and .u64 (f : Int) 4503599627370495 = (mt : Int)) (a3 : bits .or .u64 (mt : Int) 4503599627370496 = (m : Int))
    (x1 : ((x : Int) == 0) = false) (x2 : ((x : Int) == 2047) = false) (x3 : x ≤ 2046) (m1 : ((m : Int) == 0) = false) (hm : m < 9007199254740992) (F : FS.Flt e0 m z sk) (hz : z = 11 ∨ e0 = -1074) (hsk : sk = true ↔ m * 2 ^ z = 9223372036854775808 ∧ z = 11 ∧ e0 ≠ -1074)
    (hbl : (Lib.bitLen m : Int) + z = 64) (he : (x : Int) - 1075 = e0) :
    Calls Tryz.prog 227 #[v, .float .f64 f, .int .u8 102, .int .i64 (-1)] w fun e w' =>
      ∃ v' d t, e = .returned v' ∧ FS.Best (m % 2 == 0) (FS.Lo e0 m z sk) (FS.Hi e0 m z) (FS.Va e0 m z) d t ∧ d % 10 ≠ 0 ∧ w'.ownsRow B 5 1 v' (sgn neg ++ plainT (Lib.decDigits d) ((Lib.nDigits d : Int) + t - 400)).length (cellsB (sgn neg ++ plainT (Lib.decDigits d) ((Lib.nDigits d : Int) + t - 400))) ∧ Below B w w' := by
  have q1 := bits_run f
  have HO := hd hO
  have HLEN := hd (fun W => Any.bits_Len64 Tryz.laysN129 m W (by omega) (by omega))
  have HSH := hd (fun W (hb : Below w.heap.size w W) => short_any F hz hsk W (hT.below hb))
  have HND := hd (fun (u : Nat) (h1 : 1 ≤ u) (h2 : u < 18446744073709551616) W (hb : Below w.heap.size w W) => numDigits_any u h1 h2 W (hT.below hb))
  have HF := hd F
  obtain ⟨M, hM⟩ : ∃ M, M = m * 2 ^ z := ⟨_, rfl⟩
  have hMlt : M < 18446744073709551616 := by have := F.hi; omega
  have s1 : 64 - (Lib.bitLen m : Int) = (z : Int) := by omega
  have s2 : IntKind.u64.wrap ((m : Int) * 2 ^ z) = (M : Int) := by
    rw [show ((m : Int) * 2 ^ z) = ((m * 2 ^ z : Nat) : Int) by push_cast; rfl, ← hM, IntKind.wrap_u64]; omega
  have hz2 : z ≤ 63 := F.z2
  have hz3 : 11 ≤ z := F.z1
  rw [Int.toNat_natCast] at HLEN
  rw [← hM] at HSH
  generalize Lib.bitLen m = bl at *
  obtain ⟨ee, hee⟩ : ∃ ee : Int, ee = e0 - z := ⟨_, rfl⟩
  have s3 : (x : Int) + -1023 - (z : Int) - 52 = ee := by omega
  have hx0 : (0 : Int) ≤ (x : Int) := by omega
  rw [← hee] at HSH
  have hxx : (x : Int) ≤ 2046 := by omega
  clear hO hT F hM hbl he hee hz hsk hm
  go_enter Tryz.func227, Tryz.ntmps227
  go_wp2
  go_quiet (fail)
  go_wp2_with (go_at_call 229; refine (HLEN.o _).mono ?_; rintro e w' ⟨rfl, rfl⟩)
  refine (HSH.o _ ((bel_drew (Below.refl _ _) nq).alloc (Nat.le_refl _) _)).mono ?_
  rintro e w2 ⟨hb2, a, b, r, hF2, hbb, ht1, ht2, rfl⟩
  have HBK := hd (show Bk w2 w.heap.size 284 zeros32 from Bk.below (heap_alloc_new (w.drewN nq) _) hb2)
  have HB2 := hd (show Below w.heap.size w w2 from bel ((bel_drew (Below.refl _ _) nq).alloc (Nat.le_refl _) _) hb2)
  obtain ⟨G, hG⟩ : ∃ G, G = w.heap.size := ⟨_, rfl⟩
  have HGB := hd (show B ≤ G ∧ G = w.heap.size from ⟨by omega, hG⟩)
  rw [← hG] at HBK ⊢
  obtain ⟨u1, u2⟩ := fineD_bd hF2
  obtain ⟨d, j, hdj, h10⟩ := strip10 _ u1
  have HBEST := hd (hF2.best hdj h10)
  have ht0 : FS.fineT a b (400 - FS.pOf e0 sk).toNat = (400 - FS.pOf e0 sk).toNat + 1 ∨ FS.fineT a b (400 - FS.pOf e0 sk).toNat = (400 - FS.pOf e0 sk).toNat := by unfold FS.fineT; split <;> simp
  have hud : d * 10 ^ j < 18446744073709551616 := by rw [← hdj]; omega
  have hd1 : 1 ≤ d := by omega
  have hu1 : 1 ≤ d * 10 ^ j := Nat.mul_pos hd1 (Nat.pow_pos (by decide))
  rw [hdj]
  generalize FS.fineT a b (400 - FS.pOf e0 sk).toNat = t0 at *
  obtain ⟨E, hE⟩ : ∃ E : Int, E = (t0 : Int) - 400 := ⟨_, rfl⟩
  have hE1 : -347 ≤ E ∧ E ≤ 349 := by omega
  have HE := hd hE
  rw [← hE]
  have HLN := hd (Lib.decDigits_length d)
  have hn20 := Lib.nDigits_le20 _ hud
  have hn1 := Lib.nDigits_pos d
  have hnj := (dec_tens d hd1 j).2
  obtain ⟨kk, hkk⟩ : ∃ kk : Int, ((Lib.nDigits d + j : Nat) : Int) + E = kk := ⟨_, rfl⟩
  have hkb : -400 ≤ kk ∧ kk ≤ 400 := by omega
  have HSD := hd (fun W (hb : Below w2.heap.size w2 W) => by
    have h := setDigits_any G d j E W 284 zeros32 (HBK.o.below hb) (fun k hk => by
      have hk32 : k < zeros32.length := by show k < 32; omega
      refine ⟨by rw [(HBK.o.below hb).cell k hk32]; exact congrArg some (List.getElem_replicate hk32), (HBK.o.below hb).frozen k⟩) h10 hud (by omega) (by omega)
    rw [hkk] at h; exact h)
  have HNDU := hd (fun W (hb : Below w2.heap.size w2 W) => HND.o (d * 10 ^ j) hu1 hud W (bel HB2.o hb))
  have HKK := hd hkk
  have HH10 := hd h10
  have HN20 : Hd (Lib.nDigits d ≤ 20) := hd (by omega)
  clear hF2 hbb ht1 ht2 u1 u2 hdj h10 ht0 hE hG hb2 hkk hnj hn20 hud hd1 hu1 HND HSH
  obtain ⟨n, hn⟩ : ∃ n, n = Lib.nDigits d := ⟨_, rfl⟩
  have HN := hd hn
  rw [← hn] at HSD hn1
  obtain ⟨pr, hpr⟩ : ∃ pr : Int, max ((n : Int) - kk) 0 = pr := ⟨_, rfl⟩
  obtain ⟨u, hu⟩ : ∃ u, u = d * 10 ^ j := ⟨_, rfl⟩
  obtain ⟨nu, hnu⟩ : ∃ nu, nu = Lib.nDigits (d * 10 ^ j) := ⟨_, rfl⟩
  rw [← hnu] at HSD HNDU
  rw [← hu] at HSD HNDU ⊢
  have hnn : n ≤ 20 := by rw [hn]; exact HN20.o
  obtain ⟨hkb1, hkb2⟩ := hkb
  clear hn hu hnu
  go_wp2_with fail
  go_region_law (first
    | (go_simp; go_at_call 196; refine (HNDU.o _ ((Below.refl _ _).drew)).mono ?_; rintro e w' ⟨rfl, rfl⟩)
    | (go_simp; go_at_call 252; refine (HSD.o _ ((Below.refl _ _).drew)).mono ?_; rintro e w3 ⟨rfl, hc, hg, L', hk', hl'⟩; have HW3 := hd (And.intro hc (And.intro hg hk')); clear hc hg hk'))
  all_goals (
    have HOD := hd (own_below (own_below HO.o HB2.o) (Below.refl _ _).drew)
    have HBD := hd (HBK.o.below (Below.refl _ _).drew)
    have hsz := HGB.o
    have HFO : Hd (Fo w B G L' v [] w3) := hd ⟨HOD.o.kept HW3.o.2.1 (.inr (own_other HOD.o HBD.o (by decide))), HW3.o.2.2,
      ((HB2.o.mono hB).drew).grown HW3.o.2.1 (Nat.le_trans hB (HB2.o.drew).size) (fun q hq => by have : G = q := Option.some.inj hq; omega),
      Nat.le_trans hB (Nat.le_trans (HB2.o.drew).size HW3.o.2.1.size)⟩
    have HEF := hd (efg_any w w3 B G L' v (Lib.decDigits d) neg kk hkb1 hkb2 HFO.o (by rw [HLN.o, ← HN.o]; exact hn1) (by rw [HLN.o]; exact HN20.o) HW3.o.1 pr (by rw [HLN.o, ← HN.o]; exact hpr.symm))
    rw [HLN.o, ← HN.o] at HEF
    clear HFO hsz HBD HOD HSD HNDU
    go_simp
    go_wp2_with fail
    with_reducible refine HEF.o.mono ?_
    rintro e w4 ⟨v4, rfl, hf4⟩
    have H4 := hd hf4
    clear hf4
    go_wp2
    go_ret
    refine ⟨v4, d, t0 + j, rfl, HBEST.o, HH10.o, ?_, H4.o.b⟩
    have ek : kk = (Lib.nDigits d : Int) + ((t0 + j : Nat) : Int) - 400 := by have := HKK.o; have := HE.o; omega
    rw [← ek]
    exact H4.o.o)
set_option maxRecDepth 100000 in
set_option maxHeartbeats 4000000 in
theorem ftoa_sub (f m z : Nat) (hf : f < 18446744073709551616) (e0 : Int) (sk neg : Bool) (w : World) (hT : Tbl w) (B : Nat) (v : Value) (hO : w.ownsRow B 5 1 v 0 []) (hB : B ≤ w.heap.size) (hneg : ((f : Int) / 9223372036854775808 != 0) = neg)
    (a1 : bits .and .i64 ((f : Int) / 4503599627370496) 2047 = 0) (a2 : bits .and .u64 (f : Int) 4503599627370495 = (m : Int))
    (m1 : ((m : Int) == 0) = false) (hm : m < 9007199254740992) (F : FS.Flt e0 m z sk) (hz : z = 11 ∨ e0 = -1074) (hsk : sk = true ↔ m * 2 ^ z = 9223372036854775808 ∧ z = 11 ∧ e0 ≠ -1074)
    (hbl : (Lib.bitLen m : Int) + z = 64) (he : -1074 = e0) :
    Calls Tryz.prog 227 #[v, .float .f64 f, .int .u8 102, .int .i64 (-1)] w fun e w' =>
      ∃ v' d t, e = .returned v' ∧ FS.Best (m % 2 == 0) (FS.Lo e0 m z sk) (FS.Hi e0 m z) (FS.Va e0 m z) d t ∧ d % 10 ≠ 0 ∧ w'.ownsRow B 5 1 v' (sgn neg ++ plainT (Lib.decDigits d) ((Lib.nDigits d : Int) + t - 400)).length (cellsB (sgn neg ++ plainT (Lib.decDigits d) ((Lib.nDigits d : Int) + t - 400))) ∧ Below B w w' := by
  have q1 := bits_run f
  have HO := hd hO
  have HLEN := hd (fun W => Any.bits_Len64 Tryz.laysN129 m W (by omega) (by omega))
  have HSH := hd (fun W (hb : Below w.heap.size w W) => short_any F hz hsk W (hT.below hb))
  have HND := hd (fun (u : Nat) (h1 : 1 ≤ u) (h2 : u < 18446744073709551616) W (hb : Below w.heap.size w W) => numDigits_any u h1 h2 W (hT.below hb))
  have HF := hd F
  obtain ⟨M, hM⟩ : ∃ M, M = m * 2 ^ z := ⟨_, rfl⟩
  have hMlt : M < 18446744073709551616 := by have := F.hi; omega
  have s1 : 64 - (Lib.bitLen m : Int) = (z : Int) := by omega
  have s2 : IntKind.u64.wrap ((m : Int) * 2 ^ z) = (M : Int) := by
    rw [show ((m : Int) * 2 ^ z) = ((m * 2 ^ z : Nat) : Int) by push_cast; rfl, ← hM, IntKind.wrap_u64]; omega
  have hz2 : z ≤ 63 := F.z2
  have hz3 : 11 ≤ z := F.z1
  rw [Int.toNat_natCast] at HLEN
  rw [← hM] at HSH
  generalize Lib.bitLen m = bl at *
  obtain ⟨ee, hee⟩ : ∃ ee : Int, ee = e0 - z := ⟨_, rfl⟩
  have s3 : -1022 - (z : Int) - 52 = ee := by omega
  rw [← hee] at HSH
  clear hO hT F hM hbl he hee hz hsk hm
  go_enter Tryz.func227, Tryz.ntmps227
  go_wp2
  go_quiet (fail)
  go_wp2_with (go_at_call 229; refine (HLEN.o _).mono ?_; rintro e w' ⟨rfl, rfl⟩)
  refine (HSH.o _ ((bel_drew (Below.refl _ _) nq).alloc (Nat.le_refl _) _)).mono ?_
  rintro e w2 ⟨hb2, a, b, r, hF2, hbb, ht1, ht2, rfl⟩
  have HBK := hd (show Bk w2 w.heap.size 284 zeros32 from Bk.below (heap_alloc_new (w.drewN nq) _) hb2)
  have HB2 := hd (show Below w.heap.size w w2 from bel ((bel_drew (Below.refl _ _) nq).alloc (Nat.le_refl _) _) hb2)
  obtain ⟨G, hG⟩ : ∃ G, G = w.heap.size := ⟨_, rfl⟩
  have HGB := hd (show B ≤ G ∧ G = w.heap.size from ⟨by omega, hG⟩)
  rw [← hG] at HBK ⊢
  obtain ⟨u1, u2⟩ := fineD_bd hF2
  obtain ⟨d, j, hdj, h10⟩ := strip10 _ u1
  have HBEST := hd (hF2.best hdj h10)
  have ht0 : FS.fineT a b (400 - FS.pOf e0 sk).toNat = (400 - FS.pOf e0 sk).toNat + 1 ∨ FS.fineT a b (400 - FS.pOf e0 sk).toNat = (400 - FS.pOf e0 sk).toNat := by unfold FS.fineT; split <;> simp
  have hud : d * 10 ^ j < 18446744073709551616 := by rw [← hdj]; omega
  have hd1 : 1 ≤ d := by omega
  have hu1 : 1 ≤ d * 10 ^ j := Nat.mul_pos hd1 (Nat.pow_pos (by decide))
  rw [hdj]
  generalize FS.fineT a b (400 - FS.pOf e0 sk).toNat = t0 at *
  obtain ⟨E, hE⟩ : ∃ E : Int, E = (t0 : Int) - 400 := ⟨_, rfl⟩
  have hE1 : -347 ≤ E ∧ E ≤ 349 := by omega
  have HE := hd hE
  rw [← hE]
  have HLN := hd (Lib.decDigits_length d)
  have hn20 := Lib.nDigits_le20 _ hud
  have hn1 := Lib.nDigits_pos d
  have hnj := (dec_tens d hd1 j).2
  obtain ⟨kk, hkk⟩ : ∃ kk : Int, ((Lib.nDigits d + j : Nat) : Int) + E = kk := ⟨_, rfl⟩
  have hkb : -400 ≤ kk ∧ kk ≤ 400 := by omega
  have HSD := hd (fun W (hb : Below w2.heap.size w2 W) => by
    have h := setDigits_any G d j E W 284 zeros32 (HBK.o.below hb) (fun k hk => by
      have hk32 : k < zeros32.length := by show k < 32; omega
      refine ⟨by rw [(HBK.o.below hb).cell k hk32]; exact congrArg some (List.getElem_replicate hk32), (HBK.o.below hb).frozen k⟩) h10 hud (by omega) (by omega)
    rw [hkk] at h; exact h)
  have HNDU := hd (fun W (hb : Below w2.heap.size w2 W) => HND.o (d * 10 ^ j) hu1 hud W (bel HB2.o hb))
  have HKK := hd hkk
  have HH10 := hd h10
  have HN20 : Hd (Lib.nDigits d ≤ 20) := hd (by omega)
  clear hF2 hbb ht1 ht2 u1 u2 hdj h10 ht0 hE hG hb2 hkk hnj hn20 hud hd1 hu1 HND HSH
  obtain ⟨n, hn⟩ : ∃ n, n = Lib.nDigits d := ⟨_, rfl⟩
  have HN := hd hn
  rw [← hn] at HSD hn1
  obtain ⟨pr, hpr⟩ : ∃ pr : Int, max ((n : Int) - kk) 0 = pr := ⟨_, rfl⟩
  obtain ⟨u, hu⟩ : ∃ u, u = d * 10 ^ j := ⟨_, rfl⟩
  obtain ⟨nu, hnu⟩ : ∃ nu, nu = Lib.nDigits (d * 10 ^ j) := ⟨_, rfl⟩
  rw [← hnu] at HSD HNDU
  rw [← hu] at HSD HNDU ⊢
  have hnn : n ≤ 20 := by rw [hn]; exact HN20.o
  obtain ⟨hkb1, hkb2⟩ := hkb
  clear hn hu hnu
  go_wp2_with fail
  go_region_law (first
    | (go_simp; go_at_call 196; refine (HNDU.o _ ((Below.refl _ _).drew)).mono ?_; rintro e w' ⟨rfl, rfl⟩)
    | (go_simp; go_at_call 252; refine (HSD.o _ ((Below.refl _ _).drew)).mono ?_; rintro e w3 ⟨rfl, hc, hg, L', hk', hl'⟩; have HW3 := hd (And.intro hc (And.intro hg hk')); clear hc hg hk'))
  all_goals (
    have HOD := hd (own_below (own_below HO.o HB2.o) (Below.refl _ _).drew)
    have HBD := hd (HBK.o.below (Below.refl _ _).drew)
    have hsz := HGB.o
    have HFO : Hd (Fo w B G L' v [] w3) := hd ⟨HOD.o.kept HW3.o.2.1 (.inr (own_other HOD.o HBD.o (by decide))), HW3.o.2.2,
      ((HB2.o.mono hB).drew).grown HW3.o.2.1 (Nat.le_trans hB (HB2.o.drew).size) (fun q hq => by have : G = q := Option.some.inj hq; omega),
      Nat.le_trans hB (Nat.le_trans (HB2.o.drew).size HW3.o.2.1.size)⟩
    have HEF := hd (efg_any w w3 B G L' v (Lib.decDigits d) neg kk hkb1 hkb2 HFO.o (by rw [HLN.o, ← HN.o]; exact hn1) (by rw [HLN.o]; exact HN20.o) HW3.o.1 pr (by rw [HLN.o, ← HN.o]; exact hpr.symm))
    rw [HLN.o, ← HN.o] at HEF
    clear HFO hsz HBD HOD HSD HNDU
    go_simp
    go_wp2_with fail
    with_reducible refine HEF.o.mono ?_
    rintro e w4 ⟨v4, rfl, hf4⟩
    have H4 := hd hf4
    clear hf4
    go_wp2
    go_ret
    refine ⟨v4, d, t0 + j, rfl, HBEST.o, HH10.o, ?_, H4.o.b⟩
    have ek : kk = (Lib.nDigits d : Int) + ((t0 + j : Nat) : Int) - 400 := by have := HKK.o; have := HE.o; omega
    rw [← ek]
    exact H4.o.o)
end Go.Proofs.YteckfdohgiddgaaGreatDoor
namespace Go.Proofs.YteckfdohgiddgaaGreatDoor
namespace FS
set_option linter.unusedVariables false
def ex (f : Nat) : Nat := f / 4503599627370496 % 2048
def mt (f : Nat) : Nat := f % 4503599627370496
def ng (f : Nat) : Bool := decide (9223372036854775808 ≤ f)
def mOf (f : Nat) : Nat := if ex f = 0 then mt f else mt f + 4503599627370496
def eOf (f : Nat) : Int := (if ex f = 0 then 1 else (ex f : Int)) - 1075
def sOf (f : Nat) : Bool := decide (mOf f = 4503599627370496 ∧ eOf f ≠ -1074)
/-- a quarter of a unit of the last place, times 10^400 * 2^1140 -/
def uq (e0 : Int) : Nat := Z (e0 + 1138).toNat * K4
def Told (f d t : Nat) : Prop := Best (mOf f % 2 == 0) (4 * mOf f * uq (eOf f) - (if sOf f then 1 else 2) * uq (eOf f)) (4 * mOf f * uq (eOf f) + 2 * uq (eOf f)) (4 * mOf f * uq (eOf f)) d t
/-- the text of the float with the bits f -/
def Shown (f : Nat) (s : List UInt8) : Prop :=
  (ex f = 2047 ∧ s = if mt f = 0 then (if ng f then [45, 73, 110, 102] else [43, 73, 110, 102]) else [78, 97, 78]) ∨
  (ex f ≠ 2047 ∧ mOf f = 0 ∧ s = sgn (ng f) ++ [48]) ∨
  (ex f ≠ 2047 ∧ mOf f ≠ 0 ∧ ∃ d t, Told f d t ∧ d % 10 ≠ 0 ∧ s = sgn (ng f) ++ plainT (Lib.decDigits d) ((Lib.nDigits d : Int) + t - 400))
theorem Shown.ext {f : Nat} {s s' : List UInt8} (h : Shown f s) (h' : Shown f s') : s = s' := by
  rcases h with ⟨a, b⟩ | ⟨a, b, c⟩ | ⟨a, b, d, t, h1, h2, h3⟩ <;> rcases h' with ⟨a', b'⟩ | ⟨a', b', c'⟩ | ⟨a', b', d', t', h1', h2', h3'⟩
  · rw [b, b']
  · exact absurd a a'
  · exact absurd a a'
  · exact absurd a' a
  · rw [c, c']
  · exact absurd b b'
  · exact absurd a' a
  · exact absurd b' b
  · obtain ⟨rfl, rfl⟩ := h1.ext h1'
    rw [h3, h3']
theorem S_uq {e0 : Int} {z : Nat} (hz : 2 ≤ z) (h : 0 ≤ e0 - z + 1140) (k : Nat) : S (e0 - z) (k * 2 ^ (z - 2)) = k * uq e0 := by
  unfold S uq
  rw [show (2 : Nat) ^ (z - 2) = Z (z - 2) from rfl, Nat.mul_assoc, ← Nat.mul_assoc (Z (z - 2)), Z_mul, show z - 2 + (e0 - z + 1140).toNat = (e0 + 1138).toNat by omega]
theorem lo_uq {e0 : Int} {m z : Nat} {sk : Bool} (F : Flt e0 m z sk) : Va e0 m z = 4 * m * uq e0 ∧ Hi e0 m z = 4 * m * uq e0 + 2 * uq e0 ∧ Lo e0 m z sk = 4 * m * uq e0 - (if sk then 1 else 2) * uq e0 := by
  obtain ⟨t1, t2, _, _⟩ := two_z F.z1
  have hz := F.z1
  have hz2 := F.z2
  have he := F.e1
  have e1 : mid m z = 4 * m * 2 ^ (z - 2) := by
    unfold mid; rw [t1, t2, ← Nat.mul_assoc, ← Nat.mul_assoc, Nat.mul_assoc m, Nat.mul_comm m]
  have e2 : 2 ^ (z - 1) = 2 * 2 ^ (z - 2) := t2
  have e3 : half z sk = (if sk then 1 else 2) * 2 ^ (z - 2) := by
    unfold half; cases sk
    · simp [e2]
    · simp
  have u := fun k => S_uq (e0 := e0) (z := z) (by omega) (by omega) k
  refine ⟨?_, ?_, ?_⟩
  · unfold Va; rw [e1, u]
  · unfold Hi; rw [S_add, e1, u, e2, u]
  · unfold Lo; rw [S_sub, e1, u, e3, u]
end FS
end Go.Proofs.YteckfdohgiddgaaGreatDoor
namespace Go.Proofs.YteckfdohgiddgaaGreatDoor
open Go.RowKit
set_option linter.unusedVariables false
set_option linter.unusedSimpArgs false
theorem and_2047 (f : Nat) (hf : f < 18446744073709551616) : bits .and .i64 ((f : Int) / 4503599627370496) 2047 = (FS.ex f : Int) := by
  have h := bits_mask .i64 62 (by decide) (fun n h0 h1 => by rw [IntKind.wrap_i64]; simp only [Int.reducePow] at h1; omega) 11 (by decide) ((f : Int) / 4503599627370496) (by omega) (by simp only [Int.reducePow]; omega)
  simp only [Int.reducePow, Int.reduceSub] at h
  rw [h]
  unfold FS.ex
  omega
theorem and_mt (f : Nat) (hf : f < 18446744073709551616) : bits .and .u64 (f : Int) 4503599627370495 = (FS.mt f : Int) := by
  have h := u64_and_nat f 4503599627370495 hf (by decide)
  rw [Nat.and_two_pow_sub_one_eq_mod f 52] at h
  exact h
theorem or_mt (f : Nat) : bits .or .u64 (FS.mt f : Int) 4503599627370496 = ((FS.mt f + 4503599627370496 : Nat) : Int) := by
  have hm : FS.mt f < 4503599627370496 := Nat.mod_lt _ (by decide)
  have h := u64_or_nat (FS.mt f) 4503599627370496 (by omega) (by decide)
  rw [Nat.or_comm, nat_join 52 4503599627370496 (FS.mt f) (by decide) hm, Nat.add_comm] at h
  exact h
theorem ng_eq (f : Nat) (hf : f < 18446744073709551616) : ((f : Int) / 9223372036854775808 != 0) = FS.ng f := by
  unfold FS.ng
  by_cases h : 9223372036854775808 ≤ f
  · rw [decide_eq_true h, bne_iff_ne]; omega
  · rw [decide_eq_false h]
    simp only [bne_eq_false_iff_eq]
    omega
/-- the places that bring a number's head to the head of 64 bits -/
theorem head_z (m : Nat) (h0 : m ≠ 0) (h1 : m < 9007199254740992) : ∃ z : Nat, (Lib.bitLen m : Int) + z = 64 ∧ 11 ≤ z ∧ z ≤ 63 ∧ 2 ^ 63 ≤ m * 2 ^ z ∧ m * 2 ^ z < 2 ^ 64 ∧ (4503599627370496 ≤ m → z = 11) := by
  obtain ⟨b1, b2, b3⟩ := Lib.bitLenAux_bounds 64 m (by omega) h0
  have e : Lib.bitLenAux 64 m = Lib.bitLen m := rfl
  rw [e] at b1 b2 b3
  have b4 : Lib.bitLen m ≤ 53 := Lib.bitLen_le m 53 (by decide) h1
  refine ⟨64 - Lib.bitLen m, by omega, by omega, by omega, ?_, ?_, fun h => ?_⟩
  · calc 2 ^ 63 = 2 ^ (Lib.bitLen m - 1) * 2 ^ (64 - Lib.bitLen m) := by rw [← Nat.pow_add]; congr 1; omega
      _ ≤ m * 2 ^ (64 - Lib.bitLen m) := Nat.mul_le_mul_right _ b2
  · calc m * 2 ^ (64 - Lib.bitLen m) < 2 ^ Lib.bitLen m * 2 ^ (64 - Lib.bitLen m) := Nat.mul_lt_mul_of_pos_right b3 (Nat.two_pow_pos _)
      _ = 2 ^ 64 := by rw [← Nat.pow_add]; congr 1; omega
  · have : 53 ≤ Lib.bitLen m := by
      by_cases q : 53 ≤ Lib.bitLen m
      · exact q
      · have h5 : 2 ^ Lib.bitLen m ≤ 2 ^ 52 := Nat.pow_le_pow_right (by decide) (by omega)
        omega
    omega
theorem mOf_lt (f : Nat) : FS.mOf f < 9007199254740992 := by
  have : FS.mt f < 4503599627370496 := Nat.mod_lt _ (by decide)
  unfold FS.mOf; split <;> omega
theorem flt_of (f : Nat) (hx : FS.ex f ≠ 2047) (hm : FS.mOf f ≠ 0) : ∃ z : Nat, FS.Flt (FS.eOf f) (FS.mOf f) z (FS.sOf f) ∧ (Lib.bitLen (FS.mOf f) : Int) + z = 64 ∧ (z = 11 ∨ FS.eOf f = -1074) ∧ (FS.sOf f = true ↔ FS.mOf f * 2 ^ z = 9223372036854775808 ∧ z = 11 ∧ FS.eOf f ≠ -1074) := by
  have hml := mOf_lt f
  obtain ⟨z, z1, z2, z3, z4, z5, z6⟩ := head_z (FS.mOf f) hm hml
  have hxl : FS.ex f < 2048 := Nat.mod_lt _ (by decide)
  have hz : z = 11 ∨ FS.eOf f = -1074 := by
    by_cases h : FS.ex f = 0
    · right; unfold FS.eOf; rw [if_pos h]; rfl
    · left; apply z6; unfold FS.mOf; rw [if_neg h]; omega
  have he : -1074 ≤ FS.eOf f ∧ FS.eOf f ≤ 971 := by unfold FS.eOf; split <;> omega
  have hs : FS.sOf f = true ↔ FS.mOf f * 2 ^ z = 9223372036854775808 ∧ z = 11 ∧ FS.eOf f ≠ -1074 := by
    unfold FS.sOf
    rw [decide_eq_true_eq]
    constructor
    · rintro ⟨h1, h2⟩
      have h3 : z = 11 := by omega
      subst h3
      exact ⟨by rw [h1], rfl, h2⟩
    · rintro ⟨h1, rfl, h2⟩
      exact ⟨by omega, h2⟩
  refine ⟨z, ⟨Nat.pos_of_ne_zero hm, he.1, he.2, z2, z3, z4, z5, fun h => ?_⟩, z1, hz, hs⟩
  have h2 := hs.1 h
  refine ⟨h2.2.1, ?_, h2.2.2⟩
  unfold FS.sOf at h
  rw [decide_eq_true_eq] at h
  omega
set_option maxRecDepth 100000 in
set_option maxHeartbeats 2000000 in
theorem ftoa_any (f : Nat) (hf : f < 18446744073709551616) (w : World) (hT : Tbl w) (B : Nat) (v : Value) (hO : w.ownsRow B 5 1 v 0 []) (hB : B ≤ w.heap.size) :
    Calls Tryz.prog 227 #[v, .float .f64 f, .int .u8 102, .int .i64 (-1)] w fun e w' =>
      ∃ v' s, e = .returned v' ∧ FS.Shown f s ∧ w'.ownsRow B 5 1 v' s.length (cellsB s) ∧ Below B w w' := by
  have a1 := and_2047 f hf
  have a2 := and_mt f hf
  have a4 := ng_eq f hf
  have hxl : FS.ex f < 2048 := Nat.mod_lt _ (by decide)
  have q1 := bits_run f
  by_cases hx : FS.ex f = 2047
  · have HO := hd hO
    rw [hx] at a1
    have HSH := hd (show ∀ s, (s = if FS.mt f = 0 then (if FS.ng f then [45, 73, 110, 102] else [43, 73, 110, 102]) else [78, 97, 78]) → FS.Shown f s from fun s h => .inl ⟨hx, h⟩)
    clear hO hT hx hxl
    by_cases hm : FS.mt f = 0
    · rw [hm] at a2
      rw [if_pos hm] at HSH
      clear hm
      cases hn : FS.ng f with
      | false =>
        rw [hn] at a4 HSH
        rw [if_neg (by simp)] at HSH
        clear hn
        go_enter Tryz.func227, Tryz.ntmps227
        go_wp2
        go_quiet (fail)
        have hb : B ≤ (w.drewN nq).heap.size := hB
        have HOD := hd (own_below HO.o (bel_drew (Below.refl _ _) nq))
        go_wp2_with (at_builtin; refine wpList_app_str _ 32 9 5 Tryz.underlying32 Tryz.underlying9 info_u8f rfl _ _ rfl B v 0 [] rfl HOD.o ⟨#[43, 73, 110, 102]⟩ rfl (by decide) hb ?_)
        intro v' w' ho hg
        have H1 := hd ho
        have H2 := hd ((bel_drew (Below.refl B w) nq).grown hg hb (fun q hq => (HOD.o.lt q hq).1))
        clear ho hg
        go_wp2
        go_ret
        exact ⟨v', _, rfl, HSH.o _ rfl, H1.o, H2.o⟩
      | true =>
        rw [hn] at a4 HSH
        rw [if_pos rfl] at HSH
        clear hn
        go_enter Tryz.func227, Tryz.ntmps227
        go_wp2
        go_quiet (fail)
        have hb : B ≤ (w.drewN nq).heap.size := hB
        have HOD := hd (own_below HO.o (bel_drew (Below.refl _ _) nq))
        go_wp2_with (at_builtin; refine wpList_app_str _ 32 9 5 Tryz.underlying32 Tryz.underlying9 info_u8f rfl _ _ rfl B v 0 [] rfl HOD.o ⟨#[45, 73, 110, 102]⟩ rfl (by decide) hb ?_)
        intro v' w' ho hg
        have H1 := hd ho
        have H2 := hd ((bel_drew (Below.refl B w) nq).grown hg hb (fun q hq => (HOD.o.lt q hq).1))
        clear ho hg
        go_wp2
        go_ret
        exact ⟨v', _, rfl, HSH.o _ rfl, H1.o, H2.o⟩
    · rw [if_neg hm] at HSH
      have m1 : ((FS.mt f : Int) != 0) = true := by rw [bne_iff_ne]; omega
      clear hm
      go_enter Tryz.func227, Tryz.ntmps227
      go_wp2
      go_quiet (fail)
      have hb : B ≤ (w.drewN nq).heap.size := hB
      have HOD := hd (own_below HO.o (bel_drew (Below.refl _ _) nq))
      go_wp2_with (at_builtin; refine wpList_app_str _ 32 9 5 Tryz.underlying32 Tryz.underlying9 info_u8f rfl _ _ rfl B v 0 [] rfl HOD.o ⟨#[78, 97, 78]⟩ rfl (by decide) hb ?_)
      intro v' w' ho hg
      have H1 := hd ho
      have H2 := hd ((bel_drew (Below.refl B w) nq).grown hg hb (fun q hq => (HOD.o.lt q hq).1))
      clear ho hg
      go_wp2
      go_ret
      exact ⟨v', _, rfl, HSH.o _ rfl, H1.o, H2.o⟩
  · by_cases hm : FS.mOf f = 0
    · have hx0 : FS.ex f = 0 := by unfold FS.mOf at hm; split at hm <;> omega
      have hm0 : FS.mt f = 0 := by unfold FS.mOf at hm; rw [if_pos hx0] at hm; exact hm
      have HSH := hd (show ∀ s, s = sgn (FS.ng f) ++ [48] → FS.Shown f s from fun s h => .inr (.inl ⟨hx, hm, h⟩))
      rw [hx0] at a1
      rw [hm0] at a2
      have HO := hd hO
      clear hO hT hx hxl hm hx0 hm0
      generalize FS.ng f = neg at *
      have HEF := hd (fun W (h1 : Below w.heap.size w W) => efg0 W B v neg (own_below HO.o h1) (Nat.le_trans hB h1.size))
      go_enter Tryz.func227, Tryz.ntmps227
      go_wp2
      go_quiet (fail)
      go_wp2_with (go_at_call 250; refine (HEF.o _ (bel_drew (Below.refl _ _) nq)).mono ?_; rintro e w2 ⟨v2, rfl, h1, h2⟩; have H1 := hd h1; have H2 := hd h2; clear h1 h2)
      go_ret
      exact ⟨v2, _, rfl, HSH.o _ rfl, H1.o, (bel_drew (Below.refl B w) nq).trans H2.o⟩
    · obtain ⟨z, F, hbl, hz, hsk⟩ := flt_of f hx hm
      obtain ⟨e1, e2, e3⟩ := FS.lo_uq F
      have hml := mOf_lt f
      have fin : ∀ {e : Ending} {w' : World}, (∃ v' d t, e = .returned v' ∧ FS.Best (FS.mOf f % 2 == 0) (FS.Lo (FS.eOf f) (FS.mOf f) z (FS.sOf f)) (FS.Hi (FS.eOf f) (FS.mOf f) z) (FS.Va (FS.eOf f) (FS.mOf f) z) d t ∧ d % 10 ≠ 0 ∧ w'.ownsRow B 5 1 v' (sgn (FS.ng f) ++ plainT (Lib.decDigits d) ((Lib.nDigits d : Int) + t - 400)).length (cellsB (sgn (FS.ng f) ++ plainT (Lib.decDigits d) ((Lib.nDigits d : Int) + t - 400))) ∧ Below B w w') →
          ∃ v' s, e = .returned v' ∧ FS.Shown f s ∧ w'.ownsRow B 5 1 v' s.length (cellsB s) ∧ Below B w w' := fun {e w'} ⟨v', d, t, h1, h2, h3, h4, h5⟩ => by
        rw [e1, e2, e3] at h2
        exact ⟨v', _, h1, .inr (.inr ⟨hx, hm, d, t, h2, h3, rfl⟩), h4, h5⟩
      by_cases hx0 : FS.ex f = 0
      · have hmm : FS.mOf f = FS.mt f := by unfold FS.mOf; rw [if_pos hx0]
        rw [hx0] at a1
        rw [← hmm] at a2
        exact (ftoa_sub f (FS.mOf f) z hf (FS.eOf f) (FS.sOf f) (FS.ng f) w hT B v hO hB a4 a1 a2 (by rw [beq_eq_false_iff_ne]; omega) hml F hz hsk hbl (by unfold FS.eOf; rw [if_pos hx0]; rfl)).mono fun _ _ h => fin h
      · have hmm : FS.mOf f = FS.mt f + 4503599627370496 := by unfold FS.mOf; rw [if_neg hx0]
        have a3 := or_mt f
        rw [← hmm] at a3
        exact (ftoa_nrm f (FS.ex f) (FS.mt f) (FS.mOf f) z hf (FS.eOf f) (FS.sOf f) (FS.ng f) w hT B v hO hB a4 a1 a2 a3 (by rw [beq_eq_false_iff_ne]; omega) (by rw [beq_eq_false_iff_ne]; omega) (by omega) (by rw [beq_eq_false_iff_ne]; omega) hml F hz hsk hbl (by unfold FS.eOf; rw [if_neg hx0])).mono fun _ _ h => fin h
theorem conv_u8 {w : World} {v : Value} {m : Nat} {l : List UInt8} (h : IsL 1 w v m (cellsB l)) : (convert 32 9 v).run Tryz.prog w = .ok (.string ⟨l.toArray⟩) w :=
  run_string_of w 32 9 5 Tryz.underlying32 Tryz.underlying5 Tryz.underlying9 _ _ _ h
set_option maxRecDepth 100000 in
theorem fmtf_any (f : Nat) (hf : f < 18446744073709551616) (w : World) (hT : Tbl w) :
    Calls Tryz.prog 194 #[.float .f64 f, .int .u8 102, .int .i64 (-1), .int .i64 64] w fun e w' => ∃ s : List UInt8, e = .returned (.string ⟨s.toArray⟩) ∧ FS.Shown f s ∧ Below w.heap.size w w' := by
  have HT := hd hT
  clear hT
  have mx : max (3 : Int) 24 = 24 := by decide
  go_enter Tryz.func194, Tryz.ntmps194
  go_wp2_with (at_make; refine wpList_mk0 _ 32 5 (.int .u8 0) 1 1 Tryz.underlying32 info_u8f rfl _ _ rfl w.heap.size _ _ 24 rfl rfl (by decide) (by decide) (Nat.le_refl _) ?_)
  intro w2 ho hg
  have HB2 := hd (bel_grown (Below.refl w.heap.size w) hg (fun k h => by cases h))
  have HFT := hd (ftoa_any f hf w2 (HT.o.below HB2.o) w.heap.size _ ho HB2.o.size)
  clear ho hg
  go_wp2_with (go_at_call 227; refine HFT.o.mono ?_; rintro e w3 ⟨v3, s, rfl, hs, ho3, hb3⟩; have HS := hd hs; have HB3 := hd (HB2.o.trans hb3); have hcv := conv_u8 (IsL.own ho3); clear hs ho3 hb3)
  go_ret
  exact ⟨s, rfl, HS.o, HB3.o⟩
theorem show_any (f : Nat) (hf : f < 18446744073709551616) (w : World) (hT : Tbl w) :
    Calls Tryz.prog 83 #[.float .f64 f] w fun e w' => ∃ s : List UInt8, e = .returned (.string ⟨s.toArray⟩) ∧ FS.Shown f s ∧ Below w.heap.size w w' := by
  have H1 := hd (fmtf_any f hf w hT)
  have H2 : Hd (Calls Tryz.prog 141 #[.float .f64 f, .int .u8 102, .int .i64 (-1), .int .i64 64] w fun e w' => ∃ s : List UInt8, e = .returned (.string ⟨s.toArray⟩) ∧ FS.Shown f s ∧ Below w.heap.size w w') := hd (by
    go_enter Tryz.func141, Tryz.ntmps141
    go_wp2_with (go_at_call 194; refine H1.o.mono ?_; rintro e w3 ⟨s, rfl, hs, hb⟩; have HS := hd hs; have HB := hd hb; clear hs hb)
    go_ret
    exact ⟨s, rfl, HS.o, HB.o⟩)
  clear hT
  go_enter Tryz.func83, Tryz.ntmps83
  go_wp2_with (go_at_call 141; refine H2.o.mono ?_; rintro e w3 ⟨s, rfl, hs, hb⟩; have HS := hd hs; have HB := hd hb; clear hs hb)
  go_ret
  exact ⟨s, rfl, HS.o, HB.o⟩
end Go.Proofs.YteckfdohgiddgaaGreatDoor
