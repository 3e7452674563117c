/- shortest of the reference (weirref02/show.go). -/
import Derived.Test.YtcbggkdginfakaaGreatDoorFDG
import Derived.Test.YtcbggkdginfakaaGreatDoorFParts
namespace Go.Proofs.YtcbggkdginfakaaGreatDoor
open Go.RowKit
set_option linter.unusedVariables false
set_option linter.unusedSimpArgs false
theorem nv_lit (w : World) (g n : Nat) (x : Int) (e : TypeId) (hg : g = w.heap.size) (hx : x = n) (h0 : 0 < n) (hn : n < 4294967296) : NV (w.alloc (.cells #[.int .u32 x] e)) (.slice (some ⟨g, 0, none⟩) 1 1) n := by
  subst hg hx
  exact ⟨[n], isN_lit w _ _ [n] rfl (FB.W.one hn), fun _ => by simpa using (by omega : n ≠ 0), by simp [FB.val]⟩
theorem trim_two (w : World) (g m : Nat) (x y : Int) (hx : x = (m : Int) % 4294967296) (hy : y = (m : Int) / 4294967296) (hg : g = w.heap.size) (hm : m < 9007199254740992) :
    Calls Tryz.prog 103 #[.slice (some ⟨g, 0, none⟩) 2 2] (w.alloc (.cells #[.int .u32 x, .int .u32 y] 109)) fun e w' => ∃ v, e = .returned v ∧ NV w' v m ∧ Below (w.alloc (.cells #[.int .u32 x, .int .u32 y] 109)).heap.size (w.alloc (.cells #[.int .u32 x, .int .u32 y] 109)) w' := by
  have hW : FB.W [m % 4294967296, m / 4294967296] := fun z hz => by
    simp at hz
    rcases hz with rfl | rfl
    · exact Nat.mod_lt _ (by decide)
    · omega
  have hv : FB.val [m % 4294967296, m / 4294967296] = m := by
    simp only [FB.val]
    omega
  have h1 := isN_lit w #[.int .u32 x, .int .u32 y] 109 [m % 4294967296, m / 4294967296] (by rw [hx, hy]; simp [cellsN]) hW
  rw [hg]
  have h2 := trim_any _ _ _ h1 (by simp)
  rw [hv] at h2
  exact h2.mono fun _ _ h => h.nv
theorem shift2_nv (v : Value) (N : Nat) (w : World) (k : Nat) (h : NV w v N) (hk : FB.Lt k N) (hk2 : k ≤ 10000) :
    Calls Tryz.prog 134 #[v, .int .i64 2] w fun e w' => ∃ v', e = .returned v' ∧ NV w' v' (N * 2 ^ 2) ∧ Below w.heap.size w w' := shift_nv v N 2 w k h hk hk2 (by decide)
theorem NV.al {w : World} {v : Value} {N : Nat} {ob : Obj} (h : NV w v N) : NV (w.alloc ob) v N := h.below ((Below.refl _ _).alloc (Nat.le_refl _) _)
theorem NV.as {w : World} {v : Value} {N M : Nat} (h : NV w v N) (e : N = M) : NV w v M := e ▸ h
theorem FB.lt11 : FB.Lt 1 1 := by unfold FB.Lt; decide
theorem FB.lt12 : FB.Lt 1 2 := by unfold FB.Lt; decide
theorem FB.lt14 : FB.Lt 1 (1 * 2 ^ 2) := by unfold FB.Lt; decide
theorem top_bd {t j m : Nat} (h : t * 2 ^ j ≤ m) (hm : m < 9007199254740992) (ht : 2 ≤ t) : j + 1 ≤ 53 := by
  have h1 : 2 * 2 ^ j ≤ t * 2 ^ j := Nat.mul_le_mul_right _ ht
  have h2 : 2 ^ (j + 1) < 2 ^ 53 := by rw [Nat.pow_succ, Nat.mul_comm]; exact Nat.lt_of_le_of_lt (Nat.le_trans h1 h) hm
  have := (Nat.pow_lt_pow_iff_right (show 1 < 2 by decide)).1 h2
  omega
theorem top_step {t j m : Nat} (h : t * 2 ^ j ≤ m) : t / 2 * 2 ^ (j + 1) ≤ m := by
  rw [Nat.pow_succ, Nat.mul_comm (2 ^ j), ← Nat.mul_assoc]
  exact Nat.le_trans (Nat.mul_le_mul_right _ (Nat.div_mul_le_self t 2)) h
theorem top_le {t j m : Nat} (h : t * 2 ^ j ≤ m) : t ≤ m := Nat.le_trans (Nat.le_mul_of_pos_right _ (Nat.pow_pos (by decide))) h
theorem neg0 (E : Nat) : (-(E : Int)).toNat = 0 := by omega
theorem e_shN_pos (m E : Nat) : m * 2 ^ 2 * 2 ^ E = FS.shN m (E : Int) := rfl
theorem e_shD_pos (E : Nat) : 1 * 2 ^ 2 = FS.shD (E : Int) := by unfold FS.shD; rw [neg0]
theorem e_und_pos (s E : Nat) : s * 2 ^ E = s * 2 ^ (E : Int).toNat := rfl
theorem e_shN_neg (m E : Nat) : m * 2 ^ 2 = FS.shN m (-(E : Int)) := by unfold FS.shN; rw [neg0]; omega
theorem e_shD_neg (E : Nat) : 1 * 2 ^ 2 * 2 ^ E = FS.shD (-(E : Int)) := by unfold FS.shD; rw [Int.neg_neg]; rfl
theorem e_und_neg (s E : Nat) : s = s * 2 ^ (-(E : Int)).toNat := by rw [neg0]; omega
theorem e_ten0 (x K : Nat) : x = x * 10 ^ (-(K : Int)).toNat := by rw [neg0]; omega
theorem e_ten0' (x K : Nat) : x = x * 10 ^ (-(K : Int)).toNat := e_ten0 x K
theorem e_tenN (x K : Nat) : x * 10 ^ K = x * 10 ^ (- -(K : Int)).toNat := by rw [Int.neg_neg]; rfl
theorem guess_bd {x : Int} (h1 : -1074 ≤ x) (h2 : x ≤ 1024) : -4000 ≤ (x * 30103).tdiv 100000 ∧ (x * 30103).tdiv 100000 ≤ 4000 := by
  rcases Int.lt_or_le x 0 with c | c
  · have e : x * 30103 = -((-x) * 30103) := by omega
    rw [e, Int.neg_tdiv, Int.tdiv_eq_ediv_of_nonneg (by omega)]
    omega
  · rw [Int.tdiv_eq_ediv_of_nonneg (by omega)]
    omega
namespace FS
def ShtAns (ev : Bool) (m : Nat) (e : Int) (s : Nat) (x : Ending) : Prop := ∃ k', Dug ev (4 * m * uq e - s * uq e) (4 * m * uq e + 2 * uq e) (4 * m * uq e) k' x
end FS
set_option maxRecDepth 100000 in
set_option maxHeartbeats 8000000 in
theorem short_pos (b m E : Nat) (s : Nat) (c1 c2 : Bool) (w : World) (HP : Hd (Calls Tryz.prog 104 #[.int .u64 (b : Int)] w fun x w' => x = .returned (.tuple #[.int .u64 (m : Int), .int .i64 (E : Int)]) ∧ w = w'))
    (hm1 : 1 ≤ m) (hm : m < 9007199254740992) (hE : E ≤ 971) (H10 : Hd (10 ≤ m ∨ (E : Int) = -1074)) (hc1 : ((m : Int) == 4503599627370496) = c1) (hc2 : decide (-1074 < (E : Int)) = c2) (HS : Hd (s = if c1 && c2 then 1 else 2)) :
    Calls Tryz.prog 123 #[.int .u64 (b : Int)] w fun x w' => FS.ShtAns ((m : Int) % 2 == 0) m (E : Int) s x ∧ Below w.heap.size w w' := by
  have hmI : (m : Int) < 9007199254740992 := by omega
  have hmI0 : (0 : Int) < (m : Int) := by omega
  have hmq : (m : Int) / 4294967296 < 4294967296 := by omega
  have hmq0 : 0 ≤ (m : Int) / 4294967296 := by omega
  have he1 : -1074 ≤ (E : Int) := by omega
  have he2 : (E : Int) ≤ 971 := by omega
  have HM := hd hm

  have LN := hd (FS.lt_shN (e := (E : Int)) hm he2)
  have LD := hd (FS.lt_shD (e := (E : Int)) he1)
  have LU := hd (FS.lt_und (s := s) (e := (E : Int)) (by have := HS.o; cases c1 <;> cases c2 <;> simp_all) he2)
  have LO := hd (FS.lt_und (s := 2) (e := (E : Int)) (by decide) he2)
  go_enter Tryz.func123, Tryz.ntmps123
  go_wp2_with (go_at_call 104; refine HP.o.mono ?_; rintro x w1 ⟨rfl, rfl⟩)
  go_wp2_with (go_at_call 103; (with_reducible refine (trim_two w _ m _ _ rfl rfl rfl HM.o).mono ?_); rintro x w1 ⟨v1, rfl, h1, h2⟩; have N1 := hd h1; have B1 := hd (bel ((Below.refl _ _).alloc (Nat.le_refl _) _) h2); clear h1 h2)
  have C2 := hd (shift2_nv v1 m w1 3 N1.o (Nat.lt_trans HM.o (by decide)) (by decide))
  cases c1 with
  | true =>
    cases c2 with
    | true =>
      have hs : s = 1 := by simpa using HS.o
      subst hs
      clear HS
      go_wp2_with (go_at_call 134; (with_reducible refine C2.o.mono ?_); rintro x w2 ⟨v2, rfl, h1, h2⟩; have N2 := hd h1; have B2 := hd (bel B1.o h2); clear h1 h2)
      have U0 := hd (nv_lit w2 w2.heap.size 2 2 109 rfl rfl (by decide) (by decide))
      have O0 := hd (nv_lit (w2.alloc (.cells #[.int .u32 2] 109)) (w2.heap.size + 1) 2 2 109 (by simp) rfl (by decide) (by decide))
      clear C2 N1 B1 HP
      have U1 := hd (nv_lit ((w2.alloc (.cells #[.int .u32 2] 109)).alloc (.cells #[.int .u32 2] 109)) (w2.heap.size + 1 + 1) 1 1 109 (by simp) rfl (by decide) (by decide))
      have D0 := hd (nv_lit (((w2.alloc (.cells #[.int .u32 2] 109)).alloc (.cells #[.int .u32 2] 109)).alloc (.cells #[.int .u32 1] 109)) (w2.heap.size + 1 + 1 + 1) 1 1 109 (by simp) rfl (by decide) (by decide))
      with_reducible refine (shift2_nv _ 1 _ 1 D0.o FB.lt11 (by decide)).mono ?_
      rintro x w3 ⟨v3, rfl, h1, h2⟩
      have D3 := hd h1
      have NN := hd (N2.o.al.al.al.al.below h2)
      have UU := hd (U1.o.al.below h2)
      have OO := hd (O0.o.al.al.below h2)
      have B3 := hd (bel ((((B2.o.alloc B2.o.size _).alloc (by have := B2.o.size; simp; omega) _).alloc (by have := B2.o.size; simp; omega) _).alloc (by have := B2.o.size; simp; omega) _) h2)
      clear h1 h2 U1
      clear N2 U0 O0 D0 B2
      go_wp2
      go_loop [10, 11] (fun x y => ∃ j t : Nat, x = .int .i64 ((E : Int) + j) ∧ y = .int .u64 t ∧ j ≤ 53 ∧ Hd (t * 2 ^ j ≤ m)) (fun x y => (intOf y).toNat)
      case atStart => exact ⟨0, m, by simp, rfl, by omega, hd (by simp)⟩
      case round =>
        obtain ⟨j, t, rfl, rfl, hj, HT⟩ := hrel
        have ht := top_le HT.o
        by_cases h1 : 1 < t
        · have hj2 := top_bd HT.o HM.o h1
          have HT2 := hd (top_step HT.o)
          have htI : (1 : Int) < (t : Int) := by omega
          have htI2 : (t : Int) < 9007199254740992 := by omega
          clear hj
          go_wp2
          go_round
          case rel => exact ⟨j + 1, t / 2, by go_num, by go_num, hj2, HT2⟩
          case measure => simp [intOf]; omega
        · have htI : (t : Int) ≤ 1 := by omega
          clear HT ht h1 HM hmI hmI0 hc1 hc2 hmq hmq0
          go_wp2_with fail
          with_reducible refine (shift_nv _ (m * 2 ^ 2) E w3 3 NN.o (Nat.lt_trans (Nat.mul_lt_mul_of_pos_right hm (by decide)) (by decide)) (by decide) (by omega)).mono ?_
          rintro x w4 ⟨vw4, rfl, h1, h2⟩
          replace UU := hd (UU.o.below h2)
          replace OO := hd (OO.o.below h2)
          replace D3 := hd (D3.o.below h2)
          replace NN := hd h1
          replace B3 := hd (bel B3.o h2)
          clear h1 h2
          go_wp2_with fail
          with_reducible refine (shift_nv _ 1 E w4 1 UU.o FB.lt11 (by decide) (by omega)).mono ?_
          rintro x w5 ⟨vw5, rfl, h1, h2⟩
          replace NN := hd (NN.o.below h2)
          replace OO := hd (OO.o.below h2)
          replace D3 := hd (D3.o.below h2)
          replace UU := hd h1
          replace B3 := hd (bel B3.o h2)
          clear h1 h2
          go_wp2_with fail
          with_reducible refine (shift_nv _ 2 E w5 1 OO.o FB.lt12 (by decide) (by omega)).mono ?_
          rintro x w6 ⟨vw6, rfl, h1, h2⟩
          replace NN := hd (NN.o.below h2)
          replace UU := hd (UU.o.below h2)
          replace D3 := hd (D3.o.below h2)
          replace OO := hd h1
          replace B3 := hd (bel B3.o h2)
          clear h1 h2
          go_wp2_with fail
          replace NN := hd (NN.o.as (e_shN_pos m E))
          replace D3 := hd (D3.o.as (e_shD_pos E))
          replace UU := hd (UU.o.as (e_und_pos _ E))
          replace OO := hd (OO.o.as (e_und_pos _ E))
          have hjI : (j : Int) ≤ 53 := by omega
          with_reducible refine (size_nv _ _ _ _ _ (-330) 400 w6 40 NN.o D3.o LN.o LD.o (by decide) (by decide) (by decide) (by omega) (by omega) (FS.lt_lo hm1 he1) (FS.lt_hi hm he2)).mono ?_
          rintro x w7 ⟨⟨k, rfl, HK⟩, h2⟩
          replace NN := hd (NN.o.below h2)
          replace UU := hd (UU.o.below h2)
          replace OO := hd (OO.o.below h2)
          replace D3 := hd (D3.o.below h2)
          replace B3 := hd (bel B3.o h2)
          clear h2
          obtain ⟨hkb1, hkb2⟩ := FS.k_bd hm1 hm he1 he2 HK.o.1 HK.o.2
          have HX := hd (And.intro hm1 (And.intro hm (And.intro he1 he2)))
          clear hm1 hm he1 he2 hjI hj htI
          by_cases hk0 : 0 ≤ k
          · obtain ⟨K, rfl⟩ : ∃ K : Nat, k = K := ⟨k.toNat, by omega⟩
            have hK : K ≤ 400 := by omega
            clear hkb1 hkb2 hk0
            go_wp2_with fail
            with_reducible refine (pow_nv K w7 (by omega)).mono ?_
            rintro x w8 ⟨v8, rfl, h1, h2⟩
            have P8 := hd h1
            clear h1
            replace NN := hd (NN.o.below h2)
            replace UU := hd (UU.o.below h2)
            replace OO := hd (OO.o.below h2)
            replace D3 := hd (D3.o.below h2)
            replace B3 := hd (bel B3.o h2)
            clear h2
            go_wp2_with fail
            with_reducible refine (prod_nv _ v8 (FS.shD (E : Int)) (10 ^ K) w8 82 D3.o P8.o (LD.o.up (by decide)) ((FS.lt_ten hK).up (by decide)) (by decide)).mono ?_
            rintro x w9 ⟨v9, rfl, h1, h2⟩
            replace D3 := hd (show NV w9 v9 (FS.shD (E : Int) * 10 ^ (K : Int).toNat) from h1)
            clear h1 P8
            replace NN := hd (NN.o.below h2)
            replace UU := hd (UU.o.below h2)
            replace OO := hd (OO.o.below h2)
            replace B3 := hd (bel B3.o h2)
            clear h2
            replace NN := hd (NN.o.as (e_ten0 _ K))
            replace UU := hd (UU.o.as (e_ten0 _ K))
            replace OO := hd (OO.o.as (e_ten0 _ K))
            go_wp2_with fail
            refine (digits_any _ _ _ _ ((m : Int) % 2 == 0) (K : Int) _ _ _ (K + 400) _ _ _ _ 82 w9 (FS.DG.of (ev := ((m : Int) % 2 == 0)) (s := 1) (k := (K : Int)) (κ := K + 400) HX.o.1 HX.o.2.1 HX.o.2.2.1 HX.o.2.2.2 H10.o (by decide) HK.o.1 HK.o.2 (by omega)) (by omega) (by omega) (by omega) (by omega) NN.o UU.o OO.o D3.o (LD.o.mul (FS.lt_ten hK)) (LU.o.mul (FS.lt_ten (k := (-(K : Int)).toNat) (by omega))) (LO.o.mul (FS.lt_ten (k := (-(K : Int)).toNat) (by omega))) (by decide)).mono ?_
            rintro x w20 ⟨⟨k', hdg⟩, h2⟩
            obtain ⟨d, t2, rfl, q1, q2, q3⟩ := hdg
            have Q1 := hd q1
            have Q2 := hd (And.intro q2 q3)
            replace B3 := hd (bel B3.o h2)
            clear h2 q1 q2 q3 NN UU OO D3
            go_wp2
            go_ret2
            exact ⟨show FS.ShtAns _ _ _ _ _ from ⟨k', d, t2, rfl, Q1.o, Q2.o.1, Q2.o.2⟩, B3.o⟩
          · obtain ⟨K, rfl⟩ : ∃ K : Nat, k = -(K : Int) := ⟨(-k).toNat, by omega⟩
            have hK : K ≤ 400 := by omega
            have hK1 : 1 ≤ K := by omega
            have hK2 : K ≤ 330 := by omega
            clear hkb1 hkb2 hk0
            go_wp2_with fail
            with_reducible refine (pow_nv K _ (by omega)).mono ?_
            rintro x wpNN ⟨vpNN, rfl, h1, h2⟩
            have P8 := hd h1
            clear h1
            replace NN := hd (NN.o.below h2)
            replace UU := hd (UU.o.below h2)
            replace OO := hd (OO.o.below h2)
            replace D3 := hd (D3.o.below h2)
            replace B3 := hd (bel B3.o h2)
            clear h2
            go_wp2_with fail
            with_reducible refine (prod_nv _ vpNN (FS.shN m (E : Int)) (10 ^ K) wpNN 82 NN.o P8.o (LN.o.up (by decide)) ((FS.lt_ten hK).up (by decide)) (by decide)).mono ?_
            rintro x wqNN ⟨vqNN, rfl, h1, h2⟩
            replace NN := hd h1
            clear h1 P8
            replace UU := hd (UU.o.below h2)
            replace OO := hd (OO.o.below h2)
            replace D3 := hd (D3.o.below h2)
            replace B3 := hd (bel B3.o h2)
            clear h2
            go_wp2_with fail
            with_reducible refine (pow_nv K _ (by omega)).mono ?_
            rintro x wpUU ⟨vpUU, rfl, h1, h2⟩
            have P8 := hd h1
            clear h1
            replace NN := hd (NN.o.below h2)
            replace UU := hd (UU.o.below h2)
            replace OO := hd (OO.o.below h2)
            replace D3 := hd (D3.o.below h2)
            replace B3 := hd (bel B3.o h2)
            clear h2
            go_wp2_with fail
            with_reducible refine (prod_nv _ vpUU (1 * 2 ^ (E : Int).toNat) (10 ^ K) wpUU 82 UU.o P8.o (LU.o.up (by decide)) ((FS.lt_ten hK).up (by decide)) (by decide)).mono ?_
            rintro x wqUU ⟨vqUU, rfl, h1, h2⟩
            replace UU := hd h1
            clear h1 P8
            replace NN := hd (NN.o.below h2)
            replace OO := hd (OO.o.below h2)
            replace D3 := hd (D3.o.below h2)
            replace B3 := hd (bel B3.o h2)
            clear h2
            go_wp2_with fail
            with_reducible refine (pow_nv K _ (by omega)).mono ?_
            rintro x wpOO ⟨vpOO, rfl, h1, h2⟩
            have P8 := hd h1
            clear h1
            replace NN := hd (NN.o.below h2)
            replace UU := hd (UU.o.below h2)
            replace OO := hd (OO.o.below h2)
            replace D3 := hd (D3.o.below h2)
            replace B3 := hd (bel B3.o h2)
            clear h2
            go_wp2_with fail
            with_reducible refine (prod_nv _ vpOO (2 * 2 ^ (E : Int).toNat) (10 ^ K) wpOO 82 OO.o P8.o (LO.o.up (by decide)) ((FS.lt_ten hK).up (by decide)) (by decide)).mono ?_
            rintro x wqOO ⟨vqOO, rfl, h1, h2⟩
            replace OO := hd h1
            clear h1 P8
            replace NN := hd (NN.o.below h2)
            replace UU := hd (UU.o.below h2)
            replace D3 := hd (D3.o.below h2)
            replace B3 := hd (bel B3.o h2)
            clear h2
            replace NN := hd (NN.o.as (e_tenN _ K))
            replace UU := hd (UU.o.as (e_tenN _ K))
            replace OO := hd (OO.o.as (e_tenN _ K))
            replace D3 := hd (D3.o.as (e_ten0 _ K))
            go_wp2_with fail
            refine (digits_any _ _ _ _ ((m : Int) % 2 == 0) (-(K : Int)) _ _ _ (400 - K) _ _ _ _ 82 wqOO (FS.DG.of (ev := ((m : Int) % 2 == 0)) (s := 1) (k := (-(K : Int))) (κ := 400 - K) HX.o.1 HX.o.2.1 HX.o.2.2.1 HX.o.2.2.2 H10.o (by decide) HK.o.1 HK.o.2 (by omega)) (by omega) (by omega) (by omega) (by omega) NN.o UU.o OO.o D3.o (LD.o.mul (FS.lt_ten (k := (-(K : Int)).toNat) (by omega))) (LU.o.mul (FS.lt_ten (k := (- -(K : Int)).toNat) (by omega))) (LO.o.mul (FS.lt_ten (k := (- -(K : Int)).toNat) (by omega))) (by decide)).mono ?_
            rintro x w20 ⟨⟨k', hdg⟩, h2⟩
            obtain ⟨d, t2, rfl, q1, q2, q3⟩ := hdg
            have Q1 := hd q1
            have Q2 := hd (And.intro q2 q3)
            replace B3 := hd (bel B3.o h2)
            clear h2 q1 q2 q3 NN UU OO D3
            go_wp2
            go_ret2
            exact ⟨show FS.ShtAns _ _ _ _ _ from ⟨k', d, t2, rfl, Q1.o, Q2.o.1, Q2.o.2⟩, B3.o⟩
    | false =>
      have hs : s = 2 := by simpa using HS.o
      subst hs
      clear HS
      go_wp2_with (go_at_call 134; (with_reducible refine C2.o.mono ?_); rintro x w2 ⟨v2, rfl, h1, h2⟩; have N2 := hd h1; have B2 := hd (bel B1.o h2); clear h1 h2)
      have U0 := hd (nv_lit w2 w2.heap.size 2 2 109 rfl rfl (by decide) (by decide))
      have O0 := hd (nv_lit (w2.alloc (.cells #[.int .u32 2] 109)) (w2.heap.size + 1) 2 2 109 (by simp) rfl (by decide) (by decide))
      clear C2 N1 B1 HP
      have D0 := hd (nv_lit ((w2.alloc (.cells #[.int .u32 2] 109)).alloc (.cells #[.int .u32 2] 109)) (w2.heap.size + 1 + 1) 1 1 109 (by simp) rfl (by decide) (by decide))
      with_reducible refine (shift2_nv _ 1 _ 1 D0.o FB.lt11 (by decide)).mono ?_
      rintro x w3 ⟨v3, rfl, h1, h2⟩
      have D3 := hd h1
      have NN := hd (N2.o.al.al.al.below h2)
      have UU := hd (U0.o.al.al.below h2)
      have OO := hd (O0.o.al.below h2)
      have B3 := hd (bel (((B2.o.alloc B2.o.size _).alloc (by have := B2.o.size; simp; omega) _).alloc (by have := B2.o.size; simp; omega) _) h2)
      clear h1 h2
      clear N2 U0 O0 D0 B2
      go_wp2
      go_loop [10, 11] (fun x y => ∃ j t : Nat, x = .int .i64 ((E : Int) + j) ∧ y = .int .u64 t ∧ j ≤ 53 ∧ Hd (t * 2 ^ j ≤ m)) (fun x y => (intOf y).toNat)
      case atStart => exact ⟨0, m, by simp, rfl, by omega, hd (by simp)⟩
      case round =>
        obtain ⟨j, t, rfl, rfl, hj, HT⟩ := hrel
        have ht := top_le HT.o
        by_cases h1 : 1 < t
        · have hj2 := top_bd HT.o HM.o h1
          have HT2 := hd (top_step HT.o)
          have htI : (1 : Int) < (t : Int) := by omega
          have htI2 : (t : Int) < 9007199254740992 := by omega
          clear hj
          go_wp2
          go_round
          case rel => exact ⟨j + 1, t / 2, by go_num, by go_num, hj2, HT2⟩
          case measure => simp [intOf]; omega
        · have htI : (t : Int) ≤ 1 := by omega
          clear HT ht h1 HM hmI hmI0 hc1 hc2 hmq hmq0
          go_wp2_with fail
          with_reducible refine (shift_nv _ (m * 2 ^ 2) E w3 3 NN.o (Nat.lt_trans (Nat.mul_lt_mul_of_pos_right hm (by decide)) (by decide)) (by decide) (by omega)).mono ?_
          rintro x w4 ⟨vw4, rfl, h1, h2⟩
          replace UU := hd (UU.o.below h2)
          replace OO := hd (OO.o.below h2)
          replace D3 := hd (D3.o.below h2)
          replace NN := hd h1
          replace B3 := hd (bel B3.o h2)
          clear h1 h2
          go_wp2_with fail
          with_reducible refine (shift_nv _ 2 E w4 1 UU.o FB.lt12 (by decide) (by omega)).mono ?_
          rintro x w5 ⟨vw5, rfl, h1, h2⟩
          replace NN := hd (NN.o.below h2)
          replace OO := hd (OO.o.below h2)
          replace D3 := hd (D3.o.below h2)
          replace UU := hd h1
          replace B3 := hd (bel B3.o h2)
          clear h1 h2
          go_wp2_with fail
          with_reducible refine (shift_nv _ 2 E w5 1 OO.o FB.lt12 (by decide) (by omega)).mono ?_
          rintro x w6 ⟨vw6, rfl, h1, h2⟩
          replace NN := hd (NN.o.below h2)
          replace UU := hd (UU.o.below h2)
          replace D3 := hd (D3.o.below h2)
          replace OO := hd h1
          replace B3 := hd (bel B3.o h2)
          clear h1 h2
          go_wp2_with fail
          replace NN := hd (NN.o.as (e_shN_pos m E))
          replace D3 := hd (D3.o.as (e_shD_pos E))
          replace UU := hd (UU.o.as (e_und_pos _ E))
          replace OO := hd (OO.o.as (e_und_pos _ E))
          have hjI : (j : Int) ≤ 53 := by omega
          with_reducible refine (size_nv _ _ _ _ _ (-330) 400 w6 40 NN.o D3.o LN.o LD.o (by decide) (by decide) (by decide) (by omega) (by omega) (FS.lt_lo hm1 he1) (FS.lt_hi hm he2)).mono ?_
          rintro x w7 ⟨⟨k, rfl, HK⟩, h2⟩
          replace NN := hd (NN.o.below h2)
          replace UU := hd (UU.o.below h2)
          replace OO := hd (OO.o.below h2)
          replace D3 := hd (D3.o.below h2)
          replace B3 := hd (bel B3.o h2)
          clear h2
          obtain ⟨hkb1, hkb2⟩ := FS.k_bd hm1 hm he1 he2 HK.o.1 HK.o.2
          have HX := hd (And.intro hm1 (And.intro hm (And.intro he1 he2)))
          clear hm1 hm he1 he2 hjI hj htI
          by_cases hk0 : 0 ≤ k
          · obtain ⟨K, rfl⟩ : ∃ K : Nat, k = K := ⟨k.toNat, by omega⟩
            have hK : K ≤ 400 := by omega
            clear hkb1 hkb2 hk0
            go_wp2_with fail
            with_reducible refine (pow_nv K w7 (by omega)).mono ?_
            rintro x w8 ⟨v8, rfl, h1, h2⟩
            have P8 := hd h1
            clear h1
            replace NN := hd (NN.o.below h2)
            replace UU := hd (UU.o.below h2)
            replace OO := hd (OO.o.below h2)
            replace D3 := hd (D3.o.below h2)
            replace B3 := hd (bel B3.o h2)
            clear h2
            go_wp2_with fail
            with_reducible refine (prod_nv _ v8 (FS.shD (E : Int)) (10 ^ K) w8 82 D3.o P8.o (LD.o.up (by decide)) ((FS.lt_ten hK).up (by decide)) (by decide)).mono ?_
            rintro x w9 ⟨v9, rfl, h1, h2⟩
            replace D3 := hd (show NV w9 v9 (FS.shD (E : Int) * 10 ^ (K : Int).toNat) from h1)
            clear h1 P8
            replace NN := hd (NN.o.below h2)
            replace UU := hd (UU.o.below h2)
            replace OO := hd (OO.o.below h2)
            replace B3 := hd (bel B3.o h2)
            clear h2
            replace NN := hd (NN.o.as (e_ten0 _ K))
            replace UU := hd (UU.o.as (e_ten0 _ K))
            replace OO := hd (OO.o.as (e_ten0 _ K))
            go_wp2_with fail
            refine (digits_any _ _ _ _ ((m : Int) % 2 == 0) (K : Int) _ _ _ (K + 400) _ _ _ _ 82 w9 (FS.DG.of (ev := ((m : Int) % 2 == 0)) (s := 2) (k := (K : Int)) (κ := K + 400) HX.o.1 HX.o.2.1 HX.o.2.2.1 HX.o.2.2.2 H10.o (by decide) HK.o.1 HK.o.2 (by omega)) (by omega) (by omega) (by omega) (by omega) NN.o UU.o OO.o D3.o (LD.o.mul (FS.lt_ten hK)) (LU.o.mul (FS.lt_ten (k := (-(K : Int)).toNat) (by omega))) (LO.o.mul (FS.lt_ten (k := (-(K : Int)).toNat) (by omega))) (by decide)).mono ?_
            rintro x w20 ⟨⟨k', hdg⟩, h2⟩
            obtain ⟨d, t2, rfl, q1, q2, q3⟩ := hdg
            have Q1 := hd q1
            have Q2 := hd (And.intro q2 q3)
            replace B3 := hd (bel B3.o h2)
            clear h2 q1 q2 q3 NN UU OO D3
            go_wp2
            go_ret2
            exact ⟨show FS.ShtAns _ _ _ _ _ from ⟨k', d, t2, rfl, Q1.o, Q2.o.1, Q2.o.2⟩, B3.o⟩
          · obtain ⟨K, rfl⟩ : ∃ K : Nat, k = -(K : Int) := ⟨(-k).toNat, by omega⟩
            have hK : K ≤ 400 := by omega
            have hK1 : 1 ≤ K := by omega
            have hK2 : K ≤ 330 := by omega
            clear hkb1 hkb2 hk0
            go_wp2_with fail
            with_reducible refine (pow_nv K _ (by omega)).mono ?_
            rintro x wpNN ⟨vpNN, rfl, h1, h2⟩
            have P8 := hd h1
            clear h1
            replace NN := hd (NN.o.below h2)
            replace UU := hd (UU.o.below h2)
            replace OO := hd (OO.o.below h2)
            replace D3 := hd (D3.o.below h2)
            replace B3 := hd (bel B3.o h2)
            clear h2
            go_wp2_with fail
            with_reducible refine (prod_nv _ vpNN (FS.shN m (E : Int)) (10 ^ K) wpNN 82 NN.o P8.o (LN.o.up (by decide)) ((FS.lt_ten hK).up (by decide)) (by decide)).mono ?_
            rintro x wqNN ⟨vqNN, rfl, h1, h2⟩
            replace NN := hd h1
            clear h1 P8
            replace UU := hd (UU.o.below h2)
            replace OO := hd (OO.o.below h2)
            replace D3 := hd (D3.o.below h2)
            replace B3 := hd (bel B3.o h2)
            clear h2
            go_wp2_with fail
            with_reducible refine (pow_nv K _ (by omega)).mono ?_
            rintro x wpUU ⟨vpUU, rfl, h1, h2⟩
            have P8 := hd h1
            clear h1
            replace NN := hd (NN.o.below h2)
            replace UU := hd (UU.o.below h2)
            replace OO := hd (OO.o.below h2)
            replace D3 := hd (D3.o.below h2)
            replace B3 := hd (bel B3.o h2)
            clear h2
            go_wp2_with fail
            with_reducible refine (prod_nv _ vpUU (2 * 2 ^ (E : Int).toNat) (10 ^ K) wpUU 82 UU.o P8.o (LU.o.up (by decide)) ((FS.lt_ten hK).up (by decide)) (by decide)).mono ?_
            rintro x wqUU ⟨vqUU, rfl, h1, h2⟩
            replace UU := hd h1
            clear h1 P8
            replace NN := hd (NN.o.below h2)
            replace OO := hd (OO.o.below h2)
            replace D3 := hd (D3.o.below h2)
            replace B3 := hd (bel B3.o h2)
            clear h2
            go_wp2_with fail
            with_reducible refine (pow_nv K _ (by omega)).mono ?_
            rintro x wpOO ⟨vpOO, rfl, h1, h2⟩
            have P8 := hd h1
            clear h1
            replace NN := hd (NN.o.below h2)
            replace UU := hd (UU.o.below h2)
            replace OO := hd (OO.o.below h2)
            replace D3 := hd (D3.o.below h2)
            replace B3 := hd (bel B3.o h2)
            clear h2
            go_wp2_with fail
            with_reducible refine (prod_nv _ vpOO (2 * 2 ^ (E : Int).toNat) (10 ^ K) wpOO 82 OO.o P8.o (LO.o.up (by decide)) ((FS.lt_ten hK).up (by decide)) (by decide)).mono ?_
            rintro x wqOO ⟨vqOO, rfl, h1, h2⟩
            replace OO := hd h1
            clear h1 P8
            replace NN := hd (NN.o.below h2)
            replace UU := hd (UU.o.below h2)
            replace D3 := hd (D3.o.below h2)
            replace B3 := hd (bel B3.o h2)
            clear h2
            replace NN := hd (NN.o.as (e_tenN _ K))
            replace UU := hd (UU.o.as (e_tenN _ K))
            replace OO := hd (OO.o.as (e_tenN _ K))
            replace D3 := hd (D3.o.as (e_ten0 _ K))
            go_wp2_with fail
            refine (digits_any _ _ _ _ ((m : Int) % 2 == 0) (-(K : Int)) _ _ _ (400 - K) _ _ _ _ 82 wqOO (FS.DG.of (ev := ((m : Int) % 2 == 0)) (s := 2) (k := (-(K : Int))) (κ := 400 - K) HX.o.1 HX.o.2.1 HX.o.2.2.1 HX.o.2.2.2 H10.o (by decide) HK.o.1 HK.o.2 (by omega)) (by omega) (by omega) (by omega) (by omega) NN.o UU.o OO.o D3.o (LD.o.mul (FS.lt_ten (k := (-(K : Int)).toNat) (by omega))) (LU.o.mul (FS.lt_ten (k := (- -(K : Int)).toNat) (by omega))) (LO.o.mul (FS.lt_ten (k := (- -(K : Int)).toNat) (by omega))) (by decide)).mono ?_
            rintro x w20 ⟨⟨k', hdg⟩, h2⟩
            obtain ⟨d, t2, rfl, q1, q2, q3⟩ := hdg
            have Q1 := hd q1
            have Q2 := hd (And.intro q2 q3)
            replace B3 := hd (bel B3.o h2)
            clear h2 q1 q2 q3 NN UU OO D3
            go_wp2
            go_ret2
            exact ⟨show FS.ShtAns _ _ _ _ _ from ⟨k', d, t2, rfl, Q1.o, Q2.o.1, Q2.o.2⟩, B3.o⟩
  | false =>
    have hs : s = 2 := by simpa using HS.o
    subst hs
    clear HS
    go_wp2_with (go_at_call 134; (with_reducible refine C2.o.mono ?_); rintro x w2 ⟨v2, rfl, h1, h2⟩; have N2 := hd h1; have B2 := hd (bel B1.o h2); clear h1 h2)
    have U0 := hd (nv_lit w2 w2.heap.size 2 2 109 rfl rfl (by decide) (by decide))
    have O0 := hd (nv_lit (w2.alloc (.cells #[.int .u32 2] 109)) (w2.heap.size + 1) 2 2 109 (by simp) rfl (by decide) (by decide))
    clear C2 N1 B1 HP
    have D0 := hd (nv_lit ((w2.alloc (.cells #[.int .u32 2] 109)).alloc (.cells #[.int .u32 2] 109)) (w2.heap.size + 1 + 1) 1 1 109 (by simp) rfl (by decide) (by decide))
    with_reducible refine (shift2_nv _ 1 _ 1 D0.o FB.lt11 (by decide)).mono ?_
    rintro x w3 ⟨v3, rfl, h1, h2⟩
    have D3 := hd h1
    have NN := hd (N2.o.al.al.al.below h2)
    have UU := hd (U0.o.al.al.below h2)
    have OO := hd (O0.o.al.below h2)
    have B3 := hd (bel (((B2.o.alloc B2.o.size _).alloc (by have := B2.o.size; simp; omega) _).alloc (by have := B2.o.size; simp; omega) _) h2)
    clear h1 h2
    clear N2 U0 O0 D0 B2
    go_wp2
    go_loop [10, 11] (fun x y => ∃ j t : Nat, x = .int .i64 ((E : Int) + j) ∧ y = .int .u64 t ∧ j ≤ 53 ∧ Hd (t * 2 ^ j ≤ m)) (fun x y => (intOf y).toNat)
    case atStart => exact ⟨0, m, by simp, rfl, by omega, hd (by simp)⟩
    case round =>
      obtain ⟨j, t, rfl, rfl, hj, HT⟩ := hrel
      have ht := top_le HT.o
      by_cases h1 : 1 < t
      · have hj2 := top_bd HT.o HM.o h1
        have HT2 := hd (top_step HT.o)
        have htI : (1 : Int) < (t : Int) := by omega
        have htI2 : (t : Int) < 9007199254740992 := by omega
        clear hj
        go_wp2
        go_round
        case rel => exact ⟨j + 1, t / 2, by go_num, by go_num, hj2, HT2⟩
        case measure => simp [intOf]; omega
      · have htI : (t : Int) ≤ 1 := by omega
        clear HT ht h1 HM hmI hmI0 hc1 hc2 hmq hmq0
        go_wp2_with fail
        with_reducible refine (shift_nv _ (m * 2 ^ 2) E w3 3 NN.o (Nat.lt_trans (Nat.mul_lt_mul_of_pos_right hm (by decide)) (by decide)) (by decide) (by omega)).mono ?_
        rintro x w4 ⟨vw4, rfl, h1, h2⟩
        replace UU := hd (UU.o.below h2)
        replace OO := hd (OO.o.below h2)
        replace D3 := hd (D3.o.below h2)
        replace NN := hd h1
        replace B3 := hd (bel B3.o h2)
        clear h1 h2
        go_wp2_with fail
        with_reducible refine (shift_nv _ 2 E w4 1 UU.o FB.lt12 (by decide) (by omega)).mono ?_
        rintro x w5 ⟨vw5, rfl, h1, h2⟩
        replace NN := hd (NN.o.below h2)
        replace OO := hd (OO.o.below h2)
        replace D3 := hd (D3.o.below h2)
        replace UU := hd h1
        replace B3 := hd (bel B3.o h2)
        clear h1 h2
        go_wp2_with fail
        with_reducible refine (shift_nv _ 2 E w5 1 OO.o FB.lt12 (by decide) (by omega)).mono ?_
        rintro x w6 ⟨vw6, rfl, h1, h2⟩
        replace NN := hd (NN.o.below h2)
        replace UU := hd (UU.o.below h2)
        replace D3 := hd (D3.o.below h2)
        replace OO := hd h1
        replace B3 := hd (bel B3.o h2)
        clear h1 h2
        go_wp2_with fail
        replace NN := hd (NN.o.as (e_shN_pos m E))
        replace D3 := hd (D3.o.as (e_shD_pos E))
        replace UU := hd (UU.o.as (e_und_pos _ E))
        replace OO := hd (OO.o.as (e_und_pos _ E))
        have hjI : (j : Int) ≤ 53 := by omega
        with_reducible refine (size_nv _ _ _ _ _ (-330) 400 w6 40 NN.o D3.o LN.o LD.o (by decide) (by decide) (by decide) (by omega) (by omega) (FS.lt_lo hm1 he1) (FS.lt_hi hm he2)).mono ?_
        rintro x w7 ⟨⟨k, rfl, HK⟩, h2⟩
        replace NN := hd (NN.o.below h2)
        replace UU := hd (UU.o.below h2)
        replace OO := hd (OO.o.below h2)
        replace D3 := hd (D3.o.below h2)
        replace B3 := hd (bel B3.o h2)
        clear h2
        obtain ⟨hkb1, hkb2⟩ := FS.k_bd hm1 hm he1 he2 HK.o.1 HK.o.2
        have HX := hd (And.intro hm1 (And.intro hm (And.intro he1 he2)))
        clear hm1 hm he1 he2 hjI hj htI
        by_cases hk0 : 0 ≤ k
        · obtain ⟨K, rfl⟩ : ∃ K : Nat, k = K := ⟨k.toNat, by omega⟩
          have hK : K ≤ 400 := by omega
          clear hkb1 hkb2 hk0
          go_wp2_with fail
          with_reducible refine (pow_nv K w7 (by omega)).mono ?_
          rintro x w8 ⟨v8, rfl, h1, h2⟩
          have P8 := hd h1
          clear h1
          replace NN := hd (NN.o.below h2)
          replace UU := hd (UU.o.below h2)
          replace OO := hd (OO.o.below h2)
          replace D3 := hd (D3.o.below h2)
          replace B3 := hd (bel B3.o h2)
          clear h2
          go_wp2_with fail
          with_reducible refine (prod_nv _ v8 (FS.shD (E : Int)) (10 ^ K) w8 82 D3.o P8.o (LD.o.up (by decide)) ((FS.lt_ten hK).up (by decide)) (by decide)).mono ?_
          rintro x w9 ⟨v9, rfl, h1, h2⟩
          replace D3 := hd (show NV w9 v9 (FS.shD (E : Int) * 10 ^ (K : Int).toNat) from h1)
          clear h1 P8
          replace NN := hd (NN.o.below h2)
          replace UU := hd (UU.o.below h2)
          replace OO := hd (OO.o.below h2)
          replace B3 := hd (bel B3.o h2)
          clear h2
          replace NN := hd (NN.o.as (e_ten0 _ K))
          replace UU := hd (UU.o.as (e_ten0 _ K))
          replace OO := hd (OO.o.as (e_ten0 _ K))
          go_wp2_with fail
          refine (digits_any _ _ _ _ ((m : Int) % 2 == 0) (K : Int) _ _ _ (K + 400) _ _ _ _ 82 w9 (FS.DG.of (ev := ((m : Int) % 2 == 0)) (s := 2) (k := (K : Int)) (κ := K + 400) HX.o.1 HX.o.2.1 HX.o.2.2.1 HX.o.2.2.2 H10.o (by decide) HK.o.1 HK.o.2 (by omega)) (by omega) (by omega) (by omega) (by omega) NN.o UU.o OO.o D3.o (LD.o.mul (FS.lt_ten hK)) (LU.o.mul (FS.lt_ten (k := (-(K : Int)).toNat) (by omega))) (LO.o.mul (FS.lt_ten (k := (-(K : Int)).toNat) (by omega))) (by decide)).mono ?_
          rintro x w20 ⟨⟨k', hdg⟩, h2⟩
          obtain ⟨d, t2, rfl, q1, q2, q3⟩ := hdg
          have Q1 := hd q1
          have Q2 := hd (And.intro q2 q3)
          replace B3 := hd (bel B3.o h2)
          clear h2 q1 q2 q3 NN UU OO D3
          go_wp2
          go_ret2
          exact ⟨show FS.ShtAns _ _ _ _ _ from ⟨k', d, t2, rfl, Q1.o, Q2.o.1, Q2.o.2⟩, B3.o⟩
        · obtain ⟨K, rfl⟩ : ∃ K : Nat, k = -(K : Int) := ⟨(-k).toNat, by omega⟩
          have hK : K ≤ 400 := by omega
          have hK1 : 1 ≤ K := by omega
          have hK2 : K ≤ 330 := by omega
          clear hkb1 hkb2 hk0
          go_wp2_with fail
          with_reducible refine (pow_nv K _ (by omega)).mono ?_
          rintro x wpNN ⟨vpNN, rfl, h1, h2⟩
          have P8 := hd h1
          clear h1
          replace NN := hd (NN.o.below h2)
          replace UU := hd (UU.o.below h2)
          replace OO := hd (OO.o.below h2)
          replace D3 := hd (D3.o.below h2)
          replace B3 := hd (bel B3.o h2)
          clear h2
          go_wp2_with fail
          with_reducible refine (prod_nv _ vpNN (FS.shN m (E : Int)) (10 ^ K) wpNN 82 NN.o P8.o (LN.o.up (by decide)) ((FS.lt_ten hK).up (by decide)) (by decide)).mono ?_
          rintro x wqNN ⟨vqNN, rfl, h1, h2⟩
          replace NN := hd h1
          clear h1 P8
          replace UU := hd (UU.o.below h2)
          replace OO := hd (OO.o.below h2)
          replace D3 := hd (D3.o.below h2)
          replace B3 := hd (bel B3.o h2)
          clear h2
          go_wp2_with fail
          with_reducible refine (pow_nv K _ (by omega)).mono ?_
          rintro x wpUU ⟨vpUU, rfl, h1, h2⟩
          have P8 := hd h1
          clear h1
          replace NN := hd (NN.o.below h2)
          replace UU := hd (UU.o.below h2)
          replace OO := hd (OO.o.below h2)
          replace D3 := hd (D3.o.below h2)
          replace B3 := hd (bel B3.o h2)
          clear h2
          go_wp2_with fail
          with_reducible refine (prod_nv _ vpUU (2 * 2 ^ (E : Int).toNat) (10 ^ K) wpUU 82 UU.o P8.o (LU.o.up (by decide)) ((FS.lt_ten hK).up (by decide)) (by decide)).mono ?_
          rintro x wqUU ⟨vqUU, rfl, h1, h2⟩
          replace UU := hd h1
          clear h1 P8
          replace NN := hd (NN.o.below h2)
          replace OO := hd (OO.o.below h2)
          replace D3 := hd (D3.o.below h2)
          replace B3 := hd (bel B3.o h2)
          clear h2
          go_wp2_with fail
          with_reducible refine (pow_nv K _ (by omega)).mono ?_
          rintro x wpOO ⟨vpOO, rfl, h1, h2⟩
          have P8 := hd h1
          clear h1
          replace NN := hd (NN.o.below h2)
          replace UU := hd (UU.o.below h2)
          replace OO := hd (OO.o.below h2)
          replace D3 := hd (D3.o.below h2)
          replace B3 := hd (bel B3.o h2)
          clear h2
          go_wp2_with fail
          with_reducible refine (prod_nv _ vpOO (2 * 2 ^ (E : Int).toNat) (10 ^ K) wpOO 82 OO.o P8.o (LO.o.up (by decide)) ((FS.lt_ten hK).up (by decide)) (by decide)).mono ?_
          rintro x wqOO ⟨vqOO, rfl, h1, h2⟩
          replace OO := hd h1
          clear h1 P8
          replace NN := hd (NN.o.below h2)
          replace UU := hd (UU.o.below h2)
          replace D3 := hd (D3.o.below h2)
          replace B3 := hd (bel B3.o h2)
          clear h2
          replace NN := hd (NN.o.as (e_tenN _ K))
          replace UU := hd (UU.o.as (e_tenN _ K))
          replace OO := hd (OO.o.as (e_tenN _ K))
          replace D3 := hd (D3.o.as (e_ten0 _ K))
          go_wp2_with fail
          refine (digits_any _ _ _ _ ((m : Int) % 2 == 0) (-(K : Int)) _ _ _ (400 - K) _ _ _ _ 82 wqOO (FS.DG.of (ev := ((m : Int) % 2 == 0)) (s := 2) (k := (-(K : Int))) (κ := 400 - K) HX.o.1 HX.o.2.1 HX.o.2.2.1 HX.o.2.2.2 H10.o (by decide) HK.o.1 HK.o.2 (by omega)) (by omega) (by omega) (by omega) (by omega) NN.o UU.o OO.o D3.o (LD.o.mul (FS.lt_ten (k := (-(K : Int)).toNat) (by omega))) (LU.o.mul (FS.lt_ten (k := (- -(K : Int)).toNat) (by omega))) (LO.o.mul (FS.lt_ten (k := (- -(K : Int)).toNat) (by omega))) (by decide)).mono ?_
          rintro x w20 ⟨⟨k', hdg⟩, h2⟩
          obtain ⟨d, t2, rfl, q1, q2, q3⟩ := hdg
          have Q1 := hd q1
          have Q2 := hd (And.intro q2 q3)
          replace B3 := hd (bel B3.o h2)
          clear h2 q1 q2 q3 NN UU OO D3
          go_wp2
          go_ret2
          exact ⟨show FS.ShtAns _ _ _ _ _ from ⟨k', d, t2, rfl, Q1.o, Q2.o.1, Q2.o.2⟩, B3.o⟩
set_option maxRecDepth 100000 in
set_option maxHeartbeats 8000000 in
theorem short_neg (b m E : Nat) (s : Nat) (c1 c2 : Bool) (w : World) (HP : Hd (Calls Tryz.prog 104 #[.int .u64 (b : Int)] w fun x w' => x = .returned (.tuple #[.int .u64 (m : Int), .int .i64 (-(E : Int))]) ∧ w = w'))
    (hm1 : 1 ≤ m) (hm : m < 9007199254740992) (hE : 1 ≤ E ∧ E ≤ 1074) (H10 : Hd (10 ≤ m ∨ (-(E : Int)) = -1074)) (hc1 : ((m : Int) == 4503599627370496) = c1) (hc2 : decide ((E : Int) < 1074) = c2) (HS : Hd (s = if c1 && c2 then 1 else 2)) :
    Calls Tryz.prog 123 #[.int .u64 (b : Int)] w fun x w' => FS.ShtAns ((m : Int) % 2 == 0) m (-(E : Int)) s x ∧ Below w.heap.size w w' := by
  have hmI : (m : Int) < 9007199254740992 := by omega
  have hmI0 : (0 : Int) < (m : Int) := by omega
  have hmq : (m : Int) / 4294967296 < 4294967296 := by omega
  have hmq0 : 0 ≤ (m : Int) / 4294967296 := by omega
  have he1 : -1074 ≤ (-(E : Int)) := by omega
  have he2 : (-(E : Int)) ≤ 971 := by omega
  have HM := hd hm

  have LN := hd (FS.lt_shN (e := (-(E : Int))) hm he2)
  have LD := hd (FS.lt_shD (e := (-(E : Int))) he1)
  have LU := hd (FS.lt_und (s := s) (e := (-(E : Int))) (by have := HS.o; cases c1 <;> cases c2 <;> simp_all) he2)
  have LO := hd (FS.lt_und (s := 2) (e := (-(E : Int))) (by decide) he2)
  go_enter Tryz.func123, Tryz.ntmps123
  go_wp2_with (go_at_call 104; refine HP.o.mono ?_; rintro x w1 ⟨rfl, rfl⟩)
  go_wp2_with (go_at_call 103; (with_reducible refine (trim_two w _ m _ _ rfl rfl rfl HM.o).mono ?_); rintro x w1 ⟨v1, rfl, h1, h2⟩; have N1 := hd h1; have B1 := hd (bel ((Below.refl _ _).alloc (Nat.le_refl _) _) h2); clear h1 h2)
  have C2 := hd (shift2_nv v1 m w1 3 N1.o (Nat.lt_trans HM.o (by decide)) (by decide))
  cases c1 with
  | true =>
    cases c2 with
    | true =>
      have hs : s = 1 := by simpa using HS.o
      subst hs
      clear HS
      go_wp2_with (go_at_call 134; (with_reducible refine C2.o.mono ?_); rintro x w2 ⟨v2, rfl, h1, h2⟩; have N2 := hd h1; have B2 := hd (bel B1.o h2); clear h1 h2)
      have U0 := hd (nv_lit w2 w2.heap.size 2 2 109 rfl rfl (by decide) (by decide))
      have O0 := hd (nv_lit (w2.alloc (.cells #[.int .u32 2] 109)) (w2.heap.size + 1) 2 2 109 (by simp) rfl (by decide) (by decide))
      clear C2 N1 B1 HP
      have U1 := hd (nv_lit ((w2.alloc (.cells #[.int .u32 2] 109)).alloc (.cells #[.int .u32 2] 109)) (w2.heap.size + 1 + 1) 1 1 109 (by simp) rfl (by decide) (by decide))
      have D0 := hd (nv_lit (((w2.alloc (.cells #[.int .u32 2] 109)).alloc (.cells #[.int .u32 2] 109)).alloc (.cells #[.int .u32 1] 109)) (w2.heap.size + 1 + 1 + 1) 1 1 109 (by simp) rfl (by decide) (by decide))
      with_reducible refine (shift2_nv _ 1 _ 1 D0.o FB.lt11 (by decide)).mono ?_
      rintro x w3 ⟨v3, rfl, h1, h2⟩
      have D3 := hd h1
      have NN := hd (N2.o.al.al.al.al.below h2)
      have UU := hd (U1.o.al.below h2)
      have OO := hd (O0.o.al.al.below h2)
      have B3 := hd (bel ((((B2.o.alloc B2.o.size _).alloc (by have := B2.o.size; simp; omega) _).alloc (by have := B2.o.size; simp; omega) _).alloc (by have := B2.o.size; simp; omega) _) h2)
      clear h1 h2 U1
      clear N2 U0 O0 D0 B2
      go_wp2
      go_loop [10, 11] (fun x y => ∃ j t : Nat, x = .int .i64 ((-(E : Int)) + j) ∧ y = .int .u64 t ∧ j ≤ 53 ∧ Hd (t * 2 ^ j ≤ m)) (fun x y => (intOf y).toNat)
      case atStart => exact ⟨0, m, by simp, rfl, by omega, hd (by simp)⟩
      case round =>
        obtain ⟨j, t, rfl, rfl, hj, HT⟩ := hrel
        have ht := top_le HT.o
        by_cases h1 : 1 < t
        · have hj2 := top_bd HT.o HM.o h1
          have HT2 := hd (top_step HT.o)
          have htI : (1 : Int) < (t : Int) := by omega
          have htI2 : (t : Int) < 9007199254740992 := by omega
          clear hj
          go_wp2
          go_round
          case rel => exact ⟨j + 1, t / 2, by go_num, by go_num, hj2, HT2⟩
          case measure => simp [intOf]; omega
        · have htI : (t : Int) ≤ 1 := by omega
          clear HT ht h1 HM hmI hmI0 hc1 hc2 hmq hmq0
          go_wp2_with fail
          with_reducible refine (shift_nv _ (1 * 2 ^ 2) E w3 1 D3.o FB.lt14 (by decide) (by omega)).mono ?_
          rintro x w6 ⟨vw6, rfl, h1, h2⟩
          replace NN := hd (NN.o.below h2)
          replace UU := hd (UU.o.below h2)
          replace OO := hd (OO.o.below h2)
          replace D3 := hd h1
          replace B3 := hd (bel B3.o h2)
          clear h1 h2
          go_wp2_with fail
          replace NN := hd (NN.o.as (e_shN_neg m E))
          replace D3 := hd (D3.o.as (e_shD_neg E))
          replace UU := hd (UU.o.as (e_und_neg 1 E))
          replace OO := hd (OO.o.as (e_und_neg 2 E))
          have hjI : (j : Int) ≤ 53 := by omega
          with_reducible refine (size_nv _ _ _ _ _ (-330) 400 w6 40 NN.o D3.o LN.o LD.o (by decide) (by decide) (by decide) (guess_bd (by omega) (by omega)).1 (guess_bd (by omega) (by omega)).2 (FS.lt_lo hm1 he1) (FS.lt_hi hm he2)).mono ?_
          rintro x w7 ⟨⟨k, rfl, HK⟩, h2⟩
          replace NN := hd (NN.o.below h2)
          replace UU := hd (UU.o.below h2)
          replace OO := hd (OO.o.below h2)
          replace D3 := hd (D3.o.below h2)
          replace B3 := hd (bel B3.o h2)
          clear h2
          obtain ⟨hkb1, hkb2⟩ := FS.k_bd hm1 hm he1 he2 HK.o.1 HK.o.2
          have HX := hd (And.intro hm1 (And.intro hm (And.intro he1 he2)))
          clear hm1 hm he1 he2 hjI hj htI
          by_cases hk0 : 0 ≤ k
          · obtain ⟨K, rfl⟩ : ∃ K : Nat, k = K := ⟨k.toNat, by omega⟩
            have hK : K ≤ 400 := by omega
            clear hkb1 hkb2 hk0
            go_wp2_with fail
            with_reducible refine (pow_nv K w7 (by omega)).mono ?_
            rintro x w8 ⟨v8, rfl, h1, h2⟩
            have P8 := hd h1
            clear h1
            replace NN := hd (NN.o.below h2)
            replace UU := hd (UU.o.below h2)
            replace OO := hd (OO.o.below h2)
            replace D3 := hd (D3.o.below h2)
            replace B3 := hd (bel B3.o h2)
            clear h2
            go_wp2_with fail
            with_reducible refine (prod_nv _ v8 (FS.shD (-(E : Int))) (10 ^ K) w8 82 D3.o P8.o (LD.o.up (by decide)) ((FS.lt_ten hK).up (by decide)) (by decide)).mono ?_
            rintro x w9 ⟨v9, rfl, h1, h2⟩
            replace D3 := hd (show NV w9 v9 (FS.shD (-(E : Int)) * 10 ^ (K : Int).toNat) from h1)
            clear h1 P8
            replace NN := hd (NN.o.below h2)
            replace UU := hd (UU.o.below h2)
            replace OO := hd (OO.o.below h2)
            replace B3 := hd (bel B3.o h2)
            clear h2
            replace NN := hd (NN.o.as (e_ten0 _ K))
            replace UU := hd (UU.o.as (e_ten0 _ K))
            replace OO := hd (OO.o.as (e_ten0 _ K))
            go_wp2_with fail
            refine (digits_any _ _ _ _ ((m : Int) % 2 == 0) (K : Int) _ _ _ (K + 400) _ _ _ _ 82 w9 (FS.DG.of (ev := ((m : Int) % 2 == 0)) (s := 1) (k := (K : Int)) (κ := K + 400) HX.o.1 HX.o.2.1 HX.o.2.2.1 HX.o.2.2.2 H10.o (by decide) HK.o.1 HK.o.2 (by omega)) (by omega) (by omega) (by omega) (by omega) NN.o UU.o OO.o D3.o (LD.o.mul (FS.lt_ten hK)) (LU.o.mul (FS.lt_ten (k := (-(K : Int)).toNat) (by omega))) (LO.o.mul (FS.lt_ten (k := (-(K : Int)).toNat) (by omega))) (by decide)).mono ?_
            rintro x w20 ⟨⟨k', hdg⟩, h2⟩
            obtain ⟨d, t2, rfl, q1, q2, q3⟩ := hdg
            have Q1 := hd q1
            have Q2 := hd (And.intro q2 q3)
            replace B3 := hd (bel B3.o h2)
            clear h2 q1 q2 q3 NN UU OO D3
            go_wp2
            go_ret2
            exact ⟨show FS.ShtAns _ _ _ _ _ from ⟨k', d, t2, rfl, Q1.o, Q2.o.1, Q2.o.2⟩, B3.o⟩
          · obtain ⟨K, rfl⟩ : ∃ K : Nat, k = -(K : Int) := ⟨(-k).toNat, by omega⟩
            have hK : K ≤ 400 := by omega
            have hK1 : 1 ≤ K := by omega
            have hK2 : K ≤ 330 := by omega
            clear hkb1 hkb2 hk0
            go_wp2_with fail
            with_reducible refine (pow_nv K _ (by omega)).mono ?_
            rintro x wpNN ⟨vpNN, rfl, h1, h2⟩
            have P8 := hd h1
            clear h1
            replace NN := hd (NN.o.below h2)
            replace UU := hd (UU.o.below h2)
            replace OO := hd (OO.o.below h2)
            replace D3 := hd (D3.o.below h2)
            replace B3 := hd (bel B3.o h2)
            clear h2
            go_wp2_with fail
            with_reducible refine (prod_nv _ vpNN (FS.shN m (-(E : Int))) (10 ^ K) wpNN 82 NN.o P8.o (LN.o.up (by decide)) ((FS.lt_ten hK).up (by decide)) (by decide)).mono ?_
            rintro x wqNN ⟨vqNN, rfl, h1, h2⟩
            replace NN := hd h1
            clear h1 P8
            replace UU := hd (UU.o.below h2)
            replace OO := hd (OO.o.below h2)
            replace D3 := hd (D3.o.below h2)
            replace B3 := hd (bel B3.o h2)
            clear h2
            go_wp2_with fail
            with_reducible refine (pow_nv K _ (by omega)).mono ?_
            rintro x wpUU ⟨vpUU, rfl, h1, h2⟩
            have P8 := hd h1
            clear h1
            replace NN := hd (NN.o.below h2)
            replace UU := hd (UU.o.below h2)
            replace OO := hd (OO.o.below h2)
            replace D3 := hd (D3.o.below h2)
            replace B3 := hd (bel B3.o h2)
            clear h2
            go_wp2_with fail
            with_reducible refine (prod_nv _ vpUU (1 * 2 ^ (-(E : Int)).toNat) (10 ^ K) wpUU 82 UU.o P8.o (LU.o.up (by decide)) ((FS.lt_ten hK).up (by decide)) (by decide)).mono ?_
            rintro x wqUU ⟨vqUU, rfl, h1, h2⟩
            replace UU := hd h1
            clear h1 P8
            replace NN := hd (NN.o.below h2)
            replace OO := hd (OO.o.below h2)
            replace D3 := hd (D3.o.below h2)
            replace B3 := hd (bel B3.o h2)
            clear h2
            go_wp2_with fail
            with_reducible refine (pow_nv K _ (by omega)).mono ?_
            rintro x wpOO ⟨vpOO, rfl, h1, h2⟩
            have P8 := hd h1
            clear h1
            replace NN := hd (NN.o.below h2)
            replace UU := hd (UU.o.below h2)
            replace OO := hd (OO.o.below h2)
            replace D3 := hd (D3.o.below h2)
            replace B3 := hd (bel B3.o h2)
            clear h2
            go_wp2_with fail
            with_reducible refine (prod_nv _ vpOO (2 * 2 ^ (-(E : Int)).toNat) (10 ^ K) wpOO 82 OO.o P8.o (LO.o.up (by decide)) ((FS.lt_ten hK).up (by decide)) (by decide)).mono ?_
            rintro x wqOO ⟨vqOO, rfl, h1, h2⟩
            replace OO := hd h1
            clear h1 P8
            replace NN := hd (NN.o.below h2)
            replace UU := hd (UU.o.below h2)
            replace D3 := hd (D3.o.below h2)
            replace B3 := hd (bel B3.o h2)
            clear h2
            replace NN := hd (NN.o.as (e_tenN _ K))
            replace UU := hd (UU.o.as (e_tenN _ K))
            replace OO := hd (OO.o.as (e_tenN _ K))
            replace D3 := hd (D3.o.as (e_ten0 _ K))
            go_wp2_with fail
            refine (digits_any _ _ _ _ ((m : Int) % 2 == 0) (-(K : Int)) _ _ _ (400 - K) _ _ _ _ 82 wqOO (FS.DG.of (ev := ((m : Int) % 2 == 0)) (s := 1) (k := (-(K : Int))) (κ := 400 - K) HX.o.1 HX.o.2.1 HX.o.2.2.1 HX.o.2.2.2 H10.o (by decide) HK.o.1 HK.o.2 (by omega)) (by omega) (by omega) (by omega) (by omega) NN.o UU.o OO.o D3.o (LD.o.mul (FS.lt_ten (k := (-(K : Int)).toNat) (by omega))) (LU.o.mul (FS.lt_ten (k := (- -(K : Int)).toNat) (by omega))) (LO.o.mul (FS.lt_ten (k := (- -(K : Int)).toNat) (by omega))) (by decide)).mono ?_
            rintro x w20 ⟨⟨k', hdg⟩, h2⟩
            obtain ⟨d, t2, rfl, q1, q2, q3⟩ := hdg
            have Q1 := hd q1
            have Q2 := hd (And.intro q2 q3)
            replace B3 := hd (bel B3.o h2)
            clear h2 q1 q2 q3 NN UU OO D3
            go_wp2
            go_ret2
            exact ⟨show FS.ShtAns _ _ _ _ _ from ⟨k', d, t2, rfl, Q1.o, Q2.o.1, Q2.o.2⟩, B3.o⟩
    | false =>
      have hs : s = 2 := by simpa using HS.o
      subst hs
      clear HS
      go_wp2_with (go_at_call 134; (with_reducible refine C2.o.mono ?_); rintro x w2 ⟨v2, rfl, h1, h2⟩; have N2 := hd h1; have B2 := hd (bel B1.o h2); clear h1 h2)
      have U0 := hd (nv_lit w2 w2.heap.size 2 2 109 rfl rfl (by decide) (by decide))
      have O0 := hd (nv_lit (w2.alloc (.cells #[.int .u32 2] 109)) (w2.heap.size + 1) 2 2 109 (by simp) rfl (by decide) (by decide))
      clear C2 N1 B1 HP
      have D0 := hd (nv_lit ((w2.alloc (.cells #[.int .u32 2] 109)).alloc (.cells #[.int .u32 2] 109)) (w2.heap.size + 1 + 1) 1 1 109 (by simp) rfl (by decide) (by decide))
      with_reducible refine (shift2_nv _ 1 _ 1 D0.o FB.lt11 (by decide)).mono ?_
      rintro x w3 ⟨v3, rfl, h1, h2⟩
      have D3 := hd h1
      have NN := hd (N2.o.al.al.al.below h2)
      have UU := hd (U0.o.al.al.below h2)
      have OO := hd (O0.o.al.below h2)
      have B3 := hd (bel (((B2.o.alloc B2.o.size _).alloc (by have := B2.o.size; simp; omega) _).alloc (by have := B2.o.size; simp; omega) _) h2)
      clear h1 h2
      clear N2 U0 O0 D0 B2
      go_wp2
      go_loop [10, 11] (fun x y => ∃ j t : Nat, x = .int .i64 ((-(E : Int)) + j) ∧ y = .int .u64 t ∧ j ≤ 53 ∧ Hd (t * 2 ^ j ≤ m)) (fun x y => (intOf y).toNat)
      case atStart => exact ⟨0, m, by simp, rfl, by omega, hd (by simp)⟩
      case round =>
        obtain ⟨j, t, rfl, rfl, hj, HT⟩ := hrel
        have ht := top_le HT.o
        by_cases h1 : 1 < t
        · have hj2 := top_bd HT.o HM.o h1
          have HT2 := hd (top_step HT.o)
          have htI : (1 : Int) < (t : Int) := by omega
          have htI2 : (t : Int) < 9007199254740992 := by omega
          clear hj
          go_wp2
          go_round
          case rel => exact ⟨j + 1, t / 2, by go_num, by go_num, hj2, HT2⟩
          case measure => simp [intOf]; omega
        · have htI : (t : Int) ≤ 1 := by omega
          clear HT ht h1 HM hmI hmI0 hc1 hc2 hmq hmq0
          go_wp2_with fail
          with_reducible refine (shift_nv _ (1 * 2 ^ 2) E w3 1 D3.o FB.lt14 (by decide) (by omega)).mono ?_
          rintro x w6 ⟨vw6, rfl, h1, h2⟩
          replace NN := hd (NN.o.below h2)
          replace UU := hd (UU.o.below h2)
          replace OO := hd (OO.o.below h2)
          replace D3 := hd h1
          replace B3 := hd (bel B3.o h2)
          clear h1 h2
          go_wp2_with fail
          replace NN := hd (NN.o.as (e_shN_neg m E))
          replace D3 := hd (D3.o.as (e_shD_neg E))
          replace UU := hd (UU.o.as (e_und_neg 2 E))
          replace OO := hd (OO.o.as (e_und_neg 2 E))
          have hjI : (j : Int) ≤ 53 := by omega
          with_reducible refine (size_nv _ _ _ _ _ (-330) 400 w6 40 NN.o D3.o LN.o LD.o (by decide) (by decide) (by decide) (guess_bd (by omega) (by omega)).1 (guess_bd (by omega) (by omega)).2 (FS.lt_lo hm1 he1) (FS.lt_hi hm he2)).mono ?_
          rintro x w7 ⟨⟨k, rfl, HK⟩, h2⟩
          replace NN := hd (NN.o.below h2)
          replace UU := hd (UU.o.below h2)
          replace OO := hd (OO.o.below h2)
          replace D3 := hd (D3.o.below h2)
          replace B3 := hd (bel B3.o h2)
          clear h2
          obtain ⟨hkb1, hkb2⟩ := FS.k_bd hm1 hm he1 he2 HK.o.1 HK.o.2
          have HX := hd (And.intro hm1 (And.intro hm (And.intro he1 he2)))
          clear hm1 hm he1 he2 hjI hj htI
          by_cases hk0 : 0 ≤ k
          · obtain ⟨K, rfl⟩ : ∃ K : Nat, k = K := ⟨k.toNat, by omega⟩
            have hK : K ≤ 400 := by omega
            clear hkb1 hkb2 hk0
            go_wp2_with fail
            with_reducible refine (pow_nv K w7 (by omega)).mono ?_
            rintro x w8 ⟨v8, rfl, h1, h2⟩
            have P8 := hd h1
            clear h1
            replace NN := hd (NN.o.below h2)
            replace UU := hd (UU.o.below h2)
            replace OO := hd (OO.o.below h2)
            replace D3 := hd (D3.o.below h2)
            replace B3 := hd (bel B3.o h2)
            clear h2
            go_wp2_with fail
            with_reducible refine (prod_nv _ v8 (FS.shD (-(E : Int))) (10 ^ K) w8 82 D3.o P8.o (LD.o.up (by decide)) ((FS.lt_ten hK).up (by decide)) (by decide)).mono ?_
            rintro x w9 ⟨v9, rfl, h1, h2⟩
            replace D3 := hd (show NV w9 v9 (FS.shD (-(E : Int)) * 10 ^ (K : Int).toNat) from h1)
            clear h1 P8
            replace NN := hd (NN.o.below h2)
            replace UU := hd (UU.o.below h2)
            replace OO := hd (OO.o.below h2)
            replace B3 := hd (bel B3.o h2)
            clear h2
            replace NN := hd (NN.o.as (e_ten0 _ K))
            replace UU := hd (UU.o.as (e_ten0 _ K))
            replace OO := hd (OO.o.as (e_ten0 _ K))
            go_wp2_with fail
            refine (digits_any _ _ _ _ ((m : Int) % 2 == 0) (K : Int) _ _ _ (K + 400) _ _ _ _ 82 w9 (FS.DG.of (ev := ((m : Int) % 2 == 0)) (s := 2) (k := (K : Int)) (κ := K + 400) HX.o.1 HX.o.2.1 HX.o.2.2.1 HX.o.2.2.2 H10.o (by decide) HK.o.1 HK.o.2 (by omega)) (by omega) (by omega) (by omega) (by omega) NN.o UU.o OO.o D3.o (LD.o.mul (FS.lt_ten hK)) (LU.o.mul (FS.lt_ten (k := (-(K : Int)).toNat) (by omega))) (LO.o.mul (FS.lt_ten (k := (-(K : Int)).toNat) (by omega))) (by decide)).mono ?_
            rintro x w20 ⟨⟨k', hdg⟩, h2⟩
            obtain ⟨d, t2, rfl, q1, q2, q3⟩ := hdg
            have Q1 := hd q1
            have Q2 := hd (And.intro q2 q3)
            replace B3 := hd (bel B3.o h2)
            clear h2 q1 q2 q3 NN UU OO D3
            go_wp2
            go_ret2
            exact ⟨show FS.ShtAns _ _ _ _ _ from ⟨k', d, t2, rfl, Q1.o, Q2.o.1, Q2.o.2⟩, B3.o⟩
          · obtain ⟨K, rfl⟩ : ∃ K : Nat, k = -(K : Int) := ⟨(-k).toNat, by omega⟩
            have hK : K ≤ 400 := by omega
            have hK1 : 1 ≤ K := by omega
            have hK2 : K ≤ 330 := by omega
            clear hkb1 hkb2 hk0
            go_wp2_with fail
            with_reducible refine (pow_nv K _ (by omega)).mono ?_
            rintro x wpNN ⟨vpNN, rfl, h1, h2⟩
            have P8 := hd h1
            clear h1
            replace NN := hd (NN.o.below h2)
            replace UU := hd (UU.o.below h2)
            replace OO := hd (OO.o.below h2)
            replace D3 := hd (D3.o.below h2)
            replace B3 := hd (bel B3.o h2)
            clear h2
            go_wp2_with fail
            with_reducible refine (prod_nv _ vpNN (FS.shN m (-(E : Int))) (10 ^ K) wpNN 82 NN.o P8.o (LN.o.up (by decide)) ((FS.lt_ten hK).up (by decide)) (by decide)).mono ?_
            rintro x wqNN ⟨vqNN, rfl, h1, h2⟩
            replace NN := hd h1
            clear h1 P8
            replace UU := hd (UU.o.below h2)
            replace OO := hd (OO.o.below h2)
            replace D3 := hd (D3.o.below h2)
            replace B3 := hd (bel B3.o h2)
            clear h2
            go_wp2_with fail
            with_reducible refine (pow_nv K _ (by omega)).mono ?_
            rintro x wpUU ⟨vpUU, rfl, h1, h2⟩
            have P8 := hd h1
            clear h1
            replace NN := hd (NN.o.below h2)
            replace UU := hd (UU.o.below h2)
            replace OO := hd (OO.o.below h2)
            replace D3 := hd (D3.o.below h2)
            replace B3 := hd (bel B3.o h2)
            clear h2
            go_wp2_with fail
            with_reducible refine (prod_nv _ vpUU (2 * 2 ^ (-(E : Int)).toNat) (10 ^ K) wpUU 82 UU.o P8.o (LU.o.up (by decide)) ((FS.lt_ten hK).up (by decide)) (by decide)).mono ?_
            rintro x wqUU ⟨vqUU, rfl, h1, h2⟩
            replace UU := hd h1
            clear h1 P8
            replace NN := hd (NN.o.below h2)
            replace OO := hd (OO.o.below h2)
            replace D3 := hd (D3.o.below h2)
            replace B3 := hd (bel B3.o h2)
            clear h2
            go_wp2_with fail
            with_reducible refine (pow_nv K _ (by omega)).mono ?_
            rintro x wpOO ⟨vpOO, rfl, h1, h2⟩
            have P8 := hd h1
            clear h1
            replace NN := hd (NN.o.below h2)
            replace UU := hd (UU.o.below h2)
            replace OO := hd (OO.o.below h2)
            replace D3 := hd (D3.o.below h2)
            replace B3 := hd (bel B3.o h2)
            clear h2
            go_wp2_with fail
            with_reducible refine (prod_nv _ vpOO (2 * 2 ^ (-(E : Int)).toNat) (10 ^ K) wpOO 82 OO.o P8.o (LO.o.up (by decide)) ((FS.lt_ten hK).up (by decide)) (by decide)).mono ?_
            rintro x wqOO ⟨vqOO, rfl, h1, h2⟩
            replace OO := hd h1
            clear h1 P8
            replace NN := hd (NN.o.below h2)
            replace UU := hd (UU.o.below h2)
            replace D3 := hd (D3.o.below h2)
            replace B3 := hd (bel B3.o h2)
            clear h2
            replace NN := hd (NN.o.as (e_tenN _ K))
            replace UU := hd (UU.o.as (e_tenN _ K))
            replace OO := hd (OO.o.as (e_tenN _ K))
            replace D3 := hd (D3.o.as (e_ten0 _ K))
            go_wp2_with fail
            refine (digits_any _ _ _ _ ((m : Int) % 2 == 0) (-(K : Int)) _ _ _ (400 - K) _ _ _ _ 82 wqOO (FS.DG.of (ev := ((m : Int) % 2 == 0)) (s := 2) (k := (-(K : Int))) (κ := 400 - K) HX.o.1 HX.o.2.1 HX.o.2.2.1 HX.o.2.2.2 H10.o (by decide) HK.o.1 HK.o.2 (by omega)) (by omega) (by omega) (by omega) (by omega) NN.o UU.o OO.o D3.o (LD.o.mul (FS.lt_ten (k := (-(K : Int)).toNat) (by omega))) (LU.o.mul (FS.lt_ten (k := (- -(K : Int)).toNat) (by omega))) (LO.o.mul (FS.lt_ten (k := (- -(K : Int)).toNat) (by omega))) (by decide)).mono ?_
            rintro x w20 ⟨⟨k', hdg⟩, h2⟩
            obtain ⟨d, t2, rfl, q1, q2, q3⟩ := hdg
            have Q1 := hd q1
            have Q2 := hd (And.intro q2 q3)
            replace B3 := hd (bel B3.o h2)
            clear h2 q1 q2 q3 NN UU OO D3
            go_wp2
            go_ret2
            exact ⟨show FS.ShtAns _ _ _ _ _ from ⟨k', d, t2, rfl, Q1.o, Q2.o.1, Q2.o.2⟩, B3.o⟩
  | false =>
    have hs : s = 2 := by simpa using HS.o
    subst hs
    clear HS
    go_wp2_with (go_at_call 134; (with_reducible refine C2.o.mono ?_); rintro x w2 ⟨v2, rfl, h1, h2⟩; have N2 := hd h1; have B2 := hd (bel B1.o h2); clear h1 h2)
    have U0 := hd (nv_lit w2 w2.heap.size 2 2 109 rfl rfl (by decide) (by decide))
    have O0 := hd (nv_lit (w2.alloc (.cells #[.int .u32 2] 109)) (w2.heap.size + 1) 2 2 109 (by simp) rfl (by decide) (by decide))
    clear C2 N1 B1 HP
    have D0 := hd (nv_lit ((w2.alloc (.cells #[.int .u32 2] 109)).alloc (.cells #[.int .u32 2] 109)) (w2.heap.size + 1 + 1) 1 1 109 (by simp) rfl (by decide) (by decide))
    with_reducible refine (shift2_nv _ 1 _ 1 D0.o FB.lt11 (by decide)).mono ?_
    rintro x w3 ⟨v3, rfl, h1, h2⟩
    have D3 := hd h1
    have NN := hd (N2.o.al.al.al.below h2)
    have UU := hd (U0.o.al.al.below h2)
    have OO := hd (O0.o.al.below h2)
    have B3 := hd (bel (((B2.o.alloc B2.o.size _).alloc (by have := B2.o.size; simp; omega) _).alloc (by have := B2.o.size; simp; omega) _) h2)
    clear h1 h2
    clear N2 U0 O0 D0 B2
    go_wp2
    go_loop [10, 11] (fun x y => ∃ j t : Nat, x = .int .i64 ((-(E : Int)) + j) ∧ y = .int .u64 t ∧ j ≤ 53 ∧ Hd (t * 2 ^ j ≤ m)) (fun x y => (intOf y).toNat)
    case atStart => exact ⟨0, m, by simp, rfl, by omega, hd (by simp)⟩
    case round =>
      obtain ⟨j, t, rfl, rfl, hj, HT⟩ := hrel
      have ht := top_le HT.o
      by_cases h1 : 1 < t
      · have hj2 := top_bd HT.o HM.o h1
        have HT2 := hd (top_step HT.o)
        have htI : (1 : Int) < (t : Int) := by omega
        have htI2 : (t : Int) < 9007199254740992 := by omega
        clear hj
        go_wp2
        go_round
        case rel => exact ⟨j + 1, t / 2, by go_num, by go_num, hj2, HT2⟩
        case measure => simp [intOf]; omega
      · have htI : (t : Int) ≤ 1 := by omega
        clear HT ht h1 HM hmI hmI0 hc1 hc2 hmq hmq0
        go_wp2_with fail
        with_reducible refine (shift_nv _ (1 * 2 ^ 2) E w3 1 D3.o FB.lt14 (by decide) (by omega)).mono ?_
        rintro x w6 ⟨vw6, rfl, h1, h2⟩
        replace NN := hd (NN.o.below h2)
        replace UU := hd (UU.o.below h2)
        replace OO := hd (OO.o.below h2)
        replace D3 := hd h1
        replace B3 := hd (bel B3.o h2)
        clear h1 h2
        go_wp2_with fail
        replace NN := hd (NN.o.as (e_shN_neg m E))
        replace D3 := hd (D3.o.as (e_shD_neg E))
        replace UU := hd (UU.o.as (e_und_neg 2 E))
        replace OO := hd (OO.o.as (e_und_neg 2 E))
        have hjI : (j : Int) ≤ 53 := by omega
        with_reducible refine (size_nv _ _ _ _ _ (-330) 400 w6 40 NN.o D3.o LN.o LD.o (by decide) (by decide) (by decide) (guess_bd (by omega) (by omega)).1 (guess_bd (by omega) (by omega)).2 (FS.lt_lo hm1 he1) (FS.lt_hi hm he2)).mono ?_
        rintro x w7 ⟨⟨k, rfl, HK⟩, h2⟩
        replace NN := hd (NN.o.below h2)
        replace UU := hd (UU.o.below h2)
        replace OO := hd (OO.o.below h2)
        replace D3 := hd (D3.o.below h2)
        replace B3 := hd (bel B3.o h2)
        clear h2
        obtain ⟨hkb1, hkb2⟩ := FS.k_bd hm1 hm he1 he2 HK.o.1 HK.o.2
        have HX := hd (And.intro hm1 (And.intro hm (And.intro he1 he2)))
        clear hm1 hm he1 he2 hjI hj htI
        by_cases hk0 : 0 ≤ k
        · obtain ⟨K, rfl⟩ : ∃ K : Nat, k = K := ⟨k.toNat, by omega⟩
          have hK : K ≤ 400 := by omega
          clear hkb1 hkb2 hk0
          go_wp2_with fail
          with_reducible refine (pow_nv K w7 (by omega)).mono ?_
          rintro x w8 ⟨v8, rfl, h1, h2⟩
          have P8 := hd h1
          clear h1
          replace NN := hd (NN.o.below h2)
          replace UU := hd (UU.o.below h2)
          replace OO := hd (OO.o.below h2)
          replace D3 := hd (D3.o.below h2)
          replace B3 := hd (bel B3.o h2)
          clear h2
          go_wp2_with fail
          with_reducible refine (prod_nv _ v8 (FS.shD (-(E : Int))) (10 ^ K) w8 82 D3.o P8.o (LD.o.up (by decide)) ((FS.lt_ten hK).up (by decide)) (by decide)).mono ?_
          rintro x w9 ⟨v9, rfl, h1, h2⟩
          replace D3 := hd (show NV w9 v9 (FS.shD (-(E : Int)) * 10 ^ (K : Int).toNat) from h1)
          clear h1 P8
          replace NN := hd (NN.o.below h2)
          replace UU := hd (UU.o.below h2)
          replace OO := hd (OO.o.below h2)
          replace B3 := hd (bel B3.o h2)
          clear h2
          replace NN := hd (NN.o.as (e_ten0 _ K))
          replace UU := hd (UU.o.as (e_ten0 _ K))
          replace OO := hd (OO.o.as (e_ten0 _ K))
          go_wp2_with fail
          refine (digits_any _ _ _ _ ((m : Int) % 2 == 0) (K : Int) _ _ _ (K + 400) _ _ _ _ 82 w9 (FS.DG.of (ev := ((m : Int) % 2 == 0)) (s := 2) (k := (K : Int)) (κ := K + 400) HX.o.1 HX.o.2.1 HX.o.2.2.1 HX.o.2.2.2 H10.o (by decide) HK.o.1 HK.o.2 (by omega)) (by omega) (by omega) (by omega) (by omega) NN.o UU.o OO.o D3.o (LD.o.mul (FS.lt_ten hK)) (LU.o.mul (FS.lt_ten (k := (-(K : Int)).toNat) (by omega))) (LO.o.mul (FS.lt_ten (k := (-(K : Int)).toNat) (by omega))) (by decide)).mono ?_
          rintro x w20 ⟨⟨k', hdg⟩, h2⟩
          obtain ⟨d, t2, rfl, q1, q2, q3⟩ := hdg
          have Q1 := hd q1
          have Q2 := hd (And.intro q2 q3)
          replace B3 := hd (bel B3.o h2)
          clear h2 q1 q2 q3 NN UU OO D3
          go_wp2
          go_ret2
          exact ⟨show FS.ShtAns _ _ _ _ _ from ⟨k', d, t2, rfl, Q1.o, Q2.o.1, Q2.o.2⟩, B3.o⟩
        · obtain ⟨K, rfl⟩ : ∃ K : Nat, k = -(K : Int) := ⟨(-k).toNat, by omega⟩
          have hK : K ≤ 400 := by omega
          have hK1 : 1 ≤ K := by omega
          have hK2 : K ≤ 330 := by omega
          clear hkb1 hkb2 hk0
          go_wp2_with fail
          with_reducible refine (pow_nv K _ (by omega)).mono ?_
          rintro x wpNN ⟨vpNN, rfl, h1, h2⟩
          have P8 := hd h1
          clear h1
          replace NN := hd (NN.o.below h2)
          replace UU := hd (UU.o.below h2)
          replace OO := hd (OO.o.below h2)
          replace D3 := hd (D3.o.below h2)
          replace B3 := hd (bel B3.o h2)
          clear h2
          go_wp2_with fail
          with_reducible refine (prod_nv _ vpNN (FS.shN m (-(E : Int))) (10 ^ K) wpNN 82 NN.o P8.o (LN.o.up (by decide)) ((FS.lt_ten hK).up (by decide)) (by decide)).mono ?_
          rintro x wqNN ⟨vqNN, rfl, h1, h2⟩
          replace NN := hd h1
          clear h1 P8
          replace UU := hd (UU.o.below h2)
          replace OO := hd (OO.o.below h2)
          replace D3 := hd (D3.o.below h2)
          replace B3 := hd (bel B3.o h2)
          clear h2
          go_wp2_with fail
          with_reducible refine (pow_nv K _ (by omega)).mono ?_
          rintro x wpUU ⟨vpUU, rfl, h1, h2⟩
          have P8 := hd h1
          clear h1
          replace NN := hd (NN.o.below h2)
          replace UU := hd (UU.o.below h2)
          replace OO := hd (OO.o.below h2)
          replace D3 := hd (D3.o.below h2)
          replace B3 := hd (bel B3.o h2)
          clear h2
          go_wp2_with fail
          with_reducible refine (prod_nv _ vpUU (2 * 2 ^ (-(E : Int)).toNat) (10 ^ K) wpUU 82 UU.o P8.o (LU.o.up (by decide)) ((FS.lt_ten hK).up (by decide)) (by decide)).mono ?_
          rintro x wqUU ⟨vqUU, rfl, h1, h2⟩
          replace UU := hd h1
          clear h1 P8
          replace NN := hd (NN.o.below h2)
          replace OO := hd (OO.o.below h2)
          replace D3 := hd (D3.o.below h2)
          replace B3 := hd (bel B3.o h2)
          clear h2
          go_wp2_with fail
          with_reducible refine (pow_nv K _ (by omega)).mono ?_
          rintro x wpOO ⟨vpOO, rfl, h1, h2⟩
          have P8 := hd h1
          clear h1
          replace NN := hd (NN.o.below h2)
          replace UU := hd (UU.o.below h2)
          replace OO := hd (OO.o.below h2)
          replace D3 := hd (D3.o.below h2)
          replace B3 := hd (bel B3.o h2)
          clear h2
          go_wp2_with fail
          with_reducible refine (prod_nv _ vpOO (2 * 2 ^ (-(E : Int)).toNat) (10 ^ K) wpOO 82 OO.o P8.o (LO.o.up (by decide)) ((FS.lt_ten hK).up (by decide)) (by decide)).mono ?_
          rintro x wqOO ⟨vqOO, rfl, h1, h2⟩
          replace OO := hd h1
          clear h1 P8
          replace NN := hd (NN.o.below h2)
          replace UU := hd (UU.o.below h2)
          replace D3 := hd (D3.o.below h2)
          replace B3 := hd (bel B3.o h2)
          clear h2
          replace NN := hd (NN.o.as (e_tenN _ K))
          replace UU := hd (UU.o.as (e_tenN _ K))
          replace OO := hd (OO.o.as (e_tenN _ K))
          replace D3 := hd (D3.o.as (e_ten0 _ K))
          go_wp2_with fail
          refine (digits_any _ _ _ _ ((m : Int) % 2 == 0) (-(K : Int)) _ _ _ (400 - K) _ _ _ _ 82 wqOO (FS.DG.of (ev := ((m : Int) % 2 == 0)) (s := 2) (k := (-(K : Int))) (κ := 400 - K) HX.o.1 HX.o.2.1 HX.o.2.2.1 HX.o.2.2.2 H10.o (by decide) HK.o.1 HK.o.2 (by omega)) (by omega) (by omega) (by omega) (by omega) NN.o UU.o OO.o D3.o (LD.o.mul (FS.lt_ten (k := (-(K : Int)).toNat) (by omega))) (LU.o.mul (FS.lt_ten (k := (- -(K : Int)).toNat) (by omega))) (LO.o.mul (FS.lt_ten (k := (- -(K : Int)).toNat) (by omega))) (by decide)).mono ?_
          rintro x w20 ⟨⟨k', hdg⟩, h2⟩
          obtain ⟨d, t2, rfl, q1, q2, q3⟩ := hdg
          have Q1 := hd q1
          have Q2 := hd (And.intro q2 q3)
          replace B3 := hd (bel B3.o h2)
          clear h2 q1 q2 q3 NN UU OO D3
          go_wp2
          go_ret2
          exact ⟨show FS.ShtAns _ _ _ _ _ from ⟨k', d, t2, rfl, Q1.o, Q2.o.1, Q2.o.2⟩, B3.o⟩
end Go.Proofs.YtcbggkdginfakaaGreatDoor
