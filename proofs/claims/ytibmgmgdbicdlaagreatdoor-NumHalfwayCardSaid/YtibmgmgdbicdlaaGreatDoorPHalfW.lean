/- NumHalfway: the law's walk. -/
import Derived.Test.YtibmgmgdbicdlaaGreatDoorPTen
import Derived.Test.YtibmgmgdbicdlaaGreatDoorPAlive
import Derived.Deep.DeepCutAuto
namespace Go.Proofs.YtibmgmgdbicdlaaGreatDoor
open Go.RowKit
set_option linter.unusedVariables false
set_option linter.unusedSimpArgs false
theorem and_2047i (n : Int) : bits .and .i64 n 2047 = n % 2048 := by
  have h127 : (BitVec.ofInt 64 2047).toNat = 2 ^ 11 - 1 := by decide
  have key : (BitVec.ofInt 64 n &&& BitVec.ofInt 64 2047).toNat = (n % ((2 ^ 64 : Nat) : Int)).toNat % 2 ^ 11 := by
    rw [BitVec.toNat_and, BitVec.toNat_ofInt, h127, Nat.and_two_pow_sub_one_eq_mod]
  show IntKind.i64.wrap ((BitVec.ofInt 64 n &&& BitVec.ofInt 64 2047).toNat : Nat) = n % 2048
  rw [key, IntKind.wrap_i64]
  omega
theorem Row1.keep {w W W' : World} {v : Value} {bs : List UInt8} (R : Row1 w W v bs) (hb : Below W.heap.size W W') : Row1 w W' v bs := ⟨own_below R.o hb, R.b.trans (hb.mono R.b.size)⟩
theorem row1_isL {w W : World} {g cap n : Nat} {bs : List UInt8} (R : Row1 w W (.slice (some ⟨g, 0, none⟩) n cap) bs) : IsL 1 W (.slice (some ⟨g, 0, none⟩) bs.length cap) bs.length (cellsB bs) := by
  have hn : n = bs.length := by
    have h := IsL.own R.o
    obtain ⟨_, A, c', e, _⟩ := h
    simp only [Value.slice.injEq] at e
    exact e.2.1
  subst hn
  exact IsL.own R.o
theorem read_neg (a : List UInt8) (k : Nat) (ha0 : a ≠ []) (h1 : PF.Dig a) (hl : a.length ≤ 460) (hk : k ≤ 1000) (W : World) (N : Nm2 W) :
    Calls Tryz.prog 27 #[.string (⟨a.toArray⟩ ++ ⟨#[101, 45]⟩ ++ ⟨(Lib.decDigits k).toArray⟩)] W fun e w' => Below W.heap.size W w' ∧ ∃ b, PVal (PF.dv a) (-(k : Int)) b ∧ e = .returned (RdAns b) := by
  obtain ⟨x1, x2⟩ := PF.exp_neg k (by omega)
  have l2 : (Lib.decDigits k).length ≤ 20 := by rw [Lib.decDigits_length]; exact Lib.nDigits_le20 _ (by omega)
  have e : ((⟨a.toArray⟩ : ByteArray) ++ ⟨#[101, 45]⟩ ++ ⟨(Lib.decDigits k).toArray⟩) = ⟨(a ++ (101 :: 45 :: Lib.decDigits k)).toArray⟩ := by
    apply ByteArray.ext; simp [ByteArray.data_append]
  rw [e]
  have h := read_exp a (101 :: 45 :: Lib.decDigits k) ha0 h1 ⟨_, rfl⟩ x2 (by rw [List.length_append, List.length_cons, List.length_cons]; omega) W N
  rw [x1] at h
  exact h
/-- a digit more behind -/
theorem read_neg1 (a : List UInt8) (c : UInt8) (k : Nat) (h1 : PF.Dig a) (hc : 48 ≤ c.toNat ∧ c.toNat ≤ 57) (hl : a.length ≤ 450) (hk : k ≤ 1000) (W : World) (N : Nm2 W) :
    Calls Tryz.prog 27 #[.string (⟨a.toArray⟩ ++ ⟨#[c, 101, 45]⟩ ++ ⟨(Lib.decDigits k).toArray⟩)] W fun e w' => Below W.heap.size W w' ∧ ∃ b, PVal (PF.dv a * 10 + (c.toNat - 48)) (-(k : Int)) b ∧ e = .returned (RdAns b) := by
  have h := read_neg (a ++ [c]) k (by simp) (fun x hx => by
    rcases List.mem_append.1 hx with h | h
    · exact h1 x h
    · rw [List.mem_singleton.1 h]; exact hc) (by rw [List.length_append, List.length_singleton]; omega) hk W N
  have e : ((⟨(a ++ [c]).toArray⟩ : ByteArray) ++ ⟨#[101, 45]⟩ ++ ⟨(Lib.decDigits k).toArray⟩) = (⟨a.toArray⟩ ++ ⟨#[c, 101, 45]⟩ ++ ⟨(Lib.decDigits k).toArray⟩) := by
    apply ByteArray.ext; simp [ByteArray.data_append]
  rw [e, PT.dv_snoc] at h
  exact h
theorem pval_neg {n k b : Nat} (h : 0 < n) (R : FS.Rnd n (FS.X k) b) : PVal n (-(k : Int)) b := by
  refine .inr ⟨h, ?_⟩
  have e1 : FS.vN n (-(k : Int)) = n := by unfold FS.vN; rw [show (-(k : Int)).toNat = 0 by omega]; exact Nat.mul_one n
  have e2 : FS.vD (-(k : Int)) = FS.X k := by unfold FS.vD; rw [show (-(-(k : Int))).toNat = k by omega]
  rw [e1, e2]; exact R
theorem rdAns_inf {b : Nat} (h : b = FS.INF) : RdAns b = .tuple #[.float .f64 0, .int .i64 21] := by unfold RdAns; rw [if_pos h]
theorem rdAns_fin {b : Nat} (h : b ≠ FS.INF) : RdAns b = .tuple #[.float .f64 b, .int .i64 0] := by unfold RdAns; rw [if_neg h]
set_option maxRecDepth 100000 in
set_option maxHeartbeats 4000000 in
theorem numHalfway_walk (m0 : Nat) (e0 : Int) (w : World) (hm : m0 < 18446744073709551616) (he : -9223372036854775808 ≤ e0 ∧ e0 ≤ 9223372036854775807) (N : Nm2 w) :
    Calls Tryz.prog 8 #[.int .u64 (m0 : Int), .int .i64 e0] w fun x w' => x = .returned (.bool true) ∧ Below w.heap.size w w' := by
  have HAL := hd (alive_any w N.n.g N.n.t)
  have HNM := hd N
  obtain ⟨r, hr⟩ : ∃ r, r = m0 % 4503599627370496 := ⟨_, rfl⟩
  have hrb : r < 4503599627370496 := by omega
  have a1 : bits .and .u64 (m0 : Int) 4503599627370495 = (r : Int) := by rw [hr, ← DN.and_m]; exact u64_and_nat m0 4503599627370495 hm (by decide)
  obtain ⟨M, hM⟩ : ∃ M, M = 4503599627370496 + r := ⟨_, rfl⟩
  have a2 : bits .or .u64 (r : Int) 4503599627370496 = (M : Int) := by
    have h := DN.or_52 (a := 1) hrb
    rw [Nat.one_mul] at h
    rw [hM, ← h]; exact u64_or_nat r 4503599627370496 (by omega) (by decide)
  have a3 : bits .and .u64 (M : Int) 4503599627370495 = (r : Int) := by
    have h := DN.and_m M
    rw [show M % 4503599627370496 = r by omega] at h
    rw [← h]; exact u64_and_nat M 4503599627370495 (by omega) (by decide)
  obtain ⟨j, hj⟩ : ∃ j : Nat, (j : Int) = e0 % 2048 := ⟨(e0 % 2048).toNat, by omega⟩
  have hje : bits .and .i64 e0 2047 = (j : Int) := by rw [and_2047i, hj]
  have hj4 : j ≤ 2047 := by omega
  have HRB := hd hrb
  have HMV := hd hM
  clear N hj hr hm hM hrb
  go_enter Tryz.func8, Tryz.ntmps8
  obtain ⟨bb, hbb⟩ : ∃ bb, bb = decide (e0 < -600 ∨ 971 < e0) := ⟨_, rfl⟩
  have HBB := hd hbb
  clear hbb
  go_upto_region 4 with (go_at_call 13; refine HAL.o.mono ?_; rintro x w0 ⟨rfl, hb0⟩; have HB0 := hd hb0; clear hb0)
  go_cut [28] from 23 to 28 (fun x28 wx => x28 = .bool bb ∧ Hd (Below w.heap.size w wx))
  case first =>
    by_cases c1 : e0 < -600
    · obtain rfl : bb = true := by rw [HBB.o]; exact decide_eq_true (.inl c1)
      go_wp2
      go_meet
      case rel => exact ⟨rfl, HB0⟩
    · by_cases c2 : 971 < e0
      · obtain rfl : bb = true := by rw [HBB.o]; exact decide_eq_true (.inr c2)
        go_wp2
        go_meet
        case rel => exact ⟨rfl, HB0⟩
      · obtain rfl : bb = false := by rw [HBB.o]; exact decide_eq_false (by omega)
        go_wp2
        go_meet
        case rel => exact ⟨rfl, HB0⟩
  case rest =>
  obtain ⟨rfl, HB0⟩ := hcut
  go_upto_if 28 with fail
  go_cut [1] from 28 to 32 (fun x1 wx => ∃ e : Int, x1 = .int .i64 e ∧ -600 ≤ e ∧ e ≤ 971 ∧ Hd (Below w.heap.size w wx))
  case first =>
    cases bb with
    | true =>
      go_wp2
      go_meet
      case rel => exact ⟨_, rfl, by omega, by omega, HB0⟩
    | false =>
      have h3 : -600 ≤ e0 ∧ e0 ≤ 971 := by
        have := of_decide_eq_false HBB.o.symm
        omega
      go_wp2
      go_meet
      case rel => exact ⟨e0, rfl, h3.1, h3.2, HB0⟩
  case rest =>
    obtain ⟨e, rfl, he1, he2, HB1⟩ := hcut
    obtain ⟨E, hE⟩ : ∃ E : Nat, (E : Int) = e + 1075 := ⟨(e + 1075).toNat, by omega⟩
    obtain ⟨lo, hlo⟩ : ∃ lo : Nat, lo = E * 4503599627370496 + r := ⟨_, rfl⟩
    obtain ⟨five, h5⟩ : ∃ five : Nat, (five : Int) = if e < 1 then 1 - e else 0 := ⟨(if e < 1 then 1 - e else 0).toNat, by split <;> omega⟩
    obtain ⟨two, h2⟩ : ∃ two : Nat, (two : Int) = if e < 1 then 0 else e - 1 := ⟨(if e < 1 then 0 else e - 1).toNat, by split <;> omega⟩
    obtain ⟨n0, hn0⟩ : ∃ n0, n0 = 9007199254740993 + 2 * r := ⟨_, rfl⟩
    have HH : Hd (PT.Half r e five two lo (PT.pw n0 five (five + two))) := hd ⟨HRB.o, he1, he2, h5, h2, by rw [hlo]; omega, by rw [hn0]⟩
    have HLO : Hd (lo < FS.INF ∧ 1 ≤ lo) := hd (by rw [hlo]; unfold FS.INF; have := HRB.o; omega)
    have HPAR : Hd (lo % 2 = r % 2) := hd (by rw [hlo]; omega)
    have hElo : 475 ≤ E ∧ E ≤ 2046 := by omega
    have wE : IntKind.u64.wrap (e + 1075) = (E : Int) := by rw [IntKind.wrap_u64]; omega
    have wS : IntKind.u64.wrap ((E : Int) * 4503599627370496) = ((E * 4503599627370496 : Nat) : Int) := by rw [IntKind.wrap_u64]; omega
    have oL : bits .or .u64 (r : Int) ((E * 4503599627370496 : Nat) : Int) = (lo : Int) := by
      rw [hlo, ← DN.or_52 HRB.o]; exact u64_or_nat r _ (by have := HRB.o; omega) (by omega)
    have wL : IntKind.u64.wrap ((lo : Int) + 1) = (lo : Int) + 1 := by rw [IntKind.wrap_u64]; have := HRB.o; omega
    have f1 := mfrom_run lo
    have f2 : ∀ W, (callFunc 14 #[.int .u64 ((lo : Int) + 1)]).run Tryz.prog W = .ok (.value (.float .f64 (lo + 1))) W := mfrom_run (lo + 1)
    have w2 : IntKind.u64.wrap (2 * (M : Int)) = ((2 * M : Nat) : Int) := by rw [IntKind.wrap_u64, HMV.o]; have := HRB.o; omega
    have w3 : IntKind.u64.wrap (((2 * M : Nat) : Int) + 1) = (n0 : Int) := by rw [IntKind.wrap_u64, HMV.o, hn0]; have := HRB.o; omega
    have H5 := hd h5
    have H2 := hd h2
    have h5b : five ≤ 601 := by rw [show five = (five : Int).toNat by omega, h5]; split <;> omega
    have h2b : two ≤ 970 := by rw [show two = (two : Int).toNat by omega, h2]; split <;> omega
    have hV : PT.pw n0 five (five + two) < 10 ^ 450 := by
      have h := HH.o.bound
      rw [PT.X_def'] at h; exact h
    have HTEN := hd (fun W => tens_any n0 five two W (by omega) (by have := HRB.o; omega) (by omega) (by omega) hV)
    clear HAL a1 a2 hje hj4 hlo h5 h2 hE hV hElo hn0
    generalize E * 4503599627370496 = E52 at *
    generalize 2 * M = M2 at *
    go_upto_if 51 with fail
    go_cut [7, 8] from 50 to 55 (fun x7 x8 wx => x7 = .int .i64 (five : Int) ∧ x8 = .int .i64 (two : Int) ∧ Hd (Below w.heap.size w wx))
    case first =>
      by_cases c1 : e < 1
      · have e5 : 1 - e = (five : Int) := by have := H5.o; rw [if_pos c1] at this; exact this.symm
        have e2 : (two : Int) = 0 := by have := H2.o; rw [if_pos c1] at this; exact this
        obtain rfl : two = 0 := by omega
        go_wp2
        go_meet
        case rel => exact ⟨by first | rfl | rw [e5], rfl, HB1⟩
      · have e5 : e - 1 = (two : Int) := by have := H2.o; rw [if_neg c1] at this; exact this.symm
        have e2 : (five : Int) = 0 := by have := H5.o; rw [if_neg c1] at this; exact this
        obtain rfl : five = 0 := by omega
        go_wp2
        go_meet
        case rel => exact ⟨rfl, by first | rfl | rw [e5], HB1⟩
    case rest =>
      obtain ⟨rfl, rfl, HB2⟩ := hcut
      obtain ⟨V, hVe⟩ : ∃ V, V = PT.pw n0 five (five + two) := ⟨_, rfl⟩
      rw [← hVe] at HH HTEN
      clear hVe
      obtain ⟨w1', hw1'⟩ : ∃ w1' : World, w1' = wc := ⟨_, rfl⟩
      have HW1 := hd hw1'
      have HB2' : Hd (Below w.heap.size w w1') := hd (by rw [hw1']; exact HB2.o)
      clear hw1'
      go_wp2_with fail
      refine (HTEN.o _).mono ?_
      rintro x w1 ⟨v, d, rfl, hR, hT⟩
      obtain ⟨g, cap, rfl⟩ := row_shape hR.o hT.n
      have hl450 : d.length ≤ 450 := hT.len (by have h := HH.o.bound; rw [PT.X_def'] at h; exact h)
      have hl0 := hT.n
      have hR : Row1 w1' w1 (.slice (some ⟨g, 0, none⟩) d.length cap) d := by rw [HW1.o]; exact hR
      have HR := hd hR
      have HT := hd hT
      have HB3 := hd (bel HB2'.o hR.b)
      have HAL : Hd ((PT.wr d).length ≤ 450) := hd (by rw [PT.wr_len]; exact hl450)
      have HAD := hd (PT.wr_dig hT.d)
      have hA0 : PT.wr d ≠ [] := fun h => by have := PT.wr_len d; rw [h] at this; simp at this; omega
      have HDV : Hd (PF.dv (PT.wr d) = V) := hd (by rw [PT.wr_val d hT.d]; exact hT.v)
      have HD5L : Hd ((Lib.decDigits five).length ≤ 20) := hd (by rw [Lib.decDigits_length]; exact Lib.nDigits_le20 _ (by omega))
      have HD6L : Hd ((Lib.decDigits (five + 1)).length ≤ 20) := hd (by rw [Lib.decDigits_length]; exact Lib.nDigits_le20 _ (by omega))
      have HD5 := hd (decimal_any five (by omega))
      have HD6 : Hd (∀ W : World, Calls Tryz.prog 37 #[.int .u64 ((five : Int) + 1)] W fun e w' => e = .returned (.string ⟨(Lib.decDigits (five + 1)).toArray⟩) ∧ Below W.heap.size W w') := hd (decimal_any (five + 1) (by omega))
      have HVP := hd HH.o.pos
      -- what the three texts are read as
      obtain ⟨fm, hfm⟩ : ∃ fm : Nat, fm = if lo + 1 = FS.INF then 0 else (if r % 2 = 1 then lo + 1 else lo) := ⟨_, rfl⟩
      obtain ⟨fu, hfu⟩ : ∃ fu : Nat, fu = if lo + 1 = FS.INF then 0 else lo + 1 := ⟨_, rfl⟩
      obtain ⟨em, hem⟩ : ∃ em : Int, em = if lo + 1 = FS.INF then 21 else 0 := ⟨_, rfl⟩
      have HMID : Hd (∀ W, Below w.heap.size w W → Calls Tryz.prog 27 #[.string (⟨(PT.wr d).toArray⟩ ++ ⟨#[101, 45]⟩ ++ ⟨(Lib.decDigits five).toArray⟩)] W fun x w' => Below W.heap.size W w' ∧ x = .returned (.tuple #[.float .f64 fm, .int .i64 em])) := hd (fun W hW =>
        (read_neg (PT.wr d) five hA0 HAD.o (by have := HAL.o; omega) (by omega) W (HNM.o.below hW)).mono fun x w' ⟨h1, b, h2, h3⟩ => ⟨h1, by
          rw [HDV.o] at h2
          have hb : b = if r % 2 = 1 then lo + 1 else lo := by
            refine h2.ext (pval_neg HVP.o ?_)
            split
            · rename_i c; exact HH.o.odd c
            · exact HH.o.even (by omega)
          rw [h3, hfm, hem]
          by_cases c : lo + 1 = FS.INF
          · have c2 : r % 2 = 1 := by have := HPAR.o; unfold FS.INF at c; omega
            rw [if_pos c, if_pos c, rdAns_inf (by rw [hb, if_pos c2]; exact c)]
          · rw [if_neg c, if_neg c, rdAns_fin (by rw [hb]; have := HLO.o; split <;> omega), hb]⟩)
      have HUP : Hd (∀ W, Below w.heap.size w W → Calls Tryz.prog 27 #[.string (⟨(PT.wr d).toArray⟩ ++ ⟨#[49, 101, 45]⟩ ++ ⟨(Lib.decDigits (five + 1)).toArray⟩)] W fun x w' => Below W.heap.size W w' ∧ x = .returned (.tuple #[.float .f64 fu, .int .i64 em])) := hd (fun W hW =>
        (read_neg1 (PT.wr d) 49 (five + 1) HAD.o (by decide) HAL.o (by omega) W (HNM.o.below hW)).mono fun x w' ⟨h1, b, h2, h3⟩ => ⟨h1, by
          rw [HDV.o] at h2
          have hb : b = lo + 1 := by
            refine h2.ext (pval_neg (by show 0 < V * 10 + 1; omega) ?_)
            have := HH.o.up
            rw [Nat.mul_comm] at this; exact this
          rw [h3, hfu, hem]
          by_cases c : lo + 1 = FS.INF
          · rw [if_pos c, if_pos c, rdAns_inf (by rw [hb]; exact c)]
          · rw [if_neg c, if_neg c, rdAns_fin (by rw [hb]; exact c), hb]⟩)
      have HDN : Hd (∀ L : List UInt8, PT.val L + 1 = V → PT.D9 L → L.length = d.length → ∀ W, Below w.heap.size w W → Calls Tryz.prog 27 #[.string (⟨(PT.wr L).toArray⟩ ++ ⟨#[57, 101, 45]⟩ ++ ⟨(Lib.decDigits (five + 1)).toArray⟩)] W fun x w' => Below W.heap.size W w' ∧ x = .returned (.tuple #[.float .f64 lo, .int .i64 0])) := hd (fun L l1 l2 l3 W hW =>
        (read_neg1 (PT.wr L) 57 (five + 1) (PT.wr_dig l2) (by decide) (by rw [PT.wr_len, l3]; exact hl450) (by omega) W (HNM.o.below hW)).mono fun x w' ⟨h1, b, h2, h3⟩ => ⟨h1, by
          rw [PT.wr_val L l2] at h2
          have hb : b = lo := by
            refine h2.ext (pval_neg (by show 0 < PT.val L * 10 + 9; omega) (HH.o.down (by show PT.val L * 10 + 9 + 1 = _; omega)))
          rw [h3, rdAns_fin (by rw [hb]; have := HLO.o; omega), hb]⟩)
      have HFM := hd hfm
      have HFU := hd hfu
      have HEM := hd hem
      have l1 : ¬ 9223372036854775807 < (PT.wr d).length + 2 := by have := HAL.o; omega
      have l2 : ¬ 9223372036854775807 < (PT.wr d).length + 2 + (Lib.decDigits five).length := by have := HAL.o; have := HD5L.o; omega
      have l3 : ¬ 9223372036854775807 < (PT.wr d).length + 3 := by have := HAL.o; omega
      have l4 : ¬ 9223372036854775807 < (PT.wr d).length + 3 + (Lib.decDigits (five + 1)).length := by have := HAL.o; have := HD6L.o; omega
      have HWR := hd (fun W hW => written_any (some ⟨g, 0, none⟩) cap d W hT.d hl450 (row1_isL (hR.keep hW)))
      clear hR hT hA0 hfm hfu hem HTEN
      generalize PT.wr d = A at *
      generalize Lib.decDigits five = D5 at *
      generalize Lib.decDigits (five + 1) = D6 at *
      go_wp2_with fail
      refine (HWR.o _ (Below.refl _ _)).mono ?_
      rintro x w2 ⟨rfl, hb⟩
      have HR2 := hd (HR.o.keep hb)
      have HC2 := hd hb
      have HB4 := hd (bel HB3.o hb)
      clear hb
      go_wp2_with fail
      refine (HD5.o _).mono ?_
      rintro x w3 ⟨rfl, hb⟩
      have HC3 := hd (bel HC2.o hb)
      have HB5 := hd (bel HB4.o hb)
      clear hb
      go_wp2_with fail
      refine (HMID.o _ HB5.o).mono ?_
      rintro x w4 ⟨hb, rfl⟩
      have HC4 := hd (bel HC3.o hb)
      have HB6 := hd (bel HB5.o hb)
      clear hb
      go_wp2_with fail
      refine (HWR.o _ HC4.o).mono ?_
      rintro x w5 ⟨rfl, hb⟩
      have HC5 := hd (bel HC4.o hb)
      have HB7 := hd (bel HB6.o hb)
      clear hb
      go_wp2_with fail
      refine (HD6.o _).mono ?_
      rintro x w6 ⟨rfl, hb⟩
      have HC6 := hd (bel HC5.o hb)
      have HB8 := hd (bel HB7.o hb)
      clear hb
      go_wp2_with fail
      refine (HUP.o _ HB8.o).mono ?_
      rintro x w7 ⟨hb, rfl⟩
      have HC7 := hd (bel HC6.o hb)
      have HB9 := hd (bel HB8.o hb)
      clear hb
      have HR7 := hd (HR.o.keep HC7.o)
      clear HC2 HC3 HC4 HC5 HC6 HB3 HB4 HB5 HB6 HB7 HB8 HMID HUP HD5 l1 l2 l3 l4 HWR HR HR2
      obtain ⟨N, hN⟩ : ∃ N, N = d.length := ⟨_, rfl⟩
      rw [← hN] at hl450 hl0 HR7 ⊢
      have HN := hd hN
      have HL0 := hd (PT.Less1.start HT.o.d)
      have HS0 := hd (fun W => same0_any lo W)
      have HS1 := hd (fun W => same0_any (lo + 1) W)
      have HMP : Hd (M % 2 = r % 2) := hd (by have := HMV.o; omega)
      clear hN
      go_wp2_with fail
      go_loopw [14] (fun xj wr => ∃ (j : Nat) (L : List UInt8), j ≤ N ∧ xj = .int .i64 (j : Int) ∧ Hd (PT.Less1 d L j) ∧ Hd (Row1 w1' wr (.slice (some ⟨g, 0, none⟩) N cap) L)) (fun xj _ => N - (intOf xj).toNat)
      case atStart => exact ⟨0, d, Nat.zero_le _, rfl, HL0, HR7⟩
      case round =>
        obtain ⟨j, L, hj, rfl, HLS, HRL⟩ := hrel
        have HLL : Hd (L.length = N) := hd (HLS.o.len.trans HN.o.symm)
        by_cases hjN : j < N
        · have hLj : j < L.length := by rw [HLL.o]; exact hjN
          have cj := HRL.o.cell HLL.o j hLj
          have zj := HRL.o.fz HLL.o j
          have hy9 : (L[j]'hLj).toNat ≤ 9 := HLS.o.d _ (List.getElem_mem hLj)
          have hjI : (j : Int) < (N : Int) := by omega
          by_cases h0 : (L[j]'hLj).toNat = 0
          · have HST := hd (HLS.o.step hLj h0)
            have HRT : Hd (Row1 w1' (wr.setCell ⟨g, j, none⟩ (.int .u8 9)) (.slice (some ⟨g, 0, none⟩) N cap) (L.set j 9)) := hd (HRL.o.put HLL.o j 9)
            rw [h0] at cj
            clear h0 hy9 hLj
            go_wp2
            go_roundw
            case rel => exact ⟨j + 1, _, by omega, by go_num, HST, HRT⟩
            case measure => simp [intOf]; omega
          · have HX : Hd (((L[j]'hLj).toNat : Int) - 1 = ((UInt8.ofNat ((L[j]'hLj).toNat - 1)).toNat : Int)) := hd (by
              rw [UInt8.toNat_ofNat', Nat.mod_eq_of_lt (by omega)]; omega)
            obtain ⟨v1, v2, v3⟩ := HLS.o.done hLj (x := UInt8.ofNat ((L[j]'hLj).toNat - 1)) (by rw [UInt8.toNat_ofNat', Nat.mod_eq_of_lt (by omega)]; omega)
            have HRT : Hd (Row1 w1' (wr.setCell ⟨g, j, none⟩ (.int .u8 (((L[j]'hLj).toNat : Int) - 1))) (.slice (some ⟨g, 0, none⟩) N cap) (L.set j (UInt8.ofNat ((L[j]'hLj).toNat - 1)))) := hd (by
              rw [HX.o]; exact HRL.o.put HLL.o j _)
            have hpos : (0 : Int) < ((L[j]'hLj).toNat : Int) := by omega
            have HV1 := hd v1
            have HV2 := hd v2
            have HV3 := hd v3
            generalize UInt8.ofNat ((L[j]'hLj).toNat - 1) = z at *
            generalize (L[j]'hLj).toNat = y at *
            generalize L.set j z = L2 at *
            clear HX v1 v2 v3 h0 hLj HLL HLS
            have HBX : Hd (Below w.heap.size w (wr.setCell ⟨g, j, none⟩ (.int .u8 ((y : Int) - 1)))) := hd (bel HB2'.o HRT.o.b)
            have HL2 : Hd (L2.length = N) := hd (HV3.o.trans HN.o.symm)
            have HA2 : Hd ((PT.wr L2).length ≤ 450) := hd (by rw [PT.wr_len, HL2.o]; exact hl450)
            have HWR2 := hd (by have h := written_any (some ⟨g, 0, none⟩) cap L2 _ HV2.o (by rw [HL2.o]; exact hl450) (row1_isL HRT.o); rw [HL2.o] at h; exact h)
            have HDN2 := hd (HDN.o L2 (by rw [HV1.o]; exact HT.o.v) HV2.o HV3.o)
            have l5 : ¬ 9223372036854775807 < (PT.wr L2).length + 3 := by have := HA2.o; omega
            have l6 : ¬ 9223372036854775807 < (PT.wr L2).length + 3 + D6.length := by have := HA2.o; have := HD6L.o; omega
            clear HRL HDN HA2 HL2
            generalize PT.wr L2 = A2 at *
            go_wp2_with fail
            refine HWR2.o.mono ?_
            rintro x w8 ⟨rfl, hb⟩
            have HBY := hd (bel HBX.o hb)
            clear hb
            go_wp2_with fail
            refine (HD6.o _).mono ?_
            rintro x w9 ⟨rfl, hb⟩
            have HBZ := hd (bel HBY.o hb)
            clear hb
            go_wp2_with fail
            refine (HDN2.o _ HBZ.o).mono ?_
            rintro x w10 ⟨hb, rfl⟩
            have HBE := hd (bel HBZ.o hb)
            have hI1 : lo + 1 ≤ FS.INF := by have := HLO.o; omega
            obtain ⟨n1, k1⟩ := inf_fl hI1
            have n2 : FO.isN 9218868437227405311 = false := by decide
            have k2 : FO.kr 9218868437227405311 = 9218868437227405311 := by decide
            have tg := FO.gt_eq (x := lo + 1) (y := 9218868437227405311) (by unfold FS.INF at hI1; omega) (by decide)
            rw [n1, n2, k1, k2] at tg
            have HTG := hd tg
            clear hb tg n1 n2 k1 k2 HBX HBY HBZ HDN2 HWR2 HD6 HRT HR7
            by_cases c : lo + 1 = FS.INF
            · obtain rfl : em = 21 := by rw [HEM.o, if_pos c]
              obtain rfl : fu = 0 := by rw [HFU.o, if_pos c]
              obtain rfl : fm = 0 := by rw [HFM.o, if_pos c]
              have tg2 : (FloatKind.f64.format.order (lo + 1) 9218868437227405311 == some Ordering.gt) = true := by
                rw [HTG.o]
                simp
                unfold FS.INF at c; omega
              clear c hI1 HTG
              go_wp2_with (go_at_call 20; (with_reducible refine (HS0.o _).mono ?_); rintro x w11 ⟨rfl, rfl⟩)
              go_ret
              exact ⟨rfl, HBE.o⟩
            · obtain rfl : em = 0 := by rw [HEM.o, if_neg c]
              obtain rfl : fu = lo + 1 := by rw [HFU.o, if_neg c]
              have tg2 : (FloatKind.f64.format.order (lo + 1) 9218868437227405311 == some Ordering.gt) = false := by
                rw [HTG.o]
                simp
                unfold FS.INF at c hI1; omega
              by_cases cp : r % 2 = 1
              · obtain rfl : fm = lo + 1 := by rw [HFM.o, if_neg c, if_pos cp]
                have tm : ((M : Int) % 2 == 1) = true := by rw [beq_iff_eq]; have := HMP.o; omega
                clear c hI1 HTG cp
                go_wp2_with (first
                  | (go_at_call 20; (with_reducible refine (HS0.o _).mono ?_); rintro x w11 ⟨rfl, rfl⟩)
                  | (go_at_call 20; (with_reducible refine (HS1.o _).mono ?_); rintro x w11 ⟨rfl, rfl⟩))
                go_ret
                exact ⟨rfl, HBE.o⟩
              · obtain rfl : fm = lo := by rw [HFM.o, if_neg c, if_neg cp]
                have tm : ((M : Int) % 2 == 1) = false := by rw [beq_eq_false_iff_ne]; have := HMP.o; omega
                clear c hI1 HTG cp
                go_wp2_with (first
                  | (go_at_call 20; (with_reducible refine (HS0.o _).mono ?_); rintro x w11 ⟨rfl, rfl⟩)
                  | (go_at_call 20; (with_reducible refine (HS1.o _).mono ?_); rintro x w11 ⟨rfl, rfl⟩))
                go_ret
                exact ⟨rfl, HBE.o⟩
        · exfalso
          obtain rfl : j = N := by omega
          have h1 := HLS.o.eq
          rw [List.take_of_length_le (by rw [HLL.o]; exact Nat.le_refl _), List.take_of_length_le (by rw [HN.o]; exact Nat.le_refl _)] at h1
          have h2 := PT.val_lt L HLS.o.d
          rw [HLL.o] at h2
          have h3 := HT.o.v
          have h4 := HVP.o
          omega
end Go.Proofs.YtibmgmgdbicdlaaGreatDoor
