/- NumRises: the law's walk. -/
import Derived.Test.YtibmgmgdbicdlaaGreatDoorPFig
import Derived.Test.YtibmgmgdbicdlaaGreatDoorPRdA
import Derived.Test.YtibmgmgdbicdlaaGreatDoorPAlive
import Derived.Laws.BitsLemmas
import Derived.Deep.QuietTactic
import Derived.BigQuiet
import Derived.Deep.DeepCutAuto
import Derived.Deep.RegionLaw
import Derived.Laws.MakeOwn
namespace Go.Proofs.YtibmgmgdbicdlaaGreatDoor
open Go.RowKit
set_option linter.unusedVariables false
set_option linter.unusedSimpArgs false
theorem and_1023 (n : Int) : bits .and .i64 n 1023 = n % 1024 := by
  have h127 : (BitVec.ofInt 64 1023).toNat = 2 ^ 10 - 1 := by decide
  have key : (BitVec.ofInt 64 n &&& BitVec.ofInt 64 1023).toNat = (n % ((2 ^ 64 : Nat) : Int)).toNat % 2 ^ 10 := by
    rw [BitVec.toNat_and, BitVec.toNat_ofInt, h127, Nat.and_two_pow_sub_one_eq_mod]
  show IntKind.i64.wrap ((BitVec.ofInt 64 n &&& BitVec.ofInt 64 1023).toNat : Nat) = n % 1024
  rw [key, IntKind.wrap_i64]
  omega
theorem str_app (a b : List UInt8) : ((⟨a.toArray⟩ : ByteArray) ++ ⟨b.toArray⟩) = ⟨(a ++ b).toArray⟩ := by apply ByteArray.ext; simp [ByteArray.data_append]
/-- two texts of digits, the lesser number first -/
structure TwoD (k : Nat) (S T : List UInt8) : Prop where
  ls : S.length = k
  lt : T.length = k
  ds : PF.Dig S
  dt : PF.Dig T
  le : PF.dv S ≤ PF.dv T
/-- an exponent -/
structure ExpT (r : List UInt8) : Prop where
  e : ∃ t, r = 101 :: t
  x : PN.exl r = r.length
  l : r.length ≤ 30
set_option maxRecDepth 100000 in
set_option maxHeartbeats 4000000 in
theorem numRises_walk (Pa Pb : Option Addr) (ca cb : Nat) (A B : List UInt8) (e : Int) (w : World) (ha : IsL 1 w (.slice Pa A.length ca) A.length (cellsB A)) (hb : IsL 1 w (.slice Pb B.length cb) B.length (cellsB B)) (N : Nm2 w) (he : -9223372036854775808 ≤ e ∧ e ≤ 9223372036854775807) (hA : A.length ≤ 9223372036854775807) (hB : B.length ≤ 9223372036854775807) :
    Calls Tryz.prog 9 #[.slice Pa A.length ca, .slice Pb B.length cb, .int .i64 e] w fun x w' => x = .returned (.bool true) ∧ Below w.heap.size w w' := by
  have HAL := hd (alive_any w N.n.g N.n.t)
  obtain ⟨n, hn⟩ : ∃ n : Nat, n = min (min A.length B.length) 400 := ⟨_, rfl⟩
  have HN := hd hn
  have hn4 : n ≤ 400 := by omega
  have HNM := hd N
  obtain ⟨j, hj⟩ : ∃ j : Nat, (j : Int) = e % 1024 := ⟨(e % 1024).toNat, by omega⟩
  have hje : bits .and .i64 e 1023 = (j : Int) := by rw [and_1023, hj]
  have hj4 : j ≤ 1023 := by omega
  have HDEC := hd (decimal_any j (by omega))
  clear N hj
  have hmk := fun W => mk0_run n (by omega) W
  clear hn
  go_enter Tryz.func9, Tryz.ntmps9
  go_upto_region 3 with (go_at_call 13; refine HAL.o.mono ?_; rintro x w0 ⟨rfl, hb0⟩; have HB0 := hd hb0; clear hb0)
  go_cut [7] from 20 to 24 (fun x7 wx => x7 = .int .i64 (n : Int) ∧ Hd (Below w.heap.size w wx))
  case first =>
    by_cases h1 : (B.length : Int) < (A.length : Int)
    · by_cases h2 : (400 : Int) < (B.length : Int)
      · obtain rfl : n = 400 := by have := HN.o; omega
        clear HN hmk
        go_wp2
        go_meet
        case rel => exact ⟨rfl, HB0⟩
      · obtain rfl : n = B.length := by have := HN.o; omega
        clear HN hmk
        go_wp2
        go_meet
        case rel => exact ⟨rfl, HB0⟩
    · by_cases h2 : (400 : Int) < (A.length : Int)
      · obtain rfl : n = 400 := by have := HN.o; omega
        clear HN hmk
        go_wp2
        go_meet
        case rel => exact ⟨rfl, HB0⟩
      · obtain rfl : n = A.length := by have := HN.o; omega
        clear HN hmk
        go_wp2
        go_meet
        case rel => exact ⟨rfl, HB0⟩
  case rest =>
    obtain ⟨rfl, HBC⟩ := hcut
    go_wp2_with fail
    go_region_law (fail)
    all_goals
      go_simp
      go_wp2_with fail
      go_loopw [8, 9, 10] (fun xx xy xi wr => ∃ k : Nat, k ≤ n ∧ xi = .int .i64 (k : Int) ∧ Hd (RowO w wr xx ((A.take k).map PF.d10) xy ((B.take k).map PF.d10))) (fun _ _ xi _ => n - (intOf xi).toNat)
      case atStart => exact ⟨0, Nat.zero_le _, rfl, hd (by first | exact rowO_start n (by omega) HBC.o.drew | exact (rowO_start n (by omega) HBC.o.drew).swap)⟩
      case round =>
        obtain ⟨k, hk, rfl, HR⟩ := hrel
        by_cases hlt : k < n
        · have hkA : k < A.length := by have := HN.o; omega
          have hkB : k < B.length := by have := HN.o; omega
          obtain ⟨ba, oa, rfl, cA⟩ := isL_cell (IsL.below ha HR.o.b) k hkA
          have HCB : Hd (∀ W, Below w.heap.size w W → ∃ bb ob, Pb = some ⟨bb, ob, none⟩ ∧ W.cell? ⟨bb, ob + k, none⟩ = some (.int .u8 ((B[k]'hkB).toNat : Int))) := hd (fun W hW => isL_cell (IsL.below hb hW) k hkB)
          obtain ⟨bb, ob, rfl, _⟩ := HCB.o wr HR.o.b
          have hc1 : (A[k]'hkA).toNat < 256 := (A[k]'hkA).toNat_lt
          have hc2 : (B[k]'hkB).toNat < 256 := (B[k]'hkB).toNat_lt
          have HXA : Hd ((48 : Int) + ((A[k]'hkA).toNat : Int) % 10 = ((PF.d10 (A[k]'hkA)).toNat : Int)) := hd (by rw [PF.d10_nat]; omega)
          have HXB : Hd ((48 : Int) + ((B[k]'hkB).toNat : Int) % 10 = ((PF.d10 (B[k]'hkB)).toNat : Int)) := hd (by rw [PF.d10_nat]; omega)
          have HTA := hd (PF.take_map_next hkA)
          have HTB := hd (PF.take_map_next hkB)
          have HLA : Hd (((A.take k).map PF.d10).length ≤ 100000000) := hd (by rw [List.length_map, List.length_take]; omega)
          have HLB : Hd (((B.take k).map PF.d10).length ≤ 100000000) := hd (by rw [List.length_map, List.length_take]; omega)
          go_wp2_with (first
            | (at_builtin; refine wpList_push2 Tryz.underlying50 info_u8f rfl _ _ rfl HR.o HLA.o (PF.d10 (A[k]'hkA)) _ HXA.o _ rfl rfl rfl ?_; intro v2 w2 hR2; have HR2 := hd hR2.swap; clear hR2; have cB := (HCB.o w2 HR2.o.b); simp only [Option.some.injEq, Addr.mk.injEq, and_true] at cB; obtain ⟨_, _, ⟨rfl, rfl⟩, cB⟩ := cB)
            | (at_builtin; refine wpList_push2 Tryz.underlying50 info_u8f rfl _ _ rfl HR2.o HLB.o (PF.d10 (B[k]'hkB)) _ HXB.o _ rfl rfl rfl ?_; intro v3 w3 hR3; have HR3 := hd hR3.swap; clear hR3))
          go_roundw
          case rel => exact ⟨k + 1, by omega, by go_num, hd (by rw [HTA.o, HTB.o]; exact HR3.o)⟩
          case measure => simp [intOf]; omega
        · obtain rfl : k = n := by omega
          have HXL : Hd (((A.take k).map PF.d10).length = k) := hd (by have := HN.o; rw [List.length_map, List.length_take]; omega)
          have HYL : Hd (((B.take k).map PF.d10).length = k) := hd (by have := HN.o; rw [List.length_map, List.length_take]; omega)
          have HXD := hd (PF.d10_dig (A.take k))
          have HYD := hd (PF.d10_dig (B.take k))
          generalize (A.take k).map PF.d10 = X at *
          generalize (B.take k).map PF.d10 = Y at *
          by_cases hn0 : k = 0
          · subst hn0
            go_wp2
            go_ret
            exact ⟨rfl, HR.o.b⟩
          · have t0 : ((k : Int) == 0) = false := by rw [beq_eq_false_iff_ne]; omega
            have hcx : ∀ q, (convert 50 9 u8).run Tryz.prog (wr.drewN q) = .ok (.string ⟨X.toArray⟩) (wr.drewN q) := fun q => conv_u8 (IsL.below (IsL.own HR.o.o) (bel_drew (Below.refl _ _) q))
            have hcy : ∀ q, (convert 50 9 u9).run Tryz.prog (wr.drewN q) = .ok (.string ⟨Y.toArray⟩) (wr.drewN q) := fun q => conv_u8 (IsL.below (IsL.own HR.o.p) (bel_drew (Below.refl _ _) q))
            have HBR := hd HR.o.b
            have hn0' : ¬ k = 0 := hn0
            have HN0 := hd hn0'
            clear hn0 hn0' hmk
            go_wp2_with fail
            go_quiet (fail)
            go_upto_if 60 with fail
            go_cut [11, 12] from 58 to 62 (fun x11 x12 wx => ∃ S T : List UInt8, x11 = .string ⟨S.toArray⟩ ∧ x12 = .string ⟨T.toArray⟩ ∧ Hd (TwoD k S T) ∧ Hd (Below w.heap.size w wx))
            case first =>
              obtain ⟨c1, c2⟩ := PF.less_dv Y X (HYL.o.trans HXL.o.symm) HYD.o HXD.o
              have HC1 := hd c1
              have HC2 := hd c2
              clear c1 c2
              have eY : (⟨Y.toArray⟩ : ByteArray).toList = Y := by rw [ByteArray.toList_eq]
              have eX : (⟨X.toArray⟩ : ByteArray).toList = X := by rw [ByteArray.toList_eq]
              cases hbl : Op.bytesLess Y X with
              | true =>
                have HT : Hd (TwoD k Y X) := hd ⟨HYL.o, HXL.o, HYD.o, HXD.o, HC1.o hbl⟩
                go_wp2
                go_meet
                case rel => exact ⟨Y, X, rfl, rfl, HT, hd (bel_drew HBR.o _)⟩
              | false =>
                have HT : Hd (TwoD k X Y) := hd ⟨HXL.o, HYL.o, HXD.o, HYD.o, HC2.o hbl⟩
                go_wp2
                go_meet
                case rel => exact ⟨X, Y, rfl, rfl, HT, hd (bel_drew HBR.o _)⟩
            case rest =>
              obtain ⟨S, T, rfl, rfl, HT, HB1⟩ := hcut
              have HDL : Hd ((Lib.decDigits j).length ≤ 20) := hd (by rw [Lib.decDigits_length]; exact Lib.nDigits_le20 _ (by omega))
              have hlen : ∀ N : Nat, N ≤ 1000 → ¬ 9223372036854775807 < N + (Lib.decDigits j).length := fun N hN => by have := HDL.o; omega
              have l1 := hlen 1 (by decide)
              have l2 := hlen 2 (by decide)
              obtain ⟨xp1, xp2⟩ := PF.exp_pos j (by omega)
              obtain ⟨xn1, xn2⟩ := PF.exp_neg j (by omega)
              have HEP : Hd (ExpT (101 :: Lib.decDigits j)) := hd ⟨⟨_, rfl⟩, xp2, by rw [List.length_cons]; have := HDL.o; omega⟩
              have HEN : Hd (ExpT (101 :: 45 :: Lib.decDigits j)) := hd ⟨⟨_, rfl⟩, xn2, by rw [List.length_cons, List.length_cons]; have := HDL.o; omega⟩
              have ep : Hd (((⟨#[101]⟩ : ByteArray) ++ ⟨(Lib.decDigits j).toArray⟩) = ⟨(101 :: Lib.decDigits j).toArray⟩) := hd (str_app [101] _)
              have en : Hd (((⟨#[101, 45]⟩ : ByteArray) ++ ⟨(Lib.decDigits j).toArray⟩) = ⟨(101 :: 45 :: Lib.decDigits j).toArray⟩) := hd (str_app [101, 45] _)
              clear xp1 xp2 xn1 xn2 hlen
              generalize Lib.decDigits j = L at *
              go_upto_if 69 with (go_at_call 37; (with_reducible refine (HDEC.o _).mono ?_); rintro x w1 ⟨rfl, h1⟩; have HB2 := hd (bel HB1.o h1); clear h1)
              go_cut [13] from 68 to 75 (fun x13 wx => ∃ r : List UInt8, x13 = .string ⟨r.toArray⟩ ∧ Hd (ExpT r) ∧ Hd (Below w.heap.size w wx))
              case first =>
                by_cases he0 : e < 0
                · go_wp2_with (go_at_call 37; (with_reducible refine (HDEC.o _).mono ?_); rintro x w1 ⟨rfl, h1⟩; have HB3 := hd (bel HB2.o h1); clear h1)
                  go_meet
                  case rel => exact ⟨_, by rw [en.o], HEN, HB3⟩
                · go_wp2
                  go_meet
                  case rel => exact ⟨_, by rw [ep.o], HEP, HB2⟩
              case rest =>
                obtain ⟨r, rfl, HR2, HB3⟩ := hcut
                clear HEP HEN ep en l1 l2 HDL HDEC HB1 HBR hcx hcy HR HXL HYL HXD HYD
                have HSL : Hd ((S ++ r).length ≤ 430 ∧ (T ++ r).length ≤ 430 ∧ S.length ≤ 400 ∧ T.length ≤ 400 ∧ r.length ≤ 30) := hd (by
                  rw [List.length_append, List.length_append, HT.o.ls, HT.o.lt]
                  have := HR2.o.l
                  have := HN.o
                  omega)
                have l3 : ¬ 9223372036854775807 < S.length + r.length := by have := HSL.o; omega
                have l4 : ¬ 9223372036854775807 < T.length + r.length := by have := HSL.o; omega
                have hn0' := HN0.o
                have hS0 : S ≠ [] := fun h => by have := HT.o.ls; rw [h] at this; exact hn0' this.symm
                have hT0 : T ≠ [] := fun h => by have := HT.o.lt; rw [h] at this; exact hn0' this.symm
                have HRS : Hd (∀ W, Below w.heap.size w W → Calls Tryz.prog 27 #[.string (⟨S.toArray⟩ ++ ⟨r.toArray⟩)] W fun x w' => Below W.heap.size W w' ∧ ∃ b, PVal (PF.dv S) (PF.expOf r) b ∧ x = .returned (RdAns b)) := hd (fun W hW => by
                  rw [str_app]; exact read_exp S r hS0 HT.o.ds HR2.o.e HR2.o.x (by have := HSL.o; omega) W (HNM.o.below hW))
                have HRT : Hd (∀ W, Below w.heap.size w W → Calls Tryz.prog 27 #[.string (⟨T.toArray⟩ ++ ⟨r.toArray⟩)] W fun x w' => Below W.heap.size W w' ∧ ∃ b, PVal (PF.dv T) (PF.expOf r) b ∧ x = .returned (RdAns b)) := hd (fun W hW => by
                  rw [str_app]; exact read_exp T r hT0 HT.o.dt HR2.o.e HR2.o.x (by have := HSL.o; omega) W (HNM.o.below hW))
                clear hS0 hT0 hn0'
                go_wp2_with fail
                refine (HRS.o _ HB3.o).mono ?_
                rintro x w2 ⟨h1, b1, hv1, rfl⟩
                have HB4 := hd (bel HB3.o h1)
                have HV1 := hd hv1
                clear h1 hv1
                by_cases hI1 : b1 = FS.INF
                · have hA1 : RdAns b1 = .tuple #[.float .f64 0, .int .i64 21] := by unfold RdAns; rw [if_pos hI1]
                  rw [hA1]
                  have HI1 := hd hI1
                  clear hA1 hI1
                  go_wp2_with fail
                  refine (HRT.o _ HB4.o).mono ?_
                  rintro x w3 ⟨h1, b2, hv2, rfl⟩
                  have HB5 := hd (bel HB4.o h1)
                  have hI2 : b2 = FS.INF := by
                    have h2 := HV1.o.mono hv2 HT.o.le
                    have h3 := hv2.le
                    have h4 := HI1.o
                    omega
                  have hA2 : RdAns b2 = .tuple #[.float .f64 0, .int .i64 21] := by unfold RdAns; rw [if_pos hI2]
                  rw [hA2]
                  clear h1 hv2 hA2 hI2
                  go_wp2_with fail
                  go_ret
                  exact ⟨rfl, HB5.o⟩
                · have hA1 : RdAns b1 = .tuple #[.float .f64 b1, .int .i64 0] := by unfold RdAns; rw [if_neg hI1]
                  rw [hA1]
                  clear hA1 hI1
                  go_wp2_with fail
                  refine (HRT.o _ HB4.o).mono ?_
                  rintro x w3 ⟨h1, b2, hv2, rfl⟩
                  have HB5 := hd (bel HB4.o h1)
                  have HLE := hd (HV1.o.mono hv2 HT.o.le)
                  have HL2 := hd hv2.le
                  clear h1 hv2
                  by_cases hI2 : b2 = FS.INF
                  · have hA2 : RdAns b2 = .tuple #[.float .f64 0, .int .i64 21] := by unfold RdAns; rw [if_pos hI2]
                    rw [hA2]
                    clear hA2 hI2
                    go_wp2_with fail
                    go_ret
                    exact ⟨rfl, HB5.o⟩
                  · have hA2 : RdAns b2 = .tuple #[.float .f64 b2, .int .i64 0] := by unfold RdAns; rw [if_neg hI2]
                    rw [hA2]
                    have hL1 : b1 ≤ FS.INF := Nat.le_trans HLE.o HL2.o
                    have hLL := HLE.o
                    have hL2 := HL2.o
                    obtain ⟨n1, k1⟩ := inf_fl hL1
                    obtain ⟨n2, k2⟩ := inf_fl hL2
                    have hb1 : b1 < 18446744073709551616 := by unfold FS.INF at hL1; omega
                    have hb2 : b2 < 18446744073709551616 := by unfold FS.INF at hL2; omega
                    have te := eq_fl hL1 hL2
                    have tl := FO.lt_eq hb1 hb2
                    rw [n1, n2, k1, k2] at tl
                    have HO := hd (fun W => order_any b1 b2 W hb1 hb2)
                    have ho : FO.ord b1 b2 ≤ 0 := by
                      unfold FO.ord
                      rw [n1, n2, k1, k2]
                      simp
                      split <;> omega
                    generalize FO.ord b1 b2 = od at *
                    clear hA2 hI2 n1 n2 k1 k2 hL1 hL2 hb1 hb2
                    by_cases hEQ : b1 = b2
                    · have te2 : (FloatKind.f64.format.order b1 b2 == some Ordering.eq) = true := by rw [te]; exact decide_eq_true hEQ
                      clear te tl hEQ hLL
                      go_wp2_with (go_at_call 23; (with_reducible refine (HO.o _).mono ?_); rintro x w4 ⟨rfl, rfl⟩)
                      go_ret
                      exact ⟨rfl, HB5.o⟩
                    · have tl2 : (FloatKind.f64.format.order b1 b2 == some Ordering.lt) = true := by rw [tl]; simp; omega
                      clear te tl hEQ hLL
                      go_wp2_with (go_at_call 23; (with_reducible refine (HO.o _).mono ?_); rintro x w4 ⟨rfl, rfl⟩)
                      go_ret
                      exact ⟨rfl, HB5.o⟩
end Go.Proofs.YtibmgmgdbicdlaaGreatDoor
