/- (*internal/strconv.decimal).set over a decimal lexeme. Printed by mkset.py. -/
import Derived.Test.YtibmgmgdbicdlaaGreatDoorDTwo
import Derived.Test.YtibmgmgdbicdlaaGreatDoorPVal
import Derived.StillTailTactics
namespace Go.Proofs.YtibmgmgdbicdlaaGreatDoor
open Go.RowKit
set_option linter.unusedVariables false
set_option linter.unusedSimpArgs false
theorem DN.set_ng (f : Nat → Nat) (nd : Nat) (dp : Int) (tr : Bool) : (DN.dcl f nd dp tr).set 802 (.bool false) = DN.dcl f nd dp tr := DN.set_tail f _ 2 _
theorem Dc.sng {w : World} {b : Nat} {f : Nat → Nat} {nd : Nat} {dp : Int} {tr : Bool} (D : Dc w b f nd dp tr) : Dc (w.setCell ⟨b, 802, none⟩ (.bool false)) b f nd dp tr := ⟨by have := D.k.set 802 (.bool false); rw [DN.set_ng] at this; exact this⟩
/-- what has been read into the decimal -/
structure SetI (w : World) (b : Nat) (nd : Nat) (dp : Int) (l : List UInt8) : Prop where
  ex : ∃ f, Dc w b f nd dp false ∧ DN.Ok f nd ∧ (0 < nd → 49 ≤ f 0) ∧ DN.dvf f nd = (PF.mf l PF.ls0).D
theorem take_next (s : ByteArray) (k : Nat) (h : k < s.size) : s.data.toList.take (k + 1) = s.data.toList.take k ++ [s[k]'h] := by
  have h1 := data_drop' s k h
  have h2 : k < s.data.toList.length := by rw [← Lib.size_eq]; exact h
  have h3 := List.drop_eq_getElem_cons h2
  rw [h1] at h3
  injection h3 with h4 _
  rw [List.take_succ_eq_append_getElem h2, h4]
theorem PF.mf_next (s : ByteArray) (k : Nat) (h : k < s.size) (Q : PF.LS) : PF.mf (s.data.toList.take (k + 1)) Q = PF.mst (PF.mf (s.data.toList.take k) Q) (s[k]'h).toNat := by
  rw [take_next s k h, PF.mf_app]; rfl
theorem PF.mst_D (Q : PF.LS) (c : Nat) (h : c ≠ 46) : (PF.mst Q c).D = Q.D * 10 + (c - 48) := by unfold PF.mst; rw [if_neg h]
theorem PF.mst_dot (Q : PF.LS) : (PF.mst Q 46).D = Q.D := by unfold PF.mst; rw [if_pos rfl]
theorem DN.dvf_upd (f : Nat → Nat) (nd c : Nat) : DN.dvf (DN.upd f nd c) (nd + 1) = DN.dvf f nd * 10 + (c - 48) := by
  rw [DN.dvf, DN.dvf_congr (f := DN.upd f nd c) (g := f) nd (fun i hi => by unfold DN.upd; rw [if_neg (by omega)])]
  unfold DN.upd; rw [if_pos rfl]
set_option maxRecDepth 100000 in
set_option maxHeartbeats 4000000 in
theorem set_any (s : ByteArray) (st : PF.St) (r : List UInt8) (w : World) (b : Nat) (f : Nat → Nat) (Dd : PF.Dec s st r) (D : Dc w b f 0 0 false) :
    Calls Tryz.prog 218 #[.pointer (some ⟨b, 0, none⟩), .string s] w fun e w' => e = .returned (.bool true) ∧ Below b w w' ∧ ∃ k, s.data.toList.drop k = r ∧ SetI w' b st.nd (PF.dpOf st + PF.expOf r) (s.data.toList.take k) := by
  have HD := hd Dd
  have HSZ := hd (Lib.size_eq s)
  have hs := Dd.sz
  have h0 : 0 < s.size := by
    rcases Nat.eq_zero_or_pos s.size with c | c
    · exfalso
      have h1 := Dd.lp
      have h2 := Dd.sg
      have : s.data.toList = [] := List.eq_nil_of_length_eq_zero (by rw [← Lib.size_eq]; exact c)
      rw [this] at h1
      have : st = PF.st0 := (congrArg Prod.fst h1).symm
      rw [this] at h2
      cases h2
    · exact c
  have t43 : (((s[0]).toNat : Int) == 43) = false := by rw [beq_eq_false_iff_ne]; have := (Dd.n0 h0).1; omega
  have t45 : (((s[0]).toNat : Int) == 45) = false := by rw [beq_eq_false_iff_ne]; have := (Dd.n0 h0).2; omega
  have hne : ¬ s = ByteArray.empty := fun h => by subst h; exact absurd h0 (by decide)
  have c802 := D.cng
  have c803 := D.ctr
  have z802 := D.fz 802
  have z803 := D.fz 803
  have HS0 : Hd (SetI ((w.setCell ⟨b, 802, none⟩ (.bool false)).setCell ⟨b, 803, none⟩ (.bool false)) b 0 0 []) := hd ⟨f, D.sng.str false, fun i hi => absurd hi (by omega), fun h => absurd h (by omega), rfl⟩
  have HB0 : Hd (Below b w ((w.setCell ⟨b, 802, none⟩ (.bool false)).setCell ⟨b, 803, none⟩ (.bool false))) := hd (((Below.refl b w).setCell (p := ⟨b, 802, none⟩) (Nat.le_refl _) _).setCell (p := ⟨b, 803, none⟩) (Nat.le_refl _) _)
  clear Dd D
  go_enter Tryz.func218, Tryz.ntmps218
  go_upto_block 1 with fail
  go_cut [5, 6, 7] from 34 to 116 (fun x5 x6 x7 wx => ∃ k : Nat, k ≤ s.size ∧ x5 = .int .i64 (k : Int) ∧ x6 = .bool st.sd ∧ x7 = .bool true ∧ Hd (s.data.toList.drop k = r) ∧ Hd (Below b w wx) ∧ Hd (SetI wx b st.nd st.dp (s.data.toList.take k)))
  case first =>
    go_wp2_with fail
    go_loopw [5, 6, 7] (fun x5 x6 x7 wr => ∃ (k : Nat) (q : PF.St), k ≤ s.size ∧ x5 = .int .i64 (k : Int) ∧ x6 = .bool q.sd ∧ x7 = .bool q.sg ∧ Hd (PF.Bd q k) ∧ Hd (PF.loop (s.data.toList.drop k) q = (st, r)) ∧ Hd (Below b w wr) ∧ Hd (SetI wr b q.nd q.dp (s.data.toList.take k))) (fun x5 x6 x7 wr => s.size - (intOf x5).toNat)
    case atStart => exact ⟨0, PF.st0, Nat.zero_le _, rfl, rfl, rfl, hd PF.Bd.start, hd HD.o.lp, HB0, HS0⟩
    case round =>
      clear c802 c803 z802 z803 HB0 HS0 t43 t45
      obtain ⟨k, ⟨m, nd, nm, dp, sd, sg, tr⟩, hk, rfl, rfl, rfl, HB, HL, HBL, HSI⟩ := hrel
      obtain ⟨g, hD, hok, hg0, hv⟩ := HSI.o.ex
      have hD : Dc wr b g nd dp false := hD
      have hok : DN.Ok g nd := hok
      have hg0 : 0 < nd → 49 ≤ g 0 := hg0
      have hv : DN.dvf g nd = (PF.mf (s.data.toList.take k) PF.ls0).D := hv
      have HDC := hd hD
      have HOK := hd hok
      have HG0 := hd hg0
      have HV := hd hv
      have c800 := hD.cnd
      have c801 := hD.cdp
      have z800 := hD.fz 800
      have z801 := hD.fz 801
      clear hD hok hg0 hv
      by_cases hlt : k < s.size
      · have HDR := hd (data_drop' s k hlt)
        have hc : (s[k]'hlt).toNat < 256 := (s[k]'hlt).toNat_lt
        have t95 : (((s[k]'hlt).toNat : Int) == 95) = false := by rw [beq_eq_false_iff_ne]; have := HD.o.nu _ (mem_data hlt); omega
        have YES : ∀ q', PF.step ⟨m, nd, nm, dp, sd, sg, tr⟩ (s[k]'hlt).toNat = some q' → Hd (PF.loop (s.data.toList.drop (k + 1)) q' = (st, r)) ∧ Hd (PF.Bd q' (k + 1)) := fun q' h => ⟨hd (by rw [← HL.o, HDR.o, PF.loop_some h]), hd (HB.o.step h)⟩
        have NO : PF.step ⟨m, nd, nm, dp, sd, sg, tr⟩ (s[k]'hlt).toNat = none → st = ⟨m, nd, nm, dp, sd, sg, tr⟩ ∧ s.data.toList.drop k = r := fun h => by
          have h1 := HL.o
          rw [HDR.o, PF.loop_none h] at h1
          have h2 : s[k] :: List.drop (k + 1) s.data.toList = r := congrArg Prod.snd h1
          exact ⟨(congrArg Prod.fst h1).symm, by rw [HDR.o]; exact h2⟩
        have hnd1 : nd ≤ k := HB.o.nd
        have hnm1 : nm ≤ 19 := HB.o.nm
        have hdp1 : -(k : Int) ≤ dp := HB.o.dl
        have hdp2 : dp ≤ (k : Int) := HB.o.du
        have HMF := hd (PF.mf_next s k hlt PF.ls0)
        by_cases c46 : (s[k]'hlt).toNat = 46
        · have t46 : (((s[k]'hlt).toNat : Int) == 46) = true := by rw [c46]; rfl
          cases sd with
          | true =>
            exfalso
            obtain ⟨h1, h2⟩ := NO (by unfold PF.step; rw [if_pos c46]; rfl)
            have h3 := HD.o.ex
            rw [← h2, HDR.o] at h3
            have := h3.1
            omega
          | false =>
            obtain ⟨H1, H2⟩ := YES _ (by unfold PF.step; rw [if_pos c46]; rfl)
            have HS2 : Hd (SetI (wr.setCell ⟨b, 801, none⟩ (.int .i64 (nd : Int))) b nd nd (s.data.toList.take (k + 1))) := hd ⟨g, HDC.o.sdp nd, HOK.o, HG0.o, by rw [HMF.o, c46, PF.mst_dot]; exact HV.o⟩
            clear YES NO c46
            go_wp2
            go_roundw
            case rel => exact ⟨k + 1, _, by omega, by go_num, rfl, rfl, H2, H1, hd (HBL.o.setCell (p := ⟨b, 801, none⟩) (Nat.le_refl _) _), HS2⟩
            case measure => simp [intOf]; omega
        · have t46 : (((s[k]'hlt).toNat : Int) == 46) = false := by rw [beq_eq_false_iff_ne]; omega
          by_cases cd : 48 ≤ (s[k]'hlt).toNat ∧ (s[k]'hlt).toNat ≤ 57
          · by_cases cz : (s[k]'hlt).toNat = 48 ∧ nd = 0
            · obtain ⟨H1, H2⟩ := YES _ (by unfold PF.step; rw [if_neg c46, if_pos cd, if_pos cz])
              have t48 : (((s[k]'hlt).toNat : Int) == 48) = true := by rw [cz.1]; rfl
              obtain ⟨cd1, cd2⟩ := cd
              obtain ⟨cz1, cz2⟩ := cz
              subst cz2
              have HS2 : Hd (SetI (wr.setCell ⟨b, 801, none⟩ (.int .i64 (dp - 1))) b 0 (dp - 1) (s.data.toList.take (k + 1))) := hd ⟨g, HDC.o.sdp (dp - 1), HOK.o, HG0.o, by
                rw [HMF.o, PF.mst_D _ _ c46, cz1, ← HV.o]; rfl⟩
              clear YES NO c46 cz1
              go_wp2
              go_roundw
              case rel => exact ⟨k + 1, _, by omega, by go_num, rfl, rfl, H2, H1, hd (HBL.o.setCell (p := ⟨b, 801, none⟩) (Nat.le_refl _) _), HS2⟩
              case measure => simp [intOf]; omega
            · have tz : ((((s[k]'hlt).toNat : Int) == 48) = true ∧ ((nd : Int) == 0) = false) ∨ (((s[k]'hlt).toNat : Int) == 48) = false := by
                by_cases e : (s[k]'hlt).toNat = 48
                · left; exact ⟨by rw [e]; rfl, by rw [beq_eq_false_iff_ne]; omega⟩
                · right; rw [beq_eq_false_iff_ne]; omega
              have H12 : Hd (∃ q' : PF.St, q'.nd = nd + 1 ∧ q'.dp = dp ∧ q'.sd = sd ∧ q'.sg = true ∧ PF.loop (s.data.toList.drop (k + 1)) q' = (st, r) ∧ PF.Bd q' (k + 1)) := hd (by
                by_cases c19 : nm < 19
                · obtain ⟨H1, H2⟩ := YES _ (by unfold PF.step; rw [if_neg c46, if_pos cd, if_neg cz, if_pos c19])
                  exact ⟨_, rfl, rfl, rfl, rfl, H1.o, H2.o⟩
                · obtain ⟨H1, H2⟩ := YES _ (by unfold PF.step; rw [if_neg c46, if_pos cd, if_neg cz, if_neg c19])
                  exact ⟨_, rfl, rfl, rfl, rfl, H1.o, H2.o⟩)
              have H49 : Hd (nd = 0 → 49 ≤ (s[k]'hlt).toNat) := hd (fun h => by
                have : (s[k]'hlt).toNat ≠ 48 := fun e => cz ⟨e, h⟩
                omega)
              obtain ⟨cd1, cd2⟩ := cd
              have hnd8 : nd < 800 := by omega
              have hnd8I : (nd : Int) < 800 := by omega
              have zn := HDC.o.fz nd
              have cn := HDC.o.dig nd hnd8
              have HS2 : Hd (SetI ((wr.drew.setCell ⟨b, nd, none⟩ (.int .u8 ((s[k]'hlt).toNat : Int))).setCell ⟨b, 800, none⟩ (.int .i64 ((nd + 1 : Nat) : Int))) b (nd + 1) dp (s.data.toList.take (k + 1))) := hd (by
                refine ⟨DN.upd g nd (s[k]'hlt).toNat, ((HDC.o.drew 1).sdig nd _ hnd8).snd (nd + 1), fun i hi => ?_, fun _ => ?_, ?_⟩
                · unfold DN.upd
                  split
                  · exact ⟨cd1, cd2⟩
                  · exact HOK.o i (by omega)
                · unfold DN.upd
                  split
                  · rename_i h; exact H49.o h.symm
                  · exact HG0.o (by omega)
                · rw [DN.dvf_upd, HMF.o, PF.mst_D _ _ c46, HV.o])
              have HB2 : Hd (Below b w ((wr.drew.setCell ⟨b, nd, none⟩ (.int .u8 ((s[k]'hlt).toNat : Int))).setCell ⟨b, 800, none⟩ (.int .i64 ((nd + 1 : Nat) : Int)))) := hd ((HBL.o.drew.setCell (p := ⟨b, nd, none⟩) (Nat.le_refl _) _).setCell (p := ⟨b, 800, none⟩) (Nat.le_refl _) _)
              clear YES NO c46 cz HL HB HSI HMF H49
              rcases tz with ⟨tz1, tz2⟩ | tz1
              all_goals
                go_wp2_with fail
                go_still_tail 11, (by kernel_rfl)
                change wpList _ _ _ _ _ wr.drew
                go_wp2
                obtain ⟨q', e1, e2, e3, e4, e5, e6⟩ := H12.o
                go_roundw
                case rel => exact ⟨k + 1, q', by omega, by go_num, by rw [e3], by rw [e4], hd e6, hd e5, HB2, hd (by rw [e1, e2]; exact HS2.o)⟩
                case measure => simp [intOf]; omega
          · obtain ⟨h1, h2⟩ := NO (by unfold PF.step; rw [if_neg c46, if_neg cd])
            have h3 : (s[k]'hlt).toNat = 101 ∨ (s[k]'hlt).toNat = 69 := by
              have h3 := HD.o.ex
              rw [← h2, HDR.o] at h3
              exact h3.1
            have c57 : 57 < (s[k]'hlt).toNat := by omega
            have c48 : 48 ≤ (s[k]'hlt).toNat := by omega
            subst h1
            have hsg : sg = true := HD.o.sg
            subst hsg
            have HR := hd h2
            clear YES NO c46 cd h3 HL h2 HB HMF
            go_wp2
            go_meet
            case rel => exact ⟨k, by omega, rfl, rfl, rfl, HR, HBL, HSI⟩
      · obtain rfl : k = s.size := by omega
        have HX : Hd (st = ⟨m, nd, nm, dp, sd, sg, tr⟩ ∧ s.data.toList.drop s.size = r) := hd (by
          have h1 := HL.o
          rw [List.drop_eq_nil_of_le (by have := HSZ.o; omega)] at h1 ⊢
          exact ⟨(congrArg Prod.fst h1).symm, congrArg Prod.snd h1⟩)
        obtain ⟨h1, h2⟩ := HX.o
        subst h1
        have hsg : sg = true := HD.o.sg
        subst hsg
        have HR := hd h2
        clear h2 HL HB HX
        go_wp2
        go_meet
        case rel => exact ⟨s.size, by omega, rfl, rfl, rfl, HR, HBL, HSI⟩
  case rest =>
    clear c802 c803 z802 z803 HB0 HS0 t43 t45
    obtain ⟨k, hk, rfl, rfl, rfl, HR, HBL, HSI⟩ := hcut
    go_upto_if 120 with fail
    go_cut [6, 7] from 117 to 127 (fun x6 x7 wx => x7 = .bool true ∧ Hd (Below b w wx) ∧ Hd (SetI wx b st.nd (PF.dpOf st) (s.data.toList.take k)))
    case first =>
      obtain ⟨g, hD, hok, hg0, hv⟩ := HSI.o.ex
      have HDC := hd hD
      have HOK := hd hok
      have HG0 := hd hg0
      have HV := hd hv
      have c800 := hD.cnd
      have c801 := hD.cdp
      have z801 := hD.fz 801
      clear hD hok hg0 hv
      cases hsd : st.sd with
      | true =>
        have HE : Hd (PF.dpOf st = st.dp) := hd (by unfold PF.dpOf; rw [hsd]; rfl)
        clear hsd
        go_wp2
        go_meet
        case rel => exact ⟨rfl, HBL, hd (by rw [HE.o]; exact HSI.o)⟩
      | false =>
        have HE : Hd (PF.dpOf st = st.nd) := hd (by unfold PF.dpOf; rw [hsd]; rfl)
        have HS2 : Hd (SetI (wc.setCell ⟨b, 801, none⟩ (.int .i64 (st.nd : Int))) b st.nd (st.nd : Int) (s.data.toList.take k)) := hd ⟨g, HDC.o.sdp st.nd, HOK.o, HG0.o, HV.o⟩
        clear hsd
        go_wp2
        go_meet
        case rel => exact ⟨rfl, hd (HBL.o.setCell (p := ⟨b, 801, none⟩) (Nat.le_refl _) _), hd (by rw [HE.o]; exact HS2.o)⟩
    case rest =>
      rename_i wc0
      obtain ⟨rfl, HBL, HSI⟩ := hcut
      obtain ⟨g, hD, hok, hg0, hv⟩ := HSI.o.ex
      obtain ⟨dq, hdq⟩ : ∃ dq, dq = PF.dpOf st := ⟨_, rfl⟩
      obtain ⟨nq, hnq⟩ : ∃ nq, nq = st.nd := ⟨_, rfl⟩
      rw [← hdq, ← hnq] at hD
      rw [← hnq] at hok hg0 hv
      have HDQ := hd hdq
      have HNQ := hd hnq
      have HDC := hd hD
      have HOK := hd hok
      have HG0 := hd hg0
      have HV := hd hv
      have c801 := hD.cdp
      have z801 := hD.fz 801
      have hEX := HD.o.ex
      obtain ⟨kb, hkb, hBd⟩ := dec_bd HD.o
      have hdpo1 : -2000 ≤ dq := by rw [hdq]; unfold PF.dpOf; have := hBd.dl; split <;> omega
      have hdpo2 : dq ≤ 2000 := by rw [hdq]; unfold PF.dpOf; have := hBd.du; have := hBd.nd; split <;> omega
      clear hD hok hg0 hv HSI hBd hdq hnq
      by_cases hke : k = s.size
      · subst hke
        have HE : Hd (dq + PF.expOf r = dq) := hd (by
          rw [← HR.o, List.drop_eq_nil_of_le (by have := HSZ.o; omega)]; exact Int.add_zero _)
        go_wp2
        go_ret
        exact ⟨rfl, HBL.o, s.size, HR.o, ⟨g, by rw [← HNQ.o, ← HDQ.o, HE.o]; exact HDC.o, by rw [← HNQ.o]; exact HOK.o, by rw [← HNQ.o]; exact HG0.o, by rw [← HNQ.o]; exact HV.o⟩⟩
      · have hlt : k < s.size := by omega
        have HDR := hd (data_drop' s k hlt)
        have hc : (s[k]'hlt).toNat < 256 := (s[k]'hlt).toNat_lt
        have EX : ((s[k]'hlt).toNat = 101 ∨ (s[k]'hlt).toNat = 69) ∧ 0 < ((s.data.toList.drop (k + 1)).drop (PN.sgl (s.data.toList.drop (k + 1)))).length ∧ ∀ x ∈ (s.data.toList.drop (k + 1)).drop (PN.sgl (s.data.toList.drop (k + 1))), 48 ≤ x.toNat ∧ x.toNat ≤ 57 := by
          rw [← HR.o, HDR.o] at hEX
          exact hEX
        have hk1 : k + 1 < s.size := by have := EX.2.1; rw [List.length_drop, List.length_drop, ← HSZ.o] at this; omega
        have t101 : ((PF.low (s[k]'hlt).toNat : Int) == 101) = true := by have := ((PF.low_at hc).2.2.1).2 EX.1; rw [this]; rfl
        have HD1 := hd (data_drop' s (k + 1) hk1)
        have hc1 : (s[k + 1]'hk1).toNat < 256 := (s[k + 1]'hk1).toNat_lt
        clear hEX hke
        by_cases c1 : (s[k + 1]'hk1).toNat = 43
        · have t1 : (((s[k + 1]'hk1).toNat : Int) == 43) = true := by rw [c1]; rfl
          have hS : PN.sgl (s.data.toList.drop (k + 1)) = 1 := by rw [HD1.o, PN.sgl_cons, if_pos (.inl c1)]
          have HJ : Hd (∀ x ∈ s.data.toList.drop (k + 1 + 1), 48 ≤ x.toNat ∧ x.toNat ≤ 57) := hd (by have := EX.2.2; rw [hS] at this; simpa [List.drop_drop] using this)
          have hjl : k + 1 + 1 < s.size := by have := EX.2.1; rw [hS, List.length_drop, List.length_drop, ← HSZ.o] at this; omega
          have hj0 := HJ.o _ (by rw [data_drop' s (k + 1 + 1) hjl]; exact List.mem_cons_self ..)
          have hjc : (s[k + 1 + 1]'hjl).toNat < 256 := (s[k + 1 + 1]'hjl).toNat_lt
          obtain ⟨hj1, hj2⟩ := hj0
          obtain ⟨E0, hE0⟩ : ∃ E0, E0 = PF.eloop (s.data.toList.drop (k + 1 + 1)) 0 := ⟨_, rfl⟩
          have HE0 := hd hE0
          have HX : Hd (PF.expOf r = (E0 : Int) * (1)) := hd (by rw [← HR.o, HDR.o, hE0]; show (PF.eloop ((s.data.toList.drop (k + 1)).drop (PN.sgl (s.data.toList.drop (k + 1)))) 0 : Int) * _ = _; rw [hS, List.drop_drop]; congr 1; rw [HD1.o]; simp [c1])
          clear hE0 EX hS
          go_wp2_with (go_at_call 193; refine (lower_any _ _ hc).mono ?_; rintro e w' ⟨rfl, rfl⟩)
          go_loop [5, 9] (fun xi xe => ∃ (j e : Nat), k + 1 + 1 ≤ j ∧ j ≤ s.size ∧ e ≤ 110000 ∧ xi = .int .i64 (j : Int) ∧ xe = .int .i64 (e : Int) ∧ Hd (PF.eloop (s.data.toList.drop j) e = E0)) (fun xi xe => s.size - (intOf xi).toNat)
          case atStart => exact ⟨k + 1 + 1, 0, Nat.le_refl _, by omega, by decide, by go_num, rfl, hd HE0.o.symm⟩
          case round =>
            obtain ⟨j, e, hjk, hjs, he, rfl, rfl, HEL⟩ := hrel
            by_cases hjlt : j < s.size
            · have HDj := hd (data_drop' s j hjlt)
              have hjc2 : (s[j]'hjlt).toNat < 256 := (s[j]'hjlt).toNat_lt
              obtain ⟨d1, d2⟩ := HJ.o (s[j]'hjlt) (by
                have : s.data.toList.drop j = (s.data.toList.drop (k + 1 + 1)).drop (j - (k + 1 + 1)) := by rw [List.drop_drop]; congr 1; omega
                exact List.mem_of_mem_drop (i := j - (k + 1 + 1)) (by rw [← this, HDj.o]; exact List.mem_cons_self ..))
              have u95 : (((s[j]'hjlt).toNat : Int) == 95) = false := by rw [beq_eq_false_iff_ne]; omega
              by_cases he1 : e < 10000
              · have H2 : Hd (PF.eloop (s.data.toList.drop (j + 1)) (e * 10 + ((s[j]'hjlt).toNat - 48)) = E0) := hd (by rw [← HEL.o, HDj.o]; rw [PF.eloop_cons, if_pos he1])
                clear HEL HDj
                go_wp2
                go_round
                case rel => exact ⟨j + 1, _, by omega, by omega, by omega, by go_num, by go_num, H2⟩
                case measure => simp [intOf]; omega
              · have H2 : Hd (PF.eloop (s.data.toList.drop (j + 1)) e = E0) := hd (by rw [← HEL.o, HDj.o]; rw [PF.eloop_cons, if_neg he1])
                clear HEL HDj
                go_wp2
                go_round
                case rel => exact ⟨j + 1, _, by omega, by omega, he, by go_num, rfl, H2⟩
                case measure => simp [intOf]; omega
            · obtain rfl : j = s.size := by omega
              have HEE : Hd (e = E0) := hd (by have := HEL.o; rw [List.drop_eq_nil_of_le (by have := HSZ.o; omega)] at this; exact this)
              clear HEL
              go_wp2_with fail
              go_ret
              exact ⟨rfl, HBL.o.setCell (p := ⟨b, 801, none⟩) (Nat.le_refl _) _, k, HR.o, ⟨g, by rw [← HNQ.o, ← HDQ.o, HX.o, ← HEE.o]; first | exact HDC.o.sdp _ | (have h := HDC.o.sdp (dq + (e : Int) * (1)); simpa using h), by rw [← HNQ.o]; exact HOK.o, by rw [← HNQ.o]; exact HG0.o, by rw [← HNQ.o]; exact HV.o⟩⟩
        · have t1 : (((s[k + 1]'hk1).toNat : Int) == 43) = false := by rw [beq_eq_false_iff_ne]; omega
          by_cases c2 : (s[k + 1]'hk1).toNat = 45
          · have t2 : (((s[k + 1]'hk1).toNat : Int) == 45) = true := by rw [c2]; rfl
            have hS : PN.sgl (s.data.toList.drop (k + 1)) = 1 := by rw [HD1.o, PN.sgl_cons, if_pos (.inr c2)]
            have HJ : Hd (∀ x ∈ s.data.toList.drop (k + 1 + 1), 48 ≤ x.toNat ∧ x.toNat ≤ 57) := hd (by have := EX.2.2; rw [hS] at this; simpa [List.drop_drop] using this)
            have hjl : k + 1 + 1 < s.size := by have := EX.2.1; rw [hS, List.length_drop, List.length_drop, ← HSZ.o] at this; omega
            have hj0 := HJ.o _ (by rw [data_drop' s (k + 1 + 1) hjl]; exact List.mem_cons_self ..)
            have hjc : (s[k + 1 + 1]'hjl).toNat < 256 := (s[k + 1 + 1]'hjl).toNat_lt
            obtain ⟨hj1, hj2⟩ := hj0
            obtain ⟨E0, hE0⟩ : ∃ E0, E0 = PF.eloop (s.data.toList.drop (k + 1 + 1)) 0 := ⟨_, rfl⟩
            have HE0 := hd hE0
            have HX : Hd (PF.expOf r = (E0 : Int) * (-1)) := hd (by rw [← HR.o, HDR.o, hE0]; show (PF.eloop ((s.data.toList.drop (k + 1)).drop (PN.sgl (s.data.toList.drop (k + 1)))) 0 : Int) * _ = _; rw [hS, List.drop_drop]; congr 1; rw [HD1.o]; simp [c2])
            clear hE0 EX hS
            go_wp2_with (go_at_call 193; refine (lower_any _ _ hc).mono ?_; rintro e w' ⟨rfl, rfl⟩)
            go_loop [5, 9] (fun xi xe => ∃ (j e : Nat), k + 1 + 1 ≤ j ∧ j ≤ s.size ∧ e ≤ 110000 ∧ xi = .int .i64 (j : Int) ∧ xe = .int .i64 (e : Int) ∧ Hd (PF.eloop (s.data.toList.drop j) e = E0)) (fun xi xe => s.size - (intOf xi).toNat)
            case atStart => exact ⟨k + 1 + 1, 0, Nat.le_refl _, by omega, by decide, by go_num, rfl, hd HE0.o.symm⟩
            case round =>
              obtain ⟨j, e, hjk, hjs, he, rfl, rfl, HEL⟩ := hrel
              by_cases hjlt : j < s.size
              · have HDj := hd (data_drop' s j hjlt)
                have hjc2 : (s[j]'hjlt).toNat < 256 := (s[j]'hjlt).toNat_lt
                obtain ⟨d1, d2⟩ := HJ.o (s[j]'hjlt) (by
                  have : s.data.toList.drop j = (s.data.toList.drop (k + 1 + 1)).drop (j - (k + 1 + 1)) := by rw [List.drop_drop]; congr 1; omega
                  exact List.mem_of_mem_drop (i := j - (k + 1 + 1)) (by rw [← this, HDj.o]; exact List.mem_cons_self ..))
                have u95 : (((s[j]'hjlt).toNat : Int) == 95) = false := by rw [beq_eq_false_iff_ne]; omega
                by_cases he1 : e < 10000
                · have H2 : Hd (PF.eloop (s.data.toList.drop (j + 1)) (e * 10 + ((s[j]'hjlt).toNat - 48)) = E0) := hd (by rw [← HEL.o, HDj.o]; rw [PF.eloop_cons, if_pos he1])
                  clear HEL HDj
                  go_wp2
                  go_round
                  case rel => exact ⟨j + 1, _, by omega, by omega, by omega, by go_num, by go_num, H2⟩
                  case measure => simp [intOf]; omega
                · have H2 : Hd (PF.eloop (s.data.toList.drop (j + 1)) e = E0) := hd (by rw [← HEL.o, HDj.o]; rw [PF.eloop_cons, if_neg he1])
                  clear HEL HDj
                  go_wp2
                  go_round
                  case rel => exact ⟨j + 1, _, by omega, by omega, he, by go_num, rfl, H2⟩
                  case measure => simp [intOf]; omega
              · obtain rfl : j = s.size := by omega
                have HEE : Hd (e = E0) := hd (by have := HEL.o; rw [List.drop_eq_nil_of_le (by have := HSZ.o; omega)] at this; exact this)
                clear HEL
                go_wp2_with fail
                go_ret
                exact ⟨rfl, HBL.o.setCell (p := ⟨b, 801, none⟩) (Nat.le_refl _) _, k, HR.o, ⟨g, by rw [← HNQ.o, ← HDQ.o, HX.o, ← HEE.o]; first | exact HDC.o.sdp _ | (have h := HDC.o.sdp (dq + (e : Int) * (-1)); simpa using h), by rw [← HNQ.o]; exact HOK.o, by rw [← HNQ.o]; exact HG0.o, by rw [← HNQ.o]; exact HV.o⟩⟩
          · have t2 : (((s[k + 1]'hk1).toNat : Int) == 45) = false := by rw [beq_eq_false_iff_ne]; omega
            have hS : PN.sgl (s.data.toList.drop (k + 1)) = 0 := by rw [HD1.o, PN.sgl_cons, if_neg (fun h => h.elim c1 c2)]
            have HJ : Hd (∀ x ∈ s.data.toList.drop (k + 1), 48 ≤ x.toNat ∧ x.toNat ≤ 57) := hd (by have := EX.2.2; rw [hS] at this; simpa [List.drop_drop] using this)
            have hjl : k + 1 < s.size := by have := EX.2.1; rw [hS, List.length_drop, List.length_drop, ← HSZ.o] at this; omega
            have hj0 := HJ.o _ (by rw [data_drop' s (k + 1) hjl]; exact List.mem_cons_self ..)
            have hjc : (s[k + 1]'hjl).toNat < 256 := (s[k + 1]'hjl).toNat_lt
            obtain ⟨hj1, hj2⟩ := hj0
            obtain ⟨E0, hE0⟩ : ∃ E0, E0 = PF.eloop (s.data.toList.drop (k + 1)) 0 := ⟨_, rfl⟩
            have HE0 := hd hE0
            have HX : Hd (PF.expOf r = (E0 : Int) * (1)) := hd (by rw [← HR.o, HDR.o, hE0]; show (PF.eloop ((s.data.toList.drop (k + 1)).drop (PN.sgl (s.data.toList.drop (k + 1)))) 0 : Int) * _ = _; rw [hS, List.drop_drop]; congr 1; rw [HD1.o]; simp [c2])
            clear hE0 EX hS
            go_wp2_with (go_at_call 193; refine (lower_any _ _ hc).mono ?_; rintro e w' ⟨rfl, rfl⟩)
            go_loop [5, 9] (fun xi xe => ∃ (j e : Nat), k + 1 ≤ j ∧ j ≤ s.size ∧ e ≤ 110000 ∧ xi = .int .i64 (j : Int) ∧ xe = .int .i64 (e : Int) ∧ Hd (PF.eloop (s.data.toList.drop j) e = E0)) (fun xi xe => s.size - (intOf xi).toNat)
            case atStart => exact ⟨k + 1, 0, Nat.le_refl _, by omega, by decide, by go_num, rfl, hd HE0.o.symm⟩
            case round =>
              obtain ⟨j, e, hjk, hjs, he, rfl, rfl, HEL⟩ := hrel
              by_cases hjlt : j < s.size
              · have HDj := hd (data_drop' s j hjlt)
                have hjc2 : (s[j]'hjlt).toNat < 256 := (s[j]'hjlt).toNat_lt
                obtain ⟨d1, d2⟩ := HJ.o (s[j]'hjlt) (by
                  have : s.data.toList.drop j = (s.data.toList.drop (k + 1)).drop (j - (k + 1)) := by rw [List.drop_drop]; congr 1; omega
                  exact List.mem_of_mem_drop (i := j - (k + 1)) (by rw [← this, HDj.o]; exact List.mem_cons_self ..))
                have u95 : (((s[j]'hjlt).toNat : Int) == 95) = false := by rw [beq_eq_false_iff_ne]; omega
                by_cases he1 : e < 10000
                · have H2 : Hd (PF.eloop (s.data.toList.drop (j + 1)) (e * 10 + ((s[j]'hjlt).toNat - 48)) = E0) := hd (by rw [← HEL.o, HDj.o]; rw [PF.eloop_cons, if_pos he1])
                  clear HEL HDj
                  go_wp2
                  go_round
                  case rel => exact ⟨j + 1, _, by omega, by omega, by omega, by go_num, by go_num, H2⟩
                  case measure => simp [intOf]; omega
                · have H2 : Hd (PF.eloop (s.data.toList.drop (j + 1)) e = E0) := hd (by rw [← HEL.o, HDj.o]; rw [PF.eloop_cons, if_neg he1])
                  clear HEL HDj
                  go_wp2
                  go_round
                  case rel => exact ⟨j + 1, _, by omega, by omega, he, by go_num, rfl, H2⟩
                  case measure => simp [intOf]; omega
              · obtain rfl : j = s.size := by omega
                have HEE : Hd (e = E0) := hd (by have := HEL.o; rw [List.drop_eq_nil_of_le (by have := HSZ.o; omega)] at this; exact this)
                clear HEL
                go_wp2_with fail
                go_ret
                exact ⟨rfl, HBL.o.setCell (p := ⟨b, 801, none⟩) (Nat.le_refl _) _, k, HR.o, ⟨g, by rw [← HNQ.o, ← HDQ.o, HX.o, ← HEE.o]; first | exact HDC.o.sdp _ | (have h := HDC.o.sdp (dq + (e : Int) * (1)); simpa using h), by rw [← HNQ.o]; exact HOK.o, by rw [← HNQ.o]; exact HG0.o, by rw [← HNQ.o]; exact HV.o⟩⟩
end Go.Proofs.YtibmgmgdbicdlaaGreatDoor
