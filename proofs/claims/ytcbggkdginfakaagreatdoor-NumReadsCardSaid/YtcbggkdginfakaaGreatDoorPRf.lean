/- internal/strconv.readFloat over a decimal lexeme. -/
import Derived.Test.YtcbggkdginfakaaGreatDoorPRfMath
import Derived.Deep.DeepCutAuto
namespace Go.Proofs.YtcbggkdginfakaaGreatDoor
open Go.RowKit
set_option linter.unusedVariables false
set_option linter.unusedSimpArgs false
namespace PF
def low (c : Nat) : Nat := c ||| 32
theorem low_all : ((List.range 256).all fun c => decide (low c < 256) && (decide (low c = 120) == decide (c = 120 ∨ c = 88)) && (decide (low c = 101) == decide (c = 101 ∨ c = 69)) && (decide (low c = 112) == decide (c = 112 ∨ c = 80))) = true := by decide +kernel
theorem low_at {c : Nat} (h : c < 256) : low c < 256 ∧ (low c = 120 ↔ c = 120 ∨ c = 88) ∧ (low c = 101 ↔ c = 101 ∨ c = 69) ∧ (low c = 112 ↔ c = 112 ∨ c = 80) := by
  have := List.all_eq_true.1 low_all c (List.mem_range.2 h)
  simp only [Bool.and_eq_true, decide_eq_true_eq, beq_iff_eq, decide_eq_decide] at this
  exact ⟨this.1.1.1, this.1.1.2, this.1.2, this.2⟩
end PF
theorem PF.eloop_cons (c : UInt8) (r : List UInt8) (e : Nat) : PF.eloop (c :: r) e = PF.eloop r (if e < 10000 then e * 10 + (c.toNat - 48) else e) := rfl
theorem lower_any (c : Nat) (w : World) (h : c < 256) :
    Calls Tryz.prog 198 #[.int .u8 c] w fun e w' => e = .returned (.int .u8 (PF.low c : Int)) ∧ w = w' := by
  have q := u8_or_nat c 32 h (by decide)
  go_enter Tryz.func198, Tryz.ntmps198
  go_wp2
  go_ret
  exact ⟨by unfold PF.low; first | rfl | (rw [← q]; rfl), rfl⟩
/-- the power of ten that is answered -/
def PF.ansE (st : PF.St) (r : List UInt8) : Int := if st.m = 0 then 0 else PF.dpOf st + PF.expOf r - st.nm
/-- a decimal lexeme: what readFloat meets -/
structure PF.Dec (s : ByteArray) (st : PF.St) (r : List UInt8) : Prop where
  sz : s.size ≤ 600
  lp : PF.loop s.data.toList PF.st0 = (st, r)
  sg : st.sg = true
  ex : PF.expOk r
  nu : ∀ x ∈ s.data.toList, x.toNat ≠ 95
  n0 : ∀ h : 0 < s.size, (s[0]'h).toNat ≠ 43 ∧ (s[0]'h).toNat ≠ 45
  nx : ∀ h : 1 < s.size, (s[0]'(by omega)).toNat = 48 → PF.low (s[1]'h).toNat ≠ 120
theorem mem_data {s : ByteArray} {k : Nat} (h : k < s.size) : s[k] ∈ s.data.toList := by
  have := data_drop' s k h
  exact List.mem_of_mem_drop (i := k) (by rw [this]; exact List.mem_cons_self ..)
set_option maxRecDepth 100000 in
set_option maxHeartbeats 4000000 in
theorem readDec_any (s : ByteArray) (st : PF.St) (r : List UInt8) (w : World) (D : PF.Dec s st r) :
    Calls Tryz.prog 181 #[.string s] w fun e w' => e = .returned (.tuple #[.int .u64 (st.m : Int), .int .i64 (PF.ansE st r), .bool false, .bool st.tr, .bool false, .int .i64 (s.size : Int), .bool true]) ∧ w = w' := by
  have HD := hd D
  have HSZ := hd (Lib.size_eq s)
  have hs := D.sz
  have h0 : 0 < s.size := by
    rcases Nat.eq_zero_or_pos s.size with c | c
    · exfalso
      have h1 := D.lp
      have h2 := D.sg
      have : s.data.toList = [] := List.eq_nil_of_length_eq_zero (by rw [← Lib.size_eq]; exact c)
      rw [this] at h1
      have : st = PF.st0 := (congrArg Prod.fst h1).symm
      rw [this] at h2
      cases h2
    · exact c
  have t43 : (((s[0]).toNat : Int) == 43) = false := by rw [beq_eq_false_iff_ne]; have := (D.n0 h0).1; omega
  have t45 : (((s[0]).toNat : Int) == 45) = false := by rw [beq_eq_false_iff_ne]; have := (D.n0 h0).2; omega
  have hne : ¬ s = ByteArray.empty := fun h => by subst h; exact absurd h0 (by decide)
  clear D
  go_enter Tryz.func181, Tryz.ntmps181
  go_wp2
  go_step3
  go_upto_region 12 with fail
  go_cut [54] from 36 to 54 (fun v wx => v = .bool false ∧ wx = w)
  case first =>
    by_cases h2 : 2 < s.size
    · have hc1 : (s[1]).toNat < 256 := (s[1]).toNat_lt
      by_cases a0 : (s[0]).toNat = 48
      · have t0 : (((s[0]).toNat : Int) == 48) = true := by rw [a0]; rfl
        have t1 : ((PF.low (s[1]).toNat : Int) == 120) = false := by rw [beq_eq_false_iff_ne]; have := HD.o.nx (by omega) a0; omega
        clear a0
        go_wp2_with (go_at_call 198; refine (lower_any _ _ hc1).mono ?_; rintro e w' ⟨rfl, rfl⟩)
        go_meet
        exact ⟨rfl, rfl⟩
      · have t0 : (((s[0]).toNat : Int) == 48) = false := by rw [beq_eq_false_iff_ne]; omega
        clear a0
        go_wp2
        go_meet
        exact ⟨rfl, rfl⟩
    · go_wp2
      go_meet
      exact ⟨rfl, rfl⟩
  case rest =>
    obtain ⟨rfl, rfl⟩ := hcut
    go_wp2
    go_step3
    go_wp2
    go_loop [2, 5, 7, 9, 13, 14, 15, 16, 17] (fun xm xt xi xu xsd xsg xnd xnm xdp => ∃ (k : Nat) (q : PF.St), k ≤ s.size ∧ xm = .int .u64 (q.m : Int) ∧ xt = .bool q.tr ∧ xi = .int .i64 (k : Int) ∧ xu = .bool false ∧ xsd = .bool q.sd ∧ xsg = .bool q.sg ∧ xnd = .int .i64 (q.nd : Int) ∧ xnm = .int .i64 (q.nm : Int) ∧ xdp = .int .i64 q.dp ∧ Hd (PF.Bd q k) ∧ Hd (PF.loop (s.data.toList.drop k) q = (st, r))) (fun xm xt xi xu xsd xsg xnd xnm xdp => s.size - (intOf xi).toNat)
    case atStart => exact ⟨0, PF.st0, Nat.zero_le _, rfl, rfl, rfl, rfl, rfl, rfl, rfl, rfl, rfl, hd PF.Bd.start, hd HD.o.lp⟩
    case round =>
      obtain ⟨k, ⟨m, nd, nm, dp, sd, sg, tr⟩, hk, rfl, rfl, rfl, rfl, rfl, rfl, rfl, rfl, rfl, HB, HL⟩ := hrel
      by_cases hlt : k < s.size
      · have HDR := hd (data_drop' s k hlt)
        have hc : (s[k]'hlt).toNat < 256 := (s[k]'hlt).toNat_lt
        have t95 : (((s[k]'hlt).toNat : Int) == 95) = false := by rw [beq_eq_false_iff_ne]; have := HD.o.nu _ (mem_data hlt); omega
        have YES : ∀ q', PF.step ⟨m, nd, nm, dp, sd, sg, tr⟩ (s[k]'hlt).toNat = some q' → Hd (PF.loop (s.data.toList.drop (k + 1)) q' = (st, r)) ∧ Hd (PF.Bd q' (k + 1)) := fun q' h => ⟨hd (by rw [← HL.o, HDR.o, PF.loop_some h]), hd (HB.o.step h)⟩
        have NO : PF.step ⟨m, nd, nm, dp, sd, sg, tr⟩ (s[k]'hlt).toNat = none → st = ⟨m, nd, nm, dp, sd, sg, tr⟩ ∧ r = s.data.toList.drop k ∧ ((s[k]'hlt).toNat = 101 ∨ (s[k]'hlt).toNat = 69) := fun h => by
          have h1 := HL.o
          rw [HDR.o, PF.loop_none h] at h1
          have h2 : s[k] :: List.drop (k + 1) s.data.toList = r := congrArg Prod.snd h1
          have h3 := HD.o.ex
          rw [← h2] at h3
          exact ⟨(congrArg Prod.fst h1).symm, by rw [HDR.o]; exact h2.symm, h3.1⟩
        have hnd1 : nd ≤ k := HB.o.nd
        have hnm1 : nm ≤ 19 := HB.o.nm
        have hdp1 : -(k : Int) ≤ dp := HB.o.dl
        have hdp2 : dp ≤ (k : Int) := HB.o.du
        by_cases c46 : (s[k]'hlt).toNat = 46
        · have t46 : (((s[k]'hlt).toNat : Int) == 46) = true := by rw [c46]; rfl
          cases sd with
          | true =>
            have := (NO (by unfold PF.step; rw [if_pos c46]; rfl)).2.2
            omega
          | false =>
            obtain ⟨H1, H2⟩ := YES _ (by unfold PF.step; rw [if_pos c46]; rfl)
            clear YES NO c46
            go_wp2
            go_round
            case rel => exact ⟨k + 1, _, by omega, rfl, rfl, by go_num, rfl, rfl, rfl, rfl, rfl, rfl, H2, H1⟩
            case measure => simp [intOf]; omega
        · have t46 : (((s[k]'hlt).toNat : Int) == 46) = false := by rw [beq_eq_false_iff_ne]; omega
          by_cases cd : 48 ≤ (s[k]'hlt).toNat ∧ (s[k]'hlt).toNat ≤ 57
          · by_cases cz : (s[k]'hlt).toNat = 48 ∧ nd = 0
            · obtain ⟨H1, H2⟩ := YES _ (by unfold PF.step; rw [if_neg c46, if_pos cd, if_pos cz])
              have t48 : (((s[k]'hlt).toNat : Int) == 48) = true := by rw [cz.1]; rfl
              obtain ⟨cd1, cd2⟩ := cd
              obtain ⟨_, cz2⟩ := cz
              subst cz2
              clear YES NO c46
              go_wp2
              go_round
              case rel => exact ⟨k + 1, _, by omega, rfl, rfl, by go_num, rfl, rfl, rfl, rfl, rfl, rfl, H2, H1⟩
              case measure => simp [intOf]; omega
            · have tz : ((((s[k]'hlt).toNat : Int) == 48) = true ∧ ((nd : Int) == 0) = false) ∨ (((s[k]'hlt).toNat : Int) == 48) = false := by
                by_cases e : (s[k]'hlt).toNat = 48
                · left; exact ⟨by rw [e]; rfl, by rw [beq_eq_false_iff_ne]; omega⟩
                · right; rw [beq_eq_false_iff_ne]; omega
              by_cases c19 : nm < 19
              · obtain ⟨H1, H2⟩ := YES _ (by unfold PF.step; rw [if_neg c46, if_pos cd, if_neg cz, if_pos c19])
                have hm18 := HB.o.m18 c19
                have hm18 : m < 1000000000000000000 := hm18
                obtain ⟨cd1, cd2⟩ := cd
                clear YES NO c46 cz
                rcases tz with ⟨tz1, tz2⟩ | tz1
                all_goals
                  go_wp2
                  go_round
                  case rel => exact ⟨k + 1, _, by omega, by go_num, rfl, by go_num, rfl, rfl, rfl, by go_num, by go_num, rfl, H2, H1⟩
                  case measure => simp [intOf]; omega
              · obtain ⟨H1, H2⟩ := YES _ (by unfold PF.step; rw [if_neg c46, if_pos cd, if_neg cz, if_neg c19])
                obtain ⟨cd1, cd2⟩ := cd
                clear YES NO c46 cz
                rcases tz with ⟨tz1, tz2⟩ | tz1
                · have tzz : (((s[k]'hlt).toNat : Int) != 48) = false := by rw [bne_eq_false_iff_eq]; simpa using tz1
                  have e48 : (s[k]'hlt).toNat = 48 := by have := beq_iff_eq.1 tz1; omega
                  have et : (tr || decide ((s[k]'hlt).toNat ≠ 48)) = tr := by rw [e48]; simp
                  have HE := hd et
                  clear et e48
                  go_wp2
                  go_round
                  case rel => exact ⟨k + 1, _, by omega, rfl, by rw [HE.o], by go_num, rfl, rfl, rfl, by go_num, rfl, rfl, H2, H1⟩
                  case measure => simp [intOf]; omega
                · have tzz : (((s[k]'hlt).toNat : Int) != 48) = true := by rw [bne_iff_ne]; exact beq_eq_false_iff_ne.1 tz1
                  have e48 : (s[k]'hlt).toNat ≠ 48 := fun e => by have := beq_eq_false_iff_ne.1 tz1; omega
                  have et : (tr || decide ((s[k]'hlt).toNat ≠ 48)) = true := by rw [decide_eq_true e48]; simp
                  have HE := hd et
                  clear et e48
                  go_wp2
                  go_round
                  case rel => exact ⟨k + 1, _, by omega, rfl, by rw [HE.o], by go_num, rfl, rfl, rfl, by go_num, rfl, rfl, H2, H1⟩
                  case measure => simp [intOf]; omega
          · obtain ⟨h1, h2, h3⟩ := NO (by unfold PF.step; rw [if_neg c46, if_neg cd])
            have c57 : 57 < (s[k]'hlt).toNat := by omega
            have c48 : 48 ≤ (s[k]'hlt).toNat := by omega
            subst h1
            have HR := hd h2.symm
            have hsg : sg = true := HD.o.sg
            subst hsg
            have EX : ((s[k]'hlt).toNat = 101 ∨ (s[k]'hlt).toNat = 69) ∧ 0 < ((s.data.toList.drop (k + 1)).drop (PN.sgl (s.data.toList.drop (k + 1)))).length ∧ ∀ x ∈ (s.data.toList.drop (k + 1)).drop (PN.sgl (s.data.toList.drop (k + 1))), 48 ≤ x.toNat ∧ x.toNat ≤ 57 := by
              have h4 := HD.o.ex
              rw [h2, HDR.o] at h4
              exact h4
            have hk1 : k + 1 < s.size := by have := EX.2.1; rw [List.length_drop, List.length_drop, ← HSZ.o] at this; omega
            subst h2
            have t101 : ((PF.low (s[k]'hlt).toNat : Int) == 101) = true := by have := ((PF.low_at hc).2.2.1).2 h3; rw [this]; rfl
            have HD1 := hd (data_drop' s (k + 1) hk1)
            have hc1 : (s[k + 1]'hk1).toNat < 256 := (s[k + 1]'hk1).toNat_lt
            clear YES NO c46 cd h3 HL HR
            by_cases c1 : (s[k + 1]'hk1).toNat = 43
            · have t1 : (((s[k + 1]'hk1).toNat : Int) == 43) = true := by rw [c1]; rfl
              have hS : PN.sgl (s.data.toList.drop (k + 1)) = 1 := by rw [HD1.o, PN.sgl_cons, if_pos (.inl c1)]
              have HJ : Hd (∀ x ∈ s.data.toList.drop (k + 1 + 1), 48 ≤ x.toNat ∧ x.toNat ≤ 57) := hd (by have := EX.2.2; rw [hS] at this; simpa [List.drop_drop] using this)
              have hjl : k + 1 + 1 < s.size := by have := EX.2.1; rw [hS, List.length_drop, List.length_drop, ← HSZ.o] at this; omega
              have hj0 := HJ.o _ (by rw [data_drop' s (k + 1 + 1) hjl]; exact List.mem_cons_self ..)
              have hjc : (s[k + 1 + 1]'hjl).toNat < 256 := (s[k + 1 + 1]'hjl).toNat_lt
              obtain ⟨hj1, hj2⟩ := hj0
              obtain ⟨E0, hE0⟩ : ∃ E0, E0 = PF.eloop (s.data.toList.drop (k + 1 + 1)) 0 := ⟨_, rfl⟩
              have HE0 := hd hE0
              have HX : Hd (PF.expOf (s.data.toList.drop k) = (E0 : Int) * 1) := hd (by rw [HDR.o, hE0]; show (PF.eloop ((s.data.toList.drop (k + 1)).drop (PN.sgl (s.data.toList.drop (k + 1)))) 0 : Int) * _ = _; rw [hS, List.drop_drop]; congr 1; rw [HD1.o]; simp [c1])
              clear hE0 EX hS
              cases sd
              · go_wp2_with (go_at_call 198; refine (lower_any _ _ hc).mono ?_; rintro e w' ⟨rfl, rfl⟩)
                go_loop [7, 9, 20] (fun xi xu xe => ∃ (j e : Nat), k + 1 + 1 ≤ j ∧ j ≤ s.size ∧ e ≤ 110000 ∧ xi = .int .i64 (j : Int) ∧ xu = .bool false ∧ xe = .int .i64 (e : Int) ∧ Hd (PF.eloop (s.data.toList.drop j) e = E0)) (fun xi xu xe => s.size - (intOf xi).toNat)
                case atStart => exact ⟨k + 1 + 1, 0, Nat.le_refl _, by omega, by decide, by go_num, rfl, rfl, hd HE0.o.symm⟩
                case round =>
                  obtain ⟨j, e, hjk, hjs, he, rfl, rfl, rfl, HEL⟩ := hrel
                  by_cases hjlt : j < s.size
                  · have HDj := hd (data_drop' s j hjlt)
                    have hjc2 : (s[j]'hjlt).toNat < 256 := (s[j]'hjlt).toNat_lt
                    obtain ⟨d1, d2⟩ := HJ.o (s[j]'hjlt) (by
                      have : s.data.toList.drop j = (s.data.toList.drop (k + 1 + 1)).drop (j - (k + 1 + 1)) := by rw [List.drop_drop]; congr 1; omega
                      exact List.mem_of_mem_drop (i := j - (k + 1 + 1)) (by rw [← this, HDj.o]; exact List.mem_cons_self ..))
                    have u95 : (((s[j]'hjlt).toNat : Int) == 95) = false := by rw [beq_eq_false_iff_ne]; omega
                    by_cases he1 : e < 10000
                    · have H2 : Hd (PF.eloop (s.data.toList.drop (j + 1)) (e * 10 + ((s[j]'hjlt).toNat - 48)) = E0) := hd (by rw [← HEL.o, HDj.o]; rw [PF.eloop_cons, if_pos he1])
                      clear HEL HDj
                      go_wp2
                      go_round
                      case rel => exact ⟨j + 1, _, by omega, by omega, by omega, by go_num, rfl, by go_num, H2⟩
                      case measure => simp [intOf]; omega
                    · have H2 : Hd (PF.eloop (s.data.toList.drop (j + 1)) e = E0) := hd (by rw [← HEL.o, HDj.o]; rw [PF.eloop_cons, if_neg he1])
                      clear HEL HDj
                      go_wp2
                      go_round
                      case rel => exact ⟨j + 1, _, by omega, by omega, he, by go_num, rfl, rfl, H2⟩
                      case measure => simp [intOf]; omega
                  · obtain rfl : j = s.size := by omega
                    have HEE : Hd (e = E0) := hd (by have := HEL.o; rw [List.drop_eq_nil_of_le (by have := HSZ.o; omega)] at this; exact this)
                    clear HEL
                    by_cases hm0 : m = 0
                    · subst hm0
                      go_wp2
                      refine bodyPost_ret (v := .tuple #[.int .u64 0, .int .i64 0, .bool false, .bool tr, .bool false, .int .i64 (s.size : Int), .bool true]) (by simp [results, Tryz.results181, go_sem]) rfl ⟨rfl, rfl⟩
                    · have tm : ((m : Int) != 0) = true := by rw [bne_iff_ne]; omega
                      have HE : Hd (PF.ansE ⟨m, nd, nm, dp, false, true, tr⟩ (s.data.toList.drop k) = (nd : Int) + (e : Int) * 1 - nm) := hd (by unfold PF.ansE; rw [if_neg hm0, HX.o, HEE.o]; rfl)
                      go_wp2
                      refine bodyPost_ret (v := .tuple #[.int .u64 (m : Int), .int .i64 ((nd : Int) + (e : Int) * 1 - nm), .bool false, .bool tr, .bool false, .int .i64 (s.size : Int), .bool true]) (by simp [results, Tryz.results181, go_sem]) rfl ⟨by rw [HE.o], rfl⟩
              · go_wp2_with (go_at_call 198; refine (lower_any _ _ hc).mono ?_; rintro e w' ⟨rfl, rfl⟩)
                go_loop [7, 9, 20] (fun xi xu xe => ∃ (j e : Nat), k + 1 + 1 ≤ j ∧ j ≤ s.size ∧ e ≤ 110000 ∧ xi = .int .i64 (j : Int) ∧ xu = .bool false ∧ xe = .int .i64 (e : Int) ∧ Hd (PF.eloop (s.data.toList.drop j) e = E0)) (fun xi xu xe => s.size - (intOf xi).toNat)
                case atStart => exact ⟨k + 1 + 1, 0, Nat.le_refl _, by omega, by decide, by go_num, rfl, rfl, hd HE0.o.symm⟩
                case round =>
                  obtain ⟨j, e, hjk, hjs, he, rfl, rfl, rfl, HEL⟩ := hrel
                  by_cases hjlt : j < s.size
                  · have HDj := hd (data_drop' s j hjlt)
                    have hjc2 : (s[j]'hjlt).toNat < 256 := (s[j]'hjlt).toNat_lt
                    obtain ⟨d1, d2⟩ := HJ.o (s[j]'hjlt) (by
                      have : s.data.toList.drop j = (s.data.toList.drop (k + 1 + 1)).drop (j - (k + 1 + 1)) := by rw [List.drop_drop]; congr 1; omega
                      exact List.mem_of_mem_drop (i := j - (k + 1 + 1)) (by rw [← this, HDj.o]; exact List.mem_cons_self ..))
                    have u95 : (((s[j]'hjlt).toNat : Int) == 95) = false := by rw [beq_eq_false_iff_ne]; omega
                    by_cases he1 : e < 10000
                    · have H2 : Hd (PF.eloop (s.data.toList.drop (j + 1)) (e * 10 + ((s[j]'hjlt).toNat - 48)) = E0) := hd (by rw [← HEL.o, HDj.o]; rw [PF.eloop_cons, if_pos he1])
                      clear HEL HDj
                      go_wp2
                      go_round
                      case rel => exact ⟨j + 1, _, by omega, by omega, by omega, by go_num, rfl, by go_num, H2⟩
                      case measure => simp [intOf]; omega
                    · have H2 : Hd (PF.eloop (s.data.toList.drop (j + 1)) e = E0) := hd (by rw [← HEL.o, HDj.o]; rw [PF.eloop_cons, if_neg he1])
                      clear HEL HDj
                      go_wp2
                      go_round
                      case rel => exact ⟨j + 1, _, by omega, by omega, he, by go_num, rfl, rfl, H2⟩
                      case measure => simp [intOf]; omega
                  · obtain rfl : j = s.size := by omega
                    have HEE : Hd (e = E0) := hd (by have := HEL.o; rw [List.drop_eq_nil_of_le (by have := HSZ.o; omega)] at this; exact this)
                    clear HEL
                    by_cases hm0 : m = 0
                    · subst hm0
                      go_wp2
                      refine bodyPost_ret (v := .tuple #[.int .u64 0, .int .i64 0, .bool false, .bool tr, .bool false, .int .i64 (s.size : Int), .bool true]) (by simp [results, Tryz.results181, go_sem]) rfl ⟨rfl, rfl⟩
                    · have tm : ((m : Int) != 0) = true := by rw [bne_iff_ne]; omega
                      have HE : Hd (PF.ansE ⟨m, nd, nm, dp, true, true, tr⟩ (s.data.toList.drop k) = dp + (e : Int) * 1 - nm) := hd (by unfold PF.ansE; rw [if_neg hm0, HX.o, HEE.o]; rfl)
                      go_wp2
                      refine bodyPost_ret (v := .tuple #[.int .u64 (m : Int), .int .i64 (dp + (e : Int) * 1 - nm), .bool false, .bool tr, .bool false, .int .i64 (s.size : Int), .bool true]) (by simp [results, Tryz.results181, go_sem]) rfl ⟨by rw [HE.o], rfl⟩
            · have t1 : (((s[k + 1]'hk1).toNat : Int) == 43) = false := by rw [beq_eq_false_iff_ne]; omega
              by_cases c2 : (s[k + 1]'hk1).toNat = 45
              · have t2 : (((s[k + 1]'hk1).toNat : Int) == 45) = true := by rw [c2]; rfl
                have hS : PN.sgl (s.data.toList.drop (k + 1)) = 1 := by rw [HD1.o, PN.sgl_cons, if_pos (.inr c2)]
                have HJ : Hd (∀ x ∈ s.data.toList.drop (k + 1 + 1), 48 ≤ x.toNat ∧ x.toNat ≤ 57) := hd (by have := EX.2.2; rw [hS] at this; simpa [List.drop_drop] using this)
                have hjl : k + 1 + 1 < s.size := by have := EX.2.1; rw [hS, List.length_drop, List.length_drop, ← HSZ.o] at this; omega
                have hj0 := HJ.o _ (by rw [data_drop' s (k + 1 + 1) hjl]; exact List.mem_cons_self ..)
                have hjc : (s[k + 1 + 1]'hjl).toNat < 256 := (s[k + 1 + 1]'hjl).toNat_lt
                obtain ⟨hj1, hj2⟩ := hj0
                obtain ⟨E0, hE0⟩ : ∃ E0, E0 = PF.eloop (s.data.toList.drop (k + 1 + 1)) 0 := ⟨_, rfl⟩
                have HE0 := hd hE0
                have HX : Hd (PF.expOf (s.data.toList.drop k) = (E0 : Int) * -1) := hd (by rw [HDR.o, hE0]; show (PF.eloop ((s.data.toList.drop (k + 1)).drop (PN.sgl (s.data.toList.drop (k + 1)))) 0 : Int) * _ = _; rw [hS, List.drop_drop]; congr 1; rw [HD1.o]; simp [c2])
                clear hE0 EX hS
                cases sd
                · go_wp2_with (go_at_call 198; refine (lower_any _ _ hc).mono ?_; rintro e w' ⟨rfl, rfl⟩)
                  go_loop [7, 9, 20] (fun xi xu xe => ∃ (j e : Nat), k + 1 + 1 ≤ j ∧ j ≤ s.size ∧ e ≤ 110000 ∧ xi = .int .i64 (j : Int) ∧ xu = .bool false ∧ xe = .int .i64 (e : Int) ∧ Hd (PF.eloop (s.data.toList.drop j) e = E0)) (fun xi xu xe => s.size - (intOf xi).toNat)
                  case atStart => exact ⟨k + 1 + 1, 0, Nat.le_refl _, by omega, by decide, by go_num, rfl, rfl, hd HE0.o.symm⟩
                  case round =>
                    obtain ⟨j, e, hjk, hjs, he, rfl, rfl, rfl, HEL⟩ := hrel
                    by_cases hjlt : j < s.size
                    · have HDj := hd (data_drop' s j hjlt)
                      have hjc2 : (s[j]'hjlt).toNat < 256 := (s[j]'hjlt).toNat_lt
                      obtain ⟨d1, d2⟩ := HJ.o (s[j]'hjlt) (by
                        have : s.data.toList.drop j = (s.data.toList.drop (k + 1 + 1)).drop (j - (k + 1 + 1)) := by rw [List.drop_drop]; congr 1; omega
                        exact List.mem_of_mem_drop (i := j - (k + 1 + 1)) (by rw [← this, HDj.o]; exact List.mem_cons_self ..))
                      have u95 : (((s[j]'hjlt).toNat : Int) == 95) = false := by rw [beq_eq_false_iff_ne]; omega
                      by_cases he1 : e < 10000
                      · have H2 : Hd (PF.eloop (s.data.toList.drop (j + 1)) (e * 10 + ((s[j]'hjlt).toNat - 48)) = E0) := hd (by rw [← HEL.o, HDj.o]; rw [PF.eloop_cons, if_pos he1])
                        clear HEL HDj
                        go_wp2
                        go_round
                        case rel => exact ⟨j + 1, _, by omega, by omega, by omega, by go_num, rfl, by go_num, H2⟩
                        case measure => simp [intOf]; omega
                      · have H2 : Hd (PF.eloop (s.data.toList.drop (j + 1)) e = E0) := hd (by rw [← HEL.o, HDj.o]; rw [PF.eloop_cons, if_neg he1])
                        clear HEL HDj
                        go_wp2
                        go_round
                        case rel => exact ⟨j + 1, _, by omega, by omega, he, by go_num, rfl, rfl, H2⟩
                        case measure => simp [intOf]; omega
                    · obtain rfl : j = s.size := by omega
                      have HEE : Hd (e = E0) := hd (by have := HEL.o; rw [List.drop_eq_nil_of_le (by have := HSZ.o; omega)] at this; exact this)
                      clear HEL
                      by_cases hm0 : m = 0
                      · subst hm0
                        go_wp2
                        refine bodyPost_ret (v := .tuple #[.int .u64 0, .int .i64 0, .bool false, .bool tr, .bool false, .int .i64 (s.size : Int), .bool true]) (by simp [results, Tryz.results181, go_sem]) rfl ⟨rfl, rfl⟩
                      · have tm : ((m : Int) != 0) = true := by rw [bne_iff_ne]; omega
                        have HE : Hd (PF.ansE ⟨m, nd, nm, dp, false, true, tr⟩ (s.data.toList.drop k) = (nd : Int) + (e : Int) * -1 - nm) := hd (by unfold PF.ansE; rw [if_neg hm0, HX.o, HEE.o]; rfl)
                        go_wp2
                        refine bodyPost_ret (v := .tuple #[.int .u64 (m : Int), .int .i64 ((nd : Int) + (e : Int) * -1 - nm), .bool false, .bool tr, .bool false, .int .i64 (s.size : Int), .bool true]) (by simp [results, Tryz.results181, go_sem]) rfl ⟨by rw [HE.o], rfl⟩
                · go_wp2_with (go_at_call 198; refine (lower_any _ _ hc).mono ?_; rintro e w' ⟨rfl, rfl⟩)
                  go_loop [7, 9, 20] (fun xi xu xe => ∃ (j e : Nat), k + 1 + 1 ≤ j ∧ j ≤ s.size ∧ e ≤ 110000 ∧ xi = .int .i64 (j : Int) ∧ xu = .bool false ∧ xe = .int .i64 (e : Int) ∧ Hd (PF.eloop (s.data.toList.drop j) e = E0)) (fun xi xu xe => s.size - (intOf xi).toNat)
                  case atStart => exact ⟨k + 1 + 1, 0, Nat.le_refl _, by omega, by decide, by go_num, rfl, rfl, hd HE0.o.symm⟩
                  case round =>
                    obtain ⟨j, e, hjk, hjs, he, rfl, rfl, rfl, HEL⟩ := hrel
                    by_cases hjlt : j < s.size
                    · have HDj := hd (data_drop' s j hjlt)
                      have hjc2 : (s[j]'hjlt).toNat < 256 := (s[j]'hjlt).toNat_lt
                      obtain ⟨d1, d2⟩ := HJ.o (s[j]'hjlt) (by
                        have : s.data.toList.drop j = (s.data.toList.drop (k + 1 + 1)).drop (j - (k + 1 + 1)) := by rw [List.drop_drop]; congr 1; omega
                        exact List.mem_of_mem_drop (i := j - (k + 1 + 1)) (by rw [← this, HDj.o]; exact List.mem_cons_self ..))
                      have u95 : (((s[j]'hjlt).toNat : Int) == 95) = false := by rw [beq_eq_false_iff_ne]; omega
                      by_cases he1 : e < 10000
                      · have H2 : Hd (PF.eloop (s.data.toList.drop (j + 1)) (e * 10 + ((s[j]'hjlt).toNat - 48)) = E0) := hd (by rw [← HEL.o, HDj.o]; rw [PF.eloop_cons, if_pos he1])
                        clear HEL HDj
                        go_wp2
                        go_round
                        case rel => exact ⟨j + 1, _, by omega, by omega, by omega, by go_num, rfl, by go_num, H2⟩
                        case measure => simp [intOf]; omega
                      · have H2 : Hd (PF.eloop (s.data.toList.drop (j + 1)) e = E0) := hd (by rw [← HEL.o, HDj.o]; rw [PF.eloop_cons, if_neg he1])
                        clear HEL HDj
                        go_wp2
                        go_round
                        case rel => exact ⟨j + 1, _, by omega, by omega, he, by go_num, rfl, rfl, H2⟩
                        case measure => simp [intOf]; omega
                    · obtain rfl : j = s.size := by omega
                      have HEE : Hd (e = E0) := hd (by have := HEL.o; rw [List.drop_eq_nil_of_le (by have := HSZ.o; omega)] at this; exact this)
                      clear HEL
                      by_cases hm0 : m = 0
                      · subst hm0
                        go_wp2
                        refine bodyPost_ret (v := .tuple #[.int .u64 0, .int .i64 0, .bool false, .bool tr, .bool false, .int .i64 (s.size : Int), .bool true]) (by simp [results, Tryz.results181, go_sem]) rfl ⟨rfl, rfl⟩
                      · have tm : ((m : Int) != 0) = true := by rw [bne_iff_ne]; omega
                        have HE : Hd (PF.ansE ⟨m, nd, nm, dp, true, true, tr⟩ (s.data.toList.drop k) = dp + (e : Int) * -1 - nm) := hd (by unfold PF.ansE; rw [if_neg hm0, HX.o, HEE.o]; rfl)
                        go_wp2
                        refine bodyPost_ret (v := .tuple #[.int .u64 (m : Int), .int .i64 (dp + (e : Int) * -1 - nm), .bool false, .bool tr, .bool false, .int .i64 (s.size : Int), .bool true]) (by simp [results, Tryz.results181, go_sem]) rfl ⟨by rw [HE.o], rfl⟩
              · have t2 : (((s[k + 1]'hk1).toNat : Int) == 45) = false := by rw [beq_eq_false_iff_ne]; omega
                have hS : PN.sgl (s.data.toList.drop (k + 1)) = 0 := by rw [HD1.o, PN.sgl_cons, if_neg (by omega)]
                have HJ : Hd (∀ x ∈ s.data.toList.drop (k + 1), 48 ≤ x.toNat ∧ x.toNat ≤ 57) := hd (by have := EX.2.2; rw [hS] at this; simpa [List.drop_drop] using this)
                have hjl : k + 1 < s.size := by have := EX.2.1; rw [hS, List.length_drop, List.length_drop, ← HSZ.o] at this; omega
                have hj0 := HJ.o _ (by rw [data_drop' s (k + 1) hjl]; exact List.mem_cons_self ..)
                have hjc : (s[k + 1]'hjl).toNat < 256 := (s[k + 1]'hjl).toNat_lt
                obtain ⟨hj1, hj2⟩ := hj0
                obtain ⟨E0, hE0⟩ : ∃ E0, E0 = PF.eloop (s.data.toList.drop (k + 1)) 0 := ⟨_, rfl⟩
                have HE0 := hd hE0
                have HX : Hd (PF.expOf (s.data.toList.drop k) = (E0 : Int) * 1) := hd (by rw [HDR.o, hE0]; show (PF.eloop ((s.data.toList.drop (k + 1)).drop (PN.sgl (s.data.toList.drop (k + 1)))) 0 : Int) * _ = _; rw [hS, List.drop_drop]; congr 1; rw [HD1.o]; simp [c2])
                clear hE0 EX hS
                cases sd
                · go_wp2_with (go_at_call 198; refine (lower_any _ _ hc).mono ?_; rintro e w' ⟨rfl, rfl⟩)
                  go_loop [7, 9, 20] (fun xi xu xe => ∃ (j e : Nat), k + 1 ≤ j ∧ j ≤ s.size ∧ e ≤ 110000 ∧ xi = .int .i64 (j : Int) ∧ xu = .bool false ∧ xe = .int .i64 (e : Int) ∧ Hd (PF.eloop (s.data.toList.drop j) e = E0)) (fun xi xu xe => s.size - (intOf xi).toNat)
                  case atStart => exact ⟨k + 1, 0, Nat.le_refl _, by omega, by decide, by go_num, rfl, rfl, hd HE0.o.symm⟩
                  case round =>
                    obtain ⟨j, e, hjk, hjs, he, rfl, rfl, rfl, HEL⟩ := hrel
                    by_cases hjlt : j < s.size
                    · have HDj := hd (data_drop' s j hjlt)
                      have hjc2 : (s[j]'hjlt).toNat < 256 := (s[j]'hjlt).toNat_lt
                      obtain ⟨d1, d2⟩ := HJ.o (s[j]'hjlt) (by
                        have : s.data.toList.drop j = (s.data.toList.drop (k + 1)).drop (j - (k + 1)) := by rw [List.drop_drop]; congr 1; omega
                        exact List.mem_of_mem_drop (i := j - (k + 1)) (by rw [← this, HDj.o]; exact List.mem_cons_self ..))
                      have u95 : (((s[j]'hjlt).toNat : Int) == 95) = false := by rw [beq_eq_false_iff_ne]; omega
                      by_cases he1 : e < 10000
                      · have H2 : Hd (PF.eloop (s.data.toList.drop (j + 1)) (e * 10 + ((s[j]'hjlt).toNat - 48)) = E0) := hd (by rw [← HEL.o, HDj.o]; rw [PF.eloop_cons, if_pos he1])
                        clear HEL HDj
                        go_wp2
                        go_round
                        case rel => exact ⟨j + 1, _, by omega, by omega, by omega, by go_num, rfl, by go_num, H2⟩
                        case measure => simp [intOf]; omega
                      · have H2 : Hd (PF.eloop (s.data.toList.drop (j + 1)) e = E0) := hd (by rw [← HEL.o, HDj.o]; rw [PF.eloop_cons, if_neg he1])
                        clear HEL HDj
                        go_wp2
                        go_round
                        case rel => exact ⟨j + 1, _, by omega, by omega, he, by go_num, rfl, rfl, H2⟩
                        case measure => simp [intOf]; omega
                    · obtain rfl : j = s.size := by omega
                      have HEE : Hd (e = E0) := hd (by have := HEL.o; rw [List.drop_eq_nil_of_le (by have := HSZ.o; omega)] at this; exact this)
                      clear HEL
                      by_cases hm0 : m = 0
                      · subst hm0
                        go_wp2
                        refine bodyPost_ret (v := .tuple #[.int .u64 0, .int .i64 0, .bool false, .bool tr, .bool false, .int .i64 (s.size : Int), .bool true]) (by simp [results, Tryz.results181, go_sem]) rfl ⟨rfl, rfl⟩
                      · have tm : ((m : Int) != 0) = true := by rw [bne_iff_ne]; omega
                        have HE : Hd (PF.ansE ⟨m, nd, nm, dp, false, true, tr⟩ (s.data.toList.drop k) = (nd : Int) + (e : Int) * 1 - nm) := hd (by unfold PF.ansE; rw [if_neg hm0, HX.o, HEE.o]; rfl)
                        go_wp2
                        refine bodyPost_ret (v := .tuple #[.int .u64 (m : Int), .int .i64 ((nd : Int) + (e : Int) * 1 - nm), .bool false, .bool tr, .bool false, .int .i64 (s.size : Int), .bool true]) (by simp [results, Tryz.results181, go_sem]) rfl ⟨by rw [HE.o], rfl⟩
                · go_wp2_with (go_at_call 198; refine (lower_any _ _ hc).mono ?_; rintro e w' ⟨rfl, rfl⟩)
                  go_loop [7, 9, 20] (fun xi xu xe => ∃ (j e : Nat), k + 1 ≤ j ∧ j ≤ s.size ∧ e ≤ 110000 ∧ xi = .int .i64 (j : Int) ∧ xu = .bool false ∧ xe = .int .i64 (e : Int) ∧ Hd (PF.eloop (s.data.toList.drop j) e = E0)) (fun xi xu xe => s.size - (intOf xi).toNat)
                  case atStart => exact ⟨k + 1, 0, Nat.le_refl _, by omega, by decide, by go_num, rfl, rfl, hd HE0.o.symm⟩
                  case round =>
                    obtain ⟨j, e, hjk, hjs, he, rfl, rfl, rfl, HEL⟩ := hrel
                    by_cases hjlt : j < s.size
                    · have HDj := hd (data_drop' s j hjlt)
                      have hjc2 : (s[j]'hjlt).toNat < 256 := (s[j]'hjlt).toNat_lt
                      obtain ⟨d1, d2⟩ := HJ.o (s[j]'hjlt) (by
                        have : s.data.toList.drop j = (s.data.toList.drop (k + 1)).drop (j - (k + 1)) := by rw [List.drop_drop]; congr 1; omega
                        exact List.mem_of_mem_drop (i := j - (k + 1)) (by rw [← this, HDj.o]; exact List.mem_cons_self ..))
                      have u95 : (((s[j]'hjlt).toNat : Int) == 95) = false := by rw [beq_eq_false_iff_ne]; omega
                      by_cases he1 : e < 10000
                      · have H2 : Hd (PF.eloop (s.data.toList.drop (j + 1)) (e * 10 + ((s[j]'hjlt).toNat - 48)) = E0) := hd (by rw [← HEL.o, HDj.o]; rw [PF.eloop_cons, if_pos he1])
                        clear HEL HDj
                        go_wp2
                        go_round
                        case rel => exact ⟨j + 1, _, by omega, by omega, by omega, by go_num, rfl, by go_num, H2⟩
                        case measure => simp [intOf]; omega
                      · have H2 : Hd (PF.eloop (s.data.toList.drop (j + 1)) e = E0) := hd (by rw [← HEL.o, HDj.o]; rw [PF.eloop_cons, if_neg he1])
                        clear HEL HDj
                        go_wp2
                        go_round
                        case rel => exact ⟨j + 1, _, by omega, by omega, he, by go_num, rfl, rfl, H2⟩
                        case measure => simp [intOf]; omega
                    · obtain rfl : j = s.size := by omega
                      have HEE : Hd (e = E0) := hd (by have := HEL.o; rw [List.drop_eq_nil_of_le (by have := HSZ.o; omega)] at this; exact this)
                      clear HEL
                      by_cases hm0 : m = 0
                      · subst hm0
                        go_wp2
                        refine bodyPost_ret (v := .tuple #[.int .u64 0, .int .i64 0, .bool false, .bool tr, .bool false, .int .i64 (s.size : Int), .bool true]) (by simp [results, Tryz.results181, go_sem]) rfl ⟨rfl, rfl⟩
                      · have tm : ((m : Int) != 0) = true := by rw [bne_iff_ne]; omega
                        have HE : Hd (PF.ansE ⟨m, nd, nm, dp, true, true, tr⟩ (s.data.toList.drop k) = dp + (e : Int) * 1 - nm) := hd (by unfold PF.ansE; rw [if_neg hm0, HX.o, HEE.o]; rfl)
                        go_wp2
                        refine bodyPost_ret (v := .tuple #[.int .u64 (m : Int), .int .i64 (dp + (e : Int) * 1 - nm), .bool false, .bool tr, .bool false, .int .i64 (s.size : Int), .bool true]) (by simp [results, Tryz.results181, go_sem]) rfl ⟨by rw [HE.o], rfl⟩
      · have h1 := HL.o
        rw [List.drop_eq_nil_of_le (by have := HSZ.o; omega)] at h1
        have h2 : st = ⟨m, nd, nm, dp, sd, sg, tr⟩ := (congrArg Prod.fst h1).symm
        have h3 : r = [] := (congrArg Prod.snd h1).symm
        subst h2
        have HR : Hd (s.data.toList.drop k = r) := hd (by rw [h3]; exact List.drop_eq_nil_of_le (by have := HSZ.o; omega))
        have hsg : sg = true := HD.o.sg
        subst hsg
        subst h3
        have hnd1 : nd ≤ k := HB.o.nd
        have hnm1 : nm ≤ 19 := HB.o.nm
        have hdp1 : -(k : Int) ≤ dp := HB.o.dl
        have hdp2 : dp ≤ (k : Int) := HB.o.du
        obtain rfl : k = s.size := by omega
        clear h1 HR HB HL
        by_cases hm0 : m = 0
        · subst hm0
          cases sd
          all_goals
            go_wp2
            refine bodyPost_ret (v := .tuple #[.int .u64 0, .int .i64 0, .bool false, .bool tr, .bool false, .int .i64 (s.size : Int), .bool true]) (by simp [results, Tryz.results181, go_sem]) rfl ⟨rfl, rfl⟩
        · have tm : ((m : Int) != 0) = true := by rw [bne_iff_ne]; omega
          cases sd
          · have HE : Hd (PF.ansE ⟨m, nd, nm, dp, false, true, tr⟩ [] = (nd : Int) - nm) := hd (by unfold PF.ansE; rw [if_neg hm0]; simp [PF.dpOf, PF.expOf])
            go_wp2
            refine bodyPost_ret (v := .tuple #[.int .u64 (m : Int), .int .i64 ((nd : Int) - nm), .bool false, .bool tr, .bool false, .int .i64 (s.size : Int), .bool true]) (by simp [results, Tryz.results181, go_sem]) rfl ⟨by rw [HE.o], rfl⟩
          · have HE : Hd (PF.ansE ⟨m, nd, nm, dp, true, true, tr⟩ [] = dp - nm) := hd (by unfold PF.ansE; rw [if_neg hm0]; simp [PF.dpOf, PF.expOf])
            go_wp2
            refine bodyPost_ret (v := .tuple #[.int .u64 (m : Int), .int .i64 (dp - nm), .bool false, .bool tr, .bool false, .int .i64 (s.size : Int), .bool true]) (by simp [results, Tryz.results181, go_sem]) rfl ⟨by rw [HE.o], rfl⟩
end Go.Proofs.YtcbggkdginfakaaGreatDoor
