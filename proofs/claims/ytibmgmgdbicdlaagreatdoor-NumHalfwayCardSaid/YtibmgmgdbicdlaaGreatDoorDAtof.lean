/- internal/strconv.atof64 over every decimal lexeme: the nearest float. -/
import Derived.Test.YtibmgmgdbicdlaaGreatDoorDFloat
import Derived.Test.YtibmgmgdbicdlaaGreatDoorDSet
namespace Go.Proofs.YtibmgmgdbicdlaaGreatDoor
open Go.RowKit
set_option linter.unusedVariables false
set_option linter.unusedSimpArgs false
theorem Lc.mono {w : World} {b b' : Nat} (h : Lc w b) (hb : b ≤ b') : Lc w b' := by
  obtain ⟨B, o, cap, h1, h2, h3⟩ := h.ex
  exact ⟨B, o, cap, by omega, by omega, h3⟩
theorem Pt.mono {w : World} {b b' : Nat} (h : Pt w b) (hb : b ≤ b') : Pt w b' := by
  obtain ⟨B, o, cap, h1, h2, h3⟩ := h.ex
  exact ⟨B, o, cap, by omega, by omega, h3⟩
/-- what all of reading asks of the variables -/
structure Nm2 (w : World) : Prop where
  n : Nms w
  lc : Lc w w.heap.size
  pt : Pt w w.heap.size
theorem Nm2.below {w w' : World} (h : Nm2 w) (hb : Below w.heap.size w w') : Nm2 w' := ⟨h.n.below hb, (h.lc.below hb).mono hb.size, (h.pt.below hb).mono hb.size⟩
theorem fi_of {w : World} (G : Glb w) : Fi w w.heap.size := ⟨World.block_lt_of_cell? w _ G.mb, G.mb, G.xb, G.bs⟩
theorem SetI.ext {w : World} {b nd : Nat} {dp : Int} {l l' : List UInt8} (h : SetI w b nd dp l) (e : l = l') : SetI w b nd dp l' := by subst e; exact h
namespace DN
open FS
attribute [local irreducible] X Z
theorem rnd_back {D : Nat} {q : Int} {bb : Nat} (hq : -3000 ≤ q) (h : Rnd (SV D q 0) WW bb) : Rnd (vN D q) (vD q) bb := by
  refine Rnd.of_eq WW_pos (X_pos _) ?_ h
  unfold SV WW vN vD
  have e1 : X (q + 3000).toNat * X (-q).toNat = X q.toNat * X 3000 := by rw [X_mul, X_mul]; exact congrArg X (by omega)
  show D * X (q + 3000).toNat * Z 3000 * X (-q).toNat = D * X q.toNat * (X 3000 * Z 3000)
  have e2 : D * X (q + 3000).toNat * Z 3000 * X (-q).toNat = D * (X (q + 3000).toNat * X (-q).toNat) * Z 3000 := by ac_rfl
  have e3 : D * X q.toNat * (X 3000 * Z 3000) = D * (X q.toNat * X 3000) * Z 3000 := by ac_rfl
  rw [e2, e3, e1]
/-- between the digits that are kept and one more -/
theorem rnd_mid {D m j : Nat} {p q : Int} {bb : Nat} (hp : p = q + j) (hm : m = D / 10 ^ j) (h1 : Rnd (vN m p) (vD p) bb) (h2 : Rnd (vN (m + 1) p) (vD p) bb) : Rnd (vN D q) (vD q) bb := by
  have hP : 0 < 10 ^ j := Nat.pow_pos (by decide)
  refine (h1.shift hp).between (h2.shift hp) ?_ ?_
  · unfold vN
    refine Nat.mul_le_mul_right _ ?_
    rw [hm]; exact Nat.div_mul_le_self _ _
  · unfold vN
    refine Nat.mul_le_mul_right _ ?_
    have := Nat.div_add_mod D (10 ^ j)
    have h3 := Nat.mod_lt D hP
    rw [hm, Nat.add_mul, Nat.one_mul, Nat.mul_comm (D / 10 ^ j)]; omega
end DN
theorem inf_fl {b : Nat} (h : b ≤ FS.INF) : FO.isN b = false ∧ FO.kr b = (b : Int) := by
  unfold FO.isN FO.kr FO.rg FO.sg FO.INF
  unfold FS.INF at h
  have e : b % 9223372036854775808 = b := Nat.mod_eq_of_lt (by omega)
  rw [e]
  exact ⟨decide_eq_false (by omega), by rw [decide_eq_false (by omega)]; rfl⟩
theorem eq_fl {a b : Nat} (ha : a ≤ FS.INF) (hb : b ≤ FS.INF) : (FloatKind.f64.format.order a b == some Ordering.eq) = decide (a = b) := by
  have h1 := inf_fl ha
  have h2 := inf_fl hb
  unfold FS.INF at ha hb
  rw [FO.eq_eq (by omega) (by omega), h1.1, h2.1, h1.2, h2.2]
  simp [Int.natCast_inj]
theorem heap_new (w : World) (o : Obj) : (w.alloc o).heap[w.heap.size]? = some o := by
  show (w.heap.push o)[w.heap.size]? = some o
  rw [Array.getElem?_push, if_pos rfl]
set_option maxRecDepth 100000 in
theorem zero_dcl : Tryz.zeroCells207 = (DN.dcl (fun _ => 0) 0 0 false).toArray := by kernel_rfl
theorem dc_new (w : World) : Dc (w.alloc (Obj.cells Tryz.zeroCells207 207)) w.heap.size (fun _ => 0) 0 0 false := by
  refine ⟨?_⟩
  unfold Bk
  rw [zero_dcl]
  exact heap_new w _
set_option maxRecDepth 100000 in
set_option maxHeartbeats 4000000 in
theorem atof_slow (s : ByteArray) (st : PF.St) (r : List UInt8) (w : World) (Dd : PF.Dec s st r) (htr : st.tr = true) (N : Nm2 w) (Q : PF.LS) (I : PF.Inv st Q) (hQ : ∀ k, s.data.toList.drop k = r → (PF.mf (s.data.toList.take k) PF.ls0).D = Q.D) :
    Calls Tryz.prog 177 #[.string s] w fun e w' => Below w.heap.size w w' ∧ ∃ b, PVal Q.D (PF.expOf r - Q.b) b ∧ e = .returned (.tuple #[.float .f64 b, .int .i64 (s.size : Int), erOf b]) := by
  obtain ⟨h0, hc⟩ := first_ok Dd
  obtain ⟨kk, hkk, B⟩ := dec_bd Dd
  have hm64 := B.m64
  -- the digits
  have hnd : 19 < st.nd ∧ st.nm = 19 := by
    have h1 := I.tr
    rw [htr] at h1
    have h2 : Q.D % 10 ^ (st.nd - st.nm) ≠ 0 := of_decide_eq_true h1.symm
    have h3 := I.nm
    rcases Nat.lt_or_ge 19 st.nd with c | c
    · exact ⟨c, by omega⟩
    · exfalso
      rw [show st.nd - st.nm = 0 by omega, Nat.pow_zero, Nat.mod_one] at h2
      exact h2 rfl
  obtain ⟨j, hj⟩ : ∃ j, j = st.nd - 19 := ⟨_, rfl⟩
  have hm : st.m = Q.D / 10 ^ j := by rw [I.m, hnd.2, hj]
  have hD0 : 10 ^ (st.nd - 1) ≤ Q.D := I.lo (by omega)
  have hm0 : 0 < st.m := by
    rw [hm]
    refine Nat.div_pos (Nat.le_trans (Nat.pow_le_pow_right (by decide) (by omega)) hD0) (Nat.pow_pos (by decide))
  have hDp : 0 < Q.D := Nat.lt_of_lt_of_le (Nat.pow_pos (by decide)) hD0
  obtain ⟨q, hq⟩ : ∃ q : Int, q = PF.expOf r - Q.b := ⟨_, rfl⟩
  have hp : PF.ansE st r = q + j := by
    unfold PF.ansE
    rw [if_neg (by omega), I.dp, hq, hnd.2]; omega
  have hdq : PF.dpOf st + PF.expOf r = q + st.nd := by rw [I.dp, hq]; omega
  have HS := hd (special_no s w h0 hc)
  have HR := hd (readDec_any s st r w Dd)
  have g1 := N.n.g.opt
  have HB2 := hd (bool2_no w)
  rw [htr] at HR
  have HSET := hd (fun w b f D => set_any s st r w b f Dd D)
  have HQ := hd hQ
  have HDQ := hd hdq
  have hnd6 : st.nd ≤ 600 := by have := B.nd; omega
  have HND := hd (And.intro hnd.1 hnd6)
  rw [← hq]
  clear hq hQ hdq Dd B htr hc I hnd hD0 hkk hnd6
  generalize PF.ansE st r = p at *
  generalize st.m = m at *
  have HN := hd N
  have HMID := hd (fun bb h1 h2 => DN.rnd_mid (bb := bb) hp hm h1 h2)
  have HP := hd hp
  have HDp := hd hDp
  have qI : ∀ w, (callFunc 221 #[.int .u64 9218868437227405312]).run Tryz.prog w = .ok (.value (.float .f64 9218868437227405312)) w := frombits_run 9218868437227405312
  have q0 : ∀ w, (callFunc 221 #[.int .u64 0]).run Tryz.prog w = .ok (.value (.float .f64 0)) w := frombits_run 0
  have o0 : bits .or .u64 0 0 = 0 := by decide
  have oI : bits .or .u64 0 9218868437227405312 = 9218868437227405312 := by decide
  have t0 : ((m : Int) == 0) = false := by rw [beq_eq_false_iff_ne]; omega
  clear hp hm N hDp
  by_cases pb : 310 < p
  · have HV : Hd (PVal Q.D q FS.INF) := hd (.inr ⟨HDp.o, HMID.o _ (FS.big_rnd hm0 pb) (FS.big_rnd (by omega) pb)⟩)
    have e0 : Hd (erOf FS.INF = .iface 177 (.int .i64 1)) := hd er_inf
    clear hm64 hm0
    go_enter Tryz.func177, Tryz.ntmps177
    go_wp2_with (first | (go_at_call 211; refine HS.o.mono ?_; rintro e w' ⟨rfl, rfl⟩) | (go_at_call 212; refine HR.o.mono ?_; rintro e w' ⟨rfl, rfl⟩) | (go_at_call 220; refine HB2.o.mono ?_; rintro e w' ⟨rfl, rfl⟩))
    refine bodyPost_ret (v := .tuple #[.float .f64 9218868437227405312, .int .i64 (s.size : Int), .iface 177 (.int .i64 1)]) (by simp [results, Tryz.results177, go_sem]) rfl ⟨Below.refl _ _, FS.INF, HV.o, by rw [e0.o]; rfl⟩
  · by_cases ps : p < -345
    · have HV : Hd (PVal Q.D q 0) := hd (.inr ⟨HDp.o, HMID.o _ (FS.tiny_rnd (by omega) ps) (FS.tiny_rnd (by omega) ps)⟩)
      have e0 : Hd (erOf 0 = .nilIface) := hd (er_no (by decide))
      clear hm64 hm0
      go_enter Tryz.func177, Tryz.ntmps177
      go_wp2_with (first | (go_at_call 211; refine HS.o.mono ?_; rintro e w' ⟨rfl, rfl⟩) | (go_at_call 212; refine HR.o.mono ?_; rintro e w' ⟨rfl, rfl⟩) | (go_at_call 220; refine HB2.o.mono ?_; rintro e w' ⟨rfl, rfl⟩))
      refine bodyPost_ret (v := .tuple #[.float .f64 0, .int .i64 (s.size : Int), .nilIface]) (by simp [results, Tryz.results177, go_sem]) rfl ⟨Below.refl _ _, 0, HV.o, by rw [e0.o]⟩
    · have HP1 := hd (parse64_any m p w (by omega) (by omega) (by omega) (by omega) HN.o.n.t)
      have HP2 : Hd (∀ w', Below w.heap.size w w' → Calls Tryz.prog 223 #[.int .u64 ((m : Int) + 1), .int .i64 p, .int .u64 0] w' fun x w2 => ∃ b, FS.Rnd (FS.vN (m + 1) p) (FS.vD p) b ∧ x = .returned (.tuple #[.float .f64 b, erOf b]) ∧ Below w'.heap.size w' w2) := hd (fun w' hb => parse64_any (m + 1) p w' (by omega) (by omega) (by omega) (by omega) (HN.o.below hb).n.t)
      have wm : IntKind.u64.wrap ((m : Int) + 1) = (m : Int) + 1 := by rw [IntKind.wrap_u64]; omega
      clear hm64 hm0
      go_enter Tryz.func177, Tryz.ntmps177
      go_wp2_with (first | (go_at_call 211; refine HS.o.mono ?_; rintro e w' ⟨rfl, rfl⟩) | (go_at_call 212; refine HR.o.mono ?_; rintro e w' ⟨rfl, rfl⟩) | (go_at_call 220; refine HB2.o.mono ?_; rintro e w' ⟨rfl, rfl⟩) | (go_at_call 223; refine HP1.o.mono ?_; rintro e w1 ⟨b1, hR1, rfl, hB1⟩; have HR1 := hd hR1; have HBB := hd hB1; clear hR1 hB1; revert HBB))
      intro HBB
      go_wp2_with fail
      refine (HP2.o _ HBB.o).mono ?_
      rintro e w2 ⟨b2, hR2, rfl, hB2⟩
      have HR2 := hd hR2
      have HBC := hd (HBB.o.trans (hB2.mono HBB.o.size))
      have HEQ := hd (eq_fl HR1.o.le hR2.le)
      clear hR2 hB2
      by_cases hbb : b1 = b2
      · subst hbb
        have tE : (FloatKind.f64.format.order b1 b1 == some Ordering.eq) = true := by rw [HEQ.o]; exact decide_eq_true rfl
        have HV : Hd (PVal Q.D q b1) := hd (.inr ⟨HDp.o, HMID.o _ HR1.o HR2.o⟩)
        go_wp2_with fail
        refine bodyPost_ret (v := .tuple #[.float .f64 b1, .int .i64 (s.size : Int), erOf b1]) (by simp [results, Tryz.results177, go_sem]) rfl ⟨HBC.o, b1, HV.o, rfl⟩
      · have tE : (FloatKind.f64.format.order b1 b2 == some Ordering.eq) = false := by rw [HEQ.o]; exact decide_eq_false hbb
        go_wp2_with fail
        refine (HSET.o _ _ (fun _ => 0) (dc_new w2)).mono ?_
        rintro e w3 ⟨rfl, hb3, k, hk, hSI⟩
        obtain ⟨f, hD, hok, hf0, hv⟩ := hSI.ex
        have hW2 : Below w2.heap.size w2 w3 := ((Below.refl w2.heap.size w2).alloc (Nat.le_refl _) _).trans hb3
        have N3 := HN.o.below (HBC.o.trans (hW2.mono HBC.o.size))
        have N2 := HN.o.below HBC.o
        have HFB := hd (floatBits_any (DN.SV (DN.dvf f st.nd) (PF.dpOf st + PF.expOf r - st.nd) 0) w3 w2.heap.size f st.nd _ hD (by have := HND.o.1; omega) (by have := HND.o.2; omega) hok (hf0 (by have := HND.o.1; omega)) rfl (by have := HDQ.o; have := HND.o; have := HP.o; omega) (by have := HDQ.o; have := HND.o; have := HP.o; omega) (N2.lc.below hW2) (N2.pt.below hW2) ((fi_of N2.n.g).below hW2))
        have HB3 := hd (HBC.o.trans (hW2.mono HBC.o.size))
        have hxe : DN.SV (DN.dvf f st.nd) (PF.dpOf st + PF.expOf r - st.nd) 0 = DN.SV Q.D q 0 := by
          rw [hv, HQ.o k hk, HDQ.o, show q + (st.nd : Int) - st.nd = q by omega]
        rw [hxe] at HFB
        clear hb3 hk hSI hD hok hf0 hv hW2 N3 N2 hxe
        go_wp2_with fail
        refine HFB.o.mono ?_
        rintro e w4 ⟨bb, hR, rfl, hb4⟩
        have HB4 := hd (HB3.o.trans (hb4.mono HBC.o.size))
        have HV : Hd (PVal Q.D q bb) := hd (.inr ⟨HDp.o, DN.rnd_back (by have := HP.o; have := HND.o; omega) hR⟩)
        have HRL := hd hR.le
        have hfb : ∀ W, (callFunc 221 #[.int .u64 bb]).run Tryz.prog W = .ok (.value (.float .f64 bb)) W := frombits_run bb
        clear hR hb4
        by_cases hI : bb = FS.INF
        · have tI : decide (bb = FS.INF) = true := decide_eq_true hI
          have HE : Hd (erOf bb = .iface 177 (.int .i64 1)) := hd (by rw [hI]; exact er_inf)
          rw [tI]
          clear tI hI
          go_wp2_with fail
          refine bodyPost_ret (v := .tuple #[.float .f64 bb, .int .i64 (s.size : Int), .iface 177 (.int .i64 1)]) (by simp [results, Tryz.results177, go_sem]) rfl ⟨HB4.o, bb, HV.o, by rw [HE.o]⟩
        · have tI : decide (bb = FS.INF) = false := decide_eq_false hI
          have HE : Hd (erOf bb = .nilIface) := hd (er_no (by have := HRL.o; omega))
          rw [tI]
          clear tI hI
          go_wp2_with fail
          refine bodyPost_ret (v := .tuple #[.float .f64 bb, .int .i64 (s.size : Int), .nilIface]) (by simp [results, Tryz.results177, go_sem]) rfl ⟨HB4.o, bb, HV.o, by rw [HE.o]⟩
/-- atof64 over every decimal lexeme -/
theorem atof_dec (s : ByteArray) (st : PF.St) (r a : List UInt8) (w : World) (Dd : PF.Dec s st r) (e : s.data.toList = a ++ r) (I : PF.Inv st (PF.mf a PF.ls0)) (N : Nm2 w) :
    Calls Tryz.prog 177 #[.string s] w fun x w' => Below w.heap.size w w' ∧ ∃ b, PVal (PF.mf a PF.ls0).D (PF.expOf r - (PF.mf a PF.ls0).b) b ∧ x = .returned (.tuple #[.float .f64 b, .int .i64 (s.size : Int), erOf b]) := by
  cases htr : st.tr with
  | false => exact (atof_fast s st r w Dd htr N.n).mono fun x w' ⟨hb, b, h, h2⟩ => ⟨hb, b, pv_val I htr h, h2⟩
  | true =>
    refine atof_slow s st r w Dd htr N (PF.mf a PF.ls0) I fun k hk => ?_
    have h1 : s.data.toList = s.data.toList.take k ++ r := by
      have := (List.take_append_drop k s.data.toList).symm
      rw [hk] at this; exact this
    have h2 : s.data.toList.take k = a := List.append_cancel_right (h1.symm.trans e)
    rw [h2]
end Go.Proofs.YtibmgmgdbicdlaaGreatDoor
