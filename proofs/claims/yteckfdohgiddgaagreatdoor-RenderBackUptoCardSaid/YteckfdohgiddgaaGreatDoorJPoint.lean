/- weirref03.Stamp of a moment's seconds. What a float's text is read as. Plain law. weirref29.pointOf over a tree. -/
import Derived.Test.YteckfdohgiddgaaGreatDoorSpA
import Derived.Test.YteckfdohgiddgaaGreatDoorRSec
import Derived.Test.YteckfdohgiddgaaGreatDoorJNm
import Derived.Test.YteckfdohgiddgaaGreatDoorBQuiet
import Derived.Test.YteckfdohgiddgaaGreatDoorPBackW
import Derived.Test.YteckfdohgiddgaaGreatDoorNParse
import Derived.Test.YteckfdohgiddgaaGreatDoorPPlain
import Derived.Test.YteckfdohgiddgaaGreatDoorJLab
namespace Go.Proofs.YteckfdohgiddgaaGreatDoor
open Go.RowKit
set_option linter.unusedVariables false
set_option linter.unusedSimpArgs false
namespace RJ
theorem pn_dd (q : Nat) : ∀ x ∈ Lib.decDigits q, PN.dg x.toNat = true := fun x hx => by
  have h := isD_lt ((dd_dg q).2 x hx)
  unfold PN.dg; simp [h]
theorem rz_fill (l : List UInt8) : T.rz l ++ List.replicate (l.length - (T.rz l).length) 48 = l := by
  induction h : l.length generalizing l with
  | zero => have : l = [] := List.eq_nil_of_length_eq_zero h; subst this; rfl
  | succ n ih =>
    obtain ⟨l', c, rfl⟩ : ∃ l' c, l = l' ++ [c] := ⟨l.dropLast, l.getLast (by intro e; subst e; simp at h), (List.dropLast_concat_getLast _).symm⟩
    have hl : l'.length = n := by simpa using h
    by_cases hc : c = 48
    · subst hc
      rw [T.rz_nought]
      have := ih l' hl
      have h2 := T.rz_len l'
      rw [show n + 1 - (T.rz l').length = (n - (T.rz l').length) + 1 by omega, List.replicate_succ', ← List.append_assoc, this]
    · rw [T.rz_end hc]; simp [hl]
/-- a fraction's digits, filled up to three -/
theorem frac_fill (r : Nat) (h : r < 1000) : ((T.frac r).drop 1) ++ List.replicate (3 - ((T.frac r).drop 1).length) 48 = T.d3 r := by
  unfold T.frac
  by_cases c : r = 0
  · subst c; rfl
  · rw [if_neg c]
    exact rz_fill (T.d3 r)
theorem frac_le3 (r : Nat) : ((T.frac r).drop 1).length ≤ 3 := by
  unfold T.frac
  split
  · simp
  · have := T.rz_len (T.d3 r); simpa [T.d3] using this
theorem d3_dg (r : Nat) (hr : r < 1000) : ∀ x ∈ T.d3 r, PN.dg x.toNat = true := fun x hx => by
  unfold T.d3 T.dig at hx
  have hh : isD x.toNat = true := by
    simp only [List.mem_cons, List.not_mem_nil, or_false] at hx
    rcases hx with rfl | rfl | rfl
    · exact isD_of _ (by omega)
    · exact isD_of _ (by omega)
    · exact isD_of _ (by omega)
  have h := isD_lt hh
  unfold PN.dg; simp [h]
theorem frac_dg (r : Nat) (hr : r < 1000) : ∀ x ∈ (T.frac r).drop 1, PN.dg x.toNat = true := fun x hx => by
  unfold T.frac at hx
  split at hx
  · simp at hx
  · exact d3_dg r hr x (rz_sub _ x hx)
theorem spn_run : ∀ (a b : List UInt8), (∀ x ∈ a, PN.dg x.toNat = true) → (∀ c t, b = c :: t → PN.dg c.toNat = false) → PN.spn PN.dg (a ++ b) = a.length
  | [], [], _, _ => rfl
  | [], c :: t, _, h => by rw [List.nil_append, PN.spn_no (h c t rfl)]; rfl
  | x :: a, b, h, hb => by
    rw [List.cons_append, PN.spn_yes (h x (by simp)), spn_run a b (fun y hy => h y (by simp [hy])) hb]; rfl
end RJ
theorem s3half_any (w : World) : Calls Tryz.prog 191 #[.string ⟨#[]⟩] w fun e w' => e = .returned (.int .i64 (-1)) ∧ w = w' := by
  go_enter Tryz.func191, Tryz.ntmps191
  go_wp2
  go_loop [3] (fun x => x = .int .i64 0) (fun _ => 0)
  case atStart => rfl
  case round =>
    subst hrel
    have hem : (⟨#[]⟩ : ByteArray).toList.isEmpty = true := by rw [ByteArray.toList_eq]; rfl
    go_wp2
    go_ret
    exact ⟨rfl, rfl⟩
theorem RJ.str_app (g : List UInt8) : (RJ.str g ++ (⟨#[48]⟩ : ByteArray)) = RJ.str (g ++ [48]) := by
  apply ByteArray.ext
  simp [RJ.str, ByteArray.data_append]
theorem RJ.dig_toNat {n : Nat} (h : n < 10) : ((T.dig n).toNat : Int) = 48 + (n : Int) := by
  unfold T.dig
  rw [UInt8.toNat_ofNat', show (48 + n) % 2 ^ 8 = 48 + n by omega]
  omega
set_option maxHeartbeats 1000000 in
theorem s3thou_any (f : List UInt8) (r : Nat) (hr : r < 1000) (hf : f.length ≤ 3) (hfill : f ++ List.replicate (3 - f.length) 48 = T.d3 r) (w : World) :
    Calls Tryz.prog 136 #[.string (RJ.str f)] w fun e w' => e = .returned (.tuple #[.int .i64 (r : Int), .int .i64 (-1)]) ∧ Below w.heap.size w w' := by
  have HF := hd hfill
  have HR := hd hr
  clear hfill hr
  go_enter Tryz.func136, Tryz.ntmps136
  go_wp2
  go_loop [0] (fun x => ∃ g : List UInt8, g.length ≤ 3 ∧ x = .string (RJ.str g) ∧ Hd (g ++ List.replicate (3 - g.length) 48 = T.d3 r)) (fun x => match x with | .string b => 3 - b.size | _ => 0)
  case atStart => exact ⟨f, hf, rfl, HF⟩
  case round =>
    obtain ⟨g, hg, rfl, HG⟩ := hrel
    have hsz : (RJ.str g).size = g.length := by unfold RJ.str; rw [Lib.size_eq]
    by_cases h3 : g.length < 3
    · have h3i : ((RJ.str g).size : Int) < 3 := by omega
      have HA := hd (RJ.str_app g)
      clear hsz
      go_wp2
      go_round
      case rel => exact ⟨g ++ [48], by simp; omega, by rw [HA.o], hd (by rw [← HG.o, List.append_assoc, List.length_append, List.length_singleton, show 3 - g.length = (3 - (g.length + 1)) + 1 by omega, List.replicate_succ]; rfl)⟩
      case measure =>
        have h1 : (RJ.str (g ++ [48])).size = g.length + 1 := by unfold RJ.str; rw [Lib.size_eq]; simp
        have h2 : (RJ.str g).size = g.length := by unfold RJ.str; rw [Lib.size_eq]
        show 3 - (RJ.str (g ++ [48])).size < 3 - (RJ.str g).size
        omega
    · have hg3 : g.length = 3 := by omega
      have hgd := HG.o
      rw [hg3, Nat.sub_self, List.replicate_zero, List.append_nil] at hgd
      obtain ⟨a, ha⟩ : ∃ a, a = r / 100 := ⟨_, rfl⟩
      obtain ⟨b, hb⟩ : ∃ b, b = r / 10 % 10 := ⟨_, rfl⟩
      obtain ⟨c, hc⟩ : ∃ c, c = r % 10 := ⟨_, rfl⟩
      have hrr := HR.o
      have e1 : g = [T.dig a, T.dig b, T.dig c] := by rw [hgd, ha, hb, hc]; rfl
      have HE : Hd ((r : Int) = (a : Int) * 100 + (b : Int) * 10 + (c : Int)) := hd (by omega)
      have la : a < 10 := by omega
      have lb : b < 10 := by omega
      have lc : c < 10 := by omega
      have da := RJ.dig_toNat la
      have db := RJ.dig_toNat lb
      have dc := RJ.dig_toNat lc
      clear HG hgd hg hg3 h3 hsz ha hb hc hrr HF hf
      subst e1
      generalize T.dig a = x at *
      generalize T.dig b = y at *
      generalize T.dig c = z at *
      have s3 : (RJ.str [x, y, z]).size = 3 := rfl
      have sx : ∀ h : 0 < (RJ.str [x, y, z]).size, ((RJ.str [x, y, z])[0]'h).toNat = x.toNat := fun _ => rfl
      have sy : ∀ h : 1 < (RJ.str [x, y, z]).size, ((RJ.str [x, y, z])[1]'h).toNat = y.toNat := fun _ => rfl
      have sz : ∀ h : 2 < (RJ.str [x, y, z]).size, ((RJ.str [x, y, z])[2]'h).toNat = z.toNat := fun _ => rfl
      have ex : (RJ.str [x, y, z]).extract 3 3 = ⟨#[]⟩ := rfl
      generalize RJ.str [x, y, z] = S at *
      clear HR
      go_wp2_with fail
      refine wp_region_below (by kernel_rfl) (by kernel_rfl) ?_
      repeat (go_big_quiet_step (first | (go_at_call 191; exact Calls.below_same (s3half_any _))))
      refine wpQuiet_nil ?_
      rintro _ ⟨⟨w2, hb2⟩, rfl⟩
      go_wp2
      have hv : ((48 + (a : Int) - 48) * 100 + (48 + (b : Int) - 48) * 10 + (48 + (c : Int) - 48)) = (r : Int) := by rw [HE.o]; omega
      rw [hv]
      go_ret2
      exact ⟨rfl, hb2⟩
theorem RJ.dv_app : ∀ (b a : List UInt8), PF.dv a ≤ PF.dv (a ++ b)
  | [], a => by simp
  | c :: b, a => by
    have h := RJ.dv_app b (a ++ [c])
    have e : PF.dv (a ++ [c]) = PF.dv a * 10 + (c.toNat - 48) := by unfold PF.dv; rw [List.foldl_append]; rfl
    rw [List.append_assoc, List.singleton_append] at h
    omega
theorem RJ.dv_take (l : List UInt8) (k : Nat) (h : k < l.length) : PF.dv (l.take (k + 1)) = PF.dv (l.take k) * 10 + ((l[k]'h).toNat - 48) ∧ PF.dv (l.take (k + 1)) ≤ PF.dv l := by
  constructor
  · rw [List.take_succ_eq_append_getElem h]
    unfold PF.dv; rw [List.foldl_append]; rfl
  · have := RJ.dv_app (l.drop (k + 1)) (l.take (k + 1))
    rw [List.take_append_drop] at this
    exact this
set_option maxHeartbeats 1000000 in
theorem s3near_any (below : Bool) (ip f : List UInt8) (q r : Nat) (hip : ip = Lib.decDigits q) (hq : q ≤ 253402300799) (hr : r < 1000) (hf : f.length ≤ 3) (hfill : f ++ List.replicate (3 - f.length) 48 = T.d3 r) (w : World) :
    Calls Tryz.prog 80 #[.bool below, .string (RJ.str ip), .string (RJ.str f)] w fun e w' => e = .returned (.int .i64 (if below then -((q * 1000 + r : Nat) : Int) else ((q * 1000 + r : Nat) : Int))) ∧ Below w.heap.size w w' := by
  have HC := hd (s3thou_any f r hr hf hfill)
  have HV := hd (show PF.dv ip = q by rw [hip]; exact (PF.dec_dig q).2)
  have HT := hd (show ∀ k (h : k < ip.length), PF.dv (ip.take (k + 1)) = PF.dv (ip.take k) * 10 + ((ip[k]'h).toNat - 48) ∧ PF.dv (ip.take (k + 1)) ≤ q ∧ 48 ≤ (ip[k]'h).toNat ∧ (ip[k]'h).toNat ≤ 57 from fun k h => by
    have h1 := RJ.dv_take ip k h
    rw [HV.o] at h1
    have h2 : ip[k]'h ∈ Lib.decDigits q := by rw [← hip]; exact List.getElem_mem h
    have h3 := RJ.isD_lt ((RJ.dd_dg q).2 _ h2)
    exact ⟨h1.1, h1.2, h3⟩)
  have HL := hd (show (RJ.str ip).size = ip.length by unfold RJ.str; rw [Lib.size_eq])
  have HG := hd (show ∀ k (h : k < (RJ.str ip).size) (h2 : k < ip.length), (RJ.str ip)[k]'h = ip[k]'h2 from fun k h h2 => by
    have e : (RJ.str ip)[k]'h = (ip.toArray)[k]'(by simpa using h2) := rfl
    rw [e]; simp)
  have hlen : ip.length ≤ 20 := by rw [hip, Lib.decDigits_length]; exact Lib.nDigits_le20 _ (by omega)
  clear hip hf hfill
  generalize RJ.str ip = S at *
  go_enter Tryz.func80, Tryz.ntmps80
  go_wp2_with (go_at_call 136; refine (HC.o _).mono ?_; rintro e w1 ⟨rfl, hb1⟩; have HB := hd hb1; clear hb1)
  go_loopw [9, 10] (fun x y wr => ∃ k v : Nat, k ≤ ip.length ∧ x = .int .i64 v ∧ y = .int .i64 k ∧ v ≤ q ∧ Hd (v = PF.dv (ip.take k)) ∧ wr = w1) (fun _ y _ => ip.length - (intOf y).toNat)
  case atStart => exact ⟨0, 0, Nat.zero_le _, rfl, rfl, Nat.zero_le _, hd rfl, rfl⟩
  case round =>
    obtain ⟨k, v, hk, rfl, rfl, hvq, HVk, rfl⟩ := hrel
    by_cases hlt : k < ip.length
    · obtain ⟨t1, t2, t3, t4⟩ := HT.o k hlt
      have hs : k < S.size := by rw [HL.o]; exact hlt
      have hsi : (k : Int) < (S.size : Int) := by omega
      have hg := HG.o k hs hlt
      rw [← HVk.o] at t1
      generalize ip[k]'hlt = c at *
      rw [t1] at t2
      have hvi : (v : Int) < 100000000000000 := by omega
      have t1 := hd t1
      go_wp2
      go_roundw
      case rel => exact ⟨k + 1, v * 10 + (c.toNat - 48), by omega, by go_num, by go_num, t2, hd t1.o.symm, trivial⟩
      case measure => simp [intOf]; omega
    · have hs : ¬ (k : Int) < (S.size : Int) := by have := HL.o; omega
      have hv : v = q := by
        have := HVk.o
        rw [List.take_of_length_le (by omega)] at this
        rw [this]; exact HV.o
      subst hv
      have e1 : IntKind.i64.wrap ((v : Int) * 1000) = (v : Int) * 1000 := by rw [IntKind.wrap_i64]; omega
      have e2 : ((v * 1000 + r : Nat) : Int) = (r : Int) + (v : Int) * 1000 := by omega
      cases below with
      | true =>
        go_wp2
        go_ret
        exact ⟨ret_int (by omega), HB.o⟩
      | false =>
        go_wp2
        go_ret
        exact ⟨ret_int (by omega), HB.o⟩
/-- the two bytes-lists of a moment's text -/
theorem RJ.sec_of (t : Int) : ∃ (ng : Bool) (q r : Nat), T.sec t = (if ng then [45] else []) ++ (Lib.decDigits q ++ T.frac r) ∧ r < 1000 ∧ (if ng then -((q * 1000 + r : Nat) : Int) else ((q * 1000 + r : Nat) : Int)) = t ∧ q * 1000 + r = t.natAbs ∧ (ng = true ↔ t < 0) := by
  refine ⟨decide (t < 0), t.natAbs / 1000, t.natAbs % 1000, ?_, Nat.mod_lt _ (by decide), ?_, by omega, by simp⟩
  · unfold T.sec
    by_cases h : t < 0
    · simp [h]
    · simp [h]
  · by_cases h : t < 0
    · simp only [h, decide_true, if_true]; omega
    · simp only [h, decide_false, Bool.false_eq_true, if_false]; omega
set_option maxHeartbeats 1000000 in
theorem s3seconds_any (ng : Bool) (q r : Nat) (hr : r < 1000) (w : World) (S : ByteArray) (hS : S = RJ.str ((if ng then [45] else []) ++ (Lib.decDigits q ++ T.frac r))) (hq : q ≤ 253402300799) :
    Calls Tryz.prog 79 #[.string S] w fun e w' => e = .returned (.tuple #[.bool ng, .string (RJ.str (Lib.decDigits q)), .string (RJ.str ((T.frac r).drop 1)), .bool true]) ∧ Below w.heap.size w w' := by
  have hd1 := RJ.dd_dg q
  obtain ⟨ip, hip⟩ : ∃ ip, ip = Lib.decDigits q := ⟨_, rfl⟩
  obtain ⟨fr, hfr⟩ : ∃ fr, fr = T.frac r := ⟨_, rfl⟩
  have hil : ip.length ≤ 20 := by rw [hip, Lib.decDigits_length]; exact Lib.nDigits_le20 _ (by omega)
  have hfl : fr.length ≤ 4 := by have := RJ.frac_le3 r; rw [← hfr] at this; simp at this; omega
  have hfc : fr = [] ∨ (∃ f, fr = 46 :: f ∧ f ≠ [] ∧ ∀ x ∈ f, PN.dg x.toNat = true) := by
    rcases RJ.frac_lex r hr with h | ⟨f, h, hf⟩
    · exact .inl (by rw [hfr, h])
    · refine .inr ⟨f, by rw [hfr, h], hf.1, fun x hx => ?_⟩
      have := RJ.frac_dg r hr x (by rw [h]; exact hx)
      exact this
  have hid : ∀ x ∈ ip, PN.dg x.toNat = true := by rw [hip]; exact RJ.pn_dd q
  have hi0 : ip ≠ [] := by rw [hip]; exact hd1.1
  rw [← hip, ← hfr] at hS ⊢
  clear hip hfr hd1 hq hr
  have hdata : S.data.toList = (if ng then [45] else []) ++ (ip ++ fr) := by rw [hS]; simp [RJ.str]
  obtain ⟨o, ho⟩ : ∃ o : Nat, o = if ng then 1 else 0 := ⟨_, rfl⟩
  have ho1 : o ≤ 1 := by rw [ho]; split <;> omega
  have hsz : S.size = o + ip.length + fr.length := by
    rw [Lib.size_eq, hdata, ho]; cases ng <;> simp <;> omega
  have hdo : S.data.toList.drop o = ip ++ fr := by rw [hdata, ho]; cases ng <;> rfl
  have hdr : S.data.toList.drop (o + ip.length) = fr := by rw [← List.drop_drop, hdo, List.drop_left]
  have hpos : 0 < ip.length := List.length_pos_iff.2 hi0
  have hspn : PN.spn PN.dg (ip ++ fr) = ip.length := RJ.spn_run ip fr hid (fun c t h => by
    rcases hfc with e | ⟨f, e, _⟩
    · rw [e] at h; cases h
    · rw [e] at h; cases h; decide)
  have HR1 := hd (show ∀ W, Calls Tryz.prog 135 #[.string S, .int .i64 (o : Int)] W fun e w' => e = .returned (.int .i64 ((o + ip.length : Nat) : Int)) ∧ W = w' from fun W => by
    have h := s3run_any S o W (by omega) (by omega)
    rw [hdo, hspn] at h
    exact h)
  have hex1 : S.extract o (o + ip.length) = RJ.str ip := by
    apply ByteArray.ext; apply Array.toList_inj.1
    rw [Lib.extract_data, hdo, Nat.add_sub_cancel_left, List.take_left]; simp [RJ.str]
  have hs1' : 0 < S.size := Nat.lt_of_lt_of_le hpos (by rw [hsz]; exact Nat.le_trans (Nat.le_add_left _ _) (Nat.le_add_right _ _))
  have hnn : ¬ S.toList = [] := by rw [Lib.toList_data]; intro e; have h1 := Lib.size_eq S; rw [e] at h1; rw [h1] at hs1'; exact absurd hs1' (by decide)
  have hem : S.toList.isEmpty = false := by rw [List.isEmpty_eq_false_iff]; exact hnn
  have h0s : 0 < S.size := by omega
  have hgt : ∀ k (h : k < S.size) (h2 : k < S.data.toList.length), S[k]'h = S.data.toList[k]'h2 := fun k h h2 => by
    have e : S[k]'h = (S.data)[k]'(by simpa using h2) := rfl
    rw [e]; simp
  have hlen : S.data.toList.length = S.size := (Lib.size_eq S).symm
  have hs0 : (ng = true → (S[0]'h0s).toNat = 45) ∧ (ng = false → 48 ≤ (S[0]'h0s).toNat ∧ (S[0]'h0s).toNat ≤ 57) := by
    rw [hgt 0 h0s (by omega)]
    constructor
    · intro e; subst e
      have : S.data.toList[0]? = some 45 := by rw [hdata]; rfl
      rw [List.getElem?_eq_getElem (by omega)] at this
      rw [Option.some.inj this]; rfl
    · intro e; subst e
      have : S.data.toList[0]? = some (ip[0]'hpos) := by rw [hdata]; simp [List.getElem?_append, hpos]
      rw [List.getElem?_eq_getElem (by omega)] at this
      rw [Option.some.inj this]
      have := hid _ (List.getElem_mem hpos)
      unfold PN.dg at this
      exact of_decide_eq_true this
  have hne : ((((o + ip.length : Nat)) : Int) == (o : Int)) = false := by rw [beq_eq_false_iff_ne]; omega
  have t43 : (((S[0]'h0s).toNat : Int) == 43) = false := by
    rw [beq_eq_false_iff_ne]
    cases ng
    · have := hs0.2 rfl; omega
    · have := hs0.1 rfl; omega
  have t45 : (((S[0]'h0s).toNat : Int) == 45) = ng := by
    cases ng
    · rw [beq_eq_false_iff_ne]; have := hs0.2 rfl; omega
    · rw [beq_iff_eq]; have := hs0.1 rfl; omega
  have hoi : (o : Int) = if ng then 1 else 0 := by rw [ho]; split <;> rfl
  obtain ⟨J, hJ⟩ : ∃ J, J = o + ip.length := ⟨_, rfl⟩
  rw [← hJ] at hex1 hne HR1 hdr
  have hJs : J ≤ S.size := by omega
  have hJo : o ≤ J := by omega
  have hJl : J ≤ 21 := by omega
  rcases hfc with e | ⟨f, e, hf0, hfd⟩
  · have hJe : ((J : Int) == (S.size : Int)) = true := by rw [beq_iff_eq]; rw [e] at hsz; simp at hsz; omega
    subst e
    clear hdo hdr hspn hid hdata hsz hJ hgt hlen hs0 hfl hi0 hpos hnn hil hS
    cases ng with
    | true =>
      obtain rfl : o = 1 := by simpa using ho
      have e1 : ((1 : Nat) : Int) = 1 := rfl
      have HEX := hd hex1
      rw [e1] at HR1 hne
      have hJoI : (1 : Int) ≤ (J : Int) := by omega
      have hJsI : (J : Int) ≤ (S.size : Int) := by omega
      have hs1 : (1 : Int) ≤ (S.size : Int) := by omega
      have h0i : (0 : Int) < (S.size : Int) := by omega
      have hslc : ∀ W : World, (Instr.slice 9 (.string S) (some (.int .i64 1)) (some (.int .i64 (J : Int))) none).run Tryz.prog W = .ok (.string (RJ.str ip)) W := fun W => by
        rw [← HEX.o]
        simp [go_sem, hJoI, hJsI]
      clear ho hoi e1 hex1 ho1 hJs hJo
      go_enter Tryz.func79, Tryz.ntmps79
      go_wp2_with (go_at_call 135; refine (HR1.o _).mono ?_; rintro e w1 ⟨rfl, rfl⟩)
      go_quiet (fail)
      go_wp2
      refine bodyPost_ret (v := .tuple #[.bool true, .string (RJ.str ip), .string (⟨#[]⟩), .bool true]) (by simp [results, Tryz.results79, go_sem]) rfl ⟨rfl, bel_drew (Below.refl _ _) _⟩
    | false =>
      obtain rfl : o = 0 := by simpa using ho
      have e1 : ((0 : Nat) : Int) = 0 := rfl
      have HEX := hd hex1
      rw [e1] at HR1 hne
      have hJoI : (0 : Int) ≤ (J : Int) := by omega
      have hJsI : (J : Int) ≤ (S.size : Int) := by omega
      have hs1 : (1 : Int) ≤ (S.size : Int) := by omega
      have h0i : (0 : Int) < (S.size : Int) := by omega
      have hslc : ∀ W : World, (Instr.slice 9 (.string S) (some (.int .i64 0)) (some (.int .i64 (J : Int))) none).run Tryz.prog W = .ok (.string (RJ.str ip)) W := fun W => by
        rw [← HEX.o]
        simp [go_sem, hJoI, hJsI]
      clear ho hoi e1 hex1 ho1 hJs hJo
      go_enter Tryz.func79, Tryz.ntmps79
      go_wp2_with (go_at_call 135; refine (HR1.o _).mono ?_; rintro e w1 ⟨rfl, rfl⟩)
      go_quiet (fail)
      go_wp2
      refine bodyPost_ret (v := .tuple #[.bool false, .string (RJ.str ip), .string (⟨#[]⟩), .bool true]) (by simp [results, Tryz.results79, go_sem]) rfl ⟨rfl, bel_drew (Below.refl _ _) _⟩
  · have hfl1 : 0 < f.length := List.length_pos_iff.2 hf0
    have hJe : ((J : Int) == (S.size : Int)) = false := by rw [beq_eq_false_iff_ne]; rw [e] at hsz; simp at hsz; omega
    have hJlt : J < S.size := by rw [e] at hsz; simp at hsz; omega
    have hJltI : (J : Int) < (S.size : Int) := by omega
    have hs46 : (S[J]'hJlt).toNat = 46 := by
      rw [hgt J hJlt (by omega)]
      have := data_drop' S J hJlt
      rw [hdr, e] at this
      have h2 := List.cons.inj this
      rw [hgt J hJlt (by omega)] at h2
      rw [← h2.1]; rfl
    have t46 : (((S[J]'hJlt).toNat : Int) != 46) = false := by rw [hs46]; rfl
    have hJ1 : (((J : Int) + 1) == (S.size : Int)) = false := by rw [beq_eq_false_iff_ne]; rw [e] at hsz; simp at hsz; omega
    have hdr2 : S.data.toList.drop (J + 1) = f := by rw [← List.drop_drop, hdr, e]; rfl
    have hend : J + 1 + f.length = S.size := by rw [e] at hsz; simp at hsz; omega
    have HR2 := hd (show ∀ W, Calls Tryz.prog 135 #[.string S, .int .i64 ((J : Int) + 1)] W fun e w' => e = .returned (.int .i64 (S.size : Int)) ∧ W = w' from fun W => by
      have h := s3run_any S (J + 1) W (by omega) (by omega)
      rw [hdr2, show PN.spn PN.dg f = f.length from (by have := RJ.spn_run f [] hfd (fun c t h => by cases h); rwa [List.append_nil] at this), hend] at h
      exact h)
    have tne : ((S.size : Int) != (S.size : Int)) = false := by simp
    have HEX2 : Hd (S.extract (J + 1) S.size = RJ.str f) := hd (by
      apply ByteArray.ext; apply Array.toList_inj.1
      rw [Lib.extract_data, hdr2, List.take_of_length_le (by omega)]; simp [RJ.str])
    have hJ1I : (J : Int) + 1 ≤ (S.size : Int) := by omega
    have hw1 : IntKind.i64.wrap ((J : Int) + 1) = (J : Int) + 1 := by rw [IntKind.wrap_i64]; omega
    have hslc2 : ∀ W : World, (Instr.slice 9 (.string S) (some (.int .i64 ((J : Int) + 1))) none none).run Tryz.prog W = .ok (.string (RJ.str f)) W := fun W => by
      rw [← HEX2.o]
      have hJ0 : ¬ ((J : Int) + 1 < 0) := by omega
      simp [go_sem, hJ1I, hJ0]
    subst e
    clear hdo hdr hdr2 hspn hid hdata hsz hJ hgt hlen hs0 hfl hi0 hpos hnn hil hS hs46 hend hfd hf0 hfl1 HEX2
    cases ng with
    | true =>
      obtain rfl : o = 1 := by simpa using ho
      have e1 : ((1 : Nat) : Int) = 1 := rfl
      have HEX := hd hex1
      rw [e1] at HR1 hne
      have hJoI : (1 : Int) ≤ (J : Int) := by omega
      have hJsI : (J : Int) ≤ (S.size : Int) := by omega
      have hs1 : (1 : Int) ≤ (S.size : Int) := by omega
      have h0i : (0 : Int) < (S.size : Int) := by omega
      have hslc : ∀ W : World, (Instr.slice 9 (.string S) (some (.int .i64 1)) (some (.int .i64 (J : Int))) none).run Tryz.prog W = .ok (.string (RJ.str ip)) W := fun W => by
        rw [← HEX.o]
        simp [go_sem, hJoI, hJsI]
      clear ho hoi e1 hex1 ho1 hJo
      go_enter Tryz.func79, Tryz.ntmps79
      go_wp2_with (first
        | (go_at_call 135; with_reducible refine (HR1.o _).mono ?_; rintro e w1 ⟨rfl, rfl⟩)
        | (go_at_call 135; with_reducible refine (HR2.o _).mono ?_; rintro e w1 ⟨rfl, rfl⟩))
      go_quiet (fail)
      go_wp2
      refine bodyPost_ret (v := .tuple #[.bool true, .string (RJ.str ip), .string (RJ.str f), .bool true]) (by simp [results, Tryz.results79, go_sem]) rfl ⟨rfl, bel_drew (Below.refl _ _) _⟩
    | false =>
      obtain rfl : o = 0 := by simpa using ho
      have e1 : ((0 : Nat) : Int) = 0 := rfl
      have HEX := hd hex1
      rw [e1] at HR1 hne
      have hJoI : (0 : Int) ≤ (J : Int) := by omega
      have hJsI : (J : Int) ≤ (S.size : Int) := by omega
      have hs1 : (1 : Int) ≤ (S.size : Int) := by omega
      have h0i : (0 : Int) < (S.size : Int) := by omega
      have hslc : ∀ W : World, (Instr.slice 9 (.string S) (some (.int .i64 0)) (some (.int .i64 (J : Int))) none).run Tryz.prog W = .ok (.string (RJ.str ip)) W := fun W => by
        rw [← HEX.o]
        simp [go_sem, hJoI, hJsI]
      clear ho hoi e1 hex1 ho1 hJo
      go_enter Tryz.func79, Tryz.ntmps79
      go_wp2_with (first
        | (go_at_call 135; with_reducible refine (HR1.o _).mono ?_; rintro e w1 ⟨rfl, rfl⟩)
        | (go_at_call 135; with_reducible refine (HR2.o _).mono ?_; rintro e w1 ⟨rfl, rfl⟩))
      go_quiet (fail)
      go_wp2
      refine bodyPost_ret (v := .tuple #[.bool false, .string (RJ.str ip), .string (RJ.str f), .bool true]) (by simp [results, Tryz.results79, go_sem]) rfl ⟨rfl, bel_drew (Below.refl _ _) _⟩
set_option maxHeartbeats 1000000 in
/-- the moment's text is read back -/
theorem s3stamp_any (t : Int) (h0 : -62167219200000 ≤ t) (h1 : t ≤ 253402300799999) (w : World) :
    Calls Tryz.prog 38 #[.string (RJ.str (T.sec t))] w fun e w' => e = .returned (.tuple #[.int .i64 t, .int .i64 0]) ∧ Below w.heap.size w w' := by
  obtain ⟨ng, q, r, hs, hr, ht, hab, _⟩ := RJ.sec_of t
  have hq : q ≤ 253402300799 := by omega
  have hlen : (T.sec t).length ≤ 25 := T.sec_len t (by omega) (by omega)
  have hsz : (RJ.str (T.sec t)).size = (T.sec t).length := RJ.str_size _
  have H1 := hd (fun W => s3seconds_any ng q r hr W (RJ.str (T.sec t)) (by rw [hs]) hq)
  have H2 := hd (fun W => s3near_any ng (Lib.decDigits q) ((T.frac r).drop 1) q r rfl hq hr (RJ.frac_le3 r) (RJ.frac_fill r hr) W)
  rw [ht] at H2
  have hgt : ¬ (64 : Int) < ((RJ.str (T.sec t)).size : Int) := by omega
  have hl1 : ¬ t < -62167219200000 := by omega
  have hl2 : ¬ (253402300799999 : Int) < t := by omega
  clear hs hr ht hab hq hlen hsz
  generalize RJ.str (T.sec t) = S at *
  generalize RJ.str (Lib.decDigits q) = A at *
  generalize RJ.str ((T.frac r).drop 1) = B at *
  go_enter Tryz.func38, Tryz.ntmps38
  go_wp2_with (first
    | (go_at_call 79; refine (H1.o _).mono ?_; rintro e w1 ⟨rfl, hb1⟩; have HB1 := hd hb1; clear hb1)
    | (go_at_call 80; refine (H2.o _).mono ?_; rintro e w2 ⟨rfl, hb2⟩; have HB2 := hd (bel HB1.o hb2); clear hb2))
  go_ret2
  exact ⟨rfl, HB2.o⟩
end Go.Proofs.YteckfdohgiddgaaGreatDoor
namespace Go.Proofs.YteckfdohgiddgaaGreatDoor
set_option linter.unusedVariables false
set_option linter.unusedSimpArgs false
theorem wdInf : Wd ⟨#[73, 110, 102]⟩ infW := ⟨rfl, fun i h h' => by
  have h3 : i < 3 := h
  match i, h3 with
  | 0, _ => exact (by decide : PF.low 73 = 105)
  | 1, _ => exact (by decide : PF.low 110 = 110)
  | 2, _ => exact (by decide : PF.low 102 = 102)⟩
theorem wdNan : Wd ⟨#[78, 97, 78]⟩ nanW := ⟨rfl, fun i h h' => by
  have h3 : i < 3 := h
  match i, h3 with
  | 0, _ => exact (by decide : PF.low 78 = 110)
  | 1, _ => exact (by decide : PF.low 97 = 97)
  | 2, _ => exact (by decide : PF.low 78 = 110)⟩
/-- the lexeme of a finite float -/
theorem shown_lx (f : Nat) (l : List UInt8) (hx : FS.ex f ≠ 2047) (hf : f < 18446744073709551616) (h : FS.Shown f l) : ∃ T : List UInt8, l = sgn (FS.ng f) ++ T ∧ T ≠ [] ∧ PN.pfx T = T.length ∧ (∀ c t, T = c :: t → c.toNat = 46 ∨ (48 ≤ c.toNat ∧ c.toNat ≤ 57)) ∧ LxV T (FO.rg f) := by
  rcases h with ⟨a, _⟩ | ⟨_, hm, rfl⟩ | ⟨_, hm, d, t, hT, h10, rfl⟩
  · exact absurd a hx
  · refine ⟨[48], rfl, by simp, by decide, fun c t h => by (injection h with h1 h2; subst h1; exact .inr (by decide)), .inr ⟨by decide, [48], [], rfl, (fun c hc => by rw [List.mem_singleton] at hc; subst hc; decide), (fun c t h => by cases h), .inl ⟨by decide, ?_⟩⟩⟩
    unfold FO.rg
    unfold FS.mOf FS.ex FS.mt at hm
    split at hm <;> omega
  · have hd0 : 0 < d := by omega
    obtain ⟨j, v1, v2, v3, v4, v5⟩ := FS.plainT_val (t := t) (k := (Lib.nDigits d : Int) + t - 400) hd0 rfl
    generalize plainT (Lib.decDigits d) ((Lib.nDigits d : Int) + t - 400) = T at *
    have hT0 : T ≠ [] := fun h => by
      rw [h] at v1
      have h1 : d * 10 ^ j = 0 := v1.symm
      have : 0 < d * 10 ^ j := Nat.mul_pos hd0 (Nat.pow_pos (by decide))
      omega
    refine ⟨T, rfl, hT0, v3, fun c t h => v5 c (by rw [h]; simp), .inr ⟨v4, T, [], by simp, v5, (fun c t h => by cases h), .inr ⟨?_, ?_⟩⟩⟩
    · rw [v1]; exact Nat.mul_pos hd0 (Nat.pow_pos (by decide))
    · have hq : (t : Int) - 400 = PF.expOf [] - ((PF.mf T PF.ls0).b : Int) + (j : Nat) := by
        show _ = (0 : Int) - _ + _; omega
      have hrg : FS.ex (FO.rg f) = FS.ex f ∧ FS.mOf (FO.rg f) = FS.mOf f ∧ FS.eOf (FO.rg f) = FS.eOf f := by
        have e1 : FS.ex (FO.rg f) = FS.ex f := by unfold FS.ex FO.rg; omega
        have e2 : FS.mt (FO.rg f) = FS.mt f := by unfold FS.mt FO.rg; omega
        refine ⟨e1, ?_, ?_⟩
        · unfold FS.mOf; rw [e1, e2]
        · unfold FS.eOf; rw [e1]
      have hT2 : FS.Told (FO.rg f) d t := by
        unfold FS.Told FS.sOf at hT ⊢
        rw [hrg.2.1, hrg.2.2]; exact hT
      have R := FS.in_rnd (f := FO.rg f) (Nat.mod_lt _ (by decide)) (by rw [hrg.1]; exact hx) (by rw [hrg.2.1]; exact hm) hT2
      rw [v1]
      exact R.shift hq
theorem psOf_ok (mi : Bool) (b : Nat) : psOf mi b 0 = psTup (if mi then b + 9223372036854775808 else b) true := rfl
theorem low_far0 : ∀ c, c < 58 → (c = 46 ∨ 48 ≤ c) → PF.low c = c := by decide
theorem low_far {c : Nat} (h : c = 46 ∨ (48 ≤ c ∧ c ≤ 57)) : PF.low c = c := low_far0 c (by omega) (by omega)
theorem far_wd (T : List UInt8) (v : ByteArray) (hv : 0 < v.size) (h105 : 97 ≤ (v[0]'hv).toNat) (hf : ∀ c t, T = c :: t → c.toNat = 46 ∨ (48 ≤ c.toNat ∧ c.toNat ≤ 57)) (hT : T ≠ []) : ¬ Wd ⟨T.toArray⟩ v := by
  rintro ⟨h1, h2⟩
  cases T with
  | nil => exact hT rfl
  | cons c t =>
    have h3 := h2 0 (by rw [h1]; exact hv) hv
    have h4 := hf c t rfl
    rw [show (⟨(c :: t).toArray⟩ : ByteArray)[0]'(by rw [h1]; exact hv) = c from rfl, low_far h4] at h3
    omega
theorem same_self (f : Nat) : FO.same f f = true := by unfold FO.same; simp
/-- what is read of a float's text is the float, but for the kind of a NaN -/
theorem shown_ps (f : Nat) (s : List UInt8) (hf : f < 18446744073709551616) (h : FS.Shown f s) : ∃ g, PsOk ⟨s.toArray⟩ (psTup g true) ∧ FO.same g f = true ∧ g < 18446744073709551616 := by
  have hlen := h.len
  have hsz : (⟨s.toArray⟩ : ByteArray).size = s.length := by simp [ByteArray.size]
  by_cases hx : FS.ex f = 2047
  · have h1 : s = if FS.mt f = 0 then (if FS.ng f then [45, 73, 110, 102] else [43, 73, 110, 102]) else [78, 97, 78] := by
      rcases h with ⟨_, h⟩ | ⟨h, _⟩ | ⟨h, _⟩
      · exact h
      · exact absurd hx h
      · exact absurd hx h
    by_cases hmt : FS.mt f = 0
    · by_cases hng : FS.ng f = true
      · have hf2 : f = 18442240474082181120 := by
          unfold FS.ng at hng; unfold FS.ex at hx; unfold FS.mt at hmt
          have := of_decide_eq_true hng
          omega
        rw [if_pos hmt, if_pos hng] at h1
        subst h1 hf2
        exact ⟨_, .inr ⟨by decide, true, ⟨#[73, 110, 102]⟩, 9218868437227405312, 0, .inl ⟨by decide, .inr ⟨rfl, rfl⟩, rfl⟩, .inr (.inl ⟨by decide, wdInf, rfl⟩), rfl⟩, by decide +kernel, by decide⟩
      · have hf2 : f = 9218868437227405312 := by
          unfold FS.ng at hng; unfold FS.ex at hx; unfold FS.mt at hmt
          have : ¬ 9223372036854775808 ≤ f := fun h => hng (decide_eq_true h)
          omega
        rw [if_pos hmt, if_neg hng] at h1
        subst h1 hf2
        exact ⟨_, .inr ⟨by decide, false, ⟨#[73, 110, 102]⟩, 9218868437227405312, 0, .inl ⟨by decide, .inl ⟨rfl, rfl⟩, rfl⟩, .inr (.inl ⟨by decide, wdInf, rfl⟩), rfl⟩, by decide +kernel, by decide⟩
    · rw [if_neg hmt] at h1
      subst h1
      have hnw : ¬ Wd ⟨#[78, 97, 78]⟩ infW := by
        rintro ⟨_, h2⟩
        have h3 := h2 0 (by decide) (by decide)
        revert h3; decide
      refine ⟨_, .inr ⟨by decide, false, ⟨#[78, 97, 78]⟩, 9221120237041090561, 0, .inr ⟨fun _ => (by decide : (78 : Nat) ≠ 43 ∧ (78 : Nat) ≠ 45), rfl, rfl⟩, .inr (.inr (.inl ⟨by decide, hnw, wdNan, rfl⟩)), rfl⟩, ?_, by decide⟩
      have e1 : FS.bitsOf f = FS.bitsOf 9221120237041090561 := by
        unfold FS.bitsOf
        rw [if_pos ⟨hx, hmt⟩, if_pos (by decide)]
      show (_ == _) = true
      rw [beq_iff_eq]
      exact e1.symm
  · obtain ⟨T, hl, hT0, hp, hc, hL⟩ := shown_lx f s hx hf h
    have hpos : 0 < T.length := by cases T with | nil => exact absurd rfl hT0 | cons c t => simp
    have hszT : (⟨T.toArray⟩ : ByteArray).size = T.length := by simp [ByteArray.size]
    have hTl : T.length ≤ 327 := by have := hlen.1; rw [hl, List.length_append] at this; omega
    have hrI : FO.rg f ≠ FS.INF := by have hI : FS.INF = 9218868437227405312 := rfl; unfold FS.ex at hx; unfold FO.rg; omega
    have hR : RdOk ⟨T.toArray⟩ (rdTup (FO.rg f) 0) := .inr (.inr (.inr (.inr ⟨by omega, far_wd T _ (by decide) (by decide) hc hT0, far_wd T _ (by decide) (by decide) hc hT0, by omega, by rw [hszT]; exact hp, _, hL, (rdAns_fin hrI).symm⟩)))
    refine ⟨f, ?_, same_self f, hf⟩
    by_cases hng : FS.ng f = true
    · have h63 : 9223372036854775808 ≤ f := of_decide_eq_true hng
      have hs2 : s = 45 :: T := by rw [hl, hng]; rfl
      refine .inr ⟨by omega, true, ⟨T.toArray⟩, FO.rg f, 0, .inl ⟨by subst hs2; omega, .inr ⟨by subst hs2; rfl, rfl⟩, ?_⟩, hR, ?_⟩
      · subst hs2
        apply ByteArray.ext
        rw [ByteArray.data_extract]
        apply Array.ext'
        simp [ByteArray.size]
      · rw [psOf_ok, if_pos rfl, show FO.rg f + 9223372036854775808 = f by unfold FO.rg; omega]
    · have hng2 : FS.ng f = false := by simpa using hng
      have h63 : ¬ 9223372036854775808 ≤ f := fun h => hng (decide_eq_true h)
      have hs2 : s = T := by rw [hl, hng2]; rfl
      subst hs2
      refine .inr ⟨by omega, false, ⟨s.toArray⟩, FO.rg f, 0, .inr ⟨fun h0 => ?_, rfl, rfl⟩, hR, ?_⟩
      · cases s with
        | nil => exact absurd rfl hT0
        | cons c t =>
          have := hc c t rfl
          rw [show (⟨(c :: t).toArray⟩ : ByteArray)[0]'h0 = c from rfl]
          omega
      · rw [psOf_ok, if_neg (by decide), show FO.rg f = f by unfold FO.rg; omega]
theorem tell_ps (f : Nat) (hf : f < 18446744073709551616) (hs : ∃ s, FS.Shown f s) : ∃ g, PsOk (RJ.str (FS.tell f)) (psTup g true) ∧ FO.same g f = true ∧ g < 18446744073709551616 := by
  obtain ⟨s, h⟩ := hs
  rw [← FS.Shown.eq h]
  exact shown_ps f s hf h
/-- every float has a text: the program writes it -/
theorem shown_ex (f : Nat) (hf : f < 18446744073709551616) (w : World) (hT : Tbl w) : ∃ s, FS.Shown f s := by
  obtain ⟨e, w', fr, h, _⟩ := show_any f hf w hT []
  obtain ⟨s, _, h, _⟩ := h
  exact ⟨s, h⟩
end Go.Proofs.YteckfdohgiddgaaGreatDoor
namespace Go.Proofs.YteckfdohgiddgaaGreatDoor
open Go.RowKit
set_option linter.unusedVariables false
set_option linter.unusedSimpArgs false
open RJ
/-- the float that is read for f -/
def RJ.Sm (f g : Nat) : Prop := FO.same g f = true ∧ g < 18446744073709551616
theorem RJ.res31 {fn : Func} {q u : Tmp} {W : World} {g : Nat} {a b c : Value} (hf : fn.results = #[.cell q 77, .tmp u]) (tmps : Array Value) (hp : tmps.getD q undef = .pointer (some ⟨g, 0, none⟩)) (h : Bk W g 77 [a, b, c]) :
    (results fn tmps).run Tryz.prog W = .ok (.tuple #[.agg #[a, b, c], tmps.getD u undef]) W := by
  rw [results_cell_tmp hf, hp]
  have := run_loadVar_row (P := Tryz.prog) W g 77 77 #[a, b, c] (0, 0) _ h Tryz.underlying77 rfl (by kernel_rfl)
  simp [asAddr, this]
set_option maxHeartbeats 4000000 in
theorem pointOf_any {P : Nat → Prop} {w : World} {d : Nat} {t : Int} {f : Nat} {k : Int} {s : ByteArray} {A A' : Option Addr} {n m n' m' : Nat} (hJ : Js P w (d + 2) (ptT t f) [.int .i64 k, .string s, .slice A n m, .slice A' n' m']) (hPw : ∀ k, P k → k < w.heap.size)
    (h0 : -62167219200000 ≤ t) (h1 : t ≤ 253402300799999) (hf : f < 18446744073709551616) (hs : ∃ s, FS.Shown f s) (W : World) (hW : Below w.heap.size w W) :
    Calls Tryz.prog 37 #[.agg #[.int .i64 k, .string s, .slice A n m, .slice A' n' m']] W fun e w' => (∃ g, e = .returned (.tuple #[.agg #[.int .i64 t, .float .f64 g, .bool false], .bool true]) ∧ RJ.Sm f g) ∧ Below W.heap.size W w' := by
  obtain ⟨g, mo, e, hPg, hc⟩ := pt_cells hJ
  simp only [List.cons.injEq, Value.int.injEq, Value.string.injEq, Value.slice.injEq, and_true, true_and] at e
  obtain ⟨rfl, rfl, ⟨rfl, rfl, rfl⟩, rfl, rfl, rfl⟩ := e
  have HC := hd (show ∀ W', Below w.heap.size w W' → W'.cell? ⟨g, 0, none⟩ = some (.int .i64 3) ∧ W'.cell? ⟨g, 1, none⟩ = some (.string (str (T.sec t))) ∧ W'.cell? ⟨g, 4, none⟩ = some (.int .i64 4) ∧ W'.cell? ⟨g, 5, none⟩ = some (.string (str (FS.tell f))) from fun W' hb => hc W' (fun k hk => hb.block k (hPw k hk)))
  have HW := hd hW
  obtain ⟨G, hG⟩ := tell_ps f hf hs
  have HG := hd hG
  have HST := hd (fun W => s3stamp_any t h0 h1 W)
  have HPR := hd (show ∀ W, Calls Tryz.prog 78 #[.string (str (FS.tell f))] W fun x w' => x = .returned (psTup G true) ∧ Below W.heap.size W w' from fun W => (rfparse_any _ W (by rw [str_size]; have := FS.tell_len f; omega)).mono (fun e w' ⟨⟨v, h1, h2⟩, h3⟩ => ⟨by rw [h2, h1.ext HG.o.1], h3⟩))
  obtain ⟨W2, hW2⟩ : ∃ W2, W2 = (W.alloc (.cells #[.int .i64 5, .string ⟨#[]⟩, .slice none 0 0, .slice (some ⟨g, 0, none⟩) 2 m'] 80)).alloc (.cells #[.int .i64 0, .float .f64 0, .bool false] 77) := ⟨_, rfl⟩
  have HB2 : Hd (Below W.heap.size W W2) := hd (by rw [hW2]; exact ((Below.refl _ _).alloc (Nat.le_refl _) _).alloc (by simp) _)
  have HZ2 : Hd (W2.heap.size = W.heap.size + 2) := hd (by rw [hW2]; simp)
  have HA : Hd (Bk W2 W.heap.size 80 [.int .i64 5, .string ⟨#[]⟩, .slice none 0 0, .slice (some ⟨g, 0, none⟩) 2 m']) := hd (by rw [hW2]; exact (RJ.mk_bk _ _ _ _ _).below ((Below.refl _ _).alloc (Nat.le_refl _) _))
  have HB : Hd (Bk W2 (W.heap.size + 1) 77 [.int .i64 0, .float .f64 0, .bool false]) := hd (by rw [hW2]; exact heap_alloc2_new _ _ _)
  generalize str (T.sec t) = S1 at *
  generalize str (FS.tell f) = S2 at *
  have a0 := HA.o.cell 0 (by simp)
  have a3 := HA.o.cell 3 (by simp)
  simp only [List.getElem_cons_succ, List.getElem_cons_zero] at a0 a3
  obtain ⟨c0, c1, c4, c5⟩ := HC.o W2 (HW.o.trans (HB2.o.mono HW.o.size))
  clear hJ hPw hPg hc hf hs hG hW h0 h1 a0 a3
  go_enter Tryz.func37, Tryz.ntmps37
  subst hW2
  go_wp2_with (first
    | (go_at_call 38; refine (HST.o _).mono ?_; rintro e w1 ⟨rfl, hb1⟩; have HB1 := hd (bel HB2.o hb1); have HA1 := hd (HA.o.below hb1); have HZ1 := hd (HB.o.below hb1); have b3 := HA1.o.cell 3 (by simp); simp only [List.getElem_cons_succ, List.getElem_cons_zero] at b3; obtain ⟨d0, d1, d4, d5⟩ := HC.o w1 (HW.o.trans (HB1.o.mono HW.o.size)); clear c0 c1 c4 c5 hb1)
    | (go_at_call 78; refine (HPR.o _).mono ?_; rintro e w2 ⟨rfl, hb2⟩; have HB3 := hd (bel HB1.o hb2); have HZ3 := hd (HZ1.o.below hb2); unfold psTup; have z0 := HZ3.o.cell 0 (by simp); have z1 := HZ3.o.cell 1 (by simp); have z2 := HZ3.o.cell 2 (by simp); simp only [List.getElem_cons_succ, List.getElem_cons_zero] at z0 z1 z2; have zf := HZ3.o.frozen; clear b3 d0 d1 d4 d5 hb2))
  have HR : Bk (((w2.setCell ⟨W.heap.size + 1, 0, none⟩ (.int .i64 t)).setCell ⟨W.heap.size + 1, 1, none⟩ (.float .f64 G)).setCell ⟨W.heap.size + 1, 2, none⟩ (.bool false)) (W.heap.size + 1) 77 [.int .i64 t, .float .f64 G, .bool false] := ((HZ3.o.set 0 _).set 1 _).set 2 _
  refine bodyPost_ret (RJ.res31 rfl _ rfl HR) rfl ?_
  exact ⟨⟨G, rfl, HG.o.2⟩, ((HB3.o.setCell (p := ⟨W.heap.size + 1, 0, none⟩) (Nat.le_succ _) _).setCell (p := ⟨W.heap.size + 1, 1, none⟩) (Nat.le_succ _) _).setCell (p := ⟨W.heap.size + 1, 2, none⟩) (Nat.le_succ _) _⟩
end Go.Proofs.YteckfdohgiddgaaGreatDoor
