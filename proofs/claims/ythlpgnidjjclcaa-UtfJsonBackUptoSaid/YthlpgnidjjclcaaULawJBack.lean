/- UtfJsonBack: the law's walk. -/
import Derived.Test.YthlpgnidjjclcaaURuneStr
import Derived.Test.YthlpgnidjjclcaaUJBMath
import Derived.Test.YthlpgnidjjclcaaUJson
import Derived.Test.YthlpgnidjjclcaaUUnj
namespace Go.Proofs.Ythlpgnidjjclcaa
open Go.RowKit
set_option linter.unusedVariables false
set_option linter.unusedSimpArgs false
theorem json_all (s : ByteArray) (w : World) (hs : s.size ≤ 8388608) :
    Calls Try.prog 37 #[.string s] w fun e w' => e = strR (U.wrS U.wrJ s) ∧ Below w.heap.size w w' := by
  cases hv : U.valid s with
  | false => exact json_no s w hs hv
  | true => exact json_yes s w hs hv
set_option maxHeartbeats 800000 in
theorem jback_walk (va : Value) (n : Nat) (xs : List Int) (w : World) (hx : IsL 1 w va n (ints32 xs)) (hn : n ≤ 1048576) :
    Calls Try.prog 11 #[va] w fun e w' => e = .returned (.bool true) ∧ Below w.heap.size w w' := by
  have hlx : xs.length = n := by have := hx.1; rw [ints32_len] at this; omega
  generalize hrs : ((97 :: xs : List Int).filter fun r => Utf8.valid r) = rs
  have hall : U.allRunes rs = true := by rw [← hrs]; exact U.allRunes_filter _
  have hlr : rs.length ≤ n + 1 := by
    rw [← hrs]
    refine Nat.le_trans (List.length_filter_le _ _) ?_
    simp; omega
  have HS := hd hrs
  have hT := U.encs_len rs hall
  have hsz : (⟨(U.encs rs).toArray⟩ : ByteArray).size ≤ 8388608 := by rw [U.mk_size]; omega
  have hne : 1 ≤ (U.encs rs).length := by
    rw [← hrs, List.filter_cons, if_pos (by decide), U.encs_cons, List.length_append]
    have : (Utf8.encode 97).toList.length = 1 := by decide +kernel
    omega
  have HQ : Hd (U.wrS U.wrJ ⟨(U.encs rs).toArray⟩ = (U.jso rs, 0)) := hd <| by
    unfold U.wrS; rw [if_pos (U.encs_valid rs hall)]; rfl
  have hql := U.jso_len rs
  have hfl := U.flat_len U.wrJ U.wrJ_len (U.encs rs)
  have hfg : 1 ≤ ((U.encs rs).flatMap U.wrJ).length := by
    cases hE : U.encs rs with
    | nil => rw [hE] at hne; simp at hne
    | cons c l =>
      rw [List.flatMap_cons, List.length_append]
      have : 1 ≤ (U.wrJ c).length := by
        have h1 : ∀ c : Nat, c < 256 → 1 ≤ (U.wrJ (UInt8.ofNat c)).length := by decide +kernel
        have := h1 c.toNat c.toNat_lt
        rwa [U.u8_of] at this
      omega
  have HF := hd (U.jso_first rs)
  have HG := U.jso_last rs
  have HU := hd (U.jso_unjson rs hall)
  have HP := hd (U.jso_step rs)
  have HO := hd (U.okJ_flat (U.encs rs))
  have hqz := U.mk_size (U.jso rs)
  have HSZ := hd hsz
  rw [← hqz] at hql HG
  clear hrs hall hsz
  generalize hM : (U.encs rs).flatMap U.wrJ = M at *
  generalize hQ : (⟨(U.jso rs).toArray⟩ : ByteArray) = q at *
  have hq3 : 3 ≤ q.size := by omega
  have hqm : q.size ≤ 1125899906842 := by omega
  have hq3' : decide ((q.size : Int) < 3) = false := by simp; omega
  have HQM := hd hql
  have HGG := hd HG
  clear hql hqz hfl hfg hne HG
  have HQ0 : Hd (((q[0]'(by omega)).toNat : Int) = 34) := hd <| by rw [← U.at_eq q 0 (by omega), HF.o]; rfl
  have hq0 : (((q[0]'(by omega)).toNat : Int) != 34) = false := by rw [HQ0.o]; rfl
  have HQ1 : Hd (((q[q.size - 1]'(by omega)).toNat : Int) = 34) := hd <| by rw [← U.at_eq q (q.size - 1) (by omega), HGG.o]; rfl
  have hq1 : (((q[q.size - 1]'(by omega)).toNat : Int) != 34) = false := by rw [HQ1.o]; rfl
  have hz : ((q.size : Int) - 1).toNat = q.size - 1 := by omega
  have hi0 : (0 : Int) < (q.size : Int) := by omega
  have hi1 : (0 : Int) ≤ (q.size : Int) - 1 := by omega
  go_enter Try.func11, Try.ntmps11
  go_wp2_with (at_builtin; refine wpList_app_any _ 23 21 (.int .i32 0) 1 4 Try.underlying23 info_i32 rfl (by decide) rfl _ _ rfl w.heap.size (.slice (some ⟨w.heap.size, 0, none⟩) 1 1) 1 (ints32 [97]) rfl (World.ownsRow_lit w #[.int .i32 97] 1 (Nat.le_refl _) (by decide) rfl) va _ _ rfl (hx.below ((Below.refl _ _).alloc (Nat.le_refl _) _)) ?c1 ?c2 ?c3 ?c4 ?_)
  case c1 => exact ints32_one _
  case c2 => omega
  case c3 => omega
  case c4 => simp
  intro v1 w1 ho1 hg1
  have hb1 : Below w.heap.size w w1 := ((Below.refl _ _).alloc (Nat.le_refl _) _).grown hg1 (by simp) (fun k hk => by simp [Value.ownBlock] at hk; omega)
  rw [← ints32_app] at ho1
  have i1 := IsL.own ho1
  clear ho1 hg1
  go_wp2_with (first
    | (go_at_call 30; refine (right_any v1 (1 + n) _ _ i1 (by omega) (by omega)).mono ?_; rintro e w2 ⟨v2, rfl, ho2, hb2⟩; rw [show ([97] ++ xs : List Int) = 97 :: xs from rfl, HS.o] at ho2; have hcv := run_runes_of _ v2 _ rs (IsL.own ho2); have HB2 := hd (bel hb1 hb2); clear ho2 hb2)
    | (go_at_call 37; refine (json_all _ _ HSZ.o).mono ?_; rintro e w3 ⟨rfl, hb3⟩; unfold strR; rw [HQ.o, hQ]; have HB3 := hd (bel HB2.o hb3); clear hb3))
  have hml : Hd (M.length + 2 = q.size) := hd (by have := HQM.o; omega)
  go_loopw [6] (fun x wr => ∃ p : Nat, p + 2 ≤ q.size ∧ x = .int .i64 ((p : Int) + 1) ∧ Below w.heap.size w wr ∧ Hd (U.okJ (M.drop p) = true)) (fun x _ => q.size - (intOf x).toNat)
  case atStart => exact ⟨0, by omega, by go_num, HB3.o, hd HO.o⟩
  case round =>
    obtain ⟨p, hp, rfl, hbw, hok⟩ := hrel
    have HBw := hd hbw
    by_cases hlt : p + 2 < q.size
    · have hpm : p < M.length := by have := hml.o; omega
      obtain ⟨g1, g2, g3, g4⟩ := HP.o p hpm hok.o
      have e0 := U.at_eq q (p + 1) (by omega)
      have hzz : ((p : Int) + 1).toNat = p + 1 := by omega
      have t1 : decide (((q[p + 1]'(by omega)).toNat : Int) < 32) = false := by rw [← e0]; simp; omega
      have t2 : (((q[p + 1]'(by omega)).toNat : Int) == 34) = false := by rw [← e0, beq_eq_false_iff_ne]; omega
      have hi2 : (0 : Int) ≤ (p : Int) + 1 := by omega
      have hi3 : (p : Int) + 1 < (q.size : Int) := by omega
      have hi4 : (p : Int) + 1 < (q.size : Int) - 1 := by omega
      by_cases h92 : U.at' q (p + 1) = 92
      · obtain ⟨k1, k2, k3⟩ := g4 h92
        have hpq : p + 3 < q.size := by have := hml.o; omega
        have t3 : (((q[p + 1]'(by omega)).toNat : Int) == 92) = true := by rw [← e0, h92]; rfl
        have e1 := U.at_eq q (p + 2) (by omega)
        have t4 : decide (((q[p + 2]'(by omega)).toNat : Int) < 32) = false := by rw [← e1]; simp; omega
        have hz2 : ((p : Int) + 2).toNat = p + 2 := by omega
        have hi5 : (0 : Int) ≤ (p : Int) + 2 := by omega
        have hi6 : (p : Int) + 2 < (q.size : Int) := by omega
        have hi7 : (p : Int) + 2 < (q.size : Int) - 1 := by omega
        have G := hd k3
        clear e0 e1 h92 g1 g2 g3 g4 k1 k2 k3 hok hpm
        go_wp2
        go_roundw
        case rel => exact ⟨p + 2, by omega, by go_num, HBw.o, G⟩
        case measure => simp [intOf]; omega
      · have t3 : (((q[p + 1]'(by omega)).toNat : Int) == 92) = false := by rw [← e0, beq_eq_false_iff_ne]; omega
        have G := hd (g3 h92)
        clear e0 h92 g1 g2 g3 g4 hok hpm
        go_wp2
        go_roundw
        case rel => exact ⟨p + 1, by omega, by go_num, HBw.o, G⟩
        case measure => simp [intOf]; omega
    · go_wp2_with (go_at_call 38; refine (unj_any q _ (by omega)).mono ?_; rintro e w4 ⟨rfl, hb4⟩; unfold strR; rw [HU.o]; have HB4 := hd (bel HBw.o hb4); clear hb4)
      go_ret
      exact ⟨rfl, HB4.o⟩
theorem jback_law (W : World) {H : Type} (v : Value) (d : DataW H) (h : Rows.uptoBulk d ≤ 1048576 → ∃ l, IsInts .i32 W v l) (hb : Rows.uptoBulk d + 0 ≤ 1048576) :
    Calls Try.prog 11 #[v] W fun e W' => e = .returned (.bool true) ∧ Below W.heap.size W W' := by
  obtain ⟨l, hl, hn, _⟩ := h hb
  exact jback_walk v l.length l W hl hn
end Go.Proofs.Ythlpgnidjjclcaa
