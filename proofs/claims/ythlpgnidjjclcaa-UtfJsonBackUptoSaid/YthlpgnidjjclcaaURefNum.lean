/- The walks of weirref01.digit, number, letter. -/
import Derived.Test.YthlpgnidjjclcaaUDigits
namespace Go.Proofs.Ythlpgnidjjclcaa
open Go.RowKit
set_option linter.unusedVariables false
set_option linter.unusedSimpArgs false
def U.numR : Option Nat → Int
  | some v => v
  | none => -1
theorem refdigit_any (c : Nat) (w : World) (h : c < 256) :
    Calls Try.prog 67 #[.int .u8 c] w fun e w' => e = .returned (.int .i64 (U.dig c)) ∧ w = w' := by
  by_cases h1 : 48 ≤ c ∧ c ≤ 57
  · have G : Hd (U.dig c = (c : Int) - 48) := hd <| by unfold U.dig; rw [if_pos h1]
    obtain ⟨a1, a2⟩ := h1
    go_enter Try.func67, Try.ntmps67
    go_wp2
    go_ret
    exact ⟨ret_int G.o.symm, rfl⟩
  by_cases h2 : 97 ≤ c ∧ c ≤ 102
  · have G : Hd (U.dig c = (c : Int) - 97 + 10) := hd <| by unfold U.dig; rw [if_neg h1, if_pos h2]; omega
    obtain ⟨a1, a2⟩ := h2
    go_enter Try.func67, Try.ntmps67
    go_wp2
    go_ret
    exact ⟨ret_int G.o.symm, rfl⟩
  by_cases h3 : 65 ≤ c ∧ c ≤ 70
  · have G : Hd (U.dig c = (c : Int) - 65 + 10) := hd <| by unfold U.dig; rw [if_neg h1, if_neg h2, if_pos h3]; omega
    obtain ⟨a1, a2⟩ := h3
    go_enter Try.func67, Try.ntmps67
    go_wp2
    go_ret
    exact ⟨ret_int G.o.symm, rfl⟩
  · have G : Hd (U.dig c = -1) := hd <| by unfold U.dig; rw [if_neg h1, if_neg h2, if_neg h3]
    go_enter Try.func67, Try.ntmps67
    go_wp2
    all_goals first | (exfalso; omega) | (go_ret; exact ⟨ret_int G.o.symm, rfl⟩)


theorem number8 (s : ByteArray) (i k e : Nat) (zi zk ze : Int) (hzi : zi = i) (hzk : zk = k) (hze : ze = e) (w : World) (hs : s.size ≤ 1125899906842624) (hk : k ≤ 8) (hk1 : 1 ≤ k) (he : e ≤ s.size) (hi : i ≤ 1125899906842624) :
    Calls Try.prog 64 #[.string s, .int .i64 zi, .int .i64 zk, .int .i64 8, .int .i64 ze] w fun en w' => en = .returned (.int .i64 (U.numR (U.numL 8 k ((s.data.toList.take e).drop i)))) ∧ w = w' := by
  subst hzi hzk hze
  have hlen : ((s.data.toList.take e).drop i).length = e - i := by rw [List.length_drop, List.length_take, ← Lib.size_eq]; omega
  by_cases hl : e < i + k
  · have G : Hd (U.numR (U.numL 8 k ((s.data.toList.take e).drop i)) = -1) := hd <| by unfold U.numL; rw [if_pos (by omega)]; rfl
    clear hlen
    go_enter Try.func64, Try.ntmps64
    go_wp2
    go_ret
    exact ⟨ret_int G.o.symm, rfl⟩
  have hdt : decide ((e : Int) < (i : Int) + (k : Int)) = false := by rw [decide_eq_false_iff_not]; omega
  have hle : i + k ≤ e := by omega
  have G0 : Hd (U.numL 8 k ((s.data.toList.take e).drop i) = U.numF 8 ((s.data.toList.drop i).take k) 0) := hd <| by
    unfold U.numL; rw [if_neg (by omega)]
    congr 1
    rw [List.drop_take, List.take_take, Nat.min_eq_left (by omega)]
  have hpk : (8 : Nat) ^ k ≤ 8 ^ 8 := Nat.pow_le_pow_right (by omega) hk
  have HPK := hd hpk
  have hzl : ((s.data.toList.drop i).take k).length = k := by rw [List.length_take, List.length_drop, ← Lib.size_eq]; omega
  have HL := hd hzl
  clear hlen hl hpk hzl
  go_enter Try.func64, Try.ntmps64
  go_wp2
  go_loop [11, 12] (fun x y => ∃ j v : Nat, j ≤ k ∧ y = .int .i64 j ∧ x = .int .i64 v ∧ Hd (v + 1 ≤ 8 ^ j) ∧ v ≤ 4294967296 ∧ Hd (U.numF 8 (((s.data.toList.drop i).take k).drop j) v = U.numF 8 ((s.data.toList.drop i).take k) 0)) (fun _ y => k - (intOf y).toNat)
  case atStart => exact ⟨0, 0, Nat.zero_le _, rfl, rfl, hd (by decide), by omega, hd rfl⟩
  case round =>
    obtain ⟨j, v, hj, rfl, rfl, hvp, hvb, hr⟩ := hrel
    by_cases hlt : j < k
    · have hat := U.at_eq s (i + j) (by omega)
      obtain ⟨hk', hlat⟩ := list_at s (i + j) (by omega)
      have hdr : ((s.data.toList.drop i).take k).drop j = s.data.toList[i + j]'hk' :: ((s.data.toList.drop i).take k).drop (j + 1) := by
        rw [List.drop_eq_getElem_cons (by rw [HL.o]; exact hlt)]
        simp
      have hcb := U.at_lt s (i + j)
      have hdb := U.dig_bd (U.at' s (i + j))
      have heq : ((s[i + j]'(by omega)).toNat : Int) = (U.at' s (i + j) : Int) := by rw [hat]
      have hr' := hr.o
      rw [hdr] at hr'
      have hb1 : v * 8 + (U.dig (U.at' s (i + j))).toNat + 1 ≤ 8 ^ (j + 1) ∨ ¬ (0 ≤ U.dig (U.at' s (i + j)) ∧ U.dig (U.at' s (i + j)) < 8) := by
        by_cases hc : 0 ≤ U.dig (U.at' s (i + j)) ∧ U.dig (U.at' s (i + j)) < 8
        · left
          have := hvp.o
          rw [Nat.pow_succ]
          have h2 := Nat.mul_le_mul_right 8 this
          rw [Nat.add_mul] at h2
          omega
        · exact .inr hc
      have hpj : (8 : Nat) ^ (j + 1) ≤ 8 ^ k := Nat.pow_le_pow_right (by omega) (by omega)
      have HB1 := hd hb1
      have HPJ := hd hpj
      have HR := hd hr'
      have HLAT := hd hlat
      clear hat hdr hr hr' hb1 hpj hlat
      by_cases h1 : 0 ≤ U.dig (U.at' s (i + j)) ∧ U.dig (U.at' s (i + j)) < 8
      · have G : Hd (U.numF 8 (((s.data.toList.drop i).take k).drop (j + 1)) (v * 8 + (U.dig (U.at' s (i + j))).toNat) = U.numF 8 ((s.data.toList.drop i).take k) 0) := hd <| by
          rw [← HR.o, U.numF, HLAT.o, if_pos ⟨h1.1, by simpa using h1.2⟩]
        have hp1 : v * 8 + (U.dig (U.at' s (i + j))).toNat + 1 ≤ 8 ^ (j + 1) := by
          rcases HB1.o with h | h
          · exact h
          · exact absurd h1 h
        have hle8 : v * 8 + (U.dig (U.at' s (i + j))).toNat ≤ 4294967296 := by
          have := Nat.le_trans hp1 (Nat.le_trans HPJ.o HPK.o)
          have h8 : (8 : Nat) ^ 8 ≤ 4294967296 := by decide
          omega
        have HP1 := hd hp1
        obtain ⟨d1, d2⟩ := h1
        clear hp1 HB1 HPJ HR HLAT
        go_wp2_with (go_at_call 67; refine (refdigit_any _ _ (by omega)).mono ?_; rintro e w' ⟨rfl, rfl⟩)
        go_round
        case rel => exact ⟨j + 1, v * 8 + (U.dig (U.at' s (i + j))).toNat, by omega, by go_num, by rw [show (((v * 8 + (U.dig (U.at' s (i + j))).toNat : Nat) : Int)) = (v : Int) * 8 + U.dig (U.at' s (i + j)) by omega], HP1, hle8, G⟩
        case measure => simp [intOf]; omega
      · have G : Hd (U.numR (U.numL 8 k ((s.data.toList.take e).drop i)) = -1) := hd <| by
          rw [G0.o, ← HR.o, U.numF, HLAT.o, if_neg (by intro h; exact h1 ⟨h.1, by simpa using h.2⟩)]; rfl
        clear HB1 HPJ HR HLAT
        by_cases d1 : 0 ≤ U.dig (U.at' s (i + j))
        · have d2 : ¬ U.dig (U.at' s (i + j)) < 8 := fun h => h1 ⟨d1, h⟩
          clear h1
          go_wp2_with (go_at_call 67; refine (refdigit_any _ _ (by omega)).mono ?_; rintro e w' ⟨rfl, rfl⟩)
          go_ret
          exact ⟨ret_int G.o.symm, rfl⟩
        · clear h1
          go_wp2_with (go_at_call 67; refine (refdigit_any _ _ (by omega)).mono ?_; rintro e w' ⟨rfl, rfl⟩)
          go_ret
          exact ⟨ret_int G.o.symm, rfl⟩
    · have G : Hd (U.numR (U.numL 8 k ((s.data.toList.take e).drop i)) = v) := hd <| by
        rw [G0.o, ← hr.o, List.drop_of_length_le (by rw [HL.o]; omega), U.numF]; rfl
      go_wp2
      go_ret
      exact ⟨ret_int G.o.symm, rfl⟩

theorem number16 (s : ByteArray) (i k e : Nat) (zi zk ze : Int) (hzi : zi = i) (hzk : zk = k) (hze : ze = e) (w : World) (hs : s.size ≤ 1125899906842624) (hk : k ≤ 8) (hk1 : 1 ≤ k) (he : e ≤ s.size) (hi : i ≤ 1125899906842624) :
    Calls Try.prog 64 #[.string s, .int .i64 zi, .int .i64 zk, .int .i64 16, .int .i64 ze] w fun en w' => en = .returned (.int .i64 (U.numR (U.numL 16 k ((s.data.toList.take e).drop i)))) ∧ w = w' := by
  subst hzi hzk hze
  have hlen : ((s.data.toList.take e).drop i).length = e - i := by rw [List.length_drop, List.length_take, ← Lib.size_eq]; omega
  by_cases hl : e < i + k
  · have G : Hd (U.numR (U.numL 16 k ((s.data.toList.take e).drop i)) = -1) := hd <| by unfold U.numL; rw [if_pos (by omega)]; rfl
    clear hlen
    go_enter Try.func64, Try.ntmps64
    go_wp2
    go_ret
    exact ⟨ret_int G.o.symm, rfl⟩
  have hdt : decide ((e : Int) < (i : Int) + (k : Int)) = false := by rw [decide_eq_false_iff_not]; omega
  have hle : i + k ≤ e := by omega
  have G0 : Hd (U.numL 16 k ((s.data.toList.take e).drop i) = U.numF 16 ((s.data.toList.drop i).take k) 0) := hd <| by
    unfold U.numL; rw [if_neg (by omega)]
    congr 1
    rw [List.drop_take, List.take_take, Nat.min_eq_left (by omega)]
  have hpk : (16 : Nat) ^ k ≤ 16 ^ 8 := Nat.pow_le_pow_right (by omega) hk
  have HPK := hd hpk
  have hzl : ((s.data.toList.drop i).take k).length = k := by rw [List.length_take, List.length_drop, ← Lib.size_eq]; omega
  have HL := hd hzl
  clear hlen hl hpk hzl
  go_enter Try.func64, Try.ntmps64
  go_wp2
  go_loop [11, 12] (fun x y => ∃ j v : Nat, j ≤ k ∧ y = .int .i64 j ∧ x = .int .i64 v ∧ Hd (v + 1 ≤ 16 ^ j) ∧ v ≤ 4294967296 ∧ Hd (U.numF 16 (((s.data.toList.drop i).take k).drop j) v = U.numF 16 ((s.data.toList.drop i).take k) 0)) (fun _ y => k - (intOf y).toNat)
  case atStart => exact ⟨0, 0, Nat.zero_le _, rfl, rfl, hd (by decide), by omega, hd rfl⟩
  case round =>
    obtain ⟨j, v, hj, rfl, rfl, hvp, hvb, hr⟩ := hrel
    by_cases hlt : j < k
    · have hat := U.at_eq s (i + j) (by omega)
      obtain ⟨hk', hlat⟩ := list_at s (i + j) (by omega)
      have hdr : ((s.data.toList.drop i).take k).drop j = s.data.toList[i + j]'hk' :: ((s.data.toList.drop i).take k).drop (j + 1) := by
        rw [List.drop_eq_getElem_cons (by rw [HL.o]; exact hlt)]
        simp
      have hcb := U.at_lt s (i + j)
      have hdb := U.dig_bd (U.at' s (i + j))
      have heq : ((s[i + j]'(by omega)).toNat : Int) = (U.at' s (i + j) : Int) := by rw [hat]
      have hr' := hr.o
      rw [hdr] at hr'
      have hb1 : v * 16 + (U.dig (U.at' s (i + j))).toNat + 1 ≤ 16 ^ (j + 1) ∨ ¬ (0 ≤ U.dig (U.at' s (i + j)) ∧ U.dig (U.at' s (i + j)) < 16) := by
        by_cases hc : 0 ≤ U.dig (U.at' s (i + j)) ∧ U.dig (U.at' s (i + j)) < 16
        · left
          have := hvp.o
          rw [Nat.pow_succ]
          have h2 := Nat.mul_le_mul_right 16 this
          rw [Nat.add_mul] at h2
          omega
        · exact .inr hc
      have hpj : (16 : Nat) ^ (j + 1) ≤ 16 ^ k := Nat.pow_le_pow_right (by omega) (by omega)
      have HB1 := hd hb1
      have HPJ := hd hpj
      have HR := hd hr'
      have HLAT := hd hlat
      clear hat hdr hr hr' hb1 hpj hlat
      by_cases h1 : 0 ≤ U.dig (U.at' s (i + j)) ∧ U.dig (U.at' s (i + j)) < 16
      · have G : Hd (U.numF 16 (((s.data.toList.drop i).take k).drop (j + 1)) (v * 16 + (U.dig (U.at' s (i + j))).toNat) = U.numF 16 ((s.data.toList.drop i).take k) 0) := hd <| by
          rw [← HR.o, U.numF, HLAT.o, if_pos ⟨h1.1, by simpa using h1.2⟩]
        have hp1 : v * 16 + (U.dig (U.at' s (i + j))).toNat + 1 ≤ 16 ^ (j + 1) := by
          rcases HB1.o with h | h
          · exact h
          · exact absurd h1 h
        have hle8 : v * 16 + (U.dig (U.at' s (i + j))).toNat ≤ 4294967296 := by
          have := Nat.le_trans hp1 (Nat.le_trans HPJ.o HPK.o)
          have h8 : (16 : Nat) ^ 8 ≤ 4294967296 := by decide
          omega
        have HP1 := hd hp1
        obtain ⟨d1, d2⟩ := h1
        clear hp1 HB1 HPJ HR HLAT
        go_wp2_with (go_at_call 67; refine (refdigit_any _ _ (by omega)).mono ?_; rintro e w' ⟨rfl, rfl⟩)
        go_round
        case rel => exact ⟨j + 1, v * 16 + (U.dig (U.at' s (i + j))).toNat, by omega, by go_num, by rw [show (((v * 16 + (U.dig (U.at' s (i + j))).toNat : Nat) : Int)) = (v : Int) * 16 + U.dig (U.at' s (i + j)) by omega], HP1, hle8, G⟩
        case measure => simp [intOf]; omega
      · have G : Hd (U.numR (U.numL 16 k ((s.data.toList.take e).drop i)) = -1) := hd <| by
          rw [G0.o, ← HR.o, U.numF, HLAT.o, if_neg (by intro h; exact h1 ⟨h.1, by simpa using h.2⟩)]; rfl
        clear HB1 HPJ HR HLAT
        by_cases d1 : 0 ≤ U.dig (U.at' s (i + j))
        · exact absurd ⟨d1, by omega⟩ h1
        · clear h1
          go_wp2_with (go_at_call 67; refine (refdigit_any _ _ (by omega)).mono ?_; rintro e w' ⟨rfl, rfl⟩)
          go_ret
          exact ⟨ret_int G.o.symm, rfl⟩
    · have G : Hd (U.numR (U.numL 16 k ((s.data.toList.take e).drop i)) = v) := hd <| by
        rw [G0.o, ← hr.o, List.drop_of_length_le (by rw [HL.o]; omega), U.numF]; rfl
      go_wp2
      go_ret
      exact ⟨ret_int G.o.symm, rfl⟩

/-- the byte behind the first place (of two) that holds c -/
def U.pairL : List UInt8 → Nat → Option Nat
  | a :: b :: r, c => if a.toNat = c then some b.toNat else U.pairL r c
  | _, _ => none
theorem U.pairL_lt : ∀ (l : List UInt8) (c v : Nat), U.pairL l c = some v → v < 256
  | a :: b :: r, c, v, h => by
    rw [U.pairL] at h
    split at h
    · cases h; exact b.toNat_lt
    · exact U.pairL_lt r c v h
  | [a], c, v, h => by simp [U.pairL] at h
  | [], c, v, h => by simp [U.pairL] at h

theorem drop_cons' (t : ByteArray) (p : Nat) (h : p < t.size) : ∃ c : UInt8, c.toNat = U.at' t p ∧ t.data.toList.drop p = c :: t.data.toList.drop (p + 1) := by
  obtain ⟨h', e⟩ := list_at t p h
  exact ⟨_, e, List.drop_eq_getElem_cons h'⟩

theorem letter_any (c : Nat) (z : Int) (hz : z = c) (s : ByteArray) (w : World) (hs : s.size ≤ 1125899906842624) (hc : c < 256) :
    Calls Try.prog 63 #[.int .u8 z, .string s] w fun e w' => e = .returned (.int .i64 (U.numR (U.pairL s.data.toList c))) ∧ w = w' := by
  subst hz
  go_enter Try.func63, Try.ntmps63
  go_wp2
  go_loop [5] (fun x => ∃ p : Nat, p ≤ s.size + 1 ∧ x = .int .i64 p ∧ Hd (U.pairL (s.data.toList.drop p) c = U.pairL s.data.toList c)) (fun x => s.size + 1 - (intOf x).toNat)
  case atStart => exact ⟨0, by omega, rfl, hd rfl⟩
  case round =>
    obtain ⟨p, hp, rfl, hr⟩ := hrel
    by_cases hlt : p + 1 < s.size
    · obtain ⟨x, hx, hdx⟩ := drop_cons' s p (by omega)
      obtain ⟨y, hy, hdy⟩ := drop_cons' s (p + 1) hlt
      have e0 := U.at_eq s p (by omega)
      have e1 := U.at_eq s (p + 1) hlt
      have h1 : ((s[p]'(by omega)).toNat : Int) = (U.at' s p : Int) := by rw [e0]
      have h2 : ((s[p + 1]'hlt).toNat : Int) = (U.at' s (p + 1) : Int) := by rw [e1]
      have hlt1 := U.at_lt s (p + 1)
      have hr' := hr.o
      rw [hdx, hdy, U.pairL, hx, hy] at hr'
      have HR := hd hr'
      clear hdx hdy hr' hr hx hy e0 e1
      by_cases hq : U.at' s p = c
      · have hb : ((U.at' s p : Int) == (c : Int)) = true := by rw [hq]; simp
        have G : Hd (U.numR (U.pairL s.data.toList c) = U.at' s (p + 1)) := hd <| by rw [← HR.o, if_pos hq]; rfl
        clear hq HR
        go_wp2
        go_ret
        exact ⟨ret_int G.o.symm, rfl⟩
      · have hb : ((U.at' s p : Int) == (c : Int)) = false := by rw [beq_eq_false_iff_ne]; omega
        have G : Hd (U.pairL (s.data.toList.drop (p + 2)) c = U.pairL s.data.toList c) := hd <| by rw [← HR.o, if_neg hq]
        clear hq HR
        go_wp2
        go_round
        case rel => exact ⟨p + 2, by omega, by go_num, G⟩
        case measure => simp [intOf]; omega
    · have G : Hd (U.numR (U.pairL s.data.toList c) = -1) := hd <| by
        rw [← hr.o]
        have hl : (s.data.toList.drop p).length ≤ 1 := by rw [List.length_drop, ← Lib.size_eq]; omega
        match hm : s.data.toList.drop p, hl with
        | [], _ => rfl
        | [a], _ => rfl
      go_wp2
      go_ret
      exact ⟨ret_int G.o.symm, rfl⟩
end Go.Proofs.Ythlpgnidjjclcaa
