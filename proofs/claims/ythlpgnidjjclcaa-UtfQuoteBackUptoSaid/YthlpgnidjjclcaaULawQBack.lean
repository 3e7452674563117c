/- UtfQuoteBack: the law's walk. -/
import Derived.Test.YthlpgnidjjclcaaURuneStr
import Derived.Test.YthlpgnidjjclcaaUQBMath
import Derived.Test.YthlpgnidjjclcaaUQuote
namespace Go.Proofs.Ythlpgnidjjclcaa
open Go.RowKit
set_option linter.unusedVariables false
set_option linter.unusedSimpArgs false
theorem quote_all (s : ByteArray) (w : World) (hs : s.size ≤ 8388608) :
    Calls Try.prog 39 #[.string s] w fun e w' => e = strR (U.wrS U.wrQ s) ∧ Below w.heap.size w w' := by
  cases hv : U.valid s with
  | false => exact quote_no s w hs hv
  | true => exact quote_yes s w hs hv
set_option maxHeartbeats 800000 in
theorem qback_walk (va : Value) (n : Nat) (xs : List Int) (a b : ByteArray) (w : World) (hx : IsL 1 w va n (ints32 xs)) (hn : n ≤ 1048576) (ha : a.size ≤ 1048576) (hb : b.size ≤ 1048576) :
    Calls Try.prog 12 #[va, .string a, .string b] w fun e w' => e = .returned (.bool true) ∧ Below w.heap.size w w' := by
  have hlx : xs.length = n := by have := hx.1; rw [ints32_len] at this; omega
  generalize hrs : ((97 :: xs : List Int).filter fun r => Utf8.valid r) = rs
  have hall : U.allRunes rs = true := by rw [← hrs]; exact U.allRunes_filter _
  have hlr : rs.length ≤ n + 1 := by
    rw [← hrs]
    refine Nat.le_trans (List.length_filter_le _ _) ?_
    simp; omega
  have HS := hd hrs
  have hT := U.encs_len rs hall
  have hsz : (⟨(U.encs rs).toArray⟩ : ByteArray).size ≤ 8388608 := by rw [U.mk_size]; omega
  have hne : 1 ≤ (U.encs rs).length := by
    rw [← hrs, List.filter_cons, if_pos (by decide), U.encs_cons, List.length_append]
    have : (Utf8.encode 97).toList.length = 1 := by decide +kernel
    omega
  have HQ : Hd (U.wrS U.wrQ ⟨(U.encs rs).toArray⟩ = (U.quo rs, 0)) := hd <| by
    unfold U.wrS; rw [if_pos (U.encs_valid rs hall)]; rfl
  have hql := U.quo_len rs
  have hfl := U.flat_len U.wrQ U.wrQ_len (U.encs rs)
  have hfg : 1 ≤ ((U.encs rs).flatMap U.wrQ).length := by
    cases hE : U.encs rs with
    | nil => rw [hE] at hne; simp at hne
    | cons c l =>
      rw [List.flatMap_cons, List.length_append]
      have : 1 ≤ (U.wrQ c).length := by
        have h1 : ∀ c : Nat, c < 256 → 1 ≤ (U.wrQ (UInt8.ofNat c)).length := by decide +kernel
        have := h1 c.toNat c.toNat_lt
        rwa [U.u8_of] at this
      omega
  have HB := hd (U.quo_bytes rs)
  have HF := hd (U.quo_first rs)
  have HL : Hd (U.literal ((a ++ (⟨(U.quo rs).toArray⟩ : ByteArray)) ++ b) (a.size : Int) = (((a.size + (U.quo rs).length : Nat) : Int), 0)) := hd <| by
    rw [app_three, Lib.size_eq a]; exact U.quo_literal rs _ _
  have HU := hd (U.quo_unquote rs hall)
  have hqz := U.mk_size (U.quo rs)
  have hbig : ((a ++ (⟨(U.quo rs).toArray⟩ : ByteArray)) ++ b).size ≤ 1125899906842624 := by rw [U.app_size, U.app_size]; omega
  have HBIG := hd hbig
  have HSZ := hd hsz
  clear hrs hall hbig hsz
  rw [← hqz] at HB HL hql
  generalize hQ : (⟨(U.quo rs).toArray⟩ : ByteArray) = q at *
  have hq3 : 3 ≤ q.size := by omega
  have hqm : q.size ≤ 140737488351232 := by omega
  have hq3' : decide ((q.size : Int) < 3) = false := by simp; omega
  clear hql hqz hfl hfg hne
  go_enter Try.func12, Try.ntmps12
  go_wp2_with (at_builtin; refine wpList_app_any _ 23 21 (.int .i32 0) 1 4 Try.underlying23 info_i32 rfl (by decide) rfl _ _ rfl w.heap.size (.slice (some ⟨w.heap.size, 0, none⟩) 1 1) 1 (ints32 [97]) rfl (World.ownsRow_lit w #[.int .i32 97] 1 (Nat.le_refl _) (by decide) rfl) va _ _ rfl (hx.below ((Below.refl _ _).alloc (Nat.le_refl _) _)) ?c1 ?c2 ?c3 ?c4 ?_)
  case c1 => exact ints32_one _
  case c2 => omega
  case c3 => omega
  case c4 => simp
  intro v1 w1 ho1 hg1
  have hb1 : Below w.heap.size w w1 := ((Below.refl _ _).alloc (Nat.le_refl _) _).grown hg1 (by simp) (fun k hk => by simp [Value.ownBlock] at hk; omega)
  rw [← ints32_app] at ho1
  have i1 := IsL.own ho1
  clear ho1 hg1
  have HQ0 : Hd (((q[0]'(by omega)).toNat : Int) = 34) := hd <| by rw [← U.at_eq q 0 (by omega), HF.o]; rfl
  have hq0 : (((q[0]'(by omega)).toNat : Int) != 34) = false := by rw [HQ0.o]; rfl
  have hi0 : (0 : Int) < (q.size : Int) := by omega
  go_wp2_with (first
    | (go_at_call 30; refine (right_any v1 (1 + n) _ _ i1 (by omega) (by omega)).mono ?_; rintro e w2 ⟨v2, rfl, ho2, hb2⟩; rw [show ([97] ++ xs : List Int) = 97 :: xs from rfl, HS.o] at ho2; have hcv := run_runes_of _ v2 _ rs (IsL.own ho2); have HB2 := hd (bel hb1 hb2); clear ho2 hb2)
    | (go_at_call 39; refine (quote_all _ _ HSZ.o).mono ?_; rintro e w3 ⟨rfl, hb3⟩; unfold strR; rw [HQ.o, hQ]; have HB3 := hd (bel HB2.o hb3); clear hb3))
  have hqk : ∀ k : Nat, k < q.size → True := fun _ _ => trivial
  go_loopw [10] (fun x wr => ∃ k : Nat, k ≤ q.size ∧ x = .int .i64 k ∧ Below w.heap.size w wr) (fun x _ => q.size - (intOf x).toNat)
  case atStart => exact ⟨0, Nat.zero_le _, rfl, HB3.o⟩
  case round =>
    obtain ⟨k, hk, rfl, hbw⟩ := hrel
    have HBw := hd hbw
    by_cases hlt : k < q.size
    · have e0 := U.at_eq q k hlt
      have hbk := HB.o k hlt
      have t1 : decide (((q[k]'hlt).toNat : Int) < 32) = false := by rw [← e0]; simp; omega
      have t2 : (((q[k]'hlt).toNat : Int) == 127) = false := by rw [← e0, beq_eq_false_iff_ne]; omega
      clear e0 hbk
      go_wp2
      go_roundw
      case rel => exact ⟨k + 1, by omega, by go_num, HBw.o⟩
      case measure => simp [intOf]; omega
    · go_wp2_with (first
        | (go_at_call 34; refine (unquote_any q _ (by omega)).mono ?_; rintro e w4 ⟨rfl, hb4⟩; unfold strR; rw [HU.o]; have HB4 := hd (bel HBw.o hb4); clear hb4)
        | (go_at_call 32; refine (lit_any _ _ _ HBIG.o).mono ?_; rintro e w' ⟨rfl, rfl⟩; rw [HL.o]))
      go_ret
      exact ⟨rfl, HB4.o⟩
theorem qback_law (W : World) {H : Type} (v : Value) (d : DataW H) (v1 : Value) (d1 : DataW H) (v2 : Value) (d2 : DataW H) (h : Rows.uptoBulk d ≤ 1048576 → ∃ l, IsInts .i32 W v l) (h1 : ∃ s, IsStr v1 d1 s) (h2 : ∃ s, IsStr v2 d2 s)
    (hb : Rows.uptoBulk d + (Rows.uptoBulk d1 + (Rows.uptoBulk d2 + 0)) ≤ 1048576) :
    Calls Try.prog 12 #[v, v1, v2] W fun e W' => e = .returned (.bool true) ∧ Below W.heap.size W W' := by
  obtain ⟨l, hl, hn, _⟩ := h (by omega)
  obtain ⟨a, rfl, rfl, _⟩ := h1
  obtain ⟨b, rfl, rfl, _⟩ := h2
  rw [bulk_str, bulk_str, ← Lib.size_eq, ← Lib.size_eq] at hb
  exact qback_walk v l.length l a b W hl hn (by omega) (by omega)
end Go.Proofs.Ythlpgnidjjclcaa
