/- UtfWrites: the law's walk over []string. -/
import Derived.Test.YthlpgnidjjclcaaURefUnj
import Derived.Test.YthlpgnidjjclcaaURefWr
import Derived.Test.YthlpgnidjjclcaaUStrs
import Derived.Test.YthlpgnidjjclcaaULawLits
namespace Go.Proofs.Ythlpgnidjjclcaa
open Go.RowKit
set_option linter.unusedVariables false
set_option linter.unusedSimpArgs false
theorem quote_any (s : ByteArray) (w : World) (hs : s.size ≤ 1048576) :
    Calls Try.prog 39 #[.string s] w fun e w' => e = strR (U.wrS U.wrQ s) ∧ Below w.heap.size w w' := by
  cases hv : U.valid s with
  | false => exact quote_no s w hs hv
  | true => exact quote_yes s w hs hv
theorem json_any (s : ByteArray) (w : World) (hs : s.size ≤ 1048576) :
    Calls Try.prog 37 #[.string s] w fun e w' => e = strR (U.wrS U.wrJ s) ∧ Below w.heap.size w w' := by
  cases hv : U.valid s with
  | false => exact json_no s w hs hv
  | true => exact json_yes s w hs hv
theorem k_wr : U.wrS U.wrQ ⟨#[97, 34]⟩ = ([34, 97, 92, 34, 34], 0) := by decide +kernel

set_option maxHeartbeats 800000 in
theorem writes_walk (l : List ByteArray) (b off c : Nat) (w : World)
    (hn : l.length ≤ 9223372036854775807)
    (hc : ∀ k (h : k < l.length), w.cell? ⟨b, off + k, none⟩ = some (.string (l[k]'h)) ∧ (l[k]'h).size ≤ 1048576) :
    Calls Try.prog 13 #[.slice (some ⟨b, off, none⟩) l.length c] w fun e w' => e = .returned (.bool true) ∧ Below w.heap.size w w' := by
  have N := hd k_wr
  have HC := hd hc
  clear hc
  go_enter Try.func13, Try.ntmps13
  go_wp2_with (go_at_call 39; refine (quote_any _ _ (by decide)).mono ?_; rintro e w1 ⟨rfl, hb1⟩; unfold strR; rw [N.o])
  have hb1 : Below w.heap.size w w1 := by assumption
  go_loopw [21] (fun x wr => ∃ k : Nat, k ≤ l.length ∧ x = .int .i64 k ∧ Below w.heap.size w wr) (fun x _ => l.length - (intOf x).toNat)
  case atStart => exact ⟨0, by omega, rfl, hb1⟩
  case round =>
    obtain ⟨k, hk, rfl, hbel⟩ := hrel
    by_cases hlt : k < l.length
    · obtain ⟨c0, hsz⟩ := HC.o k hlt
      have hbl : b < w.heap.size := World.block_lt_of_cell? w _ c0
      have d0 := (hbel.cell (p := ⟨b, off + k, none⟩) hbl).trans c0
      clear c0
      generalize hs : l[k]'hlt = s at *
      clear hs
      have HB0 := hd hbel
      go_wp2_with (first
        | (go_at_call 39; refine (quote_any s _ hsz).mono ?_; rintro e w2 ⟨rfl, hb2⟩; unfold strR; have HB2 := hd (bel HB0.o hb2))
        | (go_at_call 40; refine (refQuote_any s _ hsz).mono ?_; rintro e w3 ⟨rfl, hb3⟩; unfold strR; have HB3 := hd (bel HB2.o hb3))
        | (go_at_call 37; refine (json_any s _ hsz).mono ?_; rintro e w4 ⟨rfl, hb4⟩; unfold strR; have HB4 := hd (bel HB3.o hb4))
        | (go_at_call 41; refine (refJson_any s _ hsz).mono ?_; rintro e w5 ⟨rfl, hb5⟩; unfold strR; have HB5 := hd (bel HB4.o hb5))
        | (go_at_call 38; refine (unj_any s _ (by omega)).mono ?_; rintro e w6 ⟨rfl, hb6⟩; unfold strR; have HB6 := hd (bel HB5.o hb6))
        | (go_at_call 42; refine (refunj_any s _ (by omega)).mono ?_; rintro e w7 ⟨rfl, hb7⟩; unfold strR; have HB7 := hd (bel HB6.o hb7))
        | (go_at_call 25; refine (num_any _ _).mono ?_; rintro e w' ⟨rfl, rfl⟩))
      go_roundw
      case rel => exact ⟨k + 1, by omega, by go_num, HB7.o⟩
      case measure => simp [intOf]; omega
    · go_wp2
      go_ret
      exact ⟨rfl, hbel⟩

/-- the same over an empty list -/
theorem writes_walk0 (A : Option Addr) (c : Nat) (w : World) :
    Calls Try.prog 13 #[.slice A 0 c] w fun e w' => e = .returned (.bool true) ∧ Below w.heap.size w w' := by
  have N := hd k_wr
  go_enter Try.func13, Try.ntmps13
  go_wp2_with (go_at_call 39; refine (quote_any _ _ (by decide)).mono ?_; rintro e w1 ⟨rfl, hb1⟩; unfold strR; rw [N.o])
  refine wp_loop_rounds 1 ?_
  rw [rounds_succ]
  go_wp2
  go_ret
  exact ⟨rfl, by assumption⟩

theorem writes_all (W : World) (v : Value) (h : ∃ l, IsStrs W v l) :
    Calls Try.prog 13 #[v] W fun e W' => e = .returned (.bool true) ∧ Below W.heap.size W W' := by
  obtain ⟨l, A, c, rfl, hn, hc⟩ := h
  cases hz : l with
  | nil => exact writes_walk0 A c W
  | cons a r =>
    rw [← hz]
    have h0 : 0 < l.length := by rw [hz]; simp
    obtain ⟨b, off, rfl, _⟩ := hc 0 h0
    refine writes_walk l b off c W (by unfold maxLen at hn; omega) fun k hk => ?_
    obtain ⟨b', off', e, c0, hs⟩ := hc k hk
    simp only [Option.some.injEq, Addr.mk.injEq, and_true] at e
    obtain ⟨rfl, rfl⟩ := e
    exact ⟨c0, hs⟩
open Go.ChangeShapes Go.WideShapes Go.Deep in
theorem open_strsF {H : Type} {enc : TypeId × Value → H} {w : World} {base : Nat} {P : Program} {t e : TypeId} (ht : P.underlying t = some (.slice e)) (he : P.underlying e = some .string) (hce : P.cellsOf e = 1) {v : Value} {d : DataW H} {p : List MemPlace}
    (hv : Value.okWide P w .any base t v) (h : DataW.Trod enc P w 0 (fun _ => true) true t v d p) (hw : ∀ n ∈ d.weights P t, n ≤ reachBytes) : Rows.uptoBulk d ≤ 1048576 → ∃ l, IsStrs w v l :=
  fun hb => open_strs ht he hce hv h hb
theorem writes_law (W : World) {H : Type} (v : Value) (d : DataW H) (h : Rows.uptoBulk d ≤ 1048576 → ∃ l, IsStrs W v l) (hb : Rows.uptoBulk d ≤ 1048576) :
    Calls Try.prog 13 #[v] W fun e W' => e = .returned (.bool true) ∧ Below W.heap.size W W' := writes_all W v (h hb)
end Go.Proofs.Ythlpgnidjjclcaa
