/- UtfRunes: the law's walk. -/
import Derived.Test.YthlpgnidjjclcaaUTexts1
import Derived.Test.YthlpgnidjjclcaaUApart
import Derived.Test.YthlpgnidjjclcaaULists
import Derived.Test.YthlpgnidjjclcaaUStrs
namespace Go.Proofs.Ythlpgnidjjclcaa
open Go.RowKit
set_option linter.unusedVariables false
set_option linter.unusedSimpArgs false
theorem U.runesFrom_len (s : ByteArray) : ∀ n p, s.size - p = n → (U.runesFrom s p).length ≤ n := by
  intro n
  induction n using Nat.strongRecOn with
  | ind n ih =>
    intro p hp
    by_cases h : p < s.size
    · cases hb : U.bad s p with
      | true => rw [U.runes_bad s p hb]; simp
      | false =>
        have hd := U.dec_pos s p
        rw [U.runes_step s p h hb, List.length_cons]
        have := ih (s.size - (p + (Utf8.decode s p).2)) (by omega) _ rfl
        omega
    · rw [U.runes_end s p h]; simp
theorem U.runesE_len (s : ByteArray) : (U.runesE s).1.length ≤ s.size := by
  unfold U.runesE
  split
  · exact U.runesFrom_len s s.size 0 rfl
  · simp
theorem Lin.pushR {w w' : World} {B : Nat} {e : TypeId} {size k : Nat} {h : Nat → Value} {c : Nat → Nat} {Z : Nat → List Value} (L : Lin w B e size k h c Z) {T : Value} {c1 : Nat} {Z1 : List Value}
    (ho : w'.ownsRow w.heap.size e size T c1 Z1) (hb : Below w.heap.size w w') (hB : B ≤ w.heap.size) : Lin w' B e size (k + 1) (upd h k T) (upd c k c1) (upd Z k Z1) :=
  L.push (own_mono ho hB) hb (fun g hg => (ho.lt g hg).1)
theorem wf32 {r : Int} (h : (Lit.int .i32 r).wf = true) : -2147483648 ≤ r ∧ r ≤ 2147483647 := by
  simp only [Lit.wf, IntKind.min, IntKind.max, IntKind.signed, IntKind.bits, Bool.and_eq_true, decide_eq_true_eq, if_true] at h
  omega
theorem k_text : U.text [97, 233] = ([97, 195, 169], 0) := by decide +kernel
set_option maxRecDepth 100000 in
set_option maxHeartbeats 2000000 in
theorem runes_walk (va vb : Value) (l : List ByteArray) (m : List (List Int)) (w : World) (hl : IsStrs w va l) (hm : IsLists .i32 w vb m) :
    Calls Try.prog 5 #[va, vb] w fun e w' => e = .returned (.bool true) ∧ Below w.heap.size w w' := by
  obtain ⟨A, c, rfl, hn, hc⟩ := hl
  obtain ⟨A2, c2, rfl, hn2, hc2⟩ := hm
  have N := hd k_text
  have HC := hd hc
  have HC2 := hd hc2
  unfold maxLen at hn
  clear hc hc2
  go_enter Try.func5, Try.ntmps5
  go_wp2_with (go_at_call 22; refine (text_any _ 2 [97, 233] _ (IsL.own (World.ownsRow_lit (base := w.heap.size) w #[.int .i32 97, .int .i32 233] 2 (Nat.le_refl _) (by decide) rfl)) (by decide)).mono ?_; rintro e w1 ⟨rfl, hb1⟩; unfold strR; rw [N.o]; have HB1 := hd (((Below.refl w.heap.size w).alloc (Nat.le_refl _) _).trans (hb1.mono (by simp))); clear hb1)
  go_loopw [36] (fun x wr => ∃ k : Nat, k ≤ l.length ∧ x = .int .i64 k ∧ Hd (Below w.heap.size w wr)) (fun x _ => l.length - (intOf x).toNat)
  case atStart => exact ⟨0, by omega, rfl, HB1⟩
  case round =>
    clear HB1
    obtain ⟨k, hk, rfl, HB0⟩ := hrel
    by_cases hlt : k < l.length
    · obtain ⟨b, off, rfl, c0, hsz⟩ := HC.o k hlt
      have hbl : b < w.heap.size := World.block_lt_of_cell? w _ c0
      have d0 := (HB0.o.cell (p := ⟨b, off + k, none⟩) hbl).trans c0
      clear c0
      generalize l[k]'hlt = s at *
      obtain ⟨s2, hs2⟩ : ∃ s2 : ByteArray, s2 = (⟨#[120]⟩ : ByteArray) ++ s := ⟨_, rfl⟩
      have hsz2 : s2.size ≤ 1048577 := by rw [hs2, U.app_size]; have : (⟨#[120]⟩ : ByteArray).size = 1 := rfl; omega
      have HS2 := hd hs2
      have HZ := hd (U.runesE_len s)
      have HZ2 := hd (U.runesE_len s2)
      obtain ⟨R, hR⟩ : ∃ R, R = U.runesE s := ⟨_, rfl⟩
      obtain ⟨R2, hR2⟩ : ∃ R2, R2 = U.runesE s2 := ⟨_, rfl⟩
      rw [← hR] at HZ
      rw [← hR2] at HZ2
      have HR := hd hR
      have HR2 := hd hR2
      have HSZ := hd hsz
      have HSZ2 := hd hsz2
      clear hs2 hR hR2
      go_wp2_with fail
      refine (refRunes_all s _ (by have := HSZ.o; omega)).mono ?_
      rintro e w1 ⟨v1, rfl, ho1, hb1⟩
      rw [← HR.o] at ho1 ⊢
      have HI1 := hd (IsL.own ho1)
      have HB1 := hd (bel HB0.o hb1)
      have L0 : Hd (Lin w1 w.heap.size 21 1 0 (fun _ => .slice none 0 0) (fun _ => 0) (fun _ => [])) := hd ⟨fun i hi => by omega, fun i j hi => by omega⟩
      clear ho1 hb1
      go_wp2_with fail
      refine (runes_all s _ (by have := HSZ.o; omega)).mono ?_
      rintro e w2 ⟨v2, rfl, ho2, hb2⟩
      rw [← HR.o] at ho2 ⊢
      obtain ⟨p2, d2, rfl⟩ := own_shape ho2
      have L1 := hd (L0.o.pushR ho2 hb2 HB1.o.size)
      have HI2 := hd (IsL.own ho2)
      have HB2 := hd (bel HB1.o hb2)
      have HI12 := hd (HI1.o.below hb2)
      clear ho2 hb2 HI1 L0
      go_wp2_with fail
      refine (runes_all s _ (by have := HSZ.o; omega)).mono ?_
      rintro e w3 ⟨v3, rfl, ho3, hb3⟩
      rw [← HR.o] at ho3 ⊢
      obtain ⟨p3, d3, rfl⟩ := own_shape ho3
      have L2 := hd (L1.o.pushR ho3 hb3 HB2.o.size)
      have HB3 := hd (bel HB2.o hb3)
      have HI13 := hd (HI12.o.below hb3)
      clear ho3 hb3 HI12 L1
      go_wp2_with fail
      rw [← HS2.o]
      refine (runes_all s2 _ (by have := HSZ2.o; omega)).mono ?_
      rintro e w4 ⟨v4, rfl, ho4, hb4⟩
      rw [← HR2.o] at ho4 ⊢
      obtain ⟨p4, d4, rfl⟩ := own_shape ho4
      have L3 := hd (L2.o.pushR ho4 hb4 HB3.o.size)
      have HB4 := hd (bel HB3.o hb4)
      have HI14 := hd (HI13.o.below hb4)
      clear ho4 hb4 HI13 L2
      go_wp2_with fail
      refine (runes_all s _ (by have := HSZ.o; omega)).mono ?_
      rintro e w5 ⟨v5, rfl, ho5, hb5⟩
      rw [← HR.o] at ho5 ⊢
      obtain ⟨p5, d5, rfl⟩ := own_shape ho5
      have L4 := hd (L3.o.pushR ho5 hb5 HB4.o.size)
      have HB5 := hd (bel HB4.o hb5)
      have HI15 := hd (HI14.o.below hb5)
      clear ho5 hb5 HI14 L3
      go_wp2_with fail
      rw [← HS2.o]
      refine (refRunes_all s2 _ (by have := HSZ2.o; omega)).mono ?_
      rintro e w6 ⟨v6, rfl, ho6, hb6⟩
      rw [← HR2.o] at ho6 ⊢
      have L6 := hd (L4.o.below hb6)
      have HB6 := hd (bel HB5.o hb6)
      have HI16 := hd (HI15.o.below hb6)
      have HI6 := hd (IsL.own ho6)
      clear ho6 hb6 HI15 L4
      have i2 : Hd (IsL 1 w6 (.slice p2 R.1.length d2) R.1.length (ints32 (R.1.map fun (n : Nat) => (n : Int)))) := hd <| by rw [← cellsR_map]; exact IsL.own (L6.o.own 0 (by omega))
      have i3 : Hd (IsL 1 w6 (.slice p3 R.1.length d3) R.1.length (ints32 (R.1.map fun (n : Nat) => (n : Int)))) := hd <| by rw [← cellsR_map]; exact IsL.own (L6.o.own 1 (by omega))
      have i4 : Hd (IsL 1 w6 (.slice p4 R2.1.length d4) R2.1.length (ints32 (R2.1.map fun (n : Nat) => (n : Int)))) := hd <| by rw [← cellsR_map]; exact IsL.own (L6.o.own 2 (by omega))
      have i5 : Hd (IsL 1 w6 (.slice p5 R.1.length d5) R.1.length (ints32 (R.1.map fun (n : Nat) => (n : Int)))) := hd <| by rw [← cellsR_map]; exact IsL.own (L6.o.own 3 (by omega))
      have i1 : Hd (IsL 1 w6 v1 R.1.length (ints32 (R.1.map fun (n : Nat) => (n : Int)))) := hd <| by rw [← cellsR_map]; exact HI16.o
      have i6 : Hd (IsL 1 w6 v6 R2.1.length (ints32 (R2.1.map fun (n : Nat) => (n : Int)))) := hd <| by rw [← cellsR_map]; exact HI6.o
      obtain ⟨xs, hxs⟩ : ∃ xs, xs = R.1.map fun (n : Nat) => (n : Int) := ⟨_, rfl⟩
      obtain ⟨ys, hys⟩ : ∃ ys, ys = R2.1.map fun (n : Nat) => (n : Int) := ⟨_, rfl⟩
      rw [← hxs] at i1 i2 i3 i5
      rw [← hys] at i4 i6
      have hxx : (xs == xs) = true := by simp
      have hyy : (ys == ys) = true := by simp
      clear hxs hys HI16 HI6 HI2
      go_wp2_with (go_at_call 25; refine (num_self _ _).mono ?_; rintro e w' ⟨rfl, rfl⟩)
      refine (same_any _ v1 _ _ xs xs _ i2.o i1.o (by have := HZ.o; have := HSZ.o; omega)).mono ?_
      rintro e w7 ⟨rfl, hb7⟩
      rw [hxx]
      have HB7 := hd (bel HB6.o hb7)
      have HC7 := hd hb7
      clear hb7
      go_wp2_with fail
      refine (same_any _ v1 _ _ xs xs _ (i3.o.below HC7.o) (i1.o.below HC7.o) (by have := HZ.o; have := HSZ.o; omega)).mono ?_
      rintro e w8 ⟨rfl, hb8⟩
      rw [hxx]
      have HB8 := hd (bel HB7.o hb8)
      have HC8 := hd (bel HC7.o hb8)
      clear hb8 HC7
      go_wp2_with fail
      refine (same_any _ v6 _ _ ys ys _ (i4.o.below HC8.o) (i6.o.below HC8.o) (by have := HZ2.o; have := HSZ2.o; omega)).mono ?_
      rintro e w9 ⟨rfl, hb9⟩
      rw [hyy]
      have HB9 := hd (bel HB8.o hb9)
      have HC9 := hd (bel HC8.o hb9)
      clear hb9 HC8
      go_wp2_with fail
      refine (same_any _ v1 _ _ xs xs _ (i5.o.below HC9.o) (i1.o.below HC9.o) (by have := HZ.o; have := HSZ.o; omega)).mono ?_
      rintro e w10 ⟨rfl, hb10⟩
      rw [hxx]
      have HB10 := hd (bel HB9.o hb10)
      have HC10 := hd (bel HC9.o hb10)
      have L10 := hd ((L6.o.below HC10.o).below ((Below.refl w10.heap.size w10).alloc (Nat.le_refl _) (.cells #[.slice p2 R.1.length d2, .slice p3 R.1.length d3, .slice p4 R2.1.length d4, .slice p5 R.1.length d5] 23)))
      have hz10 := HB10.o.size
      clear hb10 HC9 L6
      go_wp2_with fail
      refine (apart_any w.heap.size 4 w10.heap.size 4 _ _ _ _ (World.ownsRow_lit w10 #[.slice p2 R.1.length d2, .slice p3 R.1.length d3, .slice p4 R2.1.length d4, .slice p5 R.1.length d5] 4 hz10 (by decide) rfl) L10.o (by decide) ?_ (by simp; omega)).mono ?_
      · intro i hi
        have h1 := HZ.o
        have h2 := HZ2.o
        have h3 := HSZ.o
        have h4 := HSZ2.o
        rcases (show i = 0 ∨ i = 1 ∨ i = 2 ∨ i = 3 by omega) with rfl | rfl | rfl | rfl
        · show R.1.length ≤ _; omega
        · show R.1.length ≤ _; omega
        · show R2.1.length ≤ _; omega
        · show R.1.length ≤ _; omega
      rintro e w11 ⟨rfl, hb11⟩
      have HB11 := hd ((HB10.o.alloc hz10 _).trans hb11)
      clear hb11
      go_wp2
      go_roundw
      case rel => exact ⟨k + 1, by omega, by go_num, HB11⟩
      case measure => simp [intOf]; omega
    · go_wp2
      go_loopw [128] (fun x wr => ∃ k : Nat, k ≤ m.length ∧ x = .int .i64 k ∧ Hd (Below w.heap.size w wr)) (fun x _ => m.length - (intOf x).toNat)
      case atStart => exact ⟨0, by omega, rfl, HB0⟩
      case round =>
        clear HB0 hlt
        obtain ⟨k, hk, rfl, HB0⟩ := hrel
        by_cases hlt : k < m.length
        · obtain ⟨b, off, x, rfl, c0, hx⟩ := HC2.o k hlt
          have hbl : b < w.heap.size := World.block_lt_of_cell? w _ c0
          have d0 := (HB0.o.cell (p := ⟨b, off + k, none⟩) hbl).trans c0
          have HX := hd hx
          clear c0 hx
          generalize m[k]'hlt = xs at *
          go_wp2_with (go_at_call 27; refine (texts1_any x _ xs _ (HX.o.1.below HB0.o) HX.o.2.1 (fun r hr => wf32 (HX.o.2.2 r hr))).mono ?_; rintro e w2 ⟨rfl, hb2⟩; have HB2 := hd (bel HB0.o hb2); clear hb2)
          go_roundw
          case rel => exact ⟨k + 1, by omega, by go_num, HB2⟩
          case measure => simp [intOf]; omega
        · go_wp2
          go_ret
          exact ⟨rfl, HB0.o⟩

theorem runes_law (W : World) {H : Type} (v : Value) (d : DataW H) (v1 : Value) (d1 : DataW H) (h : Rows.uptoBulk d ≤ 1048576 → ∃ l, IsStrs W v l) (h1 : Rows.uptoBulk d1 ≤ 1048576 → ∃ l, IsLists .i32 W v1 l)
    (hb : Rows.uptoBulk d + (Rows.uptoBulk d1 + 0) ≤ 1048576) :
    Calls Try.prog 5 #[v, v1] W fun e W' => e = .returned (.bool true) ∧ Below W.heap.size W W' := by
  obtain ⟨l, hl⟩ := h (by omega)
  obtain ⟨m, hm⟩ := h1 (by omega)
  exact runes_walk v v1 l m W hl hm
section
open Go.ChangeShapes Go.WideShapes
variable {H : Type} {enc : TypeId × Value → H} {P : Program} {w : World} {base : Nat}
theorem open_strs1 {t e : TypeId} (ht : P.underlying t = some (.slice e)) (he : P.underlying e = some .string) (hce : P.cellsOf e = 1) {v : Value} {d : DataW H} {p : List MemPlace}
    (hv : Value.okWide P w .any base t v) (h : DataW.Trod enc P w 0 (fun _ => true) true t v d p) (_ : ∀ n ∈ d.weights P t, n ≤ reachBytes) : Rows.uptoBulk d ≤ 1048576 → ∃ l, IsStrs w v l := fun hb => open_strs ht he hce hv h hb
end
end Go.Proofs.Ythlpgnidjjclcaa
