/- The walks of utf.Text (the text of runes, or the refusal), weirlaw01.right (the runes among numbers) and weirlaw01.width. -/
import Derived.Test.YthlpgnidjjclcaaUBackMath
import Derived.Test.YthlpgnidjjclcaaUSame
import Derived.Test.YthlpgnidjjclcaaUUnq
namespace Go.Proofs.Ythlpgnidjjclcaa
open Go.RowKit
set_option linter.unusedVariables false
set_option linter.unusedSimpArgs false
def U.text (l : List Int) : List UInt8 × Int := if U.allRunes l then (U.encs l, 0) else ([], 12)
theorem cellsR_map (l : List Nat) : cellsR l = ints32 (l.map fun (n : Nat) => (n : Int)) := by simp [cellsR, ints32]
theorem ints32_app (a b : List Int) : ints32 (a ++ b) = ints32 a ++ ints32 b := by simp [ints32]
theorem ints32_one (l : List Int) : ∀ u ∈ ints32 l, u.oneCell' = true := by
  intro u hu; obtain ⟨x, _, rfl⟩ := List.mem_map.1 hu; rfl

theorem isRune_all (r : Int) (w : World) :
    Calls Try.prog 48 #[.int .i32 r] w fun e w' => e = .returned (.bool (Utf8.valid r)) ∧ w = w' := by
  go_enter Try.func48, Try.ntmps48
  go_wp2
  all_goals go_ret
  all_goals exact ⟨ret_bool (by rw [Bool.eq_iff_iff, U.valid_iff]; simp; omega), rfl⟩
theorem lawWidth_any (r : Int) (w : World) :
    Calls Try.prog 31 #[.int .i32 r] w fun e w' => e = .returned (.int .i64 (U.wd r)) ∧ w = w' := by
  go_enter Try.func31, Try.ntmps31
  go_wp2
  all_goals go_ret
  all_goals exact ⟨ret_int (by unfold U.wd; repeat' split
                               all_goals omega), rfl⟩

theorem U.allRunes_take (xs : List Int) (k : Nat) (hk : k < xs.length) : U.allRunes (xs.take (k + 1)) = (U.allRunes (xs.take k) && Utf8.valid xs[k]) := by
  rw [List.take_succ_eq_append_getElem hk]
  unfold U.allRunes
  rw [List.all_append]
  simp
theorem U.allRunes_not (xs : List Int) (k : Nat) (hk : k < xs.length) (h : Utf8.valid xs[k] = false) : U.allRunes xs = false := by
  cases e : U.allRunes xs with
  | false => rfl
  | true =>
    unfold U.allRunes at e
    have := List.all_eq_true.1 e _ (List.getElem_mem hk)
    rw [h] at this; cases this

theorem text_at (b off n c : Nat) (xs : List Int) (w : World) (hx : xs.length = n) (hn : n ≤ 17592186044416)
    (hc : ∀ k (h : k < xs.length), w.cell? ⟨b, off + k, none⟩ = some (.int .i32 (xs[k]'h))) :
    Calls Try.prog 22 #[.slice (some ⟨b, off, none⟩) n c] w fun e w' => e = strR (U.text xs) ∧ Below w.heap.size w w' := by
  have HX := hd hx
  have HC := hd hc
  clear hx hc
  go_enter Try.func22, Try.ntmps22
  go_wp2_with (at_make; refine wpList_mk0 _ 62 5 (.int .u8 0) 1 1 Try.underlying62 info_u8 rfl _ _ rfl w.heap.size _ _ n rfl rfl ?b1 ?b2 ?b3 ?_)
  case b1 => omega
  case b2 => omega
  case b3 => exact Nat.le_refl _
  intro w2 ho hg
  have hb2 : Below w.heap.size w w2 := bel_grown (Below.refl _ _) hg (fun k h => by cases h)
  clear hg
  go_wp2
  go_loopw [4, 12] (fun v x wr => ∃ k : Nat, k ≤ n ∧ x = .int .i64 k ∧ wr.ownsRow w.heap.size 5 1 v (U.encs (xs.take k)).length (cellsB (U.encs (xs.take k))) ∧ Below w.heap.size w wr ∧ (U.encs (xs.take k)).length ≤ 4 * k ∧ Hd (U.allRunes (xs.take k) = true)) (fun _ x _ => n - (intOf x).toNat)
  case atStart => exact ⟨0, Nat.zero_le _, rfl, ho, hb2, by simp [U.encs], hd rfl⟩
  case round =>
    obtain ⟨k, hk, rfl, how, hbw, hlen, hall⟩ := hrel
    have hzr := hbw.size
    by_cases hlt : k < n
    · have hkx : k < xs.length := by rw [HX.o]; exact hlt
      have c0 := HC.o k hkx
      have hbl : b < w.heap.size := World.block_lt_of_cell? w _ c0
      have d0 := (hbw.cell (p := ⟨b, off + k, none⟩) hbl).trans c0
      have HT := hd (U.encs_take xs k hkx)
      have HA := hd (U.allRunes_take xs k hkx)
      have HN := hd (U.allRunes_not xs k hkx)
      clear c0
      generalize hr : xs[k]'hkx = r at *
      clear hr
      have HB0 := hd hbw
      cases hv : Utf8.valid r with
      | true =>
        have V := hd hv
        have hle : (Utf8.encode r).toList.length ≤ 4 := by
          obtain ⟨m, rfl, _⟩ := U.valid_nat r hv
          exact U.enc_len m hv
        have HLE := hd hle
        clear hv hle
        go_wp2_with (first
          | (go_at_call 48; refine (isRune_all r _).mono ?_; rintro e w' ⟨rfl, rfl⟩; rw [V.o])
          | (go_at_call 49; refine (form_any r V.o w.heap.size _ _ _ _ how hzr (by omega)).mono ?_; rintro e w3 ⟨v3, rfl, ho3, hg3⟩))
        have hb3 : Below w.heap.size w w3 := bel_grown hbw (by assumption) (fun g hg' => (how.lt g hg').1)
        have HO : Hd (w3.ownsRow w.heap.size 5 1 v3 (U.encs (xs.take (k + 1))).length (cellsB (U.encs (xs.take (k + 1))))) := hd <| by
          rw [HT.o, cellsB_app, List.length_append]; assumption
        have HL : (U.encs (xs.take (k + 1))).length ≤ 4 * (k + 1) := by
          have := HLE.o
          rw [HT.o, List.length_append]; omega
        have HAL : Hd (U.allRunes (xs.take (k + 1)) = true) := hd <| by rw [HA.o, hall.o, V.o]; rfl
        go_roundw
        case rel => exact ⟨k + 1, by omega, by go_num, HO.o, hb3, HL, HAL⟩
        case measure => simp [intOf]; omega
      | false =>
        have V := hd hv
        have G : Hd (U.text xs = ([], 12)) := hd <| by unfold U.text; rw [HN.o hv]; rfl
        clear hv
        go_wp2_with (go_at_call 48; refine (isRune_all r _).mono ?_; rintro e w' ⟨rfl, rfl⟩; rw [V.o])
        go_ret2
        exact ⟨ret_strR (by rw [G.o]) (by rw [G.o]), HB0.o⟩
    · have e : xs.take k = xs := List.take_of_length_le (by rw [HX.o]; omega)
      rw [e] at how hall
      have G : Hd (U.text xs = (U.encs xs, 0)) := hd <| by unfold U.text; rw [hall.o]; rfl
      have hcv := run_string_of wr 62 9 5 Try.underlying62 Try.underlying5 Try.underlying9 _ _ (U.encs xs) (IsL.own how)
      go_wp2
      go_ret2
      exact ⟨ret_strR (by rw [G.o]) (by rw [G.o]), hbw⟩
theorem text_nil (A : Option Addr) (c : Nat) (w : World) :
    Calls Try.prog 22 #[.slice A 0 c] w fun e w' => e = strR (U.text []) ∧ Below w.heap.size w w' := by
  have HG : Hd (U.text [] = ([], 0)) := hd rfl
  go_enter Try.func22, Try.ntmps22
  go_wp2_with (at_make; refine wpList_mk0 _ 62 5 (.int .u8 0) 1 1 Try.underlying62 info_u8 rfl _ _ rfl w.heap.size _ _ 0 rfl rfl ?b1 ?b2 ?b3 ?_)
  case b1 => omega
  case b2 => omega
  case b3 => exact Nat.le_refl _
  intro w2 ho hg
  have hb2 : Below w.heap.size w w2 := bel_grown (Below.refl _ _) hg (fun k h => by cases h)
  clear hg
  have hcv := run_string_of w2 62 9 5 Try.underlying62 Try.underlying5 Try.underlying9 _ _ [] (IsL.own ho)
  go_wp2
  refine wp_loop_rounds 1 ?_
  rw [rounds_succ]
  go_wp2
  go_ret2
  exact ⟨ret_strR (by rw [HG.o]) (by rw [HG.o]), hb2⟩
theorem text_any (v : Value) (n : Nat) (xs : List Int) (w : World) (hx : IsL 1 w v n (ints32 xs)) (hn : n ≤ 17592186044416) :
    Calls Try.prog 22 #[v] w fun e w' => e = strR (U.text xs) ∧ Below w.heap.size w w' := by
  obtain ⟨l1, A, c, rfl, r1⟩ := hx
  rw [ints32_len, Nat.mul_one] at l1
  by_cases h0 : n = 0
  · have e1 : xs = [] := List.eq_nil_of_length_eq_zero (by omega)
    subst e1; subst h0
    exact text_nil A c w
  · obtain ⟨b, off, rfl, _, c1⟩ := r1.head (by rw [ints32_len]; omega)
    refine text_at b off n c xs w l1 hn (fun k hk => ?_)
    have := c1 k (by rw [ints32_len]; exact hk)
    simpa [ints32] using this

/-- what right leaves -/
def RightPost (w : World) (xs : List Int) (en : Ending) (w' : World) : Prop :=
  ∃ v, en = .returned v ∧ w'.ownsRow w.heap.size 21 1 v (xs.filter (fun r => Utf8.valid r)).length (ints32 (xs.filter (fun r => Utf8.valid r))) ∧ Below w.heap.size w w'
theorem U.right_take (xs : List Int) (k : Nat) (hk : k < xs.length) : (xs.take (k + 1)).filter (fun r => Utf8.valid r) = (xs.take k).filter (fun r => Utf8.valid r) ++ (if Utf8.valid xs[k] then [xs[k]] else []) := by
  rw [List.take_succ_eq_append_getElem hk, List.filter_append]
  congr 1
  cases h : Utf8.valid xs[k] <;> simp [h]
theorem right_at (b off n c : Nat) (xs : List Int) (w : World) (hx : xs.length = n) (hn : n ≤ 17592186044416)
    (hc : ∀ k (h : k < xs.length), w.cell? ⟨b, off + k, none⟩ = some (.int .i32 (xs[k]'h))) :
    Calls Try.prog 30 #[.slice (some ⟨b, off, none⟩) n c] w (RightPost w xs) := by
  have HX := hd hx
  have HC := hd hc
  clear hx hc
  go_enter Try.func30, Try.ntmps30
  go_wp2
  go_loopw [3, 8] (fun v x wr => ∃ (k : Nat) (ys : List Int), k ≤ n ∧ x = .int .i64 k ∧ wr.ownsRow w.heap.size 21 1 v ys.length (ints32 ys) ∧ Below w.heap.size w wr ∧ ys.length ≤ k ∧ Hd (ys = (xs.take k).filter (fun r => Utf8.valid r))) (fun _ x _ => n - (intOf x).toNat)
  case atStart => exact ⟨0, [], Nat.zero_le _, rfl, ⟨by simp [ints32], .inl ⟨rfl, rfl⟩⟩, Below.refl _ _, Nat.le_refl _, hd rfl⟩
  case round =>
    obtain ⟨k, ys, hk, rfl, how, hbw, hlen, hys⟩ := hrel
    have hzr := hbw.size
    by_cases hlt : k < n
    · have hkx : k < xs.length := by rw [HX.o]; exact hlt
      have c0 := HC.o k hkx
      have hbl : b < w.heap.size := World.block_lt_of_cell? w _ c0
      have d0 := (hbw.cell (p := ⟨b, off + k, none⟩) hbl).trans c0
      have HT := hd (U.right_take xs k hkx)
      clear c0
      generalize hr : xs[k]'hkx = r at *
      clear hr
      have HB0 := hd hbw
      have t1 : ∃ q1 q2 q3 q4 : Bool, decide (0 ≤ r) = q1 ∧ decide (r ≤ 1114111) = q2 ∧ decide (r < 55296) = q3 ∧ decide (57343 < r) = q4 ∧ Hd (Utf8.valid r = (q1 && q2 && (q3 || q4))) :=
        ⟨_, _, _, _, rfl, rfl, rfl, rfl, hd (by rw [Bool.eq_iff_iff, U.valid_iff]; simp; omega)⟩
      obtain ⟨q1, q2, q3, q4, t1, t2, t3, t4, HQ⟩ := t1
      cases q1 <;> cases q2 <;> cases q3 <;> cases q4
      all_goals first
        | (have V : Utf8.valid r = false := by rw [HQ.o]; rfl
           have G : Hd (ys = (xs.take (k + 1)).filter (fun r => Utf8.valid r)) := hd <| by rw [HT.o, V, ← hys.o]; simp
           clear V hys HQ
           go_wp2
           go_roundw
           case rel => exact ⟨k + 1, ys, by omega, by go_num, how, HB0.o, by omega, G⟩
           case measure => simp [intOf]; omega
           done)
        | (have V : Utf8.valid r = true := by rw [HQ.o]; rfl
           have G : Hd (ys ++ [r] = (xs.take (k + 1)).filter (fun r => Utf8.valid r)) := hd <| by rw [HT.o, V, ← hys.o]; simp
           clear V hys HQ
           go_wp2_with (at_builtin; refine wpList_app_lit 23 21 (.int .i32 0) 1 4 Try.underlying23 info_i32 rfl (by decide) rfl _ _ rfl w.heap.size u3 ys.length (ints32 ys) wr #[.int .i32 r] 1 rfl rfl how rfl ?_ ?_ ?_ hzr ?_)
           any_goals (first | omega | (simp [Value.oneCell']; done))
           intro v3 w3 ho3 hg3
           have HO : Hd (w3.ownsRow w.heap.size 21 1 v3 (ys ++ [r]).length (ints32 (ys ++ [r]))) := hd <| by rw [ints32_app, List.length_append]; exact ho3
           have hb3 : Below w.heap.size w w3 := bel_grown hbw hg3 (fun g hg' => (how.lt g hg').1)
           clear ho3 hg3
           go_wp2
           go_roundw
           case rel => exact ⟨k + 1, ys ++ [r], by omega, by go_num, HO.o, hb3, by rw [List.length_append]; simp; omega, G⟩
           case measure => simp [intOf]; omega
           done)
    · have e : xs.take k = xs := List.take_of_length_le (by rw [HX.o]; omega)
      rw [e] at hys
      have G := hys.o
      subst G
      go_wp2
      go_ret
      exact ⟨_, rfl, how, hbw⟩
end Go.Proofs.Ythlpgnidjjclcaa
