/- The walks of weirref01.IsRune, Form, guess, Next, Valid: what each computes. -/
import Derived.Test.YtifaepkeoffcfaaUWalkA
namespace Go.Proofs.Ytifaepkeoffcfaa
open Go.RowKit

theorem IsRune_any (n : Int) (w : World) (h1 : -9223372036854775808 ≤ n) (h2 : n ≤ 9223372036854775807) :
    Calls Try.prog 98 #[.int .i64 n] w fun e w' => e = .returned (.bool (Utf8.valid n)) ∧ w = w' := by
  go_enter Try.func98, Try.ntmps98
  go_wp2
  all_goals go_ret
  all_goals exact ⟨ret_bool (by rw [Bool.eq_iff_iff, U.valid_iff]; simp; omega), rfl⟩

theorem strOfNums_enc (l : List Int) (b : ByteArray) (h : b.toList = l.map (fun n => UInt8.ofNat n.toNat)) : strOfNums l = b := by
  have : (strOfNums l).data.toList = b.data.toList := by rw [strOfNums_data, ← h, ByteArray.toList_eq]
  exact ByteArray.ext (Array.toList_inj.1 this)

theorem conv_new (k : Nat) (C : Array Value) (xs : List Int) (hC : C = (xs.map (Value.int .u8)).toArray) (hk : xs.length = k) (W : World) :
    (convert 40 9 (.slice (some ⟨W.heap.size, 0, none⟩) k k)).run Try.prog (W.alloc (.cells C 5)) = .ok (.string (strOfNums xs)) (W.alloc (.cells C 5)) := by
  refine run_convert_bytes_arg _ 40 5 Try.underlying40 Try.underlying5 _ 0 k k xs hk ?_ 9 Try.underlying9
  intro i hi
  rw [Nat.zero_add, World.cell?_alloc_mark, hC]
  simp [List.getD, hk ▸ hi]

theorem Form_any (n : Int) (w : World) (h1 : -9223372036854775808 ≤ n) (h2 : n ≤ 9223372036854775807) :
    Calls Try.prog 83 #[.int .i64 n] w fun e w' => e = .returned (.string (U.formB n)) ∧ Below w.heap.size w w' := by
  cases hv : Utf8.valid n with
  | false =>
    have H : Hid (Utf8.valid n = false) := hv
    clear hv
    go_enter Try.func83, Try.ntmps83
    go_wp2_with (go_at_call 98; refine (IsRune_any _ _ (by omega) (by omega)).mono ?_; rintro e w' ⟨rfl, rfl⟩; rw [H.out])
    go_ret
    exact ⟨ret_str (by unfold U.formB; rw [H.out]; rfl), Below.refl _ _⟩
  | true =>
    have h0 := (U.valid_iff n).1 hv
    have h3 : 0 ≤ n := by omega
    have h4 : n ≤ 1114111 := by omega
    clear h0
    have H : Hid (Utf8.valid n = true) := hv
    clear hv
    have c1 := fun (W : World) (a : Int) => conv_new 1 _ [a] rfl rfl W
    have c2 := fun (W : World) (a b : Int) => conv_new 2 _ [a, b] rfl rfl W
    have c3 := fun (W : World) (a b c : Int) => conv_new 3 _ [a, b, c] rfl rfl W
    have c4 := fun (W : World) (a b c d : Int) => conv_new 4 _ [a, b, c, d] rfl rfl W
    simp only [List.map_cons, List.map_nil] at c1 c2 c3 c4
    go_enter Try.func83, Try.ntmps83
    go_wp2_with (go_at_call 98; refine (IsRune_any _ _ (by omega) (by omega)).mono ?_; rintro e w' ⟨rfl, rfl⟩; rw [H.out])
    all_goals go_ret
    all_goals refine ⟨ret_str ?_, (Below.refl _ _).alloc (Nat.le_refl _) _⟩
    all_goals apply strOfNums_enc
    all_goals obtain ⟨m, rfl⟩ := Int.eq_ofNat_of_zero_le h3
    all_goals unfold U.formB
    all_goals rw [H.out, if_pos rfl, U.enc_list m H.out]
    · rw [if_pos (by omega)]; rfl
    · rw [if_neg (by omega), if_pos (by omega)]; rfl
    · rw [if_neg (by omega), if_neg (by omega), if_pos (by omega)]; rfl
    · rw [if_neg (by omega), if_neg (by omega), if_neg (by omega)]; rfl

theorem gs_bd (s : ByteArray) (i w : Nat) (hw : 1 ≤ w ∧ w ≤ 4) : -1000000000 ≤ U.gs s i w ∧ U.gs s i w ≤ 1000000000 := by
  have h0 := U.at_lt s i; have h1 := U.at_lt s (i+1); have h2 := U.at_lt s (i+2); have h3 := U.at_lt s (i+3)
  rcases (show w = 1 ∨ w = 2 ∨ w = 3 ∨ w = 4 by omega) with rfl | rfl | rfl | rfl <;> simp only [U.gs] <;> omega

theorem guess_any (s : ByteArray) (i w : Nat) (W : World) (hs : s.size ≤ 1125899906842624) (hw : 1 ≤ w ∧ w ≤ 4) (hi : i + w ≤ s.size) :
    Calls Try.prog 82 #[.string s, .int .i64 i, .int .i64 w] W fun e W' => e = .returned (.int .i64 (U.gs s i w)) ∧ W = W' := by
  have b0 := (s[i]'(by omega)).toNat_lt
  have e0 := U.at_eq s i (by omega)
  rcases (show w = 1 ∨ w = 2 ∨ w = 3 ∨ w = 4 by omega) with rfl | rfl | rfl | rfl
  · have E0 := Lib.hid e0; clear e0
    go_enter Try.func82, Try.ntmps82
    go_wp2
    go_ret
    exact ⟨ret_int (by simp only [U.gs]; rw [E0.out]), rfl⟩
  · have b1 := (s[i+1]'(by omega)).toNat_lt
    have e1 := U.at_eq s (i+1) (by omega)
    have E0 := Lib.hid e0; clear e0
    have E1 := Lib.hid e1; clear e1
    go_enter Try.func82, Try.ntmps82
    go_wp2
    refine wp_loop_rounds 2 ?_
    rw [rounds_succ]
    go_wp2
    rw [rounds_succ]
    go_wp2
    go_ret
    refine ⟨ret_int ?_, rfl⟩
    simp only [U.gs]
    rw [E0.out, E1.out]
  · have b1 := (s[i+1]'(by omega)).toNat_lt
    have e1 := U.at_eq s (i+1) (by omega)
    have b2 := (s[i+2]'(by omega)).toNat_lt
    have e2 := U.at_eq s (i+2) (by omega)
    have E0 := Lib.hid e0; clear e0
    have E1 := Lib.hid e1; clear e1
    have E2 := Lib.hid e2; clear e2
    go_enter Try.func82, Try.ntmps82
    go_wp2
    refine wp_loop_rounds 3 ?_
    rw [rounds_succ]
    go_wp2
    rw [rounds_succ]
    go_wp2
    rw [rounds_succ]
    go_wp2
    go_ret
    refine ⟨ret_int ?_, rfl⟩
    simp only [U.gs]
    rw [E0.out, E1.out, E2.out]
  · have b1 := (s[i+1]'(by omega)).toNat_lt
    have e1 := U.at_eq s (i+1) (by omega)
    have b2 := (s[i+2]'(by omega)).toNat_lt
    have e2 := U.at_eq s (i+2) (by omega)
    have b3 := (s[i+3]'(by omega)).toNat_lt
    have e3 := U.at_eq s (i+3) (by omega)
    have E0 := Lib.hid e0; clear e0
    have E1 := Lib.hid e1; clear e1
    have E2 := Lib.hid e2; clear e2
    have E3 := Lib.hid e3; clear e3
    go_enter Try.func82, Try.ntmps82
    go_wp2
    refine wp_loop_rounds 4 ?_
    rw [rounds_succ]
    go_wp2
    rw [rounds_succ]
    go_wp2
    rw [rounds_succ]
    go_wp2
    rw [rounds_succ]
    go_wp2
    go_ret
    refine ⟨ret_int ?_, rfl⟩
    simp only [U.gs]
    rw [E0.out, E1.out, E2.out, E3.out]
end Go.Proofs.Ytifaepkeoffcfaa
