/- render.Failure: the answer is a row of its own, for every status. -/
import Derived.Test.YtcbggkdginfakaaDoorRMFail
namespace Go.Proofs.YtcbggkdginfakaaDoor
open Go.RowKit
set_option linter.unusedVariables false
set_option linter.unusedSimpArgs false
/-- the kind of a refusal, by its status -/
def T.ty (s : Int) : List UInt8 := if s = 400 then [98, 97, 100, 95, 100, 97, 116, 97] else if s = 401 then [117, 110, 97, 117, 116, 104, 111, 114, 105, 122, 101, 100] else if s = 404 then [110, 111, 116, 95, 102, 111, 117, 110, 100] else if s = 413 then [116, 111, 111, 95, 108, 97, 114, 103, 101] else if s = 422 then [101, 120, 101, 99, 117, 116, 105, 111, 110] else [105, 110, 116, 101, 114, 110, 97, 108]
theorem T.cases (s : Int) : (s = 400 ∨ s = 401 ∨ s = 404 ∨ s = 413 ∨ s = 422) ∨ ((s == 400) = false ∧ (s == 401) = false ∧ (s == 404) = false ∧ (s == 413) = false ∧ (s == 422) = false ∧ T.ty s = [105, 110, 116, 101, 114, 110, 97, 108]) := by
  by_cases h1 : s = 400
  · exact .inl (.inl h1)
  by_cases h2 : s = 401
  · exact .inl (.inr (.inl h2))
  by_cases h3 : s = 404
  · exact .inl (.inr (.inr (.inl h3)))
  by_cases h4 : s = 413
  · exact .inl (.inr (.inr (.inr (.inl h4))))
  by_cases h5 : s = 422
  · exact .inl (.inr (.inr (.inr (.inr h5))))
  · refine .inr ⟨by simpa using h1, by simpa using h2, by simpa using h3, by simpa using h4, by simpa using h5, ?_⟩
    unfold T.ty
    rw [if_neg h1, if_neg h2, if_neg h3, if_neg h4, if_neg h5]
theorem fail400p_own (e p : Int) (w : World) (he0 : -9223372036854775808 ≤ e) (he1 : e ≤ 9223372036854775807) (hp0 : -9223372036854775808 ≤ p) (hp1 : p ≤ 9223372036854775807) (hpp : 0 ≤ p) (hT : Pow w.heap.size w) :
    Calls Tryd.prog 9 #[.int .i64 400, .int .i64 e, .int .i64 p] w fun x w' => (∃ v m, x = .returned v ∧ w'.ownsRow w.heap.size 5 1 v m (cellsB (T.ans [98, 97, 100, 95, 100, 97, 116, 97] e p))) ∧ Below w.heap.size w w' := by
  have HT := hd hT
  have HE := T.it_len e he0 he1
  have HP := T.it_len p hp0 hp1
  have k1 : ∀ N : Nat, N ≤ 1000 → ¬ 9223372036854775807 < N + (T.it e).length := fun N h => by omega
  have k2 : ∀ N : Nat, N ≤ 1000 → ¬ 281474976710656 < N + (T.it e).length := fun N h => by omega
  have k3 : ∀ N : Nat, N ≤ 1000 → ¬ 9223372036854775807 < N + (T.it p).length := fun N h => by omega
  have k4 : ∀ N : Nat, N ≤ 1000 → ¬ 281474976710656 < N + (T.it p).length := fun N h => by omega
  have HA : Hd (T.ans [98, 97, 100, 95, 100, 97, 116, 97] e p = [123, 34, 115, 116, 97, 116, 117, 115, 34, 58, 34, 101, 114, 114, 111, 114, 34, 44, 34, 101, 114, 114, 111, 114, 84, 121, 112, 101, 34, 58, 34] ++ [98, 97, 100, 95, 100, 97, 116, 97] ++ [34, 44, 34, 101, 114, 114, 111, 114, 34, 58, 34, 119, 101, 105, 114, 58, 32, 101, 114, 114, 111, 114, 32] ++ T.it e ++ (if 0 ≤ p then [32, 97, 116, 32] ++ T.it p else []) ++ [34, 125]) := hd rfl
  clear hT
  have HO0 : Hd (Ou w (w.alloc (.cells #[.slice none 0 0] 51)) w.heap.size []) := hd <| by
    refine ⟨⟨none, 0, 0, ?_, ⟨rfl, .inl ⟨rfl, rfl⟩⟩, rfl⟩, (Below.refl _ _).alloc (Nat.le_refl _) _⟩
    show (w.heap.push (.cells #[.slice none 0 0] 51))[w.heap.size]? = _
    simp
  go_enter Tryd.func9, Tryd.ntmps9
  go_wp2_with fail
  refine (itoa_any e he0 he1 _ (HT.o _ HO0.o.bel)).mono ?_
  rintro x w1 ⟨rfl, hb1⟩
  have HO1 := hd (HO0.o.below hb1)
  clear hb1 HO0
  go_wp2_with fail
  refine (put_any _ w _ w.heap.size [] HO1.o ?_).mono ?_
  · simp [ByteArray.size]; omega
  rintro x w2 ⟨rfl, hO2⟩
  have HO2 := hd hO2
  clear hO2 HO1
  go_wp2_with fail
  refine (itoa_any p hp0 hp1 _ (HT.o _ HO2.o.bel)).mono ?_
  rintro x w3 ⟨rfl, hb3⟩
  have HO3 := hd (HO2.o.below hb3)
  clear hb3 HO2
  go_wp2_with fail
  refine (put_any _ w _ w.heap.size _ HO3.o ?_).mono ?_
  · simp [ByteArray.size]; omega
  rintro x w4 ⟨rfl, hO4⟩
  have HO4 := hd hO4
  clear hO4 HO3
  go_wp2_with fail
  refine (put_any _ w _ w.heap.size _ HO4.o ?_).mono ?_
  · simp [ByteArray.size]; omega
  rintro x w5 ⟨rfl, hO5⟩
  obtain ⟨A', n', c', q1, q2, q3⟩ := hO5.ex
  have e0 := q1.cell 0 (by simp)
  simp only [List.getElem_cons_zero] at e0
  have HQ : Hd (w5.ownsRow w.heap.size 5 1 (.slice A' n' c') n' (cellsB (T.ans [98, 97, 100, 95, 100, 97, 116, 97] e p))) := hd (by
    subst q3
    have h := own_mono q2 (Nat.le_succ _)
    rw [HA.o, if_pos hpp]
    simpa using h)
  have HB5 := hd hO5.bel
  clear hO5 q1 q2 q3
  go_wp2
  go_ret
  exact ⟨⟨_, _, rfl, HQ.o⟩, HB5.o⟩
theorem fail401p_own (e p : Int) (w : World) (he0 : -9223372036854775808 ≤ e) (he1 : e ≤ 9223372036854775807) (hp0 : -9223372036854775808 ≤ p) (hp1 : p ≤ 9223372036854775807) (hpp : 0 ≤ p) (hT : Pow w.heap.size w) :
    Calls Tryd.prog 9 #[.int .i64 401, .int .i64 e, .int .i64 p] w fun x w' => (∃ v m, x = .returned v ∧ w'.ownsRow w.heap.size 5 1 v m (cellsB (T.ans [117, 110, 97, 117, 116, 104, 111, 114, 105, 122, 101, 100] e p))) ∧ Below w.heap.size w w' := by
  have HT := hd hT
  have HE := T.it_len e he0 he1
  have HP := T.it_len p hp0 hp1
  have k1 : ∀ N : Nat, N ≤ 1000 → ¬ 9223372036854775807 < N + (T.it e).length := fun N h => by omega
  have k2 : ∀ N : Nat, N ≤ 1000 → ¬ 281474976710656 < N + (T.it e).length := fun N h => by omega
  have k3 : ∀ N : Nat, N ≤ 1000 → ¬ 9223372036854775807 < N + (T.it p).length := fun N h => by omega
  have k4 : ∀ N : Nat, N ≤ 1000 → ¬ 281474976710656 < N + (T.it p).length := fun N h => by omega
  have HA : Hd (T.ans [117, 110, 97, 117, 116, 104, 111, 114, 105, 122, 101, 100] e p = [123, 34, 115, 116, 97, 116, 117, 115, 34, 58, 34, 101, 114, 114, 111, 114, 34, 44, 34, 101, 114, 114, 111, 114, 84, 121, 112, 101, 34, 58, 34] ++ [117, 110, 97, 117, 116, 104, 111, 114, 105, 122, 101, 100] ++ [34, 44, 34, 101, 114, 114, 111, 114, 34, 58, 34, 119, 101, 105, 114, 58, 32, 101, 114, 114, 111, 114, 32] ++ T.it e ++ (if 0 ≤ p then [32, 97, 116, 32] ++ T.it p else []) ++ [34, 125]) := hd rfl
  clear hT
  have HO0 : Hd (Ou w (w.alloc (.cells #[.slice none 0 0] 51)) w.heap.size []) := hd <| by
    refine ⟨⟨none, 0, 0, ?_, ⟨rfl, .inl ⟨rfl, rfl⟩⟩, rfl⟩, (Below.refl _ _).alloc (Nat.le_refl _) _⟩
    show (w.heap.push (.cells #[.slice none 0 0] 51))[w.heap.size]? = _
    simp
  go_enter Tryd.func9, Tryd.ntmps9
  go_wp2_with fail
  refine (itoa_any e he0 he1 _ (HT.o _ HO0.o.bel)).mono ?_
  rintro x w1 ⟨rfl, hb1⟩
  have HO1 := hd (HO0.o.below hb1)
  clear hb1 HO0
  go_wp2_with fail
  refine (put_any _ w _ w.heap.size [] HO1.o ?_).mono ?_
  · simp [ByteArray.size]; omega
  rintro x w2 ⟨rfl, hO2⟩
  have HO2 := hd hO2
  clear hO2 HO1
  go_wp2_with fail
  refine (itoa_any p hp0 hp1 _ (HT.o _ HO2.o.bel)).mono ?_
  rintro x w3 ⟨rfl, hb3⟩
  have HO3 := hd (HO2.o.below hb3)
  clear hb3 HO2
  go_wp2_with fail
  refine (put_any _ w _ w.heap.size _ HO3.o ?_).mono ?_
  · simp [ByteArray.size]; omega
  rintro x w4 ⟨rfl, hO4⟩
  have HO4 := hd hO4
  clear hO4 HO3
  go_wp2_with fail
  refine (put_any _ w _ w.heap.size _ HO4.o ?_).mono ?_
  · simp [ByteArray.size]; omega
  rintro x w5 ⟨rfl, hO5⟩
  obtain ⟨A', n', c', q1, q2, q3⟩ := hO5.ex
  have e0 := q1.cell 0 (by simp)
  simp only [List.getElem_cons_zero] at e0
  have HQ : Hd (w5.ownsRow w.heap.size 5 1 (.slice A' n' c') n' (cellsB (T.ans [117, 110, 97, 117, 116, 104, 111, 114, 105, 122, 101, 100] e p))) := hd (by
    subst q3
    have h := own_mono q2 (Nat.le_succ _)
    rw [HA.o, if_pos hpp]
    simpa using h)
  have HB5 := hd hO5.bel
  clear hO5 q1 q2 q3
  go_wp2
  go_ret
  exact ⟨⟨_, _, rfl, HQ.o⟩, HB5.o⟩
theorem fail404p_own (e p : Int) (w : World) (he0 : -9223372036854775808 ≤ e) (he1 : e ≤ 9223372036854775807) (hp0 : -9223372036854775808 ≤ p) (hp1 : p ≤ 9223372036854775807) (hpp : 0 ≤ p) (hT : Pow w.heap.size w) :
    Calls Tryd.prog 9 #[.int .i64 404, .int .i64 e, .int .i64 p] w fun x w' => (∃ v m, x = .returned v ∧ w'.ownsRow w.heap.size 5 1 v m (cellsB (T.ans [110, 111, 116, 95, 102, 111, 117, 110, 100] e p))) ∧ Below w.heap.size w w' := by
  have HT := hd hT
  have HE := T.it_len e he0 he1
  have HP := T.it_len p hp0 hp1
  have k1 : ∀ N : Nat, N ≤ 1000 → ¬ 9223372036854775807 < N + (T.it e).length := fun N h => by omega
  have k2 : ∀ N : Nat, N ≤ 1000 → ¬ 281474976710656 < N + (T.it e).length := fun N h => by omega
  have k3 : ∀ N : Nat, N ≤ 1000 → ¬ 9223372036854775807 < N + (T.it p).length := fun N h => by omega
  have k4 : ∀ N : Nat, N ≤ 1000 → ¬ 281474976710656 < N + (T.it p).length := fun N h => by omega
  have HA : Hd (T.ans [110, 111, 116, 95, 102, 111, 117, 110, 100] e p = [123, 34, 115, 116, 97, 116, 117, 115, 34, 58, 34, 101, 114, 114, 111, 114, 34, 44, 34, 101, 114, 114, 111, 114, 84, 121, 112, 101, 34, 58, 34] ++ [110, 111, 116, 95, 102, 111, 117, 110, 100] ++ [34, 44, 34, 101, 114, 114, 111, 114, 34, 58, 34, 119, 101, 105, 114, 58, 32, 101, 114, 114, 111, 114, 32] ++ T.it e ++ (if 0 ≤ p then [32, 97, 116, 32] ++ T.it p else []) ++ [34, 125]) := hd rfl
  clear hT
  have HO0 : Hd (Ou w (w.alloc (.cells #[.slice none 0 0] 51)) w.heap.size []) := hd <| by
    refine ⟨⟨none, 0, 0, ?_, ⟨rfl, .inl ⟨rfl, rfl⟩⟩, rfl⟩, (Below.refl _ _).alloc (Nat.le_refl _) _⟩
    show (w.heap.push (.cells #[.slice none 0 0] 51))[w.heap.size]? = _
    simp
  go_enter Tryd.func9, Tryd.ntmps9
  go_wp2_with fail
  refine (itoa_any e he0 he1 _ (HT.o _ HO0.o.bel)).mono ?_
  rintro x w1 ⟨rfl, hb1⟩
  have HO1 := hd (HO0.o.below hb1)
  clear hb1 HO0
  go_wp2_with fail
  refine (put_any _ w _ w.heap.size [] HO1.o ?_).mono ?_
  · simp [ByteArray.size]; omega
  rintro x w2 ⟨rfl, hO2⟩
  have HO2 := hd hO2
  clear hO2 HO1
  go_wp2_with fail
  refine (itoa_any p hp0 hp1 _ (HT.o _ HO2.o.bel)).mono ?_
  rintro x w3 ⟨rfl, hb3⟩
  have HO3 := hd (HO2.o.below hb3)
  clear hb3 HO2
  go_wp2_with fail
  refine (put_any _ w _ w.heap.size _ HO3.o ?_).mono ?_
  · simp [ByteArray.size]; omega
  rintro x w4 ⟨rfl, hO4⟩
  have HO4 := hd hO4
  clear hO4 HO3
  go_wp2_with fail
  refine (put_any _ w _ w.heap.size _ HO4.o ?_).mono ?_
  · simp [ByteArray.size]; omega
  rintro x w5 ⟨rfl, hO5⟩
  obtain ⟨A', n', c', q1, q2, q3⟩ := hO5.ex
  have e0 := q1.cell 0 (by simp)
  simp only [List.getElem_cons_zero] at e0
  have HQ : Hd (w5.ownsRow w.heap.size 5 1 (.slice A' n' c') n' (cellsB (T.ans [110, 111, 116, 95, 102, 111, 117, 110, 100] e p))) := hd (by
    subst q3
    have h := own_mono q2 (Nat.le_succ _)
    rw [HA.o, if_pos hpp]
    simpa using h)
  have HB5 := hd hO5.bel
  clear hO5 q1 q2 q3
  go_wp2
  go_ret
  exact ⟨⟨_, _, rfl, HQ.o⟩, HB5.o⟩
theorem fail413p_own (e p : Int) (w : World) (he0 : -9223372036854775808 ≤ e) (he1 : e ≤ 9223372036854775807) (hp0 : -9223372036854775808 ≤ p) (hp1 : p ≤ 9223372036854775807) (hpp : 0 ≤ p) (hT : Pow w.heap.size w) :
    Calls Tryd.prog 9 #[.int .i64 413, .int .i64 e, .int .i64 p] w fun x w' => (∃ v m, x = .returned v ∧ w'.ownsRow w.heap.size 5 1 v m (cellsB (T.ans [116, 111, 111, 95, 108, 97, 114, 103, 101] e p))) ∧ Below w.heap.size w w' := by
  have HT := hd hT
  have HE := T.it_len e he0 he1
  have HP := T.it_len p hp0 hp1
  have k1 : ∀ N : Nat, N ≤ 1000 → ¬ 9223372036854775807 < N + (T.it e).length := fun N h => by omega
  have k2 : ∀ N : Nat, N ≤ 1000 → ¬ 281474976710656 < N + (T.it e).length := fun N h => by omega
  have k3 : ∀ N : Nat, N ≤ 1000 → ¬ 9223372036854775807 < N + (T.it p).length := fun N h => by omega
  have k4 : ∀ N : Nat, N ≤ 1000 → ¬ 281474976710656 < N + (T.it p).length := fun N h => by omega
  have HA : Hd (T.ans [116, 111, 111, 95, 108, 97, 114, 103, 101] e p = [123, 34, 115, 116, 97, 116, 117, 115, 34, 58, 34, 101, 114, 114, 111, 114, 34, 44, 34, 101, 114, 114, 111, 114, 84, 121, 112, 101, 34, 58, 34] ++ [116, 111, 111, 95, 108, 97, 114, 103, 101] ++ [34, 44, 34, 101, 114, 114, 111, 114, 34, 58, 34, 119, 101, 105, 114, 58, 32, 101, 114, 114, 111, 114, 32] ++ T.it e ++ (if 0 ≤ p then [32, 97, 116, 32] ++ T.it p else []) ++ [34, 125]) := hd rfl
  clear hT
  have HO0 : Hd (Ou w (w.alloc (.cells #[.slice none 0 0] 51)) w.heap.size []) := hd <| by
    refine ⟨⟨none, 0, 0, ?_, ⟨rfl, .inl ⟨rfl, rfl⟩⟩, rfl⟩, (Below.refl _ _).alloc (Nat.le_refl _) _⟩
    show (w.heap.push (.cells #[.slice none 0 0] 51))[w.heap.size]? = _
    simp
  go_enter Tryd.func9, Tryd.ntmps9
  go_wp2_with fail
  refine (itoa_any e he0 he1 _ (HT.o _ HO0.o.bel)).mono ?_
  rintro x w1 ⟨rfl, hb1⟩
  have HO1 := hd (HO0.o.below hb1)
  clear hb1 HO0
  go_wp2_with fail
  refine (put_any _ w _ w.heap.size [] HO1.o ?_).mono ?_
  · simp [ByteArray.size]; omega
  rintro x w2 ⟨rfl, hO2⟩
  have HO2 := hd hO2
  clear hO2 HO1
  go_wp2_with fail
  refine (itoa_any p hp0 hp1 _ (HT.o _ HO2.o.bel)).mono ?_
  rintro x w3 ⟨rfl, hb3⟩
  have HO3 := hd (HO2.o.below hb3)
  clear hb3 HO2
  go_wp2_with fail
  refine (put_any _ w _ w.heap.size _ HO3.o ?_).mono ?_
  · simp [ByteArray.size]; omega
  rintro x w4 ⟨rfl, hO4⟩
  have HO4 := hd hO4
  clear hO4 HO3
  go_wp2_with fail
  refine (put_any _ w _ w.heap.size _ HO4.o ?_).mono ?_
  · simp [ByteArray.size]; omega
  rintro x w5 ⟨rfl, hO5⟩
  obtain ⟨A', n', c', q1, q2, q3⟩ := hO5.ex
  have e0 := q1.cell 0 (by simp)
  simp only [List.getElem_cons_zero] at e0
  have HQ : Hd (w5.ownsRow w.heap.size 5 1 (.slice A' n' c') n' (cellsB (T.ans [116, 111, 111, 95, 108, 97, 114, 103, 101] e p))) := hd (by
    subst q3
    have h := own_mono q2 (Nat.le_succ _)
    rw [HA.o, if_pos hpp]
    simpa using h)
  have HB5 := hd hO5.bel
  clear hO5 q1 q2 q3
  go_wp2
  go_ret
  exact ⟨⟨_, _, rfl, HQ.o⟩, HB5.o⟩
theorem fail422p_own (e p : Int) (w : World) (he0 : -9223372036854775808 ≤ e) (he1 : e ≤ 9223372036854775807) (hp0 : -9223372036854775808 ≤ p) (hp1 : p ≤ 9223372036854775807) (hpp : 0 ≤ p) (hT : Pow w.heap.size w) :
    Calls Tryd.prog 9 #[.int .i64 422, .int .i64 e, .int .i64 p] w fun x w' => (∃ v m, x = .returned v ∧ w'.ownsRow w.heap.size 5 1 v m (cellsB (T.ans [101, 120, 101, 99, 117, 116, 105, 111, 110] e p))) ∧ Below w.heap.size w w' := by
  have HT := hd hT
  have HE := T.it_len e he0 he1
  have HP := T.it_len p hp0 hp1
  have k1 : ∀ N : Nat, N ≤ 1000 → ¬ 9223372036854775807 < N + (T.it e).length := fun N h => by omega
  have k2 : ∀ N : Nat, N ≤ 1000 → ¬ 281474976710656 < N + (T.it e).length := fun N h => by omega
  have k3 : ∀ N : Nat, N ≤ 1000 → ¬ 9223372036854775807 < N + (T.it p).length := fun N h => by omega
  have k4 : ∀ N : Nat, N ≤ 1000 → ¬ 281474976710656 < N + (T.it p).length := fun N h => by omega
  have HA : Hd (T.ans [101, 120, 101, 99, 117, 116, 105, 111, 110] e p = [123, 34, 115, 116, 97, 116, 117, 115, 34, 58, 34, 101, 114, 114, 111, 114, 34, 44, 34, 101, 114, 114, 111, 114, 84, 121, 112, 101, 34, 58, 34] ++ [101, 120, 101, 99, 117, 116, 105, 111, 110] ++ [34, 44, 34, 101, 114, 114, 111, 114, 34, 58, 34, 119, 101, 105, 114, 58, 32, 101, 114, 114, 111, 114, 32] ++ T.it e ++ (if 0 ≤ p then [32, 97, 116, 32] ++ T.it p else []) ++ [34, 125]) := hd rfl
  clear hT
  have HO0 : Hd (Ou w (w.alloc (.cells #[.slice none 0 0] 51)) w.heap.size []) := hd <| by
    refine ⟨⟨none, 0, 0, ?_, ⟨rfl, .inl ⟨rfl, rfl⟩⟩, rfl⟩, (Below.refl _ _).alloc (Nat.le_refl _) _⟩
    show (w.heap.push (.cells #[.slice none 0 0] 51))[w.heap.size]? = _
    simp
  go_enter Tryd.func9, Tryd.ntmps9
  go_wp2_with fail
  refine (itoa_any e he0 he1 _ (HT.o _ HO0.o.bel)).mono ?_
  rintro x w1 ⟨rfl, hb1⟩
  have HO1 := hd (HO0.o.below hb1)
  clear hb1 HO0
  go_wp2_with fail
  refine (put_any _ w _ w.heap.size [] HO1.o ?_).mono ?_
  · simp [ByteArray.size]; omega
  rintro x w2 ⟨rfl, hO2⟩
  have HO2 := hd hO2
  clear hO2 HO1
  go_wp2_with fail
  refine (itoa_any p hp0 hp1 _ (HT.o _ HO2.o.bel)).mono ?_
  rintro x w3 ⟨rfl, hb3⟩
  have HO3 := hd (HO2.o.below hb3)
  clear hb3 HO2
  go_wp2_with fail
  refine (put_any _ w _ w.heap.size _ HO3.o ?_).mono ?_
  · simp [ByteArray.size]; omega
  rintro x w4 ⟨rfl, hO4⟩
  have HO4 := hd hO4
  clear hO4 HO3
  go_wp2_with fail
  refine (put_any _ w _ w.heap.size _ HO4.o ?_).mono ?_
  · simp [ByteArray.size]; omega
  rintro x w5 ⟨rfl, hO5⟩
  obtain ⟨A', n', c', q1, q2, q3⟩ := hO5.ex
  have e0 := q1.cell 0 (by simp)
  simp only [List.getElem_cons_zero] at e0
  have HQ : Hd (w5.ownsRow w.heap.size 5 1 (.slice A' n' c') n' (cellsB (T.ans [101, 120, 101, 99, 117, 116, 105, 111, 110] e p))) := hd (by
    subst q3
    have h := own_mono q2 (Nat.le_succ _)
    rw [HA.o, if_pos hpp]
    simpa using h)
  have HB5 := hd hO5.bel
  clear hO5 q1 q2 q3
  go_wp2
  go_ret
  exact ⟨⟨_, _, rfl, HQ.o⟩, HB5.o⟩
theorem fail0p_own (s : Int) (b1 : (s == 400) = false) (b2 : (s == 401) = false) (b3 : (s == 404) = false) (b4 : (s == 413) = false) (b5 : (s == 422) = false) (e p : Int) (w : World) (he0 : -9223372036854775808 ≤ e) (he1 : e ≤ 9223372036854775807) (hp0 : -9223372036854775808 ≤ p) (hp1 : p ≤ 9223372036854775807) (hpp : 0 ≤ p) (hT : Pow w.heap.size w) :
    Calls Tryd.prog 9 #[.int .i64 s, .int .i64 e, .int .i64 p] w fun x w' => (∃ v m, x = .returned v ∧ w'.ownsRow w.heap.size 5 1 v m (cellsB (T.ans [105, 110, 116, 101, 114, 110, 97, 108] e p))) ∧ Below w.heap.size w w' := by
  have HT := hd hT
  have HE := T.it_len e he0 he1
  have HP := T.it_len p hp0 hp1
  have k1 : ∀ N : Nat, N ≤ 1000 → ¬ 9223372036854775807 < N + (T.it e).length := fun N h => by omega
  have k2 : ∀ N : Nat, N ≤ 1000 → ¬ 281474976710656 < N + (T.it e).length := fun N h => by omega
  have k3 : ∀ N : Nat, N ≤ 1000 → ¬ 9223372036854775807 < N + (T.it p).length := fun N h => by omega
  have k4 : ∀ N : Nat, N ≤ 1000 → ¬ 281474976710656 < N + (T.it p).length := fun N h => by omega
  have HA : Hd (T.ans [105, 110, 116, 101, 114, 110, 97, 108] e p = [123, 34, 115, 116, 97, 116, 117, 115, 34, 58, 34, 101, 114, 114, 111, 114, 34, 44, 34, 101, 114, 114, 111, 114, 84, 121, 112, 101, 34, 58, 34] ++ [105, 110, 116, 101, 114, 110, 97, 108] ++ [34, 44, 34, 101, 114, 114, 111, 114, 34, 58, 34, 119, 101, 105, 114, 58, 32, 101, 114, 114, 111, 114, 32] ++ T.it e ++ (if 0 ≤ p then [32, 97, 116, 32] ++ T.it p else []) ++ [34, 125]) := hd rfl
  clear hT
  have HO0 : Hd (Ou w (w.alloc (.cells #[.slice none 0 0] 51)) w.heap.size []) := hd <| by
    refine ⟨⟨none, 0, 0, ?_, ⟨rfl, .inl ⟨rfl, rfl⟩⟩, rfl⟩, (Below.refl _ _).alloc (Nat.le_refl _) _⟩
    show (w.heap.push (.cells #[.slice none 0 0] 51))[w.heap.size]? = _
    simp
  go_enter Tryd.func9, Tryd.ntmps9
  go_wp2_with fail
  refine (itoa_any e he0 he1 _ (HT.o _ HO0.o.bel)).mono ?_
  rintro x w1 ⟨rfl, hb1⟩
  have HO1 := hd (HO0.o.below hb1)
  clear hb1 HO0
  go_wp2_with fail
  refine (put_any _ w _ w.heap.size [] HO1.o ?_).mono ?_
  · simp [ByteArray.size]; omega
  rintro x w2 ⟨rfl, hO2⟩
  have HO2 := hd hO2
  clear hO2 HO1
  go_wp2_with fail
  refine (itoa_any p hp0 hp1 _ (HT.o _ HO2.o.bel)).mono ?_
  rintro x w3 ⟨rfl, hb3⟩
  have HO3 := hd (HO2.o.below hb3)
  clear hb3 HO2
  go_wp2_with fail
  refine (put_any _ w _ w.heap.size _ HO3.o ?_).mono ?_
  · simp [ByteArray.size]; omega
  rintro x w4 ⟨rfl, hO4⟩
  have HO4 := hd hO4
  clear hO4 HO3
  go_wp2_with fail
  refine (put_any _ w _ w.heap.size _ HO4.o ?_).mono ?_
  · simp [ByteArray.size]; omega
  rintro x w5 ⟨rfl, hO5⟩
  obtain ⟨A', n', c', q1, q2, q3⟩ := hO5.ex
  have e0 := q1.cell 0 (by simp)
  simp only [List.getElem_cons_zero] at e0
  have HQ : Hd (w5.ownsRow w.heap.size 5 1 (.slice A' n' c') n' (cellsB (T.ans [105, 110, 116, 101, 114, 110, 97, 108] e p))) := hd (by
    subst q3
    have h := own_mono q2 (Nat.le_succ _)
    rw [HA.o, if_pos hpp]
    simpa using h)
  have HB5 := hd hO5.bel
  clear hO5 q1 q2 q3
  go_wp2
  go_ret
  exact ⟨⟨_, _, rfl, HQ.o⟩, HB5.o⟩
theorem fail400n_own (e p : Int) (w : World) (he0 : -9223372036854775808 ≤ e) (he1 : e ≤ 9223372036854775807) (hp0 : -9223372036854775808 ≤ p) (hp1 : p ≤ 9223372036854775807) (hpp : p < 0) (hT : Pow w.heap.size w) :
    Calls Tryd.prog 9 #[.int .i64 400, .int .i64 e, .int .i64 p] w fun x w' => (∃ v m, x = .returned v ∧ w'.ownsRow w.heap.size 5 1 v m (cellsB (T.ans [98, 97, 100, 95, 100, 97, 116, 97] e p))) ∧ Below w.heap.size w w' := by
  have HT := hd hT
  have HE := T.it_len e he0 he1
  have HP := T.it_len p hp0 hp1
  have k1 : ∀ N : Nat, N ≤ 1000 → ¬ 9223372036854775807 < N + (T.it e).length := fun N h => by omega
  have k2 : ∀ N : Nat, N ≤ 1000 → ¬ 281474976710656 < N + (T.it e).length := fun N h => by omega
  have k3 : ∀ N : Nat, N ≤ 1000 → ¬ 9223372036854775807 < N + (T.it p).length := fun N h => by omega
  have k4 : ∀ N : Nat, N ≤ 1000 → ¬ 281474976710656 < N + (T.it p).length := fun N h => by omega
  have HA : Hd (T.ans [98, 97, 100, 95, 100, 97, 116, 97] e p = [123, 34, 115, 116, 97, 116, 117, 115, 34, 58, 34, 101, 114, 114, 111, 114, 34, 44, 34, 101, 114, 114, 111, 114, 84, 121, 112, 101, 34, 58, 34] ++ [98, 97, 100, 95, 100, 97, 116, 97] ++ [34, 44, 34, 101, 114, 114, 111, 114, 34, 58, 34, 119, 101, 105, 114, 58, 32, 101, 114, 114, 111, 114, 32] ++ T.it e ++ (if 0 ≤ p then [32, 97, 116, 32] ++ T.it p else []) ++ [34, 125]) := hd rfl
  clear hT
  have HO0 : Hd (Ou w (w.alloc (.cells #[.slice none 0 0] 51)) w.heap.size []) := hd <| by
    refine ⟨⟨none, 0, 0, ?_, ⟨rfl, .inl ⟨rfl, rfl⟩⟩, rfl⟩, (Below.refl _ _).alloc (Nat.le_refl _) _⟩
    show (w.heap.push (.cells #[.slice none 0 0] 51))[w.heap.size]? = _
    simp
  go_enter Tryd.func9, Tryd.ntmps9
  go_wp2_with fail
  refine (itoa_any e he0 he1 _ (HT.o _ HO0.o.bel)).mono ?_
  rintro x w1 ⟨rfl, hb1⟩
  have HO1 := hd (HO0.o.below hb1)
  clear hb1 HO0
  go_wp2_with fail
  refine (put_any _ w _ w.heap.size [] HO1.o ?_).mono ?_
  · simp [ByteArray.size]; omega
  rintro x w2 ⟨rfl, hO2⟩
  have HO2 := hd hO2
  clear hO2 HO1
  go_wp2_with fail
  refine (put_any _ w _ w.heap.size _ HO2.o ?_).mono ?_
  · simp [ByteArray.size]; omega
  rintro x w5 ⟨rfl, hO5⟩
  obtain ⟨A', n', c', q1, q2, q3⟩ := hO5.ex
  have e0 := q1.cell 0 (by simp)
  simp only [List.getElem_cons_zero] at e0
  have HQ : Hd (w5.ownsRow w.heap.size 5 1 (.slice A' n' c') n' (cellsB (T.ans [98, 97, 100, 95, 100, 97, 116, 97] e p))) := hd (by
    subst q3
    have h := own_mono q2 (Nat.le_succ _)
    rw [HA.o, if_neg (by omega)]
    simpa using h)
  have HB5 := hd hO5.bel
  clear hO5 q1 q2 q3
  go_wp2
  go_ret
  exact ⟨⟨_, _, rfl, HQ.o⟩, HB5.o⟩
theorem fail401n_own (e p : Int) (w : World) (he0 : -9223372036854775808 ≤ e) (he1 : e ≤ 9223372036854775807) (hp0 : -9223372036854775808 ≤ p) (hp1 : p ≤ 9223372036854775807) (hpp : p < 0) (hT : Pow w.heap.size w) :
    Calls Tryd.prog 9 #[.int .i64 401, .int .i64 e, .int .i64 p] w fun x w' => (∃ v m, x = .returned v ∧ w'.ownsRow w.heap.size 5 1 v m (cellsB (T.ans [117, 110, 97, 117, 116, 104, 111, 114, 105, 122, 101, 100] e p))) ∧ Below w.heap.size w w' := by
  have HT := hd hT
  have HE := T.it_len e he0 he1
  have HP := T.it_len p hp0 hp1
  have k1 : ∀ N : Nat, N ≤ 1000 → ¬ 9223372036854775807 < N + (T.it e).length := fun N h => by omega
  have k2 : ∀ N : Nat, N ≤ 1000 → ¬ 281474976710656 < N + (T.it e).length := fun N h => by omega
  have k3 : ∀ N : Nat, N ≤ 1000 → ¬ 9223372036854775807 < N + (T.it p).length := fun N h => by omega
  have k4 : ∀ N : Nat, N ≤ 1000 → ¬ 281474976710656 < N + (T.it p).length := fun N h => by omega
  have HA : Hd (T.ans [117, 110, 97, 117, 116, 104, 111, 114, 105, 122, 101, 100] e p = [123, 34, 115, 116, 97, 116, 117, 115, 34, 58, 34, 101, 114, 114, 111, 114, 34, 44, 34, 101, 114, 114, 111, 114, 84, 121, 112, 101, 34, 58, 34] ++ [117, 110, 97, 117, 116, 104, 111, 114, 105, 122, 101, 100] ++ [34, 44, 34, 101, 114, 114, 111, 114, 34, 58, 34, 119, 101, 105, 114, 58, 32, 101, 114, 114, 111, 114, 32] ++ T.it e ++ (if 0 ≤ p then [32, 97, 116, 32] ++ T.it p else []) ++ [34, 125]) := hd rfl
  clear hT
  have HO0 : Hd (Ou w (w.alloc (.cells #[.slice none 0 0] 51)) w.heap.size []) := hd <| by
    refine ⟨⟨none, 0, 0, ?_, ⟨rfl, .inl ⟨rfl, rfl⟩⟩, rfl⟩, (Below.refl _ _).alloc (Nat.le_refl _) _⟩
    show (w.heap.push (.cells #[.slice none 0 0] 51))[w.heap.size]? = _
    simp
  go_enter Tryd.func9, Tryd.ntmps9
  go_wp2_with fail
  refine (itoa_any e he0 he1 _ (HT.o _ HO0.o.bel)).mono ?_
  rintro x w1 ⟨rfl, hb1⟩
  have HO1 := hd (HO0.o.below hb1)
  clear hb1 HO0
  go_wp2_with fail
  refine (put_any _ w _ w.heap.size [] HO1.o ?_).mono ?_
  · simp [ByteArray.size]; omega
  rintro x w2 ⟨rfl, hO2⟩
  have HO2 := hd hO2
  clear hO2 HO1
  go_wp2_with fail
  refine (put_any _ w _ w.heap.size _ HO2.o ?_).mono ?_
  · simp [ByteArray.size]; omega
  rintro x w5 ⟨rfl, hO5⟩
  obtain ⟨A', n', c', q1, q2, q3⟩ := hO5.ex
  have e0 := q1.cell 0 (by simp)
  simp only [List.getElem_cons_zero] at e0
  have HQ : Hd (w5.ownsRow w.heap.size 5 1 (.slice A' n' c') n' (cellsB (T.ans [117, 110, 97, 117, 116, 104, 111, 114, 105, 122, 101, 100] e p))) := hd (by
    subst q3
    have h := own_mono q2 (Nat.le_succ _)
    rw [HA.o, if_neg (by omega)]
    simpa using h)
  have HB5 := hd hO5.bel
  clear hO5 q1 q2 q3
  go_wp2
  go_ret
  exact ⟨⟨_, _, rfl, HQ.o⟩, HB5.o⟩
theorem fail404n_own (e p : Int) (w : World) (he0 : -9223372036854775808 ≤ e) (he1 : e ≤ 9223372036854775807) (hp0 : -9223372036854775808 ≤ p) (hp1 : p ≤ 9223372036854775807) (hpp : p < 0) (hT : Pow w.heap.size w) :
    Calls Tryd.prog 9 #[.int .i64 404, .int .i64 e, .int .i64 p] w fun x w' => (∃ v m, x = .returned v ∧ w'.ownsRow w.heap.size 5 1 v m (cellsB (T.ans [110, 111, 116, 95, 102, 111, 117, 110, 100] e p))) ∧ Below w.heap.size w w' := by
  have HT := hd hT
  have HE := T.it_len e he0 he1
  have HP := T.it_len p hp0 hp1
  have k1 : ∀ N : Nat, N ≤ 1000 → ¬ 9223372036854775807 < N + (T.it e).length := fun N h => by omega
  have k2 : ∀ N : Nat, N ≤ 1000 → ¬ 281474976710656 < N + (T.it e).length := fun N h => by omega
  have k3 : ∀ N : Nat, N ≤ 1000 → ¬ 9223372036854775807 < N + (T.it p).length := fun N h => by omega
  have k4 : ∀ N : Nat, N ≤ 1000 → ¬ 281474976710656 < N + (T.it p).length := fun N h => by omega
  have HA : Hd (T.ans [110, 111, 116, 95, 102, 111, 117, 110, 100] e p = [123, 34, 115, 116, 97, 116, 117, 115, 34, 58, 34, 101, 114, 114, 111, 114, 34, 44, 34, 101, 114, 114, 111, 114, 84, 121, 112, 101, 34, 58, 34] ++ [110, 111, 116, 95, 102, 111, 117, 110, 100] ++ [34, 44, 34, 101, 114, 114, 111, 114, 34, 58, 34, 119, 101, 105, 114, 58, 32, 101, 114, 114, 111, 114, 32] ++ T.it e ++ (if 0 ≤ p then [32, 97, 116, 32] ++ T.it p else []) ++ [34, 125]) := hd rfl
  clear hT
  have HO0 : Hd (Ou w (w.alloc (.cells #[.slice none 0 0] 51)) w.heap.size []) := hd <| by
    refine ⟨⟨none, 0, 0, ?_, ⟨rfl, .inl ⟨rfl, rfl⟩⟩, rfl⟩, (Below.refl _ _).alloc (Nat.le_refl _) _⟩
    show (w.heap.push (.cells #[.slice none 0 0] 51))[w.heap.size]? = _
    simp
  go_enter Tryd.func9, Tryd.ntmps9
  go_wp2_with fail
  refine (itoa_any e he0 he1 _ (HT.o _ HO0.o.bel)).mono ?_
  rintro x w1 ⟨rfl, hb1⟩
  have HO1 := hd (HO0.o.below hb1)
  clear hb1 HO0
  go_wp2_with fail
  refine (put_any _ w _ w.heap.size [] HO1.o ?_).mono ?_
  · simp [ByteArray.size]; omega
  rintro x w2 ⟨rfl, hO2⟩
  have HO2 := hd hO2
  clear hO2 HO1
  go_wp2_with fail
  refine (put_any _ w _ w.heap.size _ HO2.o ?_).mono ?_
  · simp [ByteArray.size]; omega
  rintro x w5 ⟨rfl, hO5⟩
  obtain ⟨A', n', c', q1, q2, q3⟩ := hO5.ex
  have e0 := q1.cell 0 (by simp)
  simp only [List.getElem_cons_zero] at e0
  have HQ : Hd (w5.ownsRow w.heap.size 5 1 (.slice A' n' c') n' (cellsB (T.ans [110, 111, 116, 95, 102, 111, 117, 110, 100] e p))) := hd (by
    subst q3
    have h := own_mono q2 (Nat.le_succ _)
    rw [HA.o, if_neg (by omega)]
    simpa using h)
  have HB5 := hd hO5.bel
  clear hO5 q1 q2 q3
  go_wp2
  go_ret
  exact ⟨⟨_, _, rfl, HQ.o⟩, HB5.o⟩
theorem fail413n_own (e p : Int) (w : World) (he0 : -9223372036854775808 ≤ e) (he1 : e ≤ 9223372036854775807) (hp0 : -9223372036854775808 ≤ p) (hp1 : p ≤ 9223372036854775807) (hpp : p < 0) (hT : Pow w.heap.size w) :
    Calls Tryd.prog 9 #[.int .i64 413, .int .i64 e, .int .i64 p] w fun x w' => (∃ v m, x = .returned v ∧ w'.ownsRow w.heap.size 5 1 v m (cellsB (T.ans [116, 111, 111, 95, 108, 97, 114, 103, 101] e p))) ∧ Below w.heap.size w w' := by
  have HT := hd hT
  have HE := T.it_len e he0 he1
  have HP := T.it_len p hp0 hp1
  have k1 : ∀ N : Nat, N ≤ 1000 → ¬ 9223372036854775807 < N + (T.it e).length := fun N h => by omega
  have k2 : ∀ N : Nat, N ≤ 1000 → ¬ 281474976710656 < N + (T.it e).length := fun N h => by omega
  have k3 : ∀ N : Nat, N ≤ 1000 → ¬ 9223372036854775807 < N + (T.it p).length := fun N h => by omega
  have k4 : ∀ N : Nat, N ≤ 1000 → ¬ 281474976710656 < N + (T.it p).length := fun N h => by omega
  have HA : Hd (T.ans [116, 111, 111, 95, 108, 97, 114, 103, 101] e p = [123, 34, 115, 116, 97, 116, 117, 115, 34, 58, 34, 101, 114, 114, 111, 114, 34, 44, 34, 101, 114, 114, 111, 114, 84, 121, 112, 101, 34, 58, 34] ++ [116, 111, 111, 95, 108, 97, 114, 103, 101] ++ [34, 44, 34, 101, 114, 114, 111, 114, 34, 58, 34, 119, 101, 105, 114, 58, 32, 101, 114, 114, 111, 114, 32] ++ T.it e ++ (if 0 ≤ p then [32, 97, 116, 32] ++ T.it p else []) ++ [34, 125]) := hd rfl
  clear hT
  have HO0 : Hd (Ou w (w.alloc (.cells #[.slice none 0 0] 51)) w.heap.size []) := hd <| by
    refine ⟨⟨none, 0, 0, ?_, ⟨rfl, .inl ⟨rfl, rfl⟩⟩, rfl⟩, (Below.refl _ _).alloc (Nat.le_refl _) _⟩
    show (w.heap.push (.cells #[.slice none 0 0] 51))[w.heap.size]? = _
    simp
  go_enter Tryd.func9, Tryd.ntmps9
  go_wp2_with fail
  refine (itoa_any e he0 he1 _ (HT.o _ HO0.o.bel)).mono ?_
  rintro x w1 ⟨rfl, hb1⟩
  have HO1 := hd (HO0.o.below hb1)
  clear hb1 HO0
  go_wp2_with fail
  refine (put_any _ w _ w.heap.size [] HO1.o ?_).mono ?_
  · simp [ByteArray.size]; omega
  rintro x w2 ⟨rfl, hO2⟩
  have HO2 := hd hO2
  clear hO2 HO1
  go_wp2_with fail
  refine (put_any _ w _ w.heap.size _ HO2.o ?_).mono ?_
  · simp [ByteArray.size]; omega
  rintro x w5 ⟨rfl, hO5⟩
  obtain ⟨A', n', c', q1, q2, q3⟩ := hO5.ex
  have e0 := q1.cell 0 (by simp)
  simp only [List.getElem_cons_zero] at e0
  have HQ : Hd (w5.ownsRow w.heap.size 5 1 (.slice A' n' c') n' (cellsB (T.ans [116, 111, 111, 95, 108, 97, 114, 103, 101] e p))) := hd (by
    subst q3
    have h := own_mono q2 (Nat.le_succ _)
    rw [HA.o, if_neg (by omega)]
    simpa using h)
  have HB5 := hd hO5.bel
  clear hO5 q1 q2 q3
  go_wp2
  go_ret
  exact ⟨⟨_, _, rfl, HQ.o⟩, HB5.o⟩
theorem fail422n_own (e p : Int) (w : World) (he0 : -9223372036854775808 ≤ e) (he1 : e ≤ 9223372036854775807) (hp0 : -9223372036854775808 ≤ p) (hp1 : p ≤ 9223372036854775807) (hpp : p < 0) (hT : Pow w.heap.size w) :
    Calls Tryd.prog 9 #[.int .i64 422, .int .i64 e, .int .i64 p] w fun x w' => (∃ v m, x = .returned v ∧ w'.ownsRow w.heap.size 5 1 v m (cellsB (T.ans [101, 120, 101, 99, 117, 116, 105, 111, 110] e p))) ∧ Below w.heap.size w w' := by
  have HT := hd hT
  have HE := T.it_len e he0 he1
  have HP := T.it_len p hp0 hp1
  have k1 : ∀ N : Nat, N ≤ 1000 → ¬ 9223372036854775807 < N + (T.it e).length := fun N h => by omega
  have k2 : ∀ N : Nat, N ≤ 1000 → ¬ 281474976710656 < N + (T.it e).length := fun N h => by omega
  have k3 : ∀ N : Nat, N ≤ 1000 → ¬ 9223372036854775807 < N + (T.it p).length := fun N h => by omega
  have k4 : ∀ N : Nat, N ≤ 1000 → ¬ 281474976710656 < N + (T.it p).length := fun N h => by omega
  have HA : Hd (T.ans [101, 120, 101, 99, 117, 116, 105, 111, 110] e p = [123, 34, 115, 116, 97, 116, 117, 115, 34, 58, 34, 101, 114, 114, 111, 114, 34, 44, 34, 101, 114, 114, 111, 114, 84, 121, 112, 101, 34, 58, 34] ++ [101, 120, 101, 99, 117, 116, 105, 111, 110] ++ [34, 44, 34, 101, 114, 114, 111, 114, 34, 58, 34, 119, 101, 105, 114, 58, 32, 101, 114, 114, 111, 114, 32] ++ T.it e ++ (if 0 ≤ p then [32, 97, 116, 32] ++ T.it p else []) ++ [34, 125]) := hd rfl
  clear hT
  have HO0 : Hd (Ou w (w.alloc (.cells #[.slice none 0 0] 51)) w.heap.size []) := hd <| by
    refine ⟨⟨none, 0, 0, ?_, ⟨rfl, .inl ⟨rfl, rfl⟩⟩, rfl⟩, (Below.refl _ _).alloc (Nat.le_refl _) _⟩
    show (w.heap.push (.cells #[.slice none 0 0] 51))[w.heap.size]? = _
    simp
  go_enter Tryd.func9, Tryd.ntmps9
  go_wp2_with fail
  refine (itoa_any e he0 he1 _ (HT.o _ HO0.o.bel)).mono ?_
  rintro x w1 ⟨rfl, hb1⟩
  have HO1 := hd (HO0.o.below hb1)
  clear hb1 HO0
  go_wp2_with fail
  refine (put_any _ w _ w.heap.size [] HO1.o ?_).mono ?_
  · simp [ByteArray.size]; omega
  rintro x w2 ⟨rfl, hO2⟩
  have HO2 := hd hO2
  clear hO2 HO1
  go_wp2_with fail
  refine (put_any _ w _ w.heap.size _ HO2.o ?_).mono ?_
  · simp [ByteArray.size]; omega
  rintro x w5 ⟨rfl, hO5⟩
  obtain ⟨A', n', c', q1, q2, q3⟩ := hO5.ex
  have e0 := q1.cell 0 (by simp)
  simp only [List.getElem_cons_zero] at e0
  have HQ : Hd (w5.ownsRow w.heap.size 5 1 (.slice A' n' c') n' (cellsB (T.ans [101, 120, 101, 99, 117, 116, 105, 111, 110] e p))) := hd (by
    subst q3
    have h := own_mono q2 (Nat.le_succ _)
    rw [HA.o, if_neg (by omega)]
    simpa using h)
  have HB5 := hd hO5.bel
  clear hO5 q1 q2 q3
  go_wp2
  go_ret
  exact ⟨⟨_, _, rfl, HQ.o⟩, HB5.o⟩
theorem fail0n_own (s : Int) (b1 : (s == 400) = false) (b2 : (s == 401) = false) (b3 : (s == 404) = false) (b4 : (s == 413) = false) (b5 : (s == 422) = false) (e p : Int) (w : World) (he0 : -9223372036854775808 ≤ e) (he1 : e ≤ 9223372036854775807) (hp0 : -9223372036854775808 ≤ p) (hp1 : p ≤ 9223372036854775807) (hpp : p < 0) (hT : Pow w.heap.size w) :
    Calls Tryd.prog 9 #[.int .i64 s, .int .i64 e, .int .i64 p] w fun x w' => (∃ v m, x = .returned v ∧ w'.ownsRow w.heap.size 5 1 v m (cellsB (T.ans [105, 110, 116, 101, 114, 110, 97, 108] e p))) ∧ Below w.heap.size w w' := by
  have HT := hd hT
  have HE := T.it_len e he0 he1
  have HP := T.it_len p hp0 hp1
  have k1 : ∀ N : Nat, N ≤ 1000 → ¬ 9223372036854775807 < N + (T.it e).length := fun N h => by omega
  have k2 : ∀ N : Nat, N ≤ 1000 → ¬ 281474976710656 < N + (T.it e).length := fun N h => by omega
  have k3 : ∀ N : Nat, N ≤ 1000 → ¬ 9223372036854775807 < N + (T.it p).length := fun N h => by omega
  have k4 : ∀ N : Nat, N ≤ 1000 → ¬ 281474976710656 < N + (T.it p).length := fun N h => by omega
  have HA : Hd (T.ans [105, 110, 116, 101, 114, 110, 97, 108] e p = [123, 34, 115, 116, 97, 116, 117, 115, 34, 58, 34, 101, 114, 114, 111, 114, 34, 44, 34, 101, 114, 114, 111, 114, 84, 121, 112, 101, 34, 58, 34] ++ [105, 110, 116, 101, 114, 110, 97, 108] ++ [34, 44, 34, 101, 114, 114, 111, 114, 34, 58, 34, 119, 101, 105, 114, 58, 32, 101, 114, 114, 111, 114, 32] ++ T.it e ++ (if 0 ≤ p then [32, 97, 116, 32] ++ T.it p else []) ++ [34, 125]) := hd rfl
  clear hT
  have HO0 : Hd (Ou w (w.alloc (.cells #[.slice none 0 0] 51)) w.heap.size []) := hd <| by
    refine ⟨⟨none, 0, 0, ?_, ⟨rfl, .inl ⟨rfl, rfl⟩⟩, rfl⟩, (Below.refl _ _).alloc (Nat.le_refl _) _⟩
    show (w.heap.push (.cells #[.slice none 0 0] 51))[w.heap.size]? = _
    simp
  go_enter Tryd.func9, Tryd.ntmps9
  go_wp2_with fail
  refine (itoa_any e he0 he1 _ (HT.o _ HO0.o.bel)).mono ?_
  rintro x w1 ⟨rfl, hb1⟩
  have HO1 := hd (HO0.o.below hb1)
  clear hb1 HO0
  go_wp2_with fail
  refine (put_any _ w _ w.heap.size [] HO1.o ?_).mono ?_
  · simp [ByteArray.size]; omega
  rintro x w2 ⟨rfl, hO2⟩
  have HO2 := hd hO2
  clear hO2 HO1
  go_wp2_with fail
  refine (put_any _ w _ w.heap.size _ HO2.o ?_).mono ?_
  · simp [ByteArray.size]; omega
  rintro x w5 ⟨rfl, hO5⟩
  obtain ⟨A', n', c', q1, q2, q3⟩ := hO5.ex
  have e0 := q1.cell 0 (by simp)
  simp only [List.getElem_cons_zero] at e0
  have HQ : Hd (w5.ownsRow w.heap.size 5 1 (.slice A' n' c') n' (cellsB (T.ans [105, 110, 116, 101, 114, 110, 97, 108] e p))) := hd (by
    subst q3
    have h := own_mono q2 (Nat.le_succ _)
    rw [HA.o, if_neg (by omega)]
    simpa using h)
  have HB5 := hd hO5.bel
  clear hO5 q1 q2 q3
  go_wp2
  go_ret
  exact ⟨⟨_, _, rfl, HQ.o⟩, HB5.o⟩
theorem failure_own (s e p : Int) (w : World) (he0 : -9223372036854775808 ≤ e) (he1 : e ≤ 9223372036854775807) (hp0 : -9223372036854775808 ≤ p) (hp1 : p ≤ 9223372036854775807) (hT : Pow w.heap.size w) :
    Calls Tryd.prog 9 #[.int .i64 s, .int .i64 e, .int .i64 p] w fun x w' => (∃ v m, x = .returned v ∧ w'.ownsRow w.heap.size 5 1 v m (cellsB (T.ans (T.ty s) e p))) ∧ Below w.heap.size w w' := by
  by_cases hp : 0 ≤ p
  · rcases T.cases s with (rfl | rfl | rfl | rfl | rfl) | ⟨b1, b2, b3, b4, b5, ht⟩
    · exact fail400p_own e p w he0 he1 hp0 hp1 hp hT
    · exact fail401p_own e p w he0 he1 hp0 hp1 hp hT
    · exact fail404p_own e p w he0 he1 hp0 hp1 hp hT
    · exact fail413p_own e p w he0 he1 hp0 hp1 hp hT
    · exact fail422p_own e p w he0 he1 hp0 hp1 hp hT
    · rw [ht]; exact fail0p_own s b1 b2 b3 b4 b5 e p w he0 he1 hp0 hp1 hp hT
  · rcases T.cases s with (rfl | rfl | rfl | rfl | rfl) | ⟨b1, b2, b3, b4, b5, ht⟩
    · exact fail400n_own e p w he0 he1 hp0 hp1 (by omega) hT
    · exact fail401n_own e p w he0 he1 hp0 hp1 (by omega) hT
    · exact fail404n_own e p w he0 he1 hp0 hp1 (by omega) hT
    · exact fail413n_own e p w he0 he1 hp0 hp1 (by omega) hT
    · exact fail422n_own e p w he0 he1 hp0 hp1 (by omega) hT
    · rw [ht]; exact fail0n_own s b1 b2 b3 b4 b5 e p w he0 he1 hp0 hp1 (by omega) hT
end Go.Proofs.YtcbggkdginfakaaDoor
