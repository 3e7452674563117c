/- weirref29.Failure -/
import Derived.Test.YtifaepkeoffcfaaDoorRFailB
namespace Go.Proofs.YtifaepkeoffcfaaDoor
open Go.RowKit
set_option linter.unusedVariables false
set_option linter.unusedSimpArgs false
theorem rfail400p (e p : Int) (w : World) (he0 : -9223372036854775808 ≤ e) (he1 : e ≤ 9223372036854775807) (hp0 : -9223372036854775808 ≤ p) (hp1 : p ≤ 9223372036854775807) (hpp : 0 ≤ p) (hT : Pow w.heap.size w) :
    Calls Tryd.prog 6 #[.int .i64 400, .int .i64 e, .int .i64 p] w fun x w' => (∃ v m, x = .returned v ∧ IsL 1 w' v m (cellsB (T.ans [98, 97, 100, 95, 100, 97, 116, 97] e p))) ∧ Below w.heap.size w w' := by
  have HT := hd hT
  have HE := T.it_len e he0 he1
  have HP := T.it_len p hp0 hp1
  have k1 : ∀ N : Nat, N ≤ 1000 → ¬ 9223372036854775807 < N + (T.it e).length := fun N h => by omega
  have k2 : ∀ N : Nat, N ≤ 1000 → ¬ 281474976710656 < N + (T.it e).length := fun N h => by omega
  have k3 : ∀ N : Nat, N ≤ 1000 → ¬ 9223372036854775807 < N + (T.it p).length := fun N h => by omega
  have k4 : ∀ N : Nat, N ≤ 1000 → ¬ 281474976710656 < N + (T.it p).length := fun N h => by omega
  have HA : Hd (T.ans [98, 97, 100, 95, 100, 97, 116, 97] e p = [123, 34, 115, 116, 97, 116, 117, 115, 34, 58, 34, 101, 114, 114, 111, 114, 34, 44, 34, 101, 114, 114, 111, 114, 84, 121, 112, 101, 34, 58, 34] ++ [98, 97, 100, 95, 100, 97, 116, 97] ++ [34, 44, 34, 101, 114, 114, 111, 114, 34, 58, 34, 119, 101, 105, 114, 58, 32, 101, 114, 114, 111, 114, 32] ++ T.it e ++ (if 0 ≤ p then [32, 97, 116, 32] ++ T.it p else []) ++ [34, 125]) := hd rfl
  clear hT
  have k5 : ∀ N : Nat, N ≤ 1000 → ¬ 9223372036854775807 < N + (T.it e).length + 2 := fun N h => by omega
  have k6 : ∀ N : Nat, N ≤ 1000 → ¬ 281474976710656 < N + (T.it e).length + 2 := fun N h => by omega
  have k7 : ∀ N : Nat, N ≤ 1000 → ¬ 9223372036854775807 < N + (T.it e).length + (4 + (T.it p).length) := fun N h => by omega
  have k8 : ∀ N : Nat, N ≤ 1000 → ¬ 281474976710656 < N + (T.it e).length + (4 + (T.it p).length) := fun N h => by omega
  have k9 : ∀ N : Nat, N ≤ 1000 → ¬ 9223372036854775807 < N + (T.it e).length + (4 + (T.it p).length) + 2 := fun N h => by omega
  have k0 : ∀ N : Nat, N ≤ 1000 → ¬ 281474976710656 < N + (T.it e).length + (4 + (T.it p).length) + 2 := fun N h => by omega
  go_enter Tryd.func6, Tryd.ntmps6
  go_wp2_with fail
  refine (itoa_any e he0 he1 _ (HT.o _ (Below.refl _ _))).mono ?_
  rintro x w1 ⟨rfl, hb1⟩
  have HB1 := hd hb1
  clear hb1
  go_wp2_with fail
  refine (itoa_any p hp0 hp1 _ (HT.o _ HB1.o)).mono ?_
  rintro x w2 ⟨rfl, hb2⟩
  have HB2 := hd (bel HB1.o hb2)
  clear hb2
  go_wp2_with (refine wpList_bytes_isL _ 9 22 5 _ Tryd.underlying9 Tryd.underlying22 Tryd.underlying5 rfl _ rfl rfl ?_; intro v4 w4 hb4 h4; replace h4 := hd h4; have HB4 := hd (bel HB2.o hb4); clear hb4)
  have HQ : Hd (∃ m, IsL 1 w4 v4 m (cellsB (T.ans [98, 97, 100, 95, 100, 97, 116, 97] e p))) := hd (by
    have h := h4.o
    rw [HA.o, if_pos hpp]
    simpa using h)
  go_ret
  exact ⟨⟨_, HQ.o.choose, rfl, HQ.o.choose_spec⟩, HB4.o⟩
theorem rfail401p (e p : Int) (w : World) (he0 : -9223372036854775808 ≤ e) (he1 : e ≤ 9223372036854775807) (hp0 : -9223372036854775808 ≤ p) (hp1 : p ≤ 9223372036854775807) (hpp : 0 ≤ p) (hT : Pow w.heap.size w) :
    Calls Tryd.prog 6 #[.int .i64 401, .int .i64 e, .int .i64 p] w fun x w' => (∃ v m, x = .returned v ∧ IsL 1 w' v m (cellsB (T.ans [117, 110, 97, 117, 116, 104, 111, 114, 105, 122, 101, 100] e p))) ∧ Below w.heap.size w w' := by
  have HT := hd hT
  have HE := T.it_len e he0 he1
  have HP := T.it_len p hp0 hp1
  have k1 : ∀ N : Nat, N ≤ 1000 → ¬ 9223372036854775807 < N + (T.it e).length := fun N h => by omega
  have k2 : ∀ N : Nat, N ≤ 1000 → ¬ 281474976710656 < N + (T.it e).length := fun N h => by omega
  have k3 : ∀ N : Nat, N ≤ 1000 → ¬ 9223372036854775807 < N + (T.it p).length := fun N h => by omega
  have k4 : ∀ N : Nat, N ≤ 1000 → ¬ 281474976710656 < N + (T.it p).length := fun N h => by omega
  have HA : Hd (T.ans [117, 110, 97, 117, 116, 104, 111, 114, 105, 122, 101, 100] e p = [123, 34, 115, 116, 97, 116, 117, 115, 34, 58, 34, 101, 114, 114, 111, 114, 34, 44, 34, 101, 114, 114, 111, 114, 84, 121, 112, 101, 34, 58, 34] ++ [117, 110, 97, 117, 116, 104, 111, 114, 105, 122, 101, 100] ++ [34, 44, 34, 101, 114, 114, 111, 114, 34, 58, 34, 119, 101, 105, 114, 58, 32, 101, 114, 114, 111, 114, 32] ++ T.it e ++ (if 0 ≤ p then [32, 97, 116, 32] ++ T.it p else []) ++ [34, 125]) := hd rfl
  clear hT
  have k5 : ∀ N : Nat, N ≤ 1000 → ¬ 9223372036854775807 < N + (T.it e).length + 2 := fun N h => by omega
  have k6 : ∀ N : Nat, N ≤ 1000 → ¬ 281474976710656 < N + (T.it e).length + 2 := fun N h => by omega
  have k7 : ∀ N : Nat, N ≤ 1000 → ¬ 9223372036854775807 < N + (T.it e).length + (4 + (T.it p).length) := fun N h => by omega
  have k8 : ∀ N : Nat, N ≤ 1000 → ¬ 281474976710656 < N + (T.it e).length + (4 + (T.it p).length) := fun N h => by omega
  have k9 : ∀ N : Nat, N ≤ 1000 → ¬ 9223372036854775807 < N + (T.it e).length + (4 + (T.it p).length) + 2 := fun N h => by omega
  have k0 : ∀ N : Nat, N ≤ 1000 → ¬ 281474976710656 < N + (T.it e).length + (4 + (T.it p).length) + 2 := fun N h => by omega
  go_enter Tryd.func6, Tryd.ntmps6
  go_wp2_with fail
  refine (itoa_any e he0 he1 _ (HT.o _ (Below.refl _ _))).mono ?_
  rintro x w1 ⟨rfl, hb1⟩
  have HB1 := hd hb1
  clear hb1
  go_wp2_with fail
  refine (itoa_any p hp0 hp1 _ (HT.o _ HB1.o)).mono ?_
  rintro x w2 ⟨rfl, hb2⟩
  have HB2 := hd (bel HB1.o hb2)
  clear hb2
  go_wp2_with (refine wpList_bytes_isL _ 9 22 5 _ Tryd.underlying9 Tryd.underlying22 Tryd.underlying5 rfl _ rfl rfl ?_; intro v4 w4 hb4 h4; replace h4 := hd h4; have HB4 := hd (bel HB2.o hb4); clear hb4)
  have HQ : Hd (∃ m, IsL 1 w4 v4 m (cellsB (T.ans [117, 110, 97, 117, 116, 104, 111, 114, 105, 122, 101, 100] e p))) := hd (by
    have h := h4.o
    rw [HA.o, if_pos hpp]
    simpa using h)
  go_ret
  exact ⟨⟨_, HQ.o.choose, rfl, HQ.o.choose_spec⟩, HB4.o⟩
theorem rfail404p (e p : Int) (w : World) (he0 : -9223372036854775808 ≤ e) (he1 : e ≤ 9223372036854775807) (hp0 : -9223372036854775808 ≤ p) (hp1 : p ≤ 9223372036854775807) (hpp : 0 ≤ p) (hT : Pow w.heap.size w) :
    Calls Tryd.prog 6 #[.int .i64 404, .int .i64 e, .int .i64 p] w fun x w' => (∃ v m, x = .returned v ∧ IsL 1 w' v m (cellsB (T.ans [110, 111, 116, 95, 102, 111, 117, 110, 100] e p))) ∧ Below w.heap.size w w' := by
  have HT := hd hT
  have HE := T.it_len e he0 he1
  have HP := T.it_len p hp0 hp1
  have k1 : ∀ N : Nat, N ≤ 1000 → ¬ 9223372036854775807 < N + (T.it e).length := fun N h => by omega
  have k2 : ∀ N : Nat, N ≤ 1000 → ¬ 281474976710656 < N + (T.it e).length := fun N h => by omega
  have k3 : ∀ N : Nat, N ≤ 1000 → ¬ 9223372036854775807 < N + (T.it p).length := fun N h => by omega
  have k4 : ∀ N : Nat, N ≤ 1000 → ¬ 281474976710656 < N + (T.it p).length := fun N h => by omega
  have HA : Hd (T.ans [110, 111, 116, 95, 102, 111, 117, 110, 100] e p = [123, 34, 115, 116, 97, 116, 117, 115, 34, 58, 34, 101, 114, 114, 111, 114, 34, 44, 34, 101, 114, 114, 111, 114, 84, 121, 112, 101, 34, 58, 34] ++ [110, 111, 116, 95, 102, 111, 117, 110, 100] ++ [34, 44, 34, 101, 114, 114, 111, 114, 34, 58, 34, 119, 101, 105, 114, 58, 32, 101, 114, 114, 111, 114, 32] ++ T.it e ++ (if 0 ≤ p then [32, 97, 116, 32] ++ T.it p else []) ++ [34, 125]) := hd rfl
  clear hT
  have k5 : ∀ N : Nat, N ≤ 1000 → ¬ 9223372036854775807 < N + (T.it e).length + 2 := fun N h => by omega
  have k6 : ∀ N : Nat, N ≤ 1000 → ¬ 281474976710656 < N + (T.it e).length + 2 := fun N h => by omega
  have k7 : ∀ N : Nat, N ≤ 1000 → ¬ 9223372036854775807 < N + (T.it e).length + (4 + (T.it p).length) := fun N h => by omega
  have k8 : ∀ N : Nat, N ≤ 1000 → ¬ 281474976710656 < N + (T.it e).length + (4 + (T.it p).length) := fun N h => by omega
  have k9 : ∀ N : Nat, N ≤ 1000 → ¬ 9223372036854775807 < N + (T.it e).length + (4 + (T.it p).length) + 2 := fun N h => by omega
  have k0 : ∀ N : Nat, N ≤ 1000 → ¬ 281474976710656 < N + (T.it e).length + (4 + (T.it p).length) + 2 := fun N h => by omega
  go_enter Tryd.func6, Tryd.ntmps6
  go_wp2_with fail
  refine (itoa_any e he0 he1 _ (HT.o _ (Below.refl _ _))).mono ?_
  rintro x w1 ⟨rfl, hb1⟩
  have HB1 := hd hb1
  clear hb1
  go_wp2_with fail
  refine (itoa_any p hp0 hp1 _ (HT.o _ HB1.o)).mono ?_
  rintro x w2 ⟨rfl, hb2⟩
  have HB2 := hd (bel HB1.o hb2)
  clear hb2
  go_wp2_with (refine wpList_bytes_isL _ 9 22 5 _ Tryd.underlying9 Tryd.underlying22 Tryd.underlying5 rfl _ rfl rfl ?_; intro v4 w4 hb4 h4; replace h4 := hd h4; have HB4 := hd (bel HB2.o hb4); clear hb4)
  have HQ : Hd (∃ m, IsL 1 w4 v4 m (cellsB (T.ans [110, 111, 116, 95, 102, 111, 117, 110, 100] e p))) := hd (by
    have h := h4.o
    rw [HA.o, if_pos hpp]
    simpa using h)
  go_ret
  exact ⟨⟨_, HQ.o.choose, rfl, HQ.o.choose_spec⟩, HB4.o⟩
theorem rfail413p (e p : Int) (w : World) (he0 : -9223372036854775808 ≤ e) (he1 : e ≤ 9223372036854775807) (hp0 : -9223372036854775808 ≤ p) (hp1 : p ≤ 9223372036854775807) (hpp : 0 ≤ p) (hT : Pow w.heap.size w) :
    Calls Tryd.prog 6 #[.int .i64 413, .int .i64 e, .int .i64 p] w fun x w' => (∃ v m, x = .returned v ∧ IsL 1 w' v m (cellsB (T.ans [116, 111, 111, 95, 108, 97, 114, 103, 101] e p))) ∧ Below w.heap.size w w' := by
  have HT := hd hT
  have HE := T.it_len e he0 he1
  have HP := T.it_len p hp0 hp1
  have k1 : ∀ N : Nat, N ≤ 1000 → ¬ 9223372036854775807 < N + (T.it e).length := fun N h => by omega
  have k2 : ∀ N : Nat, N ≤ 1000 → ¬ 281474976710656 < N + (T.it e).length := fun N h => by omega
  have k3 : ∀ N : Nat, N ≤ 1000 → ¬ 9223372036854775807 < N + (T.it p).length := fun N h => by omega
  have k4 : ∀ N : Nat, N ≤ 1000 → ¬ 281474976710656 < N + (T.it p).length := fun N h => by omega
  have HA : Hd (T.ans [116, 111, 111, 95, 108, 97, 114, 103, 101] e p = [123, 34, 115, 116, 97, 116, 117, 115, 34, 58, 34, 101, 114, 114, 111, 114, 34, 44, 34, 101, 114, 114, 111, 114, 84, 121, 112, 101, 34, 58, 34] ++ [116, 111, 111, 95, 108, 97, 114, 103, 101] ++ [34, 44, 34, 101, 114, 114, 111, 114, 34, 58, 34, 119, 101, 105, 114, 58, 32, 101, 114, 114, 111, 114, 32] ++ T.it e ++ (if 0 ≤ p then [32, 97, 116, 32] ++ T.it p else []) ++ [34, 125]) := hd rfl
  clear hT
  have k5 : ∀ N : Nat, N ≤ 1000 → ¬ 9223372036854775807 < N + (T.it e).length + 2 := fun N h => by omega
  have k6 : ∀ N : Nat, N ≤ 1000 → ¬ 281474976710656 < N + (T.it e).length + 2 := fun N h => by omega
  have k7 : ∀ N : Nat, N ≤ 1000 → ¬ 9223372036854775807 < N + (T.it e).length + (4 + (T.it p).length) := fun N h => by omega
  have k8 : ∀ N : Nat, N ≤ 1000 → ¬ 281474976710656 < N + (T.it e).length + (4 + (T.it p).length) := fun N h => by omega
  have k9 : ∀ N : Nat, N ≤ 1000 → ¬ 9223372036854775807 < N + (T.it e).length + (4 + (T.it p).length) + 2 := fun N h => by omega
  have k0 : ∀ N : Nat, N ≤ 1000 → ¬ 281474976710656 < N + (T.it e).length + (4 + (T.it p).length) + 2 := fun N h => by omega
  go_enter Tryd.func6, Tryd.ntmps6
  go_wp2_with fail
  refine (itoa_any e he0 he1 _ (HT.o _ (Below.refl _ _))).mono ?_
  rintro x w1 ⟨rfl, hb1⟩
  have HB1 := hd hb1
  clear hb1
  go_wp2_with fail
  refine (itoa_any p hp0 hp1 _ (HT.o _ HB1.o)).mono ?_
  rintro x w2 ⟨rfl, hb2⟩
  have HB2 := hd (bel HB1.o hb2)
  clear hb2
  go_wp2_with (refine wpList_bytes_isL _ 9 22 5 _ Tryd.underlying9 Tryd.underlying22 Tryd.underlying5 rfl _ rfl rfl ?_; intro v4 w4 hb4 h4; replace h4 := hd h4; have HB4 := hd (bel HB2.o hb4); clear hb4)
  have HQ : Hd (∃ m, IsL 1 w4 v4 m (cellsB (T.ans [116, 111, 111, 95, 108, 97, 114, 103, 101] e p))) := hd (by
    have h := h4.o
    rw [HA.o, if_pos hpp]
    simpa using h)
  go_ret
  exact ⟨⟨_, HQ.o.choose, rfl, HQ.o.choose_spec⟩, HB4.o⟩
theorem rfail422p (e p : Int) (w : World) (he0 : -9223372036854775808 ≤ e) (he1 : e ≤ 9223372036854775807) (hp0 : -9223372036854775808 ≤ p) (hp1 : p ≤ 9223372036854775807) (hpp : 0 ≤ p) (hT : Pow w.heap.size w) :
    Calls Tryd.prog 6 #[.int .i64 422, .int .i64 e, .int .i64 p] w fun x w' => (∃ v m, x = .returned v ∧ IsL 1 w' v m (cellsB (T.ans [101, 120, 101, 99, 117, 116, 105, 111, 110] e p))) ∧ Below w.heap.size w w' := by
  have HT := hd hT
  have HE := T.it_len e he0 he1
  have HP := T.it_len p hp0 hp1
  have k1 : ∀ N : Nat, N ≤ 1000 → ¬ 9223372036854775807 < N + (T.it e).length := fun N h => by omega
  have k2 : ∀ N : Nat, N ≤ 1000 → ¬ 281474976710656 < N + (T.it e).length := fun N h => by omega
  have k3 : ∀ N : Nat, N ≤ 1000 → ¬ 9223372036854775807 < N + (T.it p).length := fun N h => by omega
  have k4 : ∀ N : Nat, N ≤ 1000 → ¬ 281474976710656 < N + (T.it p).length := fun N h => by omega
  have HA : Hd (T.ans [101, 120, 101, 99, 117, 116, 105, 111, 110] e p = [123, 34, 115, 116, 97, 116, 117, 115, 34, 58, 34, 101, 114, 114, 111, 114, 34, 44, 34, 101, 114, 114, 111, 114, 84, 121, 112, 101, 34, 58, 34] ++ [101, 120, 101, 99, 117, 116, 105, 111, 110] ++ [34, 44, 34, 101, 114, 114, 111, 114, 34, 58, 34, 119, 101, 105, 114, 58, 32, 101, 114, 114, 111, 114, 32] ++ T.it e ++ (if 0 ≤ p then [32, 97, 116, 32] ++ T.it p else []) ++ [34, 125]) := hd rfl
  clear hT
  have k5 : ∀ N : Nat, N ≤ 1000 → ¬ 9223372036854775807 < N + (T.it e).length + 2 := fun N h => by omega
  have k6 : ∀ N : Nat, N ≤ 1000 → ¬ 281474976710656 < N + (T.it e).length + 2 := fun N h => by omega
  have k7 : ∀ N : Nat, N ≤ 1000 → ¬ 9223372036854775807 < N + (T.it e).length + (4 + (T.it p).length) := fun N h => by omega
  have k8 : ∀ N : Nat, N ≤ 1000 → ¬ 281474976710656 < N + (T.it e).length + (4 + (T.it p).length) := fun N h => by omega
  have k9 : ∀ N : Nat, N ≤ 1000 → ¬ 9223372036854775807 < N + (T.it e).length + (4 + (T.it p).length) + 2 := fun N h => by omega
  have k0 : ∀ N : Nat, N ≤ 1000 → ¬ 281474976710656 < N + (T.it e).length + (4 + (T.it p).length) + 2 := fun N h => by omega
  go_enter Tryd.func6, Tryd.ntmps6
  go_wp2_with fail
  refine (itoa_any e he0 he1 _ (HT.o _ (Below.refl _ _))).mono ?_
  rintro x w1 ⟨rfl, hb1⟩
  have HB1 := hd hb1
  clear hb1
  go_wp2_with fail
  refine (itoa_any p hp0 hp1 _ (HT.o _ HB1.o)).mono ?_
  rintro x w2 ⟨rfl, hb2⟩
  have HB2 := hd (bel HB1.o hb2)
  clear hb2
  go_wp2_with (refine wpList_bytes_isL _ 9 22 5 _ Tryd.underlying9 Tryd.underlying22 Tryd.underlying5 rfl _ rfl rfl ?_; intro v4 w4 hb4 h4; replace h4 := hd h4; have HB4 := hd (bel HB2.o hb4); clear hb4)
  have HQ : Hd (∃ m, IsL 1 w4 v4 m (cellsB (T.ans [101, 120, 101, 99, 117, 116, 105, 111, 110] e p))) := hd (by
    have h := h4.o
    rw [HA.o, if_pos hpp]
    simpa using h)
  go_ret
  exact ⟨⟨_, HQ.o.choose, rfl, HQ.o.choose_spec⟩, HB4.o⟩
theorem rfail0p (s : Int) (b1 : (s == 400) = false) (b2 : (s == 401) = false) (b3 : (s == 404) = false) (b4 : (s == 413) = false) (b5 : (s == 422) = false) (e p : Int) (w : World) (he0 : -9223372036854775808 ≤ e) (he1 : e ≤ 9223372036854775807) (hp0 : -9223372036854775808 ≤ p) (hp1 : p ≤ 9223372036854775807) (hpp : 0 ≤ p) (hT : Pow w.heap.size w) :
    Calls Tryd.prog 6 #[.int .i64 s, .int .i64 e, .int .i64 p] w fun x w' => (∃ v m, x = .returned v ∧ IsL 1 w' v m (cellsB (T.ans [105, 110, 116, 101, 114, 110, 97, 108] e p))) ∧ Below w.heap.size w w' := by
  have HT := hd hT
  have HE := T.it_len e he0 he1
  have HP := T.it_len p hp0 hp1
  have k1 : ∀ N : Nat, N ≤ 1000 → ¬ 9223372036854775807 < N + (T.it e).length := fun N h => by omega
  have k2 : ∀ N : Nat, N ≤ 1000 → ¬ 281474976710656 < N + (T.it e).length := fun N h => by omega
  have k3 : ∀ N : Nat, N ≤ 1000 → ¬ 9223372036854775807 < N + (T.it p).length := fun N h => by omega
  have k4 : ∀ N : Nat, N ≤ 1000 → ¬ 281474976710656 < N + (T.it p).length := fun N h => by omega
  have HA : Hd (T.ans [105, 110, 116, 101, 114, 110, 97, 108] e p = [123, 34, 115, 116, 97, 116, 117, 115, 34, 58, 34, 101, 114, 114, 111, 114, 34, 44, 34, 101, 114, 114, 111, 114, 84, 121, 112, 101, 34, 58, 34] ++ [105, 110, 116, 101, 114, 110, 97, 108] ++ [34, 44, 34, 101, 114, 114, 111, 114, 34, 58, 34, 119, 101, 105, 114, 58, 32, 101, 114, 114, 111, 114, 32] ++ T.it e ++ (if 0 ≤ p then [32, 97, 116, 32] ++ T.it p else []) ++ [34, 125]) := hd rfl
  clear hT
  have k5 : ∀ N : Nat, N ≤ 1000 → ¬ 9223372036854775807 < N + (T.it e).length + 2 := fun N h => by omega
  have k6 : ∀ N : Nat, N ≤ 1000 → ¬ 281474976710656 < N + (T.it e).length + 2 := fun N h => by omega
  have k7 : ∀ N : Nat, N ≤ 1000 → ¬ 9223372036854775807 < N + (T.it e).length + (4 + (T.it p).length) := fun N h => by omega
  have k8 : ∀ N : Nat, N ≤ 1000 → ¬ 281474976710656 < N + (T.it e).length + (4 + (T.it p).length) := fun N h => by omega
  have k9 : ∀ N : Nat, N ≤ 1000 → ¬ 9223372036854775807 < N + (T.it e).length + (4 + (T.it p).length) + 2 := fun N h => by omega
  have k0 : ∀ N : Nat, N ≤ 1000 → ¬ 281474976710656 < N + (T.it e).length + (4 + (T.it p).length) + 2 := fun N h => by omega
  go_enter Tryd.func6, Tryd.ntmps6
  go_wp2_with fail
  refine (itoa_any e he0 he1 _ (HT.o _ (Below.refl _ _))).mono ?_
  rintro x w1 ⟨rfl, hb1⟩
  have HB1 := hd hb1
  clear hb1
  go_wp2_with fail
  refine (itoa_any p hp0 hp1 _ (HT.o _ HB1.o)).mono ?_
  rintro x w2 ⟨rfl, hb2⟩
  have HB2 := hd (bel HB1.o hb2)
  clear hb2
  go_wp2_with (refine wpList_bytes_isL _ 9 22 5 _ Tryd.underlying9 Tryd.underlying22 Tryd.underlying5 rfl _ rfl rfl ?_; intro v4 w4 hb4 h4; replace h4 := hd h4; have HB4 := hd (bel HB2.o hb4); clear hb4)
  have HQ : Hd (∃ m, IsL 1 w4 v4 m (cellsB (T.ans [105, 110, 116, 101, 114, 110, 97, 108] e p))) := hd (by
    have h := h4.o
    rw [HA.o, if_pos hpp]
    simpa using h)
  go_ret
  exact ⟨⟨_, HQ.o.choose, rfl, HQ.o.choose_spec⟩, HB4.o⟩
theorem rfail400n (e p : Int) (w : World) (he0 : -9223372036854775808 ≤ e) (he1 : e ≤ 9223372036854775807) (hp0 : -9223372036854775808 ≤ p) (hp1 : p ≤ 9223372036854775807) (hpp : p < 0) (hT : Pow w.heap.size w) :
    Calls Tryd.prog 6 #[.int .i64 400, .int .i64 e, .int .i64 p] w fun x w' => (∃ v m, x = .returned v ∧ IsL 1 w' v m (cellsB (T.ans [98, 97, 100, 95, 100, 97, 116, 97] e p))) ∧ Below w.heap.size w w' := by
  have HT := hd hT
  have HE := T.it_len e he0 he1
  have HP := T.it_len p hp0 hp1
  have k1 : ∀ N : Nat, N ≤ 1000 → ¬ 9223372036854775807 < N + (T.it e).length := fun N h => by omega
  have k2 : ∀ N : Nat, N ≤ 1000 → ¬ 281474976710656 < N + (T.it e).length := fun N h => by omega
  have k3 : ∀ N : Nat, N ≤ 1000 → ¬ 9223372036854775807 < N + (T.it p).length := fun N h => by omega
  have k4 : ∀ N : Nat, N ≤ 1000 → ¬ 281474976710656 < N + (T.it p).length := fun N h => by omega
  have HA : Hd (T.ans [98, 97, 100, 95, 100, 97, 116, 97] e p = [123, 34, 115, 116, 97, 116, 117, 115, 34, 58, 34, 101, 114, 114, 111, 114, 34, 44, 34, 101, 114, 114, 111, 114, 84, 121, 112, 101, 34, 58, 34] ++ [98, 97, 100, 95, 100, 97, 116, 97] ++ [34, 44, 34, 101, 114, 114, 111, 114, 34, 58, 34, 119, 101, 105, 114, 58, 32, 101, 114, 114, 111, 114, 32] ++ T.it e ++ (if 0 ≤ p then [32, 97, 116, 32] ++ T.it p else []) ++ [34, 125]) := hd rfl
  clear hT
  have k5 : ∀ N : Nat, N ≤ 1000 → ¬ 9223372036854775807 < N + (T.it e).length + 2 := fun N h => by omega
  have k6 : ∀ N : Nat, N ≤ 1000 → ¬ 281474976710656 < N + (T.it e).length + 2 := fun N h => by omega
  have k7 : ∀ N : Nat, N ≤ 1000 → ¬ 9223372036854775807 < N + (T.it e).length + (4 + (T.it p).length) := fun N h => by omega
  have k8 : ∀ N : Nat, N ≤ 1000 → ¬ 281474976710656 < N + (T.it e).length + (4 + (T.it p).length) := fun N h => by omega
  have k9 : ∀ N : Nat, N ≤ 1000 → ¬ 9223372036854775807 < N + (T.it e).length + (4 + (T.it p).length) + 2 := fun N h => by omega
  have k0 : ∀ N : Nat, N ≤ 1000 → ¬ 281474976710656 < N + (T.it e).length + (4 + (T.it p).length) + 2 := fun N h => by omega
  go_enter Tryd.func6, Tryd.ntmps6
  go_wp2_with fail
  refine (itoa_any e he0 he1 _ (HT.o _ (Below.refl _ _))).mono ?_
  rintro x w1 ⟨rfl, hb1⟩
  have HB1 := hd hb1
  clear hb1
  go_wp2_with (refine wpList_bytes_isL _ 9 22 5 _ Tryd.underlying9 Tryd.underlying22 Tryd.underlying5 rfl _ rfl rfl ?_; intro v4 w4 hb4 h4; replace h4 := hd h4; have HB4 := hd (bel HB1.o hb4); clear hb4)
  have HQ : Hd (∃ m, IsL 1 w4 v4 m (cellsB (T.ans [98, 97, 100, 95, 100, 97, 116, 97] e p))) := hd (by
    have h := h4.o
    rw [HA.o, if_neg (by omega)]
    simpa using h)
  go_ret
  exact ⟨⟨_, HQ.o.choose, rfl, HQ.o.choose_spec⟩, HB4.o⟩
theorem rfail401n (e p : Int) (w : World) (he0 : -9223372036854775808 ≤ e) (he1 : e ≤ 9223372036854775807) (hp0 : -9223372036854775808 ≤ p) (hp1 : p ≤ 9223372036854775807) (hpp : p < 0) (hT : Pow w.heap.size w) :
    Calls Tryd.prog 6 #[.int .i64 401, .int .i64 e, .int .i64 p] w fun x w' => (∃ v m, x = .returned v ∧ IsL 1 w' v m (cellsB (T.ans [117, 110, 97, 117, 116, 104, 111, 114, 105, 122, 101, 100] e p))) ∧ Below w.heap.size w w' := by
  have HT := hd hT
  have HE := T.it_len e he0 he1
  have HP := T.it_len p hp0 hp1
  have k1 : ∀ N : Nat, N ≤ 1000 → ¬ 9223372036854775807 < N + (T.it e).length := fun N h => by omega
  have k2 : ∀ N : Nat, N ≤ 1000 → ¬ 281474976710656 < N + (T.it e).length := fun N h => by omega
  have k3 : ∀ N : Nat, N ≤ 1000 → ¬ 9223372036854775807 < N + (T.it p).length := fun N h => by omega
  have k4 : ∀ N : Nat, N ≤ 1000 → ¬ 281474976710656 < N + (T.it p).length := fun N h => by omega
  have HA : Hd (T.ans [117, 110, 97, 117, 116, 104, 111, 114, 105, 122, 101, 100] e p = [123, 34, 115, 116, 97, 116, 117, 115, 34, 58, 34, 101, 114, 114, 111, 114, 34, 44, 34, 101, 114, 114, 111, 114, 84, 121, 112, 101, 34, 58, 34] ++ [117, 110, 97, 117, 116, 104, 111, 114, 105, 122, 101, 100] ++ [34, 44, 34, 101, 114, 114, 111, 114, 34, 58, 34, 119, 101, 105, 114, 58, 32, 101, 114, 114, 111, 114, 32] ++ T.it e ++ (if 0 ≤ p then [32, 97, 116, 32] ++ T.it p else []) ++ [34, 125]) := hd rfl
  clear hT
  have k5 : ∀ N : Nat, N ≤ 1000 → ¬ 9223372036854775807 < N + (T.it e).length + 2 := fun N h => by omega
  have k6 : ∀ N : Nat, N ≤ 1000 → ¬ 281474976710656 < N + (T.it e).length + 2 := fun N h => by omega
  have k7 : ∀ N : Nat, N ≤ 1000 → ¬ 9223372036854775807 < N + (T.it e).length + (4 + (T.it p).length) := fun N h => by omega
  have k8 : ∀ N : Nat, N ≤ 1000 → ¬ 281474976710656 < N + (T.it e).length + (4 + (T.it p).length) := fun N h => by omega
  have k9 : ∀ N : Nat, N ≤ 1000 → ¬ 9223372036854775807 < N + (T.it e).length + (4 + (T.it p).length) + 2 := fun N h => by omega
  have k0 : ∀ N : Nat, N ≤ 1000 → ¬ 281474976710656 < N + (T.it e).length + (4 + (T.it p).length) + 2 := fun N h => by omega
  go_enter Tryd.func6, Tryd.ntmps6
  go_wp2_with fail
  refine (itoa_any e he0 he1 _ (HT.o _ (Below.refl _ _))).mono ?_
  rintro x w1 ⟨rfl, hb1⟩
  have HB1 := hd hb1
  clear hb1
  go_wp2_with (refine wpList_bytes_isL _ 9 22 5 _ Tryd.underlying9 Tryd.underlying22 Tryd.underlying5 rfl _ rfl rfl ?_; intro v4 w4 hb4 h4; replace h4 := hd h4; have HB4 := hd (bel HB1.o hb4); clear hb4)
  have HQ : Hd (∃ m, IsL 1 w4 v4 m (cellsB (T.ans [117, 110, 97, 117, 116, 104, 111, 114, 105, 122, 101, 100] e p))) := hd (by
    have h := h4.o
    rw [HA.o, if_neg (by omega)]
    simpa using h)
  go_ret
  exact ⟨⟨_, HQ.o.choose, rfl, HQ.o.choose_spec⟩, HB4.o⟩
theorem rfail404n (e p : Int) (w : World) (he0 : -9223372036854775808 ≤ e) (he1 : e ≤ 9223372036854775807) (hp0 : -9223372036854775808 ≤ p) (hp1 : p ≤ 9223372036854775807) (hpp : p < 0) (hT : Pow w.heap.size w) :
    Calls Tryd.prog 6 #[.int .i64 404, .int .i64 e, .int .i64 p] w fun x w' => (∃ v m, x = .returned v ∧ IsL 1 w' v m (cellsB (T.ans [110, 111, 116, 95, 102, 111, 117, 110, 100] e p))) ∧ Below w.heap.size w w' := by
  have HT := hd hT
  have HE := T.it_len e he0 he1
  have HP := T.it_len p hp0 hp1
  have k1 : ∀ N : Nat, N ≤ 1000 → ¬ 9223372036854775807 < N + (T.it e).length := fun N h => by omega
  have k2 : ∀ N : Nat, N ≤ 1000 → ¬ 281474976710656 < N + (T.it e).length := fun N h => by omega
  have k3 : ∀ N : Nat, N ≤ 1000 → ¬ 9223372036854775807 < N + (T.it p).length := fun N h => by omega
  have k4 : ∀ N : Nat, N ≤ 1000 → ¬ 281474976710656 < N + (T.it p).length := fun N h => by omega
  have HA : Hd (T.ans [110, 111, 116, 95, 102, 111, 117, 110, 100] e p = [123, 34, 115, 116, 97, 116, 117, 115, 34, 58, 34, 101, 114, 114, 111, 114, 34, 44, 34, 101, 114, 114, 111, 114, 84, 121, 112, 101, 34, 58, 34] ++ [110, 111, 116, 95, 102, 111, 117, 110, 100] ++ [34, 44, 34, 101, 114, 114, 111, 114, 34, 58, 34, 119, 101, 105, 114, 58, 32, 101, 114, 114, 111, 114, 32] ++ T.it e ++ (if 0 ≤ p then [32, 97, 116, 32] ++ T.it p else []) ++ [34, 125]) := hd rfl
  clear hT
  have k5 : ∀ N : Nat, N ≤ 1000 → ¬ 9223372036854775807 < N + (T.it e).length + 2 := fun N h => by omega
  have k6 : ∀ N : Nat, N ≤ 1000 → ¬ 281474976710656 < N + (T.it e).length + 2 := fun N h => by omega
  have k7 : ∀ N : Nat, N ≤ 1000 → ¬ 9223372036854775807 < N + (T.it e).length + (4 + (T.it p).length) := fun N h => by omega
  have k8 : ∀ N : Nat, N ≤ 1000 → ¬ 281474976710656 < N + (T.it e).length + (4 + (T.it p).length) := fun N h => by omega
  have k9 : ∀ N : Nat, N ≤ 1000 → ¬ 9223372036854775807 < N + (T.it e).length + (4 + (T.it p).length) + 2 := fun N h => by omega
  have k0 : ∀ N : Nat, N ≤ 1000 → ¬ 281474976710656 < N + (T.it e).length + (4 + (T.it p).length) + 2 := fun N h => by omega
  go_enter Tryd.func6, Tryd.ntmps6
  go_wp2_with fail
  refine (itoa_any e he0 he1 _ (HT.o _ (Below.refl _ _))).mono ?_
  rintro x w1 ⟨rfl, hb1⟩
  have HB1 := hd hb1
  clear hb1
  go_wp2_with (refine wpList_bytes_isL _ 9 22 5 _ Tryd.underlying9 Tryd.underlying22 Tryd.underlying5 rfl _ rfl rfl ?_; intro v4 w4 hb4 h4; replace h4 := hd h4; have HB4 := hd (bel HB1.o hb4); clear hb4)
  have HQ : Hd (∃ m, IsL 1 w4 v4 m (cellsB (T.ans [110, 111, 116, 95, 102, 111, 117, 110, 100] e p))) := hd (by
    have h := h4.o
    rw [HA.o, if_neg (by omega)]
    simpa using h)
  go_ret
  exact ⟨⟨_, HQ.o.choose, rfl, HQ.o.choose_spec⟩, HB4.o⟩
theorem rfail413n (e p : Int) (w : World) (he0 : -9223372036854775808 ≤ e) (he1 : e ≤ 9223372036854775807) (hp0 : -9223372036854775808 ≤ p) (hp1 : p ≤ 9223372036854775807) (hpp : p < 0) (hT : Pow w.heap.size w) :
    Calls Tryd.prog 6 #[.int .i64 413, .int .i64 e, .int .i64 p] w fun x w' => (∃ v m, x = .returned v ∧ IsL 1 w' v m (cellsB (T.ans [116, 111, 111, 95, 108, 97, 114, 103, 101] e p))) ∧ Below w.heap.size w w' := by
  have HT := hd hT
  have HE := T.it_len e he0 he1
  have HP := T.it_len p hp0 hp1
  have k1 : ∀ N : Nat, N ≤ 1000 → ¬ 9223372036854775807 < N + (T.it e).length := fun N h => by omega
  have k2 : ∀ N : Nat, N ≤ 1000 → ¬ 281474976710656 < N + (T.it e).length := fun N h => by omega
  have k3 : ∀ N : Nat, N ≤ 1000 → ¬ 9223372036854775807 < N + (T.it p).length := fun N h => by omega
  have k4 : ∀ N : Nat, N ≤ 1000 → ¬ 281474976710656 < N + (T.it p).length := fun N h => by omega
  have HA : Hd (T.ans [116, 111, 111, 95, 108, 97, 114, 103, 101] e p = [123, 34, 115, 116, 97, 116, 117, 115, 34, 58, 34, 101, 114, 114, 111, 114, 34, 44, 34, 101, 114, 114, 111, 114, 84, 121, 112, 101, 34, 58, 34] ++ [116, 111, 111, 95, 108, 97, 114, 103, 101] ++ [34, 44, 34, 101, 114, 114, 111, 114, 34, 58, 34, 119, 101, 105, 114, 58, 32, 101, 114, 114, 111, 114, 32] ++ T.it e ++ (if 0 ≤ p then [32, 97, 116, 32] ++ T.it p else []) ++ [34, 125]) := hd rfl
  clear hT
  have k5 : ∀ N : Nat, N ≤ 1000 → ¬ 9223372036854775807 < N + (T.it e).length + 2 := fun N h => by omega
  have k6 : ∀ N : Nat, N ≤ 1000 → ¬ 281474976710656 < N + (T.it e).length + 2 := fun N h => by omega
  have k7 : ∀ N : Nat, N ≤ 1000 → ¬ 9223372036854775807 < N + (T.it e).length + (4 + (T.it p).length) := fun N h => by omega
  have k8 : ∀ N : Nat, N ≤ 1000 → ¬ 281474976710656 < N + (T.it e).length + (4 + (T.it p).length) := fun N h => by omega
  have k9 : ∀ N : Nat, N ≤ 1000 → ¬ 9223372036854775807 < N + (T.it e).length + (4 + (T.it p).length) + 2 := fun N h => by omega
  have k0 : ∀ N : Nat, N ≤ 1000 → ¬ 281474976710656 < N + (T.it e).length + (4 + (T.it p).length) + 2 := fun N h => by omega
  go_enter Tryd.func6, Tryd.ntmps6
  go_wp2_with fail
  refine (itoa_any e he0 he1 _ (HT.o _ (Below.refl _ _))).mono ?_
  rintro x w1 ⟨rfl, hb1⟩
  have HB1 := hd hb1
  clear hb1
  go_wp2_with (refine wpList_bytes_isL _ 9 22 5 _ Tryd.underlying9 Tryd.underlying22 Tryd.underlying5 rfl _ rfl rfl ?_; intro v4 w4 hb4 h4; replace h4 := hd h4; have HB4 := hd (bel HB1.o hb4); clear hb4)
  have HQ : Hd (∃ m, IsL 1 w4 v4 m (cellsB (T.ans [116, 111, 111, 95, 108, 97, 114, 103, 101] e p))) := hd (by
    have h := h4.o
    rw [HA.o, if_neg (by omega)]
    simpa using h)
  go_ret
  exact ⟨⟨_, HQ.o.choose, rfl, HQ.o.choose_spec⟩, HB4.o⟩
theorem rfail422n (e p : Int) (w : World) (he0 : -9223372036854775808 ≤ e) (he1 : e ≤ 9223372036854775807) (hp0 : -9223372036854775808 ≤ p) (hp1 : p ≤ 9223372036854775807) (hpp : p < 0) (hT : Pow w.heap.size w) :
    Calls Tryd.prog 6 #[.int .i64 422, .int .i64 e, .int .i64 p] w fun x w' => (∃ v m, x = .returned v ∧ IsL 1 w' v m (cellsB (T.ans [101, 120, 101, 99, 117, 116, 105, 111, 110] e p))) ∧ Below w.heap.size w w' := by
  have HT := hd hT
  have HE := T.it_len e he0 he1
  have HP := T.it_len p hp0 hp1
  have k1 : ∀ N : Nat, N ≤ 1000 → ¬ 9223372036854775807 < N + (T.it e).length := fun N h => by omega
  have k2 : ∀ N : Nat, N ≤ 1000 → ¬ 281474976710656 < N + (T.it e).length := fun N h => by omega
  have k3 : ∀ N : Nat, N ≤ 1000 → ¬ 9223372036854775807 < N + (T.it p).length := fun N h => by omega
  have k4 : ∀ N : Nat, N ≤ 1000 → ¬ 281474976710656 < N + (T.it p).length := fun N h => by omega
  have HA : Hd (T.ans [101, 120, 101, 99, 117, 116, 105, 111, 110] e p = [123, 34, 115, 116, 97, 116, 117, 115, 34, 58, 34, 101, 114, 114, 111, 114, 34, 44, 34, 101, 114, 114, 111, 114, 84, 121, 112, 101, 34, 58, 34] ++ [101, 120, 101, 99, 117, 116, 105, 111, 110] ++ [34, 44, 34, 101, 114, 114, 111, 114, 34, 58, 34, 119, 101, 105, 114, 58, 32, 101, 114, 114, 111, 114, 32] ++ T.it e ++ (if 0 ≤ p then [32, 97, 116, 32] ++ T.it p else []) ++ [34, 125]) := hd rfl
  clear hT
  have k5 : ∀ N : Nat, N ≤ 1000 → ¬ 9223372036854775807 < N + (T.it e).length + 2 := fun N h => by omega
  have k6 : ∀ N : Nat, N ≤ 1000 → ¬ 281474976710656 < N + (T.it e).length + 2 := fun N h => by omega
  have k7 : ∀ N : Nat, N ≤ 1000 → ¬ 9223372036854775807 < N + (T.it e).length + (4 + (T.it p).length) := fun N h => by omega
  have k8 : ∀ N : Nat, N ≤ 1000 → ¬ 281474976710656 < N + (T.it e).length + (4 + (T.it p).length) := fun N h => by omega
  have k9 : ∀ N : Nat, N ≤ 1000 → ¬ 9223372036854775807 < N + (T.it e).length + (4 + (T.it p).length) + 2 := fun N h => by omega
  have k0 : ∀ N : Nat, N ≤ 1000 → ¬ 281474976710656 < N + (T.it e).length + (4 + (T.it p).length) + 2 := fun N h => by omega
  go_enter Tryd.func6, Tryd.ntmps6
  go_wp2_with fail
  refine (itoa_any e he0 he1 _ (HT.o _ (Below.refl _ _))).mono ?_
  rintro x w1 ⟨rfl, hb1⟩
  have HB1 := hd hb1
  clear hb1
  go_wp2_with (refine wpList_bytes_isL _ 9 22 5 _ Tryd.underlying9 Tryd.underlying22 Tryd.underlying5 rfl _ rfl rfl ?_; intro v4 w4 hb4 h4; replace h4 := hd h4; have HB4 := hd (bel HB1.o hb4); clear hb4)
  have HQ : Hd (∃ m, IsL 1 w4 v4 m (cellsB (T.ans [101, 120, 101, 99, 117, 116, 105, 111, 110] e p))) := hd (by
    have h := h4.o
    rw [HA.o, if_neg (by omega)]
    simpa using h)
  go_ret
  exact ⟨⟨_, HQ.o.choose, rfl, HQ.o.choose_spec⟩, HB4.o⟩
theorem rfail0n (s : Int) (b1 : (s == 400) = false) (b2 : (s == 401) = false) (b3 : (s == 404) = false) (b4 : (s == 413) = false) (b5 : (s == 422) = false) (e p : Int) (w : World) (he0 : -9223372036854775808 ≤ e) (he1 : e ≤ 9223372036854775807) (hp0 : -9223372036854775808 ≤ p) (hp1 : p ≤ 9223372036854775807) (hpp : p < 0) (hT : Pow w.heap.size w) :
    Calls Tryd.prog 6 #[.int .i64 s, .int .i64 e, .int .i64 p] w fun x w' => (∃ v m, x = .returned v ∧ IsL 1 w' v m (cellsB (T.ans [105, 110, 116, 101, 114, 110, 97, 108] e p))) ∧ Below w.heap.size w w' := by
  have HT := hd hT
  have HE := T.it_len e he0 he1
  have HP := T.it_len p hp0 hp1
  have k1 : ∀ N : Nat, N ≤ 1000 → ¬ 9223372036854775807 < N + (T.it e).length := fun N h => by omega
  have k2 : ∀ N : Nat, N ≤ 1000 → ¬ 281474976710656 < N + (T.it e).length := fun N h => by omega
  have k3 : ∀ N : Nat, N ≤ 1000 → ¬ 9223372036854775807 < N + (T.it p).length := fun N h => by omega
  have k4 : ∀ N : Nat, N ≤ 1000 → ¬ 281474976710656 < N + (T.it p).length := fun N h => by omega
  have HA : Hd (T.ans [105, 110, 116, 101, 114, 110, 97, 108] e p = [123, 34, 115, 116, 97, 116, 117, 115, 34, 58, 34, 101, 114, 114, 111, 114, 34, 44, 34, 101, 114, 114, 111, 114, 84, 121, 112, 101, 34, 58, 34] ++ [105, 110, 116, 101, 114, 110, 97, 108] ++ [34, 44, 34, 101, 114, 114, 111, 114, 34, 58, 34, 119, 101, 105, 114, 58, 32, 101, 114, 114, 111, 114, 32] ++ T.it e ++ (if 0 ≤ p then [32, 97, 116, 32] ++ T.it p else []) ++ [34, 125]) := hd rfl
  clear hT
  have k5 : ∀ N : Nat, N ≤ 1000 → ¬ 9223372036854775807 < N + (T.it e).length + 2 := fun N h => by omega
  have k6 : ∀ N : Nat, N ≤ 1000 → ¬ 281474976710656 < N + (T.it e).length + 2 := fun N h => by omega
  have k7 : ∀ N : Nat, N ≤ 1000 → ¬ 9223372036854775807 < N + (T.it e).length + (4 + (T.it p).length) := fun N h => by omega
  have k8 : ∀ N : Nat, N ≤ 1000 → ¬ 281474976710656 < N + (T.it e).length + (4 + (T.it p).length) := fun N h => by omega
  have k9 : ∀ N : Nat, N ≤ 1000 → ¬ 9223372036854775807 < N + (T.it e).length + (4 + (T.it p).length) + 2 := fun N h => by omega
  have k0 : ∀ N : Nat, N ≤ 1000 → ¬ 281474976710656 < N + (T.it e).length + (4 + (T.it p).length) + 2 := fun N h => by omega
  go_enter Tryd.func6, Tryd.ntmps6
  go_wp2_with fail
  refine (itoa_any e he0 he1 _ (HT.o _ (Below.refl _ _))).mono ?_
  rintro x w1 ⟨rfl, hb1⟩
  have HB1 := hd hb1
  clear hb1
  go_wp2_with (refine wpList_bytes_isL _ 9 22 5 _ Tryd.underlying9 Tryd.underlying22 Tryd.underlying5 rfl _ rfl rfl ?_; intro v4 w4 hb4 h4; replace h4 := hd h4; have HB4 := hd (bel HB1.o hb4); clear hb4)
  have HQ : Hd (∃ m, IsL 1 w4 v4 m (cellsB (T.ans [105, 110, 116, 101, 114, 110, 97, 108] e p))) := hd (by
    have h := h4.o
    rw [HA.o, if_neg (by omega)]
    simpa using h)
  go_ret
  exact ⟨⟨_, HQ.o.choose, rfl, HQ.o.choose_spec⟩, HB4.o⟩
theorem reffailure_any (s e p : Int) (w : World) (he0 : -9223372036854775808 ≤ e) (he1 : e ≤ 9223372036854775807) (hp0 : -9223372036854775808 ≤ p) (hp1 : p ≤ 9223372036854775807) (hT : Pow w.heap.size w) :
    Calls Tryd.prog 6 #[.int .i64 s, .int .i64 e, .int .i64 p] w fun x w' => (∃ v m, x = .returned v ∧ IsL 1 w' v m (cellsB (T.ans (T.ty s) e p))) ∧ Below w.heap.size w w' := by
  by_cases hp : 0 ≤ p
  · rcases T.cases s with (rfl | rfl | rfl | rfl | rfl) | ⟨b1, b2, b3, b4, b5, ht⟩
    · exact rfail400p e p w he0 he1 hp0 hp1 hp hT
    · exact rfail401p e p w he0 he1 hp0 hp1 hp hT
    · exact rfail404p e p w he0 he1 hp0 hp1 hp hT
    · exact rfail413p e p w he0 he1 hp0 hp1 hp hT
    · exact rfail422p e p w he0 he1 hp0 hp1 hp hT
    · rw [ht]; exact rfail0p s b1 b2 b3 b4 b5 e p w he0 he1 hp0 hp1 hp hT
  · rcases T.cases s with (rfl | rfl | rfl | rfl | rfl) | ⟨b1, b2, b3, b4, b5, ht⟩
    · exact rfail400n e p w he0 he1 hp0 hp1 (by omega) hT
    · exact rfail401n e p w he0 he1 hp0 hp1 (by omega) hT
    · exact rfail404n e p w he0 he1 hp0 hp1 (by omega) hT
    · exact rfail413n e p w he0 he1 hp0 hp1 (by omega) hT
    · exact rfail422n e p w he0 he1 hp0 hp1 (by omega) hT
    · rw [ht]; exact rfail0n s b1 b2 b3 b4 b5 e p w he0 he1 hp0 hp1 (by omega) hT
end Go.Proofs.YtifaepkeoffcfaaDoor
