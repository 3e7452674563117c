/- RenderMemory: render.Failure(422, e, p) and the reference's, as rows of their own; strconv.Itoa. -/
import Derived.Test.YtcbggkdginfakaaDoorRPt
import Derived.Shelf.Lay
import Derived.Shelf.Strconv.Itoa3
import Derived.Lib.ItoaLen
import Derived.Lib.AppendIntMem
namespace Go.Proofs
open Go.Shelf
shelf_lay LaysM.n171 Nm 171 at Tryd as Tryd.laysM171
namespace YtcbggkdginfakaaDoor
open Go.RowKit
set_option linter.unusedVariables false
set_option linter.unusedSimpArgs false
/-- the table of powers of ten reads so, whatever is done from B on -/
abbrev Pow (B : Nat) (w : World) : Prop := ∀ w', Below B w w' → Lib.TabIs Tryd.prog w' "internal/strconv.uint64pow10" .u64 Lib.pow10Tab
def T.it (n : Int) : List UInt8 := Lib.itoa n
theorem itoa_any (n : Int) (h0 : -9223372036854775808 ≤ n) (h1 : n ≤ 9223372036854775807) (w : World) (htab : Lib.TabIs Tryd.prog w "internal/strconv.uint64pow10" .u64 Lib.pow10Tab) :
    Calls Tryd.prog 24 #[.int .i64 n] w fun e w' => e = .returned (.string ⟨(T.it n).toArray⟩) ∧ Below w.heap.size w w' := by
  have h : Calls Tryd.prog 24 #[.int .i64 n] w fun e w' => e = .returned (.string ⟨(Lib.itoa n).toArray⟩) ∧ ∃ k os, w' = Sort.grow (w.drewN k) os := Any.strconv_Itoa Tryd.laysM171 n h0 h1 w htab
  refine h.mono ?_
  rintro e w' ⟨rfl, k, os, rfl⟩
  exact ⟨rfl, Lib.below_grow _ w (Nat.le_refl _) k os⟩
theorem T.it_len (n : Int) (h0 : -9223372036854775808 ≤ n) (h1 : n ≤ 9223372036854775807) : (T.it n).length ≤ 21 := Lib.itoa_length_le n h0 h1
def T.ans (t : List UInt8) (e p : Int) : List UInt8 := [123, 34, 115, 116, 97, 116, 117, 115, 34, 58, 34, 101, 114, 114, 111, 114, 34, 44, 34, 101, 114, 114, 111, 114, 84, 121, 112, 101, 34, 58, 34] ++ t ++ [34, 44, 34, 101, 114, 114, 111, 114, 34, 58, 34, 119, 101, 105, 114, 58, 32, 101, 114, 114, 111, 114, 32] ++ T.it e ++ (if 0 ≤ p then [32, 97, 116, 32] ++ T.it p else []) ++ [34, 125]
set_option maxHeartbeats 4000000 in
theorem fail422_own (e p : Int) (w : World) (he0 : -9223372036854775808 ≤ e) (he1 : e ≤ 9223372036854775807) (hp0 : -9223372036854775808 ≤ p) (hp1 : p ≤ 9223372036854775807) (hpp : 0 ≤ p) (hT : Pow w.heap.size w) :
    Calls Tryd.prog 9 #[.int .i64 422, .int .i64 e, .int .i64 p] w fun x w' => (∃ v m, x = .returned v ∧ w'.ownsRow w.heap.size 5 1 v m (cellsB (T.ans [101, 120, 101, 99, 117, 116, 105, 111, 110] e p))) ∧ Below w.heap.size w w' := by
  have HT := hd hT
  have HE := T.it_len e he0 he1
  have HP := T.it_len p hp0 hp1
  have k1 : ∀ N : Nat, N ≤ 1000 → ¬ 9223372036854775807 < N + (T.it e).length := fun N h => by omega
  have k2 : ∀ N : Nat, N ≤ 1000 → ¬ 281474976710656 < N + (T.it e).length := fun N h => by omega
  have k3 : ∀ N : Nat, N ≤ 1000 → ¬ 9223372036854775807 < N + (T.it p).length := fun N h => by omega
  have k4 : ∀ N : Nat, N ≤ 1000 → ¬ 281474976710656 < N + (T.it p).length := fun N h => by omega
  have HA : Hd (T.ans [101, 120, 101, 99, 117, 116, 105, 111, 110] e p = [123, 34, 115, 116, 97, 116, 117, 115, 34, 58, 34, 101, 114, 114, 111, 114, 34, 44, 34, 101, 114, 114, 111, 114, 84, 121, 112, 101, 34, 58, 34] ++ [101, 120, 101, 99, 117, 116, 105, 111, 110] ++ [34, 44, 34, 101, 114, 114, 111, 114, 34, 58, 34, 119, 101, 105, 114, 58, 32, 101, 114, 114, 111, 114, 32] ++ T.it e ++ (if 0 ≤ p then [32, 97, 116, 32] ++ T.it p else []) ++ [34, 125]) := hd rfl
  clear hT
  have HO0 : Hd (Ou w (w.alloc (.cells #[.slice none 0 0] 51)) w.heap.size []) := hd <| by
    refine ⟨⟨none, 0, 0, ?_, ⟨rfl, .inl ⟨rfl, rfl⟩⟩, rfl⟩, (Below.refl _ _).alloc (Nat.le_refl _) _⟩
    show (w.heap.push (.cells #[.slice none 0 0] 51))[w.heap.size]? = _
    simp
  go_enter Tryd.func9, Tryd.ntmps9
  go_wp2_with fail
  refine (itoa_any e he0 he1 _ (HT.o _ HO0.o.bel)).mono ?_
  rintro x w1 ⟨rfl, hb1⟩
  have HO1 := hd (HO0.o.below hb1)
  clear hb1 HO0
  go_wp2_with fail
  refine (put_any _ w _ w.heap.size [] HO1.o ?_).mono ?_
  · simp [ByteArray.size]; omega
  rintro x w2 ⟨rfl, hO2⟩
  have HO2 := hd hO2
  clear hO2 HO1
  go_wp2_with fail
  refine (itoa_any p hp0 hp1 _ (HT.o _ HO2.o.bel)).mono ?_
  rintro x w3 ⟨rfl, hb3⟩
  have HO3 := hd (HO2.o.below hb3)
  clear hb3 HO2
  go_wp2_with fail
  refine (put_any _ w _ w.heap.size _ HO3.o ?_).mono ?_
  · simp [ByteArray.size]; omega
  rintro x w4 ⟨rfl, hO4⟩
  have HO4 := hd hO4
  clear hO4 HO3
  go_wp2_with fail
  refine (put_any _ w _ w.heap.size _ HO4.o ?_).mono ?_
  · simp [ByteArray.size]; omega
  rintro x w5 ⟨rfl, hO5⟩
  obtain ⟨A', n', c', q1, q2, q3⟩ := hO5.ex
  have e0 := q1.cell 0 (by simp)
  simp only [List.getElem_cons_zero] at e0
  have HQ : Hd (w5.ownsRow w.heap.size 5 1 (.slice A' n' c') n' (cellsB (T.ans [101, 120, 101, 99, 117, 116, 105, 111, 110] e p))) := hd (by
    subst q3
    have h := own_mono q2 (Nat.le_succ _)
    rw [HA.o, if_pos hpp]
    simpa using h)
  have HB5 := hd hO5.bel
  clear hO5 q1 q2 q3
  go_wp2
  go_ret
  exact ⟨⟨_, _, rfl, HQ.o⟩, HB5.o⟩
end YtcbggkdginfakaaDoor
end Go.Proofs
