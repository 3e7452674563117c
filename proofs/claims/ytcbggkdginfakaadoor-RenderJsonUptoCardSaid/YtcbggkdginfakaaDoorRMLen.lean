/- RenderMemory: how long the four answers are. No function of the program in sight. -/
import Derived.Test.YtcbggkdginfakaaDoorRRW
import Derived.Test.YtcbggkdginfakaaDoorRMFail
namespace Go.Proofs.YtcbggkdginfakaaDoor
open Go.RowKit
set_option linter.unusedVariables false
set_option linter.unusedSimpArgs false
theorem RS.whole_le {n b : List UInt8} (hn : n.length ≤ 20) (hb : b.length ≤ 35184372088832) : (RS.whole n b).length ≤ 70368744177664 := by
  unfold RS.whole
  rw [List.length_append, List.length_append, RS.head_len]
  simp only [List.length_cons, List.length_nil]
  omega
theorem RS.bytes_le {w : World} {r : RS.Res} (h : r.Ok w) : (RS.bytes r).length ≤ 70368744177664 := by
  unfold RS.bytes
  split
  · exact RS.whole_le (by decide) (Nat.le_trans (RS.pt_len _ _ h.t0 h.t1) (by decide))
  · split
    · refine RS.whole_le (by decide) ?_
      have h1 := T.sec_len r.t h.t0 h.t1
      have h2 := R.t_len r.tx
      have h3 := h.tx
      simp only [List.length_cons, List.length_append, List.length_nil]
      omega
    · split
      · exact RS.whole_le (by decide) (Nat.le_trans (RS.lst_le h.eJ) (by decide))
      · split
        · exact RS.whole_le (by decide) (Nat.le_trans (RS.lst_le h.sJ) (by decide))
        · decide
theorem R.ans_le {xs : List (List UInt8)} (h : (R.lst xs).length ≤ 35184372088832) : (R.ans xs).length ≤ 70368744177664 := by
  unfold R.ans
  rw [List.length_append, List.length_append]
  simp only [List.length_cons, List.length_nil]
  omega
theorem R.names_le {l : List ByteArray} (hs : ∀ x ∈ l, x.size ≤ 1048576) (hn : l.length ≤ 1048576) : (R.ans (l.map R.t)).length ≤ 70368744177664 := by
  refine R.ans_le ?_
  have := R.lst_len 6291458 (l.map R.t) (fun x hx => by
    obtain ⟨y, hy, rfl⟩ := List.mem_map.1 hx
    have := R.t_len y
    have := hs y hy
    omega)
  rw [List.length_map] at this
  have h2 : l.length * (6291458 + 1) ≤ 1048576 * (6291458 + 1) := Nat.mul_le_mul_right _ hn
  omega
theorem R.sets_le {l : List (List Lb)} (h : Sm l) (hn : l.length ≤ 1048576) (ht : R.tot l ≤ 1048576) : (R.ans (l.map R.st)).length ≤ 70368744177664 :=
  R.ans_le (Nat.le_trans (R.lst_st l h hn ht) (by decide))
theorem T.ans_le : (T.ans [101, 120, 101, 99, 117, 116, 105, 111, 110] 240 3).length ≤ 70368744177664 := by
  unfold T.ans
  rw [if_pos (by decide)]
  have h1 := T.it_len 240 (by decide) (by decide)
  have h2 := T.it_len 3 (by decide) (by decide)
  simp only [List.length_append, List.length_cons, List.length_nil]
  omega
end Go.Proofs.YtcbggkdginfakaaDoor
