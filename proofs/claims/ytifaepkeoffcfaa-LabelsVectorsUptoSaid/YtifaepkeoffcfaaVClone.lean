/- slices.Clone over labels, at this program. -/
import Derived.Test.YtifaepkeoffcfaaVCmp
import Derived.Test.YtifaepkeoffcfaaLVld
import Derived.Test.YtifaepkeoffcfaaLRefVld
namespace Go.Proofs.Ytifaepkeoffcfaa
open Go.RowKit Go.Sort
set_option linter.unusedVariables false
set_option linter.unusedSimpArgs false
set_option maxRecDepth 20000 in
theorem clone_any (va : Value) (n : Nat) (l : List Lb) (w : World) (hl : IsL 2 w va n (cellsL l)) (hn : n ≤ 1099511627776) :
    Calls Try.prog 53 #[va] w fun e w' => ∃ v', e = .returned v' ∧ w'.ownsRow w.heap.size 26 2 v' n (cellsL l) ∧ Below w.heap.size w w' := by
  obtain ⟨A, c, rfl⟩ := hl.shape
  have HL := hd hl
  have hll : (cellsL l).length = n * 2 := hl.1
  have HLL := hd hll
  cases A with
  | none =>
    have h0 : n = 0 := by
      obtain ⟨_, A', c', e, r⟩ := hl
      simp only [Value.slice.injEq, true_and] at e
      obtain ⟨rfl, rfl⟩ := e
      by_cases h : 0 < (cellsL l).length
      · obtain ⟨b, off, e, _⟩ := r 0 h
        cases e
      · omega
    subst h0
    have hnil : l = [] := by
      have : l.length = 0 := by rw [cellsL_len] at hll; omega
      exact List.eq_nil_of_length_eq_zero this
    subst hnil
    clear hl hll
    have q := fun w => Lib.run_eql_slice_nil (P := Try.prog) w 23 26 none 0 c 0 0 Try.underlying23
    go_enter Try.func53, Try.ntmps53
    go_wp2
    go_ret
    exact ⟨_, rfl, ⟨rfl, Or.inl ⟨rfl, rfl⟩⟩, Below.refl _ _⟩
  | some a =>
    clear hl hll
    have HB1 := hd ((Below.refl w.heap.size w).alloc (Nat.le_refl _) (.cells #[] 26))
    have HE0 := hd (World.ownsRow_made (base := w.heap.size) (e := 26) (size := 2) w #[] 0 (Nat.le_refl _) (by decide) (by simp))
    have HL1 := hd (HL.o.below HB1.o)
    have q := fun w => Lib.run_eql_slice_nil (P := Try.prog) w 23 26 (some a) n c 0 0 Try.underlying23
    go_enter Try.func53, Try.ntmps53
    go_wp2_with (at_builtin; refine wpList_app_any _ 23 26 (.agg #[.string ⟨#[]⟩, .string ⟨#[]⟩]) 2 32 Try.underlying23 info_label rfl (by decide) rfl _ _ rfl w.heap.size (.slice (some ⟨w.heap.size, 0, none⟩) 0 0) 0 [] rfl HE0.o (.slice (some a) n c) n (cellsL l) rfl HL1.o (cellsL_one l) (by omega) (by omega) (by simp) ?_)
    intro v3 w3 ho3 hg3
    have HB3 := hd (bel_grown HB1.o hg3 (fun k h => by simp [Value.ownBlock] at h; omega))
    go_wp2
    go_ret
    exact ⟨v3, rfl, by simpa using ho3, HB3.o⟩
end Go.Proofs.Ytifaepkeoffcfaa
