/- weirlaw02.noughts. -/
import Derived.Test.YtibmgmgdbicdlaaDoorBase4
import Derived.Test.YtibmgmgdbicdlaaDoorLBase
import Derived.Laws.BitsLemmas
import Derived.Laws.MakeOwn
namespace Go.Proofs.YtibmgmgdbicdlaaDoor
open Go.RowKit
set_option linter.unusedVariables false
set_option linter.unusedSimpArgs false
namespace NN
theorem info_u8f : (Tryd.prog.info? 5).map (fun i => (i.zero, i.size, i.bytes)) = some (some (.int .u8 0), 1, 1) := by kernel_rfl
theorem conv_u8 {w : World} {v : Value} {m : Nat} {l : List UInt8} (h : IsL 1 w v m (cellsB l)) : (convert 39 9 v).run Tryd.prog w = .ok (.string ⟨l.toArray⟩) w :=
  run_string_of w 39 9 5 Tryd.underlying39 Tryd.underlying5 Tryd.underlying9 _ _ _ h
structure Row1 (w0 W : World) (v : Value) (bs : List UInt8) : Prop where
  o : W.ownsRow w0.heap.size 5 1 v bs.length (cellsB bs)
  b : Below w0.heap.size w0 W
section
variable {P : Program}
theorem wpList_push1 {ops : Array Oper} {rest : List Oper} {o : Oper} {a : Act} {Q : Exit → Act → World → Prop} (ht : P.underlying 39 = some (.slice 5)) (hinfo : (P.info? 5).map (fun i => (i.zero, i.size, i.bytes)) = some (some (.int .u8 0), 1, 1))
    (hgd : o.guard = none) (s x : Operand) (ho : o.op = .call { callee := .builtin .append, args := #[s, x], argTypes := #[39, 39] })
    {w0 W : World} {v : Value} {bs : List UInt8} (R : Row1 w0 W v bs) (hl : bs.length ≤ 100000000) (c : UInt8) (X : Int) (hX : X = (c.toNat : Int)) (H : Nat) (hH : W.heap.size = H) (hs : a.eval s = v) (hx : a.eval x = .slice (some ⟨H, 0, none⟩) 1 1)
    (h : ∀ v' w', Row1 w0 w' v' (bs ++ [c]) → wpList P ops Q rest (a.put o.dst v') w') : wpList P ops Q (o :: rest) a (W.alloc (.cells #[.int .u8 X] 5)) :=
  wpList_app_litH 39 5 (.int .u8 0) 1 1 ht hinfo rfl (by decide) hgd s x ho w0.heap.size v bs.length (cellsB bs) W #[.int .u8 X] 1 H hH hs hx R.o rfl (by simp [Value.oneCell']) (by omega) (by omega) R.b.size fun v' w' h1 h2 => h v' w' (by
    refine ⟨?_, R.b.grown h2 R.b.size (fun g hg => (R.o.lt g hg).1)⟩
    rw [List.length_append, cellsB_app]
    subst hX
    exact h1)
end
def mk0 (n : Nat) : Array Value := madeCells (Value.int .u8 0).cells n
theorem mk0_run (n : Nat) (hn : n ≤ 100000000) (W : World) : (Instr.makeSlice 39 (.int .i64 0) (.int .i64 (n : Int))).run Tryd.prog W = .ok (.slice (some ⟨W.heap.size, 0, none⟩) 0 n) (W.alloc (.cells (mk0 n) 5)) := by
  obtain ⟨i, hi, q0, q1, q2⟩ := info_parts info_u8f
  have hb' : (i.bytes : Int) * (n : Int) ≤ 281474976710656 := by rw [q2]; omega
  have hr := run_make (P := Tryd.prog) W 39 5 i (.int .u8 0) Tryd.underlying39 hi q0 .i64 .i64 0 n (by omega) (by omega) hb' (by omega)
  simp only [Int.toNat_natCast, q1, Nat.mul_one] at hr
  unfold mk0
  simpa [Result.andThen] using hr
theorem own_mk0 (W : World) (n B : Nat) (hB : B ≤ W.heap.size) (hn : n ≤ 100000000) : (W.alloc (.cells (mk0 n) 5)).ownsRow B 5 1 (.slice (some ⟨W.heap.size, 0, none⟩) 0 n) 0 [] :=
  ⟨by simp, .inr ⟨W.heap.size, n, mk0 n, rfl, hB, heap_alloc_new W _, Nat.zero_le _, by unfold maxLen; omega, by unfold mk0; rw [size_madeCells, Nat.mul_one], by simp⟩⟩
end NN
set_option maxRecDepth 100000 in
set_option maxHeartbeats 4000000 in
theorem noughts_any (N : Nat) (w : World) (hN : N ≤ 1000) :
    Calls Tryd.prog 6 #[.int .i64 (N : Int)] w fun e w' => e = .returned (.string ⟨(List.replicate N (48 : UInt8)).toArray⟩) ∧ Below w.heap.size w w' := by
  have hmk := fun W => NN.mk0_run N (by omega) W
  have HR0 : Hd (NN.Row1 w (w.alloc (.cells (NN.mk0 N) 5)) (.slice (some ⟨w.heap.size, 0, none⟩) 0 N) []) := hd ⟨NN.own_mk0 w N w.heap.size (Nat.le_refl _) (by omega), (Below.refl _ _).alloc (Nat.le_refl _) _⟩
  go_enter Tryd.func6, Tryd.ntmps6
  go_wp2_with fail
  go_loopw [3, 4] (fun xd xi wr => ∃ k : Nat, k ≤ N ∧ xi = .int .i64 (k : Int) ∧ Hd (NN.Row1 w wr xd (List.replicate k 48))) (fun _ xi _ => N - (intOf xi).toNat)
  case atStart => exact ⟨0, Nat.zero_le _, rfl, HR0⟩
  case round =>
    clear hmk HR0
    obtain ⟨k, hk, rfl, HR⟩ := hrel
    by_cases hlt : k < N
    · have HW : Hd (List.replicate (k + 1) (48 : UInt8) = List.replicate k 48 ++ [48]) := hd List.replicate_succ'
      have HLB : Hd ((List.replicate k (48 : UInt8)).length ≤ 100000000) := hd (by rw [List.length_replicate]; omega)
      go_wp2_with (at_builtin; refine NN.wpList_push1 Tryd.underlying39 NN.info_u8f rfl _ _ rfl HR.o HLB.o 48 _ rfl _ rfl rfl rfl ?_)
      intro v2 w2 hR2
      have HR2 := hd hR2
      clear hR2 HR
      go_wp2
      go_roundw
      case rel => exact ⟨k + 1, by omega, by go_num, hd (by rw [HW.o]; exact HR2.o)⟩
      case measure => simp [intOf]; omega
    · obtain rfl : k = N := by omega
      have hcv : (convert 39 9 u3).run Tryd.prog wr = .ok (.string ⟨(List.replicate k (48 : UInt8)).toArray⟩) wr := NN.conv_u8 (IsL.own HR.o.o)
      go_wp2
      go_ret
      exact ⟨rfl, HR.o.b⟩
end Go.Proofs.YtibmgmgdbicdlaaDoor
