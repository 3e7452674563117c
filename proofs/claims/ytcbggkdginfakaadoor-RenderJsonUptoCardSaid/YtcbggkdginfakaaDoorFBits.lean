/- The floats' bits. -/
import Derived.Test.YtcbggkdginfakaaDoorFEfg
import Derived.Laws.Externs
namespace Go.Proofs.YtcbggkdginfakaaDoor
open Go.RowKit
set_option linter.unusedVariables false
set_option linter.unusedSimpArgs false
theorem bits_run (f : Nat) (w : World) : (callFunc 65 #[.float .f64 f]).run Tryd.prog w = .ok (.value (.int .u64 f)) w := by
  rw [run_callFunc_extern Tryd.func65 (e := Extern.MathFloatBits.float64bits) (by kernel_rfl) (by kernel_rfl) (by kernel_rfl) (by rfl)]
  rfl
set_option maxRecDepth 100000 in
set_option maxHeartbeats 1000000 in
/-- nought -/
theorem efg0 (w : World) (B : Nat) (v : Value) (neg : Bool) (hO : w.ownsRow B 5 1 v 0 []) (hB : B ≤ w.heap.size) :
    Calls Tryd.prog 68 #[v, .bool neg, .slice none 0 0, .int .i64 0, .int .i64 0, .int .i64 (-1), .int .u8 102, .bool true] w fun e w' =>
      ∃ v', e = .returned v' ∧ w'.ownsRow B 5 1 v' (sgn neg ++ [48]).length (cellsB (sgn neg ++ [48])) ∧ Below B w w' := by
  have HO := hd hO
  clear hO
  cases neg with
  | false =>
    go_enter Tryd.func68, Tryd.ntmps68
    go_wp2_with (at_builtin; refine wpList_app_litH 35 5 (.int .u8 0) 1 1 Tryd.underlying35 info_u8f rfl (by decide) rfl _ _ rfl B v 0 [] _ #[.int .u8 48] 1 _ rfl rfl rfl HO.o rfl (by simp [Value.oneCell']) (by omega) (by omega) hB ?_)
    intro v' w' ho hg
    have H1 := hd ho
    have HB := hd ((Below.refl B w).grown hg hB (fun q hq => (HO.o.lt q hq).1))
    clear ho hg
    go_wp2
    go_ret
    exact ⟨_, rfl, H1.o, HB.o⟩
  | true =>
    go_enter Tryd.func68, Tryd.ntmps68
    go_wp2_with (at_builtin; refine wpList_app_litH 35 5 (.int .u8 0) 1 1 Tryd.underlying35 info_u8f rfl (by decide) rfl _ _ rfl B v 0 [] _ #[.int .u8 45] 1 _ rfl rfl rfl HO.o rfl (by simp [Value.oneCell']) (by omega) (by omega) hB ?_)
    intro v1 w1 ho hg
    have H1 := hd ho
    have HB := hd ((Below.refl B w).grown hg hB (fun q hq => (HO.o.lt q hq).1))
    have hz := HB.o.size
    have hB1 : B ≤ w1.heap.size := by omega
    clear ho hg hz
    go_wp2_with (at_builtin; refine wpList_app_litH 35 5 (.int .u8 0) 1 1 Tryd.underlying35 info_u8f rfl (by decide) rfl _ _ rfl B v1 (0 + 1) ([] ++ [.int .u8 45]) _ #[.int .u8 48] 1 _ rfl rfl rfl H1.o rfl (by simp [Value.oneCell']) (by omega) (by omega) hB1 ?_)
    intro v' w' ho hg
    have H2 := hd ho
    have HB2 := hd (HB.o.grown hg hB1 (fun q hq => (H1.o.lt q hq).1))
    clear ho hg
    go_wp2
    go_ret
    exact ⟨_, rfl, H2.o, HB2.o⟩
end Go.Proofs.YtcbggkdginfakaaDoor
