/- The iterator that utf.All answers, whatever the loop's body. -/
import Derived.RangeFuncNested
import Derived.RangeFuncBound
import Derived.RangeFuncCalls
import Derived.RangeFuncLeaves
import Derived.RangeFuncBox
import Derived.Shelf.Abstract
import Derived.Shelf.RegionOpen
import Derived.OwnWalkIn
import Derived.TacticsInMore
import Derived.LoopNIn
import Derived.LoopIn
import Derived.Maps.AppendAt
import Derived.Test.YthlpgnidjjclcaaURefAll
namespace Go.Proofs.Ythlpgnidjjclcaa
open Go.RowKit Go.Shelf
set_option linter.unusedVariables false
set_option linter.unusedSimpArgs false
attribute [local go_sem] Oper.semAt_some
namespace U
/-- places and runes, up to the first fault -/
def allFrom (s : ByteArray) (p : Nat) : List (Nat × Nat) :=
  if h : p < s.size then if bad s p then [] else (p, run s p) :: allFrom s (p + (Utf8.decode s p).2) else []
termination_by s.size - p
decreasing_by have := dec_pos s p; omega
theorem all_step (s : ByteArray) (p : Nat) (h : p < s.size) (hb : bad s p = false) : allFrom s p = (p, run s p) :: allFrom s (p + (Utf8.decode s p).2) := by rw [allFrom, dif_pos h, if_neg (by simp [hb])]
theorem all_end (s : ByteArray) (p : Nat) (h : ¬ p < s.size) : allFrom s p = [] := by rw [allFrom, dif_neg h]
theorem all_bad (s : ByteArray) (p : Nat) (h : bad s p = true) : allFrom s p = [] := by rw [allFrom, if_pos h]; split <;> rfl
end U
def KpS (n₀ : Nat) (A B : World) : Prop := KeepsWalks A B ∧ Below n₀ A B
theorem kpS_t {n₀ : Nat} {A B C : World} (h : KpS n₀ A B) (k : KpS n₀ B C) : KpS n₀ A C := ⟨h.1.trans k.1, h.2.trans k.2⟩
theorem kpS_b {n₀ : Nat} {w : World} (hn : n₀ ≤ w.heap.size) (W : World) (l : Nat) (o o' : Obj) (hl : w.heap.size ≤ l) (h : W.heap[l]? = some o) (hc : o.isCells = false) (hw : o.isWalk = false) : KpS n₀ W (W.putObj l o') :=
  ⟨walksK_b (w := w) W l o o' hl h hc hw, belowK_b hn W l o o' hl h hc hw⟩
set_option maxRecDepth 100000 in
set_option maxHeartbeats 1000000 in
theorem all1_in (n : Nat) (hn : 1 ≤ n) (l Bn n₀ : Nat) (s : ByteArray) (hs : s.size ≤ 1125899906842) (J Jx : List (Nat × Nat) → World → Prop) (W : World) (hJ : AbidesFrom W.heap.size J)
    (hY : ∀ pre x W1, J pre W1 → pre.length < (U.allFrom s 0).length → YieldAt Fence.wide (n - 1) Try.prog l #[.int .i64 (x.1 : Int), .int .i32 (x.2 : Int)] W1 fun e W' =>
      (e = .returned (.bool true) ∧ J (pre ++ [x]) W' ∧ KpS n₀ W1 W') ∨ (e = .returned (.bool false) ∧ Jx (pre ++ [x]) W'))
    (hc : W.cell? ⟨Bn, 0, none⟩ = some (.string s)) (hB : Bn < n₀) (hn₀ : n₀ ≤ W.heap.size) (h0 : J [] W) :
    CallsIn Fence.wide n Try.prog 43 #[.func (.yield l) #[] #[], .pointer (some ⟨Bn, 0, none⟩)] W fun e W' => (∃ v, e = .returned v) ∧
      ((∃ ys, ys = U.allFrom s 0 ∧ J ys W') ∨ (∃ pre, pre <+: U.allFrom s 0 ∧ Jx pre W')) := by
  have HJ := hd hJ
  have HY := hd hY
  clear hJ hY
  refine callsIn_of_wp Try.func43 rfl trivial ?_ rfl
  simp only [Try.ntmps43, List.size_toArray, List.length_cons, List.length_nil, Nat.reduceAdd, Nat.reduceSub, Array.replicate_succ, Array.replicate_zero, List.push_toArray, List.append_toArray, List.nil_append, List.cons_append]
  gi_wp2
  gi_loopw [] (fun wr => ∃ (pos : Nat) (pre : List (Nat × Nat)), pos ≤ s.size ∧ Hd (wr.heap[W.heap.size]? = some (.stringIter s pos)) ∧ Hd (J pre wr) ∧ wr.cell? ⟨Bn, 0, none⟩ = some (.string s) ∧ Hd (pre ++ U.allFrom s pos = U.allFrom s 0)) (fun wr => s.size - wr.iterPos W.heap.size)
  case atStart => exact ⟨0, [], Nat.zero_le _, hd (World.iter_heap _ _ _), hd (HJ.o _ _ _ none h0 (World.grownBy_alloc _ _ _) (fun r e => by cases e)), (World.cell?_alloc_lt W _ ⟨Bn, 0, none⟩ (show Bn < W.heap.size by omega)).trans hc, hd rfl⟩
  case round =>
    obtain ⟨pos, pre, hpos, hit, hj, hcell, hpre⟩ := hrel
    have HC := hd hcell
    have hkw : W.heap.size < wr.heap.size := (Array.getElem?_eq_some_iff.1 hit.o).1
    by_cases hp : pos < s.size
    · have hnx : ∀ ty, (Instr.next (.pointer (some ⟨W.heap.size, 0, none⟩)) true ty).run Try.prog wr = _ := fun ty => Lib.run_next_any_at wr W.heap.size s pos ty hit.o hp
      have hb1 := decode_le s pos
      have hdp := U.dec_pos s pos
      have hle := U.dec_le s pos hp
      have HIT2 := hd (Lib.iterAt_heap wr W.heap.size s pos (pos + (Utf8.decode s pos).2) hit.o)
      have HG : Hd (wr.grownBy (wr.iterAt W.heap.size s (pos + (Utf8.decode s pos).2)) (some W.heap.size)) := hd ⟨rfl, rfl, rfl, by simp [World.iterAt], fun k hk hne => Lib.iterAt_other wr W.heap.size k s _ (fun e => hne (by rw [e]))⟩
      have HJ2 : Hd (J pre (wr.iterAt W.heap.size s (pos + (Utf8.decode s pos).2))) := hd (HJ.o _ _ _ _ hj.o HG.o (fun r e => by cases e; exact ⟨Nat.le_refl _, _, hit.o, rfl⟩))
      have hcell2 : (wr.iterAt W.heap.size s (pos + (Utf8.decode s pos).2)).cell? ⟨Bn, 0, none⟩ = some (.string s) := (World.cell?_of_block (HG.o.block Bn (by omega) (fun e => by simp at e; omega))).trans hcell
      have HC2 := hd hcell2
      have HIP := hd (iterPos_of hit.o)
      by_cases hr : (Utf8.decode s pos).1 = 65533
      · have hr' : Hd ((Utf8.decode s pos).1 = 65533) := hd hr
        have hb : (((Utf8.decode s pos).1 : Int) == 65533) = true := by rw [hr]; rfl
        clear hr
        cases hrep : U.rep s pos with
        | false =>
          have hbad := (U.bad_iff s pos hp).2 ⟨hr'.o, hrep⟩
          have H : Hd (U.rep s pos = false) := hd hrep
          have G : Hd (pre = U.allFrom s 0) := hd <| by rw [← hpre.o, U.all_bad s pos hbad, List.append_nil]
          clear hrep hbad
          gi_wp2_with (refine ⟨trivial, ?_⟩; gi_at_call 44; refine (callsIn_wide.2 (replaced_any s pos _ (by omega) hpos)).mono ?_; rintro e w' ⟨rfl, rfl⟩; rw [H.o])
          refine bodyPost_ret (results_none rfl _ _ _) rfl ?_
          exact ⟨⟨_, rfl⟩, .inl ⟨pre, G.o, HJ2.o⟩⟩
        | true =>
          have hbad : U.bad s pos = false := by
            cases hb : U.bad s pos with
            | false => rfl
            | true => have := ((U.bad_iff s pos hp).1 hb).2; rw [hrep] at this; cases this
          have H : Hd (U.rep s pos = true) := hd hrep
          have hstep := U.all_step s pos hp hbad
          have hlen : pre.length < (U.allFrom s 0).length := by rw [← hpre.o, hstep]; simp
          have GP : Hd ((pre ++ [(pos, (Utf8.decode s pos).1)]) ++ U.allFrom s (pos + (Utf8.decode s pos).2) = U.allFrom s 0) := hd <| by rw [← hpre.o, hstep, List.append_assoc]; rfl
          obtain ⟨fn, tmps, assign, body, hy, hR⟩ := HY.o pre (pos, (Utf8.decode s pos).1) _ HJ2.o hlen
          dsimp only at hy
          clear hbad hstep hlen hrep
          gi_wp2_with (refine ⟨trivial, ?_⟩; gi_at_call 44; refine (callsIn_wide.2 (replaced_any s pos _ (by omega) hpos)).mono ?_; rintro e w' ⟨rfl, rfl⟩; rw [H.o])
          refine hR.mono ?_
          rintro e W3 (⟨rfl, hJ3, hk⟩ | ⟨rfl, hx3⟩)
          · have hit3 := hd (hk.1.same _ _ HIT2.o rfl)
            have hc3 := (hk.2.cell (p := ⟨Bn, 0, none⟩) hB).trans HC2.o
            have HJ3 := hd hJ3
            clear hJ3 hk hR hy hcell hcell2
            gi_wp2
            go_roundw
            case rel => exact ⟨_, _, hle, hit3, HJ3, hc3, GP⟩
            case measure => rw [iterPos_of hit3.o, HIP.o]; omega
          · have HX3 := hd hx3
            clear hx3 hR hy
            gi_wp2
            refine bodyPost_ret (results_none rfl _ _ _) rfl ?_
            exact ⟨⟨_, rfl⟩, .inr ⟨_, ⟨_, GP.o⟩, HX3.o⟩⟩
      · have hb : (((Utf8.decode s pos).1 : Int) == 65533) = false := by rw [beq_eq_false_iff_ne]; omega
        have hbad : U.bad s pos = false := by
          cases hb : U.bad s pos with
          | false => rfl
          | true => exact absurd ((U.bad_iff s pos hp).1 hb).1 hr
        have hstep := U.all_step s pos hp hbad
        have hlen : pre.length < (U.allFrom s 0).length := by rw [← hpre.o, hstep]; simp
        have GP : Hd ((pre ++ [(pos, (Utf8.decode s pos).1)]) ++ U.allFrom s (pos + (Utf8.decode s pos).2) = U.allFrom s 0) := hd <| by rw [← hpre.o, hstep, List.append_assoc]; rfl
        obtain ⟨fn, tmps, assign, body, hy, hR⟩ := HY.o pre (pos, (Utf8.decode s pos).1) _ HJ2.o hlen
        dsimp only at hy
        clear hbad hstep hlen hr
        gi_wp2
        refine ⟨trivial, ?_⟩
        gi_wp2
        refine hR.mono ?_
        rintro e W3 (⟨rfl, hJ3, hk⟩ | ⟨rfl, hx3⟩)
        · have hit3 := hd (hk.1.same _ _ HIT2.o rfl)
          have hc3 := (hk.2.cell (p := ⟨Bn, 0, none⟩) hB).trans HC2.o
          have HJ3 := hd hJ3
          clear hJ3 hk hR hy hcell hcell2
          gi_wp2
          go_roundw
          case rel => exact ⟨_, _, hle, hit3, HJ3, hc3, GP⟩
          case measure => rw [iterPos_of hit3.o, HIP.o]; omega
        · have HX3 := hd hx3
          clear hx3 hR hy
          gi_wp2
          refine bodyPost_ret (results_none rfl _ _ _) rfl ?_
          exact ⟨⟨_, rfl⟩, .inr ⟨_, ⟨_, GP.o⟩, HX3.o⟩⟩
    · have hnx := fun ty => Lib.run_next_end_at (P := Try.prog) wr W.heap.size s pos ty hit.o hp
      have G : Hd (pre = U.allFrom s 0) := hd <| by rw [← hpre.o, U.all_end s pos hp, List.append_nil]
      gi_wp2
      go_end0
      exact ⟨⟨_, rfl⟩, .inl ⟨pre, G.o, hj.o⟩⟩
end Go.Proofs.Ythlpgnidjjclcaa
