/- weirlaw16.alike of two vectors that say the same. -/
import Derived.Test.YtifaepkeoffcfaaVBase
import Derived.Test.YtifaepkeoffcfaaVFlt
import Derived.Test.YtifaepkeoffcfaaLSame
import Derived.Deep.LoopGhost
namespace Go.Proofs.Ytifaepkeoffcfaa
open Go.RowKit Go.Sort
set_option linter.unusedVariables false
set_option linter.unusedSimpArgs false
set_option maxHeartbeats 4000000 in
set_option maxRecDepth 100000 in
theorem alike_any (n ca cb : Nat) (A B : Option Addr) (E F : List El) (w : World) (hE : IsV w (.slice A n ca) n E) (hF : IsV w (.slice B n cb) n F) (he : E.map El.d = F.map El.d) (hn : n ≤ 1099511627776) (hS : ∀ x ∈ E, x.l.length ≤ 1099511627776) :
    Calls Try.prog 29 #[.slice A n ca, .slice B n cb] w fun e w' => e = .returned (.bool true) ∧ Below w.heap.size w w' := by
  have HE := hd hE
  have HF := hd hF
  have HN := hd hE.len
  have HM := hd hF.len
  have HD := hd he
  have HS := hd hS
  clear hE hF he hS
  go_enter Try.func29, Try.ntmps29
  go_wp2
  go_loopg [15] n (fun kx vi wr => ∃ i : Nat, vi = .int .i64 i ∧ i ≤ n ∧ n - i ≤ kx ∧ Hd (Below w.heap.size w wr))
  case atStart => exact ⟨0, rfl, Nat.zero_le _, Nat.le_refl _, hd (Below.refl _ _)⟩
  case round =>
    obtain ⟨i, rfl, hi, hkx, HB⟩ := hrel
    by_cases hil : i < n
    · have hilz : (i : Int) < (n : Int) := by omega
      have hiE : i < E.length := by rw [HN.o]; exact hil
      have hiF : i < F.length := by rw [HM.o]; exact hil
      have HE2 := hd (HE.o.below HB.o)
      have HF2 := hd (HF.o.below HB.o)
      obtain ⟨b1, o1, rfl, _, a1, a2⟩ := HE2.o.at_ i hiE
      obtain ⟨b2, o2, rfl, _, a3, a4⟩ := HF2.o.at_ i hiF
      have HXA := hd (HE2.o.2 _ (List.getElem_mem hiE))
      have HXB := hd (HF2.o.2 _ (List.getElem_mem hiF))
      have HSX := hd (HS.o _ (List.getElem_mem hiE))
      have hd1 : (E[i]'hiE).d = (F[i]'hiF).d := by
        have h1 : (E.map El.d)[i]? = (F.map El.d)[i]? := by rw [HD.o]
        simpa [List.getElem?_map, List.getElem?_eq_getElem hiE, List.getElem?_eq_getElem hiF] using h1
      generalize E[i]'hiE = x at *
      generalize F[i]'hiF = y at *
      obtain ⟨xp, xc, xl, xf⟩ := x
      obtain ⟨yp, yc, yl, yf⟩ := y
      simp only [El.d, Prod.mk.injEq] at hd1
      obtain ⟨rfl, rfl⟩ := hd1
      simp only [El.sl] at a1 a2 a3 a4 HXA HXB HSX
      have HCA := hd (And.intro (And.intro a1 a2) (And.intro a3 a4))
      clear a1 a2 a3 a4
      go_wp2_with fail
      refine wp_region_below (by kernel_rfl) (by kernel_rfl) ?_
      have f1 := fun p : BelW wr => p.cell (HCA.o).1.2
      have f2 := fun p : BelW wr => p.cell (HCA.o).2.2
      repeat (go_big_quiet_step (fail))
      refine wpQuiet_nil ?_
      rintro w2 ⟨⟨_, hb2⟩, rfl⟩
      clear f1 f2
      have HB2 := hd (bel HB.o hb2)
      have HC2 : Hd (w2.cell? ⟨b1, o1 + i * 2, none⟩ = some (.slice xp xl.length xc) ∧ w2.cell? ⟨b2, o2 + i * 2, none⟩ = some (.slice yp xl.length yc)) := hd ⟨(⟨w2, hb2⟩ : BelW wr).cell (HCA.o).1.1, (⟨w2, hb2⟩ : BelW wr).cell (HCA.o).2.1⟩
      have C1 := hd (fun p : BelW w2 => by
        have h := lsame_any (.slice xp xl.length xc) (.slice yp xl.length yc) xl.length xl.length xl xl p.w ((HXA.o.below hb2).below p.h) ((HXB.o.below hb2).below p.h) (by have := HSX.o; omega)
        rw [decide_eq_true rfl] at h; exact h)
      clear hb2 HCA
      rcases fself xf with ⟨q1, q2, q3⟩ | ⟨q1, q2, q3⟩ | ⟨q1, q2, q3, r, q4, q5⟩
      · go_wp2_with fail
        refine wp_region_below (by kernel_rfl) (by kernel_rfl) ?_
        have f1 := fun p : BelW w2 => p.cell (HC2.o).1
        have f2 := fun p : BelW w2 => p.cell (HC2.o).2
        repeat (go_big_quiet_step (first | (go_at_call 16; exact Calls.below_of (C1.o _))))
        refine wpQuiet_nil ?_
        rintro w3 ⟨⟨_, hb3⟩, rfl⟩
        clear f1 f2
        have HB3 := hd (bel HB2.o hb3)
        clear hb3
        go_wp2
        go_roundg (n - (i + 1))
        case measure => omega
        case rel => exact ⟨i + 1, by go_num, by omega, by omega, HB3⟩
      · go_wp2_with fail
        refine wp_region_below (by kernel_rfl) (by kernel_rfl) ?_
        have f1 := fun p : BelW w2 => p.cell (HC2.o).1
        have f2 := fun p : BelW w2 => p.cell (HC2.o).2
        repeat (go_big_quiet_step (first | (go_at_call 16; exact Calls.below_of (C1.o _))))
        refine wpQuiet_nil ?_
        rintro w3 ⟨⟨_, hb3⟩, rfl⟩
        clear f1 f2
        have HB3 := hd (bel HB2.o hb3)
        clear hb3
        go_wp2
        go_roundg (n - (i + 1))
        case measure => omega
        case rel => exact ⟨i + 1, by go_num, by omega, by omega, HB3⟩
      · have q6 := fun w' => run_float_arith (P := Try.prog) w' .quo 48 .f64 4607182418800017408 xf r q4
        go_wp2_with fail
        refine wp_region_below (by kernel_rfl) (by kernel_rfl) ?_
        have f1 := fun p : BelW w2 => p.cell (HC2.o).1
        have f2 := fun p : BelW w2 => p.cell (HC2.o).2
        repeat (go_big_quiet_step (first | (go_at_call 16; exact Calls.below_of (C1.o _))))
        refine wpQuiet_nil ?_
        rintro w3 ⟨⟨_, hb3⟩, rfl⟩
        clear f1 f2
        have HB3 := hd (bel HB2.o hb3)
        clear hb3
        go_wp2
        go_roundg (n - (i + 1))
        case measure => omega
        case rel => exact ⟨i + 1, by go_num, by omega, by omega, HB3⟩
    · have hin : i = n := by omega
      go_wp2
      go_ret
      exact ⟨rfl, HB.o⟩
end Go.Proofs.Ytifaepkeoffcfaa
