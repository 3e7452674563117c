/- RenderFailures: the law's walk. -/
import Derived.Test.YtifaepkeoffcfaaDoorRFailC
import Derived.Deep.RegionLaw
namespace Go.Proofs.YtifaepkeoffcfaaDoor
open Go.RowKit
set_option linter.unusedVariables false
set_option linter.unusedSimpArgs false
theorem Pow.on {w w' : World} (h : Pow w.heap.size w) (hb : Below w.heap.size w w') : Pow w'.heap.size w' := fun _ h2 => h _ (bel hb h2)
def T.aw : List UInt8 := [123, 34, 115, 116, 97, 116, 117, 115, 34, 58, 34, 101, 114, 114, 111, 114, 34, 44, 34, 101, 114, 114, 111, 114, 84, 121, 112, 101, 34, 58, 34, 98, 97, 100, 95, 100, 97, 116, 97, 34, 44, 34, 101, 114, 114, 111, 114, 34, 58, 34, 119, 101, 105, 114, 58, 32, 101, 114, 114, 111, 114, 32, 49, 51, 48, 32, 97, 116, 32, 53, 34, 125]
theorem k_fail : T.ans (T.ty 400) 130 5 = T.aw := by decide +kernel
set_option maxRecDepth 100000 in
set_option maxHeartbeats 1000000 in
theorem rfail_walk (s e p : Int) (w : World) (he0 : -9223372036854775808 ≤ e) (he1 : e ≤ 9223372036854775807) (hp0 : -9223372036854775808 ≤ p) (hp1 : p ≤ 9223372036854775807) (hT : Pow w.heap.size w) :
    Calls Tryd.prog 3 #[.int .i64 s, .int .i64 e, .int .i64 p] w fun x w' => x = .returned (.bool true) ∧ Below w.heap.size w w' := by
  have HT := hd hT
  have KF := hd k_fail
  obtain ⟨q, hq⟩ : ∃ q, q = T.ans (T.ty s) e p := ⟨_, rfl⟩
  have HQ := hd hq
  clear hT hq
  go_enter Tryd.func3, Tryd.ntmps3
  go_wp2_with fail
  refine (failure_any 400 130 5 _ (by decide) (by decide) (by decide) (by decide) HT.o).mono ?_
  rintro x w1 ⟨⟨v1, m1, rfl, h1⟩, hb1⟩
  rw [KF.o] at h1
  have hcv := conv_isL h1
  unfold T.aw at hcv
  have HB1 := hd hb1
  clear h1 hb1
  go_wp2
  clear hcv
  go_region_law? (first
    | (go_simp; go_at_call 5; refine (failure_any s e p _ he0 he1 hp0 hp1 (by first | exact Pow.on HT.o HBR.o | exact Pow.on HT.o HB1.o.drew)).mono ?_; rintro x w3 ⟨⟨v2, m2, rfl, h2⟩, hb2⟩; rw [← HQ.o] at h2; have HN := hd h2; have hcv := conv_isL h2; have HBN := hd (bel (show Below w.heap.size w _ by first | exact HBR.o | exact HB1.o.drew) hb2); (try have hcv3 := conv_isL (HR.o.below hb2)); clear hb2 h2)
    | (go_simp; go_at_call 6; refine (reffailure_any s e p _ he0 he1 hp0 hp1 (by first | exact Pow.on HT.o HBN.o | exact Pow.on HT.o HB1.o.drew)).mono ?_; rintro x w4 ⟨⟨v3, m3, rfl, h3⟩, hb3⟩; rw [← HQ.o] at h3; have HR := hd h3; have hcv4 := conv_isL h3; have HBR := hd (bel (show Below w.heap.size w _ by first | exact HBN.o | exact HB1.o.drew) hb3); (try have hcv5 := conv_isL (HN.o.below hb3)); clear hb3 h3))
  all_goals go_wp2
  all_goals go_ret
  all_goals exact ⟨rfl, HBR.o⟩
end Go.Proofs.YtifaepkeoffcfaaDoor
