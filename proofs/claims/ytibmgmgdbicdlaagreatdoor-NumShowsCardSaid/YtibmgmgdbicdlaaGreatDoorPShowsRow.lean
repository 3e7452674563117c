/- NumShows: for every input the law returns true and every argument reads as before; the card. -/
import Derived.Test.YtibmgmgdbicdlaaGreatDoorPShowsW
import Derived.Test.YtibmgmgdbicdlaaGreatDoorPTab
import Derived.Test.YtibmgmgdbicdlaaGreatDoorRows
import Derived.Test.YtibmgmgdbicdlaaGreatDoorTie
import Derived.Test.YtibmgmgdbicdlaaGreatDoorCards
import Derived.WalkKit
import Derived.ProofKit
import Derived.Lay
import Derived.LaidOnce
import Derived.SevenTiedAt
import Derived.Lib.LaidTab
import Derived.Stop.LaidErr
namespace Go.Proofs.YtibmgmgdbicdlaaGreatDoor
open Go.RowKit Go.ChangeShapes Go.WideShapes Go.ChangeAt Go.Deep
section
variable {H : Type} {enc : TypeId × Value → H} {w : World} {base : Nat}
theorem open_u64s {P : Program} {t e : TypeId} (ht : P.underlying t = some (.slice e)) (he : P.underlying e = some (.int .u64)) (hce : P.cellsOf e = 1) {v : Value} {d : DataW H} {p : List MemPlace}
    (hv : Value.okWide P w .any base t v) (h : DataW.Trod enc P w 0 (fun _ => true) true t v d p) :
    ∃ A n c, ∃ xs : List Nat, v = .slice A n c ∧ xs.length = n ∧ IsL 1 w (.slice A n c) n (xs.map fun x : Nat => Value.int .u64 (x : Int)) ∧ (∀ x ∈ xs, x < 18446744073709551616) ∧ n ≤ 9223372036854775807 := by
  obtain ⟨A, len, cap, rfl⟩ := okWide_slice ht hv
  obtain ⟨fuel, hf⟩ := h
  rcases open_ints ht he hce hf with ⟨hcs, hx⟩ | ⟨a, len', cap', zs, hcs, _, hl, hm, hz, hx, hi, hwf⟩
  · simp [Value.cells] at hcs
    obtain ⟨rfl, rfl, rfl⟩ := hcs
    exact ⟨none, 0, 0, [], rfl, rfl, IsL.nil 1 w none 0, ⟨(fun n hn => by cases hn), by decide⟩⟩
  · simp [Value.cells] at hcs
    obtain ⟨rfl, rfl, rfl⟩ := hcs
    simp only [if_true] at hz
    have hlen : (zs.take len).length = len := by rw [List.length_take]; omega
    have hb : ∀ z ∈ zs, 0 ≤ z ∧ z < 18446744073709551616 := fun z hzm => by
      have := hwf z hzm
      simp [Lit.wf, IntKind.min, IntKind.max, IntKind.signed, IntKind.bits] at this
      omega
    refine ⟨some a, len, cap, (zs.take len).map Int.toNat, rfl, by rw [List.length_map, hlen], ⟨by simp; omega, some a, cap, rfl, fun i hk => ?_⟩, fun x hx => ?_, by unfold maxLen at hm; omega⟩
    · rw [List.length_map, List.length_map, hlen] at hk
      have hc := hi i (by omega)
      have hget : zs.getD i 0 = (zs.take len)[i]'(by omega) := by
        rw [List.getElem_take, List.getD_eq_getElem?_getD, List.getElem?_eq_getElem (by omega)]; rfl
      have ha : a = ⟨a.block, a.off, none⟩ := by
        have h0 := hi 0 (by omega)
        rw [show a.add 0 = a from by simp [Addr.add]] at h0
        exact plain_of_cell h0
      refine ⟨a.block, a.off, by rw [← ha], ?_⟩
      rw [ha, add_plain, hget] at hc
      have hbd := hb _ (List.mem_of_mem_take (List.getElem_mem (l := zs.take len) (n := i) (by omega)))
      rw [hc]
      simp only [List.getElem_map]
      rw [Int.toNat_of_nonneg hbd.1]
    · obtain ⟨z, hz1, rfl⟩ := List.mem_map.1 hx
      have := hb z (List.mem_of_mem_take hz1)
      omega
end
end Go.Proofs.YtibmgmgdbicdlaaGreatDoor
namespace Go.Proofs.YtibmgmgdbicdlaaGreatDoor.numShows
open Go.RowKit Go.ChangeShapes Go.WideShapes Go.ChangeAt
theorem own : ownKnob Tryz.prog.godebug = none := by kernel_rfl
theorem laidOut : laidOutB Tryz.prog = true := by kernel_rfl
def laid : List (String × DataW Unit) := Rows.numShowsRow.laid
theorem tab_eq : Rows.laid_internal_strconv_uint64pow10 (H := Unit) = Lib.tabData .u64 Lib.pow10Tab := by kernel_rfl
theorem tbl_of {W : World} (hL : laidMet Tryz.prog laid W) : Tbl W := by
  have h8 := hL.tail.tail.tail.tail.tail.tail.tail.tail
  have h12 := h8.tail.tail.tail.tail
  refine ⟨tabIs_pow h12, ?_⟩
  rw [tab_eq] at h8
  exact Lib.tabIs_of_head (g := 4) (t := 235) (e := 22) (n := 20) (by kernel_rfl) (by kernel_rfl) (by kernel_rfl) (by kernel_rfl) (by kernel_rfl) (by kernel_rfl) h8
theorem glb_of {W : World} (hL : laidMet Tryz.prog laid W) : Glb W := by
  have h2 := hL.tail.tail
  have h3 := h2.tail
  have h4 := h3.tail
  have g2 : Tryz.prog.globalNamed "internal/strconv.float32info" = some 5 := by kernel_rfl
  have g3 : Tryz.prog.globalNamed "internal/strconv.float64info" = some 6 := by kernel_rfl
  have g4 : Tryz.prog.globalNamed "internal/strconv.optimize" = some 1 := by kernel_rfl
  have v2 := laid_ints3 g2 (t := 247) (by kernel_rfl) Tryz.underlying247 (by kernel_rfl) (by kernel_rfl) (by kernel_rfl) (by kernel_rfl) (by kernel_rfl) (by kernel_rfl) rfl rfl rfl (by kernel_rfl) h2
  have v3 := laid_ints3 g3 (t := 247) (by kernel_rfl) Tryz.underlying247 (by kernel_rfl) (by kernel_rfl) (by kernel_rfl) (by kernel_rfl) (by kernel_rfl) (by kernel_rfl) rfl rfl rfl (by kernel_rfl) h3
  have v4 := laid_bool g4 (t := 4) (by kernel_rfl) Tryz.underlying4 h4
  exact ⟨World.var?_cell g4 v4 0, World.var?_cell g3 v3 0, World.var?_cell g3 v3 1, World.var?_cell g3 v3 2, laid_block g3 h3 v3 (by decide), laid_block g2 h2 v2 (by decide)⟩
set_option maxRecDepth 100000 in
theorem lifted (os : Os) (started : os.Started) (H : Type) (enc : TypeId × Value → H) :
    ReturnsInHanded {} Tryz.checked os 4 .any (fun w args => (Rows.numShowsSpec.pre enc Tryz.prog Tryz.f4 [] false w args ∧ laidMetH Tryz.prog laid w) ∧ sizedMet enc Tryz.prog Tryz.f4 (OpenSpec.ofChange Rows.numShowsSpec) false w args)
      (Rows.numShowsSpec.post enc Tryz.prog Tryz.f4 false true false false) := by
  refine returnsInHanded_of_change_and (C := Tryz.checked) (X := fun w _ => laidMetH Tryz.prog laid w) (fun _ _ _ hh h => h.of_heap hh) own started (by kernel_rfl) Tryz.func4
    (ChangeSpec.witness_shaped (enc := enc) (C := Tryz.checked) (os := os) (X := fun w _ => laidMetH Tryz.prog laid w) false (World.laidAll Tryz.prog os laid) #[.slice none 0 0] 8 (World.laidAll_os _ _ _)
      (World.shaped_of_ZipB (by kernel_rfl) (by kernel_rfl)) (by kernel_rfl) (by kernel_rfl) (by kernel_rfl)
      (by rw [MakeChecks.laidMetH_plain _ _ _ (by kernel_rfl)]; exact laidMet_laidAll _ (by kernel_rfl) (by kernel_rfl))) ?_
  intro W base args ds gs before hval0 hW _ _ hL _
  have hval : ∀ (j : Nat) t v, Tryz.f4.params[j]? = some t → args[j]? = some v → Value.okWide Tryz.prog W .any base t v := hval0
  have hW' := hW
  obtain ⟨p, q, hA0, hV, rfl, _, _⟩ := hW
  have hA : DataW.TrodAll enc Tryz.prog W 0 (fun _ => true) true Tryz.f4.params.toList args.toList ds p := hA0
  rw [Tryz.params4] at hA hval
  obtain ⟨v0, vs0, d0, ds0, p0, q0, hargs, rfl, rfl, h0, r0⟩ := trodAll_cons hA
  obtain ⟨rfl, rfl, rfl⟩ := trodAll_nil r0
  obtain rfl : args = #[v0] := by cases args; simp_all
  obtain ⟨rfl, rfl⟩ := trodVars_none hV
  have k0 := h0
  have lt0 : ∀ x ∈ p0, x.block < W.heap.size := by obtain ⟨m, hm⟩ := k0; exact DataW.trod_lt m _ _ _ hm
  obtain ⟨A, n, c, xs, rfl, hn, hl, hx, hn2⟩ := open_u64s Tryz.underlying32 Tryz.underlying22 (by kernel_rfl) (hval 0 32 v0 rfl rfl) h0
  rw [MakeChecks.laidMetH_plain _ _ _ (by kernel_rfl)] at hL
  refine (numShows_walk A n c xs W hn hl hx hn2 (glb_of hL) (tbl_of hL)).mono fun e W' ⟨he, hb⟩ => ?_
  subst he
  exact ⟨_, rfl, _, _, _, [], _, [], hW', trodAll_mk1 (shut_bool Tryz.underlying4 _), trodAll_cons_mk (Below.trod laidOut (by kernel_rfl) (of_decide_eq_true (by kernel_rfl)) k0 hb lt0) trodAll_mk0, rfl, hb.frame _, fun h => by cases h⟩
theorem over : Rows.numShowsRow.holds Tryz.pinned (OpenSpec.ofChange Rows.numShowsSpec) :=
  OpenClaim.holds_of_wide 4 Tryz.f4 rfl rfl rfl rfl rfl rfl rfl ⟨rfl, rfl, rfl, rfl, rfl⟩ rfl rfl rfl rfl rfl (by kernel_rfl) Tryz.func4 (by kernel_rfl)
    (of_decide_eq_true (by kernel_rfl)) (by unfold Func.isWrapper; first | (rw [if_pos (by decide +kernel)]; kernel_rfl) | (rw [if_neg (by decide +kernel)]; exact ⟨rfl, rfl⟩))
    (fun os started H enc _ => lifted os started H enc)
theorem proved : Rows.NumShowsCardSaid :=
  Claim7.holds_tied_plain_at .later [] [.data, .data, .widerDeep, .widerDeep, .data, .data, .data, .data, .data, .sentinel, .sentinel, .pinned, .pinned] true (true, "9b9c25cbc7429ce3aaf9607feb08cbedad60a9ee7ebb22cf924b50fecad6bd01") true over (fun _ h => by cases h) (by kernel_rfl) (fun _ h => by cases h) numShows_row_tie rfl ⟨rfl, rfl⟩ (by kernel_rfl) rfl
    (fun f fn hf hfn => by
      obtain rfl : f = 4 := Option.some.inj ((show Tryz.prog.funcNamed "weir/weirlaw02.NumShows" = some 4 by kernel_rfl).symm.trans hf) |>.symm
      obtain rfl : fn = Tryz.f4 := (Option.some.inj (Tryz.func4.symm.trans hfn)).symm
      exact ⟨by kernel_rfl, fun j t ht => by
        rw [Tryz.params4] at ht
        have hm : t ∈ [32] := by simpa using Array.mem_of_getElem? ht
        have hall : ([32].all fun u => !Tryz.prog.wantsStandIn u) = true := by kernel_rfl
        exact (show Tryz.prog.wantsStandIn t = false by simpa using List.all_eq_true.1 hall t hm)⟩)
    (by kernel_rfl)
#print axioms proved
end Go.Proofs.YtibmgmgdbicdlaaGreatDoor.numShows
