/- RenderMemory: for every input of bulk at most 1048576 the law returns true and every argument reads as before; the card of the second form. -/
import Derived.Test.YtcbggkdginfakaaGreatDoorRMWalk
import Derived.Test.YtcbggkdginfakaaGreatDoorRRC
import Derived.Test.YtcbggkdginfakaaGreatDoorRSetsW
import Derived.Test.YtcbggkdginfakaaGreatDoorPTab
import Derived.Test.YtcbggkdginfakaaGreatDoorRows
import Derived.Test.YtcbggkdginfakaaGreatDoorTie
import Derived.Test.YtcbggkdginfakaaGreatDoorCards
import Derived.WalkKit
import Derived.ProofKit
import Derived.Lay
import Derived.LaidOnce
import Derived.SevenTiedAt
import Derived.Deep.DeepHandedRow
import Derived.Lib.LaidTab
import Derived.Stop.LaidErr
namespace Go.Proofs.YtcbggkdginfakaaGreatDoor
open Go.RowKit Go.ChangeShapes Go.WideShapes Go.Deep
section
variable {H : Type} {enc : TypeId × Value → H} {w : World} {base : Nat}
theorem lbs_bulk {fuel : Nat} {v : Value} {x : DataW H × List MemPlace} (h : DataW.trod enc Tryz.prog w 0 (fun _ => true) true fuel 38 [v] = some x) {l : List Lb} (hl : IsLbs w v l) : l.length ≤ Rows.uptoBulk x.1 := by
  rcases open_slice_fields Tryz.underlying38 Tryz.underlying122 (by kernel_rfl) (by kernel_rfl) h with ⟨hcs, hx⟩ | ⟨a, len, cap, m, D, Pl, hcs, _, hle, hm, hmm, hx, hi⟩
  · obtain rfl : v = .slice none 0 0 := by simpa using hcs
    obtain ⟨⟨h1, A', c', e, h2⟩, _⟩ := hl
    simp only [Value.slice.injEq] at e
    omega
  · obtain rfl : v = .slice (some a) len cap := by simpa using hcs
    obtain ⟨⟨_, A', c', e, _⟩, _⟩ := hl
    simp only [Value.slice.injEq] at e
    subst hx
    show l.length ≤ Rows.uptoBulk (DataW.slice ((List.range len).map D) _)
    rw [bulk_slice]
    have := bulk_len ((List.range len).map D)
    rw [List.length_map, List.length_range] at this
    omega
theorem bulk_app (a b : List (DataW H)) : Rows.uptoBulkAll (a ++ b) = Rows.uptoBulkAll a + Rows.uptoBulkAll b := by
  induction a with
  | nil => rw [List.nil_append, bulk_nil]; omega
  | cons x a ih => rw [List.cons_append, bulk_cons, bulk_cons, ih]; omega
theorem tot_bulk (D : Nat → DataW H) (l : List (List Lb)) (h : ∀ i (hi : i < l.length), (l[i]'hi).length ≤ Rows.uptoBulk (D i)) : ∀ k, k ≤ l.length → R.tot (l.take k) ≤ Rows.uptoBulkAll ((List.range k).map D) := by
  intro k
  induction k with
  | zero => intro _; simp [R.tot]
  | succ k ih =>
    intro hk
    rw [R.tot_take l k (by omega), List.range_succ, List.map_append, bulk_app]
    have h1 := ih (by omega)
    have h2 := h k (by omega)
    have h3 : Rows.uptoBulkAll (H := H) (List.map D [k]) = Rows.uptoBulk (D k) + 0 := by rw [List.map_cons, List.map_nil, bulk_cons, bulk_nil]
    omega
set_option maxRecDepth 100000 in
theorem open_lbssT {v : Value} {d : DataW H} {p : List MemPlace} (hv : Value.okWide Tryz.prog w .any base 37 v) (h : DataW.Trod enc Tryz.prog w 0 (fun _ => true) true 37 v d p)
    (hw : ∀ n ∈ d.weights Tryz.prog 37, n ≤ reachBytes) (hb : Rows.uptoBulk d ≤ 1048576) : ∃ l, IsLbss w v l ∧ Sm l ∧ l.length ≤ 1048576 ∧ R.tot l ≤ 1048576 := by
  obtain ⟨A, len, cap, rfl⟩ := okWide_slice Tryz.underlying37 hv
  obtain ⟨fuel, hf⟩ := h
  rcases open_slice1 Tryz.underlying37 (by kernel_rfl) hf with ⟨hcs, hx⟩ | ⟨a, len', cap', m, n, V, D, Pl, hcs, _, hl, hm, hmm, hx, hi⟩
  · simp [Value.cells] at hcs
    obtain ⟨rfl, rfl, rfl⟩ := hcs
    exact ⟨[], ⟨none, 0, rfl, by simp, fun i hi => absurd hi (by simp)⟩, (fun x hx => by cases hx), by simp, by simp [R.tot]⟩
  · simp [Value.cells] at hcs
    obtain ⟨rfl, rfl, rfl⟩ := hcs
    simp only [if_true] at hmm
    simp only [Prod.mk.injEq] at hx
    obtain ⟨hd, _⟩ := hx
    subst hd
    have hbl := bulk_len ((List.range len).map D)
    rw [bulk_slice] at hb
    rw [List.length_map, List.length_range] at hbl
    have each : ∀ i, i < len → ∃ y : List Lb, w.cell? (a.add i) = some (V i) ∧ IsLbs w (V i) y ∧ (∀ z ∈ y, z.1.size ≤ 1048576 ∧ z.2.size ≤ 1048576) ∧ y.length ≤ Rows.uptoBulk (D i) := by
      intro i hil
      obtain ⟨h1, h2⟩ := hi i (by omega)
      have hmem : D i ∈ (List.range len).map D := List.mem_map.2 ⟨i, List.mem_range.2 hil, rfl⟩
      have hp := bulk_part hmem
      obtain ⟨l, hl, hs⟩ := open_lbsB h2 (fun q hq => hw q (weights_mem_slice Tryz.underlying37 hmem hq)) (show Rows.uptoBulk (D i) ≤ 1048576 by omega)
      exact ⟨l, h1, hl, hs, lbs_bulk h2 hl⟩
    obtain ⟨l, hlen, hR⟩ := list_of len _ each
    subst hlen
    refine ⟨l, ⟨some a, cap, rfl, by omega, fun i hil => ?_⟩, ?_, by omega, ?_⟩
    · have ha : a = ⟨a.block, a.off, none⟩ := by
        have := (hR 0 (by omega)).1
        rw [show a.add 0 = a from by simp [Addr.add]] at this
        exact plain_of_cell this
      obtain ⟨r1, r2, _⟩ := hR i hil
      refine ⟨a.block, a.off, V i, congrArg some ha, ?_, r2⟩
      rw [ha, add_plain] at r1
      exact r1
    · intro x hx
      obtain ⟨k, hk, rfl⟩ := List.mem_iff_getElem.1 hx
      exact (hR k hk).2.2.1
    · have := tot_bulk D l (fun i hi => (hR i hi).2.2.2) l.length (Nat.le_refl _)
      rw [List.take_of_length_le (Nat.le_refl _)] at this
      omega
end
end Go.Proofs.YtcbggkdginfakaaGreatDoor
namespace Go.Proofs.YtcbggkdginfakaaGreatDoor.renderMemory
open Go.RowKit Go.ChangeShapes Go.WideShapes Go.ChangeAt
theorem own : ownKnob Tryz.prog.godebug = none := by kernel_rfl
theorem laidOut : laidOutB Tryz.prog = true := by kernel_rfl
def laid : List (String × DataW Unit) := [("math/bits.deBruijn32tab", Rows.laid_math_bits_deBruijn32tab), ("math/bits.deBruijn64tab", Rows.laid_math_bits_deBruijn64tab), ("internal/strconv.optimize", Rows.laid_internal_strconv_optimize), ("internal/strconv.uint64pow10", Rows.laid_internal_strconv_uint64pow10), ("internal/strconv.leftcheats", Rows.laid_internal_strconv_leftcheats), ("internal/strconv.pow10Tab", Rows.laid_internal_strconv_pow10Tab)]
theorem tab_eq : Rows.laid_internal_strconv_uint64pow10 (H := Unit) = Lib.tabData .u64 Lib.pow10Tab := by kernel_rfl
theorem tabIs_of {W : World} (hL : laidMet Tryz.prog laid W) : Lib.TabIs Tryz.prog W "internal/strconv.uint64pow10" .u64 Lib.pow10Tab := by
  have h3 := hL.tail.tail.tail
  rw [tab_eq] at h3
  exact Lib.tabIs_of_head (g := 3) (t := 201) (e := 105) (n := 20) (by kernel_rfl) (by kernel_rfl) (by kernel_rfl) (by kernel_rfl) (by kernel_rfl) (by kernel_rfl) h3
theorem tbl_of {W : World} (hL : laidMet Tryz.prog laid W) : Tbl W := ⟨tabIs_pow hL.tail.tail.tail.tail.tail, tabIs_of hL⟩
theorem pow_of {W : World} (hL : laidMet Tryz.prog laid W) : Pow W.heap.size W := Lib.tabBelow_of_tabIs (tabIs_of hL)
section
variable {H : Type} {enc : TypeId × Value → H}
theorem witness_row_z {C : Checked} {os : Os} {f : FuncId} {fn : Func} {s : OpenSpec} {conds : List PathCond} {apart : Bool} {laid : List (String × DataW Unit)} (modest : Bool) (w0 : World) (args : Array Value) (hos : w0.os = os)
    (hs : (w0.forCall (fun _ _ => 0) ⟨#[], args, []⟩).Shaped C.prog)
    (hok : Input.okWideB C.prog (w0.forCall (fun _ _ => 0) ⟨#[], args, []⟩) f ⟨#[], args, []⟩ = true)
    (hrow : s.preRow enc C.prog fn conds apart laid (w0.forCall (fun _ _ => 0) ⟨#[], args, []⟩).memory args) :
    ∃ (w : World) (tape : Tape) (i : Input), w.os = os ∧ (w.forCall tape i).Shaped C.prog ∧ i.vars = [] ∧ Input.okWide C.prog (w.forCall tape i) .any w.heap.size f i ∧
      s.preRow enc C.prog fn conds apart laid (w.forCall tape i).memory i.args ∧ ({ modest := modest } : Assume).holds C.prog (lone (Frame.enter C.prog f i.args .normal) [] (w.forCall tape i)) :=
  ⟨w0, fun _ _ => 0, ⟨#[], args, []⟩, hos, hs, (Input.okWide_of_okWideB (base := 0) hok).1, (Input.okWide_of_okWideB hok).2, hrow, by
    simp only [Assume.holds]
    exact ⟨by simp, by simp, fun _ => Modest.zero, by simp, by simp⟩⟩
end
theorem reads (os : Os) {H : Type} (enc : TypeId × Value → H) : ∃ places, DataW.whole enc Tryz.prog ((World.laidAll Tryz.prog os laid).forCall (fun _ _ => 0) ⟨#[], #[.agg #[.int .i64 0, .int .i64 0, .float .f64 0, .string ⟨#[]⟩, .slice none 0 0, .slice none 0 0], .slice none 0 0, .slice none 0 0], []⟩).memory Tryz.f4.params.toList Rows.renderMemorySpec.vars false #[Value.agg #[.int .i64 0, .int .i64 0, .float .f64 0, .string ⟨#[]⟩, .slice none 0 0, .slice none 0 0], .slice none 0 0, .slice none 0 0].toList 8 = some ([.agg [.lit (.int .i64 0), .lit (.int .i64 0), .lit (.float .f64 0), .lit (.string []), .nil, .nil], .nil, .nil], [], places) :=
  ⟨[], by kernel_rfl⟩
set_option maxRecDepth 100000 in
theorem lifted (os : Os) (started : os.Started) (H : Type) (enc : TypeId × Value → H) (F : Stop.Interp) :
    ReturnsInHanded {} Tryz.checked os 4 .any ((Rows.OpenSpec.upto Rows.renderMemorySpec).preRow enc Tryz.prog Tryz.f4 Rows.renderMemoryUptoRow.domain false Rows.renderMemoryUptoRow.laid) (((Rows.OpenSpec.upto Rows.renderMemorySpec).at F).post enc Tryz.prog Tryz.f4 false true false false) := by
  obtain ⟨places, hx⟩ := reads os enc
  refine returnsInHanded_of_row (C := Tryz.checked) (s := Rows.OpenSpec.upto Rows.renderMemorySpec) own started (by kernel_rfl) Tryz.func4
    (witness_row_z (enc := enc) (C := Tryz.checked) false (World.laidAll Tryz.prog os laid) #[.agg #[.int .i64 0, .int .i64 0, .float .f64 0, .string ⟨#[]⟩, .slice none 0 0, .slice none 0 0], .slice none 0 0, .slice none 0 0] (World.laidAll_os _ _ _)
      (World.shaped_of_ZipB (by kernel_rfl) (by kernel_rfl)) (by kernel_rfl)
      (OpenSpec.preRow_of_cond 8 hx (by kernel_rfl) (fun k hk => by cases hk; kernel_rfl) (by kernel_rfl) (by first | exact laidMet_laidAll _ (by kernel_rfl) (by kernel_rfl) | (rw [MakeChecks.laidMetH_plain _ _ _ (by kernel_rfl)]; exact laidMet_laidAll _ (by kernel_rfl) (by kernel_rfl))))) ?_
  intro W base args ds gs before hval0 hW _ hcond hsz0 hL0 _ _
  have hk := hcond _ rfl
  have hL : laidMet Tryz.prog laid W := by
    have h : laidMetH Tryz.prog laid W := hL0
    rwa [MakeChecks.laidMetH_plain _ _ _ (by kernel_rfl)] at h
  have hval : ∀ (j : Nat) t v, Tryz.f4.params[j]? = some t → args[j]? = some v → Value.okWide Tryz.prog W .any base t v := hval0
  have hsz : (DataW.weightsEach Tryz.prog (Tryz.f4.params.toList ++ Rows.renderMemorySpec.plain.varTypes Tryz.prog) (ds ++ gs)).all (· ≤ reachBytes) = true := hsz0
  have hW' := hW
  obtain ⟨p, q, hA0, hV, rfl, hfz, hnd⟩ := hW
  have hA : DataW.TrodAll enc Tryz.prog W 0 (fun _ => true) true Tryz.f4.params.toList args.toList ds p := hA0
  rw [Tryz.params4] at hA hval hsz
  obtain ⟨v0, vs0, d0, ds0, p0, q0, hargs, rfl, rfl, h0, r0⟩ := trodAll_cons hA
  obtain ⟨v1, vs1, d1, ds1, p1, q1, rfl, rfl, rfl, h1, r1⟩ := trodAll_cons r0
  obtain ⟨v2, vs2, d2, ds2, p2, q2, rfl, rfl, rfl, h2, r2⟩ := trodAll_cons r1
  obtain ⟨rfl, rfl, rfl⟩ := trodAll_nil r2
  obtain rfl : args = #[v0, v1, v2] := by cases args; simp_all
  obtain ⟨rfl, rfl⟩ := trodVars_none hV
  have k0 := h0
  have lt0 : ∀ x ∈ p0, x.block < W.heap.size := by obtain ⟨m, hm⟩ := k0; exact DataW.trod_lt m _ _ _ hm
  have k1 := h1
  have lt1 : ∀ x ∈ p1, x.block < W.heap.size := by obtain ⟨m, hm⟩ := k1; exact DataW.trod_lt m _ _ _ hm
  have k2 := h2
  have lt2 : ∀ x ∈ p2, x.block < W.heap.size := by obtain ⟨m, hm⟩ := k2; exact DataW.trod_lt m _ _ _ hm
  have w1 : ∀ n ∈ d1.weights Tryz.prog 36, n ≤ reachBytes := fun n hn => by simpa using List.all_eq_true.1 hsz _ (DataW.weights_mem_each (j := 1) rfl rfl n hn)
  have w2 : ∀ n ∈ d2.weights Tryz.prog 37, n ≤ reachBytes := fun n hn => by simpa using List.all_eq_true.1 hsz _ (DataW.weights_mem_each (j := 2) rfl rfl n hn)
  clear hA0 hval0
  have hbulk := bulk_bound hk
  simp only [List.append_nil, bulk_cons, bulk_nil] at hbulk
  obtain ⟨r, rfl, hLo, hOk⟩ := open_res (hval 0 26 v0 rfl rfl) h0 (by omega)
  obtain ⟨l, hl, hn⟩ := open_strsB Tryz.underlying36 Tryz.underlying9 (by kernel_rfl) (hval 1 36 v1 rfl rfl) h1 w1 (by omega)
  obtain ⟨S, hS, hSm, hSn, hSt⟩ := open_lbssT (hval 2 37 v2 rfl rfl) h2 w2 (by omega)
  obtain ⟨nA, nc, rfl, _, hc⟩ := hl
  have hl : IsL 1 W (.slice nA l.length nc) l.length (cellsS l) := ⟨by rw [cellsS_len, Nat.mul_one], nA, nc, rfl, fun k hk => by
    rw [cellsS_len] at hk
    obtain ⟨b, off, e1, e2, _⟩ := hc k hk
    exact ⟨b, off, e1, by rw [e2]; simp [cellsS]⟩⟩
  have hs : ∀ x ∈ l, x.size ≤ 1048576 := fun x hx => by
    obtain ⟨k, hk, rfl⟩ := List.mem_iff_getElem.1 hx
    exact (hc k hk).choose_spec.choose_spec.2.2
  have hS0 := hS
  obtain ⟨sA, sc, rfl, _⟩ := hS0
  refine (rmem_walk r W hLo (hOk (tbl_of hL)) (tbl_of hL) (pow_of hL) nA nc l hl hs hn sA sc S hS hSm hSn hSt).mono fun e W' ⟨he, bel⟩ => ?_
  subst he
  exact ⟨_, rfl, _, _, _, [], _, [], hW', trodAll_mk1 (shut_bool Tryz.underlying4 _), (trodAll_cons_mk (Below.trod laidOut (by kernel_rfl) (of_decide_eq_true (by kernel_rfl)) k0 bel lt0) (trodAll_cons_mk (Below.trod laidOut (by kernel_rfl) (of_decide_eq_true (by kernel_rfl)) k1 bel lt1) (trodAll_cons_mk (Below.trod laidOut (by kernel_rfl) (of_decide_eq_true (by kernel_rfl)) k2 bel lt2) trodAll_mk0))), rfl, bel.frame _, fun h => by cases h⟩
theorem over : Rows.RenderMemoryUptoSaid :=
  OpenClaim.holds_of_cond 4 Tryz.f4 rfl rfl rfl rfl rfl rfl rfl ⟨rfl, rfl, rfl, rfl, rfl⟩ rfl rfl rfl rfl rfl (by kernel_rfl) Tryz.func4 (by kernel_rfl)
    (of_decide_eq_true (by kernel_rfl)) (by unfold Func.isWrapper; first | (rw [if_pos (by decide +kernel)]; kernel_rfl) | (rw [if_neg (by decide +kernel)]; exact ⟨rfl, rfl⟩))
    (fun os started H enc _ F => by rw [OpenClaim.pre_eq_preRow]; exact lifted os started H enc F)
theorem proved : Rows.RenderMemoryUptoCardSaid :=
  Claim7.holds_tied_plain_at .later [] _ _ _ _ over (fun _ h => by cases h) (by kernel_rfl) (fun _ h => by cases h) renderMemoryUpto_row_tie rfl ⟨rfl, rfl⟩ (by kernel_rfl) rfl
    (fun f fn hf hfn => by
      obtain rfl : f = 4 := Option.some.inj ((show Tryz.prog.funcNamed "weir/weirlaw29.RenderMemory" = some 4 by kernel_rfl).symm.trans hf) |>.symm
      obtain rfl : fn = Tryz.f4 := (Option.some.inj (Tryz.func4.symm.trans hfn)).symm
      exact ⟨by kernel_rfl, fun j t ht => by
        rw [Tryz.params4] at ht
        have hm : t ∈ [26, 36, 37] := by simpa using Array.mem_of_getElem? ht
        have hall : ([26, 36, 37].all fun u => !Tryz.prog.wantsStandIn u) = true := by kernel_rfl
        exact (show Tryz.prog.wantsStandIn t = false by simpa using List.all_eq_true.1 hall t hm)⟩)
    (by kernel_rfl)
#print axioms proved
end Go.Proofs.YtcbggkdginfakaaGreatDoor.renderMemory
