/- From what a row lists to what the walks ask of the variables. The table of powers of ten, as the row pins it. What the rows of layer 2 list, as the walks ask it. What the rows of layer 2 list, as the walks over reading ask it. -/
import Derived.Test.YteckfdohgiddgaaGreatDoorPAtof
import Derived.Lib.LaidTab
import Derived.Stop.LaidErr
import Derived.Deep.Strs
import GoSem.PinnedTables
import Derived.Test.YteckfdohgiddgaaGreatDoorPPar
import Derived.Test.YteckfdohgiddgaaGreatDoorRows
import Derived.LaidMore
import Derived.Test.YteckfdohgiddgaaGreatDoorPVal
namespace Go.Proofs.YteckfdohgiddgaaGreatDoor
open Go.RowKit Go.ChangeShapes Go.WideShapes Go.Deep
set_option linter.unusedVariables false
section
variable {P : Program} {W : World} {name : String} {rest : List (String × DataW Unit)} {g : Nat} {t : TypeId}
end
end Go.Proofs.YteckfdohgiddgaaGreatDoor
namespace Go.Proofs.YteckfdohgiddgaaGreatDoor
open Go.RowKit Go.ChangeShapes Go.WideShapes Go.Deep
set_option linter.unusedVariables false
theorem flat_of : ∀ (rs : List (Nat × Nat)) (l : List Value), l.length = 2 * rs.length → (∀ i (h : i < rs.length), l[2 * i]? = some (.int .u64 (rs[i].1 : Int)) ∧ l[2 * i + 1]? = some (.int .u64 (rs[i].2 : Int))) → l = rs.flatMap fun x => [.int .u64 (x.1 : Int), .int .u64 (x.2 : Int)]
  | [], l, hl, _ => List.eq_nil_of_length_eq_zero (by simpa using hl)
  | r :: rs, l, hl, h => by
    match l, hl with
    | a :: b :: l', hl =>
      have h0 := h 0 (by simp)
      simp at h0
      obtain ⟨rfl, rfl⟩ := h0
      rw [List.flatMap_cons, ← flat_of rs l' (by simp at hl; omega) (fun i hi => by
        have := h (i + 1) (by simpa using hi)
        simpa [Nat.mul_add] using this)]
      rfl
    | [a], hl => simp at hl; omega
    | [], hl => simp at hl
section
variable {H : Type} {enc : TypeId × Value → H} {P : Program} {w : World} {base : Nat} {sp : Nat → Bool} {held : Bool}
theorem cells_of_pairs {fuel : Nat} {t e : TypeId} {n : Nat} {f0 f1 : Field} {cs : List Value} {rs : List (Nat × Nat)} {p : List MemPlace}
    (ht : P.underlying t = some (.array n e)) (he : P.underlying e = some (.struct #[f0, f1])) (h0 : P.underlying f0.type = some (.int .u64)) (h1 : P.underlying f1.type = some (.int .u64)) (c0 : P.cellsOf f0.type = 1) (c1 : P.cellsOf f1.type = 1)
    (o0 : f0.offset = 0) (o1 : f1.offset = 1) (hce : P.cellsOf e = 2) (hct : P.cellsOf t = n * 2)
    (h : DataW.trod enc P w base sp held fuel t cs = some (.agg (rs.map fun x => .agg [.lit (.int .u64 (x.1 : Int)), .lit (.int .u64 (x.2 : Int))]), p)) : cs = rs.flatMap fun x => [.int .u64 (x.1 : Int), .int .u64 (x.2 : Int)] := by
  cases fuel with
  | zero => simp [DataW.trod] at h
  | succ fuel =>
    simp only [DataW.trod, ht, hce, hct] at h
    split at h
    · rename_i hl
      obtain ⟨xs, hm, hx⟩ := Option.map_eq_some_iff.1 h
      have hxs : xs.map (·.1) = rs.map fun x => (DataW.agg [.lit (.int .u64 (x.1 : Int)), .lit (.int .u64 (x.2 : Int))] : DataW H) := by
        have := congrArg Prod.fst hx
        simpa using this
      have hxl : xs.length = n := (Lib.mapM_length hm).trans List.length_range
      have hrl : rs.length = n := by
        have := congrArg List.length hxs
        simp at this
        omega
      have hcl : cs.length = n * 2 := by first | exact hl | simpa using hl
      refine flat_of rs cs (by omega) fun i hi => ?_
      obtain ⟨b, hb, hf⟩ := Lib.mapM_at hm i i (by rw [List.getElem?_range (by omega)])
      obtain ⟨y0, y1, m, hx', _, e0, e1⟩ := trod_struct2 he hf
      rw [c0, o0] at e0
      rw [c1, o1] at e1
      obtain ⟨z0, hc0, rfl, _⟩ := DataW.trod_int h0 e0
      obtain ⟨z1, hc1, rfl, _⟩ := DataW.trod_int h1 e1
      have h2 : (xs.map (·.1))[i]? = some (DataW.agg [.lit (.int .u64 z0), .lit (.int .u64 z1)] : DataW H) := by rw [List.getElem?_map, hb, hx']; rfl
      rw [hxs, List.getElem?_map, List.getElem?_eq_getElem hi] at h2
      simp at h2
      obtain ⟨rfl, rfl⟩ := h2
      have g0 := congrArg (·[0]?) hc0
      have g1 := congrArg (·[0]?) hc1
      simp [List.getElem?_drop] at g0 g1
      rw [show 2 * i = i * 2 by omega]
      exact ⟨g0, g1⟩
    · cases h
end
theorem rows_eq : Pinned.pow10Rows = (List.range 696).map fun i : Nat => (FS.hiOf ((i : Int) - 348), FS.loOf ((i : Int) - 348)) := by decide +kernel
theorem pairs_gen (f g : Nat → Nat) : ∀ n : Nat, (((List.range n).map fun i : Nat => (f i, g i)).flatMap fun x => [Value.int .u64 (x.1 : Int), Value.int .u64 (x.2 : Int)]) = ((List.range n).flatMap fun i => [(f i : Int), (g i : Int)]).map fun z => Value.int .u64 z
  | 0 => rfl
  | n + 1 => by
    rw [List.range_succ, List.map_append, List.flatMap_append, List.flatMap_append, List.map_append, pairs_gen f g n]
    rfl
theorem pairs_powZ : (Pinned.pow10Rows.flatMap fun x => [Value.int .u64 (x.1 : Int), Value.int .u64 (x.2 : Int)]) = powZ.map fun z => Value.int .u64 z := by
  rw [rows_eq]
  exact pairs_gen (fun i => FS.hiOf ((i : Int) - 348)) (fun i => FS.loOf ((i : Int) - 348)) 696
set_option maxRecDepth 100000 in
theorem tabIs_pow {W : World} {rest : List (String × DataW Unit)} (h : laidMet Tryz.prog (("internal/strconv.pow10Tab", Pinned.pow10Tab) :: rest) W) : Lib.TabIs Tryz.prog W "internal/strconv.pow10Tab" .u64 powZ := by
  obtain ⟨ps, ⟨g', t', cs, fuel, p, q, hg', ht', hvar, hd, _, _⟩, _⟩ := h
  obtain rfl : g' = 5 := (Option.some.inj (g10_named.symm.trans hg')).symm
  obtain rfl : t' = 312 := (Option.some.inj ((show (Tryz.prog.globals[5]?).map (·.type) = some 312 by kernel_rfl).symm.trans ht')).symm
  have hc := cells_of_pairs (n := 696) (e := 311) Tryz.underlying312 Tryz.underlying311 (by kernel_rfl) (by kernel_rfl) (by kernel_rfl) (by kernel_rfl) rfl rfl (by kernel_rfl) (by kernel_rfl) hd
  have e : cs = (powZ.map fun z => Value.int .u64 z).toArray := Array.ext' (by rw [hc, pairs_powZ])
  unfold Lib.TabIs
  rw [← e]
  exact hvar
end Go.Proofs.YteckfdohgiddgaaGreatDoor
namespace Go.Proofs.YteckfdohgiddgaaGreatDoor
open Go.RowKit Go.ChangeShapes Go.WideShapes Go.ChangeAt Go.Deep
set_option linter.unusedVariables false
end Go.Proofs.YteckfdohgiddgaaGreatDoor
namespace Go.Proofs.YteckfdohgiddgaaGreatDoor
open Go.RowKit Go.ChangeShapes Go.WideShapes Go.ChangeAt Go.Deep
set_option linter.unusedVariables false
end Go.Proofs.YteckfdohgiddgaaGreatDoor
