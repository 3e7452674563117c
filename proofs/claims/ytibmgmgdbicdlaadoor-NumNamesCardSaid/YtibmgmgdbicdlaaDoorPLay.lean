/- What the rows of layer 2 list, as the walks ask it. What the rows of layer 2 list, as the walks over reading ask it. -/
import Derived.Test.YtibmgmgdbicdlaaDoorPTab
import Derived.Test.YtibmgmgdbicdlaaDoorPPar
import Derived.Test.YtibmgmgdbicdlaaDoorRows
import Derived.LaidMore
import Derived.Test.YtibmgmgdbicdlaaDoorPVal
import Derived.Stop.LaidErr
namespace Go.Proofs.YtibmgmgdbicdlaaDoor
open Go.RowKit Go.ChangeShapes Go.WideShapes Go.ChangeAt Go.Deep
set_option linter.unusedVariables false
theorem trod_float {H : Type} {enc : TypeId × Value → H} {P : Program} {w : World} {base : Nat} {spare : Nat → Bool} {held : Bool} {fuel : Nat} {t : TypeId} {cs : List Value} {x : DataW H × List MemPlace} {k : FloatKind} (ht : P.underlying t = some (.float k)) (h : DataW.trod enc P w base spare held fuel t cs = some x) : ∃ b, cs = [.float k b] ∧ x = (.lit (.float k b), []) ∧ (Lit.float k b).wf = true := by
  cases fuel with
  | zero => simp [DataW.trod] at h
  | succ n =>
    unfold DataW.trod at h
    rw [ht] at h
    split at h <;> simp_all
def laid13 : List (String × DataW Unit) := [("math/bits.deBruijn32tab", Rows.laid_math_bits_deBruijn32tab), ("math/bits.deBruijn64tab", Rows.laid_math_bits_deBruijn64tab), ("internal/strconv.float32info", Rows.laid_internal_strconv_float32info), ("internal/strconv.float64info", Rows.laid_internal_strconv_float64info), ("internal/strconv.optimize", Rows.laid_internal_strconv_optimize), ("internal/strconv.powtab", Rows.laid_internal_strconv_powtab), ("internal/strconv.float64pow10", Rows.laid_internal_strconv_float64pow10), ("internal/strconv.float32pow10", Rows.laid_internal_strconv_float32pow10), ("internal/strconv.uint64pow10", Rows.laid_internal_strconv_uint64pow10), ("strconv.ErrRange", Rows.laid_strconv_ErrRange), ("strconv.ErrSyntax", Rows.laid_strconv_ErrSyntax), ("internal/strconv.leftcheats", Rows.laid_internal_strconv_leftcheats), ("internal/strconv.pow10Tab", Rows.laid_internal_strconv_pow10Tab)]
theorem tab_eq13 : Rows.laid_internal_strconv_uint64pow10 (H := Unit) = Lib.tabData .u64 Lib.pow10Tab := by kernel_rfl
theorem tbl_of13 {W : World} (hL : laidMet Tryd.prog laid13 W) : Tbl W := by
  have h8 := hL.tail.tail.tail.tail.tail.tail.tail.tail
  have h12 := h8.tail.tail.tail.tail
  refine ⟨tabIs_pow h12, ?_⟩
  rw [tab_eq13] at h8
  exact Lib.tabIs_of_head (g := 6) (t := 161) (e := 78) (n := 20) (by kernel_rfl) (by kernel_rfl) (by kernel_rfl) (by kernel_rfl) (by kernel_rfl) (by kernel_rfl) h8
theorem glb_of13 {W : World} (hL : laidMet Tryd.prog laid13 W) : Glb W := by
  have h2 := hL.tail.tail
  have h3 := h2.tail
  have h4 := h3.tail
  have g2 : Tryd.prog.globalNamed "internal/strconv.float32info" = some 3 := by kernel_rfl
  have g3 : Tryd.prog.globalNamed "internal/strconv.float64info" = some 5 := by kernel_rfl
  have g4 : Tryd.prog.globalNamed "internal/strconv.optimize" = some 4 := by kernel_rfl
  have v2 := laid_ints3 g2 (t := 136) (by kernel_rfl) Tryd.underlying136 (by kernel_rfl) (by kernel_rfl) (by kernel_rfl) (by kernel_rfl) (by kernel_rfl) (by kernel_rfl) rfl rfl rfl (by kernel_rfl) h2
  have v3 := laid_ints3 g3 (t := 136) (by kernel_rfl) Tryd.underlying136 (by kernel_rfl) (by kernel_rfl) (by kernel_rfl) (by kernel_rfl) (by kernel_rfl) (by kernel_rfl) rfl rfl rfl (by kernel_rfl) h3
  have v4 := laid_bool g4 (t := 4) (by kernel_rfl) Tryd.underlying4 h4
  exact ⟨World.var?_cell g4 v4 0, World.var?_cell g3 v3 0, World.var?_cell g3 v3 1, World.var?_cell g3 v3 2, laid_block g3 h3 v3 (by decide), laid_block g2 h2 v2 (by decide)⟩
theorem pw10_eq : Rows.laid_internal_strconv_float64pow10 (H := Unit) = .slice (FS.tens.map fun z => .lit (.float .f64 z)) [] := by kernel_rfl
theorem pw10_of13 {W : World} (hL : laidMet Tryd.prog laid13 W) : Pw10 W := by
  have h6 := hL.tail.tail.tail.tail.tail.tail
  have g6 : Tryd.prog.globalNamed "internal/strconv.float64pow10" = some 9 := by kernel_rfl
  rw [pw10_eq] at h6
  obtain ⟨ps, ⟨g', t', cs, fuel, p, q, hg', ht', hvar, hd, _, _⟩, _⟩ := h6
  obtain rfl := Option.some.inj (g6.symm.trans hg')
  obtain rfl : t' = 178 := (Option.some.inj ((show (Tryd.prog.globals[9]?).map (·.type) = some 178 by kernel_rfl).symm.trans ht')).symm
  obtain ⟨a, cap, hcs, hle, hel⟩ := open_row Tryd.underlying178 (by kernel_rfl) hd
  have hv := World.var?_cell g6 hvar 0
  have h23 : (FS.tens.map fun z => (DataW.lit (.float .f64 z) : DataW Unit)).length = 23 := by rw [List.length_map]; rfl
  rw [h23] at hcs
  have hc0 : cs[0]? = some (.slice (some a) 23 cap) := by
    rw [← Array.getElem?_toList, hcs]; rfl
  rw [hc0] at hv
  have el : ∀ j, j < 23 → W.cell? (a.add j) = some (.float .f64 (FS.ten j)) := fun j hj => by
    have hj2 : j < FS.tens.length := hj
    obtain ⟨v, n, q', hc, ht⟩ := hel j (.lit (.float .f64 (FS.ten j))) (by
      rw [List.getElem?_map, List.getElem?_eq_getElem hj2]
      unfold FS.ten
      rw [List.getD_eq_getElem?_getD, List.getElem?_eq_getElem hj2]; rfl)
    obtain ⟨b, e1, e2, _⟩ := trod_float Tryd.underlying22 ht
    simp only [Prod.mk.injEq, DataW.lit.injEq, Lit.float.injEq, true_and] at e2
    simp only [List.cons.injEq, and_true] at e1
    rw [hc, e1, e2.1]
  have ha : a = ⟨a.block, a.off, none⟩ := by
    have h0 := el 0 (by decide)
    rw [show a.add 0 = a from by simp [Addr.add]] at h0
    exact plain_of_cell h0
  refine ⟨a.block, a.off, cap, by rw [← ha]; exact hv, fun j hj => ?_⟩
  have h := el j hj
  rw [ha, add_plain] at h
  exact h
end Go.Proofs.YtibmgmgdbicdlaaDoor
namespace Go.Proofs.YtibmgmgdbicdlaaDoor
open Go.RowKit Go.ChangeShapes Go.WideShapes Go.ChangeAt Go.Deep
set_option linter.unusedVariables false
theorem iface_cell {H : Type} {enc : TypeId × Value → H} {P : Program} {w : World} {base : Nat} {spare : Nat → Bool} {held : Bool} {fuel : Nat} {t : TypeId} {cs : List Value} {ms : Array (String × TypeId)} {nm : String} {d : DataW H} {p : List MemPlace} (ht : P.underlying t = some (.interface ms)) (h : DataW.trod enc P w base spare held fuel t cs = some (.iface nm d, p)) : ∃ u v, cs = [.iface u v] := by
  cases fuel with
  | zero => simp [DataW.trod] at h
  | succ n =>
    unfold DataW.trod at h
    rw [ht] at h
    split at h <;> simp_all
theorem erg_of13 {W : World} (hL : laidMet Tryd.prog laid13 W) : ∃ te pe, W.cell? ⟨2, 0, none⟩ = some (.iface te pe) := by
  have h9 := hL.tail.tail.tail.tail.tail.tail.tail.tail.tail
  have g9 : Tryd.prog.globalNamed "strconv.ErrRange" = some 2 := by kernel_rfl
  obtain ⟨ps, ⟨g', t', cs, fuel, p, q, hg', ht', hvar, hd, _, _⟩, _⟩ := h9
  obtain rfl := Option.some.inj (g9.symm.trans hg')
  obtain rfl : t' = 52 := (Option.some.inj ((show (Tryd.prog.globals[2]?).map (·.type) = some 52 by kernel_rfl).symm.trans ht')).symm
  have hv := World.var?_cell g9 hvar 0
  obtain ⟨u, v, hc⟩ := iface_cell Tryd.underlying52 hd
  refine ⟨u, v, ?_⟩
  rw [hv, ← Array.getElem?_toList, hc]; rfl
theorem nms_of13 {W : World} (hL : laidMet Tryd.prog laid13 W) : Nms W := ⟨glb_of13 hL, tbl_of13 hL, pw10_of13 hL, erg_of13 hL⟩
end Go.Proofs.YtibmgmgdbicdlaaDoor
