/- RenderNames: the law's walk. -/
import Derived.Test.YtcbggkdginfakaaDoorRPt
import Derived.Test.YtcbggkdginfakaaDoorLOp
import Derived.Deep.RegionLaw
namespace Go.Proofs.YtcbggkdginfakaaDoor
open Go.RowKit Go.ChangeShapes Go.WideShapes Go.Deep
set_option linter.unusedVariables false
set_option linter.unusedSimpArgs false
def R.aw : List UInt8 := [123, 34, 115, 116, 97, 116, 117, 115, 34, 58, 34, 115, 117, 99, 99, 101, 115, 115, 34, 44, 34, 100, 97, 116, 97, 34, 58, 91, 34, 97, 34, 44, 34, 92, 34, 98, 92, 34, 34, 93, 125]
theorem k_aw : R.ans (([⟨#[97]⟩, ⟨#[34, 98, 34]⟩] : List ByteArray).map R.t) = R.aw := by decide +kernel
/-- string(v) -/
theorem conv_isL {w : World} {v : Value} {m : Nat} {l : List UInt8} (h : IsL 1 w v m (cellsB l)) : (convert 35 9 v).run Tryd.prog w = .ok (.string ⟨l.toArray⟩) w :=
  run_string_of w 35 9 5 Tryd.underlying35 Tryd.underlying5 Tryd.underlying9 _ _ _ h
theorem rawake_any (w : World) : Calls Tryd.prog 4 #[] w fun e w' => e = .returned (.bool true) ∧ Below w.heap.size w w' := by
  have KA := hd k_aw
  go_enter Tryd.func4, Tryd.ntmps4
  go_wp2_with (go_at_call 8; refine (names_any [⟨#[97]⟩, ⟨#[34, 98, 34]⟩] _ 2 2 _ (IsL.own (World.ownsRow_lit (base := w.heap.size) w #[.string ⟨#[97]⟩, .string ⟨#[34, 98, 34]⟩] 2 (Nat.le_refl _) (by decide) rfl)) (by intro x hx; simp at hx; rcases hx with rfl | rfl <;> decide) (by decide)).mono ?_; rintro e w1 ⟨⟨v, m, rfl, h1⟩, hb1⟩; rw [KA.o] at h1; have hcv := conv_isL h1; have HB1 : Hd (Below w.heap.size w w1) := hd (((Below.refl w.heap.size w).alloc (Nat.le_refl _) _).trans (hb1.mono (by simp))); clear hb1 h1)
  go_ret
  exact ⟨rfl, HB1.o⟩
theorem open_strsB {H : Type} {enc : TypeId × Value → H} {w : World} {base : Nat} {P : Program} {t e : TypeId} (ht : P.underlying t = some (.slice e)) (he : P.underlying e = some .string) (hce : P.cellsOf e = 1) {v : Value} {d : DataW H} {p : List MemPlace}
    (hv : Value.okWide P w .any base t v) (h : DataW.Trod enc P w 0 (fun _ => true) true t v d p) (_ : ∀ n ∈ d.weights P t, n ≤ reachBytes) : Rows.uptoBulk d ≤ 1048576 → ∃ l : List ByteArray, IsStrs w v l ∧ l.length ≤ 1048576 := fun hb => by
  obtain ⟨l, hl⟩ := open_strs ht he hce hv h hb
  refine ⟨l, hl, ?_⟩
  obtain ⟨A, c, rfl, _, _⟩ := hl
  obtain ⟨fuel, hf⟩ := h
  rcases open_strings ht he hce hf with ⟨hcs, hx⟩ | ⟨a, len', cap', ss, hcs, _, hl, hm, hz, hx, hi, _⟩
  · simp [Value.cells] at hcs
    rw [hcs.2.1]
    simp
  · simp [Value.cells] at hcs
    obtain ⟨rfl, rfl, rfl⟩ := hcs
    simp only [if_true] at hz
    simp only [Prod.mk.injEq] at hx
    obtain ⟨hd, _⟩ := hx
    subst hd
    rw [bulk_slice] at hb
    have h1 := bulk_len (strs (H := H) (ss.take l.length))
    have h2 : (strs (H := H) (ss.take l.length)).length = l.length := by unfold strs; rw [List.length_map, List.length_take]; omega
    omega
end Go.Proofs.YtcbggkdginfakaaDoor
