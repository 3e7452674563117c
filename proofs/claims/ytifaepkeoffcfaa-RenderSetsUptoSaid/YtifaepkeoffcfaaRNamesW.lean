/- RenderNames: the law's walk. -/
import Derived.Test.YtifaepkeoffcfaaRNames
import Derived.Test.YtifaepkeoffcfaaUStrs
import Derived.Deep.RegionLaw
namespace Go.Proofs.Ytifaepkeoffcfaa
open Go.RowKit Go.ChangeShapes Go.WideShapes Go.Deep
set_option linter.unusedVariables false
set_option linter.unusedSimpArgs false
def R.aw : List UInt8 := [123, 34, 115, 116, 97, 116, 117, 115, 34, 58, 34, 115, 117, 99, 99, 101, 115, 115, 34, 44, 34, 100, 97, 116, 97, 34, 58, 91, 34, 97, 34, 44, 34, 92, 34, 98, 92, 34, 34, 93, 125]
theorem k_aw : R.ans (([⟨#[97]⟩, ⟨#[34, 98, 34]⟩] : List ByteArray).map R.t) = R.aw := by decide +kernel
/-- string(v) -/
theorem conv_isL {w : World} {v : Value} {m : Nat} {l : List UInt8} (h : IsL 1 w v m (cellsB l)) : (convert 40 9 v).run Try.prog w = .ok (.string ⟨l.toArray⟩) w :=
  run_string_of w 40 9 5 Try.underlying40 Try.underlying5 Try.underlying9 _ _ _ h
theorem rawake_any (w : World) : Calls Try.prog 21 #[] w fun e w' => e = .returned (.bool true) ∧ Below w.heap.size w w' := by
  have KA := hd k_aw
  go_enter Try.func21, Try.ntmps21
  go_wp2_with (go_at_call 22; refine (names_any [⟨#[97]⟩, ⟨#[34, 98, 34]⟩] _ 2 2 _ (IsL.own (World.ownsRow_lit (base := w.heap.size) w #[.string ⟨#[97]⟩, .string ⟨#[34, 98, 34]⟩] 2 (Nat.le_refl _) (by decide) rfl)) (by intro x hx; simp at hx; rcases hx with rfl | rfl <;> decide) (by decide)).mono ?_; rintro e w1 ⟨⟨v, m, rfl, h1⟩, hb1⟩; rw [KA.o] at h1; have hcv := conv_isL h1; have HB1 : Hd (Below w.heap.size w w1) := hd (((Below.refl w.heap.size w).alloc (Nat.le_refl _) _).trans (hb1.mono (by simp))); clear hb1 h1)
  go_ret
  exact ⟨rfl, HB1.o⟩
theorem rnames_walk (va : Value) (l : List ByteArray) (w : World) (hl : IsStrs w va l) (hn2 : l.length ≤ 1048576) :
    Calls Try.prog 5 #[va] w fun e w' => e = .returned (.bool true) ∧ Below w.heap.size w w' := by
  obtain ⟨A, c, rfl, hn, hc⟩ := hl
  have HL : Hd (IsL 1 w (.slice A l.length c) l.length (cellsS l)) := hd <| by
    refine ⟨by rw [cellsS_len, Nat.mul_one], A, c, rfl, fun k hk => ?_⟩
    rw [cellsS_len] at hk
    obtain ⟨b, off, h1, h2, _⟩ := hc k hk
    exact ⟨b, off, h1, by rw [h2]; simp [cellsS]⟩
  have HS : Hd (∀ x ∈ l, x.size ≤ 1048576) := hd <| by
    intro x hx
    obtain ⟨k, hk, rfl⟩ := List.mem_iff_getElem.1 hx
    obtain ⟨_, _, _, _, h3⟩ := hc k hk
    exact h3
  clear hc
  obtain ⟨q, hq⟩ : ∃ q, q = R.ans (l.map R.t) := ⟨_, rfl⟩
  have HQ := hd hq
  clear hq
  go_enter Try.func5, Try.ntmps5
  go_wp2_with fail
  go_region_law (first
    | (go_simp; go_at_call 21; refine (rawake_any _).mono ?_; rintro e w1 ⟨rfl, hb1⟩; have HB1 := hd (bel (Below.refl w.heap.size w).drew hb1); clear hb1)
    | (go_simp; go_at_call 22; refine (names_any l A l.length c _ (HL.o.below (by first | exact HBR.o | exact HB1.o)) HS.o hn2).mono ?_; rintro e w2 ⟨⟨v2, m2, rfl, h2⟩, hb2⟩; rw [← HQ.o] at h2; have HN := hd h2; have hcv := conv_isL h2; have HBN := hd (bel (show Below w.heap.size w _ by first | exact HBR.o | exact HB1.o) hb2); (try have hcv3 := conv_isL (HR.o.below hb2)); clear hb2 h2)
    | (go_simp; go_at_call 23; refine (refnames_any l A l.length c _ (HL.o.below (by first | exact HBN.o | exact HB1.o)) HS.o hn2).mono ?_; rintro e w3 ⟨⟨v3, m3, rfl, h3⟩, hb3⟩; rw [← HQ.o] at h3; have HR := hd h3; have hcv4 := conv_isL h3; have HBR := hd (bel (show Below w.heap.size w _ by first | exact HBN.o | exact HB1.o) hb3); (try have hcv5 := conv_isL (HN.o.below hb3)); clear hb3 h3))
  all_goals go_wp2
  all_goals go_ret
  all_goals exact ⟨rfl, HBR.o⟩
theorem open_strsB {H : Type} {enc : TypeId × Value → H} {w : World} {base : Nat} {P : Program} {t e : TypeId} (ht : P.underlying t = some (.slice e)) (he : P.underlying e = some .string) (hce : P.cellsOf e = 1) {v : Value} {d : DataW H} {p : List MemPlace}
    (hv : Value.okWide P w .any base t v) (h : DataW.Trod enc P w 0 (fun _ => true) true t v d p) (_ : ∀ n ∈ d.weights P t, n ≤ reachBytes) : Rows.uptoBulk d ≤ 1048576 → ∃ l : List ByteArray, IsStrs w v l ∧ l.length ≤ 1048576 := fun hb => by
  obtain ⟨l, hl⟩ := open_strs ht he hce hv h hb
  refine ⟨l, hl, ?_⟩
  obtain ⟨A, c, rfl, _, _⟩ := hl
  obtain ⟨fuel, hf⟩ := h
  rcases open_strings ht he hce hf with ⟨hcs, hx⟩ | ⟨a, len', cap', ss, hcs, _, hl, hm, hz, hx, hi, _⟩
  · simp [Value.cells] at hcs
    rw [hcs.2.1]
    simp
  · simp [Value.cells] at hcs
    obtain ⟨rfl, rfl, rfl⟩ := hcs
    simp only [if_true] at hz
    simp only [Prod.mk.injEq] at hx
    obtain ⟨hd, _⟩ := hx
    subst hd
    rw [bulk_slice] at hb
    have h1 := bulk_len (strs (H := H) (ss.take l.length))
    have h2 : (strs (H := H) (ss.take l.length)).length = l.length := by unfold strs; rw [List.length_map, List.length_take]; omega
    omega
theorem rnames_all (W : World) {H : Type} (v : Value) (d : DataW H) (h : Rows.uptoBulk d ≤ 1048576 → ∃ l : List ByteArray, IsStrs W v l ∧ l.length ≤ 1048576) (hb : Rows.uptoBulk d + 0 ≤ 1048576) :
    Calls Try.prog 5 #[v] W fun e W' => e = .returned (.bool true) ∧ Below W.heap.size W W' := by
  obtain ⟨l, hl, hn⟩ := h (by omega)
  exact rnames_walk v l W hl hn
end Go.Proofs.Ytifaepkeoffcfaa
