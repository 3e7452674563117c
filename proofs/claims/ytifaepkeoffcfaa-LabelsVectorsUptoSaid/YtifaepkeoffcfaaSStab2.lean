/- Plain law: the middle search of symMerge, and its end. No program in sight. -/
import Derived.Test.YtifaepkeoffcfaaSStab
namespace Go.Proofs.Ytifaepkeoffcfaa
open Go.Sort
set_option linter.unusedVariables false
set_option linter.unusedSectionVars false
namespace St
variable {α : Type} [Inhabited α] {lt : α → α → Bool}
theorem sle (hS : SWO lt) {d : Array α} {a m i j : Nat} (h : SortedIn lt a m d) (h1 : a ≤ i) (h2 : i ≤ j) (h3 : j < m) : lt d[j]! d[i]! = false := by
  by_cases e : i = j
  · rw [e]; exact hS.irrefl _
  · exact h i j h1 (by omega) h3
theorem srch_lo (hS : SWO lt) {d : Array α} {a m b p c k : Nat} (h1 : SortedIn lt a m d) (h2 : SortedIn lt m b d) (hk : a ≤ k) (hkc : k ≤ c) (hc : c < m) (hp : m ≤ p - c) (hcp : c ≤ p) (hpk : p - k < b)
    (h : lt d[p - c]! d[c]! = false) : lt d[p - k]! d[k]! = false :=
  hS.ntrans _ _ _ (hS.ntrans _ _ _ (sle hS h2 hp (by omega) hpk) h) (sle hS h1 hk hkc hc)
theorem srch_hi (hS : SWO lt) {d : Array α} {a m b p c k : Nat} (h1 : SortedIn lt a m d) (h2 : SortedIn lt m b d) (hc : a ≤ c) (hkc : c ≤ k) (hk : k < m) (hp : m ≤ p - k) (hcp : k ≤ p) (hpk : p - c < b)
    (h : lt d[p - c]! d[c]! = true) : lt d[p - k]! d[k]! = true :=
  lt_le hS (le_lt hS (sle hS h2 hp (by omega) hpk) h) (sle hS h1 hc hkc hk)
theorem isRot_none (d : Array α) (m i j : Nat) (hi : i ≤ m) (h : i = 0 ∨ j = 0) : IsRot d d m i j := by
  refine ⟨permIn_refl _ _ _, fun k => ?_⟩
  rcases h with rfl | rfl
  · repeat' split
    all_goals first | rfl | (exfalso; omega) | exact congrArg (fun q => d[q]!) (by omega)
  · repeat' split
    all_goals first | rfl | (exfalso; omega) | exact congrArg (fun q => d[q]!) (by omega)
theorem sorted_none {d : Array α} {a s b : Nat} (h1 : SortedIn lt a s d) (h2 : SortedIn lt s b d) (h : ¬ (a < s ∧ s < b)) (h3 : a ≤ s) (h4 : s ≤ b) : SortedIn lt a b d := by
  by_cases e : a = s
  · rw [e]; exact h2
  · have : s = b := by omega
    rw [← this]; exact h1
theorem sorted_out {d d' : Array α} {a b x y : Nat} (h : SortedIn lt x y d) (hp : PermIn a b d d') (ho : y ≤ a ∨ b ≤ x) : SortedIn lt x y d' := fun i j h1 h2 h3 => by
  rw [hp.2.1 i (by omega), hp.2.1 j (by omega)]
  exact h i j h1 h2 h3
theorem merge_end {d e d2 d3 : Array α} {a m b : Nat} (ham : a ≤ m) (hmb : m ≤ b) (hb : b ≤ e.size) (hp : PermIn a b d e) (hlr : ∀ i j, a ≤ i → i < m → m ≤ j → j < b → lt e[j]! e[i]! = false)
    (h2 : PermIn a m e d2) (s2 : SortedIn lt a m d2) (h3 : PermIn m b d2 d3) (s3 : SortedIn lt m b d3) : PermIn a b d d3 ∧ SortedIn lt a b d3 := by
  have hs2 : d2.size = e.size := h2.1
  refine ⟨permIn_trans _ _ _ _ _ hp (permIn_trans _ _ _ _ _ (permIn_mono _ _ _ _ _ _ (Nat.le_refl _) hmb hb h2) (permIn_mono _ _ _ _ _ _ ham (Nat.le_refl _) (by rw [hs2]; exact hb) h3)), ?_⟩
  refine sorted_join (sorted_out s2 h3 (Or.inl (Nat.le_refl _))) s3 fun i j h1 h2' h4 h5 => ?_
  rw [h3.2.1 i (Or.inl h2')]
  refine permIn_all d2 d3 m b (fun x => lt x d2[i]! = false) (by rw [hs2]; exact hb) h3 (fun q hq1 hq2 => ?_) j h4 h5
  rw [h2.2.1 q (Or.inr hq1)]
  exact permIn_all e d2 a m (fun x => lt e[q]! x = false) (by omega) h2 (fun r hr1 hr2 => hlr r q hr1 hr2 hq1 hq2) i h1 h2'
/-- the inner loop of the insertion: all in [a, e) but the one at j stand in order, and what follows j isn't below it -/
def Gap (lt : α → α → Bool) (a j e : Nat) (d : Array α) : Prop :=
  (∀ p q, a ≤ p → p < q → q < e → p ≠ j → q ≠ j → lt d[q]! d[p]! = false) ∧ ∀ q, j < q → q < e → lt d[q]! d[j]! = false
theorem gap_start {d : Array α} {a i : Nat} (h : SortedIn lt a i d) : Gap lt a i (i + 1) d :=
  ⟨fun p q h1 h2 h3 h4 h5 => h p q h1 h2 (by omega), fun q h1 h2 => by omega⟩
theorem gap_step (hS : SWO lt) {d : Array α} {a j e : Nat} (h : Gap lt a (j + 1) e d) (hs : j + 1 < d.size) (haj : a ≤ j) (hl : lt d[j + 1]! d[j]! = true) : Gap lt a j e (swp d (j + 1) j) := by
  have g := fun k => swp_at d hs (show j < d.size by omega) k
  have g1 : (swp d (j + 1) j)[j]! = d[j + 1]! := by rw [g, if_pos rfl]
  have g2 : (swp d (j + 1) j)[j + 1]! = d[j]! := by rw [g, if_neg (by omega), if_pos rfl]
  have g3 : ∀ k, k ≠ j → k ≠ j + 1 → (swp d (j + 1) j)[k]! = d[k]! := fun k h1 h2 => by rw [g, if_neg h1, if_neg h2]
  refine ⟨fun p q h1 h2 h3 h4 h5 => ?_, fun q h1 h2 => ?_⟩
  · by_cases e1 : p = j + 1
    · rw [e1, g2, g3 q h5 (by omega)]
      exact h.1 j q (by omega) (by omega) h3 (by omega) (by omega)
    · rw [g3 p h4 e1]
      by_cases e2 : q = j + 1
      · rw [e2, g2]
        exact h.1 p j h1 (by omega) (by omega) e1 (by omega)
      · rw [g3 q h5 e2]
        exact h.1 p q h1 h2 h3 e1 e2
  · rw [g1]
    by_cases e2 : q = j + 1
    · rw [e2, g2]; exact asym hS hl
    · rw [g3 q (by omega) e2]
      exact h.2 q (by omega) h2
theorem gap_end (hS : SWO lt) {d : Array α} {a j e : Nat} (h : Gap lt a j e d) (hj : j ≤ a ∨ lt d[j]! d[j - 1]! = false) : SortedIn lt a e d := by
  intro p q h1 h2 h3
  by_cases e1 : p = j
  · rw [e1]; exact h.2 q (by omega) h3
  · by_cases e2 : q = j
    · subst e2
      rcases hj with hj | hj
      · omega
      · by_cases e3 : p = q - 1
        · rw [e3]; exact hj
        · exact hS.ntrans _ _ _ hj (h.1 p (q - 1) h1 (by omega) (by omega) e1 (by omega))
    · exact h.1 p q h1 h2 h3 e1 e2
end St
end Go.Proofs.Ytifaepkeoffcfaa
