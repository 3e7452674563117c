/- Plain law: the merging of two sorted parts in place (symMerge), rotation, shifting. No program in sight. -/
import Derived.Test.YtifaepkeoffcfaaRows
import Derived.Sort.LotA
namespace Go.Proofs.Ytifaepkeoffcfaa
open Go.Sort
set_option linter.unusedVariables false
set_option linter.unusedSimpArgs false
set_option linter.unusedSectionVars false
namespace St
variable {α : Type} [Inhabited α]
theorem swp_at (d : Array α) {i j : Nat} (hi : i < d.size) (hj : j < d.size) (k : Nat) : (swp d i j)[k]! = if k = j then d[i]! else if k = i then d[j]! else d[k]! := by
  by_cases h1 : k = j
  · rw [if_pos h1, h1, swp_right d i j hj]
  · rw [if_neg h1]
    by_cases h2 : k = i
    · rw [if_pos h2, h2, swp_left d i j hi (fun e => h1 (h2.trans e))]
    · rw [if_neg h2, swp_other d i j k h2 h1]
/-- two ranges exchanged, element by element -/
def swapR (d : Array α) (a b : Nat) : Nat → Array α
  | 0 => d
  | n + 1 => swp (swapR d a b n) (a + n) (b + n)
theorem swapR_size (d : Array α) (a b n : Nat) : (swapR d a b n).size = d.size := by
  induction n with
  | zero => rfl
  | succ n ih => rw [swapR, size_swp, ih]
theorem swapR_at (d : Array α) (a b : Nat) : ∀ (n : Nat), a + n ≤ b → b + n ≤ d.size → ∀ k, (swapR d a b n)[k]! = if a ≤ k ∧ k < a + n then d[k - a + b]! else if b ≤ k ∧ k < b + n then d[k - b + a]! else d[k]!
  | 0, _, _, k => by rw [if_neg (by omega), if_neg (by omega)]; rfl
  | n + 1, h1, h2, k => by
    have ih := swapR_at d a b n (by omega) (by omega)
    rw [swapR, swp_at _ (by rw [swapR_size]; omega) (by rw [swapR_size]; omega), ih, ih, ih]
    repeat' split
    all_goals first | rfl | (exfalso; omega) | exact congrArg (fun q => d[q]!) (by omega)
theorem swapR_perm (d : Array α) (a b lo hi : Nat) (hlo : lo ≤ a) (hab : a ≤ b) (hs : hi ≤ d.size) : ∀ n, b + n ≤ hi → PermIn lo hi d (swapR d a b n)
  | 0, _ => permIn_refl _ _ _
  | n + 1, h => permIn_trans _ _ _ _ _ (swapR_perm d a b lo hi hlo hab hs n (by omega)) (swp_permIn _ _ _ _ _ (by omega) (by omega) (by omega) (by omega) (by rw [swapR_size]; exact hs))
/-- what a rotation makes: [m-i, m) and [m, m+j) exchange places -/
def IsRot (d d' : Array α) (m i j : Nat) : Prop :=
  PermIn (m - i) (m + j) d d' ∧ ∀ k, d'[k]! = if m - i ≤ k ∧ k < m - i + j then d[k + i]! else if m - i + j ≤ k ∧ k < m + j then d[k - j]! else d[k]!
theorem isRot_eq (d : Array α) (m i : Nat) (hi : i ≤ m) (hs : m + i ≤ d.size) : IsRot d (swapR d (m - i) m i) m i i := by
  refine ⟨swapR_perm d _ _ _ _ (Nat.le_refl _) (by omega) hs i (Nat.le_refl _), fun k => ?_⟩
  rw [swapR_at d (m - i) m i (by omega) hs]
  repeat' split
  all_goals first | rfl | (exfalso; omega) | exact congrArg (fun q => d[q]!) (by omega)
theorem isRot_gt {d d' : Array α} {m i j : Nat} (hi : i ≤ m) (hj : j < i) (hs : m + j ≤ d.size) (h : IsRot (swapR d (m - i) m j) d' m (i - j) j) : IsRot d d' m i j := by
  obtain ⟨hp, hg⟩ := h
  have hsw := swapR_at d (m - i) m j (by omega) hs
  refine ⟨permIn_trans _ _ _ _ _ (swapR_perm d _ _ _ _ (Nat.le_refl _) (by omega) hs j (Nat.le_refl _)) (permIn_mono _ _ _ _ _ _ (by omega) (by omega) (by rw [swapR_size]; exact hs) hp), fun k => ?_⟩
  rw [hg, hsw, hsw, hsw]
  repeat' split
  all_goals first | rfl | (exfalso; omega) | exact congrArg (fun q => d[q]!) (by omega)
theorem isRot_lt {d d' : Array α} {m i j : Nat} (hi : i ≤ m) (hj : i < j) (hs : m + j ≤ d.size) (h : IsRot (swapR d (m - i) (m + j - i) i) d' m i (j - i)) : IsRot d d' m i j := by
  obtain ⟨hp, hg⟩ := h
  have hsw := swapR_at d (m - i) (m + j - i) i (by omega) (by omega)
  refine ⟨permIn_trans _ _ _ _ _ (swapR_perm d _ _ _ _ (Nat.le_refl _) (by omega) hs i (by omega)) (permIn_mono _ _ _ _ _ _ (by omega) (by omega) (by rw [swapR_size]; exact hs) hp), fun k => ?_⟩
  rw [hg, hsw, hsw, hsw]
  repeat' split
  all_goals first | rfl | (exfalso; omega) | exact congrArg (fun q => d[q]!) (by omega)
section
variable {lt : α → α → Bool}
/-- x ≤ y < z -/
theorem le_lt (h : SWO lt) {x y z : α} (h1 : lt y x = false) (h2 : lt y z = true) : lt x z = true := by
  cases h3 : lt x z with
  | true => rfl
  | false => have := h.ntrans y x z h1 h3; rw [h2] at this; cases this
/-- x < y ≤ z -/
theorem lt_le (h : SWO lt) {x y z : α} (h1 : lt x y = true) (h2 : lt z y = false) : lt x z = true := by
  cases h3 : lt x z with
  | true => rfl
  | false => have := h.ntrans x z y h3 h2; rw [h1] at this; cases this
theorem asym (h : SWO lt) {x y : α} (h1 : lt x y = true) : lt y x = false := by
  cases h3 : lt y x with
  | false => rfl
  | true => have := h.trans x y x h1 h3; rw [h.irrefl] at this; cases this
/-- two halves, sorted and one below the other -/
theorem sorted_join {d : Array α} {a m b : Nat} (h1 : SortedIn lt a m d) (h2 : SortedIn lt m b d) (h : ∀ i j, a ≤ i → i < m → m ≤ j → j < b → lt d[j]! d[i]! = false) : SortedIn lt a b d := by
  intro i j hi hij hj
  by_cases e1 : j < m
  · exact h1 i j hi hij e1
  · by_cases e2 : m ≤ i
    · exact h2 i j e2 hij hj
    · exact h i j hi (by omega) (by omega) hj
theorem sorted_perm_all {d d' : Array α} {a b : Nat} (hb : b ≤ d.size) (hp : PermIn a b d d') (p : α → Prop) (h : ∀ i, a ≤ i → i < b → p d[i]!) : ∀ i, a ≤ i → i < b → p d'[i]! := permIn_all d d' a b p hb hp h
/-- the step that symMerge makes -/
theorem merge_step (hS : SWO lt) {d e : Array α} {a m b s : Nat} {start0 r0 : Nat} (ham : a < m) (hmb : m < b) (hb : b ≤ d.size)
    (hmid : (m > (a + b) / 2 ∧ start0 = (a + b) / 2 + m - b ∧ r0 = (a + b) / 2) ∨ (m ≤ (a + b) / 2 ∧ start0 = a ∧ r0 = m))
    (h1 : SortedIn lt a m d) (h2 : SortedIn lt m b d) (hs0 : start0 ≤ s) (hs1 : s ≤ r0)
    (hlo : ∀ k, start0 ≤ k → k < s → lt d[(a + b) / 2 + m - 1 - k]! d[k]! = false) (hhi : ∀ k, s ≤ k → k < r0 → lt d[(a + b) / 2 + m - 1 - k]! d[k]! = true)
    (hr : IsRot d e m (m - s) ((a + b) / 2 + m - s - m)) :
    PermIn a b d e ∧ SortedIn lt a s e ∧ SortedIn lt s ((a + b) / 2) e ∧ SortedIn lt ((a + b) / 2) ((a + b) / 2 + m - s) e ∧ SortedIn lt ((a + b) / 2 + m - s) b e ∧
      (∀ i j, a ≤ i → i < (a + b) / 2 → (a + b) / 2 ≤ j → j < b → lt e[j]! e[i]! = false) ∧ a ≤ s ∧ s ≤ (a + b) / 2 ∧ (a + b) / 2 ≤ (a + b) / 2 + m - s ∧ (a + b) / 2 + m - s ≤ b := by
  generalize hM : (a + b) / 2 = mid at *
  have hsa : a ≤ s := by omega
  have hsm : s ≤ m := by omega
  have hsmid : s ≤ mid := by omega
  have hen : mid + m - s ≤ b := by omega
  have hem : m ≤ mid + m - s := by omega
  obtain ⟨hp, hg⟩ := hr
  rw [show m - (m - s) = s by omega, show mid + m - s - m = mid - s by omega, show s + (mid - s) = mid by omega, show m + (mid - s) = mid + m - s by omega] at hg
  rw [show m - (m - s) = s by omega, show mid + m - s - m = mid - s by omega, show m + (mid - s) = mid + m - s by omega] at hp
  have gA1 : ∀ k, k < s → e[k]! = d[k]! := fun k hk => by rw [hg, if_neg (by omega), if_neg (by omega)]
  have gB1 : ∀ k, s ≤ k → k < mid → e[k]! = d[k + (m - s)]! := fun k h1 h2 => by rw [hg, if_pos ⟨h1, h2⟩]
  have gA2 : ∀ k, mid ≤ k → k < mid + m - s → e[k]! = d[k - (mid - s)]! := fun k h1 h2 => by rw [hg, if_neg (by omega), if_pos ⟨h1, h2⟩]
  have gB2 : ∀ k, mid + m - s ≤ k → e[k]! = d[k]! := fun k hk => by rw [hg, if_neg (by omega), if_neg (by omega)]
  have low : ∀ i j, a ≤ i → i < s → mid + m - s ≤ j → j < b → lt d[j]! d[i]! = false := fun i j hi hi2 hj hj2 => by
    have hst : start0 ≤ s - 1 ∧ start0 < s := by
      by_cases h : start0 < s
      · omega
      · omega
    have hk := hlo (s - 1) hst.1 (by omega)
    rw [show mid + m - 1 - (s - 1) = mid + m - s by omega] at hk
    have hi3 : lt d[s - 1]! d[i]! = false := by
      by_cases e : i = s - 1
      · rw [e]; exact hS.irrefl _
      · exact h1 i (s - 1) hi (by omega) (by omega)
    have hj3 : lt d[j]! d[mid + m - s]! = false := by
      by_cases e : j = mid + m - s
      · rw [e]; exact hS.irrefl _
      · exact h2 (mid + m - s) j (by omega) (by omega) hj2
    exact hS.ntrans _ _ _ (hS.ntrans _ _ _ hj3 hk) hi3
  have high : ∀ i j, m ≤ i → i < mid + m - s → s ≤ j → j < m → lt d[j]! d[i]! = false := fun i j hi hi2 hj hj2 => by
    have hk := hhi s (Nat.le_refl _) (by omega)
    rw [show mid + m - 1 - s = mid + m - s - 1 by omega] at hk
    have hj3 : lt d[j]! d[s]! = false := by
      by_cases e : j = s
      · rw [e]; exact hS.irrefl _
      · exact h1 s j (by omega) (by omega) hj2
    have hi3 : lt d[mid + m - s - 1]! d[i]! = false := by
      by_cases e : i = mid + m - s - 1
      · rw [e]; exact hS.irrefl _
      · exact h2 i (mid + m - s - 1) hi (by omega) (by omega)
    exact hS.ntrans _ _ _ (hS.ntrans _ _ _ hj3 (asym hS hk)) hi3
  refine ⟨permIn_mono _ _ _ _ _ _ hsa hen hb hp, ?_, ?_, ?_, ?_, ?_, hsa, hsmid, by omega, hen⟩
  · intro i j hi hij hj
    rw [gA1 i (by omega), gA1 j hj]; exact h1 i j hi hij (by omega)
  · intro i j hi hij hj
    rw [gB1 i hi (by omega), gB1 j (by omega) hj]; exact h2 _ _ (by omega) (by omega) (by omega)
  · intro i j hi hij hj
    rw [gA2 i hi (by omega), gA2 j (by omega) hj]; exact h1 _ _ (by omega) (by omega) (by omega)
  · intro i j hi hij hj
    rw [gB2 i hi, gB2 j (by omega)]; exact h2 i j (by omega) hij hj
  · intro i j hi hi2 hj hj2
    by_cases ei : i < s
    · rw [gA1 i ei]
      by_cases ej : j < mid + m - s
      · rw [gA2 j hj ej]
        exact h1 i _ hi (by omega) (by omega)
      · rw [gB2 j (by omega)]
        exact low i j hi ei (by omega) hj2
    · rw [gB1 i (by omega) hi2]
      by_cases ej : j < mid + m - s
      · rw [gA2 j hj ej]
        exact high _ _ (by omega) (by omega) (by omega) (by omega)
      · rw [gB2 j (by omega)]
        exact h2 _ j (by omega) (by omega) hj2
/-- one element moved up: n exchanges from a on -/
def shUp (d : Array α) (a : Nat) : Nat → Array α
  | 0 => d
  | n + 1 => swp (shUp d a n) (a + n) (a + n + 1)
theorem shUp_size (d : Array α) (a n : Nat) : (shUp d a n).size = d.size := by
  induction n with
  | zero => rfl
  | succ n ih => rw [shUp, size_swp, ih]
theorem shUp_at (d : Array α) (a : Nat) : ∀ n, a + n < d.size → ∀ k, (shUp d a n)[k]! = if a ≤ k ∧ k < a + n then d[k + 1]! else if k = a + n then d[a]! else d[k]!
  | 0, _, k => by
    rw [if_neg (by omega)]
    by_cases h : k = a
    · rw [if_pos (by omega), h]; rfl
    · rw [if_neg (by omega)]; rfl
  | n + 1, h, k => by
    have ih := shUp_at d a n (by omega)
    rw [shUp, swp_at _ (by rw [shUp_size]; omega) (by rw [shUp_size]; omega), ih, ih, ih]
    repeat' split
    all_goals first | rfl | (exfalso; omega) | exact congrArg (fun q => d[q]!) (by omega)
theorem shUp_perm (d : Array α) (a lo hi : Nat) (hlo : lo ≤ a) (hs : hi ≤ d.size) : ∀ n, a + n < hi → PermIn lo hi d (shUp d a n)
  | 0, _ => permIn_refl _ _ _
  | n + 1, h => permIn_trans _ _ _ _ _ (shUp_perm d a lo hi hlo hs n (by omega)) (swp_permIn _ _ _ _ _ (by omega) (by omega) (by omega) (by omega) (by rw [shUp_size]; exact hs))
theorem shUp_sorted (hS : SWO lt) {d : Array α} {a b i : Nat} (hi1 : a + 1 ≤ i) (hi2 : i ≤ b) (hb : b ≤ d.size) (h : SortedIn lt (a + 1) b d)
    (hlo : ∀ k, a + 1 ≤ k → k < i → lt d[k]! d[a]! = true) (hhi : ∀ k, i ≤ k → k < b → lt d[k]! d[a]! = false) : SortedIn lt a b (shUp d a (i - 1 - a)) := by
  have hg := shUp_at d a (i - 1 - a) (by omega)
  rw [show a + (i - 1 - a) = i - 1 by omega] at hg
  have g1 : ∀ k, a ≤ k → k < i - 1 → (shUp d a (i - 1 - a))[k]! = d[k + 1]! := fun k h1 h2 => by rw [hg, if_pos ⟨h1, h2⟩]
  have g2 : (shUp d a (i - 1 - a))[i - 1]! = d[a]! := by rw [hg, if_neg (by omega), if_pos rfl]
  have g3 : ∀ k, i ≤ k → (shUp d a (i - 1 - a))[k]! = d[k]! := fun k h1 => by rw [hg, if_neg (by omega), if_neg (by omega)]
  intro p q hp hpq hq
  by_cases e1 : p < i - 1
  · rw [g1 p hp e1]
    by_cases e2 : q < i - 1
    · rw [g1 q (by omega) e2]; exact h _ _ (by omega) (by omega) (by omega)
    · by_cases e3 : q = i - 1
      · rw [e3, g2]; exact asym hS (hlo _ (by omega) (by omega))
      · rw [g3 q (by omega)]; exact h _ _ (by omega) (by omega) hq
  · rw [g3 q (by omega)]
    by_cases e3 : p = i - 1
    · rw [e3, g2]; exact hhi q (by omega) hq
    · rw [g3 p (by omega)]; exact h p q (by omega) hpq hq
/-- one element moved down: n exchanges from m on -/
def shDn (d : Array α) (m : Nat) : Nat → Array α
  | 0 => d
  | n + 1 => swp (shDn d m n) (m - n) (m - n - 1)
theorem shDn_size (d : Array α) (m n : Nat) : (shDn d m n).size = d.size := by
  induction n with
  | zero => rfl
  | succ n ih => rw [shDn, size_swp, ih]
theorem shDn_at (d : Array α) (m : Nat) (hm : m < d.size) : ∀ n, n ≤ m → ∀ k, (shDn d m n)[k]! = if k = m - n then d[m]! else if m - n < k ∧ k ≤ m then d[k - 1]! else d[k]!
  | 0, _, k => by
    by_cases h : k = m
    · rw [if_pos (by omega), h]; rfl
    · rw [if_neg (by omega), if_neg (by omega)]; rfl
  | n + 1, h, k => by
    have ih := shDn_at d m hm n (by omega)
    rw [shDn, swp_at _ (by rw [shDn_size]; omega) (by rw [shDn_size]; omega), ih, ih, ih]
    repeat' split
    all_goals first | rfl | (exfalso; omega) | exact congrArg (fun q => d[q]!) (by omega)
theorem shDn_perm (d : Array α) (m lo hi : Nat) (hm : m < hi) (hs : hi ≤ d.size) : ∀ n, lo + n ≤ m → PermIn lo hi d (shDn d m n)
  | 0, _ => permIn_refl _ _ _
  | n + 1, h => permIn_trans _ _ _ _ _ (shDn_perm d m lo hi hm hs n (by omega)) (swp_permIn _ _ _ _ _ (by omega) (by omega) (by omega) (by omega) (by rw [shDn_size]; exact hs))
theorem shDn_sorted (hS : SWO lt) {d : Array α} {a m i : Nat} (hi1 : a ≤ i) (hi2 : i ≤ m) (hm : m < d.size) (h : SortedIn lt a m d)
    (hlo : ∀ k, a ≤ k → k < i → lt d[m]! d[k]! = false) (hhi : ∀ k, i ≤ k → k < m → lt d[m]! d[k]! = true) : SortedIn lt a (m + 1) (shDn d m (m - i)) := by
  have hg := shDn_at d m hm (m - i) (by omega)
  rw [show m - (m - i) = i by omega] at hg
  have g1 : (shDn d m (m - i))[i]! = d[m]! := by rw [hg, if_pos rfl]
  have g2 : ∀ k, i < k → k ≤ m → (shDn d m (m - i))[k]! = d[k - 1]! := fun k h1 h2 => by rw [hg, if_neg (by omega), if_pos ⟨h1, h2⟩]
  have g3 : ∀ k, k < i → (shDn d m (m - i))[k]! = d[k]! := fun k h1 => by rw [hg, if_neg (by omega), if_neg (by omega)]
  intro p q hp hpq hq
  by_cases e1 : p = i
  · rw [e1, g1, g2 q (by omega) (by omega)]
    exact asym hS (hhi _ (by omega) (by omega))
  · by_cases e2 : q = i
    · rw [e2, g1, g3 p (by omega)]; exact hlo p hp (by omega)
    · by_cases e3 : i < p
      · rw [g2 p e3 (by omega), g2 q (by omega) (by omega)]; exact h _ _ (by omega) (by omega) (by omega)
      · rw [g3 p (by omega)]
        by_cases e4 : i < q
        · rw [g2 q e4 (by omega)]
          by_cases e5 : p = q - 1
          · rw [← e5]; exact hS.irrefl _
          · exact h _ _ hp (by omega) (by omega)
        · rw [g3 q (by omega)]; exact h p q hp hpq (by omega)
end
end St
end Go.Proofs.Ytifaepkeoffcfaa
