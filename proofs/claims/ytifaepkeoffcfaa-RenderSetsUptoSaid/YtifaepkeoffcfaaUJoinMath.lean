/- Plain law: two texts behind one another; a text cut where a rune begins. -/
import Derived.Test.YtifaepkeoffcfaaUNext
namespace Go.Proofs.Ytifaepkeoffcfaa.U
open Go
theorem get_list (s : ByteArray) (k : Nat) : s.get! k = (s.data.toList[k]?).getD 0 := by
  by_cases h : k < s.size
  · rw [data_get s k h]; rfl
  · rw [List.getElem?_eq_none (by rw [← Lib.size_eq]; omega)]
    simp only [ByteArray.get!, Array.getElem!_eq_getD, Array.getD]
    rw [dif_neg (show ¬ k < s.data.size from h)]
    rfl
theorem at_list (s : ByteArray) (k : Nat) : at' s k = ((s.data.toList[k]?).getD 0).toNat := by unfold at'; rw [get_list]
theorem app_data (a b : ByteArray) : (a ++ b).data.toList = a.data.toList ++ b.data.toList := by
  rw [ByteArray.data_append, Array.toList_append]
theorem app_size (a b : ByteArray) : (a ++ b).size = a.size + b.size := ByteArray.size_append
theorem at_app_l (a b : ByteArray) (k : Nat) (h : k < a.size) : at' (a ++ b) k = at' a k := by
  rw [at_list, at_list, app_data, List.getElem?_append_left (by rw [← Lib.size_eq]; exact h)]
theorem at_app_r (a b : ByteArray) (k : Nat) : at' (a ++ b) (a.size + k) = at' b k := by
  rw [at_list, at_list, app_data, List.getElem?_append_right (by rw [← Lib.size_eq]; omega), ← Lib.size_eq, Nat.add_sub_cancel_left]

/-- a rune that stands whole in a stands in a ++ b -/
theorem dec_mono (a c : ByteArray) (p : Nat) (hg : bad a p = false) (hs : ∀ k, k < (Utf8.decode a p).2 → at' c (p + k) = at' a (p + k)) (hz : p + (Utf8.decode a p).2 ≤ c.size) : Utf8.decode c p = Utf8.decode a p := by
  have hv := good_valid a p hg
  rcases good_cases a p hg with ⟨h1, h2⟩ | ⟨_, h1, h2, a0, a1, h3⟩ | ⟨_, h1, h2, hv2, a0, a1, a2, h3⟩ | ⟨_, h1, hv2, a0, a1, a2, a3, h3⟩
  · have e := hs 0 (by rw [h2]; exact Nat.one_pos)
    rw [Nat.add_zero] at e
    rw [h2, ← e]
    exact dec1 c p (by omega)
  · rw [h3] at hs hz
    have e0 := hs 0 (by omega); have e1 := hs 1 (by omega)
    rw [Nat.add_zero] at e0
    rw [dec2 c p (run a p) (by omega) h1 h2 (by omega) (by omega)]
    exact Prod.ext rfl h3.symm
  · rw [h3] at hs hz
    have e0 := hs 0 (by omega); have e1 := hs 1 (by omega); have e2 := hs 2 (by omega)
    rw [Nat.add_zero] at e0
    rw [dec3 c p (run a p) (by omega) h1 h2 hv2 (by omega) (by omega) (by omega)]
    exact Prod.ext rfl h3.symm
  · rw [h3] at hs hz
    have e0 := hs 0 (by omega); have e1 := hs 1 (by omega); have e2 := hs 2 (by omega); have e3 := hs 3 (by omega)
    rw [Nat.add_zero] at e0
    rw [dec4 c p (run a p) (by omega) h1 hv2 (by omega) (by omega) (by omega) (by omega)]
    exact Prod.ext rfl h3.symm

theorem bad_eq {a c : ByteArray} {p q : Nat} (h : Utf8.decode c p = Utf8.decode a q) : bad c p = bad a q := by unfold bad; rw [h]
theorem run_eq {a c : ByteArray} {p q : Nat} (h : Utf8.decode c p = Utf8.decode a q) : run c p = run a q := by unfold run; rw [h]

/-- behind a, a ++ b decodes as b -/
theorem dec_app_r (a b : ByteArray) (q : Nat) : Utf8.decode (a ++ b) (a.size + q) = Utf8.decode b q := by
  have g : ∀ k, at' (a ++ b) (a.size + q + k) = at' b (q + k) := fun k => by rw [Nat.add_assoc]; exact at_app_r a b (q + k)
  have g0 := g 0; have g1 := g 1; have g2 := g 2; have g3 := g 3
  have z : ∀ k, ((a.size + q + k < (a ++ b).size) ↔ (q + k < b.size)) := fun k => by rw [app_size]; omega
  have z1 := z 1; have z2 := z 2; have z3 := z 3
  simp only [Nat.add_zero] at g0
  rw [decode_eq, decode_eq]
  simp only [g0, g1, g2, g3, z1, z2, z3]

/-- inside a form there are bytes that begin no rune -/
theorem mid_byte (s : ByteArray) (p m : Nat) (hg : bad s p = false) (h1 : p < m) (h2 : m < p + (Utf8.decode s p).2) : 128 ≤ at' s m ∧ at' s m < 192 := by
  have hv := (valid_iff _).1 (good_valid s p hg)
  rcases good_cases s p hg with ⟨c1, c2⟩ | ⟨_, _, _, a0, a1, h3⟩ | ⟨_, _, _, _, a0, a1, a2, h3⟩ | ⟨_, _, _, a0, a1, a2, a3, h3⟩
  · rw [c2] at h2; dsimp only at h2; omega
  · rw [h3] at h2
    obtain rfl : m = p + 1 := by omega
    omega
  · rw [h3] at h2
    rcases (show m = p + 1 ∨ m = p + 2 by omega) with rfl | rfl <;> omega
  · rw [h3] at h2
    rcases (show m = p + 1 ∨ m = p + 2 ∨ m = p + 3 by omega) with rfl | rfl | rfl <;> omega
theorem first_byte (s : ByteArray) (m : Nat) (hg : bad s m = false) : at' s m < 128 ∨ 192 ≤ at' s m := by
  rcases good_cases s m hg with ⟨c1, c2⟩ | ⟨_, _, _, a0, _⟩ | ⟨_, _, _, _, a0, _⟩ | ⟨_, _, _, a0, _⟩ <;> omega

/-- the runes from p on, up to the first fault -/
def runesFrom (s : ByteArray) (p : Nat) : List Nat :=
  if _h : p < s.size then (if bad s p then [] else run s p :: runesFrom s (p + (Utf8.decode s p).2)) else []
termination_by s.size - p
decreasing_by have := dec_pos s p; omega
def runes (s : ByteArray) : List Nat := runesFrom s 0
theorem runes_step (s : ByteArray) (p : Nat) (h : p < s.size) (hb : bad s p = false) : runesFrom s p = run s p :: runesFrom s (p + (Utf8.decode s p).2) := by rw [runesFrom, dif_pos h, if_neg (by simp [hb])]
theorem runes_end (s : ByteArray) (p : Nat) (h : ¬ p < s.size) : runesFrom s p = [] := by rw [runesFrom, dif_neg h]
theorem runes_bad (s : ByteArray) (p : Nat) (h : bad s p = true) : runesFrom s p = [] := by rw [runesFrom, if_pos h]; split <;> rfl

theorem vf_good (s : ByteArray) (p : Nat) (h : p < s.size) (hv : vfrom s p = true) : bad s p = false ∧ vfrom s (p + (Utf8.decode s p).2) = true := by
  cases hb : bad s p with
  | true => rw [vfrom_bad s p h hb] at hv; cases hv
  | false => exact ⟨rfl, by rw [← vfrom_step s p h hb]; exact hv⟩

/-- through b behind a -/
theorem through_r (a b : ByteArray) : ∀ n q, b.size - q = n → vfrom (a ++ b) (a.size + q) = vfrom b q ∧ runesFrom (a ++ b) (a.size + q) = runesFrom b q := by
  intro n
  induction n using Nat.strongRecOn with
  | ind n ih =>
    intro q hq
    have hd := dec_app_r a b q
    by_cases h : q < b.size
    · have h' : a.size + q < (a ++ b).size := by rw [app_size]; omega
      cases hb : bad b q with
      | true =>
        have hb' : bad (a ++ b) (a.size + q) = true := by rw [bad_eq hd]; exact hb
        exact ⟨by rw [vfrom_bad _ _ h' hb', vfrom_bad _ _ h hb], by rw [runes_bad _ _ hb', runes_bad _ _ hb]⟩
      | false =>
        have hb' : bad (a ++ b) (a.size + q) = false := by rw [bad_eq hd]; exact hb
        have hp := dec_pos b q
        have := ih (b.size - (q + (Utf8.decode b q).2)) (by omega) (q + (Utf8.decode b q).2) rfl
        rw [← Nat.add_assoc] at this
        exact ⟨by rw [vfrom_step _ _ h' hb', vfrom_step _ _ h hb, hd]; exact this.1, by rw [runes_step _ _ h' hb', runes_step _ _ h hb, hd, run_eq hd, this.2]⟩
    · have h' : ¬ a.size + q < (a ++ b).size := by rw [app_size]; omega
      exact ⟨by rw [vfrom_end _ _ h', vfrom_end _ _ h], by rw [runes_end _ _ h', runes_end _ _ h]⟩

/-- through a, if a is UTF-8 -/
theorem through_l (a b : ByteArray) : ∀ n p, a.size - p = n → p ≤ a.size → vfrom a p = true → vfrom (a ++ b) p = vfrom (a ++ b) a.size ∧ runesFrom (a ++ b) p = runesFrom a p ++ runesFrom (a ++ b) a.size := by
  intro n
  induction n using Nat.strongRecOn with
  | ind n ih =>
    intro p hn hp hv
    by_cases h : p < a.size
    · obtain ⟨hg, hv2⟩ := vf_good a p h hv
      have hle := dec_le a p h
      have hd : Utf8.decode (a ++ b) p = Utf8.decode a p := dec_mono a _ p hg (fun k hk => at_app_l a b _ (by omega)) (by rw [app_size]; omega)
      have h' : p < (a ++ b).size := by rw [app_size]; omega
      have hb' : bad (a ++ b) p = false := by rw [bad_eq hd]; exact hg
      have hps := dec_pos a p
      have := ih (a.size - (p + (Utf8.decode a p).2)) (by omega) _ rfl hle hv2
      exact ⟨by rw [vfrom_step _ _ h' hb', hd]; exact this.1, by rw [runes_step _ _ h' hb', runes_step _ _ h hg, hd, run_eq hd, this.2]; rfl⟩
    · obtain rfl : p = a.size := by omega
      exact ⟨rfl, by rw [runes_end a _ h]; rfl⟩

theorem joined (a b : ByteArray) (ha : valid a = true) (hb : valid b = true) : valid (a ++ b) = true ∧ runes (a ++ b) = runes a ++ runes b := by
  have h1 := through_l a b _ 0 rfl (Nat.zero_le _) ha
  have h2 := through_r a b _ 0 rfl
  rw [Nat.add_zero] at h2
  unfold valid runes at *
  exact ⟨by rw [h1.1, h2.1]; exact hb, by rw [h1.2, h2.2]⟩

/-- cut where a rune begins -/
theorem cut_l (a b : ByteArray) (hc : bad (a ++ b) a.size = false) : ∀ n p, a.size - p = n → p ≤ a.size → vfrom (a ++ b) p = true → vfrom a p = true ∧ vfrom (a ++ b) a.size = true := by
  intro n
  induction n using Nat.strongRecOn with
  | ind n ih =>
    intro p hn hp hv
    by_cases h : p < a.size
    · have h' : p < (a ++ b).size := by rw [app_size]; omega
      obtain ⟨hg, hv2⟩ := vf_good _ p h' hv
      have hps := dec_pos (a ++ b) p
      have hle : p + (Utf8.decode (a ++ b) p).2 ≤ a.size := by
        rcases Nat.lt_or_ge a.size (p + (Utf8.decode (a ++ b) p).2) with hlt | hge
        · have := mid_byte _ p a.size hg h hlt
          have := first_byte _ _ hc
          omega
        · exact hge
      have hd : Utf8.decode a p = Utf8.decode (a ++ b) p := dec_mono (a ++ b) a p hg (fun k hk => (at_app_l a b _ (by omega)).symm) hle
      have hb' : bad a p = false := by rw [bad_eq hd]; exact hg
      have := ih (a.size - (p + (Utf8.decode (a ++ b) p).2)) (by omega) _ rfl hle hv2
      exact ⟨by rw [vfrom_step _ _ h hb', hd]; exact this.1, this.2⟩
    · obtain rfl : p = a.size := by omega
      exact ⟨vfrom_end _ _ h, hv⟩

theorem wid_pos (s : ByteArray) (p : Nat) : 0 < wid s p ↔ p < s.size ∧ bad s p = false := by
  unfold wid
  have := dec_pos s p
  constructor
  · intro h
    split at h
    · rename_i h1
      split at h
      · omega
      · rename_i h2; exact ⟨h1, by simpa using h2⟩
    · omega
  · rintro ⟨h1, h2⟩
    rw [if_pos h1, if_neg (by simp [h2])]
    omega

theorem app_nil (a b : ByteArray) (h : b.size = 0) : a ++ b = a := by
  apply ByteArray.ext
  have hb : b.data = #[] := Array.eq_empty_of_size_eq_zero h
  rw [ByteArray.data_append, hb, Array.append_empty]

/-- the law on cutting -/
theorem cut_iff (a b : ByteArray) (hv : valid (a ++ b) = true) : (0 < wid (a ++ b) a.size ∨ b.size = 0) ↔ (valid a = true ∧ valid b = true) := by
  constructor
  · rintro (h | h)
    · obtain ⟨_, hc⟩ := (wid_pos _ _).1 h
      have h1 := cut_l a b hc _ 0 rfl (Nat.zero_le _) hv
      have h2 := through_r a b _ 0 rfl
      rw [Nat.add_zero] at h2
      exact ⟨h1.1, by unfold valid; rw [← h2.1]; exact h1.2⟩
    · rw [app_nil a b h] at hv
      exact ⟨hv, vfrom_end _ _ (by omega)⟩
  · rintro ⟨ha, hb⟩
    by_cases h : b.size = 0
    · exact .inr h
    · left
      rw [wid_pos]
      have hd := dec_app_r a b 0
      rw [Nat.add_zero] at hd
      exact ⟨by rw [app_size]; omega, by rw [bad_eq hd]; exact (vf_good b 0 (by omega) hb).1⟩
end Go.Proofs.Ytifaepkeoffcfaa.U
