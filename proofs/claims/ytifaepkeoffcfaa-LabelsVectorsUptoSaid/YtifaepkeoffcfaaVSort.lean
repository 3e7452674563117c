/- slices.SortStableFunc over a row of elements, as labels.Vector calls it. -/
import Derived.Test.YtifaepkeoffcfaaVRef
import Derived.Test.YtifaepkeoffcfaaSStable
namespace Go.Proofs.Ytifaepkeoffcfaa
open Go.RowKit Go.Sort
set_option linter.unusedVariables false
set_option linter.unusedSimpArgs false
theorem flat_cellsE {m : Nat} [Inhabited (Fin m)] (F : Fin m → El) (d : Array (Fin m)) : (flatK (encV F) 2 d).toList = cellsE (d.toList.map F) := by
  apply List.ext_getElem?
  intro t
  have hs : (flatK (encV F) 2 d).toList.length = d.size * 2 := by simp
  have hc : (cellsE (d.toList.map F)).length = d.size * 2 := by rw [cellsE_len]; simp
  by_cases ht : t < d.size * 2
  · have h1 := get_flatK (encV F) 2 d t ht
    have hq : t / 2 < d.size := by omega
    have hq2 : t / 2 < (d.toList.map F).length := by simpa using hq
    obtain ⟨e1, e2⟩ := cellsE_at (d.toList.map F) (t / 2) hq2
    have hd : F d[t / 2]! = (d.toList.map F)[t / 2]'hq2 := by rw [getElem!_pos d _ hq]; simp
    have hl : (flatK (encV F) 2 d).toList[t]? = some ((flatK (encV F) 2 d)[t]!) := by
      rw [List.getElem?_eq_getElem (by rw [hs]; exact ht), getElem!_pos _ t (by rw [size_flatK]; exact ht)]; simp
    rw [hl, h1]
    unfold encV
    rw [hd]
    generalize (d.toList.map F)[t / 2]'hq2 = x at *
    rcases Nat.mod_two_eq_zero_or_one t with h0 | h0
    · have : t / 2 * 2 = t := by omega
      rw [this] at e1
      rw [e1, h0]; rfl
    · have : t / 2 * 2 + 1 = t := by omega
      rw [this] at e2
      rw [e2, h0]; rfl
  · rw [List.getElem?_eq_none (by rw [hs]; omega), List.getElem?_eq_none (by rw [hc]; omega)]
theorem swoV {m : Nat} (F : Fin m → El) : SWO (ltOf fun i j => L.cmps (F i).l (F j).l) where
  irrefl x := by unfold ltOf; simp only [L.cmps_zero.2 rfl]; rfl
  trans x y z h1 h2 := by
    unfold ltOf at *
    simp only [decide_eq_true_eq] at *
    exact L.cmps_trans h1 h2
  ntrans x y z h1 h2 := by
    unfold ltOf at *
    simp only [decide_eq_false_iff_not] at *
    have e1 : V.le (F y) (F x) := by unfold V.le; rw [L.cmps_neg]; omega
    have e2 : V.le (F z) (F y) := by unfold V.le; rw [L.cmps_neg]; omega
    have := V.le_trans e2 e1
    unfold V.le at this
    rw [L.cmps_neg]; omega
theorem extract_all {α : Type} (d : Array α) (n : Nat) (h : d.size = n) : (d.extract 0 n).toList = d.toList := by subst h; simp
theorem getD_ofFn (P : List El) (n : Nat) (hn : P.length = n) : (Array.ofFn fun i : Fin n => i.castSucc).toList.map (fun i : Fin (n + 1) => P.getD i.val default) = P := by
  apply List.ext_getElem
  · simp [hn]
  · intro i h1 h2
    simp [h2]
theorem sortRow_any (w : World) (B g n c : Nat) (P : List El) (h : w.ownsRow B 50 2 (.slice (some ⟨g, 0, none⟩) n c) n (cellsE P)) (hP : ∀ x ∈ P, x.Lies w g ∧ x.l.length ≤ 1125899906842624) (hn : n ≤ 4398046510976) :
    Calls Try.prog 54 #[.slice (some ⟨g, 0, none⟩) n c, .func (.func 55) #[] #[]] w fun e w' => e = .returned (.tuple #[]) ∧ ∃ R : List El, R.Perm P ∧ R.Pairwise V.le ∧ w'.ownsRow B 50 2 (.slice (some ⟨g, 0, none⟩) n c) n (cellsE R) ∧ w.grownBy w' (some g) := by
  have hlen : P.length = n := by have := h.1; rw [cellsE_len] at this; omega
  let F : Fin (n + 1) → El := fun i => P.getD i.val default
  have hF : ∀ i, (F i).Lies w g ∧ (F i).l.length ≤ 1125899906842624 := fun i => by
    show (El.Lies (P.getD i.val default) w g) ∧ _
    by_cases hi : i.val < P.length
    · have e : P.getD i.val default = P[i.val] := by simp [hi]
      have e2 : F i = P[i.val] := e
      rw [e, e2]
      exact hP _ (List.getElem_mem hi)
    · have e : P.getD i.val default = default := by simp [hi]
      have e2 : F i = default := e
      rw [e, e2]
      exact ⟨⟨IsL.nil 2 w none 0, fun a ha => by cases ha⟩, Nat.zero_le _⟩
  have hE := getD_ofFn P n hlen
  have K : SK (encV F) w B 50 n c g := ⟨fun x => ⟨_, _, _, _, rfl⟩, (h.lt g rfl).2⟩
  have S : SR (encV F) w B 50 n c g (Array.ofFn fun i : Fin n => i.castSucc) w := ⟨by rw [flat_cellsE]; rw [hE]; exact h, World.grownBy.refl _ _⟩
  refine (sortStable_any K (swoV F) (cmpOK_of F w hF) _ w S hn).mono ?_
  rintro e w' ⟨rfl, d', hp, hs, hr⟩
  have hsz : d'.size = n := by have := hp.1; simpa using this
  refine ⟨rfl, d'.toList.map F, ?_, ?_, by have := hr.o; rwa [flat_cellsE] at this, hr.gr⟩
  · have h3 := hp.2.2
    rw [extract_all d' n hsz, extract_all _ n (by simp)] at h3
    have h4 := h3.map F
    rwa [hE] at h4
  · rw [List.pairwise_iff_getElem]
    intro i j hi hj hij
    have hi2 : i < d'.size := by simpa using hi
    have hj2 : j < d'.size := by simpa using hj
    have h3 := hs i j (Nat.zero_le _) hij (by omega)
    rw [getElem!_pos d' j hj2, getElem!_pos d' i hi2] at h3
    unfold ltOf at h3
    simp only [decide_eq_false_iff_not] at h3
    unfold V.le
    simp only [List.getElem_map, Array.getElem_toList]
    rw [L.cmps_neg]; omega
end Go.Proofs.Ytifaepkeoffcfaa
