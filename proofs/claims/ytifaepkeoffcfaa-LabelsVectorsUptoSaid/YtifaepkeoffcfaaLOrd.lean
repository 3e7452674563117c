/- Plain law: the order of texts, of labels and of lists of labels; what With does to a sorted list. No program in sight. -/
import Derived.Test.YtifaepkeoffcfaaLCmp
import Derived.Sort.Walk0
namespace Go.Proofs.Ytifaepkeoffcfaa
set_option linter.unusedVariables false
set_option linter.unusedSimpArgs false
namespace L
/-- a < b, byte by byte -/
def lt (a b : ByteArray) : Bool := Op.bytesLess a.toList b.toList
theorem lt_iff (a b : ByteArray) : lt a b = true ↔ a.toList < b.toList := by
  unfold lt; rw [Proofs.bytesLess_eq]; simp
theorem lt_irrefl (a : ByteArray) : lt a a = false := by
  rw [Bool.eq_false_iff]; intro h; exact List.lt_irrefl _ ((lt_iff a a).1 h)
theorem lt_trans {a b c : ByteArray} (h : lt a b = true) (h2 : lt b c = true) : lt a c = true :=
  (lt_iff a c).2 (List.lt_trans ((lt_iff a b).1 h) ((lt_iff b c).1 h2))
theorem lt_tri {a b : ByteArray} (h : lt a b = false) (h2 : lt b a = false) : a = b := by
  have h3 : ¬ a.toList < b.toList := fun e => by rw [(lt_iff a b).2 e] at h; cases h
  have h4 : ¬ b.toList < a.toList := fun e => by rw [(lt_iff b a).2 e] at h2; cases h2
  exact toList_inj.1 (List.le_antisymm (List.not_lt.1 h4) (List.not_lt.1 h3))
theorem lt_asymm {a b : ByteArray} (h : lt a b = true) : lt b a = false := by
  rw [Bool.eq_false_iff]; intro h2
  have := lt_trans h h2
  rw [lt_irrefl] at this; cases this
theorem lt_ne {a b : ByteArray} (h : lt a b = true) : a ≠ b := by rintro rfl; rw [lt_irrefl] at h; cases h
theorem lt_of_ne {a b : ByteArray} (h : a ≠ b) (h2 : lt a b = false) : lt b a = true := by
  cases h3 : lt b a with
  | true => rfl
  | false => exact absurd (lt_tri h2 h3) h
theorem gt_of_ne {a b : ByteArray} (h : a ≠ b) : gt a b = lt b a := by
  unfold gt
  show (!lt a b) = lt b a
  cases h2 : lt a b with
  | true => rw [lt_asymm h2]; rfl
  | false => rw [lt_of_ne h h2]; rfl
theorem ord_eq (a b : ByteArray) : ord a b = if lt a b then -1 else if lt b a then 1 else 0 := by
  unfold ord
  show (if lt a b = true then _ else _) = _
  cases h : lt a b with
  | true => rfl
  | false =>
    simp only [Bool.false_eq_true, if_false]
    by_cases e : a = b
    · subst e; rw [lt_irrefl]; simp
    · rw [lt_of_ne e h, if_neg (by rw [bytes_ne e]; simp)]; rfl
theorem ord_neg (a b : ByteArray) : ord b a = - ord a b := by
  rw [ord_eq, ord_eq]
  cases h : lt a b with
  | true => rw [lt_asymm h]; rfl
  | false => cases h2 : lt b a <;> rfl
theorem ord_zero {a b : ByteArray} : ord a b = 0 ↔ a = b := by
  rw [ord_eq]
  constructor
  · intro h
    cases h1 : lt a b with
    | true => rw [h1] at h; simp at h
    | false =>
      cases h2 : lt b a with
      | true => rw [h1, h2] at h; simp at h
      | false => exact lt_tri h1 h2
  · rintro rfl; rw [lt_irrefl]; rfl
theorem ord_lt {a b : ByteArray} : ord a b < 0 ↔ lt a b = true := by
  rw [ord_eq]
  cases h1 : lt a b with
  | true => simp
  | false => cases h2 : lt b a <;> simp
theorem cmp_neg (x y : Lb) : cmp y x = - cmp x y := by
  unfold cmp
  rw [ord_neg x.1 y.1, ord_neg x.2 y.2]
  by_cases h : ord x.1 y.1 = 0
  · rw [if_neg (by simp [h]), if_neg (by simp [h])]
  · rw [if_pos (by omega), if_pos h]
theorem cmp_zero {x y : Lb} : cmp x y = 0 ↔ x = y := by
  unfold cmp
  constructor
  · intro h
    by_cases h1 : ord x.1 y.1 = 0
    · rw [if_neg (by simp [h1])] at h
      exact Prod.ext (ord_zero.1 h1) (ord_zero.1 h)
    · rw [if_pos h1] at h; exact absurd h h1
  · rintro rfl
    have h1 : ord x.1 x.1 = 0 := ord_zero.2 rfl
    rw [if_neg (by simp [h1])]; exact ord_zero.2 rfl
theorem cmp_lt {x y : Lb} : cmp x y < 0 ↔ lt x.1 y.1 = true ∨ (x.1 = y.1 ∧ lt x.2 y.2 = true) := by
  unfold cmp
  by_cases h1 : ord x.1 y.1 = 0
  · rw [if_neg (by simp [h1]), ord_lt]
    have e := ord_zero.1 h1
    constructor
    · intro h; exact .inr ⟨e, h⟩
    · rintro (h | h)
      · exact absurd e (lt_ne h)
      · exact h.2
  · rw [if_pos h1, ord_lt]
    constructor
    · exact .inl
    · rintro (h | h)
      · exact h
      · exact absurd (ord_zero.2 h.1) h1
theorem cmp_trans {x y z : Lb} (h : cmp x y < 0) (h2 : cmp y z < 0) : cmp x z < 0 := by
  rw [cmp_lt] at *
  rcases h with h | ⟨h, h'⟩
  · rcases h2 with h2 | ⟨h2, _⟩
    · exact .inl (lt_trans h h2)
    · exact .inl (h2 ▸ h)
  · rcases h2 with h2 | ⟨h2, h2'⟩
    · exact .inl (h ▸ h2)
    · exact .inr ⟨h.trans h2, lt_trans h' h2'⟩
theorem cmps_bd : ∀ (a b : List Lb), -1 ≤ cmps a b ∧ cmps a b ≤ 1
  | [], [] => by simp [cmps]
  | [], _ :: _ => by simp [cmps]
  | _ :: _, [] => by simp [cmps]
  | x :: a, y :: b => by
    unfold cmps
    have := cmp_bd x y
    have := cmps_bd a b
    split <;> assumption
theorem cmps_neg : ∀ (a b : List Lb), cmps b a = - cmps a b
  | [], [] => rfl
  | [], _ :: _ => rfl
  | _ :: _, [] => rfl
  | x :: a, y :: b => by
    unfold cmps
    rw [cmp_neg x y, cmps_neg a b]
    by_cases h : cmp x y = 0
    · rw [if_neg (by simp [h]), if_neg (by simp [h])]
    · rw [if_pos (by omega), if_pos h]
theorem cmps_zero : ∀ {a b : List Lb}, cmps a b = 0 ↔ a = b
  | [], [] => by simp [cmps]
  | [], _ :: _ => by simp [cmps]
  | _ :: _, [] => by simp [cmps]
  | x :: a, y :: b => by
    unfold cmps
    by_cases h : cmp x y = 0
    · rw [if_neg (by simp [h]), cmps_zero, cmp_zero.1 h]
      simp
    · rw [if_pos h]
      constructor
      · intro h2; exact absurd h2 h
      · intro h2
        have : x = y := by injection h2
        exact absurd (cmp_zero.2 this) h
theorem cmps_lt_cons {x y : Lb} {a b : List Lb} : cmps (x :: a) (y :: b) < 0 ↔ cmp x y < 0 ∨ (x = y ∧ cmps a b < 0) := by
  conv => lhs; unfold cmps
  by_cases h : cmp x y = 0
  · rw [if_neg (by simp [h])]
    have e := cmp_zero.1 h
    constructor
    · intro h2; exact .inr ⟨e, h2⟩
    · rintro (h2 | h2)
      · omega
      · exact h2.2
  · rw [if_pos h]
    constructor
    · exact .inl
    · rintro (h2 | h2)
      · exact h2
      · exact absurd (cmp_zero.2 h2.1) h
theorem cmps_trans : ∀ {a b c : List Lb}, cmps a b < 0 → cmps b c < 0 → cmps a c < 0
  | _, [], [], _, h2 => by simp [cmps] at h2
  | _, _ :: _, [], _, h2 => by simp [cmps] at h2
  | [], _, _ :: _, _, _ => by simp [cmps]
  | _ :: _, [], _ :: _, h, _ => by simp [cmps] at h
  | x :: a, y :: b, z :: c, h, h2 => by
    rw [cmps_lt_cons] at *
    rcases h with h | ⟨rfl, h⟩
    · rcases h2 with h2 | ⟨rfl, h2⟩
      · exact .inl (cmp_trans h h2)
      · exact .inl h
    · rcases h2 with h2 | ⟨rfl, h2⟩
      · exact .inl h2
      · exact .inr ⟨rfl, cmps_trans h h2⟩
theorem cmps_snoc (x : Lb) : ∀ a : List Lb, cmps a (a ++ [x]) = -1
  | [] => rfl
  | y :: a => by
    have h : cmp y y = 0 := cmp_zero.2 rfl
    show cmps (y :: a) (y :: (a ++ [x])) = -1
    rw [cmps, if_neg (by simp [h])]
    exact cmps_snoc x a

/-- sorted by name, no name twice -/
def Srt (l : List Lb) : Prop := l.Pairwise fun x y => lt x.1 y.1 = true
theorem withGo_none (n v : ByteArray) : ∀ (l : List Lb), (∀ x ∈ l, x.1 ≠ n) → withGo n v true l = l
  | [], _ => rfl
  | x :: r, h => by
    rw [withGo, if_neg (h x (List.mem_cons_self ..)), if_neg (by simp), withGo_none n v r fun y hy => h y (List.mem_cons_of_mem _ hy)]
theorem withGo_new (n v : ByteArray) : ∀ (l : List Lb), Srt l → (∀ x ∈ l, x.1 ≠ n) → (withGo n v false l).Perm ((n, v) :: l) ∧ Srt (withGo n v false l)
  | [], _, _ => ⟨List.Perm.refl _, List.pairwise_singleton ..⟩
  | x :: r, hs, h => by
    have hx := h x (List.mem_cons_self ..)
    have hr : ∀ y ∈ r, y.1 ≠ n := fun y hy => h y (List.mem_cons_of_mem _ hy)
    have hs' := List.pairwise_cons.1 hs
    rw [withGo, if_neg hx, gt_of_ne hx]
    by_cases hg : lt n x.1 = true
    · rw [if_pos ⟨rfl, hg⟩, withGo_none n v r hr]
      refine ⟨List.Perm.refl _, List.pairwise_cons.2 ⟨fun y hy => ?_, hs⟩⟩
      rcases List.mem_cons.1 hy with rfl | hy
      · exact hg
      · exact lt_trans hg (hs'.1 y hy)
    · rw [if_neg (fun e => hg e.2)]
      obtain ⟨p, s⟩ := withGo_new n v r hs'.2 hr
      have hg' : lt x.1 n = true := lt_of_ne (Ne.symm hx) (by simpa using hg)
      refine ⟨(List.Perm.cons x p).trans (List.Perm.swap ..), List.pairwise_cons.2 ⟨fun y hy => ?_, s⟩⟩
      rcases List.mem_cons.1 (p.mem_iff.1 hy) with rfl | hy
      · exact hg'
      · exact hs'.1 y hy
/-- the labels that have a value -/
def full (l : List Lb) : List Lb := l.filter fun p => !p.2.toList.isEmpty
/-- pairs put in one by one -/
def mkFrom (acc l : List Lb) : List Lb := l.foldl (fun s p => withL s p.1 p.2) acc
def mkL (l : List Lb) : List Lb := mkFrom [] l
theorem withL_new {l : List Lb} {p : Lb} (hs : Srt l) (h : ∀ x ∈ l, x.1 ≠ p.1) : (withL l p.1 p.2).Perm (full [p] ++ l) ∧ Srt (withL l p.1 p.2) := by
  unfold withL full
  cases hv : p.2.toList.isEmpty with
  | true => rw [withGo_none _ _ _ h]; simp [hv]; exact hs
  | false =>
    have := withGo_new p.1 p.2 l hs h
    simp [hv]; exact this
theorem mkFrom_spec : ∀ (l acc : List Lb), Srt acc → (∀ x ∈ acc, ∀ y ∈ l, x.1 ≠ y.1) → l.Pairwise (fun x y => x.1 ≠ y.1) → (mkFrom acc l).Perm (acc ++ full l) ∧ Srt (mkFrom acc l)
  | [], acc, hs, _, _ => by simp [mkFrom, full]; exact hs
  | p :: r, acc, hs, hd, hp => by
    have hp' := List.pairwise_cons.1 hp
    obtain ⟨q, s⟩ := withL_new (p := p) hs fun x hx => hd x hx p (List.mem_cons_self ..)
    have hin : ∀ x ∈ withL acc p.1 p.2, x = p ∨ x ∈ acc := fun x hx => by
      rcases List.mem_append.1 (q.mem_iff.1 hx) with h | h
      · exact .inl (by unfold full at h; simpa using (List.mem_filter.1 h).1)
      · exact .inr h
    obtain ⟨q2, s2⟩ := mkFrom_spec r (withL acc p.1 p.2) s (fun x hx y hy => by
      rcases hin x hx with rfl | hx
      · exact hp'.1 y hy
      · exact hd x hx y (List.mem_cons_of_mem _ hy)) hp'.2
    refine ⟨?_, s2⟩
    have e : full (p :: r) = full [p] ++ full r := by unfold full; rw [← List.filter_append]; rfl
    rw [e]
    refine (show (mkFrom acc (p :: r)).Perm _ from q2).trans ?_
    refine (List.Perm.append_right (full r) q).trans ?_
    rw [← List.append_assoc]
    exact List.Perm.append_right _ List.perm_append_comm
theorem mkL_spec (l : List Lb) (hp : l.Pairwise (fun x y => x.1 ≠ y.1)) : (mkL l).Perm (full l) ∧ Srt (mkL l) := by
  have := mkFrom_spec l [] List.Pairwise.nil (fun x hx => by cases hx) hp
  simpa [mkL] using this
/-- two sorted lists of the same labels are one -/
theorem srt_ext {a b : List Lb} (ha : Srt a) (hb : Srt b) (h : a.Perm b) : a = b :=
  List.Perm.eq_of_pairwise (le := fun x y : Lb => lt x.1 y.1 = true) (fun x y _ _ h1 h2 => by have := lt_asymm h1; rw [h2] at this; cases this) ha hb h
end L
end Go.Proofs.Ytifaepkeoffcfaa
