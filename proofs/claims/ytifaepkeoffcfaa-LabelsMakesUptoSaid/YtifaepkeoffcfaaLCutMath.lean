/- Plain law: what With, Get and Keep make of a list that Make made. No program in sight. -/
import Derived.Test.YtifaepkeoffcfaaLMake
namespace Go.Proofs.Ytifaepkeoffcfaa
set_option linter.unusedVariables false
set_option linter.unusedSimpArgs false
namespace L
theorem withGo_get_true (n v : ByteArray) : ∀ l : List Lb, get n (withGo n v true l) = ⟨#[]⟩
  | [] => rfl
  | x :: r => by
    unfold withGo
    by_cases h : x.1 = n
    · rw [if_pos h]; exact withGo_get_true n v r
    · rw [if_neg h, if_neg (by simp), get, if_neg h]; exact withGo_get_true n v r
theorem withGo_get_false (n v : ByteArray) : ∀ l : List Lb, get n (withGo n v false l) = v
  | [] => by show get n [(n, v)] = v; rw [get, if_pos rfl]
  | x :: r => by
    unfold withGo
    by_cases h : x.1 = n
    · rw [if_pos h]; exact withGo_get_false n v r
    · rw [if_neg h]
      by_cases hg : gt x.1 n = true
      · rw [if_pos ⟨rfl, hg⟩, get, if_pos rfl]
      · rw [if_neg (fun e => hg e.2), get, if_neg h]; exact withGo_get_false n v r
theorem e_nil : (⟨#[]⟩ : ByteArray).toList = [] := by rw [ByteArray.toList_eq]
theorem empty_eq {v : ByteArray} (h : v.toList.isEmpty = true) : v = ⟨#[]⟩ := toList_inj.1 (by rw [List.isEmpty_iff.1 h, e_nil])
theorem withL_get (l : List Lb) (n v : ByteArray) : get n (withL l n v) = v := by
  unfold withL
  cases h : v.toList.isEmpty with
  | true => rw [withGo_get_true, empty_eq h]
  | false => exact withGo_get_false n v l
theorem withGo_get_other (n v a : ByteArray) (ha : n ≠ a) : ∀ (l : List Lb) (put : Bool), get a (withGo n v put l) = get a l
  | [], put => by
    unfold withGo
    cases put
    · show (if n = a then v else get a []) = get a []
      rw [if_neg ha]
    · rfl
  | x :: r, put => by
    unfold withGo
    by_cases h : x.1 = n
    · rw [if_pos h, withGo_get_other n v a ha r put, get, if_neg (by rw [h]; exact ha)]
    · rw [if_neg h]
      split
      · rw [get, if_neg ha, get, get, withGo_get_other n v a ha r true]
      · rw [get, get, withGo_get_other n v a ha r put]
theorem withL_get_other (l : List Lb) {n v a : ByteArray} (ha : n ≠ a) : get a (withL l n v) = get a l := withGo_get_other n v a ha l _
def Dist (l : List Lb) : Prop := l.Pairwise fun x y => x.1 ≠ y.1
theorem Srt.dist {l : List Lb} (h : Srt l) : Dist l := List.Pairwise.imp (fun h => lt_ne h) h
theorem get_mem : ∀ {l : List Lb}, Dist l → ∀ x ∈ l, get x.1 l = x.2
  | y :: r, h, x, hx => by
    have h' := List.pairwise_cons.1 h
    rcases List.mem_cons.1 hx with rfl | hx
    · rw [get, if_pos rfl]
    · rw [get, if_neg (h'.1 x hx)]; exact get_mem h'.2 x hx
theorem get_none (a : ByteArray) : ∀ {l : List Lb}, (∀ x ∈ l, x.1 ≠ a) → get a l = ⟨#[]⟩
  | [], _ => rfl
  | y :: r, h => by rw [get, if_neg (h y (List.mem_cons_self ..))]; exact get_none a fun x hx => h x (List.mem_cons_of_mem _ hx)
theorem withGo_ge (n v : ByteArray) : ∀ (l : List Lb) (put : Bool), l.length ≤ (withGo n v put l).length + (l.filter fun x => decide (x.1 = n)).length
  | [], put => by simp
  | x :: r, put => by
    unfold withGo
    have h0 := withGo_ge n v r put
    have h1 := withGo_ge n v r true
    by_cases h : x.1 = n
    · rw [if_pos h, List.filter_cons_of_pos (by simpa using h)]; simp; omega
    · rw [if_neg h, List.filter_cons_of_neg (by simpa using h)]
      split
      · simp; omega
      · simp; omega
theorem dist_one {a : ByteArray} : ∀ {l : List Lb}, Dist l → (l.filter fun x => decide (x.1 = a)).length ≤ 1
  | [], _ => by simp
  | x :: r, h => by
    have h' := List.pairwise_cons.1 h
    by_cases e : x.1 = a
    · have : (r.filter fun x => decide (x.1 = a)) = [] := List.filter_eq_nil_iff.2 fun y hy => by
        have := h'.1 y hy
        rw [e] at this
        simpa using Ne.symm this
      rw [List.filter_cons_of_pos (by simpa using e), this]; simp
    · rw [List.filter_cons_of_neg (by simpa using e)]; exact dist_one h'.2
theorem withL_ge {l : List Lb} (h : Dist l) (n v : ByteArray) : l.length ≤ (withL l n v).length + 1 := by
  have h1 := withGo_ge n v l v.toList.isEmpty
  have h2 := dist_one (a := n) h
  unfold withL
  omega
theorem withL_le (l : List Lb) (n v : ByteArray) : (withL l n v).length ≤ l.length + 1 := withGo_len n v l _
/-- a list that Make made -/
structure Sound (l : List Lb) : Prop where
  s : Srt l
  ok : ∀ x ∈ l, ok1 x = true
theorem vldP_of : ∀ (l : List Lb) (p : Option ByteArray), Srt l → (∀ x ∈ l, ok1 x = true) → (∀ x ∈ l, ahead p x.1 = true) → vldP p l = true
  | [], p, _, _, _ => rfl
  | x :: r, p, hs, ho, ha => by
    have h' := List.pairwise_cons.1 hs
    unfold vldP
    rw [ho x (List.mem_cons_self ..), ha x (List.mem_cons_self ..), vldP_of r (some x.1) h'.2 (fun y hy => ho y (List.mem_cons_of_mem _ hy)) (fun y hy => h'.1 y hy)]; rfl
theorem Sound.vld {l : List Lb} (h : Sound l) : L.vld l = true := vldP_of l none h.s h.ok fun _ _ => rfl
theorem Sound.filter {l : List Lb} (h : Sound l) (p : Lb → Bool) : Sound (l.filter p) := ⟨List.Pairwise.filter _ h.s, fun x hx => h.ok x (List.mem_filter.1 hx).1⟩
theorem Sound.keep {l : List Lb} (h : Sound l) (ns : List ByteArray) (b : Bool) : Sound (keepL l ns b) := h.filter _
theorem Sound.val {l : List Lb} (h : Sound l) : ∀ x ∈ l, x.2.toList.isEmpty = false := fun x hx => by
  have := h.ok x hx
  unfold ok1 at this
  simp only [Bool.and_eq_true, Bool.not_eq_true'] at this
  exact this.1.2
theorem mkErrP_ok : ∀ (r b : List Lb), mkErrP b r = 0 → ∀ x ∈ r, lab x.1 = true ∧ U.valid x.2 = true
  | x :: r, b, h, y, hy => by
    unfold mkErrP at h
    split at h
    · rename_i h1
      split at h
      · rename_i h2
        rcases List.mem_cons.1 hy with rfl | hy
        · simp only [Bool.and_eq_true] at h1
          exact ⟨h1.1, h2⟩
        · exact mkErrP_ok r _ h y hy
      · cases h
    · cases h
theorem made_sound (l : List Lb) : Sound (made l) := by
  unfold made
  split
  · rename_i h
    obtain ⟨p, s⟩ := mkL_spec l (mkErr_dist h)
    refine ⟨s, fun x hx => ?_⟩
    have hf := p.mem_iff.1 hx
    unfold full at hf
    obtain ⟨hm, hv⟩ := List.mem_filter.1 hf
    obtain ⟨h1, h2⟩ := mkErrP_ok l [] h x hm
    unfold ok1
    rw [h1, h2]
    simpa using hv
  · exact ⟨List.Pairwise.nil, fun x hx => by cases hx⟩
theorem made_mem (l : List Lb) : ∀ x ∈ made l, x ∈ l := by
  intro x hx
  unfold made at hx
  split at hx
  · rename_i h
    obtain ⟨p, s⟩ := mkL_spec l (mkErr_dist h)
    have hf := p.mem_iff.1 hx
    unfold full at hf
    exact (List.mem_filter.1 hf).1
  · cases hx
theorem made_len (l : List Lb) : (made l).length ≤ l.length := by
  unfold made; split
  · exact mkL_len l
  · simp
theorem isIn_mem (a : ByteArray) : ∀ ns : List ByteArray, isIn a ns = true ↔ a ∈ ns
  | [] => by simp [isIn]
  | y :: r => by
    unfold isIn
    by_cases h : a = y
    · rw [if_pos h]; simp [h]
    · rw [if_neg h, isIn_mem a r]; simp [h]
theorem keep_in {l : List Lb} {ns : List ByteArray} {x : Lb} : x ∈ keepL l ns false ↔ x ∈ l ∧ isIn x.1 ns = true := by
  unfold keepL stays; simp
theorem keep_out {l : List Lb} {ns : List ByteArray} {x : Lb} : x ∈ keepL l ns true ↔ x ∈ l ∧ x.1 ≠ metric ∧ isIn x.1 ns = false := by
  unfold keepL stays; simp
theorem keep_metric (l : List Lb) (ns : List ByteArray) : get metric (keepL l ns true) = ⟨#[]⟩ := get_none _ fun x hx => (keep_out.1 hx).2.1
def lost (l : List Lb) (ns : List ByteArray) : Nat := if isIn metric ns then 0 else (l.filter fun x => decide (x.1 = metric)).length
theorem keep_count (ns : List ByteArray) : ∀ l : List Lb, (keepL l ns false).length + (keepL l ns true).length + lost l ns = l.length
  | [] => by simp [keepL, lost]
  | x :: r => by
    have h := keep_count ns r
    unfold keepL lost at *
    simp only [List.filter_cons]
    by_cases hm : x.1 = metric
    · have e2 : stays x.1 ns true = false := by unfold stays; simp [hm]
      have e1 : stays x.1 ns false = isIn metric ns := by unfold stays; simp [hm]
      rw [e1, e2]
      cases hi : isIn metric ns with
      | true => rw [hi] at h; simp at h ⊢; omega
      | false => rw [hi] at h; simp [hm] at h ⊢; omega
    · have e3 : decide (x.1 = metric) = false := by simpa using hm
      rw [e3]
      cases hi : isIn x.1 ns with
      | true =>
        have e1 : stays x.1 ns false = true := by unfold stays; simpa using hi
        have e2 : stays x.1 ns true = false := by unfold stays; simp [hi]
        rw [e1, e2]; simp only [if_true, Bool.false_eq_true, if_false, List.length_cons]; omega
      | false =>
        have e1 : stays x.1 ns false = false := by unfold stays; simpa using hi
        have e2 : stays x.1 ns true = true := by unfold stays; simp [hm, hi]
        rw [e1, e2]; simp only [if_true, Bool.false_eq_true, if_false, List.length_cons]; omega
/-- the sum that LabelsCuts makes -/
theorem cut_sum {l : List Lb} (hS : Sound l) (ns : List ByteArray) :
    (keepL l ns false).length + (keepL l ns true).length + (if (!(get metric l).toList.isEmpty) && (get metric (keepL l ns false)).toList.isEmpty then 1 else 0) = l.length := by
  have hc := keep_count ns l
  have hd := hS.s.dist
  have key : (if (!(get metric l).toList.isEmpty) && (get metric (keepL l ns false)).toList.isEmpty then 1 else 0) = lost l ns := by
    unfold lost
    by_cases hm : ∃ x ∈ l, x.1 = metric
    · obtain ⟨x, hx, e⟩ := hm
      have g1 : get metric l = x.2 := by rw [← e]; exact get_mem hd x hx
      rw [g1, hS.val x hx]
      cases hi : isIn metric ns with
      | true =>
        have hk : x ∈ keepL l ns false := keep_in.2 ⟨hx, by rw [e]; exact hi⟩
        have g2 : get metric (keepL l ns false) = x.2 := by rw [← e]; exact get_mem (hS.keep ns false).s.dist x hk
        rw [g2, hS.val x hx]; rfl
      | false =>
        have g2 : get metric (keepL l ns false) = ⟨#[]⟩ := get_none _ fun y hy e2 => by
          have := (keep_in.1 hy).2
          rw [e2, hi] at this; cases this
        rw [g2]
        have h1 := dist_one (a := metric) hd
        have h2 : 0 < (l.filter fun x => decide (x.1 = metric)).length := List.length_pos_of_mem (List.mem_filter.2 ⟨hx, by simpa using e⟩)
        have h3 : (l.filter fun x => decide (x.1 = metric)).length = 1 := by omega
        rw [h3, e_nil]; rfl
    · have hn : ∀ x ∈ l, x.1 ≠ metric := fun x hx e => hm ⟨x, hx, e⟩
      rw [get_none _ hn]
      have : (l.filter fun x => decide (x.1 = metric)) = [] := List.filter_eq_nil_iff.2 fun y hy => by simpa using hn y hy
      rw [this, e_nil]
      simp
  rw [key]; exact hc
/-- what the last loop finds of each label -/
theorem cut_each {l : List Lb} (hS : Sound l) (ns : List ByteArray) (x : Lb) (hx : x ∈ l) :
    ((get x.1 (keepL l ns false)).toList.isEmpty = false ∧ get x.1 (keepL l ns false) = x.2) ∨
    (get x.1 (keepL l ns false) = ⟨#[]⟩ ∧ get x.1 (keepL l ns true) = x.2) ∨
    (get x.1 (keepL l ns false) = ⟨#[]⟩ ∧ x.1 = metric) := by
  cases hi : isIn x.1 ns with
  | true =>
    have hk : x ∈ keepL l ns false := keep_in.2 ⟨hx, hi⟩
    have g2 := get_mem (hS.keep ns false).s.dist x hk
    exact .inl ⟨by rw [g2]; exact hS.val x hx, g2⟩
  | false =>
    have g2 : get x.1 (keepL l ns false) = ⟨#[]⟩ := get_none _ fun y hy e2 => by
      have := (keep_in.1 hy).2
      rw [e2, hi] at this; cases this
    by_cases hm : x.1 = metric
    · exact .inr (.inr ⟨g2, hm⟩)
    · exact .inr (.inl ⟨g2, get_mem (hS.keep ns true).s.dist x (keep_out.2 ⟨hx, hm, hi⟩)⟩)
end L
end Go.Proofs.Ytifaepkeoffcfaa
