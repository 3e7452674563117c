/- A region that draws its order: walked once, by what each operation's value is known to be (facts that hold on in later worlds), whatever came up before. No function of the program in sight. -/
import Derived.Test.YtcbggkdginfakaaGreatDoorBase
namespace Go.Proofs.YtcbggkdginfakaaGreatDoor
open Go.RowKit
set_option linter.unusedVariables false
set_option linter.unusedSimpArgs false
def rupd (xs : Nat → Value) (i : Nat) (v : Value) : Nat → Value := fun j => if j = i then v else xs j
theorem rupd_same (xs : Nat → Value) (i : Nat) (v : Value) : rupd xs i v i = v := by simp [rupd]
theorem rupd_ne (xs : Nat → Value) {i j : Nat} (v : Value) (h : j ≠ i) : rupd xs i v j = xs j := by simp [rupd, h]
section
variable {P : Program} {ops : Array Oper} {Q : Exit → Act → World → Prop} {md : Region.Mode}
theorem ready_some (hac : ∀ (i : Nat) (o : Oper), ops[i]? = some o → ∀ e ∈ o.after, e.on < i) (listed : Array Bool) (hs : listed.size = ops.size) (hr : Region.ready md ops listed = []) :
    ∀ i, i < ops.size → listed.getD i true = true := by
  intro i
  induction i using Nat.strongRecOn with
  | _ i ih =>
    intro hi
    cases hl : listed.getD i true with
    | true => rfl
    | false =>
      have hmem : i ∈ Region.ready md ops listed := by
        rw [mem_ready]
        refine ⟨hl, ops[i], by simp [hi], fun e he _ => ?_⟩
        have hlt := hac i ops[i] (by simp [hi]) e he
        have h1 := ih e.on hlt (by omega)
        have hlt' : e.on < listed.size := by omega
        simp [hlt'] at h1 ⊢
        exact h1
      rw [hr] at hmem
      cases hmem
theorem wpAny_inv (F : (Nat → Value) → Act) (V : Nat → Value → World → Prop) (I : World → Prop) (G : World → World → Prop)
    (hac : ∀ (i : Nat) (o : Oper), ops[i]? = some o → ∀ e ∈ o.after, e.on < i)
    (hmono : ∀ i v w w', V i v w → G w w' → V i v w')
    (hstep : ∀ (i : Nat) (o : Oper), ops[i]? = some o → ∀ xs w, I w → (∀ e ∈ o.after, Region.binds md e = true → V e.on (xs e.on) w) →
      wpOp P ops Q i (fun a' w' => ∃ v, a' = F (rupd xs i v) ∧ V i v w' ∧ I w' ∧ G w w') (F xs) w)
    (hend : ∀ xs w, I w → (∀ i, i < ops.size → V i (xs i) w) → Q .normal (F xs) w) :
    ∀ fuel listed xs w, listed.size = ops.size → listed.toList.count false ≤ fuel → I w → (∀ i, i < ops.size → listed.getD i true = true → V i (xs i) w) → wpAny P md ops Q fuel listed (F xs) w := by
  intro fuel
  induction fuel with
  | zero =>
    intro listed xs w hs hc hI hV
    have hall : ∀ i, i < ops.size → listed.getD i true = true := by
      intro i hi
      have hlt : i < listed.size := by omega
      cases hl : listed.getD i true with
      | true => rfl
      | false =>
        have : false ∈ listed.toList := by
          simp [hlt] at hl
          rw [← hl]
          exact List.getElem_mem (by simpa using hlt)
        have := List.count_pos_iff.2 this
        omega
    refine ⟨?_, hend xs w hI fun i hi => hV i hi (hall i hi)⟩
    rw [List.eq_nil_iff_forall_not_mem]
    intro i hi
    obtain ⟨h0, o, ho, _⟩ := mem_ready.1 hi
    have := hall i (by have := (Array.getElem?_eq_some_iff.1 ho).1; exact this)
    rw [this] at h0
    cases h0
  | succ fuel ih =>
    intro listed xs w hs hc hI hV
    refine ⟨fun hr => hend xs w hI fun i hi => hV i hi (ready_some hac listed hs hr i hi), fun i hi => ?_⟩
    obtain ⟨h0, o, ho, hall⟩ := mem_ready.1 hi
    have hio : i < ops.size := (Array.getElem?_eq_some_iff.1 ho).1
    have hil : i < listed.size := by omega
    refine wpOp_mono ?_ (hstep i o ho xs w hI fun e he hb => hV e.on ?_ ?_)
    · rintro a' w' ⟨v, rfl, hv, hI', hG⟩
      refine ih _ _ _ (by simp [hs]) ?_ hI' fun j hj hjl => ?_
      · have hlf : listed[i] = false := by simpa [hil] using h0
        rw [Array.toList_setIfInBounds, List.count_set (by simpa using hil)]
        simp [hlf]
        have h0p : false ∈ listed.toList := by rw [← hlf]; exact List.getElem_mem (by simpa using hil)
        have := List.count_pos_iff.2 h0p
        have e : Array.count false listed = listed.toList.count false := by simp
        try rw [e]
        omega
      · by_cases hji : j = i
        · subst hji; rw [rupd_same]; exact hv
        · rw [rupd_ne _ _ hji]
          rw [getD_set_ne true (Ne.symm hji)] at hjl
          exact hmono _ _ _ _ (hV j hj hjl) hG
    · exact by
        have := hall e he hb
        rcases Nat.lt_or_ge e.on ops.size with h | h
        · exact h
        · have hn : listed.size ≤ e.on := by omega
          simp [Array.getElem?_eq_none hn] at this
    · have h1 := hall e he hb
      rcases Nat.lt_or_ge e.on listed.size with h | h
      · simp [h] at h1 ⊢; exact h1
      · simp [Array.getElem?_eq_none h] at h1
theorem ready_nil (listed : Array Bool) (h : ∀ i, i < ops.size → listed.getD i true = true) : Region.ready md ops listed = [] := by
  rw [List.eq_nil_iff_forall_not_mem]
  intro i hi
  obtain ⟨h0, o, ho, _⟩ := mem_ready.1 hi
  have := h i (Array.getElem?_eq_some_iff.1 ho).1
  rw [this] at h0
  cases h0
/-- the same, where one operation comes last (it may turn what the others told) -/
theorem wpAny_inv_last (L : Nat) (oL : Oper) (hoL : ops[L]? = some oL) (hLall : ∀ j, j < ops.size → j ≠ L → ∃ e ∈ oL.after, Region.binds md e = true ∧ e.on = j)
    (F : (Nat → Value) → Act) (V : Nat → Value → World → Prop) (I : World → Prop) (G : World → World → Prop)
    (hac : ∀ (i : Nat) (o : Oper), ops[i]? = some o → ∀ e ∈ o.after, e.on < i)
    (hmono : ∀ i v w w', V i v w → G w w' → V i v w')
    (hstep : ∀ (i : Nat) (o : Oper), ops[i]? = some o → i ≠ L → ∀ xs w, I w → (∀ e ∈ o.after, Region.binds md e = true → V e.on (xs e.on) w) →
      wpOp P ops Q i (fun a' w' => ∃ v, a' = F (rupd xs i v) ∧ V i v w' ∧ I w' ∧ G w w') (F xs) w)
    (hlast : ∀ xs w, I w → (∀ j, j < ops.size → j ≠ L → V j (xs j) w) → wpOp P ops Q L (fun a' w' => Q .normal a' w') (F xs) w) :
    ∀ fuel listed xs w, listed.size = ops.size → listed.toList.count false ≤ fuel → I w → listed.getD L true = false → (∀ i, i < ops.size → listed.getD i true = true → V i (xs i) w) → wpAny P md ops Q fuel listed (F xs) w := by
  have hLs : L < ops.size := (Array.getElem?_eq_some_iff.1 hoL).1
  intro fuel
  induction fuel with
  | zero =>
    intro listed xs w hs hc hI hLf hV
    exfalso
    have hlt : L < listed.size := by omega
    have : false ∈ listed.toList := by
      simp [hlt] at hLf
      rw [← hLf]
      exact List.getElem_mem (by simpa using hlt)
    have := List.count_pos_iff.2 this
    omega
  | succ fuel ih =>
    intro listed xs w hs hc hI hLf hV
    refine ⟨fun hr => ?_, fun i hi => ?_⟩
    · exfalso
      have := ready_some hac listed hs hr L hLs
      rw [this] at hLf; cases hLf
    obtain ⟨h0, o, ho, hall⟩ := mem_ready.1 hi
    have hio : i < ops.size := (Array.getElem?_eq_some_iff.1 ho).1
    have hil : i < listed.size := by omega
    have hdep : ∀ e ∈ o.after, Region.binds md e = true → e.on < ops.size ∧ listed.getD e.on true = true := fun e he hb => by
      have h1 := hall e he hb
      rcases Nat.lt_or_ge e.on listed.size with h | h
      · simp [h] at h1 ⊢
        exact ⟨by omega, h1⟩
      · simp [Array.getElem?_eq_none h] at h1
    by_cases hiL : i = L
    · subst hiL
      obtain rfl : o = oL := Option.some.inj (ho.symm.trans hoL)
      refine wpOp_mono ?_ (hlast xs w hI fun j hj hji => ?_)
      · intro a' w' hq
        refine wpAny_done (ready_nil _ fun j hj => ?_) hq fuel
        by_cases hji : j = i
        · subst hji; simp [hil]
        · rw [getD_set_ne true (Ne.symm hji)]
          obtain ⟨e, he, hb, rfl⟩ := hLall j hj hji
          exact (hdep e he hb).2
      · obtain ⟨e, he, hb, rfl⟩ := hLall j hj hji
        exact hV _ hj (hdep e he hb).2
    refine wpOp_mono ?_ (hstep i o ho hiL xs w hI fun e he hb => hV e.on (hdep e he hb).1 (hdep e he hb).2)
    rintro a' w' ⟨v, rfl, hv, hI', hG⟩
    refine ih _ _ _ (by simp [hs]) ?_ hI' (by rw [getD_set_ne true hiL]; exact hLf) fun j hj hjl => ?_
    · have hlf : listed[i] = false := by simpa [hil] using h0
      rw [Array.toList_setIfInBounds, List.count_set (by simpa using hil)]
      simp [hlf]
      have h0p : false ∈ listed.toList := by rw [← hlf]; exact List.getElem_mem (by simpa using hil)
      have := List.count_pos_iff.2 h0p
      have e : Array.count false listed = listed.toList.count false := by simp
      try rw [e]
      omega
    · by_cases hji : j = i
      · subst hji; rw [rupd_same]; exact hv
      · rw [rupd_ne _ _ hji]
        rw [getD_set_ne true (Ne.symm hji)] at hjl
        exact hmono _ _ _ _ (hV j hj hjl) hG
theorem wp_region_last {id : Nat} {w : World} (hm : P.follows .mixedOrders = true) (L : Nat) (oL : Oper) (hoL : ops[L]? = some oL) (hLall : ∀ j, j < ops.size → j ≠ L → ∃ e ∈ oL.after, Region.binds .any e = true ∧ e.on = j)
    (F : (Nat → Value) → Act) (V : Nat → Value → World → Prop) (I : World → Prop) (G : World → World → Prop) (xs : Nat → Value)
    (hac : ∀ (i : Nat) (o : Oper), ops[i]? = some o → ∀ e ∈ o.after, e.on < i)
    (hmono : ∀ i v w w', V i v w → G w w' → V i v w') (hI : I w.drew)
    (hstep : ∀ (i : Nat) (o : Oper), ops[i]? = some o → i ≠ L → ∀ xs w, I w → (∀ e ∈ o.after, Region.binds .any e = true → V e.on (xs e.on) w) →
      wpOp P ops Q i (fun a' w' => ∃ v, a' = F (rupd xs i v) ∧ V i v w' ∧ I w' ∧ G w w') (F xs) w)
    (hlast : ∀ xs w, I w → (∀ j, j < ops.size → j ≠ L → V j (xs j) w) → wpOp P ops Q L (fun a' w' => Q .normal a' w') (F xs) w) : (Code.region id ops true).wp P Q (F xs) w :=
  wp_region_any hm (wpAny_inv_last L oL hoL hLall F V I G hac hmono hstep hlast _ _ _ _ (by simp) (by simp) hI (by have := (Array.getElem?_eq_some_iff.1 hoL).1; simp [this]) (fun i hi h => by simp [hi] at h))
theorem wpOp_val {i : Nat} {o : Oper} {v : Value} {a : Act} {w w' : World} {K : Act → World → Prop} (hi : ops[i]? = some o) (hg : o.guard = none) (hr : (execOp a.eval o).run P w = .ok (.value v) w') (h : K (a.put o.dst v) w') : wpOp P ops Q i K a w := by
  have hw : Region.wanted o (yielded ops a.tmps) = true := by simp [Region.wanted, hg]
  unfold wpOp
  simp only [hi, hw, if_true, Oper.wp, hr, Oper.upon]
  exact .inl h
theorem wpOp_void {i : Nat} {o : Oper} {a : Act} {w w' : World} {K : Act → World → Prop} (hi : ops[i]? = some o) (hg : o.guard = none) (hr : (execOp a.eval o).run P w = .ok .skip w') (h : K (a.put o.dst undef) w') : wpOp P ops Q i K a w := by
  have hw : Region.wanted o (yielded ops a.tmps) = true := by simp [Region.wanted, hg]
  unfold wpOp
  simp only [hi, hw, if_true, Oper.wp, hr, Oper.upon]
  exact .inl h
theorem wpOp_enter {i : Nat} {o : Oper} {f : FuncId} {args : Array Value} {a : Act} {w : World} {K : Act → World → Prop} (hi : ops[i]? = some o) (hg : o.guard = none) (hr : (execOp a.eval o).run P w = .ok (.enter f args) w)
    (h : Calls P f args w fun e w' => ∃ v, e = .returned v ∧ K (a.put o.dst v) w') : wpOp P ops Q i K a w := by
  have hw : Region.wanted o (yielded ops a.tmps) = true := by simp [Region.wanted, hg]
  unfold wpOp
  simp only [hi, hw, if_true, Oper.wp, hr, Oper.upon]
  refine .inl (h.mono ?_)
  rintro e w' ⟨v, rfl, hK⟩
  exact hK
def putL (a : Act) : List (Option Tmp) → (Nat → Value) → Nat → Act
  | [], _, _ => a
  | d :: ds, ys, k => putL (a.put d (ys k)) ds ys (k + 1)
def okDs : List (Option Tmp) → Bool
  | [] => true
  | none :: ds => okDs ds
  | some d :: ds => !ds.contains (some d) && okDs ds
theorem put_put (a : Act) (d : Option Tmp) (u v : Value) : (a.put d u).put d v = a.put d v := by
  cases d with
  | none => rfl
  | some d => simp [Act.put, Array.setIfInBounds]; split <;> simp_all
theorem put_self (a : Act) (d : Tmp) : a.put (some d) (a.eval (.tmp d)) = a := by
  unfold Act.put Act.eval
  simp only [Array.setIfInBounds]
  split
  · rename_i h
    simp
  · rfl
theorem putL_congr : ∀ (ds : List (Option Tmp)) (a : Act) (ys zs : Nat → Value) (k : Nat), (∀ j, k ≤ j → ys j = zs j) → putL a ds ys k = putL a ds zs k
  | [], a, ys, zs, k, h => rfl
  | d :: ds, a, ys, zs, k, h => by
    unfold putL
    rw [h k (Nat.le_refl _)]
    exact putL_congr ds _ ys zs (k + 1) (fun j hj => h j (by omega))
theorem putL_comm : ∀ (ds : List (Option Tmp)) (a : Act) (ys : Nat → Value) (k : Nat) (d : Tmp) (v : Value), ds.contains (some d) = false → (putL a ds ys k).put (some d) v = putL (a.put (some d) v) ds ys k
  | [], a, ys, k, d, v, h => rfl
  | x :: ds, a, ys, k, d, v, h => by
    unfold putL
    simp only [List.contains_cons, Bool.or_eq_false_iff] at h
    rw [putL_comm ds _ ys (k + 1) d v h.2, Act.put_comm a (x := x) (y := some d) (ys k) v (fun e he hh => by
      subst he
      have := Option.some.inj hh
      subst this
      simp at h)]
theorem putL_put : ∀ (ds : List (Option Tmp)) (a : Act) (ys : Nat → Value) (k i : Nat) (d : Option Tmp) (v : Value), ds[i]? = some d → okDs ds = true → (putL a ds ys k).put d v = putL a ds (rupd ys (k + i) v) k
  | [], a, ys, k, i, d, v, h, _ => by simp at h
  | x :: ds, a, ys, k, 0, d, v, h, ho => by
    obtain rfl : x = d := by simpa using h
    unfold putL
    show _ = putL (a.put x (rupd ys k v k)) ds (rupd ys k v) (k + 1)
    rw [rupd_same]
    have e := putL_congr ds (a.put x v) (rupd ys k v) ys (k + 1) (fun j hj => rupd_ne _ _ (by omega))
    rw [e]
    cases x with
    | none => rfl
    | some x =>
      unfold okDs at ho
      simp only [Bool.and_eq_true, Bool.not_eq_true'] at ho
      rw [putL_comm ds _ ys (k + 1) x v ho.1, put_put]
  | x :: ds, a, ys, k, i + 1, d, v, h, ho => by
    have h' : ds[i]? = some d := by simpa using h
    have ho' : okDs ds = true := by
      cases x with
      | none => exact ho
      | some x => unfold okDs at ho; simp only [Bool.and_eq_true] at ho; exact ho.2
    unfold putL
    rw [putL_put ds (a.put x (ys k)) ys (k + 1) i d v h' ho', rupd_ne ys v (show k ≠ k + (i + 1) by omega), show k + 1 + i = k + (i + 1) by omega]
theorem eval_put_ne (a : Act) (d : Option Tmp) (v : Value) (t : Tmp) (h : d ≠ some t) : (a.put d v).eval (.tmp t) = a.eval (.tmp t) :=
  Act.eval_put fun x hx hh => by
    injection hh with hh
    subst hh
    exact h hx
theorem eval_put_eq (a : Act) (t : Tmp) (v : Value) (h : t < a.tmps.size) : (a.put (some t) v).eval (.tmp t) = v := by
  simp [Act.put, Act.eval, h]
theorem size_put (a : Act) (d : Option Tmp) (v : Value) : (a.put d v).tmps.size = a.tmps.size := by
  cases d <;> simp [Act.put]
theorem putL_miss : ∀ (ds : List (Option Tmp)) (a : Act) (ys : Nat → Value) (k : Nat) (t : Tmp), ds.contains (some t) = false → (putL a ds ys k).eval (.tmp t) = a.eval (.tmp t)
  | [], a, ys, k, t, h => rfl
  | x :: ds, a, ys, k, t, h => by
    unfold putL
    simp only [List.contains_cons, Bool.or_eq_false_iff] at h
    rw [putL_miss ds _ ys (k + 1) t h.2, eval_put_ne _ _ _ _ (fun hh => by subst hh; simp at h)]
theorem putL_hit : ∀ (ds : List (Option Tmp)) (a : Act) (ys : Nat → Value) (k i : Nat) (t : Tmp), ds[i]? = some (some t) → okDs ds = true → t < a.tmps.size → (putL a ds ys k).eval (.tmp t) = ys (k + i)
  | [], a, ys, k, i, t, h, _, _ => by simp at h
  | x :: ds, a, ys, k, 0, t, h, ho, hs => by
    obtain rfl : x = some t := by simpa using h
    unfold putL
    unfold okDs at ho
    simp only [Bool.and_eq_true, Bool.not_eq_true'] at ho
    rw [putL_miss ds _ ys (k + 1) t ho.1, eval_put_eq _ _ _ hs, Nat.add_zero]
  | x :: ds, a, ys, k, i + 1, t, h, ho, hs => by
    have h' : ds[i]? = some (some t) := by simpa using h
    have ho' : okDs ds = true := by
      cases x with
      | none => exact ho
      | some x => unfold okDs at ho; simp only [Bool.and_eq_true] at ho; exact ho.2
    unfold putL
    rw [putL_hit ds (a.put x (ys k)) ys (k + 1) i t h' ho' (by rw [size_put]; exact hs), show k + 1 + i = k + (i + 1) by omega]
/-- the frame as it is -/
theorem putL_self : ∀ (ds : List (Option Tmp)) (a : Act) (k : Nat) (ys : Nat → Value), okDs ds = true → (∀ i t, ds[i]? = some (some t) → ys (k + i) = a.eval (.tmp t)) → putL a ds ys k = a
  | [], a, k, ys, _, h => rfl
  | x :: ds, a, k, ys, ho, h => by
    have ho' : okDs ds = true := by
      cases x with
      | none => exact ho
      | some x => unfold okDs at ho; simp only [Bool.and_eq_true] at ho; exact ho.2
    have e : a.put x (ys k) = a := by
      cases x with
      | none => rfl
      | some x =>
        have := h 0 x (by simp)
        rw [Nat.add_zero] at this
        rw [this, put_self]
    unfold putL
    rw [e]
    exact putL_self ds a (k + 1) ys ho' (fun i t hi => by
      have := h (i + 1) t (by simpa using hi)
      rw [show k + (i + 1) = k + 1 + i by omega] at this; exact this)
theorem region_base {id : Nat} {a : Act} {w : World} (h : ∀ base : Act, base = a → (Code.region id ops true).wp P Q base w) : (Code.region id ops true).wp P Q a w := h a rfl
def lastB (ops : Array Oper) (L : Nat) : Bool := match ops[L]? with
  | some oL => (List.range ops.size).all fun j => j == L || oL.after.any fun e => Region.binds .any e && e.on == j
  | none => false
def acB (ops : Array Oper) : Bool := (List.range ops.size).all fun i => match ops[i]? with
  | some o => o.after.all fun e => decide (e.on < i)
  | none => true
def dstB (ops : Array Oper) (ds : List (Option Tmp)) : Bool := (List.range ops.size).all fun i => match ops[i]? with
  | some o => ds[i]? == some o.dst
  | none => true
/-- a region that draws its order: its operations' values told by facts that hold on; one operation comes last -/
theorem wp_region_put {id : Nat} {base : Act} {w : World} (hm : P.follows .mixedOrders = true) (L : Nat) (ds : List (Option Tmp)) (hL : lastB ops L = true) (hac : acB ops = true) (hds : okDs ds = true) (hdst : dstB ops ds = true)
    (V : Nat → Value → World → Prop) (I : World → Prop) (G : World → World → Prop)
    (hmono : ∀ i v w w', V i v w → G w w' → V i v w') (hI : I w.drew)
    (hstep : ∀ (i : Nat) (o : Oper), ops[i]? = some o → i ≠ L → ∀ xs w, I w → (∀ e ∈ o.after, Region.binds .any e = true → V e.on (xs e.on) w) →
      wpOp P ops Q i (fun a' w' => ∃ v, a' = (putL base ds xs 0).put o.dst v ∧ V i v w' ∧ I w' ∧ G w w') (putL base ds xs 0) w)
    (hlast : ∀ xs w, I w → (∀ j, j < ops.size → j ≠ L → V j (xs j) w) → wpOp P ops Q L (fun a' w' => Q .normal a' w') (putL base ds xs 0) w) : (Code.region id ops true).wp P Q base w := by
  obtain ⟨oL, hoL, hall⟩ : ∃ oL, ops[L]? = some oL ∧ ∀ j, j < ops.size → j ≠ L → ∃ e ∈ oL.after, Region.binds .any e = true ∧ e.on = j := by
    unfold lastB at hL
    cases ho : ops[L]? with
    | none => rw [ho] at hL; cases hL
    | some oL =>
      rw [ho] at hL
      refine ⟨oL, rfl, fun j hj hne => ?_⟩
      have := List.all_eq_true.1 hL j (List.mem_range.2 hj)
      simp only [Bool.or_eq_true, beq_iff_eq, hne, false_or] at this
      obtain ⟨e, he, hb⟩ := Array.any_eq_true'.1 this
      simp only [Bool.and_eq_true, beq_iff_eq] at hb
      exact ⟨e, he, hb.1, hb.2⟩
  have ac : ∀ (i : Nat) (o : Oper), ops[i]? = some o → ∀ e ∈ o.after, e.on < i := fun i o ho e he => by
    have := List.all_eq_true.1 hac i (List.mem_range.2 (Array.getElem?_eq_some_iff.1 ho).1)
    simp only [ho] at this
    exact of_decide_eq_true (Array.all_eq_true_iff_forall_mem.1 this e he)
  have dst : ∀ (i : Nat) (o : Oper), ops[i]? = some o → ds[i]? = some o.dst := fun i o ho => by
    have := List.all_eq_true.1 hdst i (List.mem_range.2 (Array.getElem?_eq_some_iff.1 ho).1)
    simp only [ho] at this
    exact beq_iff_eq.1 this
  have e := putL_self ds base 0 (fun i => match ds[i]? with | some (some t) => base.eval (.tmp t) | _ => undef) hds (fun i t hi => by simp [hi])
  rw [← e]
  refine wp_region_last hm L oL hoL hall (fun ys => putL base ds ys 0) V I G _ ac hmono hI (fun i o ho hne xs w hI hV => ?_) hlast
  refine wpOp_mono ?_ (hstep i o ho hne xs w hI hV)
  rintro a' w' ⟨v, rfl, h1, h2, h3⟩
  exact ⟨v, by rw [putL_put ds base xs 0 i o.dst v (dst i o ho) hds, Nat.zero_add], h1, h2, h3⟩
/-- the same, no operation last -/
theorem wp_region_put0 {id : Nat} {base : Act} {w : World} (hm : P.follows .mixedOrders = true) (ds : List (Option Tmp)) (hac : acB ops = true) (hds : okDs ds = true) (hdst : dstB ops ds = true)
    (V : Nat → Value → World → Prop) (I : World → Prop) (G : World → World → Prop)
    (hmono : ∀ i v w w', V i v w → G w w' → V i v w') (hI : I w.drew)
    (hstep : ∀ (i : Nat) (o : Oper), ops[i]? = some o → ∀ xs w, I w → (∀ e ∈ o.after, Region.binds .any e = true → V e.on (xs e.on) w) →
      wpOp P ops Q i (fun a' w' => ∃ v, a' = (putL base ds xs 0).put o.dst v ∧ V i v w' ∧ I w' ∧ G w w') (putL base ds xs 0) w)
    (hend : ∀ xs w, I w → (∀ j, j < ops.size → V j (xs j) w) → Q .normal (putL base ds xs 0) w) : (Code.region id ops true).wp P Q base w := by
  have ac : ∀ (i : Nat) (o : Oper), ops[i]? = some o → ∀ e ∈ o.after, e.on < i := fun i o ho e he => by
    have := List.all_eq_true.1 hac i (List.mem_range.2 (Array.getElem?_eq_some_iff.1 ho).1)
    simp only [ho] at this
    exact of_decide_eq_true (Array.all_eq_true_iff_forall_mem.1 this e he)
  have dst : ∀ (i : Nat) (o : Oper), ops[i]? = some o → ds[i]? = some o.dst := fun i o ho => by
    have := List.all_eq_true.1 hdst i (List.mem_range.2 (Array.getElem?_eq_some_iff.1 ho).1)
    simp only [ho] at this
    exact beq_iff_eq.1 this
  have e := putL_self ds base 0 (fun i => match ds[i]? with | some (some t) => base.eval (.tmp t) | _ => undef) hds (fun i t hi => by simp [hi])
  rw [← e]
  refine wp_region_any hm (wpAny_inv (fun ys => putL base ds ys 0) V I G ac hmono (fun i o ho xs w hI hV => ?_) hend _ _ _ _ (by simp) (by simp) hI (fun i hi h => by simp [hi] at h))
  refine wpOp_mono ?_ (hstep i o ho xs w hI hV)
  rintro a' w' ⟨v, rfl, h1, h2, h3⟩
  exact ⟨v, by rw [putL_put ds base xs 0 i o.dst v (dst i o ho) hds, Nat.zero_add], h1, h2, h3⟩
theorem wanted_of {o : Oper} {g : Nat} {want : Bool} {d : Tmp} {a : Act} (hg : o.guard = some (g, want)) (hd : (ops[g]?).bind (·.dst) = some d) (hv : a.eval (.tmp d) = .bool want) : Region.wanted o (yielded ops a.tmps) = true := by
  unfold Region.wanted yielded
  simp only [hg, hd]
  unfold Act.eval at hv
  simp only at hv
  rw [Array.getD_eq_getD_getElem?] at hv
  cases h : a.tmps[d]? with
  | none => rw [h] at hv; exact absurd hv (by unfold undef; simp)
  | some x =>
    rw [h] at hv
    have hx : x = .bool want := hv
    subst hx
    simp only [Option.bind_some, h]
    simp
theorem wpOp_valW {i : Nat} {o : Oper} {v : Value} {a : Act} {w w' : World} {K : Act → World → Prop} (hi : ops[i]? = some o) (hw : Region.wanted o (yielded ops a.tmps) = true) (hr : (execOp a.eval o).run P w = .ok (.value v) w') (h : K (a.put o.dst v) w') : wpOp P ops Q i K a w := by
  unfold wpOp
  simp only [hi, hw, if_true, Oper.wp, hr, Oper.upon]
  exact .inl h
theorem wpOp_enterW {i : Nat} {o : Oper} {f : FuncId} {args : Array Value} {a : Act} {w : World} {K : Act → World → Prop} (hi : ops[i]? = some o) (hw : Region.wanted o (yielded ops a.tmps) = true) (hr : (execOp a.eval o).run P w = .ok (.enter f args) w)
    (h : Calls P f args w fun e w' => ∃ v, e = .returned v ∧ K (a.put o.dst v) w') : wpOp P ops Q i K a w := by
  unfold wpOp
  simp only [hi, hw, if_true, Oper.wp, hr, Oper.upon]
  refine .inl (h.mono ?_)
  rintro e w' ⟨v, rfl, hK⟩
  exact hK
end
end Go.Proofs.YtcbggkdginfakaaGreatDoor
