/- What a vector is answered, told once for both; the frames that the law of Vector needs. -/
import Derived.Test.YtifaepkeoffcfaaVCopy
import Derived.Test.YtifaepkeoffcfaaVAlike
import Derived.Test.YtifaepkeoffcfaaVOpen
namespace Go.Proofs.Ytifaepkeoffcfaa
open Go.RowKit Go.Sort
set_option linter.unusedVariables false
set_option linter.unusedSimpArgs false
def VAns (E : List El) (code : Int) (D : List (List Lb × Nat)) : Prop := (code = 5 ∧ D = [] ∧ VNo E) ∨ (code = 0 ∧ ∃ R : List El, D = R.map El.d ∧ VOK E R)
theorem mem_data {E E' : List El} (e : E.map El.d = E'.map El.d) {x : El} (hx : x ∈ E') : ∃ y ∈ E, y.l = x.l := by
  have : x.d ∈ E.map El.d := by rw [e]; exact List.mem_map_of_mem hx
  obtain ⟨y, hy, hd⟩ := List.mem_map.1 this
  exact ⟨y, hy, congrArg Prod.fst hd⟩
theorem VOK.data {E E' R : List El} (h : VOK E R) (e : E.map El.d = E'.map El.d) : VOK E' R :=
  ⟨by rw [← e]; exact h.p, h.s, fun x hx => by
    obtain ⟨y, hy, e1⟩ := mem_data e hx
    rw [← e1]; exact h.v y hy⟩
theorem VAns.data {E E' : List El} {c : Int} {D : List (List Lb × Nat)} (h : VAns E c D) (e : E.map El.d = E'.map El.d) : VAns E' c D := by
  rcases h with ⟨rfl, rfl, hn⟩ | ⟨rfl, R, rfl, hr⟩
  · exact .inl ⟨rfl, rfl, fun R hR => hn R (hR.data e.symm)⟩
  · exact .inr ⟨rfl, R, rfl, hr.data e⟩
theorem VAns.ext {E : List El} {c c' : Int} {D D' : List (List Lb × Nat)} (h : VAns E c D) (h' : VAns E c' D') : c = c' ∧ D = D' := by
  rcases h with ⟨rfl, rfl, hn⟩ | ⟨rfl, R, rfl, hr⟩ <;> rcases h' with ⟨rfl, rfl, hn'⟩ | ⟨rfl, R', rfl, hr'⟩
  · exact ⟨rfl, rfl⟩
  · exact absurd hr' (hn R')
  · exact absurd hr (hn' R)
  · exact ⟨rfl, VOK.ext hr hr'⟩
theorem VAns.mem {E R : List El} {c : Int} (h : VAns E c (R.map El.d)) {x : El} (hx : x ∈ R) : ∃ y ∈ E, y.l = x.l := by
  rcases h with ⟨_, h0, _⟩ | ⟨_, R0, h0, hr⟩
  · rw [List.map_eq_nil_iff] at h0; subst h0; cases hx
  · have h1 : x.d ∈ E.map El.d := hr.p.mem_iff.1 (by rw [← h0]; exact List.mem_map_of_mem hx)
    obtain ⟨y, hy, hd⟩ := List.mem_map.1 h1
    exact ⟨y, hy, congrArg Prod.fst hd⟩
theorem VAns.len {E R : List El} {c : Int} (h : VAns E c (R.map El.d)) : R.length ≤ E.length := by
  rcases h with ⟨_, h0, _⟩ | ⟨_, R0, h0, hr⟩
  · rw [List.map_eq_nil_iff] at h0; subst h0; exact Nat.zero_le _
  · have := hr.p.length_eq
    rw [← h0, List.length_map, List.length_map] at this
    omega
theorem VAns.sz {E R : List El} {c : Int} (h : VAns E c (R.map El.d)) (hS : SzE E) : SzE R := fun x hx => by
  obtain ⟨y, hy, e⟩ := h.mem hx
  rw [← e]; exact hS y hy
theorem vecU_any (n : Nat) (A : Option Addr) (c : Nat) (E : List El) (w : World) (hV : IsV w (.slice A n c) n E) (hn : n ≤ 1099511627776) (hS : SzE E) :
    Calls Try.prog 26 #[.slice A n c] w fun e w' => ∃ A' m c' R code, e = .returned (.tuple #[.slice A' m c', .int .i64 code]) ∧ VAns E code (R.map El.d) ∧ w'.ownsRow w.heap.size 50 2 (.slice A' m c') m (cellsE R) ∧ LinE w' w.heap.size 26 R ∧ Below w.heap.size w w' := by
  refine (vec_any n A c E w hV hn hS).mono ?_
  rintro e w' ⟨hb, ⟨rfl, hno⟩ | ⟨v', R, rfl, ho, hl, hok⟩⟩
  · exact ⟨none, 0, 0, [], 5, rfl, .inl ⟨rfl, rfl, hno⟩, World.ownsRow_nil _ _ _ _, LinE.nil _ _ _, hb⟩
  · obtain ⟨A', c', rfl⟩ := own_shape ho
    exact ⟨A', n, c', R, 0, rfl, .inr ⟨rfl, R, rfl, hok⟩, ho, hl, hb⟩
theorem refVecU_any (n : Nat) (A : Option Addr) (c : Nat) (E : List El) (w : World) (hV : IsV w (.slice A n c) n E) (hnc : n ≤ c) (hn : n ≤ 1099511627776) (hS : SzE E) :
    Calls Try.prog 27 #[.slice A n c] w fun e w' => ∃ A' m c' R code, e = .returned (.tuple #[.slice A' m c', .int .i64 code]) ∧ VAns E code (R.map El.d) ∧ IsV w' (.slice A' m c') m R ∧ Below w.heap.size w w' := by
  refine (refVector_any n A c E w hV hnc hn hS).mono ?_
  rintro e w' ⟨hb, ⟨rfl, hno⟩ | ⟨v', R, rfl, ho, hok, hp⟩⟩
  · exact ⟨none, 0, 0, [], 5, rfl, .inl ⟨rfl, rfl, hno⟩, ⟨IsL.nil 2 w' none 0, fun x hx => by cases hx⟩, hb⟩
  · obtain ⟨A', c', rfl⟩ := own_shape ho
    exact ⟨A', n, c', R, 0, rfl, .inr ⟨rfl, R, rfl, hok⟩, IsV.own ho (fun x hx => (hV.below hb).2 x (hp.mem_iff.1 hx)), hb⟩
theorem Bl.keep {B : Nat} {e t : TypeId} {w0 w : World} (h : Bl B e t w0 w) {B' : Nat} {E : TypeId} {size n : Nat} {v : Value} {xs : List Value} (ho : w0.ownsRow B' E size v n xs) (h1 : E ≠ e) (h2 : E ≠ t) : w.ownsRow B' E size v n xs := by
  refine ⟨ho.1, ?_⟩
  rcases ho.2 with hn | ⟨g, cap, cur, rfl, hB, hg, r⟩
  · exact .inl hn
  · exact .inr ⟨g, cap, cur, rfl, hB, h.o g _ hg (fun cs e1 => by injection e1 with _ e2; exact h1 e2) (fun cs e1 => by injection e1 with _ e2; exact h2 e2), r⟩
/-- the sets of two vectors, by turns -/
def pickE (Ra Rb : List El) (i : Nat) : El := if i % 2 = 0 then Ra.getD (i / 2) default else Rb.getD (i / 2) default
theorem lin2 {w : World} {B B2 : Nat} {T : TypeId} {Ra Rb : List El} (ha : LinE w B T Ra) (hb : LinE w B2 T Rb) (hlt : ∀ x ∈ Ra, ∀ g, x.sl.ownBlock = some g → g < B2) (hB : B ≤ B2) (m : Nat) (h1 : Ra.length = m) (h2 : Rb.length = m) :
    Lin w B T 2 (2 * m) (fun i => (pickE Ra Rb i).sl) (fun i => (pickE Ra Rb i).l.length) (fun i => cellsL (pickE Ra Rb i).l) := by
  have ea : ∀ i, i < 2 * m → i % 2 = 0 → i / 2 < Ra.length ∧ pickE Ra Rb i = Ra.getD (i / 2) default := fun i hi h0 => ⟨by omega, by unfold pickE; rw [if_pos h0]⟩
  have eb : ∀ i, i < 2 * m → i % 2 ≠ 0 → i / 2 < Rb.length ∧ pickE Ra Rb i = Rb.getD (i / 2) default := fun i hi h0 => ⟨by omega, by unfold pickE; rw [if_neg h0]⟩
  have hmem : ∀ (l : List El) (i : Nat), i < l.length → l.getD i default ∈ l := fun l i h => by
    have : l.getD i default = l[i] := by simp [h]
    rw [this]; exact List.getElem_mem h
  have hlb : ∀ i, i < Rb.length → ∀ g, (Rb.getD i default).sl.ownBlock = some g → B2 ≤ g := fun i hi g hg => ((hb.own i hi).lt g hg).1
  constructor
  · intro i hi
    by_cases h0 : i % 2 = 0
    · obtain ⟨q1, q2⟩ := ea i hi h0
      simp only [q2]
      exact ha.own _ q1
    · obtain ⟨q1, q2⟩ := eb i hi h0
      simp only [q2]
      exact own_mono (hb.own _ q1) hB
  · intro i j hi hj hij
    by_cases h0 : i % 2 = 0
    · obtain ⟨q1, q2⟩ := ea i hi h0
      by_cases h3 : j % 2 = 0
      · obtain ⟨q3, q4⟩ := ea j hj h3
        simp only [q2, q4]
        exact ha.dist _ _ q1 q3 (by omega)
      · obtain ⟨q3, q4⟩ := eb j hj h3
        simp only [q2, q4]
        cases hg : (Ra.getD (i / 2) default).sl.ownBlock with
        | none => exact .inl rfl
        | some g =>
          refine .inr fun e => ?_
          have r1 := hlt _ (hmem Ra _ q1) g hg
          have r2 := hlb _ q3 g e.symm
          omega
    · obtain ⟨q1, q2⟩ := eb i hi h0
      by_cases h3 : j % 2 = 0
      · obtain ⟨q3, q4⟩ := ea j hj h3
        simp only [q2, q4]
        cases hg : (Rb.getD (i / 2) default).sl.ownBlock with
        | none => exact .inl rfl
        | some g =>
          refine .inr fun e => ?_
          have r1 := hlt _ (hmem Ra _ q3) g e.symm
          have r2 := hlb _ q1 g hg
          omega
      · obtain ⟨q3, q4⟩ := eb j hj h3
        simp only [q2, q4]
        exact hb.dist _ _ q1 q3 (by omega)
theorem pick_snoc {Ra Rb : List El} {i : Nat} (h1 : i < Ra.length) (h2 : i < Rb.length) : (List.range (2 * i)).map (fun j => (pickE Ra Rb j).sl) ++ [Ra[i].sl, Rb[i].sl] = (List.range (2 * (i + 1))).map (fun j => (pickE Ra Rb j).sl) := by
  rw [show 2 * (i + 1) = 2 * i + 1 + 1 by omega, List.range_succ, List.range_succ, List.map_append, List.map_append, List.append_assoc]
  congr 1
  have e1 : pickE Ra Rb (2 * i) = Ra[i] := by unfold pickE; rw [if_pos (by omega), show 2 * i / 2 = i by omega]; simp [h1]
  have e2 : pickE Ra Rb (2 * i + 1) = Rb[i] := by unfold pickE; rw [if_neg (by omega), show (2 * i + 1) / 2 = i by omega]; simp [h2]
  simp [e1, e2]
/-- what is older than B, or has come from H on, stays -/
structure Kp (B H : Nat) (w w' : World) : Prop where
  b : Below B w w'
  c : ∀ k, H ≤ k → k < w.heap.size → w'.heap[k]? = w.heap[k]?
theorem Kp.refl (B H : Nat) (w : World) : Kp B H w w := ⟨Below.refl _ _, fun _ _ _ => rfl⟩
theorem Kp.step {B H g : Nat} {w a a' : World} (h : Kp B H w a) (hg : a.grownBy a' (some g)) (h1 : B ≤ g) (h2 : g < H) (h3 : B ≤ w.heap.size) : Kp B H w a' :=
  ⟨h.b.grown hg (Nat.le_trans h3 h.b.size) (fun q hq => by have : g = q := Option.some.inj hq; omega), fun k hk hlt => (hg.block k (Nat.lt_of_lt_of_le hlt h.b.size) (fun e => by have : k = g := Option.some.inj e; omega)).trans (h.c k hk hlt)⟩
theorem Kp.own {B H B' : Nat} {w w' : World} (h : Kp B H w w') {E : TypeId} {size n : Nat} {v : Value} {xs : List Value} (ho : w.ownsRow B' E size v n xs) (hH : H ≤ B') : w'.ownsRow B' E size v n xs := by
  refine ⟨ho.1, ?_⟩
  rcases ho.2 with hn | ⟨g, cap, cur, rfl, hB, hg, r⟩
  · exact .inl hn
  · exact .inr ⟨g, cap, cur, rfl, hB, (h.c g (by omega) (Array.getElem?_eq_some_iff.1 hg).1).trans hg, r⟩
theorem Kp.linE {B H B' : Nat} {w w' : World} (h : Kp B H w w') {T : TypeId} {R : List El} (hl : LinE w B' T R) (hH : H ≤ B') : LinE w' B' T R := ⟨fun i hi => h.own (hl.own i hi) hH, hl.dist⟩
theorem cellsE_same : ∀ (P : List El) (i : Nat) (hi : i < P.length) (y : El), y.sl = P[i].sl → y.f = P[i].f → cellsE (P.set i y) = cellsE P
  | x :: P, 0, _, y, h1, h2 => by
    simp only [List.getElem_cons_zero] at h1 h2
    rw [List.set_cons_zero, cellsE_cons, cellsE_cons, h1, h2]
  | x :: P, i + 1, hi, y, h1, h2 => by
    rw [List.set_cons_succ, cellsE_cons, cellsE_cons, cellsE_same P i (by simpa using hi) y (by simpa using h1) (by simpa using h2)]
theorem cellsE_setF : ∀ (P : List El) (i : Nat) (hi : i < P.length) (f : Nat), (cellsE P).set (i * 2 + 1) (.float .f64 f) = cellsE (P.set i { P[i] with f := f })
  | x :: P, 0, _, f => by
    rw [List.set_cons_zero, cellsE_cons, cellsE_cons]; rfl
  | x :: P, i + 1, hi, f => by
    rw [List.set_cons_succ, cellsE_cons, cellsE_cons, show (i + 1) * 2 + 1 = i * 2 + 1 + 1 + 1 by omega, List.set_cons_succ, List.set_cons_succ, cellsE_setF P i (by simpa using hi) f]
    rfl
theorem LinE.put {w w' : World} {B : Nat} {T : TypeId} {P : List El} (h : LinE w B T P) {i : Nat} (hi : i < P.length) {M : List Lb} (hM : M.length = P[i].l.length)
    (ho : w'.ownsRow B T 2 P[i].sl P[i].l.length (cellsL M)) (hg : w.grownBy w' P[i].sl.ownBlock) : LinE w' B T (P.set i { P[i] with l := M }) := by
  have e : P.getD i default = P[i] := by simp [hi]
  have h2 : Lin w' B T 2 P.length _ _ _ := Lin.step h (i := i) (v' := P[i].sl) (c1 := P[i].l.length) (Z1 := cellsL M) ho (by rw [e]; exact hg) (.inl (by rw [e])) hi
  unfold LinE
  rw [List.length_set]
  refine Lin.congr h2 fun j hj => ?_
  unfold upd
  by_cases ej : j = i
  · subst ej
    simp [hi, El.sl, hM]
  · simp [ej, List.getElem?_set, Ne.symm ej]
theorem LinE.fset {w : World} {B : Nat} {T : TypeId} {P : List El} (h : LinE w B T P) {i : Nat} (hi : i < P.length) (f : Nat) : LinE w B T (P.set i { P[i] with f := f }) := by
  unfold LinE at *
  rw [List.length_set]
  refine Lin.congr h fun j hj => ?_
  by_cases ej : j = i
  · subst ej
    simp [hi, El.sl]
  · have : (P.set i { P[i] with f := f }).getD j default = P.getD j default := by
      simp [List.getElem?_set, Ne.symm ej]
    rw [this]; exact ⟨rfl, rfl, rfl⟩
theorem LinE.put_at {w : World} {B : Nat} {T : TypeId} {P : List El} {i : Nat} (hi : i < P.length) {M : List Lb} (h : LinE w B T (P.set i { P[i] with l := M })) (hM : M.length = P[i].l.length) :
    w.ownsRow B T 2 P[i].sl P[i].l.length (cellsL M) := by
  have h1 := h.own i (by rw [List.length_set]; exact hi)
  simpa [hi, El.sl, hM] using h1
theorem LinE.put2 {w w' : World} {B : Nat} {T : TypeId} {P : List El} {i : Nat} (hi : i < P.length) {M M' : List Lb} (h : LinE w B T (P.set i { P[i] with l := M })) (hM : M.length = P[i].l.length) (hM' : M'.length = P[i].l.length)
    (ho : w'.ownsRow B T 2 P[i].sl P[i].l.length (cellsL M')) (hg : w.grownBy w' P[i].sl.ownBlock) : LinE w' B T (P.set i { P[i] with l := M' }) := by
  have hi2 : i < (P.set i { P[i] with l := M }).length := by rw [List.length_set]; exact hi
  have e : (P.set i { P[i] with l := M })[i]'hi2 = { P[i] with l := M } := by simp
  have es : ({ P[i] with l := M } : El).sl = P[i].sl := by simp [El.sl, hM]
  have h2 := LinE.put h hi2 (M := M') (by rw [e]; exact hM'.trans hM.symm) (by rw [e, es]; exact hM ▸ ho) (by rw [e, es]; exact hg)
  rw [List.set_set] at h2
  simp only [List.getElem_set_self] at h2
  exact h2
theorem El.put_sl (x : El) (M : List Lb) (h : M.length = x.l.length) : ({ x with l := M } : El).sl = x.sl := by simp [El.sl, h]
end Go.Proofs.Ytifaepkeoffcfaa
