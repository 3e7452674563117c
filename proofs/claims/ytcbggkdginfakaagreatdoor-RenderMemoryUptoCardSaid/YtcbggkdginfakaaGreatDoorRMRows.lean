/- RenderMemory: eight rows of bytes told by an array, each in memory of its own. No function of the program in sight. -/
import Derived.Test.YtcbggkdginfakaaGreatDoorRPt
namespace Go.Proofs.YtcbggkdginfakaaGreatDoor
open Go.RowKit
set_option linter.unusedVariables false
set_option linter.unusedSimpArgs false
namespace RM
abbrev Rw := Value × List UInt8
def vals (P : List Rw) : List Value := P.map (·.1) ++ List.replicate (8 - P.length) (.slice none 0 0)
theorem vals_len (P : List Rw) (h : P.length ≤ 8) : (vals P).length = 8 := by unfold vals; rw [List.length_append, List.length_map, List.length_replicate]; omega
theorem vals_get (P : List Rw) (h : P.length ≤ 8) (i : Nat) (hi : i < P.length) : (vals P)[i]'(by rw [vals_len P h]; omega) = (P[i]'hi).1 := by
  unfold vals
  rw [List.getElem_append_left (by rw [List.length_map]; exact hi), List.getElem_map]
theorem vals_push (P : List Rw) (h : P.length < 8) (v : Value) (X : List UInt8) : (vals P).set P.length v = vals (P ++ [(v, X)]) := by
  unfold vals
  have e : 8 - P.length = (8 - (P.length + 1)) + 1 := by omega
  rw [List.set_append_right _ _ (by rw [List.length_map]; exact Nat.le_refl _), List.length_map, Nat.sub_self, e, List.replicate_succ, List.set_cons_zero, List.map_append, List.length_append, List.append_assoc]
  rfl
theorem vals_set (P : List Rw) (i : Nat) (hi : i < P.length) (X : List UInt8) : vals (P.set i ((P[i]'hi).1, X)) = vals P := by
  unfold vals
  rw [List.map_set, List.length_set]
  congr 1
  apply List.ext_getElem
  · simp
  · intro k h1 h2
    rw [List.getElem_set]
    split
    · rename_i h; subst h; simp
    · rfl
theorem cellsB_set (l : List UInt8) (j : Nat) (x : UInt8) : cellsB (l.set j x) = (cellsB l).set j (.int .u8 (x.toNat : Int)) := by
  unfold cellsB; rw [List.map_set]
/-- rows beside each other, told by the cells of the array g; what is older than the array is as it was -/
structure Rows (w0 w : World) (g : Nat) (P : List Rw) : Prop where
  le : P.length ≤ 8
  a : Bk w g 43 (vals P)
  own : ∀ (i : Nat) (h : i < P.length), w.ownsRow (g + 1) 5 1 (P[i]'h).1 (P[i]'h).2.length (cellsB (P[i]'h).2)
  dist : ∀ (i j : Nat) (hi : i < P.length) (hj : j < P.length), i ≠ j → (P[i]'hi).1.ownBlock = none ∨ (P[i]'hi).1.ownBlock ≠ (P[j]'hj).1.ownBlock
  b : Below g w0 w
  sm : ∀ (i : Nat) (h : i < P.length), (P[i]'h).2.length ≤ 70368744177664
variable {w0 w w' : World} {g : Nat} {P : List Rw}
theorem Rows.below (R : Rows w0 w g P) (hb : Below w.heap.size w w') : Rows w0 w' g P :=
  ⟨R.le, R.a.below hb, fun i h => own_below (R.own i h) hb, R.dist, R.b.trans (hb.mono (Nat.le_of_lt R.a.lt)), R.sm⟩
theorem Rows.cell (R : Rows w0 w g P) (i : Nat) (hi : i < P.length) : w.cell? ⟨g, i, none⟩ = some (P[i]'hi).1 := by
  have h := R.a.cell i (by rw [vals_len P R.le]; have := R.le; omega)
  rw [vals_get P R.le i hi] at h
  exact h
theorem Rows.push (R : Rows w0 w g P) (h8 : P.length < 8) {X : List UInt8} (hX : X.length ≤ 70368744177664) (hb : Below w.heap.size w w') {v : Value} {m : Nat} (ho : w'.ownsRow w.heap.size 5 1 v m (cellsB X)) :
    Rows w0 (w'.setCell ⟨g, P.length, none⟩ v) g (P ++ [(v, X)]) := by
  have R' := R.below hb
  have hm : m = X.length := by have := ho.1; rw [cellsB_len] at this; omega
  subst hm
  have hgl := R.a.lt
  have hlen : (P ++ [(v, X)]).length = P.length + 1 := by rw [List.length_append]; rfl
  have key : ∀ {B : Nat} {x : Value} {k : Nat} {xs : List Value}, g + 1 ≤ B → w'.ownsRow B 5 1 x k xs → (w'.setCell ⟨g, P.length, none⟩ v).ownsRow B 5 1 x k xs := fun hB h => ownsRow_setCell_below h (a := ⟨g, P.length, none⟩) (Nat.lt_of_lt_of_le (Nat.lt_succ_self g) hB) _
  refine ⟨by omega, ?_, fun i hi => ?_, fun i j hi hj hne => ?_, R'.b.setCell (Nat.le_refl g) _, fun i hi => ?_⟩
  · have h := R'.a.set P.length v
    rw [vals_push P h8 v X] at h
    exact h
  · by_cases hip : i < P.length
    · simp only [List.getElem_append_left hip]
      exact key (Nat.le_refl _) (R'.own i hip)
    · obtain rfl : i = P.length := by omega
      simp only [List.getElem_append_right (Nat.le_refl _), Nat.sub_self, List.getElem_cons_zero]
      exact own_mono (key (by omega) ho) (by omega)
  · have hfresh : ∀ (k : Nat) (hk : k < P.length), v.ownBlock = none ∨ v.ownBlock ≠ (P[k]'hk).1.ownBlock := fun k hk => by
      cases hv : v.ownBlock with
      | none => exact .inl rfl
      | some q =>
        refine .inr fun he => ?_
        have h1 := (ho.lt q hv).1
        have h2 := ((R.own k hk).lt q he.symm).2
        omega
    by_cases hip : i < P.length
    · by_cases hjp : j < P.length
      · simp only [List.getElem_append_left hip, List.getElem_append_left hjp]
        exact R.dist i j hip hjp hne
      · obtain rfl : j = P.length := by omega
        simp only [List.getElem_append_left hip, List.getElem_append_right (Nat.le_refl _), Nat.sub_self, List.getElem_cons_zero]
        rcases hfresh i hip with h | h
        · cases hx : (P[i]'hip).1.ownBlock with
          | none => exact .inl rfl
          | some q => exact .inr (by rw [h]; simp)
        · exact .inr (Ne.symm h)
    · obtain rfl : i = P.length := by omega
      have hjp : j < P.length := by omega
      simp only [List.getElem_append_left hjp, List.getElem_append_right (Nat.le_refl _), Nat.sub_self, List.getElem_cons_zero]
      exact hfresh j hjp
  · by_cases hip : i < P.length
    · simp only [List.getElem_append_left hip]
      exact R.sm i hip
    · obtain rfl : i = P.length := by omega
      simp only [List.getElem_append_right (Nat.le_refl _), Nat.sub_self, List.getElem_cons_zero]
      exact hX
theorem vals_next (P : List Rw) (h : P.length < 8) : (vals P)[P.length]'(by rw [vals_len P (Nat.le_of_lt h)]; exact h) = .slice none 0 0 := by
  unfold vals
  rw [List.getElem_append_right (by rw [List.length_map]; exact Nat.le_refl _)]
  simp
theorem Rows.next (R : Rows w0 w g P) (k : Nat) (hk : P.length = k) (h8 : k < 8) : w.cell? ⟨g, k, none⟩ = some (.slice none 0 0) ∧ w.frozen? ⟨g, k, none⟩ = false := by
  subst hk
  refine ⟨?_, R.a.frozen _⟩
  rw [R.a.cell P.length (by rw [vals_len P R.le]; exact h8), vals_next P h8]
theorem Rows.pushAt (R : Rows w0 w g P) (k : Nat) (hk : P.length = k) (h8 : k < 8) {X : List UInt8} (hX : X.length ≤ 70368744177664) (hb : Below w.heap.size w w') {v : Value} {m : Nat} (ho : w'.ownsRow w.heap.size 5 1 v m (cellsB X)) :
    Rows w0 (w'.setCell ⟨g, k, none⟩ v) g (P ++ [(v, X)]) := by subst hk; exact R.push h8 hX hb ho
theorem Rows.start (w : World) (hb : Below w.heap.size w w') (ha : Bk w' w.heap.size 43 (List.replicate 8 (.slice none 0 0))) : Rows w w' w.heap.size [] :=
  ⟨by decide, ha, fun i h => absurd h (by simp), fun i j h => absurd h (by simp), hb, fun i h => absurd h (by simp)⟩
theorem Rows.kept (R : Rows w0 w g P) {o : Option Nat} (hg : w.grownBy w' o) (ho : ∀ q, o = some q → g + 1 ≤ q) (hk : ∀ (i : Nat) (h : i < P.length), w'.ownsRow (g + 1) 5 1 (P[i]'h).1 (P[i]'h).2.length (cellsB (P[i]'h).2)) : Rows w0 w' g P := by
  refine ⟨R.le, ?_, hk, R.dist, R.b.grown hg (Nat.le_of_lt R.a.lt) (fun q hq => Nat.le_of_succ_le (ho q hq)), R.sm⟩
  exact (hg.block g R.a.lt (fun e => by have := ho g e.symm; omega)).trans R.a
/-- a byte of row i is written over -/
theorem Rows.put (R : Rows w0 w g P) (i : Nat) (hi : i < P.length) {b n c : Nat} (hv : (P[i]'hi).1 = .slice (some ⟨b, 0, none⟩) n c) (j : Nat) (x : UInt8) :
    Rows w0 (w.setCell ⟨b, j, none⟩ (.int .u8 (x.toNat : Int))) g (P.set i ((P[i]'hi).1, (P[i]'hi).2.set j x)) := by
  have ho := R.own i hi
  rw [hv] at ho
  obtain ⟨_, _, hsh⟩ := own_shape ho
  have hn : n = (P[i]'hi).2.length := by injection hsh
  subst hn
  have hs := ho.stored j (.int .u8 (x.toNat : Int))
  have hblk : (P[i]'hi).1.ownBlock = some b := by rw [hv]; rfl
  refine ⟨by rw [List.length_set]; exact R.le, ?_, fun k hk => ?_, fun k l hk hl hne => ?_, R.b.grown hs.2 (Nat.le_of_lt R.a.lt) (fun q hq => by
      have : b = q := by simpa using hq
      subst this
      exact Nat.le_of_succ_le (ho.lt b rfl).1), fun k hk => ?_⟩
  · rw [vals_set]
    exact (hs.2.block g R.a.lt (fun e => by
      have : b = g := by simpa using e.symm
      have := (ho.lt b rfl).1
      omega)).trans R.a
  · have hk' : k < P.length := by rw [List.length_set] at hk; exact hk
    rw [List.getElem_set]
    split
    · rename_i h; subst h
      show World.ownsRow _ _ _ _ (P[i]'hi).1 _ _
      rw [hv, List.length_set, RM.cellsB_set]
      exact hs.1
    · rename_i h
      refine (R.own k hk').kept hs.2 ?_
      rw [← hblk]
      exact R.dist k i hk' hi (fun e => h e.symm)
  · have hk' : k < P.length := by rw [List.length_set] at hk; exact hk
    have hl' : l < P.length := by rw [List.length_set] at hl; exact hl
    have e : ∀ (a : Nat) (ha : a < (P.set i ((P[i]'hi).1, (P[i]'hi).2.set j x)).length) (ha' : a < P.length), ((P.set i ((P[i]'hi).1, (P[i]'hi).2.set j x))[a]'ha).1 = (P[a]'ha').1 := fun a ha ha' => by
      rw [List.getElem_set]
      split
      · rename_i h; subst h; rfl
      · rfl
    rw [e k hk hk', e l hl hl']
    exact R.dist k l hk' hl' hne
  · have hk' : k < P.length := by rw [List.length_set] at hk; exact hk
    rw [List.getElem_set]
    split
    · show (List.set _ _ _).length ≤ _
      rw [List.length_set]; exact R.sm i hi
    · exact R.sm k hk'
/-- a row that began as row i's and goes on behind its end -/
structure View (w : World) (g : Nat) (P : List Rw) (i : Nat) (x : Value) (m : Nat) (xs : List Value) : Prop where
  o : w.ownsRow (g + 1) 5 1 x m xs
  len : ∀ h : i < P.length, (P[i]'h).2.length ≤ m
  far : ∀ (j : Nat) (h : j < P.length), j ≠ i → x.ownBlock = none ∨ x.ownBlock ≠ (P[j]'h).1.ownBlock
theorem Rows.view (R : Rows w0 w g P) (i : Nat) (hi : i < P.length) : View w g P i (P[i]'hi).1 (P[i]'hi).2.length (cellsB (P[i]'hi).2) :=
  ⟨R.own i hi, fun _ => Nat.le_refl _, fun j h hne => R.dist i j hi h (Ne.symm hne)⟩
theorem View.below {i : Nat} {x : Value} {m : Nat} {xs : List Value} (V : View w g P i x m xs) (hb : Below w.heap.size w w') : View w' g P i x m xs := ⟨own_below V.o hb, V.len, V.far⟩
/-- an append to such a row changes none of the rows -/
theorem Rows.app (R : Rows w0 w g P) {i : Nat} {x v' : Value} {m m' : Nat} {xs xs' : List Value} (V : View w g P i x m xs) (h1 : w'.ownsRow (g + 1) 5 1 v' m' xs') (hm : m ≤ m') (h2 : w.grownBy w' x.ownBlock)
    (h3 : KeepAt w w' 5 (m * 1) x.ownBlock) (h4 : v'.ownBlock = x.ownBlock ∨ v'.ownBlock = some w.heap.size) : Rows w0 w' g P ∧ View w' g P i v' m' xs' := by
  refine ⟨R.kept h2 (fun q hq => (V.o.lt q hq).1) (fun k hk => ?_), h1, fun h => Nat.le_trans (V.len h) hm, fun j hj hne => ?_⟩
  · by_cases he : (P[k]'hk).1.ownBlock = x.ownBlock
    · by_cases hki : k = i
      · subst hki; exact own_keepAt (R.own k hk) h3 he (V.len hk)
      · rcases V.far k hk hki with h | h
        · exact (R.own k hk).kept h2 (.inl (he.trans h))
        · exact absurd he.symm h
    · exact (R.own k hk).kept h2 (.inr he)
  · rcases h4 with h | h
    · rw [h]; exact V.far j hj hne
    · rw [h]
      refine .inr fun he => ?_
      have := ((R.own j hj).lt _ he.symm).2
      omega
/-- the rows ahead of i are filled with their own numbers' digits -/
def Fl (P : List Rw) (i : Nat) : Prop := P.length = 8 ∧ ∀ (k : Nat) (hk : k < P.length), k < i → ∀ b ∈ (P[k]'hk).2, b = UInt8.ofNat (48 + k)
/-- and row i as far as j -/
structure Fi (P : List Rw) (i j : Nat) (v : Value) (N : Nat) : Prop where
  f : Fl P i
  h : i < P.length
  v : (P[i]'h).1 = v
  n : (P[i]'h).2.length = N
  d : ∀ (m : Nat) (hm : m < (P[i]'h).2.length), m < j → ((P[i]'h).2[m]'hm) = UInt8.ofNat (48 + i)
theorem Fl.start (P : List Rw) (h : P.length = 8) : Fl P 0 := ⟨h, fun k _ hk => absurd hk (Nat.not_lt_zero k)⟩
theorem Fi.start {P : List Rw} {i : Nat} (f : Fl P i) (h : i < P.length) : Fi P i 0 (P[i]'h).1 (P[i]'h).2.length := ⟨f, h, rfl, rfl, fun m _ hm => absurd hm (Nat.not_lt_zero m)⟩
theorem Fi.done {P : List Rw} {i N : Nat} {v : Value} (F : Fi P i N v N) : Fl P (i + 1) := by
  refine ⟨F.f.1, fun k hk hki b hb => ?_⟩
  by_cases h : k < i
  · exact F.f.2 k hk h b hb
  · obtain rfl : k = i := by omega
    obtain ⟨m, hm, rfl⟩ := List.mem_iff_getElem.1 hb
    exact F.d m hm (by have := F.n; omega)
theorem Fi.step {P : List Rw} {i j N : Nat} {v : Value} (F : Fi P i j v N) (hj : j < N) : Fi (P.set i ((P[i]'F.h).1, (P[i]'F.h).2.set j (UInt8.ofNat (48 + i)))) i (j + 1) v N := by
  have hl : (P.set i ((P[i]'F.h).1, (P[i]'F.h).2.set j (UInt8.ofNat (48 + i)))).length = P.length := List.length_set
  have e : (P.set i ((P[i]'F.h).1, (P[i]'F.h).2.set j (UInt8.ofNat (48 + i))))[i]'(by rw [hl]; exact F.h) = ((P[i]'F.h).1, (P[i]'F.h).2.set j (UInt8.ofNat (48 + i))) := by simp
  refine ⟨⟨hl.trans F.f.1, fun k hk hki b hb => ?_⟩, by rw [hl]; exact F.h, by rw [e]; exact F.v, by rw [e]; show (List.set _ _ _).length = N; rw [List.length_set]; exact F.n, fun m hm hmj => ?_⟩
  · rw [List.getElem_set_ne (by omega)] at hb
    exact F.f.2 k (by rw [hl] at hk; exact hk) hki b hb
  · have e2 := congrArg Prod.snd e
    have hm2 : m < ((P[i]'F.h).2.set j (UInt8.ofNat (48 + i))).length := by have := hm; rw [e2] at this; exact this
    rw [List.getElem_of_eq e2 hm]
    show ((P[i]'F.h).2.set j (UInt8.ofNat (48 + i)))[m]'hm2 = _
    rw [List.getElem_set]
    split
    · rfl
    · exact F.d m (by rw [List.length_set] at hm2; exact hm2) (by omega)
theorem own_max {w : World} {B : Nat} {e : TypeId} {v : Value} {m : Nat} {xs : List Value} (h : w.ownsRow B e 1 v m xs) : m ≤ maxLen := by
  rcases h.2 with ⟨_, h2⟩ | ⟨g, cap, cur, _, _, _, h1, h2, _⟩
  · omega
  · omega
theorem own_block {w : World} {B : Nat} {e : TypeId} {A : Option Addr} {n c m : Nat} {xs : List Value} (h : w.ownsRow B e 1 (.slice A n c) m xs) (h0 : 0 < m) : ∃ b, A = some ⟨b, 0, none⟩ := by
  rcases h.2 with ⟨_, h2⟩ | ⟨g, cap, cur, h1, _⟩
  · omega
  · injection h1 with h1; exact ⟨g, h1⟩
end RM
end Go.Proofs.YtcbggkdginfakaaGreatDoor
