/- internal/strconv.atof64 and strconv.ParseFloat over a decimal lexeme of which nothing is cut off. What a decimal lexeme is worth; what the library cuts off of it. No function of the program in sight. A text that is one decimal lexeme by its length is one for readFloat. No function of the program in sight. -/
import Derived.Test.YteckfdohgiddgaaGreatDoorPPar
import Derived.Test.YteckfdohgiddgaaGreatDoorPRf
import Derived.Shelf.Strconv.RangeError
namespace Go.Proofs
open Go.Shelf
-- left out: strconv.rangeError
namespace YteckfdohgiddgaaGreatDoor
open Go.RowKit
set_option linter.unusedVariables false
set_option linter.unusedSimpArgs false
namespace FS
theorem facX : Z 1033 ≤ X 311 ∧ 18446744073709551616 * Z 1075 < X 346 := by decide +kernel
theorem rnd_inf {n d : Nat} (hd : 0 < d) (h : X 311 * d ≤ n) : Rnd n d INF := by
  refine ⟨Nat.le_refl _, .inr (.inl ?_), .inl rfl⟩
  have e : hf (INF - 1) = 18014398509481983 * Z 2045 := by
    obtain ⟨q, hq⟩ : ∃ q : Nat, q = 2045 := ⟨_, rfl⟩
    rw [← hq, hf_at (K := q) (k := 9007199254740991) (by unfold INF; omega) (by decide) (.inr (by decide)) (by omega)]
  have e2 : 18014398509481984 * Z 2045 ≤ Z 1033 * Z 1075 := by
    rw [show (18014398509481984 : Nat) = Z 54 from rfl, Z_mul, Z_mul]
    exact Z_mono' (by decide)
  have hz := Z_pos 2045
  have h1 : Z 1033 * d * Z 1075 ≤ n * Z 1075 := Nat.mul_le_mul_right _ (Nat.le_trans (Nat.mul_le_mul_right _ facX.1) h)
  have h2 : 18014398509481984 * Z 2045 * d ≤ Z 1033 * Z 1075 * d := Nat.mul_le_mul_right _ e2
  have h3 : hf (INF - 1) * d < 18014398509481984 * Z 2045 * d := by
    rw [e]; exact Nat.mul_lt_mul_of_pos_right (Nat.mul_lt_mul_of_pos_right (by decide) hz) hd
  rw [Nat.mul_right_comm] at h1
  omega
theorem rnd_nil {n d : Nat} (h : n * Z 1075 < d) : Rnd n d 0 := by
  refine ⟨by decide, .inl rfl, .inr (.inl ?_)⟩
  rw [hf_low (by decide)]
  omega
theorem X_mono {a b : Nat} (h : a ≤ b) : X a ≤ X b := Nat.pow_le_pow_right (by decide) h
theorem big_rnd {m : Nat} {p : Int} (hm : 0 < m) (hp : 310 < p) : Rnd (vN m p) (vD p) INF := by
  have e : vD p = 1 := by unfold vD; rw [show (-p).toNat = 0 by omega]; rfl
  rw [e]
  apply rnd_inf (by decide)
  unfold vN
  rw [Nat.mul_one]
  exact Nat.le_trans (X_mono (by omega)) (Nat.le_mul_of_pos_left _ hm)
end FS
end YteckfdohgiddgaaGreatDoor
end Go.Proofs
namespace Go.Proofs.YteckfdohgiddgaaGreatDoor
set_option linter.unusedVariables false
namespace PF
/-- the digits read, how many behind the point, the point read -/
structure LS where
  D : Nat
  b : Nat
  pt : Bool
def ls0 : LS := ⟨0, 0, false⟩
def mst (Q : LS) (c : Nat) : LS := if c = 46 then { Q with pt := true } else ⟨Q.D * 10 + (c - 48), if Q.pt then Q.b + 1 else Q.b, Q.pt⟩
def mf : List UInt8 → LS → LS
  | [], Q => Q
  | c :: l, Q => mf l (mst Q c.toNat)
theorem mf_app : ∀ (a b : List UInt8) (Q : LS), mf (a ++ b) Q = mf b (mf a Q)
  | [], b, Q => rfl
  | c :: a, b, Q => mf_app a b _
structure Inv (q : St) (Q : LS) : Prop where
  pt : Q.pt = q.sd
  hi : Q.D < 10 ^ q.nd
  lo : 0 < q.nd → 10 ^ (q.nd - 1) ≤ Q.D
  nm : q.nm = min q.nd 19
  m : q.m = Q.D / 10 ^ (q.nd - q.nm)
  tr : q.tr = decide (Q.D % 10 ^ (q.nd - q.nm) ≠ 0)
  d1 : q.sd = true → q.dp = (q.nd : Int) - Q.b
  d0 : q.sd = false → Q.b = 0 ∧ (q.nd = 0 → True)
theorem Inv.start : Inv st0 ls0 := ⟨rfl, by decide, fun h => absurd h (by decide), rfl, rfl, rfl, fun h => absurd h (by decide), fun _ => ⟨rfl, fun _ => trivial⟩⟩
theorem Inv.step {q q' : St} {Q : LS} {c : Nat} (I : Inv q Q) (h : step q c = some q') : Inv q' (mst Q c) ∧ (c = 46 ∨ (48 ≤ c ∧ c ≤ 57)) := by
  obtain ⟨pt, hi, lo, nm, hm, tr, d1, d0⟩ := I
  unfold PF.step at h
  unfold mst
  split at h
  · rename_i c46
    rw [if_pos c46]
    split at h
    · cases h
    · rename_i hsd
      obtain rfl := Option.some.inj h
      have hs : q.sd = false := by simpa using hsd
      exact ⟨⟨rfl, hi, lo, nm, hm, tr, fun _ => by show (q.nd : Int) = q.nd - Q.b; rw [(d0 hs).1]; simp, fun h => by cases h⟩, .inl c46⟩
  · rename_i c46
    rw [if_neg c46]
    split at h
    · rename_i hc
      refine ⟨?_, .inr hc⟩
      split at h
      · rename_i hz
        obtain rfl := Option.some.inj h
        obtain ⟨rfl, hz0⟩ := hz
        have hD : Q.D = 0 := by rw [hz0] at hi; simpa using hi
        have hD2 : Q.D * 10 + (48 - 48) = 0 := by rw [hD]
        refine ⟨pt, ?_, ?_, nm, ?_, ?_, ?_, ?_⟩
        · show Q.D * 10 + (48 - 48) < 10 ^ q.nd
          rw [hD2]; exact Nat.pow_pos (by decide)
        · intro h; have : q.nd = 0 := hz0; exact absurd h (by show ¬ 0 < q.nd; omega)
        · show q.m = (Q.D * 10 + (48 - 48)) / 10 ^ (q.nd - q.nm)
          rw [hm, hD2, hD]
        · show q.tr = decide ((Q.D * 10 + (48 - 48)) % 10 ^ (q.nd - q.nm) ≠ 0)
          rw [tr, hD2, hD]
        · intro hsd
          have := d1 hsd
          show q.dp - 1 = (q.nd : Int) - (if Q.pt then Q.b + 1 else Q.b : Nat)
          have hsd' : q.sd = true := hsd
          rw [pt, hsd', if_pos rfl]; omega
        · intro hsd
          have hsd' : q.sd = false := hsd
          refine ⟨?_, fun _ => trivial⟩
          show (if Q.pt then Q.b + 1 else Q.b) = 0
          rw [pt, hsd', if_neg (by decide)]; exact (d0 hsd').1
      · rename_i hz
        have hd1' : q.sd = true → q.dp = ((q.nd + 1 : Nat) : Int) - (if Q.pt then Q.b + 1 else Q.b : Nat) := fun hsd => by
          have := d1 hsd
          rw [pt, hsd, if_pos rfl]; omega
        have hd0' : q.sd = false → (if Q.pt then Q.b + 1 else Q.b) = 0 := fun hsd => by
          rw [pt, hsd, if_neg (by decide)]; exact (d0 hsd).1
        have hhi : Q.D * 10 + (c - 48) < 10 ^ (q.nd + 1) := by rw [Nat.pow_succ]; omega
        have hlo : 10 ^ (q.nd + 1 - 1) ≤ Q.D * 10 + (c - 48) := by
          rw [Nat.add_sub_cancel]
          rcases Nat.eq_zero_or_pos q.nd with e | e
          · rw [e]
            have : c ≠ 48 := fun h => hz ⟨h, e⟩
            have : 1 ≤ c - 48 := by omega
            simp; omega
          · have := lo e
            have e2 : 10 ^ q.nd = 10 ^ (q.nd - 1) * 10 := by rw [← Nat.pow_succ]; congr 1; omega
            omega
        split at h
        · rename_i hnm
          obtain rfl := Option.some.inj h
          have e0 : q.nd - q.nm = 0 := by omega
          have e1 : q.nd + 1 - (q.nm + 1) = 0 := by omega
          rw [e0, Nat.pow_zero, Nat.div_one] at hm
          rw [e0, Nat.pow_zero, Nat.mod_one] at tr
          refine ⟨pt, hhi, fun _ => hlo, ?_, ?_, ?_, hd1', fun h => ⟨hd0' h, fun _ => trivial⟩⟩
          · show q.nm + 1 = min (q.nd + 1) 19; omega
          · show q.m * 10 + (c - 48) = (Q.D * 10 + (c - 48)) / 10 ^ (q.nd + 1 - (q.nm + 1))
            rw [e1, Nat.pow_zero, Nat.div_one, hm]
          · show q.tr = decide ((Q.D * 10 + (c - 48)) % 10 ^ (q.nd + 1 - (q.nm + 1)) ≠ 0)
            rw [e1, Nat.pow_zero, Nat.mod_one, tr]
        · rename_i hnm
          obtain rfl := Option.some.inj h
          obtain ⟨j, hj⟩ : ∃ j, q.nd - q.nm = j := ⟨_, rfl⟩
          have e1 : q.nd + 1 - q.nm = j + 1 := by omega
          rw [hj] at hm tr
          have hp : 0 < 10 ^ j := Nat.pow_pos (by decide)
          have c9 : c - 48 < 10 := by omega
          have em : (Q.D * 10 + (c - 48)) / 10 ^ (j + 1) = Q.D / 10 ^ j := by
            rw [Nat.pow_succ, Nat.mul_comm (10 ^ j) 10, ← Nat.div_div_eq_div_mul, show (Q.D * 10 + (c - 48)) / 10 = Q.D by omega]
          have er : (Q.D * 10 + (c - 48)) % 10 ^ (j + 1) = Q.D % 10 ^ j * 10 + (c - 48) := by
            have h1 := Nat.div_add_mod (Q.D * 10 + (c - 48)) (10 ^ (j + 1))
            have h2 := Nat.div_add_mod Q.D (10 ^ j)
            rw [em] at h1
            have e3 : 10 ^ (j + 1) * (Q.D / 10 ^ j) = 10 * (10 ^ j * (Q.D / 10 ^ j)) := by rw [Nat.pow_succ, Nat.mul_comm (10 ^ j) 10, Nat.mul_assoc]
            omega
          refine ⟨pt, hhi, fun _ => hlo, ?_, ?_, ?_, hd1', fun h => ⟨hd0' h, fun _ => trivial⟩⟩
          · show q.nm = min (q.nd + 1) 19; omega
          · show q.m = (Q.D * 10 + (c - 48)) / 10 ^ (q.nd + 1 - q.nm)
            rw [e1, em, hm]
          · show (q.tr || decide (c ≠ 48)) = decide ((Q.D * 10 + (c - 48)) % 10 ^ (q.nd + 1 - q.nm) ≠ 0)
            rw [e1, er, tr, ← Bool.decide_or]
            apply decide_eq_decide.2
            omega
    · cases h
theorem loop_val : ∀ (l : List UInt8) (q : St) (Q : LS) (st : St) (r : List UInt8), loop l q = (st, r) → Inv q Q → ∃ a, l = a ++ r ∧ (∀ c ∈ a, c.toNat = 46 ∨ (48 ≤ c.toNat ∧ c.toNat ≤ 57)) ∧ Inv st (mf a Q)
  | [], q, Q, st, r, h, I => by
    obtain rfl : st = q := (congrArg Prod.fst h).symm
    obtain rfl : r = [] := (congrArg Prod.snd h).symm
    exact ⟨[], rfl, ⟨fun c hc => absurd hc List.not_mem_nil, I⟩⟩
  | c :: l, q, Q, st, r, h, I => by
    cases hs : step q c.toNat with
    | none =>
      rw [loop_none hs] at h
      obtain rfl : st = q := (congrArg Prod.fst h).symm
      obtain rfl : r = c :: l := (congrArg Prod.snd h).symm
      exact ⟨[], rfl, ⟨fun c hc => absurd hc List.not_mem_nil, I⟩⟩
    | some q' =>
      rw [loop_some hs] at h
      obtain ⟨I2, hc⟩ := I.step hs
      obtain ⟨a, e, h1, h2⟩ := loop_val l q' _ st r h I2
      refine ⟨c :: a, by rw [e]; rfl, fun x hx => ?_, h2⟩
      rcases List.mem_cons.1 hx with rfl | hx
      · exact hc
      · exact h1 x hx
theorem Inv.dp {q : St} {Q : LS} (I : Inv q Q) : dpOf q = (q.nd : Int) - Q.b := by
  unfold dpOf
  cases h : q.sd
  · rw [if_neg (by decide), (I.d0 h).1]; simp
  · rw [if_pos rfl]; exact I.d1 h
end PF
/-- the float that D * 10^q is read as -/
def PVal (D : Nat) (q : Int) (b : Nat) : Prop := (D = 0 ∧ b = 0) ∨ (0 < D ∧ FS.Rnd (FS.vN D q) (FS.vD q) b)
theorem PVal.ext {D : Nat} {q : Int} {b c : Nat} (h : PVal D q b) (k : PVal D q c) : b = c := by
  rcases h with ⟨h1, h2⟩ | ⟨h1, h2⟩ <;> rcases k with ⟨k1, k2⟩ | ⟨k1, k2⟩
  · omega
  · omega
  · omega
  · exact h2.ext (FS.X_pos _) k2
namespace FS
/-- noughts moved into the exponent -/
theorem v_shift {m j : Nat} {p q : Int} (h : p = q + j) : vN (m * 10 ^ j) q * vD p = vN m p * vD q := by
  unfold vN vD
  have e : (10 : Nat) ^ j = X j := rfl
  rw [e]
  have : X j * X q.toNat * X (-p).toNat = X p.toNat * X (-q).toNat := by
    rw [X_mul, X_mul, X_mul]; exact congrArg X (by omega)
  have e1 : m * X j * X q.toNat * X (-p).toNat = m * (X j * X q.toNat * X (-p).toNat) := by ac_rfl
  have e2 : m * X p.toNat * X (-q).toNat = m * (X p.toNat * X (-q).toNat) := by ac_rfl
  rw [e1, e2, this]
theorem Rnd.shift {m j b : Nat} {p q : Int} (h : p = q + j) (R : Rnd (vN m p) (vD p) b) : Rnd (vN (m * 10 ^ j) q) (vD q) b :=
  Rnd.of_eq (X_pos _) (X_pos _) (v_shift h).symm R
end FS
end Go.Proofs.YteckfdohgiddgaaGreatDoor
namespace Go.Proofs.YteckfdohgiddgaaGreatDoor
set_option linter.unusedVariables false
namespace PF
open PN
theorem dg_iff {c : Nat} : dg c = true ↔ 48 ≤ c ∧ c ≤ 57 := by unfold dg; simp
theorem step_digit {st : St} {c : Nat} (h : 48 ≤ c ∧ c ≤ 57) : ∃ st', step st c = some st' ∧ st'.sd = st.sd ∧ st'.sg = true := by
  unfold step
  rw [if_neg (by omega), if_pos h]
  split
  · exact ⟨_, rfl, rfl, rfl⟩
  · split
    · exact ⟨_, rfl, rfl, rfl⟩
    · exact ⟨_, rfl, rfl, rfl⟩
theorem loop_digits : ∀ (l : List UInt8) (st : St), ∃ st', loop l st = loop (l.drop (spn dg l)) st' ∧ st'.sd = st.sd ∧ (0 < spn dg l → st'.sg = true) ∧ (st.sg = true → st'.sg = true)
  | [], st => ⟨st, by rw [spn_nil, List.drop_zero], rfl, fun h => absurd h (by rw [spn_nil]; decide), fun h => h⟩
  | c :: l, st => by
    by_cases h : dg c.toNat = true
    · obtain ⟨s1, h1, h2, h3⟩ := step_digit (st := st) (dg_iff.1 h)
      obtain ⟨s2, k1, k2, k3, k4⟩ := loop_digits l s1
      refine ⟨s2, ?_, k2.trans h2, fun _ => k4 h3, fun _ => k4 h3⟩
      rw [loop_some h1, k1, spn_yes h, List.drop_succ_cons]
    · have h' : dg c.toNat = false := by simpa using h
      refine ⟨st, by rw [spn_no h', List.drop_zero], rfl, fun hh => ?_, fun h => h⟩
      rw [spn_no h'] at hh; exact absurd hh (by decide)
theorem spn_next (l : List UInt8) (c : UInt8) (r : List UInt8) (h : l.drop (spn dg l) = c :: r) : dg c.toNat = false := by
  induction l with
  | nil => simp at h
  | cons x l ih =>
    by_cases hx : dg x.toNat = true
    · rw [spn_yes hx, List.drop_succ_cons] at h; exact ih h
    · have hx' : dg x.toNat = false := by simpa using hx
      rw [spn_no hx', List.drop_zero] at h
      injection h with h1 h2
      rw [← h1]; exact hx'
theorem loop_stop (l : List UInt8) (st : St) (h : ∀ c r, l = c :: r → dg c.toNat = false ∧ (c.toNat = 46 → st.sd = true)) : loop l st = (st, l) := by
  cases l with
  | nil => rfl
  | cons c r =>
    obtain ⟨h1, h2⟩ := h c r rfl
    apply loop_none
    unfold step
    have h3 : ¬ (48 ≤ c.toNat ∧ c.toNat ≤ 57) := fun hc => by rw [dg_iff.2 hc] at h1; cases h1
    by_cases c46 : c.toNat = 46
    · rw [if_pos c46, if_pos (h2 c46)]
    · rw [if_neg c46, if_neg h3]
theorem loop_mant (l : List UInt8) (h : mant l ≠ 0) : ∃ st, loop l st0 = (st, l.drop (mant l)) ∧ st.sg = true := by
  unfold mant at h ⊢
  split at h
  · rename_i hp
    rw [if_pos hp]
    obtain ⟨s1, k1, k2, k3, _⟩ := loop_digits l st0
    split at h
    · rename_i hdot
      rw [if_pos hdot]
      obtain ⟨c, r, e, c46⟩ : ∃ c r, l.drop (spn dg l) = c :: r ∧ c.toNat = 46 := by
        cases hl : l.drop (spn dg l) with
        | nil => rw [hl] at hdot; cases hdot
        | cons c r => rw [hl] at hdot; exact ⟨c, r, rfl, of_decide_eq_true hdot⟩
      have hs : step s1 c.toNat = some { s1 with sd := true, dp := s1.nd } := by
        unfold step; rw [if_pos c46, k2]; rfl
      obtain ⟨s2, m1, m2, m3, m4⟩ := loop_digits r { s1 with sd := true, dp := s1.nd }
      have er : r = l.drop (spn dg l + 1) := by
        have := congrArg (List.drop 1) e
        rw [List.drop_drop] at this
        simpa using this.symm
      refine ⟨s2, ?_, m4 (k3 hp)⟩
      rw [k1, e, loop_some hs, m1, loop_stop]
      · rw [er, List.drop_drop]
      · intro x y hxy
        exact ⟨spn_next _ _ _ hxy, fun _ => m2⟩
    · rename_i hdot
      rw [if_neg hdot]
      refine ⟨s1, ?_, k3 hp⟩
      rw [k1, loop_stop]
      intro x y hxy
      refine ⟨spn_next _ _ _ hxy, fun x46 => ?_⟩
      rw [hxy] at hdot
      exact absurd (decide_eq_true x46) hdot
  · rename_i hp
    rw [if_neg hp]
    split at h
    · rename_i hpt
      rw [if_pos hpt]
      match l, hpt with
      | a :: b :: r, hpt =>
        obtain ⟨a46, hb⟩ := of_decide_eq_true hpt
        have hs : step st0 a.toNat = some { st0 with sd := true, dp := st0.nd } := by unfold step; rw [if_pos a46]; rfl
        obtain ⟨s2, m1, m2, m3, m4⟩ := loop_digits (b :: r) { st0 with sd := true, dp := st0.nd }
        refine ⟨s2, ?_, m3 (by rw [spn_yes hb]; omega)⟩
        rw [loop_some hs, m1, loop_stop]
        · rw [List.drop_succ_cons, List.drop_zero, Nat.add_comm 1, List.drop_succ_cons]
        · intro x y hxy
          exact ⟨spn_next _ _ _ hxy, fun _ => m2⟩
    · exact absurd rfl h
theorem mant_le (l : List UInt8) : mant l ≤ l.length := by
  unfold mant
  have h1 := spn_le dg l
  split
  · split
    · rename_i h
      have : spn dg l < l.length := by
        rcases Nat.lt_or_ge (spn dg l) l.length with c | c
        · exact c
        · rw [List.drop_eq_nil_of_le c] at h; cases h
      have h2 := spn_le dg (l.drop (spn dg l + 1))
      rw [List.length_drop] at h2
      omega
    · exact h1
  · split
    · rename_i h
      match l, h with
      | a :: b :: r, _ =>
        have := spn_le dg ((a :: b :: r).drop 1)
        rw [List.length_drop] at this
        simp only [List.length_cons] at *; omega
    · omega
theorem all_of_spn {l : List UInt8} (h : spn dg l = l.length) : ∀ x ∈ l, 48 ≤ x.toNat ∧ x.toNat ≤ 57 := by
  induction l with
  | nil => intro x hx; cases hx
  | cons c l ih =>
    by_cases hc : dg c.toNat = true
    · rw [spn_yes hc, List.length_cons] at h
      intro x hx
      rcases List.mem_cons.1 hx with rfl | hx
      · exact dg_iff.1 hc
      · exact ih (by omega) x hx
    · have hc' : dg c.toNat = false := by simpa using hc
      rw [spn_no hc', List.length_cons] at h; omega
theorem exp_ok {r : List UInt8} (h : exl r = r.length) : expOk r ∧ ∀ c ∈ r, (48 ≤ c.toNat ∧ c.toNat ≤ 57) ∨ c.toNat = 101 ∨ c.toNat = 69 ∨ c.toNat = 43 ∨ c.toNat = 45 := by
  cases r with
  | nil => exact ⟨trivial, fun c hc => by cases hc⟩
  | cons c r =>
    rw [exl_cons] at h
    split at h
    · rename_i he
      split at h
      · rename_i hp
        rw [List.length_cons] at h
        have hsg : sgl r ≤ r.length := by
          cases r with
          | nil => exact Nat.zero_le _
          | cons d r => rw [sgl_cons]; split <;> simp
        have hl : spn dg (r.drop (sgl r)) = (r.drop (sgl r)).length := by rw [List.length_drop]; omega
        have hall := all_of_spn hl
        refine ⟨⟨he, by rw [← hl]; exact hp, hall⟩, fun x hx => ?_⟩
        rcases List.mem_cons.1 hx with rfl | hx
        · omega
        · cases r with
          | nil => cases hx
          | cons d r =>
            rw [sgl_cons] at hall
            split at hall
            · rename_i hd
              rcases List.mem_cons.1 hx with rfl | hx
              · omega
              · exact .inl (hall x hx)
            · exact .inl (hall x hx)
      · rw [List.length_cons] at h; omega
    · rw [List.length_cons] at h; omega
end PF
theorem dec_of (s : ByteArray) (hs : s.size ≤ 600) (h : PN.pfx s.data.toList = s.size) (h0 : 0 < s.size) (hh : PN.hexHead s.data.toList = false) :
    ∃ st r, PF.Dec s st r ∧ (∀ c ∈ s.data.toList, c.toNat = 46 ∨ (48 ≤ c.toNat ∧ c.toNat ≤ 57) ∨ c.toNat = 101 ∨ c.toNat = 69 ∨ c.toNat = 43 ∨ c.toNat = 45) ∧ ((s[0]'h0).toNat = 46 ∨ (48 ≤ (s[0]'h0).toNat ∧ (s[0]'h0).toNat ≤ 57)) := by
  have hz := Lib.size_eq s
  unfold PN.pfx at h
  rw [if_neg (by rw [hh]; decide)] at h
  split at h
  · omega
  · rename_i hm
    obtain ⟨st, h1, h2⟩ := PF.loop_mant _ hm
    have hml := PF.mant_le s.data.toList
    obtain ⟨h3, h4⟩ := PF.exp_ok (r := s.data.toList.drop (PN.mant s.data.toList)) (by rw [List.length_drop]; omega)
    obtain ⟨a, e, ha, _⟩ := PF.loop_val _ _ _ _ _ h1 PF.Inv.start
    have chars : ∀ c ∈ s.data.toList, c.toNat = 46 ∨ (48 ≤ c.toNat ∧ c.toNat ≤ 57) ∨ c.toNat = 101 ∨ c.toNat = 69 ∨ c.toNat = 43 ∨ c.toNat = 45 := fun c hc => by
      rw [e] at hc
      rcases List.mem_append.1 hc with hc | hc
      · have := ha c hc; omega
      · have := h4 c hc; omega
    have first : (s[0]'h0).toNat = 46 ∨ (48 ≤ (s[0]'h0).toNat ∧ (s[0]'h0).toNat ≤ 57) := by
      have hl := data_drop' s 0 h0
      rw [List.drop_zero] at hl
      cases a with
      | nil =>
        exfalso
        rw [List.nil_append] at e
        have := congrArg List.length e
        rw [List.length_drop] at this
        omega
      | cons x a =>
        rw [e, List.cons_append] at hl
        injection hl with hl1 hl2
        rw [← hl1]
        exact ha x (List.mem_cons_self ..)
    refine ⟨st, _, ⟨hs, h1, h2, h3, fun x hx => ?_, fun hh => ?_, fun h1' h48 => ?_⟩, chars, first⟩
    · have := chars x hx; omega
    · omega
    · intro hc
      have h5 : (s[1]'h1').toNat < 256 := (s[1]'h1').toNat_lt
      have := (PF.low_at h5).2.1.1 hc
      have := chars _ (mem_data h1')
      omega
end Go.Proofs.YteckfdohgiddgaaGreatDoor
