/- What Show tells of a float is worth what reads as the float. No function of the program in sight. NumBack: the law's walk. -/
import Derived.Test.YteckfdohgiddgaaGreatDoorPVal
import Derived.Test.YteckfdohgiddgaaGreatDoorFDG
import Derived.Test.YteckfdohgiddgaaGreatDoorPRd
import Derived.Test.YteckfdohgiddgaaGreatDoorPPlain
namespace Go.Proofs.YteckfdohgiddgaaGreatDoor
set_option linter.unusedVariables false
namespace FS
theorem hf_eq (f : Nat) : hf f = (2 * mOf f + 1) * Z (eOf f + 1074).toNat := rfl
/-- half way to the float below, in quarters -/
theorem hf_below {f : Nat} (hx : ex f ≠ 2047) (hm : mOf f ≠ 0) (h : f < INF) : hf (f - 1) * 2 = (4 * mOf f - (if sOf f then 1 else 2)) * Z (eOf f + 1074).toNat := by
  rcases split52 f h with c | ⟨K, r, rfl, hr, hK⟩
  · obtain ⟨e1, e2⟩ := mOf_low c
    have hs : sOf f = false := by
      unfold sOf; rw [decide_eq_false]; intro hh; rw [e1] at hh; omega
    have h0 : f ≠ 0 := by rw [e1] at hm; exact hm
    rw [hs, hf_low (by omega), e1, e2, show Z 0 = 1 from rfl]
    simp; omega
  · obtain ⟨e1, e2⟩ := mOf_high hr hK
    have eg := eOf_ge ((K + 1) * 4503599627370496 + r)
    rw [e1, e2]
    by_cases r0 : r = 0
    · subst r0
      rcases Nat.eq_zero_or_pos K with k0 | k0
      · subst k0
        have hs : sOf ((0 + 1) * 4503599627370496 + 0) = false := by
          unfold sOf; rw [decide_eq_false]; intro hh; omega
        rw [hs, show (0 + 1) * 4503599627370496 + 0 - 1 = 4503599627370495 from rfl, hf_low (by decide), show Z 0 = 1 from rfl]; decide
      · have hs : sOf ((K + 1) * 4503599627370496 + 0) = true := by
          unfold sOf; rw [decide_eq_true]; refine ⟨by omega, by omega⟩
        obtain ⟨K', rfl⟩ : ∃ K', K = K' + 1 := ⟨K - 1, by omega⟩
        have e3 : (K' + 1 + 1) * 4503599627370496 + 0 - 1 = K' * 4503599627370496 + 9007199254740991 := by omega
        rw [hs, hf_at (K := K') (k := 9007199254740991) e3 (by decide) (.inr (by decide)) (by omega), Z_succ]
        have := Z_pos K'
        generalize Z K' = z at *
        simp; omega
    · have hs : sOf ((K + 1) * 4503599627370496 + r) = false := by
        unfold sOf; rw [decide_eq_false]; intro hh; omega
      have e3 : (K + 1) * 4503599627370496 + r - 1 = K * 4503599627370496 + (4503599627370496 + (r - 1)) := by omega
      rw [hs, hf_at (K := K) (k := 4503599627370496 + (r - 1)) e3 (by omega) (.inr (by omega)) hK, Nat.mul_right_comm]
      congr 1
      simp; omega
theorem fin_of {f : Nat} (h : f < 9223372036854775808) (hx : ex f ≠ 2047) : f < INF := by
  unfold ex at hx; unfold INF; omega
theorem in_rnd {f d t : Nat} (hf63 : f < 9223372036854775808) (hx : ex f ≠ 2047) (hm : mOf f ≠ 0) (h : Told f d t) : Rnd (vN d ((t : Int) - 400)) (vD ((t : Int) - 400)) f := by
  have hI := fin_of hf63 hx
  have hi := h.i
  unfold In at hi
  have hpar : (mOf f % 2 == 0) = true ↔ f % 2 = 0 := by
    rw [beq_iff_eq]; unfold mOf mt; split <;> omega
  have eb := hf_below hx hm hI
  have ea := hf_eq f
  have hge := eOf_ge f
  have hu : uq (eOf f) = Z (eOf f + 1074).toNat * Z 64 * X 400 := by
    unfold uq; rw [Z_mul, show (eOf f + 1138).toNat = (eOf f + 1074).toNat + 64 by omega]; rfl
  have hT : T t = X t * (Z 1075 * Z 64 * 2) := by
    unfold T; rw [Z_mul, show (2 : Nat) = Z 1 from rfl, Z_mul]
  -- the value times 10^400
  have hv : d * X t * vD ((t : Int) - 400) = vN d ((t : Int) - 400) * X 400 := by
    unfold vN vD
    have : X t * X (-((t : Int) - 400)).toNat = X ((t : Int) - 400).toNat * X 400 := by rw [X_mul, X_mul]; exact congrArg X (by omega)
    rw [Nat.mul_assoc, this, Nat.mul_assoc]
  generalize vN d ((t : Int) - 400) = n at *
  have hd0 : 0 < vD ((t : Int) - 400) := X_pos _
  generalize vD ((t : Int) - 400) = e at *
  have h64 : 0 < Z 64 := Z_pos _
  have h4 : 0 < X 400 := X_pos _
  have hm4 : (if sOf f then 1 else 2) ≤ 4 * mOf f := by split <;> omega
  generalize hc : (if sOf f then 1 else 2) = c at *
  generalize Z (eOf f + 1074).toNat = z at *
  generalize hy : Z 1075 = y at *
  generalize Z 64 = k at *
  generalize X 400 = x4 at *
  generalize X t = xt at *
  generalize mOf f = m at *
  -- both bounds, scaled
  have sc1 : ∀ a : Nat, a * uq (eOf f) * e = a * z * e * (k * x4) := fun a => by rw [hu]; ac_rfl
  have sc2 : d * T t * e = n * y * 2 * (k * x4) := by
    rw [hT]
    have : d * (xt * (y * k * 2)) * e = (d * xt * e) * (y * k * 2) := by ac_rfl
    rw [this, hv]; ac_rfl
  have hkx : 0 < k * x4 := Nat.mul_pos h64 h4
  have low : (4 * m * uq (eOf f) - c * uq (eOf f)) = (4 * m - c) * uq (eOf f) := (Nat.sub_mul _ _ _).symm
  have upp : (4 * m * uq (eOf f) + 2 * uq (eOf f)) = (4 * m + 2) * uq (eOf f) := (Nat.add_mul _ _ _).symm
  rw [low, upp] at hi
  have lt1 : ∀ a : Nat, a * uq (eOf f) < d * T t → a * z * e < n * y * 2 := fun a ha => by
    have := Nat.mul_lt_mul_of_pos_right ha hd0
    rw [sc1, sc2] at this
    exact Nat.lt_of_mul_lt_mul_right this
  have lt2 : ∀ a : Nat, d * T t < a * uq (eOf f) → n * y * 2 < a * z * e := fun a ha => by
    have := Nat.mul_lt_mul_of_pos_right ha hd0
    rw [sc1, sc2] at this
    exact Nat.lt_of_mul_lt_mul_right this
  have eq1 : ∀ a : Nat, a * uq (eOf f) = d * T t → a * z * e = n * y * 2 := fun a ha => by
    have := congrArg (· * e) ha
    simp only [sc1, sc2] at this
    exact Nat.eq_of_mul_eq_mul_right hkx this
  have L : hf (f - 1) * e * 2 = (4 * m - c) * z * e := by rw [← eb]; ac_rfl
  have U : hf f * e * 2 = (4 * m + 2) * z * e := by
    rw [ea, show 4 * m + 2 = (2 * m + 1) * 2 by omega]; ac_rfl
  refine ⟨Nat.le_of_lt hI, .inr ?_, .inr ?_⟩
  · rw [hy]
    rcases hi.1 with h1 | ⟨h1, h2⟩
    · have := lt1 _ h1; left; omega
    · have := eq1 _ h2; right; exact ⟨by omega, hpar.1 h1⟩
  · rw [hy]
    rcases hi.2 with h1 | ⟨h1, h2⟩
    · have := lt2 _ h1; left; omega
    · have := eq1 _ h2.symm; right; exact ⟨by omega, hpar.1 h1⟩
end FS
namespace PF
open PN
/-- the number that digits tell -/
def dv (l : List UInt8) : Nat := l.foldl (fun a c => a * 10 + (c.toNat - 48)) 0
def Dig (l : List UInt8) : Prop := ∀ c ∈ l, 48 ≤ c.toNat ∧ c.toNat ≤ 57
theorem mf_dig : ∀ (l : List UInt8) (D b : Nat) (pt : Bool), Dig l → mf l ⟨D, b, pt⟩ = ⟨l.foldl (fun a c => a * 10 + (c.toNat - 48)) D, if pt then b + l.length else b, pt⟩
  | [], D, b, pt, _ => by cases pt <;> rfl
  | c :: l, D, b, pt, h => by
    have hc := h c (List.mem_cons_self ..)
    rw [mf]
    unfold mst
    rw [if_neg (by omega), mf_dig l _ _ _ (fun x hx => h x (List.mem_cons_of_mem _ hx))]
    cases pt <;> simp [List.length_cons]
    omega
theorem fold_app (a b : List UInt8) (D : Nat) : (a ++ b).foldl (fun x c => x * 10 + (c.toNat - 48)) D = b.foldl (fun x c => x * 10 + (c.toNat - 48)) (a.foldl (fun x c => x * 10 + (c.toNat - 48)) D) := List.foldl_append ..
theorem fold_zeros : ∀ (k D : Nat), (List.replicate k (48 : UInt8)).foldl (fun x c => x * 10 + (c.toNat - 48)) D = D * 10 ^ k
  | 0, D => by simp
  | k + 1, D => by
    rw [List.replicate_succ, List.foldl_cons, fold_zeros k]
    show (D * 10 + (48 - 48)) * 10 ^ k = _
    rw [Nat.pow_succ, Nat.sub_self, Nat.add_zero, Nat.mul_assoc, Nat.mul_comm 10]
theorem dec_dig : ∀ d : Nat, Dig (Lib.decDigits d) ∧ dv (Lib.decDigits d) = d := by
  intro d
  induction d using Nat.strongRecOn with
  | _ d ih =>
    have one : ∀ i, i < 10 → (UInt8.ofNat (48 + i)).toNat = 48 + i := fun i hi => by
      rw [UInt8.toNat_ofNat']; omega
    by_cases c : d < 10
    · rw [Lib.decDigits_one c]
      refine ⟨fun x hx => ?_, ?_⟩
      · rw [List.mem_singleton] at hx; subst hx; rw [one d c]; omega
      · show 0 * 10 + ((UInt8.ofNat (48 + d)).toNat - 48) = d
        rw [one d c]; omega
    · have e : Lib.decDigits d = Lib.decDigits (d / 10) ++ [UInt8.ofNat (48 + d % 10)] := by
        conv => lhs; rw [Lib.decDigits]
        rw [dif_neg c]
      obtain ⟨h1, h2⟩ := ih (d / 10) (by omega)
      have o := one (d % 10) (by omega)
      rw [e]
      refine ⟨fun x hx => ?_, ?_⟩
      · rcases List.mem_append.1 hx with hx | hx
        · exact h1 x hx
        · rw [List.mem_singleton] at hx; subst hx; rw [o]; omega
      · unfold dv at h2 ⊢
        rw [fold_app, h2]
        show d / 10 * 10 + ((UInt8.ofNat (48 + d % 10)).toNat - 48) = d
        rw [o]; omega
theorem spn_app : ∀ (a r : List UInt8), Dig a → spn dg (a ++ r) = a.length + spn dg r
  | [], r, _ => by simp
  | c :: a, r, h => by
    rw [List.cons_append, spn_yes (dg_iff.2 (h c (List.mem_cons_self ..))), spn_app a r (fun x hx => h x (List.mem_cons_of_mem _ hx)), List.length_cons]
    omega
theorem spn_self (a : List UInt8) (h : Dig a) : spn dg a = a.length := by
  have := spn_app a [] h
  rw [List.append_nil, spn_nil] at this; exact this
theorem hex_no {l : List UInt8} (h : ∀ x ∈ l, x.toNat = 46 ∨ (48 ≤ x.toNat ∧ x.toNat ≤ 57)) : hexHead l = false := by
  match l, h with
  | a :: b :: c :: r, h =>
    have := h b (by simp)
    show decide _ = false
    rw [decide_eq_false]; omega
  | [], _ => rfl
  | [a], _ => rfl
  | [a, b], _ => rfl
/-- digits alone -/
theorem pfx_dig (a : List UInt8) (h0 : a ≠ []) (h : Dig a) : pfx a = a.length ∧ hexHead a = false := by
  have hh := hex_no (l := a) (fun x hx => .inr (h x hx))
  have hp : 0 < a.length := by cases a with | nil => exact absurd rfl h0 | cons c a => simp
  refine ⟨?_, hh⟩
  have hm : mant a = a.length := by
    unfold mant
    rw [spn_self a h, if_pos hp, List.drop_eq_nil_of_le (Nat.le_refl _), if_neg (by decide)]
  unfold pfx
  rw [hh, if_neg (by decide), hm, if_neg (by omega), List.drop_eq_nil_of_le (Nat.le_refl _)]
  rfl
/-- digits, a point, digits -/
theorem pfx_pt (a r : List UInt8) (h0 : a ≠ []) (h : Dig a) (hr : Dig r) : pfx (a ++ [46] ++ r) = (a ++ [46] ++ r).length ∧ hexHead (a ++ [46] ++ r) = false := by
  have hh : hexHead (a ++ [46] ++ r) = false := hex_no (fun x hx => by
    rcases List.mem_append.1 hx with hx | hx
    · rcases List.mem_append.1 hx with hx | hx
      · exact .inr (h x hx)
      · rw [List.mem_singleton] at hx; subst hx; exact .inl rfl
    · exact .inr (hr x hx))
  have hp : 0 < a.length := by cases a with | nil => exact absurd rfl h0 | cons c a => simp
  refine ⟨?_, hh⟩
  have hs : spn dg (a ++ [46] ++ r) = a.length := by
    rw [List.append_assoc, spn_app a _ h]
    have : spn dg ([46] ++ r) = 0 := spn_no rfl
    rw [this]; rfl
  have hd1 : (a ++ [46] ++ r).drop a.length = 46 :: r := by rw [List.append_assoc, List.drop_left' rfl]; rfl
  have hd2 : (a ++ [46] ++ r).drop (a.length + 1) = r := by
    rw [← List.drop_drop, hd1]; rfl
  have hm : mant (a ++ [46] ++ r) = (a ++ [46] ++ r).length := by
    unfold mant
    rw [hs, if_pos hp, hd1, if_pos (by rfl), hd2, spn_self r hr]
    simp; omega
  unfold pfx
  rw [hh, if_neg (by decide), hm, if_neg (by simp), List.drop_eq_nil_of_le (Nat.le_refl _)]
  rfl
end PF
namespace FS
/-- what plainT's digits are worth -/
theorem plainT_val {d t : Nat} {k : Int} (hd : 0 < d) (hk : k = (Lib.nDigits d : Int) + t - 400) : ∃ j : Nat, (PF.mf (plainT (Lib.decDigits d) k) PF.ls0).D = d * 10 ^ j ∧ (t : Int) - 400 = -((PF.mf (plainT (Lib.decDigits d) k) PF.ls0).b : Int) + j ∧
    PN.pfx (plainT (Lib.decDigits d) k) = (plainT (Lib.decDigits d) k).length ∧ PN.hexHead (plainT (Lib.decDigits d) k) = false ∧ (∀ c ∈ plainT (Lib.decDigits d) k, c.toNat = 46 ∨ (48 ≤ c.toNat ∧ c.toNat ≤ 57)) := by
  obtain ⟨h1, h2⟩ := PF.dec_dig d
  have hl := Lib.decDigits_length d
  have hn := Lib.nDigits_pos d
  generalize Lib.decDigits d = A at *
  have hA0 : A ≠ [] := fun h => by rw [h] at hl; simp at hl; omega
  have hz : ∀ n, PF.Dig (List.replicate n (48 : UInt8)) := fun n x hx => by
    obtain rfl := List.eq_of_mem_replicate hx
    decide
  have digApp : ∀ a b, PF.Dig a → PF.Dig b → PF.Dig (a ++ b) := fun a b ha hb x hx => by
    rcases List.mem_append.1 hx with h | h
    · exact ha x h
    · exact hb x h
  have ptChars : ∀ a b, PF.Dig a → PF.Dig b → ∀ c ∈ a ++ [46] ++ b, c.toNat = 46 ∨ (48 ≤ c.toNat ∧ c.toNat ≤ 57) := fun a b ha hb c hc => by
    rcases List.mem_append.1 hc with hc | hc
    · rcases List.mem_append.1 hc with hc | hc
      · exact .inr (ha c hc)
      · rw [List.mem_singleton] at hc; subst hc; exact .inl rfl
    · exact .inr (hb c hc)
  have mfPt : ∀ a b : List UInt8, PF.Dig a → PF.Dig b → PF.mf (a ++ [46] ++ b) PF.ls0 = ⟨(a ++ b).foldl (fun x c => x * 10 + (c.toNat - 48)) 0, b.length, true⟩ := fun a b ha hb => by
    rw [PF.mf_app, PF.mf_app, show PF.ls0 = ⟨0, 0, false⟩ from rfl, PF.mf_dig a _ _ _ ha]
    show PF.mf b ⟨_, 0, true⟩ = _
    rw [PF.mf_dig b _ _ _ hb, PF.fold_app]; simp
  unfold plainT
  by_cases c1 : k ≤ 0
  · rw [if_pos c1]
    have e : [48, 46] ++ List.replicate (-k).toNat 48 ++ A = [48] ++ [46] ++ (List.replicate (-k).toNat 48 ++ A) := by simp
    have d0 : PF.Dig [48] := fun x hx => by rw [List.mem_singleton] at hx; subst hx; decide
    have dz := digApp _ _ (hz (-k).toNat) h1
    rw [e, mfPt _ _ d0 dz]
    refine ⟨0, ?_, ?_, (PF.pfx_pt _ _ (by simp) d0 dz).1, (PF.pfx_pt _ _ (by simp) d0 dz).2, ptChars _ _ d0 dz⟩
    · show _ = d * 1
      rw [PF.fold_app, PF.fold_app, PF.fold_zeros]
      show A.foldl _ ((0 * 10 + (48 - 48)) * 10 ^ _) = _
      rw [show (0 * 10 + (48 - 48)) * 10 ^ (-k).toNat = 0 by simp, Nat.mul_one]
      exact h2
    · show (t : Int) - 400 = -(((List.replicate (-k).toNat (48 : UInt8) ++ A).length : Nat) : Int) + (0 : Nat)
      rw [List.length_append, List.length_replicate, hl]; omega
  · rw [if_neg c1]
    by_cases c2 : k < A.length
    · rw [if_pos c2]
      have dt : PF.Dig (A.take k.toNat) := fun x hx => h1 x (List.mem_of_mem_take hx)
      have dd : PF.Dig (A.drop k.toNat) := fun x hx => h1 x (List.mem_of_mem_drop hx)
      have ht0 : A.take k.toNat ≠ [] := fun h => by
        have : min k.toNat A.length = 0 := by rw [← List.length_take, h]; rfl
        omega
      rw [mfPt _ _ dt dd, List.take_append_drop]
      refine ⟨0, ?_, ?_, (PF.pfx_pt _ _ ht0 dt dd).1, (PF.pfx_pt _ _ ht0 dt dd).2, ptChars _ _ dt dd⟩
      · show _ = d * 1
        rw [Nat.mul_one]; exact h2
      · show (t : Int) - 400 = -((A.drop k.toNat).length : Int) + (0 : Nat)
        rw [List.length_drop, hl]; omega
    · rw [if_neg c2]
      have dz := digApp _ _ h1 (hz (k.toNat - A.length))
      have h0 : A ++ List.replicate (k.toNat - A.length) 48 ≠ [] := fun h => hA0 (List.append_eq_nil_iff.1 h).1
      rw [show PF.ls0 = ⟨0, 0, false⟩ from rfl, PF.mf_dig _ _ _ _ dz]
      refine ⟨k.toNat - A.length, ?_, ?_, (PF.pfx_dig _ h0 dz).1, (PF.pfx_dig _ h0 dz).2, fun c hc => .inr (dz c hc)⟩
      · show (A ++ List.replicate (k.toNat - A.length) 48).foldl _ 0 = _
        rw [PF.fold_app, PF.fold_zeros]
        exact congrArg (· * _) h2
      · show (t : Int) - 400 = -((0 : Nat) : Int) + ((k.toNat - A.length : Nat) : Int)
        omega
end FS
end Go.Proofs.YteckfdohgiddgaaGreatDoor
namespace Go.Proofs.YteckfdohgiddgaaGreatDoor
open Go.RowKit
set_option linter.unusedVariables false
set_option linter.unusedSimpArgs false
end Go.Proofs.YteckfdohgiddgaaGreatDoor
