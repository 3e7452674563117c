/- The decimals with one digit less next to the shortest one don't read as the float. No function of the program in sight. NumShortest: figures; the law's walk. -/
import Derived.Test.YtcbggkdginfakaaGreatDoorPBackW
import Derived.Test.YtcbggkdginfakaaGreatDoorPFig
namespace Go.Proofs.YtcbggkdginfakaaGreatDoor
set_option linter.unusedVariables false
namespace FS
theorem Told.d17 {f d t : Nat} (hx : ex f ≠ 2047) (hm : mOf f ≠ 0) (h : Told f d t) (h10 : d % 10 ≠ 0) : d < 100000000000000000 := by
  have hml := mOf_lt' f
  obtain ⟨he1, he2⟩ := eOf_bd f hx
  have hs1 : sOf f = true → mOf f = 4503599627370496 := fun hs => (of_decide_eq_true hs).1
  unfold Told at h
  have hle := h.i.le.2
  generalize mOf f = m at *
  generalize eOf f = e at *
  have hu := uq_pos e
  have hmu : uq e ≤ m * uq e := Nat.le_mul_of_pos_left _ (by omega)
  have e4 : 4 * m * uq e = 4 * (m * uq e) := Nat.mul_assoc _ _ _
  have hT := T_pos t
  rcases Nat.lt_or_ge d 100000000000000000 with c | c
  · exact c
  exfalso
  have h1 := Nat.mul_le_mul_right (T t) c
  cases hs : sOf f with
  | true =>
    rw [hs] at h
    simp only [if_true] at h
    rw [hs1 hs] at *
    have hw : 3 * uq e ≤ T (t + 1) := by
      rcases Nat.lt_or_ge (T (t + 1)) (3 * uq e) with c | c
      · obtain ⟨q, hq⟩ := mult_in (ev := (4503599627370496 % 2 == 0)) (L := 4 * 4503599627370496 * uq e - 1 * uq e) (U := 4 * 4503599627370496 * uq e + 2 * uq e) (T_pos (t + 1)) (by omega)
        exact absurd hq (h.c q)
      · exact c
    rw [T_succ] at hw
    omega
  | false =>
    rw [hs] at h
    simp only [Bool.false_eq_true, if_false] at h
    have hmu2 : m * uq e ≤ 9007199254740991 * uq e := Nat.mul_le_mul_right _ (by omega)
    have hw : 4 * uq e ≤ T (t + 1) := by
      rcases Nat.lt_or_ge (T (t + 1)) (4 * uq e) with c | c
      · obtain ⟨q, hq⟩ := mult_in (ev := (m % 2 == 0)) (L := 4 * m * uq e - 2 * uq e) (U := 4 * m * uq e + 2 * uq e) (T_pos (t + 1)) (by omega)
        exact absurd hq (h.c q)
      · exact c
    rw [T_succ] at hw
    omega
def loQ (f : Nat) : Nat := 4 * mOf f * uq (eOf f) - (if sOf f then 1 else 2) * uq (eOf f)
def hiQ (f : Nat) : Nat := 4 * mOf f * uq (eOf f) + 2 * uq (eOf f)
/-- what rounds to a float lies in its interval -/
theorem rnd_in {f d t : Nat} (hf63 : f < 9223372036854775808) (hx : ex f ≠ 2047) (hm : mOf f ≠ 0) (R : Rnd (vN d ((t : Int) - 400)) (vD ((t : Int) - 400)) f) : In (mOf f % 2 == 0) (loQ f) (hiQ f) (d * T t) := by
  have hI := fin_of hf63 hx
  have hpar : f % 2 = 0 → (mOf f % 2 == 0) = true := by
    rw [beq_iff_eq]; unfold mOf mt; split <;> omega
  have hf0 : f ≠ 0 := fun h => hm (by subst h; decide)
  have hlo := R.lo.resolve_left hf0
  have hhi := R.hi.resolve_left (by omega)
  have eb := hf_below hx hm hI
  have ea := hf_eq f
  have hu : uq (eOf f) = Z (eOf f + 1074).toNat * Z 64 * X 400 := by
    have hge := eOf_ge f
    unfold uq; rw [Z_mul, show (eOf f + 1138).toNat = (eOf f + 1074).toNat + 64 by omega]; rfl
  have hT : T t = X t * (Z 1075 * Z 64 * 2) := by
    unfold T; rw [Z_mul, show (2 : Nat) = Z 1 from rfl, Z_mul]
  have hv : d * X t * vD ((t : Int) - 400) = vN d ((t : Int) - 400) * X 400 := by
    unfold vN vD
    have : X t * X (-((t : Int) - 400)).toNat = X ((t : Int) - 400).toNat * X 400 := by rw [X_mul, X_mul]; exact congrArg X (by omega)
    rw [Nat.mul_assoc, this, Nat.mul_assoc]
  unfold In loQ hiQ
  generalize vN d ((t : Int) - 400) = n at *
  have hd0 : 0 < vD ((t : Int) - 400) := X_pos _
  generalize vD ((t : Int) - 400) = e at *
  have h64 : 0 < Z 64 := Z_pos _
  have h4 : 0 < X 400 := X_pos _
  have hm4 : (if sOf f then 1 else 2) ≤ 4 * mOf f := by split <;> omega
  generalize hc : (if sOf f then 1 else 2) = c at *
  generalize Z (eOf f + 1074).toNat = z at *
  generalize Z 1075 = y at *
  generalize Z 64 = k at *
  generalize X 400 = x4 at *
  generalize X t = xt at *
  generalize mOf f = m at *
  have sc1 : ∀ a : Nat, a * uq (eOf f) * e = a * z * e * (k * x4) := fun a => by rw [hu]; ac_rfl
  have sc2 : d * T t * e = n * y * 2 * (k * x4) := by
    rw [hT]
    have : d * (xt * (y * k * 2)) * e = (d * xt * e) * (y * k * 2) := by ac_rfl
    rw [this, hv]; ac_rfl
  have hkx : 0 < k * x4 := Nat.mul_pos h64 h4
  have low : (4 * m * uq (eOf f) - c * uq (eOf f)) = (4 * m - c) * uq (eOf f) := (Nat.sub_mul _ _ _).symm
  have upp : (4 * m * uq (eOf f) + 2 * uq (eOf f)) = (4 * m + 2) * uq (eOf f) := (Nat.add_mul _ _ _).symm
  rw [low, upp]
  have lt1 : ∀ a : Nat, a * z * e < n * y * 2 → a * uq (eOf f) < d * T t := fun a ha => by
    have := Nat.mul_lt_mul_of_pos_right ha hkx
    rw [← sc1, ← sc2] at this
    exact Nat.lt_of_mul_lt_mul_right this
  have lt2 : ∀ a : Nat, n * y * 2 < a * z * e → d * T t < a * uq (eOf f) := fun a ha => by
    have := Nat.mul_lt_mul_of_pos_right ha hkx
    rw [← sc1, ← sc2] at this
    exact Nat.lt_of_mul_lt_mul_right this
  have eq1 : ∀ a : Nat, a * z * e = n * y * 2 → a * uq (eOf f) = d * T t := fun a ha => by
    have := congrArg (· * (k * x4)) ha
    simp only [← sc1, ← sc2] at this
    exact Nat.eq_of_mul_eq_mul_right hd0 this
  have L : hf (f - 1) * e * 2 = (4 * m - c) * z * e := by rw [← eb]; ac_rfl
  have U : hf f * e * 2 = (4 * m + 2) * z * e := by
    rw [ea, show 4 * m + 2 = (2 * m + 1) * 2 by omega]; ac_rfl
  refine ⟨?_, ?_⟩
  · rcases hlo with h | ⟨h, h2⟩
    · exact .inl (lt1 _ (by omega))
    · exact .inr ⟨hpar h2, eq1 _ (by omega)⟩
  · rcases hhi with h | ⟨h, h2⟩
    · exact .inl (lt2 _ (by omega))
    · exact .inr ⟨hpar h2, (eq1 _ (by omega)).symm⟩
/-- the decimal just below with one digit less, and the one just above -/
theorem short_two {f d t : Nat} (hf63 : f < 9223372036854775808) (hx : ex f ≠ 2047) (hm : mOf f ≠ 0) (h : Told f d t) (h10 : d % 10 ≠ 0) :
    (∀ b, PVal (d / 10) ((t : Int) - 399) b → b < f) ∧ (∀ b, PVal (d / 10 + 1) ((t : Int) - 399) b → f < b) := by
  have R := in_rnd hf63 hx hm h
  have hf0 : f ≠ 0 := fun h => hm (by subst h; decide)
  have ep : (t : Int) - 399 = ((t + 1 : Nat) : Int) - 400 := by omega
  have hno := h.c
  have key : ∀ e b, Rnd (vN e ((t : Int) - 399)) (vD ((t : Int) - 399)) b → b ≠ f := fun e b hb hbf => by
    subst hbf
    rw [ep] at hb
    exact hno e (rnd_in hf63 hx hm hb)
  have cross : ∀ e : Nat, vN e ((t : Int) - 399) * vD ((t : Int) - 400) = vN (10 * e) ((t : Int) - 400) * vD ((t : Int) - 399) := fun e => by
    have := v_shift (m := e) (j := 1) (p := (t : Int) - 399) (q := (t : Int) - 400) (by omega)
    rw [Nat.pow_one] at this
    rw [Nat.mul_comm 10 e, this]
  have mon : ∀ a b : Nat, a ≤ b → vN a ((t : Int) - 400) ≤ vN b ((t : Int) - 400) := fun a b hab => Nat.mul_le_mul_right _ hab
  refine ⟨fun b hb => ?_, fun b hb => ?_⟩
  · rcases hb with ⟨_, hb⟩ | ⟨_, hb⟩
    · omega
    · have h1 := key _ _ hb
      have h2 := Rnd.mono (X_pos _) (X_pos _) hb R (by show vN _ _ * vD _ ≤ vN _ _ * vD _; rw [cross]; exact Nat.mul_le_mul_right _ (mon _ _ (by omega)))
      omega
  · rcases hb with ⟨h0, _⟩ | ⟨_, hb⟩
    · omega
    · have h1 := key _ _ hb
      have h2 := Rnd.mono (X_pos _) (X_pos _) R hb (by show vN _ _ * vD _ ≤ vN _ _ * vD _; rw [cross]; exact Nat.mul_le_mul_right _ (mon _ _ (by omega)))
      omega
end FS
end Go.Proofs.YtcbggkdginfakaaGreatDoor
namespace Go.Proofs.YtcbggkdginfakaaGreatDoor
open Go.RowKit
set_option linter.unusedVariables false
set_option linter.unusedSimpArgs false
namespace PF
open PN
theorem fold_ge : ∀ (l : List UInt8) (e : Nat), e ≤ l.foldl (fun a c => a * 10 + (c.toNat - 48)) e
  | [], e => Nat.le_refl _
  | c :: l, e => by
    rw [List.foldl_cons]
    exact Nat.le_trans (by omega) (fold_ge l _)
theorem eloop_small : ∀ (l : List UInt8) (e : Nat), l.foldl (fun a c => a * 10 + (c.toNat - 48)) e < 10000 → eloop l e = l.foldl (fun a c => a * 10 + (c.toNat - 48)) e
  | [], e, _ => rfl
  | c :: l, e, h => by
    have h1 := fold_ge (c :: l) e
    rw [eloop_cons, if_pos (by omega), List.foldl_cons]
    exact eloop_small l _ h
theorem dec_head (j : Nat) : ∃ c t, Lib.decDigits j = c :: t ∧ 48 ≤ c.toNat ∧ c.toNat ≤ 57 := by
  obtain ⟨h1, _⟩ := dec_dig j
  have hl := Lib.decDigits_length j
  have hn := Lib.nDigits_pos j
  cases hd : Lib.decDigits j with
  | nil => rw [hd] at hl; simp at hl; omega
  | cons c t => exact ⟨c, t, rfl, h1 c (by rw [hd]; simp)⟩
theorem sgl_dec (j : Nat) : sgl (Lib.decDigits j) = 0 := by
  obtain ⟨c, t, e, h⟩ := dec_head j
  rw [e, sgl_cons, if_neg (by omega)]
theorem exp_pos (j : Nat) (hj : j < 10000) : expOf (101 :: Lib.decDigits j) = (j : Int) ∧ exl (101 :: Lib.decDigits j) = (101 :: Lib.decDigits j).length := by
  obtain ⟨h1, h2⟩ := dec_dig j
  have hs := sgl_dec j
  obtain ⟨c, t, e, h⟩ := dec_head j
  refine ⟨?_, ?_⟩
  · show (eloop ((Lib.decDigits j).drop (sgl (Lib.decDigits j))) 0 : Int) * (match Lib.decDigits j with | d :: _ => if d.toNat = 45 then -1 else 1 | [] => 1) = _
    rw [hs, List.drop_zero, eloop_small _ _ (by show dv _ < _; omega)]
    rw [show (Lib.decDigits j).foldl (fun a c => a * 10 + (c.toNat - 48)) 0 = j from h2, e]
    show (j : Int) * (if c.toNat = 45 then -1 else 1) = _
    rw [if_neg (by omega)]; omega
  · rw [exl_cons, if_pos (.inl rfl), hs, List.drop_zero, spn_self _ h1, if_pos (by rw [e]; simp), List.length_cons]; omega
theorem exp_neg (j : Nat) (hj : j < 10000) : expOf (101 :: 45 :: Lib.decDigits j) = -(j : Int) ∧ exl (101 :: 45 :: Lib.decDigits j) = (101 :: 45 :: Lib.decDigits j).length := by
  obtain ⟨h1, h2⟩ := dec_dig j
  have hs : sgl (45 :: Lib.decDigits j) = 1 := rfl
  obtain ⟨c, t, e, h⟩ := dec_head j
  refine ⟨?_, ?_⟩
  · show (eloop (Lib.decDigits j) 0 : Int) * (if (45 : UInt8).toNat = 45 then -1 else 1) = _
    rw [eloop_small _ _ (by show dv _ < _; omega), show (Lib.decDigits j).foldl (fun a c => a * 10 + (c.toNat - 48)) 0 = j from h2, if_pos (by rfl)]
    omega
  · rw [exl_cons, if_pos (.inl rfl), hs]
    show (if 0 < spn dg (Lib.decDigits j) then 1 + 1 + spn dg (Lib.decDigits j) else 0) = _
    rw [spn_self _ h1, if_pos (by rw [e]; simp), List.length_cons, List.length_cons]; omega
/-- digits with an exponent -/
theorem pfx_exp (a r : List UInt8) (h0 : a ≠ []) (h : Dig a) (hr : ∃ t, r = 101 :: t) (he : exl r = r.length) : pfx (a ++ r) = (a ++ r).length ∧ hexHead (a ++ r) = false := by
  obtain ⟨t, rfl⟩ := hr
  have hp : 0 < a.length := by cases a with | nil => exact absurd rfl h0 | cons c a => simp
  have hh : hexHead (a ++ 101 :: t) = false := by
    match a, h0, h with
    | [x], _, h =>
      cases t with
      | nil => rfl
      | cons y t => show decide _ = false; rw [decide_eq_false]; intro hc; have := hc.2.1; revert this; decide
    | x :: y :: a, _, h =>
      have := h y (by simp)
      cases a with
      | nil => show decide _ = false; rw [decide_eq_false]; omega
      | cons z a => show decide _ = false; rw [decide_eq_false]; omega
  refine ⟨?_, hh⟩
  have hs : spn dg (a ++ 101 :: t) = a.length := by
    rw [spn_app a _ h, spn_no (by rfl)]; rfl
  have hd1 : (a ++ 101 :: t).drop a.length = 101 :: t := List.drop_left' rfl
  have hm : mant (a ++ 101 :: t) = a.length := by
    unfold mant
    rw [hs, if_pos hp, hd1, if_neg (show ¬ hd46 (101 :: t) = true by show ¬ (decide ((101 : UInt8).toNat = 46) = true); decide)]
  unfold pfx
  rw [hh, if_neg (by decide), hm, if_neg (by omega), hd1, he, List.length_append]
end PF
theorem parse_pw (n j : Nat) (ng : Bool) (q : Int) (hq : q = if ng then -(j : Int) else j) (hn : n < 1000000000000000000) (hj : j ≤ 1000) (W : World) (N : Nms W) :
    Calls Tryz.prog 26 #[.string ⟨(PwT n ng j).toArray⟩] W fun e w' => Below W.heap.size W w' ∧ ∃ b, PVal n q b ∧ e = .returned (PsAns false b) := by
  obtain ⟨h1, h2⟩ := PF.dec_dig n
  have l1 : (Lib.decDigits n).length ≤ 20 := by rw [Lib.decDigits_length]; exact Lib.nDigits_le20 _ (by omega)
  have l2 : (Lib.decDigits j).length ≤ 20 := by rw [Lib.decDigits_length]; exact Lib.nDigits_le20 _ (by omega)
  obtain ⟨c, t, ec, hc⟩ := PF.dec_head n
  have h0 : Lib.decDigits n ≠ [] := by rw [ec]; simp
  obtain ⟨r, hr, he, hx, hl, hPw⟩ : ∃ r : List UInt8, (∃ t, r = 101 :: t) ∧ PF.expOf r = q ∧ PN.exl r = r.length ∧ r.length ≤ 30 ∧ PwT n ng j = Lib.decDigits n ++ r := by
    cases ng with
    | false =>
      obtain ⟨a, b⟩ := PF.exp_pos j (by omega)
      exact ⟨_, ⟨_, rfl⟩, by rw [a, hq]; rfl, b, by rw [List.length_cons]; omega, rfl⟩
    | true =>
      obtain ⟨a, b⟩ := PF.exp_neg j (by omega)
      exact ⟨_, ⟨_, rfl⟩, by rw [a, hq]; rfl, b, by rw [List.length_cons, List.length_cons]; omega, rfl⟩
  obtain ⟨p1, p2⟩ := PF.pfx_exp _ r h0 h1 hr hx
  rw [hPw]
  have hsz : (⟨(Lib.decDigits n ++ r).toArray⟩ : ByteArray).size = (Lib.decDigits n ++ r).length := by simp [ByteArray.size]
  have hlen : (Lib.decDigits n ++ r).length ≤ 60 := by rw [List.length_append]; omega
  have hpos : 0 < (Lib.decDigits n ++ r).length := by rw [List.length_append, ec]; simp; omega
  have hmf : PF.mf (Lib.decDigits n) PF.ls0 = ⟨n, 0, false⟩ := by
    rw [show PF.ls0 = ⟨0, 0, false⟩ from rfl, PF.mf_dig _ _ _ _ h1]
    show PF.LS.mk (PF.dv _) _ _ = _
    rw [h2]; rfl
  have V : ∀ b, PVal n q b → b ≤ FS.INF := fun b h => by
    rcases h with ⟨_, h⟩ | ⟨_, h⟩
    · rw [h]; exact Nat.zero_le _
    · exact h.le
  have R := read_dec ⟨(Lib.decDigits n ++ r).toArray⟩ W N (by omega) (by omega) (by rw [hsz]; exact p1) p2 (Lib.decDigits n) r (by simp) (fun c hc => .inr (h1 c hc)) (fun c t h => by
    obtain ⟨t', h'⟩ := hr
    rw [h] at h'; injection h' with e1 e2; rw [e1]; exact .inl rfl) n 0 (by rw [hmf]; exact (Nat.mul_one n).symm) hn
  rw [hmf, he] at R
  rw [show q - ((0 : Nat) : Int) = q by omega] at R
  refine parse_pos ⟨(Lib.decDigits n ++ r).toArray⟩ W (by omega) (by omega) ?_ (PVal n q) V (hd R)
  have hh : (⟨(Lib.decDigits n ++ r).toArray⟩ : ByteArray)[0]'(by omega) = c := by
    show (Lib.decDigits n ++ r).toArray[0] = c
    simp [ec]
  rw [hh]
  omega
namespace PF
theorem dv_app (a : List UInt8) (c : UInt8) : dv (a ++ [c]) = dv a * 10 + (c.toNat - 48) := by
  unfold dv; rw [fold_app]; rfl
theorem dv_lt : ∀ (n : Nat) (l : List UInt8), l.length = n → Dig l → dv l < 10 ^ n
  | 0, l, h, _ => by rw [List.eq_nil_of_length_eq_zero h]; decide
  | n + 1, l, h, hd => by
    have hne : l ≠ [] := fun e => by rw [e] at h; cases h
    have e := List.dropLast_concat_getLast hne
    have h1 := dv_lt n l.dropLast (by rw [List.length_dropLast]; omega) (fun x hx => hd x (List.dropLast_subset l hx))
    have hc := hd _ (List.getLast_mem hne)
    rw [← e, dv_app, Nat.pow_succ]
    omega
theorem dv_take (l : List UInt8) (k : Nat) (h : k < l.length) : dv (l.take (k + 1)) = dv (l.take k) * 10 + ((l[k]'h).toNat - 48) := by
  rw [List.take_succ_eq_append_getElem h, dv_app]
/-- all digits but the last -/
theorem dv_init {l : List UInt8} (hne : l ≠ []) (hd : Dig l) : dv (l.take (l.length - 1)) = dv l / 10 := by
  have hp : 0 < l.length := by cases l with | nil => exact absurd rfl hne | cons c l => simp
  have h := dv_take l (l.length - 1) (by omega)
  rw [show l.length - 1 + 1 = l.length by omega, List.take_of_length_le (Nat.le_refl _)] at h
  have hc := hd _ (List.getElem_mem (l := l) (n := l.length - 1) (by omega))
  omega
theorem dec_first {d : Nat} (h : 0 < d) : ∀ c t, Lib.decDigits d = c :: t → c.toNat ≠ 48 := by
  induction d using Nat.strongRecOn with
  | _ d ih =>
    intro c t e
    by_cases c10 : d < 10
    · rw [Lib.decDigits_one c10] at e
      injection e with e1 e2
      rw [← e1, UInt8.toNat_ofNat']; omega
    · have e2 : Lib.decDigits d = Lib.decDigits (d / 10) ++ [UInt8.ofNat (48 + d % 10)] := by
        conv => lhs; rw [Lib.decDigits]
        rw [dif_neg c10]
      obtain ⟨c', t', e3, _⟩ := dec_head (d / 10)
      rw [e2, e3, List.cons_append] at e
      injection e with e4 e5
      rw [← e4]
      exact ih (d / 10) (by omega) (by omega) c' t' e3
theorem dec_last (d : Nat) (h10 : d % 10 ≠ 0) (h : Lib.decDigits d ≠ []) : ((Lib.decDigits d).getLast h).toNat ≠ 48 := by
  have hv := (dec_dig d).2
  have hD := (dec_dig d).1
  have e := List.dropLast_concat_getLast h
  have hc := hD _ (List.getLast_mem h)
  intro h48
  rw [← e, dv_app, h48] at hv
  omega
end PF
end Go.Proofs.YtcbggkdginfakaaGreatDoor
