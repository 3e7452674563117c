/- internal/strconv.decimal: the block as it lies in memory; trim. Numbers held digit by digit, divided and multiplied by powers of two: plain numbers. No function of the program in sight. Numbers held digit by digit, multiplied by a power of two from the last digit on; how many digits they grow by. No function of the program in sight. What a row of digits is worth while it is shifted: it never falls below a place half way between two floats. No function of the program in sight. A row of digits rounded to a whole number: the nearest float. Which power of two a number stands at. No function of the program in sight. What shifts to the right and to the left make of a row of digits; the bounds that the loops of floatBits live by. No function of the program in sight. internal/strconv.rightShift. internal/strconv.prefixIsLessThan, leftShift. (*internal/strconv.decimal).Shift, shouldRoundUp, RoundedInteger. (*internal/strconv.decimal).RoundedInteger. -/
import Derived.Test.YteckfdohgiddgaaGreatDoorPPar
import GoSem.PinnedTables
import Derived.Test.YteckfdohgiddgaaGreatDoorPVal
import Derived.Deep.DeepCutAuto
import Derived.Deep.CutBlock
import Derived.Deep.QuietTactic
import Derived.BigQuiet
namespace Go.Proofs.YteckfdohgiddgaaGreatDoor
open Go.RowKit
set_option linter.unusedVariables false
set_option linter.unusedSimpArgs false
namespace DN
/-- the cells of a decimal -/
def dcl (f : Nat → Nat) (nd : Nat) (dp : Int) (tr : Bool) : List Value := ((List.range 800).map fun i => Value.int .u8 (f i : Int)) ++ [.int .i64 (nd : Int), .int .i64 dp, .bool false, .bool tr]
def upd (f : Nat → Nat) (i x : Nat) : Nat → Nat := fun j => if j = i then x else f j
theorem mr_len (f : Nat → Nat) : ((List.range 800).map fun i => Value.int .u8 (f i : Int)).length = 800 := by rw [List.length_map, List.length_range]
theorem dcl_len (f : Nat → Nat) (nd : Nat) (dp : Int) (tr : Bool) : (dcl f nd dp tr).length = 804 := by unfold dcl; rw [List.length_append, mr_len]; rfl
theorem dcl_dig (f : Nat → Nat) (nd : Nat) (dp : Int) (tr : Bool) (i : Nat) (h : i < 800) : (dcl f nd dp tr)[i]'(by rw [dcl_len]; omega) = .int .u8 (f i : Int) := by
  unfold dcl
  rw [List.getElem_append_left (by rw [mr_len]; exact h), List.getElem_map, List.getElem_range]
theorem set_tail (f : Nat → Nat) (l : List Value) (i : Nat) (v : Value) : (((List.range 800).map fun i => Value.int .u8 (f i : Int)) ++ l).set (800 + i) v = ((List.range 800).map fun i => Value.int .u8 (f i : Int)) ++ l.set i v := by
  rw [List.set_append_right _ _ (by rw [mr_len]; omega), mr_len, Nat.add_sub_cancel_left]
theorem set_nd (f : Nat → Nat) (nd nd2 : Nat) (dp : Int) (tr : Bool) : (dcl f nd dp tr).set 800 (.int .i64 (nd2 : Int)) = dcl f nd2 dp tr := set_tail f _ 0 _
theorem set_tr (f : Nat → Nat) (nd : Nat) (dp : Int) (tr tr2 : Bool) : (dcl f nd dp tr).set 803 (.bool tr2) = dcl f nd dp tr2 := set_tail f _ 3 _
end DN
/-- the decimal in block b -/
structure Dc (w : World) (b : Nat) (f : Nat → Nat) (nd : Nat) (dp : Int) (tr : Bool) : Prop where
  k : Bk w b 292 (DN.dcl f nd dp tr)
section
variable {w : World} {b : Nat} {f : Nat → Nat} {nd : Nat} {dp : Int} {tr : Bool}
theorem Dc.lt (D : Dc w b f nd dp tr) : b < w.heap.size := D.k.lt
theorem Dc.dig (D : Dc w b f nd dp tr) (i : Nat) (h : i < 800) : w.cell? ⟨b, i, none⟩ = some (.int .u8 (f i : Int)) := by
  rw [D.k.cell i (by rw [DN.dcl_len]; omega), DN.dcl_dig f nd dp tr i h]
theorem Dc.fz (D : Dc w b f nd dp tr) (i : Nat) : w.frozen? ⟨b, i, none⟩ = false := D.k.frozen i
theorem Dc.snd (D : Dc w b f nd dp tr) (nd2 : Nat) : Dc (w.setCell ⟨b, 800, none⟩ (.int .i64 (nd2 : Int))) b f nd2 dp tr := ⟨by rw [← DN.set_nd f nd nd2 dp tr]; exact D.k.set 800 _⟩
theorem Dc.str (D : Dc w b f nd dp tr) (tr2 : Bool) : Dc (w.setCell ⟨b, 803, none⟩ (.bool tr2)) b f nd dp tr2 := ⟨by rw [← DN.set_tr f nd dp tr tr2]; exact D.k.set 803 _⟩
theorem Dc.drew (D : Dc w b f nd dp tr) (n : Nat) : Dc (w.drewN n) b f nd dp tr := ⟨D.k⟩
end
end Go.Proofs.YteckfdohgiddgaaGreatDoor
namespace Go.Proofs.YteckfdohgiddgaaGreatDoor
set_option linter.unusedVariables false
namespace DN
/-- the number of the first n digits -/
def dvf (f : Nat → Nat) : Nat → Nat
  | 0 => 0
  | n + 1 => dvf f n * 10 + (f n - 48)
/-- the same, noughts behind the last digit -/
def pad (f : Nat → Nat) (nd r : Nat) : Nat := if r ≤ nd then dvf f r else dvf f nd * 10 ^ (r - nd)
/-- the digit at r -/
def dgt (f : Nat → Nat) (nd r : Nat) : Nat := if r < nd then f r - 48 else 0
theorem pad_le {f : Nat → Nat} {nd r : Nat} (h : r ≤ nd) : pad f nd r = dvf f r := if_pos h
theorem pad_ge {f : Nat → Nat} {nd r : Nat} (h : nd ≤ r) : pad f nd r = dvf f nd * 10 ^ (r - nd) := by
  unfold pad
  split
  · have : r = nd := by omega
    subst this; simp
  · rfl
theorem pad_succ (f : Nat → Nat) (nd r : Nat) : pad f nd (r + 1) = 10 * pad f nd r + dgt f nd r := by
  unfold dgt
  by_cases h : r < nd
  · rw [pad_le (by omega), pad_le (by omega), if_pos h, dvf]; omega
  · rw [pad_ge (by omega), pad_ge (by omega), if_neg h, show r + 1 - nd = r - nd + 1 by omega, Nat.pow_succ, ← Nat.mul_assoc]; omega
/-- every digit is one -/
def Ok (f : Nat → Nat) (nd : Nat) : Prop := ∀ i, i < nd → 48 ≤ f i ∧ f i ≤ 57
theorem dgt_lt {f : Nat → Nat} {nd : Nat} (h : Ok f nd) (r : Nat) : dgt f nd r < 10 := by
  unfold dgt
  split
  · rename_i hr; have := h r hr; omega
  · decide
/-- a digit more: what is cut off, and what stays -/
theorem step_mod (A c K : Nat) (hc : c < 10) : (10 * A + c) % (10 * K) = 10 * (A % K) + c := by
  rcases Nat.eq_zero_or_pos K with h | h
  · subst h; simp
  have e := Nat.div_add_mod A K
  have hm := Nat.mod_lt A h
  have : 10 * A + c = 10 * (A % K) + c + 10 * K * (A / K) := by
    have : 10 * K * (A / K) = 10 * (K * (A / K)) := Nat.mul_assoc _ _ _
    omega
  rw [this, Nat.add_mul_mod_self_left, Nat.mod_eq_of_lt (by omega)]
/-- digits of a number that is cut: the leading ones -/
theorem dvf_digits {f : Nat → Nat} {M m : Nat} (hM : M < 10 ^ m) : ∀ j, j ≤ m → (∀ i, i < j → f i = 48 + M / 10 ^ (m - 1 - i) % 10) → dvf f j = M / 10 ^ (m - j)
  | 0, _, _ => by rw [dvf, Nat.sub_zero, Nat.div_eq_of_lt hM]
  | j + 1, hj, h => by
    rw [dvf, dvf_digits hM j (by omega) (fun i hi => h i (by omega)), h j (by omega), Nat.add_sub_cancel_left]
    have e : m - j = (m - 1 - j) + 1 := by omega
    have e2 : m - (j + 1) = m - 1 - j := by omega
    rw [e, e2, Nat.pow_succ, ← Nat.div_div_eq_div_mul]
    generalize M / 10 ^ (m - 1 - j) = x
    omega
/-- noughts at the end -/
theorem dvf_zeros {f : Nat → Nat} {m : Nat} : ∀ k, (∀ i, m ≤ i → i < m + k → f i = 48) → dvf f (m + k) = dvf f m * 10 ^ k
  | 0, _ => by simp
  | k + 1, h => by
    rw [← Nat.add_assoc, dvf, dvf_zeros k (fun i h1 h2 => h i h1 (by omega)), h (m + k) (by omega) (by omega), Nat.pow_succ, ← Nat.mul_assoc]
    omega
/-- the quotients of the growing prefixes are the prefixes of the last quotient -/
theorem quo_pre {f : Nat → Nat} {nd R K : Nat} (hok : Ok f nd) : ∀ j i, pad f nd (R + i) / K = pad f nd (R + (i + j)) / K / 10 ^ j
  | 0, i => by simp
  | j + 1, i => by
    rw [quo_pre hok j i]
    have h := pad_succ f nd (R + (i + j))
    have hd := dgt_lt hok (R + (i + j))
    rw [show R + (i + (j + 1)) = R + (i + j) + 1 by omega, h, Nat.pow_succ, Nat.mul_comm (10 ^ j) 10, ← Nat.div_div_eq_div_mul]
    congr 1
    rw [Nat.div_div_eq_div_mul, Nat.mul_comm K 10, ← Nat.div_div_eq_div_mul]
    congr 1
    omega
end DN
end Go.Proofs.YteckfdohgiddgaaGreatDoor
namespace Go.Proofs.YteckfdohgiddgaaGreatDoor
set_option linter.unusedVariables false
namespace DN
theorem dvf_lo (f : Nat → Nat) (j : Nat) : ∀ k, dvf f j * 10 ^ k ≤ dvf f (j + k)
  | 0 => by simp
  | k + 1 => by
    have := dvf_lo f j k
    rw [← Nat.add_assoc, dvf, Nat.pow_succ, ← Nat.mul_assoc]; omega
theorem dvf_hi {f : Nat → Nat} (j : Nat) : ∀ k, Ok f (j + k) → dvf f (j + k) < (dvf f j + 1) * 10 ^ k
  | 0, _ => by simp
  | k + 1, h => by
    have := dvf_hi j k (fun i hi => h i (by omega))
    have h2 := h (j + k) (by omega)
    rw [← Nat.add_assoc, dvf, Nat.pow_succ, ← Nat.mul_assoc]; omega
theorem dvf_lt {f : Nat → Nat} {n : Nat} (hok : Ok f n) : dvf f n < 10 ^ n := by
  have := dvf_hi (f := f) 0 n (by rw [Nat.zero_add]; exact hok)
  rw [Nat.zero_add, dvf, Nat.zero_add, Nat.one_mul] at this; exact this
theorem dvf_ge {f : Nat → Nat} {n : Nat} (h0 : 0 < n) (h : 49 ≤ f 0) : 10 ^ (n - 1) ≤ dvf f n := by
  have h1 := dvf_lo f 1 (n - 1)
  rw [show 1 + (n - 1) = n by omega] at h1
  have : 1 ≤ dvf f 1 := by rw [dvf, dvf]; omega
  exact Nat.le_trans (Nat.le_mul_of_pos_left _ this) h1
section
variable {f s : Nat → Nat} {n L : Nat}
end
/-- the sheet for shifts to the left: how many digits come, and from which digits on -/
def chD (k : Nat) : Nat := (Pinned.cheatRows.getD k (0, [])).1
def chS (k : Nat) : List UInt8 := (Pinned.cheatRows.getD k (0, [])).2
def fOf (l : List UInt8) (i : Nat) : Nat := (l.getD i 0).toNat
structure Ch (k : Nat) : Prop where
  v : dvf (fOf (chS k)) (chS k).length = 5 ^ k
  l : (chS k).length + chD k = k + 1
  d1 : 1 ≤ chD k
  ls : 49 ≤ fOf (chS k) ((chS k).length - 1)
  ok : Ok (fOf (chS k)) (chS k).length
  hi : 2 ^ k < 10 ^ chD k
  lo : 10 ^ (chD k - 1) ≤ 2 ^ k
  s1 : 1 ≤ (chS k).length
/-- what the new number of digits is -/
def newD (f : Nat → Nat) (nd k : Nat) : Nat := if dvf f nd * 10 ^ (chS k).length < 5 ^ k * 10 ^ nd then nd + chD k - 1 else nd + chD k
theorem newD_bd {f : Nat → Nat} {nd k : Nat} (C : Ch k) (hok : Ok f nd) (h0 : 0 < nd) (hf : 49 ≤ f 0) : 10 ^ (newD f nd k - 1) ≤ dvf f nd * 2 ^ k ∧ dvf f nd * 2 ^ k < 10 ^ newD f nd k ∧ nd ≤ newD f nd k ∧ newD f nd k ≤ nd + chD k := by
  have hv1 := dvf_ge h0 hf
  have hv2 := dvf_lt hok
  have hd1 := C.d1
  have hP : 0 < 10 ^ (chS k).length := Nat.pow_pos (by decide)
  have e10 : 5 ^ k * 2 ^ k = 10 ^ k := by rw [← Nat.mul_pow]
  have hl := C.l
  unfold newD
  generalize (chS k).length = L at *
  have key : ∀ x, x * 10 ^ L * 2 ^ k = x * 2 ^ k * 10 ^ L := fun x => Nat.mul_right_comm _ _ _
  have key2 : 5 ^ k * 10 ^ nd * 2 ^ k = 10 ^ (nd + chD k - 1) * 10 ^ L := by
    rw [Nat.mul_right_comm, e10, ← Nat.pow_add, ← Nat.pow_add]; congr 1; omega
  split
  · rename_i hc
    have h1 := Nat.mul_lt_mul_of_pos_right hc (Nat.two_pow_pos k)
    rw [key, key2] at h1
    have h2 := Nat.lt_of_mul_lt_mul_right h1
    refine ⟨?_, h2, by omega, by omega⟩
    have h3 := Nat.mul_le_mul hv1 C.lo
    rw [← Nat.pow_add] at h3
    have e : nd - 1 + (chD k - 1) = nd + chD k - 1 - 1 := by omega
    rw [e] at h3; exact h3
  · rename_i hc
    have h1 := Nat.mul_le_mul_right (2 ^ k) (Nat.le_of_not_lt hc)
    rw [key, key2] at h1
    have h2 := Nat.le_of_mul_le_mul_right h1 hP
    refine ⟨h2, ?_, by omega, by omega⟩
    have h3 := Nat.mul_lt_mul_of_lt_of_le hv2 (Nat.le_of_lt C.hi) (Nat.pow_pos (by decide))
    rw [← Nat.pow_add] at h3; exact h3
/-- the digits put down so far, from the last one on -/
def LG (g : Nat → Nat) (T i a : Nat) : Prop := ∀ j, i - a ≤ j → j < min i 800 → g j = 48 + T / 10 ^ (i - 1 - j) % 10
def LT (tr : Bool) (T i a : Nat) : Bool := tr || decide (T % 10 ^ (min a (i - 800)) ≠ 0)
theorem LG.start (g : Nat → Nat) (T i : Nat) : LG g T i 0 := fun j h1 h2 => absurd h2 (by omega)
theorem LT.start (tr : Bool) (T i : Nat) : LT tr T i 0 = tr := by
  unfold LT; rw [Nat.zero_min, Nat.pow_zero, Nat.mod_one]; simp
theorem LG.put {g : Nat → Nat} {T i a x : Nat} (h : LG g T i a) (ha : a < i) (hx : x = 48 + T / 10 ^ a % 10) : LG (fun j => if j = i - (a + 1) then x else g j) T i (a + 1) := by
  intro j h1 h2
  show (if j = i - (a + 1) then x else g j) = _
  by_cases e : j = i - (a + 1)
  · rw [if_pos e, hx, show i - 1 - j = a by omega]
  · rw [if_neg e]; exact h j (by omega) h2
theorem LG.skip {g : Nat → Nat} {T i a : Nat} (h : LG g T i a) (h8 : 800 ≤ i - (a + 1)) : LG g T i (a + 1) := fun j h1 h2 => h j (by omega) h2
theorem LT.put {tr : Bool} {T i a : Nat} (h8 : i - (a + 1) < 800) (ha : a < i) : LT tr T i (a + 1) = LT tr T i a := by
  unfold LT; rw [show min (a + 1) (i - 800) = min a (i - 800) by omega]
theorem mod_up (T a : Nat) : T % 10 ^ (a + 1) = T % 10 ^ a + 10 ^ a * (T / 10 ^ a % 10) := by
  rw [Nat.pow_succ, Nat.mod_mul]
theorem LT.zero {tr : Bool} {T i a : Nat} (h8 : 800 ≤ i - (a + 1)) (h : T / 10 ^ a % 10 = 0) : LT tr T i (a + 1) = LT tr T i a := by
  unfold LT; rw [show min (a + 1) (i - 800) = a + 1 by omega, show min a (i - 800) = a by omega, mod_up, h, Nat.mul_zero, Nat.add_zero]
theorem LT.one {tr : Bool} {T i a : Nat} (h8 : 800 ≤ i - (a + 1)) (h : T / 10 ^ a % 10 ≠ 0) : LT tr T i (a + 1) = true := by
  unfold LT
  rw [show min (a + 1) (i - 800) = a + 1 by omega, mod_up, decide_eq_true, Bool.or_true]
  have : 0 < 10 ^ a * (T / 10 ^ a % 10) := Nat.mul_pos (Nat.pow_pos (by decide)) (by omega)
  omega
end DN
end Go.Proofs.YteckfdohgiddgaaGreatDoor
namespace Go.Proofs.YteckfdohgiddgaaGreatDoor
set_option linter.unusedVariables false
namespace DN
open FS
theorem X_def (n : Nat) : (10 : Nat) ^ n = X n := rfl
theorem Z_def (n : Nat) : (2 : Nat) ^ n = Z n := rfl
theorem Z_54 : 18014398509481984 = Z 54 := rfl
theorem X_five (d : Nat) : X d = 5 ^ d * Z d := by unfold X Z; rw [← Nat.mul_pow]
theorem Z_le_X (d : Nat) : Z d ≤ X d := Nat.pow_le_pow_left (by decide) d
def five (k : Nat) : Nat := 5 ^ k
theorem five_305 : five 305 ≤ Z 716 := by decide +kernel
theorem five_le {a b : Nat} (h : a ≤ b) : five a ≤ five b := Nat.pow_le_pow_right (by decide) h
theorem X_five' (d : Nat) : X d = five d * Z d := X_five d
attribute [local irreducible] X Z five
theorem int_lt_or (a b : Int) : a < b ∨ b ≤ a := by omega
/-- v * 10^p * 2^e, in units of 10^-3000 * 2^-3000 -/
def SV (v : Nat) (p e : Int) : Nat := v * X (p + 3000).toNat * Z (e + 3000).toNat
/-- the number s that is held stands for xh: nothing of it is lost that the grid shows -/
structure Keep (xh G s : Nat) (tr : Bool) : Prop where
  le : s ≤ xh
  eq : tr = false → s = xh
  lt : tr = true → s < xh
  gr : ∀ h, h * G ≤ xh → h * G ≤ s
theorem Keep.cut {xh G s : Nat} {tr : Bool} (k : Keep xh G s tr) {Q i U : Nat} (hU : 0 < U) (he : s * 10 ^ (i - 800) = Q * U) (hG : 800 < i → ∃ c, G = U * c) :
    Keep xh G (Q / 10 ^ (i - 800) * U) (tr || decide (Q % 10 ^ (i - 800) ≠ 0)) := by
  have hT : 0 < 10 ^ (i - 800) := Nat.pow_pos (by decide)
  obtain ⟨T, hTe⟩ : ∃ T, T = 10 ^ (i - 800) := ⟨_, rfl⟩
  have hi : ¬ 800 < i → T = 1 := fun h => by rw [hTe, show i - 800 = 0 by omega, Nat.pow_zero]
  rw [← hTe] at he hT ⊢
  have hdm := Nat.div_add_mod Q T
  have hm := Nat.mod_lt Q hT
  obtain ⟨q, hq⟩ : ∃ q, q = Q / T := ⟨_, rfl⟩
  obtain ⟨r, hr⟩ : ∃ r, r = Q % T := ⟨_, rfl⟩
  rw [← hq, ← hr] at hdm
  rw [← hr] at hm
  rw [← hq, ← hr]
  have e1 : s * T = q * U * T + r * U := by
    rw [he, ← hdm, Nat.add_mul, Nat.mul_comm T q, Nat.mul_right_comm]
  have hle : q * U ≤ s := Nat.le_of_mul_le_mul_right (by omega) hT
  have hlt : s < q * U + U := by
    have : r * U < T * U := Nat.mul_lt_mul_of_pos_right hm hU
    have h2 : (q * U + U) * T = q * U * T + T * U := by rw [Nat.add_mul, Nat.mul_comm U T]
    exact Nat.lt_of_mul_lt_mul_right (a := T) (by omega)
  have hr0 : r = 0 → s = q * U := fun h => by
    rw [h, Nat.zero_mul, Nat.add_zero] at e1
    exact Nat.mul_right_cancel hT e1
  have hr1 : r ≠ 0 → q * U < s := fun h => by
    have : 0 < r * U := Nat.mul_pos (by omega) hU
    exact Nat.lt_of_mul_lt_mul_right (a := T) (by omega)
  refine ⟨Nat.le_trans hle k.le, fun h => ?_, fun h => ?_, fun h hh => ?_⟩
  · rw [Bool.or_eq_false_iff] at h
    have : r = 0 := by simpa using h.2
    rw [← hr0 this]; exact k.eq h.1
  · by_cases c : r = 0
    · have : tr = true := by simpa [c] using h
      rw [← hr0 c]; exact k.lt this
    · exact Nat.lt_of_lt_of_le (hr1 c) k.le
  · have h1 := k.gr h hh
    by_cases c : 800 < i
    · obtain ⟨x, hx⟩ := hG c
      have e2 : h * G = h * x * U := by rw [hx]; ac_rfl
      rw [e2] at h1 ⊢
      have : h * x * U < (q + 1) * U := by rw [Nat.add_mul, Nat.one_mul]; omega
      have := Nat.lt_of_mul_lt_mul_right this
      exact Nat.mul_le_mul_right _ (by omega)
    · have h1' := hi c
      have : r = 0 := by rw [h1'] at hm; omega
      rw [← hr0 this]; exact h1
/-- a number's leading digits, noughts behind them left out -/
theorem cut_val {g : Nat → Nat} {Q i m : Nat} (hi : 1 ≤ i) (h1 : 10 ^ (i - 1) ≤ Q) (h2 : Q < 10 ^ i) (hg : ∀ j, j < min i 800 → g j = 48 + Q / 10 ^ (i - 1 - j) % 10) (hm : m ≤ min i 800) (hz : ∀ j, m ≤ j → j < min i 800 → g j = 48) :
    dvf g m * 10 ^ (min i 800 - m) = Q / 10 ^ (i - 800) ∧ 1 ≤ m ∧ Ok g m ∧ 49 ≤ g 0 := by
  have h0 : 49 ≤ g 0 := by
    have e := hg 0 (by omega)
    rw [Nat.sub_zero] at e
    have hp : 0 < 10 ^ (i - 1) := Nat.pow_pos (by decide)
    have a : 1 ≤ Q / 10 ^ (i - 1) := (Nat.one_le_div_iff hp).2 h1
    have b : Q / 10 ^ (i - 1) < 10 := by
      apply Nat.div_lt_of_lt_mul
      have e1 : 10 ^ (i - 1 + 1) = 10 ^ (i - 1) * 10 := Nat.pow_succ ..
      rw [show i - 1 + 1 = i by omega] at e1
      omega
    rw [Nat.mod_eq_of_lt b] at e
    omega
  refine ⟨?_, ?_, fun j hj => ?_, h0⟩
  · have a := dvf_digits (f := g) h2 (min i 800) (by omega) (fun j hj => hg j hj)
    have b := dvf_zeros (f := g) (m := m) (min i 800 - m) (fun j h1 h2 => hz j h1 (by omega))
    rw [show m + (min i 800 - m) = min i 800 by omega] at b
    rw [← b, a, show i - min i 800 = i - 800 by omega]
  · rcases Nat.eq_zero_or_pos m with c | c
    · have := hz 0 (by omega) (by omega); omega
    · exact c
  · have := hg j (by omega)
    have h10 := Nat.mod_lt (Q / 10 ^ (i - 1 - j)) (show 0 < 10 by decide)
    omega
theorem SV_pos (p e : Int) : 0 < SV 1 p e := Nat.mul_pos (Nat.mul_pos (by decide) (X_pos _)) (Z_pos _)
theorem SV_mul (v : Nat) (p e : Int) : SV v p e = v * SV 1 p e := by unfold SV; rw [Nat.one_mul, Nat.mul_assoc]
theorem SV_p {v : Nat} {p p' e : Int} (h : p = p') : SV v p e = SV v p' e := by rw [h]
theorem SV_ten {v n : Nat} {p e : Int} (hp : 0 ≤ p + 3000) : SV (v * 10 ^ n) p e = SV v (p + n) e := by
  unfold SV
  have e1 : (p + n + 3000).toNat = n + (p + 3000).toNat := by omega
  rw [e1, ← X_mul]
  rw [X_def]; ac_rfl
/-- a row of digits under way -/
structure SS (xh G : Nat) (f : Nat → Nat) (nd : Nat) (dp : Int) (tr : Bool) (e : Int) : Prop where
  n1 : 1 ≤ nd
  n8 : nd ≤ 800
  ok : Ok f nd
  f0 : 49 ≤ f 0
  kp : Keep xh G (SV (dvf f nd) (dp - nd) e) tr
/-- 10^(dp-1) * 2^e is not above the number -/
theorem SS.lo {xh G : Nat} {f : Nat → Nat} {nd : Nat} {dp : Int} {tr : Bool} {e : Int} (S : SS xh G f nd dp tr e) (hd : -2100 ≤ dp) : SV 1 (dp - 1) e ≤ SV (dvf f nd) (dp - nd) e := by
  have h := dvf_ge S.n1 S.f0
  have h8 := S.n8
  have h1 := S.n1
  have e1 : dp - 1 = dp - nd + (nd - 1 : Nat) := by omega
  rw [e1, ← SV_ten (by omega), Nat.one_mul, SV_mul (10 ^ (nd - 1)), SV_mul (dvf f nd)]
  exact Nat.mul_le_mul_right _ h
theorem SS.hi {xh G : Nat} {f : Nat → Nat} {nd : Nat} {dp : Int} {tr : Bool} {e : Int} (S : SS xh G f nd dp tr e) (hd : -2100 ≤ dp) : SV (dvf f nd) (dp - nd) e < SV 1 dp e := by
  have h := dvf_lt S.ok
  have h8 := S.n8
  have e1 : dp = dp - nd + nd := by omega
  conv => rhs; rw [e1]
  rw [← SV_ten (by omega), Nat.one_mul, SV_mul (10 ^ nd), SV_mul (dvf f nd)]
  exact Nat.mul_lt_mul_of_pos_right h (SV_pos _ _)
/-- a shift: s = Q * 10^(dp' - i) * 2^e' -/
theorem SS.shift {xh G : Nat} {f : Nat → Nat} {nd : Nat} {dp : Int} {tr : Bool} {e : Int} (S : SS xh G f nd dp tr e) {g : Nat → Nat} {Q i m : Nat} {dp' e' : Int}
    (hi : 1 ≤ i) (h1 : 10 ^ (i - 1) ≤ Q) (h2 : Q < 10 ^ i) (hg : ∀ j, j < min i 800 → g j = 48 + Q / 10 ^ (i - 1 - j) % 10) (hm : m ≤ min i 800) (hz : ∀ j, m ≤ j → j < min i 800 → g j = 48)
    (hdp : -2100 ≤ dp') (he : SV (dvf f nd) (dp - nd) e * 10 ^ (i - 800) = Q * SV 1 (dp' - (min i 800 : Nat)) e') (hG : 800 < i → ∃ c, G = SV 1 (dp' - (min i 800 : Nat)) e' * c) :
    SS xh G g m dp' (tr || decide (Q % 10 ^ (i - 800) ≠ 0)) e' := by
  obtain ⟨a, b, c, d⟩ := cut_val hi h1 h2 hg hm hz
  refine ⟨b, by omega, c, d, ?_⟩
  have k := S.kp.cut (SV_pos _ _) he hG
  have ev : Q / 10 ^ (i - 800) * SV 1 (dp' - (min i 800 : Nat)) e' = SV (dvf g m) (dp' - m) e' := by
    rw [← SV_mul, ← a, SV_ten (by omega)]
    exact SV_p (by omega)
  rw [ev] at k
  exact k
theorem right_exact {v Q k y a b c d : Nat} (z : Nat) (h : v * 10 ^ c = 10 ^ d * 2 ^ k * Q) (hab : a + y + d = b + c) : v * 10 ^ a * z * 10 ^ y = Q * 10 ^ b * (z * 2 ^ k) := by
  have hp : 0 < 10 ^ d := Nat.pow_pos (by decide)
  apply Nat.mul_right_cancel hp
  have e1 : v * 10 ^ a * z * 10 ^ y * 10 ^ d = v * (10 ^ a * 10 ^ y * 10 ^ d) * z := by ac_rfl
  have e2 : Q * 10 ^ b * (z * 2 ^ k) * 10 ^ d = (10 ^ d * 2 ^ k * Q) * 10 ^ b * z := by ac_rfl
  rw [e1, e2, ← h, ← Nat.pow_add, ← Nat.pow_add, hab, Nat.pow_add]; ac_rfl
theorem right_exactX {v Q k y a b c d : Nat} (z : Nat) (h : v * 10 ^ c = 10 ^ d * 2 ^ k * Q) (hab : a + y + d = b + c) : v * X a * z * 10 ^ y = Q * X b * (z * 2 ^ k) := by
  rw [← X_def a, ← X_def b]; exact right_exact z h hab
/-- a power of five below one of two -/
theorem ten_two (x : Nat) (h : x ≤ 305) : X x ≤ Z (716 + x) := by
  have e : X x = five x * Z x := X_five' x
  have h5 : five x ≤ five 305 := five_le h
  rw [e, ← Z_mul 716 x]
  exact Nat.mul_le_mul_right _ (Nat.le_trans h5 five_305)
/-- 800 digits show the grid -/
theorem grid_ok {xh j : Nat} {dp e : Int} (hx : xh < Z (j + 1979) * X 3000) (hlo : SV 1 (dp - 1) e ≤ xh) (he : e ≤ j) (he2 : -1200 ≤ e) (hd : -2100 ≤ dp) (hd2 : dp ≤ 800) : ∃ c, Z (j + 1895) * X 3000 = SV 1 (dp - 800) e * c := by
  have key : e + dp ≤ (j : Int) - 305 := by
    rcases int_lt_or ((j : Int) - 305) (e + dp) with c | c
    rotate_left
    · exact c
    exfalso
    unfold SV at hlo
    rw [Nat.one_mul] at hlo
    have hlt := Nat.lt_of_le_of_lt hlo hx
    obtain ⟨E, hE⟩ : ∃ E : Nat, (E : Int) = e + 3000 := ⟨(e + 3000).toNat, by omega⟩
    -- t = 1105 - j + e
    by_cases ht : e + 1105 ≤ (j : Int) + 800
    · -- the power of ten alone is too great
      have h1 : X 3000 * Z (j + 1979) ≤ X (dp - 1 + 3000).toNat * Z (e + 3000).toNat := by
        by_cases c1 : (j : Int) + 1979 ≤ e + 3000
        · exact Nat.mul_le_mul (X_mono (by omega)) (Z_mono' (by omega))
        · obtain ⟨d, hd⟩ : ∃ d : Nat, (d : Int) = j + 1979 - (e + 3000) := ⟨((j : Int) + 1979 - (e + 3000)).toNat, by omega⟩
          have e1 : j + 1979 = d + (e + 3000).toNat := by omega
          rw [e1, ← Z_mul d (e + 3000).toNat, ← Nat.mul_assoc]
          refine Nat.mul_le_mul_right _ ?_
          have h2 : Z d ≤ X d := Z_le_X d
          refine Nat.le_trans (Nat.mul_le_mul_left _ h2) ?_
          rw [X_mul]
          exact X_mono (by omega)
      rw [Nat.mul_comm] at h1
      omega
    · obtain ⟨x, hx⟩ : ∃ x : Nat, (x : Int) = e + 1105 - j - 800 := ⟨(e + 1105 - j - 800).toNat, by omega⟩
      have h3 := ten_two x (by omega)
      have e2 : (e + 3000).toNat = 716 + x + (j + 1979) := by omega
      have h4 : X (3000 - x) * X x = X 3000 := by rw [X_mul]; exact congrArg X (by omega)
      have h5 : X (3000 - x) ≤ X (dp - 1 + 3000).toNat := X_mono (by omega)
      have h6 : X 3000 * Z (j + 1979) ≤ X (dp - 1 + 3000).toNat * Z (e + 3000).toNat := by
        rw [e2, ← Z_mul (716 + x) (j + 1979), ← Nat.mul_assoc, ← h4]
        refine Nat.mul_le_mul_right _ (Nat.mul_le_mul h5 h3)
      rw [Nat.mul_comm] at h6
      omega
  unfold SV
  rw [Nat.one_mul]
  obtain ⟨a, ha⟩ : ∃ a : Nat, a = (dp - 800 + 3000).toNat := ⟨_, rfl⟩
  obtain ⟨E, hE⟩ : ∃ E : Nat, E = (e + 3000).toNat := ⟨_, rfl⟩
  rw [← ha, ← hE]
  have e3 : X 3000 = X a * X (3000 - a) := by rw [X_mul]; exact congrArg X (by omega)
  by_cases c : E ≤ j + 1895
  · refine ⟨X (3000 - a) * Z (j + 1895 - E), ?_⟩
    have e4 : Z (j + 1895) = Z E * Z (j + 1895 - E) := by rw [Z_mul]; exact congrArg Z (by omega)
    rw [e3, e4]
    generalize X a = x1
    generalize X (3000 - a) = x2
    generalize Z E = x3
    generalize Z (j + 1895 - E) = x4
    ac_rfl
  · -- twos out of the tens
    obtain ⟨d, hd⟩ : ∃ d : Nat, E = j + 1895 + d := ⟨E - (j + 1895), by omega⟩
    have e5 : X (3000 - a) = X (3000 - a - d) * (5 ^ d * Z d) := by
      have : X d = 5 ^ d * Z d := X_five d
      rw [← this, X_mul]; exact congrArg X (by omega)
    refine ⟨X (3000 - a - d) * 5 ^ d, ?_⟩
    rw [e3, e5, hd, ← Z_mul (j + 1895) d]
    generalize X a = x1
    generalize X (3000 - a - d) = x2
    generalize Z (j + 1895) = x3
    generalize Z d = x4
    ac_rfl
end DN
end Go.Proofs.YteckfdohgiddgaaGreatDoor
namespace Go.Proofs.YteckfdohgiddgaaGreatDoor
set_option linter.unusedVariables false
namespace DN
open FS
attribute [local irreducible] X Z
/-- half of the distance of two neighbouring floats at the power K - 1074 -/
def HH (K : Nat) : Nat := Z (K + 1925) * X 3000
theorem HH_pos (K : Nat) : 0 < HH K := Nat.mul_pos (Z_pos _) (X_pos _)
/-- the grid -/
def jj (K : Nat) : Nat := if K = 0 then 0 else K + 30
def GG (K : Nat) : Nat := Z (jj K + 1895) * X 3000
theorem GG_HH (K : Nat) : ∃ c, HH K = GG K * c := by
  unfold HH GG jj
  split
  · rename_i h
    subst h
    exact ⟨Z 30, by rw [show 0 + 1925 = 0 + 1895 + 30 by omega, ← Z_mul]; ac_rfl⟩
  · exact ⟨1, by rw [Nat.mul_one]⟩
theorem grid_x {xh K : Nat} (h : xh < 18014398509481984 * HH K) : xh < Z (jj K + 1979) * X 3000 := by
  have e : 18014398509481984 * HH K = Z (K + 1979) * X 3000 := by
    unfold HH
    rw [Z_54, ← Nat.mul_assoc, Z_mul]
    exact congrArg (fun x => Z x * X 3000) (by omega)
  rw [e] at h
  refine Nat.lt_of_lt_of_le h (Nat.mul_le_mul_right _ (Z_mono' ?_))
  unfold jj; split <;> omega
end DN
end Go.Proofs.YteckfdohgiddgaaGreatDoor
namespace Go.Proofs.YteckfdohgiddgaaGreatDoor
set_option linter.unusedVariables false
namespace DN
open FS
theorem facB : X 331 ≤ Z 1105 ∧ X 310 ≤ Z 1030 ∧ Z 1075 < X 331 ∧ Z 1024 < X 310 := by decide +kernel
attribute [local irreducible] X Z
section
variable {xh K : Nat} {f g : Nat → Nat} {nd : Nat} {dp : Int} {tr : Bool} {e : Int}
theorem SS.shiftG (S : SS xh (GG K) f nd dp tr e) (h2 : xh < 18014398509481984 * HH K) {Q i m : Nat} {dp' e' : Int}
    (hi : 1 ≤ i) (q1 : 10 ^ (i - 1) ≤ Q) (q2 : Q < 10 ^ i) (hg : ∀ j, j < min i 800 → g j = 48 + Q / 10 ^ (i - 1 - j) % 10) (hm : m ≤ min i 800) (hz : ∀ j, m ≤ j → j < min i 800 → g j = 48)
    (hdp : -1200 ≤ dp') (hdp2 : dp' ≤ 800) (he : SV (dvf f nd) (dp - nd) e * 10 ^ (i - 800) = Q * SV 1 (dp' - (min i 800 : Nat)) e') (hj : e' ≤ jj K) (hj2 : -1200 ≤ e') :
    SS xh (GG K) g m dp' (tr || decide (Q % 10 ^ (i - 800) ≠ 0)) e' ∧ SV (dvf g m) (dp' - m) e' ≤ SV (dvf f nd) (dp - nd) e := by
  constructor
  · refine S.shift hi q1 q2 hg hm hz (by omega) he fun h8 => ?_
    have hT : 0 < 10 ^ (i - 800) := Nat.pow_pos (by decide)
    have e1 : ((min i 800 : Nat) : Int) = 800 := by omega
    rw [e1] at he ⊢
    have hlo : SV 1 (dp' - 1) e' ≤ xh := by
      refine Nat.le_trans ?_ S.kp.le
      refine Nat.le_of_mul_le_mul_right ?_ hT
      rw [he]
      obtain ⟨n, hn⟩ : ∃ n : Nat, n = 799 := ⟨_, rfl⟩
      have e2 : dp' - 1 = dp' - 800 + (n : Nat) := by omega
      rw [e2, ← SV_ten (by omega), Nat.one_mul, SV_mul (10 ^ n), Nat.mul_right_comm, ← Nat.pow_add]
      refine Nat.mul_le_mul_right _ (Nat.le_trans ?_ q1)
      exact Nat.pow_le_pow_right (by decide) (by omega)
    exact grid_ok (grid_x h2) hlo hj hj2 (by omega) hdp2
  · obtain ⟨a, _, _, _⟩ := cut_val hi q1 q2 hg hm hz
    have hT : 0 < 10 ^ (i - 800) := Nat.pow_pos (by decide)
    have ev : Q / 10 ^ (i - 800) * SV 1 (dp' - (min i 800 : Nat)) e' = SV (dvf g m) (dp' - m) e' := by
      rw [← SV_mul, ← a, SV_ten (by omega)]
      exact SV_p (by omega)
    rw [← ev]
    refine Nat.le_of_mul_le_mul_right ?_ hT
    rw [he, Nat.mul_right_comm]
    exact Nat.mul_le_mul_right _ (Nat.div_mul_le_self _ _)
theorem R_le {R k : Nat} (hok : Ok f nd) (h1 : 1 ≤ nd) (h0 : 49 ≤ f 0) (hk : k ≤ 60) (hlo : pad f nd (R - 1) < 2 ^ k) : R ≤ 20 := by
  rcases Nat.lt_or_ge 20 R with c | c
  · exfalso
    have h60 : 2 ^ k ≤ 2 ^ 60 := Nat.pow_le_pow_right (by decide) hk
    have : 10 ^ (R - 2) ≤ pad f nd (R - 1) := by
      by_cases c2 : R - 1 ≤ nd
      · rw [pad_le c2]
        have := dvf_ge (f := f) (n := R - 1) (by omega) h0
        rw [show R - 1 - 1 = R - 2 by omega] at this; exact this
      · rw [pad_ge (by omega)]
        have := Nat.mul_le_mul_right (10 ^ (R - 1 - nd)) (dvf_ge (f := f) (n := nd) h1 h0)
        rw [← Nat.pow_add, show nd - 1 + (R - 1 - nd) = R - 2 by omega] at this; exact this
    have h19 : 10 ^ 19 ≤ 10 ^ (R - 2) := Nat.pow_le_pow_right (by decide) (by omega)
    have : 2 ^ 60 < 10 ^ 19 := by decide
    omega
  · exact c
theorem SS.right (S : SS xh (GG K) f nd dp tr e) (h2 : xh < 18014398509481984 * HH K) {k R i m : Nat} (r1 : 1 ≤ R) (i1 : 1 ≤ i) (hk : k ≤ 60) (hlo : pad f nd (R - 1) < 2 ^ k) (hhi : 2 ^ k ≤ pad f nd R) (ex : pad f nd (R + i) % (10 * 2 ^ k) = 0) (ri : nd ≤ R + i)
    (dg : ∀ j, j < min i 800 → g j = 48 + pad f nd (R + j) / 2 ^ k % 10) (hm : m ≤ min i 800) (hz : ∀ j, m ≤ j → j < min i 800 → g j = 48)
    (hdp : -1100 ≤ dp) (hdp2 : dp ≤ 800) (hj : e + k ≤ jj K) (hj2 : -1200 ≤ e) :
    SS xh (GG K) g m (dp - R + 1) (tr || decide (pad f nd (R + i - 1) / 2 ^ k % 10 ^ (i - 800) ≠ 0)) (e + k) ∧ R ≤ 20 := by
  have hR := R_le S.ok S.n1 S.f0 hk hlo
  have h8 := S.n8
  have hK : 0 < 2 ^ k := Nat.two_pow_pos k
  refine ⟨?_, hR⟩
  obtain ⟨Q, hQ⟩ : ∃ Q, Q = pad f nd (R + i - 1) / 2 ^ k := ⟨_, rfl⟩
  rw [← hQ]
  have hq : ∀ j, j ≤ i - 1 → pad f nd (R + j) / 2 ^ k = Q / 10 ^ (i - 1 - j) := fun j hj => by
    have := quo_pre (f := f) (nd := nd) (R := R) (K := 2 ^ k) S.ok (i - 1 - j) j
    rw [this, hQ, show j + (i - 1 - j) = i - 1 by omega, show R + (i - 1) = R + i - 1 by omega]
  have hR10 : pad f nd R < 10 * 2 ^ k := by
    have e1 := pad_succ f nd (R - 1)
    have e2 := dgt_lt S.ok (R - 1)
    rw [show R - 1 + 1 = R by omega] at e1
    omega
  have hQ0 := hq 0 (by omega)
  rw [Nat.add_zero, Nat.sub_zero] at hQ0
  have hp1 : 0 < 10 ^ (i - 1) := Nat.pow_pos (by decide)
  have q1 : 10 ^ (i - 1) ≤ Q := by
    rw [← Nat.one_le_div_iff hp1, ← hQ0, Nat.one_le_div_iff hK]; exact hhi
  have q2 : Q < 10 ^ i := by
    have : Q / 10 ^ (i - 1) < 10 := by rw [← hQ0]; exact Nat.div_lt_of_lt_mul (by rw [Nat.mul_comm]; exact hR10)
    have := (Nat.div_lt_iff_lt_mul hp1).1 this
    rw [← Nat.pow_succ', show (i - 1).succ = i by omega] at this; exact this
  have hdg : ∀ j, j < min i 800 → g j = 48 + Q / 10 ^ (i - 1 - j) % 10 := fun j hj => by rw [dg j hj, hq j (by omega)]
  -- nothing stays behind the last digit
  have hex : dvf f nd * 10 ^ (R + i - nd) = 10 ^ 1 * 2 ^ k * Q := by
    have e1 := pad_succ f nd (R + i - 1)
    have e2 := dgt_lt S.ok (R + i - 1)
    rw [show R + i - 1 + 1 = R + i by omega] at e1
    rw [e1, step_mod _ _ _ e2] at ex
    have e3 : pad f nd (R + i - 1) = 2 ^ k * Q := by
      have := Nat.div_add_mod (pad f nd (R + i - 1)) (2 ^ k)
      rw [← hQ] at this; omega
    rw [← pad_ge ri, e1, e3, Nat.pow_one, Nat.mul_assoc]; omega
  refine (S.shiftG h2 i1 q1 q2 hdg hm hz (by omega) (by omega) ?_ hj (by omega)).1
  unfold SV
  rw [Nat.one_mul]
  have e4 : (e + k + 3000).toNat = (e + 3000).toNat + k := by omega
  have e5 : Z (e + k + 3000).toNat = Z (e + 3000).toNat * 2 ^ k := by
    rw [e4, ← Z_mul, Z_def]
  rw [e5, ← Nat.mul_assoc Q]
  exact right_exactX _ hex (by omega)
theorem SS.left (S : SS xh (GG K) f nd dp tr e) (h2 : xh < 18014398509481984 * HH K) {k m : Nat} (C : Ch k) (hk : k ≤ 60)
    (dg : ∀ j, j < min (newD f nd k) 800 → g j = 48 + dvf f nd * 2 ^ k / 10 ^ (newD f nd k - 1 - j) % 10) (hm : m ≤ min (newD f nd k) 800) (hz : ∀ j, m ≤ j → j < min (newD f nd k) 800 → g j = 48)
    (hdp : -1100 ≤ dp) (hdp2 : dp ≤ 700) (hj : e - k ≤ jj K) (hj2 : -1200 ≤ e - k) :
    SS xh (GG K) g m (dp + (newD f nd k - nd : Nat)) (tr || decide (dvf f nd * 2 ^ k % 10 ^ (newD f nd k - 800) ≠ 0)) (e - k) ∧ SV (dvf g m) (dp + (newD f nd k - nd : Nat) - m) (e - k) ≤ SV (dvf f nd) (dp - nd) e ∧ newD f nd k - nd ≤ 19 := by
  obtain ⟨b1, b2, b3, b4⟩ := newD_bd C S.ok S.n1 S.f0
  have h8 := S.n8
  have h1 := S.n1
  have hl := C.l
  have hs := C.s1
  have hc19 : chD k ≤ 19 := by
    rcases Nat.lt_or_ge 19 (chD k) with c | c
    · exfalso
      have h1 := C.lo
      have h2 : 10 ^ 19 ≤ 10 ^ (chD k - 1) := Nat.pow_le_pow_right (by decide) (by omega)
      have h3 : 2 ^ k ≤ 2 ^ 60 := Nat.pow_le_pow_right (by decide) hk
      have : 2 ^ 60 < 10 ^ 19 := by decide
      omega
    · exact c
  obtain ⟨i, hi⟩ : ∃ i, i = newD f nd k := ⟨_, rfl⟩
  rw [← hi] at b1 b2 b3 b4 dg hm hz ⊢
  have key := S.shiftG h2 (g := g) (m := m) (dp' := dp + (i - nd : Nat)) (e' := e - k) (by omega) b1 b2 dg hm hz (by omega) (by omega) ?_ hj hj2
  · exact ⟨key.1, key.2, by omega⟩
  · unfold SV
    rw [Nat.one_mul]
    have e4 : (e + 3000).toNat = k + (e - k + 3000).toNat := by omega
    have e5 : Z (e + 3000).toNat = 2 ^ k * Z (e - k + 3000).toNat := by
      rw [e4, ← Z_mul, Z_def]
    have e6 : X (dp - nd + 3000).toNat * 10 ^ (i - 800) = X (dp + (i - nd : Nat) - (min i 800 : Nat) + 3000).toNat := by
      rw [X_def, X_mul]; exact congrArg X (by omega)
    rw [e5, ← e6]
    generalize X (dp - nd + 3000).toNat = x1
    generalize Z (e - k + 3000).toNat = x2
    generalize 10 ^ (i - 800) = x3
    generalize 2 ^ k = x4
    ac_rfl
/-- the number's bounds: at least 10^-331, below 10^310 -/
structure Bd (xh K : Nat) : Prop where
  r1 : K = 0 ∨ 9007199254740992 * HH K ≤ xh
  r2 : xh < 18014398509481984 * HH K
  lo : SV 1 (-331) 0 ≤ xh
  hi : xh < SV 1 310 0
theorem Bd.gg (B : Bd xh K) : GG K ≤ xh := by
  rcases B.r1 with h | h
  · refine Nat.le_trans ?_ B.lo
    unfold GG SV jj
    rw [if_pos h, Nat.one_mul]
    have e1 : X 3000 = X 331 * X 2669 := by rw [X_mul]
    have e2 : Z 3000 = Z 1105 * Z 1895 := by rw [Z_mul]
    show Z (0 + 1895) * X 3000 ≤ X 2669 * Z 3000
    rw [e1, e2, Nat.zero_add]
    have := Nat.mul_le_mul_left (Z 1895 * X 2669) facB.1
    calc Z 1895 * (X 331 * X 2669) = Z 1895 * X 2669 * X 331 := by ac_rfl
      _ ≤ Z 1895 * X 2669 * Z 1105 := this
      _ = _ := by ac_rfl
  · obtain ⟨c, hc⟩ := GG_HH K
    have : 0 < c := by
      rcases Nat.eq_zero_or_pos c with z | z
      · have := HH_pos K; rw [hc, z] at this; omega
      · exact z
    have : GG K ≤ HH K := by rw [hc]; exact Nat.le_mul_of_pos_right _ this
    omega
theorem SS.gg (S : SS xh (GG K) f nd dp tr e) (B : Bd xh K) : GG K ≤ SV (dvf f nd) (dp - nd) e := by
  have := S.kp.gr 1 (by rw [Nat.one_mul]; exact B.gg)
  rw [Nat.one_mul] at this; exact this
theorem SS.below (S : SS xh (GG K) f nd dp tr e) (hd : -2000 ≤ dp) (hd2 : dp ≤ 0) : SV (dvf f nd) (dp - nd) e < SV 1 0 e := by
  have h1 := S.hi (by omega)
  have h2 : SV 1 dp e ≤ SV 1 0 e := by
    unfold SV; rw [Nat.one_mul, Nat.one_mul]
    exact Nat.mul_le_mul_right _ (X_mono (by omega))
  omega
end
end DN
end Go.Proofs.YteckfdohgiddgaaGreatDoor
namespace Go.Proofs.YteckfdohgiddgaaGreatDoor
open Go.RowKit
set_option linter.unusedVariables false
set_option linter.unusedSimpArgs false
end Go.Proofs.YteckfdohgiddgaaGreatDoor
namespace Go.Proofs.YteckfdohgiddgaaGreatDoor
open Go.RowKit
set_option linter.unusedVariables false
set_option linter.unusedSimpArgs false
namespace DN
end DN
/-- the sheet, as it lies in memory -/
structure Lc (w : World) (b : Nat) : Prop where
  ex : ∃ B o cap, B < b ∧ 6 < b ∧ w.cell? ⟨6, 0, none⟩ = some (.slice (some ⟨B, o, none⟩) 61 cap) ∧ ∀ k, k ≤ 60 → w.cell? ⟨B, o + k * 2, none⟩ = some (.int .i64 (DN.chD k : Int)) ∧ w.cell? ⟨B, o + k * 2 + 1, none⟩ = some (.string ⟨(DN.chS k).toArray⟩)
theorem Lc.below {w w' : World} {b : Nat} (h : Lc w b) (hb : Below b w w') : Lc w' b := by
  obtain ⟨B, o, cap, h1, h2, h3, h4⟩ := h.ex
  exact ⟨B, o, cap, h1, h2, by rw [hb.cell (p := ⟨_, 0, none⟩) h2]; exact h3, fun k hk => ⟨by rw [hb.cell (p := ⟨_, _, none⟩) h1]; exact (h4 k hk).1, by rw [hb.cell (p := ⟨_, _, none⟩) h1]; exact (h4 k hk).2⟩⟩
end Go.Proofs.YteckfdohgiddgaaGreatDoor
namespace Go.Proofs.YteckfdohgiddgaaGreatDoor
open Go.RowKit
set_option linter.unusedVariables false
set_option linter.unusedSimpArgs false
section
variable {xh K : Nat} {w : World} {b : Nat} {f : Nat → Nat} {nd : Nat} {dp : Int} {tr : Bool} {e : Int}
end
end Go.Proofs.YteckfdohgiddgaaGreatDoor
namespace Go.Proofs.YteckfdohgiddgaaGreatDoor
open Go.RowKit
set_option linter.unusedVariables false
set_option linter.unusedSimpArgs false
namespace DN
end DN
end Go.Proofs.YteckfdohgiddgaaGreatDoor
