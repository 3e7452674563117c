/- Plain law: strings of JSON, their escapes and what they mean, over lists of bytes. No program in sight. -/
import Derived.Test.YthlpgnidjjclcaaUUnqMath
import Derived.Test.YthlpgnidjjclcaaURefEsc
namespace Go.Proofs.Ythlpgnidjjclcaa.U
open Go
set_option linter.unusedVariables false
def simpJ (c : Nat) : Option Nat :=
  if c = 34 ∨ c = 92 ∨ c = 47 then some c else if c = 98 then some 8 else if c = 116 then some 9 else if c = 110 then some 10 else if c = 102 then some 12 else if c = 114 then some 13 else none
def pairs2 : List UInt8 := [34, 34, 92, 92, 47, 47, 98, 8, 116, 9, 110, 10, 102, 12, 114, 13]
theorem pairs2_eq : ∀ c : Nat, c < 256 → pairL pairs2 c = simpJ c := by decide +kernel
theorem simpJ_lt : ∀ c : Nat, c < 256 → ∀ b, simpJ c = some b → b < 256 := by
  intro c hc b h
  unfold simpJ at h
  (repeat' split at h) <;> simp only [Option.some.injEq, reduceCtorEq] at h <;> omega
/-- two surrogates' rune -/
def surV (v m : Nat) : Nat := 65536 + (v - 55296) * 1024 + (m - 56320)
/-- behind the first of two surrogates -/
def surJ (v : Nat) : List UInt8 → Option (List UInt8 × Nat)
  | a :: b :: r => if a.toNat = 92 ∧ b.toNat = 117 then (match numL 16 4 r with
    | some m => if 56320 ≤ m ∧ m ≤ 57343 then some ((Utf8.encode (surV v m : Int)).toList, 11) else none
    | none => none) else none
  | _ => none
/-- what stands behind a backslash -/
def escJ : List UInt8 → Option (List UInt8 × Nat)
  | [] => none
  | c :: r => match simpJ c.toNat with
    | some b => some (byteOf b, 1)
    | none => if c.toNat = 117 then (match numL 16 4 r with
      | some v => if 55296 ≤ v ∧ v ≤ 56319 then surJ v (r.drop 4) else runeOf (some v) 5
      | none => none) else none
theorem escJ_simp (c : UInt8) (r : List UInt8) (b : Nat) (h : simpJ c.toNat = some b) : escJ (c :: r) = some (byteOf b, 1) := by rw [escJ, h]
theorem escJ_else (c : UInt8) (r : List UInt8) (h : simpJ c.toNat = none) (h2 : c.toNat ≠ 117) : escJ (c :: r) = none := by rw [escJ, h]; exact if_neg h2
theorem escJ_u (c : UInt8) (r : List UInt8) (h : c.toNat = 117) : escJ (c :: r) = (match numL 16 4 r with
      | some v => if 55296 ≤ v ∧ v ≤ 56319 then surJ v (r.drop 4) else runeOf (some v) 5
      | none => none) := by rw [escJ, h]; exact if_pos rfl
theorem escJ_none (c : UInt8) (r : List UInt8) (h : c.toNat = 117) (hn : numL 16 4 r = none) : escJ (c :: r) = none := by rw [escJ_u c r h, hn]
theorem escJ_rune (c : UInt8) (r : List UInt8) (h : c.toNat = 117) (v : Nat) (hn : numL 16 4 r = some v) (hv : ¬ (55296 ≤ v ∧ v ≤ 56319)) : escJ (c :: r) = runeOf (some v) 5 := by rw [escJ_u c r h, hn]; exact if_neg hv
theorem escJ_sur (c : UInt8) (r : List UInt8) (h : c.toNat = 117) (v : Nat) (hn : numL 16 4 r = some v) (hv : 55296 ≤ v ∧ v ≤ 56319) : escJ (c :: r) = surJ v (r.drop 4) := by rw [escJ_u c r h, hn]; exact if_pos hv
theorem surJ_short (v : Nat) (l : List UInt8) (h : l.length < 2) : surJ v l = none := by
  match l, h with
  | [], _ => rfl
  | [a], _ => rfl
theorem surJ_no (v : Nat) (a b : UInt8) (r : List UInt8) (h : ¬ (a.toNat = 92 ∧ b.toNat = 117)) : surJ v (a :: b :: r) = none := by rw [surJ]; exact if_neg h
theorem surJ_none (v : Nat) (a b : UInt8) (r : List UInt8) (h : numL 16 4 r = none) : surJ v (a :: b :: r) = none := by
  rw [surJ, h]; split <;> rfl
theorem surJ_out (v : Nat) (a b : UInt8) (r : List UInt8) (m : Nat) (h : numL 16 4 r = some m) (hm : ¬ (56320 ≤ m ∧ m ≤ 57343)) : surJ v (a :: b :: r) = none := by
  rw [surJ, h]; split
  · exact if_neg hm
  · rfl
theorem surJ_good (v : Nat) (a b : UInt8) (r : List UInt8) (h : a.toNat = 92 ∧ b.toNat = 117) (m : Nat) (hn : numL 16 4 r = some m) (hm : 56320 ≤ m ∧ m ≤ 57343) : surJ v (a :: b :: r) = some ((Utf8.encode (surV v m : Int)).toList, 11) := by
  rw [surJ, if_pos h, hn]; exact if_pos hm
theorem surV_bd (v m : Nat) (hv : 55296 ≤ v ∧ v ≤ 56319) (hm : 56320 ≤ m ∧ m ≤ 57343) : 65536 ≤ surV v m ∧ surV v m ≤ 1114111 := by unfold surV; omega
theorem surV_valid (v m : Nat) (hv : 55296 ≤ v ∧ v ≤ 56319) (hm : 56320 ≤ m ∧ m ≤ 57343) : Utf8.valid (surV v m : Int) = true := (valid_iff _).2 (by have := surV_bd v m hv hm; omega)

def unqJ (l : List UInt8) : Option (List UInt8) :=
  match l with
  | [] => some []
  | c :: r => if c.toNat ≠ 92 then (unqJ r).map (c :: ·) else match escJ r with
    | none => none
    | some (bs, n) => (unqJ (r.drop n)).map (bs ++ ·)
termination_by l.length
decreasing_by all_goals (simp only [List.length_drop, List.length_cons]; omega)
theorem unqJ_nil : unqJ [] = some [] := by rw [unqJ]
theorem unqJ_plain (c : UInt8) (r : List UInt8) (h : c.toNat ≠ 92) : unqJ (c :: r) = (unqJ r).map (c :: ·) := by rw [unqJ, if_pos h]
theorem unqJ_none (c : UInt8) (r : List UInt8) (h : c.toNat = 92) (he : escJ r = none) : unqJ (c :: r) = none := by rw [unqJ, if_neg (by omega), he]
theorem unqJ_some (c : UInt8) (r : List UInt8) (h : c.toNat = 92) (bs : List UInt8) (n : Nat) (he : escJ r = some (bs, n)) : unqJ (c :: r) = (unqJ (r.drop n)).map (bs ++ ·) := by rw [unqJ, if_neg (by omega), he]

/-- does the string that began end with the text, looked at from i on -/
def jend (s : ByteArray) (i : Nat) : Bool :=
  if _h : i < s.size then (if at' s i = 34 then decide (i + 1 = s.size) else if at' s i = 92 then jend s (i + 2) else jend s (i + 1)) else false
termination_by s.size - i
decreasing_by all_goals omega
theorem jend_end (s : ByteArray) (i : Nat) (h : ¬ i < s.size) : jend s i = false := by rw [jend, dif_neg h]
theorem jend_hit (s : ByteArray) (i : Nat) (h : i < s.size) (hq : at' s i = 34) : jend s i = decide (i + 1 = s.size) := by rw [jend, dif_pos h, if_pos hq]
theorem jend_esc (s : ByteArray) (i : Nat) (h : i < s.size) (hq : at' s i = 92) : jend s i = jend s (i + 2) := by rw [jend, dif_pos h, if_neg (by omega), if_pos hq]
theorem jend_step (s : ByteArray) (i : Nat) (h : i < s.size) (hq : at' s i ≠ 34) (h2 : at' s i ≠ 92) : jend s i = jend s (i + 1) := by rw [jend, dif_pos h, if_neg hq, if_neg h2]
theorem jend_lt (s : ByteArray) (i : Nat) (h : jend s i = true) : i < s.size := by
  by_cases h1 : i < s.size
  · exact h1
  · rw [jend_end s i h1] at h; cases h
def closedB (s : ByteArray) : Bool := decide (0 < s.size) && (decide (at' s 0 = 34) && (s.data.toList.all (fun c => decide (32 ≤ c.toNat)) && jend s 1))
def unjR : Option (List UInt8) → List UInt8 × Int
  | none => ([], 11)
  | some bs => (bs, 0)
def unjson (s : ByteArray) : List UInt8 × Int :=
  if valid s = false then ([], 4) else if closedB s = false then ([], 10) else unjR (unqJ (s.extract 1 (s.size - 1)).data.toList)
theorem dig_not (c : Nat) (h : 0 ≤ dig c) : c ≠ 34 ∧ c ≠ 92 := by
  constructor <;> (rintro rfl; revert h; decide)
/-- digits stand between no quotes: the scan goes on behind them -/
theorem jend_digits (base : Nat) (s : ByteArray) : ∀ (k i v r : Nat), numF base ((s.data.toList.drop i).take k) v = some r → i + k ≤ s.size → jend s i = jend s (i + k)
  | 0, i, v, r, h, hk => rfl
  | k + 1, i, v, r, h, hk => by
    obtain ⟨c, hc, hd⟩ := drop_cons' s i (by omega)
    rw [hd, List.take_succ_cons, numF] at h
    split at h
    · rename_i hx
      have hn := dig_not c.toNat hx.1
      rw [hc] at hn
      rw [jend_step s i (by omega) hn.1 hn.2, jend_digits base s k (i + 1) _ r h (by omega), Nat.add_right_comm, Nat.add_assoc]
    · cases h
theorem numL_jend (s : ByteArray) (e i v : Nat) (he : e ≤ s.size) (h : numL 16 4 ((s.data.toList.take e).drop i) = some v) : i + 4 ≤ e ∧ jend s i = jend s (i + 4) := by
  unfold numL at h
  split at h
  · cases h
  · rename_i hl
    have hlen : ((s.data.toList.take e).drop i).length = e - i := by rw [List.length_drop, List.length_take, ← Lib.size_eq]; omega
    rw [hlen] at hl
    have hi : i + 4 ≤ e := by omega
    rw [List.drop_take, List.take_take, Nat.min_eq_left (by omega)] at h
    exact ⟨hi, jend_digits 16 s 4 i 0 v h (by omega)⟩
theorem escJ_go (s : ByteArray) (q : Nat) (es : List UInt8) (k : Nat) (hj : jend s q = true) (h92 : at' s q = 92) (h : escJ ((s.data.toList.take (s.size - 1)).drop (q + 1)) = some (es, k)) :
    es.length ≤ k ∧ 1 ≤ k ∧ q + 1 + k < s.size ∧ jend s (q + 1 + k) = true := by
  have hq := jend_lt s q hj
  rw [jend_esc s q hq h92] at hj
  have hq2 := jend_lt s _ hj
  obtain ⟨c, ec, el⟩ := take_cons s (s.size - 1) (q + 1) (by omega) (by omega)
  rw [el] at h
  cases hs : simpJ c.toNat with
  | some b =>
    rw [escJ_simp c _ b hs] at h
    cases h
    exact ⟨by simp [byteOf], by omega, hq2, hj⟩
  | none =>
    by_cases h117 : c.toNat = 117
    · cases hn : numL 16 4 ((s.data.toList.take (s.size - 1)).drop (q + 1 + 1)) with
      | none => rw [escJ_none c _ h117 hn] at h; cases h
      | some v =>
        obtain ⟨h6, hj6⟩ := numL_jend s (s.size - 1) (q + 1 + 1) v (by omega) hn
        rw [show q + 2 = q + 1 + 1 from rfl, hj6] at hj
        by_cases hv : 55296 ≤ v ∧ v ≤ 56319
        · rw [escJ_sur c _ h117 v hn hv, List.drop_drop] at h
          by_cases h8 : q + 8 ≤ s.size - 1
          · obtain ⟨a, ea, ela⟩ := take_cons s (s.size - 1) (q + 1 + 1 + 4) (by omega) (by omega)
            obtain ⟨b, eb, elb⟩ := take_cons s (s.size - 1) (q + 1 + 1 + 4 + 1) (by omega) (by omega)
            rw [ela, elb] at h
            by_cases hab : a.toNat = 92 ∧ b.toNat = 117
            · cases hm : numL 16 4 ((s.data.toList.take (s.size - 1)).drop (q + 1 + 1 + 4 + 1 + 1)) with
              | none => rw [surJ_none v a b _ hm] at h; cases h
              | some m =>
                by_cases hmm : 56320 ≤ m ∧ m ≤ 57343
                · rw [surJ_good v a b _ hab m hm hmm] at h
                  obtain ⟨h12, hj12⟩ := numL_jend s (s.size - 1) _ m (by omega) hm
                  rw [jend_esc s _ (by omega) (by rw [← ea]; exact hab.1), show q + 1 + 1 + 4 + 2 = q + 1 + 1 + 4 + 1 + 1 from rfl, hj12] at hj
                  cases h
                  have := enc_len (surV v m) (surV_valid v m hv hmm)
                  exact ⟨by omega, by omega, by omega, hj⟩
                · rw [surJ_out v a b _ m hm hmm] at h; cases h
            · rw [surJ_no v a b _ hab] at h; cases h
          · rw [surJ_short v _ (by rw [List.length_drop, List.length_take, ← Lib.size_eq]; omega)] at h; cases h
        · rw [escJ_rune c _ h117 v hn hv] at h
          cases hvv : Utf8.valid (v : Int) with
          | false => rw [runeOf_bad v _ hvv] at h; cases h
          | true =>
            rw [runeOf_good v _ hvv] at h
            cases h
            have := enc_len v hvv
            exact ⟨by omega, by omega, by omega, hj⟩
    · rw [escJ_else c _ hs h117] at h; cases h
end Go.Proofs.Ythlpgnidjjclcaa.U
