/- Whole numbers of any size as words of 32 bits, the lowest first (weirref02/big.go). times: a * m + c in words of 32 bits (weirref02/big.go). compare: two whole numbers in words of 32 bits (weirref02/big.go). less: a - b in words of 32 bits (weirref02/big.go). power: 10^n in words of 32 bits (weirref02/big.go). product in words of 32 bits (weirref02/big.go). shifted: a * 2^n in words of 32 bits (weirref02/big.go). below, size: where n / d lies among the powers of ten (weirref02/show.go). The reference's whole numbers by their values (weirref02/big.go). -/
import Derived.Test.YtcbggkdginfakaaDoorBase3
import Derived.Test.YtcbggkdginfakaaDoorLBase
import Derived.Test.YtcbggkdginfakaaDoorBQuiet
import Derived.Deep.LoopGhost
import Derived.BigQuiet
import Derived.Laws.BitsAllLaws
import Derived.Test.YtcbggkdginfakaaDoorLin
namespace Go.Proofs.YtcbggkdginfakaaDoor
open Go.RowKit
set_option linter.unusedVariables false
set_option linter.unusedSimpArgs false
def cellsN (l : List Nat) : List Value := l.map fun x : Nat => Value.int .u32 (x : Int)
theorem cellsN_len (l : List Nat) : (cellsN l).length = l.length := by simp [cellsN]
theorem cellsN_app (a b : List Nat) : cellsN (a ++ b) = cellsN a ++ cellsN b := by simp [cellsN]
theorem cellsN_take (l : List Nat) (k : Nat) : (cellsN l).take k = cellsN (l.take k) := by simp [cellsN, List.map_take]
theorem cellsN_one (l : List Nat) : ∀ u ∈ cellsN l, u.oneCell' = true := by
  intro u hu
  obtain ⟨x, _, rfl⟩ := List.mem_map.1 hu
  rfl
namespace FB
def val : List Nat → Nat
  | [] => 0
  | x :: l => x + 4294967296 * val l
def W (l : List Nat) : Prop := ∀ x ∈ l, x < 4294967296
def Tr (l : List Nat) : Prop := ∀ h : 0 < l.length, l[l.length - 1] ≠ 0
theorem val_app (a b : List Nat) : val (a ++ b) = val a + 4294967296 ^ a.length * val b := by
  induction a with
  | nil => simp [val]
  | cons x a ih =>
    rw [List.cons_append, val, val, ih, List.length_cons, Nat.pow_succ]
    rw [Nat.mul_add, ← Nat.mul_assoc, Nat.mul_comm 4294967296 (4294967296 ^ a.length)]
    omega
theorem val_snoc (a : List Nat) (x : Nat) : val (a ++ [x]) = val a + 4294967296 ^ a.length * x := by rw [val_app]; simp [val]
theorem val_lt : ∀ {l : List Nat}, W l → val l < 4294967296 ^ l.length
  | [], _ => by simp [val]
  | x :: l, h => by
    have h1 := val_lt (l := l) (fun y hy => h y (List.mem_cons_of_mem _ hy))
    have h2 := h x (List.mem_cons_self ..)
    rw [val, List.length_cons, Nat.pow_succ]
    omega
theorem W.app {a b : List Nat} (h1 : W a) (h2 : W b) : W (a ++ b) := fun x hx => by
  rcases List.mem_append.1 hx with h | h
  · exact h1 x h
  · exact h2 x h
theorem W.take {l : List Nat} (h : W l) (k : Nat) : W (l.take k) := fun x hx => h x (List.mem_of_mem_take hx)
theorem W.one {x : Nat} (h : x < 4294967296) : W [x] := fun y hy => by rw [List.mem_singleton] at hy; omega
theorem val_zeros : ∀ {l : List Nat}, (∀ x ∈ l, x = 0) → val l = 0
  | [], _ => rfl
  | x :: l, h => by rw [val, h x (List.mem_cons_self ..), val_zeros (fun y hy => h y (List.mem_cons_of_mem _ hy))]
theorem val_take {l : List Nat} {k : Nat} (h : ∀ i (hi : i < l.length), k ≤ i → l[i] = 0) : val (l.take k) = val l := by
  have e := val_app (l.take k) (l.drop k)
  rw [List.take_append_drop] at e
  have h0 : val (l.drop k) = 0 := by
    refine val_zeros fun x hx => ?_
    obtain ⟨i, hi, rfl⟩ := List.getElem_of_mem hx
    rw [List.getElem_drop]
    rw [List.length_drop] at hi
    exact h _ (by omega) (by omega)
  rw [e, h0, Nat.mul_zero, Nat.add_zero]
/-- a trimmed number's length is bounded by its size -/
theorem Tr.len {l : List Nat} (h : Tr l) {k : Nat} (hv : val l < 4294967296 ^ k) : l.length ≤ k := by
  rcases Nat.eq_zero_or_pos l.length with h0 | h0
  · omega
  · have h1 := h h0
    by_cases c : l.length ≤ k
    · exact c
    · exfalso
      have e : l = l.take (l.length - 1) ++ [l[l.length - 1]] := by
        have := List.take_append_drop (l.length - 1) l
        rw [List.drop_eq_getElem_cons (by omega), List.drop_of_length_le (by omega)] at this
        exact this.symm
      have e2 : val l = val (l.take (l.length - 1)) + 4294967296 ^ (l.length - 1) * l[l.length - 1] := by
        conv => lhs; rw [e]
        rw [val_snoc, List.length_take, Nat.min_eq_left (by omega)]
      have h2 : 4294967296 ^ k ≤ 4294967296 ^ (l.length - 1) := Nat.pow_le_pow_right (by decide) (by omega)
      have h3 : 4294967296 ^ (l.length - 1) ≤ 4294967296 ^ (l.length - 1) * l[l.length - 1] := Nat.le_mul_of_pos_right _ (Nat.pos_of_ne_zero h1)
      omega
end FB
/-- a number that lies readable in memory -/
def IsN (w : World) (v : Value) (l : List Nat) : Prop := (∃ A c, v = .slice A l.length c ∧ l.length ≤ c) ∧ IsL 1 w v l.length (cellsN l) ∧ FB.W l
theorem IsN.below {w w' : World} {v : Value} {l : List Nat} (h : IsN w v l) (hb : Below w.heap.size w w') : IsN w' v l := ⟨h.1, h.2.1.below hb, h.2.2⟩
theorem isL_at {w : World} {A : Option Addr} {n c : Nat} {xs : List Value} (h : IsL 1 w (.slice A n c) n xs) (h0 : 0 < xs.length) :
    ∃ b off, A = some ⟨b, off, none⟩ ∧ b < w.heap.size ∧ ∀ i (hi : i < xs.length), w.cell? ⟨b, off + i, none⟩ = some (xs[i]'hi) := by
  obtain ⟨hl, A', c', e, r⟩ := h
  simp only [Value.slice.injEq, true_and] at e
  obtain ⟨rfl, _⟩ := e
  exact r.head h0
theorem IsN.at_ {w : World} {A : Option Addr} {n c : Nat} {l : List Nat} (h : IsN w (.slice A n c) l) (h0 : 0 < l.length) :
    ∃ b off, A = some ⟨b, off, none⟩ ∧ b < w.heap.size ∧ ∀ i (hi : i < l.length), w.cell? ⟨b, off + i, none⟩ = some (.int .u32 ((l[i]'hi : Nat) : Int)) := by
  obtain ⟨⟨A', c', e, _⟩, h2, _⟩ := h
  simp only [Value.slice.injEq] at e
  obtain ⟨rfl, rfl, rfl⟩ := e
  obtain ⟨b, off, e1, e2, e3⟩ := isL_at h2 (by rw [cellsN_len]; exact h0)
  refine ⟨b, off, e1, e2, fun i hi => ?_⟩
  rw [e3 i (by rw [cellsN_len]; exact hi)]
  simp [cellsN]
theorem IsN.take {w : World} {A : Option Addr} {n c : Nat} {l : List Nat} (h : IsN w (.slice A n c) l) (k : Nat) (hk : k ≤ l.length) : IsN w (.slice A k c) (l.take k) := by
  have hl : (l.take k).length = k := by rw [List.length_take]; omega
  have h3 := h
  obtain ⟨⟨A', c', e, hc⟩, h2, hW⟩ := h
  simp only [Value.slice.injEq] at e
  obtain ⟨rfl, rfl, rfl⟩ := e
  refine ⟨⟨A, c, by rw [hl], by omega⟩, ⟨by rw [cellsN_len]; omega, A, c, by rw [hl], fun i hi => ?_⟩, hW.take k⟩
  rw [cellsN_len, hl] at hi
  obtain ⟨b, off, e1, e2, e3⟩ := h3.at_ (by omega)
  refine ⟨b, off, e1, ?_⟩
  rw [e3 i (by omega)]
  simp [cellsN]
theorem info_u32 : (Tryd.prog.info? 102).map (fun i => (i.zero, i.size, i.bytes)) = some (some (.int .u32 0), 1, 4) := by kernel_rfl
end Go.Proofs.YtcbggkdginfakaaDoor
namespace Go.Proofs.YtcbggkdginfakaaDoor
open Go.RowKit
set_option linter.unusedVariables false
set_option linter.unusedSimpArgs false
theorem cellsN_snoc (l : List Nat) (x : Nat) : cellsN l ++ [Value.int .u32 (x : Int)] = cellsN (l ++ [x]) := by simp [cellsN]
/-- a row of words that the call owns, as a number -/
theorem IsN.own {w : World} {B : Nat} {e : TypeId} {v : Value} {l : List Nat} (h : w.ownsRow B e 1 v l.length (cellsN l)) (hW : FB.W l) : IsN w v l := by
  refine ⟨?_, IsL.own h, hW⟩
  rcases h.2 with ⟨rfl, h0⟩ | ⟨g, cap, cur, rfl, hb, hg, h1, _⟩
  · exact ⟨none, 0, by rw [h0], by omega⟩
  · exact ⟨_, cap, rfl, h1⟩
/-- an answer that is a number lying readable -/
def NumAns (w : World) (N : Nat) (e : Ending) (w' : World) : Prop := ∃ v l, e = .returned v ∧ IsN w' v l ∧ FB.Tr l ∧ FB.val l = N ∧ Below w.heap.size w w'
namespace FB
theorem times_step {O : List Nat} {k C x m c V : Nat} (hO : O.length = k) (h : val O + 4294967296 ^ k * C = V * m + c) :
    val (O ++ [(C + x * m) % 4294967296]) + 4294967296 ^ (k + 1) * ((C + x * m) / 4294967296) = (V + 4294967296 ^ k * x) * m + c := by
  rw [val_snoc, hO, Nat.pow_succ, Nat.add_assoc, Nat.mul_assoc, ← Nat.mul_add, Nat.mod_add_div, Nat.mul_add, ← Nat.add_assoc, h, Nat.add_mul]
  rw [Nat.mul_assoc]
  omega
theorem val_take_succ {l : List Nat} {k : Nat} (hk : k < l.length) : val (l.take (k + 1)) = val (l.take k) + 4294967296 ^ k * l[k] := by
  rw [List.take_succ_eq_append_getElem hk, val_snoc, List.length_take, Nat.min_eq_left (by omega)]
end FB
end Go.Proofs.YtcbggkdginfakaaDoor
namespace Go.Proofs.YtcbggkdginfakaaDoor
open Go.RowKit
set_option linter.unusedVariables false
set_option linter.unusedSimpArgs false
namespace FB
def cmp (x y : Nat) : Int := if x < y then -1 else if y < x then 1 else 0
theorem cmp_lt {x y : Nat} (h : x < y) : cmp x y = -1 := if_pos h
theorem cmp_gt {x y : Nat} (h : y < x) : cmp x y = 1 := by unfold cmp; rw [if_neg (by omega), if_pos h]
theorem cmp_eq (x : Nat) : cmp x x = 0 := by unfold cmp; rw [if_neg (by omega), if_neg (by omega)]
theorem Tr.le {l : List Nat} (h : Tr l) (h0 : 0 < l.length) : 4294967296 ^ (l.length - 1) ≤ val l := by
  by_cases c : val l < 4294967296 ^ (l.length - 1)
  · have := h.len c
    omega
  · omega
theorem lt_of_len {a b : List Nat} (ha : W a) (hb : Tr b) (h : a.length < b.length) : val a < val b := by
  have h1 := val_lt ha
  have h2 := hb.le (by omega)
  have h3 : 4294967296 ^ a.length ≤ 4294967296 ^ (b.length - 1) := Nat.pow_le_pow_right (by decide) (by omega)
  omega
theorem lt_at {a b : List Nat} {k : Nat} (hW : W a) (hl : a.length = b.length) (hka : k < a.length) (hkb : k < b.length) (he : a.drop (k + 1) = b.drop (k + 1)) (h : a[k] < b[k]) : val a < val b := by
  have e : ∀ (l : List Nat) (hk : k < l.length), val l = val (l.take k) + 4294967296 ^ k * (l[k] + 4294967296 * val (l.drop (k + 1))) := by
    intro l hk
    have := val_app (l.take k) (l.drop k)
    rw [List.take_append_drop, List.length_take, Nat.min_eq_left (by omega), List.drop_eq_getElem_cons hk, val] at this
    exact this
  rw [e a hka, e b hkb, he]
  have h1 := val_lt (hW.take k)
  rw [List.length_take, Nat.min_eq_left (by omega)] at h1
  have h2 : 4294967296 ^ k * (a[k] + 4294967296 * val (b.drop (k + 1)) + 1) ≤ 4294967296 ^ k * (b[k] + 4294967296 * val (b.drop (k + 1))) := Nat.mul_le_mul_left _ (by omega)
  rw [Nat.mul_add _ _ 1] at h2
  omega
end FB
end Go.Proofs.YtcbggkdginfakaaDoor
namespace Go.Proofs.YtcbggkdginfakaaDoor
open Go.RowKit
set_option linter.unusedVariables false
set_option linter.unusedSimpArgs false
namespace FB
theorem less_step {O a b : List Nat} {k bw bw' d y x VA VB : Nat} (hO : O.length = k) (h : val O + VB = VA + 4294967296 ^ k * bw) (hd : d + bw + y = x + 4294967296 * bw') :
    val (O ++ [d]) + (VB + 4294967296 ^ k * y) = VA + 4294967296 ^ k * x + 4294967296 ^ (k + 1) * bw' := by
  rw [val_snoc, hO, Nat.pow_succ, Nat.mul_assoc, Nat.add_assoc VA, ← Nat.mul_add, ← hd, Nat.mul_add, Nat.mul_add]
  omega
/-- the word that is put at place k -/
def dig (l : List Nat) (k : Nat) : Nat := l.getD k 0
theorem dig_lt {l : List Nat} {k : Nat} (h : k < l.length) : dig l k = l[k] := by
  unfold dig; rw [List.getD_eq_getElem?_getD, List.getElem?_eq_getElem h]; rfl
theorem dig_ge {l : List Nat} {k : Nat} (h : l.length ≤ k) : dig l k = 0 := by
  unfold dig; rw [List.getD_eq_getElem?_getD, List.getElem?_eq_none h]; rfl
theorem val_take_dig (l : List Nat) (k : Nat) : val (l.take (k + 1)) = val (l.take k) + 4294967296 ^ k * dig l k := by
  by_cases h : k < l.length
  · rw [val_take_succ h, dig_lt h]
  · rw [List.take_of_length_le (by omega), List.take_of_length_le (by omega)]
    rw [dig_ge (by omega)]
    simp
end FB
theorem own_snoc {w : World} {B : Nat} {e : TypeId} {v : Value} {O : List Nat} {E : Int} {N d : Nat} {xs : List Value} (h : w.ownsRow B e 1 v N xs) (hN : N = O.length + 1) (hx : xs = cellsN O ++ [Value.int .u32 E]) (hE : E = (d : Int)) :
    w.ownsRow B e 1 v (O ++ [d]).length (cellsN (O ++ [d])) := by
  subst hE hN hx
  rw [← cellsN_snoc, List.length_append]
  exact h
end Go.Proofs.YtcbggkdginfakaaDoor
namespace Go.Proofs.YtcbggkdginfakaaDoor
open Go.RowKit
set_option linter.unusedVariables false
set_option linter.unusedSimpArgs false
theorem isN_lit (w : World) (C : Array Value) (e : TypeId) (l : List Nat) (hC : C.toList = cellsN l) (hW : FB.W l) : IsN (w.alloc (.cells C e)) (.slice (some ⟨w.heap.size, 0, none⟩) l.length l.length) l := by
  refine ⟨⟨_, _, rfl, Nat.le_refl _⟩, ⟨by rw [cellsN_len]; omega, _, _, rfl, fun k hk => ⟨_, _, rfl, ?_⟩⟩, hW⟩
  rw [Nat.zero_add, World.cell?_alloc_mark, ← Array.getElem?_toList, hC, List.getElem?_eq_getElem hk]
namespace FB
theorem ten_lt (n : Nat) : 10 ^ n < 4294967296 ^ (n + 1) :=
  Nat.lt_of_le_of_lt (Nat.pow_le_pow_left (by decide) n) (Nat.pow_lt_pow_right (by decide) (by omega))
end FB
end Go.Proofs.YtcbggkdginfakaaDoor
namespace Go.Proofs.YtcbggkdginfakaaDoor
open Go.RowKit
set_option linter.unusedVariables false
set_option linter.unusedSimpArgs false
section
variable {P : Program} {ops : Array Oper} {rest : List Oper} {o : Oper} {a : Act} {Q : Exit → Act → World → Prop}
/-- 'make([]T, n, m)', elements of one cell -/
theorem wpList_mkz (w : World) (t e : TypeId) (z : Value) (bytes : Nat) (ht : P.underlying t = some (.slice e)) (hinfo : (P.info? e).map (fun i => (i.zero, i.size, i.bytes)) = some (some z, 1, bytes)) (hz1 : z.cells = #[z])
    (hgd : o.guard = none) (l c : Operand) (hop : o.op = Op.makeSlice t l c) (B : Nat) (kl kc : IntKind) (L C : Int) (n m : Nat) (hl : a.eval l = .int kl L) (hc : a.eval c = .int kc C) (hL : L = (n : Int)) (hC : C = (m : Int)) (hnm : n ≤ m)
    (hb : bytes * m ≤ 281474976710656) (hn : m ≤ 9223372036854775807) (hB : B ≤ w.heap.size)
    (h : ∀ w', w'.ownsRow B e 1 (.slice (some ⟨w.heap.size, 0, none⟩) n m) n (List.replicate n z) → w.grownBy w' none → wpList P ops Q rest (a.put o.dst (.slice (some ⟨w.heap.size, 0, none⟩) n m)) w') :
    wpList P ops Q (o :: rest) a w := by
  obtain ⟨i, hi, q0, q1, q2⟩ := info_parts hinfo
  refine wpList_plain hgd fun K hK' => ?_
  have hb' : (i.bytes : Int) * (m : Int) ≤ 281474976710656 := by
    have h : ((i.bytes * m : Nat) : Int) ≤ 281474976710656 := by rw [q2]; omega
    rwa [Int.natCast_mul] at h
  have hr := run_make (P := P) w t e i z ht hi q0 kl kc n m (by omega) (by omega) hb' (by omega)
  simp only [Int.toNat_natCast, q1, Nat.mul_one] at hr
  subst hL
  subst hC
  unfold Oper.wp
  simp [execOp, hop, hl, hc, hr, Result.andThen]
  refine hK' _ _ (h _ ⟨by simp, .inr ⟨w.heap.size, m, madeCells z.cells m, rfl, hB, heap_alloc_new w _, hnm, by unfold maxLen; omega, by rw [size_madeCells]; omega, ?_⟩⟩ (World.grownBy_alloc w _ none))
  rw [hz1, toList_madeCells_one, List.take_replicate]
  congr 1
  omega
end
namespace FB
theorem val_set : ∀ (l : List Nat) (p x : Nat) (h : p < l.length), val (l.set p x) + 4294967296 ^ p * l[p] = val l + 4294967296 ^ p * x
  | y :: l, 0, x, h => by simp [val]; omega
  | y :: l, p + 1, x, h => by
    have h1 := val_set l p x (by simpa using h)
    rw [List.set_cons_succ, val, val, List.getElem_cons_succ, Nat.pow_succ, Nat.mul_comm _ 4294967296, Nat.mul_assoc, Nat.mul_assoc]
    omega
theorem W.set {l : List Nat} (h : W l) {p x : Nat} (hx : x < 4294967296) : W (l.set p x) := fun y hy => by
  rcases List.mem_or_eq_of_mem_set hy with h1 | h1
  · exact h y h1
  · omega
theorem prod_step {R : List Nat} {i j C x y z V : Nat} {VBj : Nat} (hp : i + j < R.length) (hz : R[i + j] = z) (h : val R + 4294967296 ^ (i + j) * C = V + 4294967296 ^ i * x * VBj) :
    val (R.set (i + j) ((C + (z + x * y)) % 4294967296)) + 4294967296 ^ (i + (j + 1)) * ((C + (z + x * y)) / 4294967296) = V + 4294967296 ^ i * x * (VBj + 4294967296 ^ j * y) := by
  have h1 := val_set R (i + j) ((C + (z + x * y)) % 4294967296) hp
  rw [hz] at h1
  have e1 : 4294967296 ^ (i + (j + 1)) * ((C + (z + x * y)) / 4294967296) = 4294967296 ^ (i + j) * (4294967296 * ((C + (z + x * y)) / 4294967296)) := by
    rw [← Nat.add_assoc, Nat.pow_succ, Nat.mul_assoc]
  have e2 : 4294967296 ^ (i + j) * ((C + (z + x * y)) % 4294967296) + 4294967296 ^ (i + j) * (4294967296 * ((C + (z + x * y)) / 4294967296)) = 4294967296 ^ (i + j) * C + 4294967296 ^ (i + j) * z + 4294967296 ^ (i + j) * (x * y) := by
    rw [← Nat.mul_add, Nat.mod_add_div, Nat.mul_add, Nat.mul_add]
    omega
  have e3 : 4294967296 ^ i * x * (VBj + 4294967296 ^ j * y) = 4294967296 ^ i * x * VBj + 4294967296 ^ (i + j) * (x * y) := by
    rw [Nat.mul_add, Nat.pow_add]
    congr 1
    ac_rfl
  rw [e1, e3]
  omega
end FB
theorem cellsN_set (l : List Nat) (p x : Nat) : (cellsN l).set p (.int .u32 (x : Int)) = cellsN (l.set p x) := by simp [cellsN, List.map_set]
theorem cellsN_zero (n : Nat) : List.replicate n (Value.int .u32 0) = cellsN (List.replicate n 0) := by simp [cellsN]
end Go.Proofs.YtcbggkdginfakaaDoor
namespace Go.Proofs.YtcbggkdginfakaaDoor
open Go.RowKit
set_option linter.unusedVariables false
set_option linter.unusedSimpArgs false
namespace FB
theorem shift_step {O : List Nat} {q k C x s V : Nat} (hO : O.length = q + k) (h : val O + 4294967296 ^ (q + k) * C = V * (4294967296 ^ q * 2 ^ s)) :
    val (O ++ [(C + x * 2 ^ s) % 4294967296]) + 4294967296 ^ (q + (k + 1)) * ((C + x * 2 ^ s) / 4294967296) = (V + 4294967296 ^ k * x) * (4294967296 ^ q * 2 ^ s) := by
  rw [val_snoc, hO, ← Nat.add_assoc q k 1, Nat.pow_succ, Nat.add_assoc, Nat.mul_assoc, ← Nat.mul_add, Nat.mod_add_div, Nat.mul_add, ← Nat.add_assoc, h, Nat.add_mul, Nat.pow_add]
  congr 1
  ac_rfl
end FB
end Go.Proofs.YtcbggkdginfakaaDoor
namespace Go.Proofs.YtcbggkdginfakaaDoor
open Go.RowKit
set_option linter.unusedVariables false
set_option linter.unusedSimpArgs false
namespace FB
/-- n / d < 10^k -/
def lt10 (n d : Nat) (k : Int) : Prop := n * 10 ^ (-k).toNat < d * 10 ^ k.toNat
theorem lt10_pos {n d : Nat} {k : Nat} : lt10 n d (k : Int) ↔ n < d * 10 ^ k := by
  unfold lt10
  have e1 : (-(k : Int)).toNat = 0 := by omega
  have e2 : ((k : Int)).toNat = k := by omega
  rw [e1, e2]; simp
theorem lt10_neg {n d : Nat} {k : Nat} : lt10 n d (-(k : Int)) ↔ n * 10 ^ k < d := by
  unfold lt10
  have e1 : (- -(k : Int)).toNat = k := by omega
  have e2 : ((-(k : Int))).toNat = 0 := by omega
  rw [e1, e2]; simp
/-- the same, t powers of ten higher -/
theorem lt10_at {n d : Nat} {k : Int} {t : Nat} {u : Nat} (h : (u : Int) = t + k) : lt10 n d k ↔ n * 10 ^ t < d * 10 ^ u := by
  rcases Int.le_total 0 k with c | c
  · obtain ⟨j, rfl⟩ := Int.eq_ofNat_of_zero_le c
    have : u = t + j := by omega
    subst this
    rw [lt10_pos, Nat.pow_add, Nat.mul_left_comm, Nat.mul_comm n]
    exact (Nat.mul_lt_mul_left (Nat.pow_pos (by decide))).symm
  · obtain ⟨j, hj⟩ : ∃ j : Nat, k = -(j : Int) := ⟨(-k).toNat, by omega⟩
    subst hj
    have : t = u + j := by omega
    subst this
    rw [lt10_neg, Nat.pow_add, Nat.mul_left_comm, Nat.mul_comm d]
    exact (Nat.mul_lt_mul_left (Nat.pow_pos (by decide))).symm
theorem lt10_mono {n d : Nat} {k k' : Int} (h : lt10 n d k) (hk : k ≤ k') : lt10 n d k' := by
  obtain ⟨t, ht⟩ : ∃ t : Nat, 0 ≤ (t : Int) + k := ⟨(-k).toNat, by omega⟩
  obtain ⟨u, hu⟩ := Int.eq_ofNat_of_zero_le ht
  obtain ⟨u', hu'⟩ := Int.eq_ofNat_of_zero_le (show 0 ≤ (t : Int) + k' by omega)
  rw [lt10_at (t := t) (u := u) hu.symm] at h
  rw [lt10_at (t := t) (u := u') hu'.symm]
  exact Nat.lt_of_lt_of_le h (Nat.mul_le_mul_left _ (Nat.pow_le_pow_right (by decide) (by omega)))
theorem len_mul10 {l p : List Nat} {k : Nat} (hl : W l) (hT : Tr p) (hv : val p = val l * 10 ^ k) : p.length ≤ l.length + k + 1 := by
  apply hT.len
  rw [hv, Nat.add_assoc, Nat.pow_add]
  rcases Nat.eq_zero_or_pos (val l) with h0 | h0
  · rw [h0, Nat.zero_mul]
    exact Nat.mul_pos (Nat.pow_pos (by decide)) (Nat.pow_pos (by decide))
  · exact Nat.mul_lt_mul'' (val_lt hl) (ten_lt k)
theorem cmp_neg {x y : Nat} : decide (cmp x y < 0) = decide (x < y) := by
  unfold cmp
  by_cases h : x < y
  · rw [if_pos h]; simp [h]
  · rw [if_neg h]
    by_cases h2 : y < x
    · rw [if_pos h2]; simp [h]
    · rw [if_neg h2]; simp [h]
end FB
theorem Calls.pow_len {w : World} {k : Nat} {v : Value} {l : List Nat} (h : IsN w v l) (hT : FB.Tr l) (hv : FB.val l = 10 ^ k) : l.length ≤ k + 1 := by
  apply hT.len
  rw [hv]
  exact FB.ten_lt k
end Go.Proofs.YtcbggkdginfakaaDoor
namespace Go.Proofs.YtcbggkdginfakaaDoor
open Go.RowKit
set_option linter.unusedVariables false
set_option linter.unusedSimpArgs false
/-- a whole number of that size lies readable -/
def NV (w : World) (v : Value) (N : Nat) : Prop := ∃ l, IsN w v l ∧ FB.Tr l ∧ FB.val l = N
def FB.Lt (k N : Nat) : Prop := N < 4294967296 ^ k
theorem NV.below {w w' : World} {v : Value} {N : Nat} (h : NV w v N) (hb : Below w.heap.size w w') : NV w' v N := by
  obtain ⟨l, h1, h2, h3⟩ := h
  exact ⟨l, h1.below hb, h2, h3⟩
theorem NumAns.nv {w w' : World} {N : Nat} {e : Ending} (h : NumAns w N e w') : ∃ v, e = .returned v ∧ NV w' v N ∧ Below w.heap.size w w' := by
  obtain ⟨v, l, h1, h2, h3, h4, h5⟩ := h
  exact ⟨v, h1, ⟨l, h2, h3, h4⟩, h5⟩
theorem FB.Lt.mul {k N m j : Nat} (h : FB.Lt k N) (hm : m < 4294967296 ^ j) : FB.Lt (k + j) (N * m) := by
  unfold FB.Lt at *
  rw [Nat.pow_add]
  exact Nat.mul_lt_mul'' h hm
theorem FB.Lt.le {k N M : Nat} (h : FB.Lt k N) (hm : M ≤ N) : FB.Lt k M := Nat.lt_of_le_of_lt hm h
end Go.Proofs.YtcbggkdginfakaaDoor
