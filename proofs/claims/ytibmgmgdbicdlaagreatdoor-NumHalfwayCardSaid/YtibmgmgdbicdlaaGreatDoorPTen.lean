/- Digits, the lowest first: a number times two or five; written out. No function of the program in sight. weirlaw02.tens and written. Half way between a float and the next one, a hair above, a hair below: the nearest floats. No function of the program in sight. -/
import Derived.Test.YtibmgmgdbicdlaaGreatDoorPBackMath
import Derived.Test.YtibmgmgdbicdlaaGreatDoorPFig
import Derived.Deep.DeepCutAuto
import Derived.Test.YtibmgmgdbicdlaaGreatDoorPRdA
namespace Go.Proofs.YtibmgmgdbicdlaaGreatDoor
set_option linter.unusedVariables false
namespace PT
def val : List UInt8 → Nat
  | [] => 0
  | c :: l => c.toNat + 10 * val l
def D9 (l : List UInt8) : Prop := ∀ c ∈ l, c.toNat ≤ 9
theorem val_app : ∀ (l : List UInt8) (c : UInt8), val (l ++ [c]) = val l + 10 ^ l.length * c.toNat
  | [], c => by simp [val]
  | x :: l, c => by
    rw [List.cons_append, val, val, val_app l c, List.length_cons, Nat.pow_succ, Nat.mul_add, ← Nat.mul_assoc, Nat.mul_comm 10 (10 ^ l.length)]; omega
theorem val_take {l : List UInt8} {k : Nat} (h : k < l.length) : val (l.take (k + 1)) = val (l.take k) + 10 ^ k * (l[k]'h).toNat := by
  rw [List.take_succ_eq_append_getElem h, val_app, List.length_take, Nat.min_eq_left (by omega)]
theorem val_lt : ∀ (l : List UInt8), D9 l → val l < 10 ^ l.length
  | [], _ => by decide
  | c :: l, h => by
    have h1 := val_lt l (fun x hx => h x (List.mem_cons_of_mem _ hx))
    have hc := h c (List.mem_cons_self ..)
    rw [val, List.length_cons, Nat.pow_succ]; omega
theorem D9.snoc {l : List UInt8} {c : UInt8} (h : D9 l) (hc : c.toNat ≤ 9) : D9 (l ++ [c]) := fun x hx => by
  rcases List.mem_append.1 hx with h1 | h1
  · exact h x h1
  · rw [List.mem_singleton.1 h1]; exact hc
theorem D9.set {l : List UInt8} {c : UInt8} (h : D9 l) (hc : c.toNat ≤ 9) (j : Nat) : D9 (l.set j c) := fun x hx => by
  rcases List.mem_or_eq_of_mem_set hx with h1 | h1
  · exact h x h1
  · rw [h1]; exact hc
/-- the digits of a number, none of them a nought in front -/
structure Ten (l : List UInt8) (V : Nat) : Prop where
  v : val l = V
  d : D9 l
  t : 10 ^ (l.length - 1) ≤ V
  n : 0 < l.length
/-- digits times b, the first j of them done, cy carried -/
structure Mul (l L : List UInt8) (b j cy : Nat) : Prop where
  len : L.length = l.length
  dr : L.drop j = l.drop j
  eq : val (L.take j) + 10 ^ j * cy = b * val (l.take j)
  d : D9 L
theorem Mul.start {l : List UInt8} (h : D9 l) (b : Nat) : Mul l l b 0 0 := ⟨rfl, rfl, rfl, h⟩
theorem Mul.at_ {l L : List UInt8} {b j cy : Nat} (M : Mul l L b j cy) (h : j < L.length) : L[j]'h = l[j]'(by rw [← M.len]; exact h) := by
  have h1 := congrArg (·[0]?) M.dr
  simp only [List.getElem?_drop, Nat.add_zero] at h1
  rw [List.getElem?_eq_getElem h, List.getElem?_eq_getElem (by rw [← M.len]; exact h)] at h1
  exact Option.some.inj h1
theorem Mul.step {l L : List UInt8} {b j cy : Nat} (M : Mul l L b j cy) (h : j < L.length) {x : UInt8} (hx : x.toNat = (cy + (L[j]'h).toNat * b) % 10) : Mul l (L.set j x) b (j + 1) ((cy + (L[j]'h).toNat * b) / 10) := by
  have hl : j < l.length := by rw [← M.len]; exact h
  have hs : j < (L.set j x).length := by rw [List.length_set]; exact h
  refine ⟨by rw [List.length_set]; exact M.len, ?_, ?_, M.d.set (by rw [hx]; omega) j⟩
  · rw [List.drop_set_of_lt (by omega)]
    have := congrArg (List.drop 1) M.dr
    rw [List.drop_drop, List.drop_drop] at this; exact this
  · rw [val_take hs, val_take hl, List.take_set_of_le (by omega), List.getElem_set_self, hx, ← M.at_ h]
    have e := M.eq
    obtain ⟨y, hy⟩ : ∃ y, y = cy + (L[j]'h).toNat * b := ⟨_, rfl⟩
    rw [← hy, Nat.mul_add, ← e, Nat.pow_succ]
    have e1 : b * (10 ^ j * (L[j]'h).toNat) = 10 ^ j * ((L[j]'h).toNat * b) := by
      rw [Nat.mul_comm b, Nat.mul_assoc]
    have e2 : 10 ^ j * y = 10 ^ j * cy + 10 ^ j * ((L[j]'h).toNat * b) := by rw [hy, Nat.mul_add]
    have e3 : 10 ^ j * (y % 10) + 10 ^ j * 10 * (y / 10) = 10 ^ j * y := by
      rw [Nat.mul_assoc, ← Nat.mul_add]; congr 1; omega
    rw [e1]; omega
theorem Mul.done {l L : List UInt8} {b cy V : Nat} (M : Mul l L b l.length cy) (T : Ten l V) (hb : 1 ≤ b) : (cy = 0 → Ten L (b * V)) ∧ (0 < cy → ∀ c : UInt8, c.toNat = cy → cy ≤ 9 → Ten (L ++ [c]) (b * V)) := by
  have e := M.eq
  rw [List.take_of_length_le (Nat.le_refl _), List.take_of_length_le (by rw [M.len]; exact Nat.le_refl _), T.v] at e
  have hV : V ≤ b * V := Nat.le_mul_of_pos_left _ hb
  refine ⟨fun h => ⟨by rw [h, Nat.mul_zero] at e; exact e, M.d, by rw [M.len]; exact Nat.le_trans T.t hV, by rw [M.len]; exact T.n⟩, fun h c hc h9 => ⟨?_, M.d.snoc (by omega), ?_, by simp⟩⟩
  · rw [val_app, M.len, hc]; exact e
  · rw [List.length_append, List.length_singleton, Nat.add_sub_cancel, M.len, ← e]
    have : 10 ^ l.length * 1 ≤ 10 ^ l.length * cy := Nat.mul_le_mul_left _ h
    omega
theorem Ten.len {l : List UInt8} {V k : Nat} (T : Ten l V) (h : V < 10 ^ k) : l.length ≤ k := by
  rcases Nat.lt_or_ge k l.length with c | c
  · exfalso
    have h1 := T.t
    have h2 : 10 ^ k ≤ 10 ^ (l.length - 1) := Nat.pow_le_pow_right (by decide) (by omega)
    omega
  · exact c
/-- written out: the highest digit first -/
def wr (l : List UInt8) : List UInt8 := l.reverse.map fun c => 48 + c
theorem add48 {c : UInt8} (h : c.toNat ≤ 9) : (48 + c).toNat = 48 + c.toNat := by
  rw [UInt8.toNat_add]
  show (48 + c.toNat) % 256 = _
  omega
theorem wr_dig {l : List UInt8} (h : D9 l) : PF.Dig (wr l) := fun c hc => by
  obtain ⟨x, hx, rfl⟩ := List.mem_map.1 hc
  have := h x (List.mem_reverse.1 hx)
  rw [add48 this]; omega
theorem wr_cons (c : UInt8) (l : List UInt8) : wr (c :: l) = wr l ++ [48 + c] := by unfold wr; rw [List.reverse_cons, List.map_append]; rfl
theorem dv_snoc (a : List UInt8) (c : UInt8) : PF.dv (a ++ [c]) = PF.dv a * 10 + (c.toNat - 48) := by
  unfold PF.dv; rw [List.foldl_append]; rfl
theorem wr_val : ∀ (l : List UInt8), D9 l → PF.dv (wr l) = val l
  | [], _ => rfl
  | c :: l, h => by
    have hc := h c (List.mem_cons_self ..)
    rw [wr_cons, dv_snoc, wr_val l (fun x hx => h x (List.mem_cons_of_mem _ hx)), add48 hc, val]; omega
theorem wr_len (l : List UInt8) : (wr l).length = l.length := by unfold wr; rw [List.length_map, List.length_reverse]
/-- one less in the last place that is none: the digits below it become nines -/
structure Less1 (l L : List UInt8) (j : Nat) : Prop where
  len : L.length = l.length
  dr : L.drop j = l.drop j
  eq : val (L.take j) + 1 = val (l.take j) + 10 ^ j
  d : D9 L
theorem Less1.start {l : List UInt8} (h : D9 l) : Less1 l l 0 := ⟨rfl, rfl, rfl, h⟩
theorem Less1.at_ {l L : List UInt8} {j : Nat} (M : Less1 l L j) (h : j < L.length) : L[j]'h = l[j]'(by rw [← M.len]; exact h) := by
  have h1 := congrArg (·[0]?) M.dr
  simp only [List.getElem?_drop, Nat.add_zero] at h1
  rw [List.getElem?_eq_getElem h, List.getElem?_eq_getElem (by rw [← M.len]; exact h)] at h1
  exact Option.some.inj h1
theorem Less1.step {l L : List UInt8} {j : Nat} (M : Less1 l L j) (h : j < L.length) (h0 : (L[j]'h).toNat = 0) : Less1 l (L.set j 9) (j + 1) := by
  have hl : j < l.length := by rw [← M.len]; exact h
  have hs : j < (L.set j 9).length := by rw [List.length_set]; exact h
  refine ⟨by rw [List.length_set]; exact M.len, ?_, ?_, M.d.set (by decide) j⟩
  · rw [List.drop_set_of_lt (by omega)]
    have := congrArg (List.drop 1) M.dr
    rw [List.drop_drop, List.drop_drop] at this; exact this
  · rw [val_take hs, val_take hl, List.take_set_of_le (by omega), List.getElem_set_self, ← M.at_ h, h0]
    have e := M.eq
    rw [Nat.pow_succ]
    show _ + 10 ^ j * 9 + 1 = _ + 10 ^ j * 0 + _
    omega
theorem Less1.done {l L : List UInt8} {j : Nat} (M : Less1 l L j) (h : j < L.length) {x : UInt8} (hx : x.toNat + 1 = (L[j]'h).toNat) : val (L.set j x) + 1 = val l ∧ D9 (L.set j x) ∧ (L.set j x).length = l.length := by
  have hl : j < l.length := by rw [← M.len]; exact h
  have hL := M.d _ (List.getElem_mem h)
  have cut : ∀ (A : List UInt8) (k : Nat), val A = val (A.take k) + 10 ^ (min k A.length) * val (A.drop k) := by
    intro A
    induction A with
    | nil => intro k; simp [val]
    | cons c A ih =>
      intro k
      cases k with
      | zero => simp [val]
      | succ k =>
        rw [List.take_succ_cons, List.drop_succ_cons, val, val, ih k, List.length_cons, show min (k + 1) (A.length + 1) = min k A.length + 1 by omega, Nat.pow_succ, Nat.mul_add, Nat.mul_comm (10 ^ _) 10, Nat.mul_assoc]; omega
  have hs : (L.set j x).length = l.length := by rw [List.length_set]; exact M.len
  refine ⟨?_, M.d.set (by omega) j, hs⟩
  have e := M.eq
  have c1 := cut (L.set j x) (j + 1)
  have c2 := cut l (j + 1)
  have hsj : j < (L.set j x).length := by rw [List.length_set]; exact h
  rw [hs, List.drop_set_of_lt (by omega), val_take hsj, List.take_set_of_le (by omega), List.getElem_set_self] at c1
  rw [val_take hl, ← M.at_ h, ← hx] at c2
  have hd : L.drop (j + 1) = l.drop (j + 1) := by
    have := congrArg (List.drop 1) M.dr
    rw [List.drop_drop, List.drop_drop] at this; exact this
  rw [hd] at c1
  rw [c1, c2, Nat.mul_add, Nat.mul_one]; omega
end PT
end Go.Proofs.YtibmgmgdbicdlaaGreatDoor
namespace Go.Proofs.YtibmgmgdbicdlaaGreatDoor
open Go.RowKit
set_option linter.unusedVariables false
set_option linter.unusedSimpArgs false
theorem row_shape {w : World} {B : Nat} {v : Value} {n : Nat} {xs : List Value} (h : w.ownsRow B 5 1 v n xs) (hn : 0 < n) : ∃ g cap, v = .slice (some ⟨g, 0, none⟩) n cap := by
  rcases h.2 with ⟨_, h2⟩ | ⟨g, cap, cur, h1, _⟩
  · omega
  · exact ⟨g, cap, h1⟩
theorem cellsB_set (l : List UInt8) (j : Nat) (x : UInt8) : cellsB (l.set j x) = (cellsB l).set j (.int .u8 (x.toNat : Int)) := by
  unfold cellsB; rw [List.map_set]
theorem Row1.put {w0 W : World} {g cap n : Nat} {bs : List UInt8} (R : Row1 w0 W (.slice (some ⟨g, 0, none⟩) n cap) bs) (hn : bs.length = n) (j : Nat) (x : UInt8) : Row1 w0 (W.setCell ⟨g, j, none⟩ (.int .u8 (x.toNat : Int))) (.slice (some ⟨g, 0, none⟩) n cap) (bs.set j x) := by
  subst hn
  have h := R.o.stored j (.int .u8 (x.toNat : Int))
  refine ⟨?_, ?_⟩
  · rw [List.length_set, cellsB_set]; exact h.1
  · exact R.b.grown h.2 R.b.size (fun k hk => by
      have : g = k := by simpa using hk
      subst this
      exact (R.o.lt g rfl).1)
theorem Row1.cell {w0 W : World} {g cap n : Nat} {bs : List UInt8} (R : Row1 w0 W (.slice (some ⟨g, 0, none⟩) n cap) bs) (hn : bs.length = n) (j : Nat) (h : j < bs.length) : W.cell? ⟨g, j, none⟩ = some (.int .u8 ((bs[j]'h).toNat : Int)) := by
  subst hn
  rw [row_cell R.o rfl j (by rw [cellsB_len]; exact h)]
  simp [cellsB]
theorem Row1.fz {w0 W : World} {g cap n : Nat} {bs : List UInt8} (R : Row1 w0 W (.slice (some ⟨g, 0, none⟩) n cap) bs) (hn : bs.length = n) (j : Nat) : W.frozen? ⟨g, j, none⟩ = false := by
  subst hn
  exact R.o.frozenAt j
namespace PT
/-- the number behind i multiplications -/
def pw (n five i : Nat) : Nat := n * 5 ^ (min i five) * 2 ^ (i - five)
theorem pw_0 (n five : Nat) : pw n five 0 = n := by unfold pw; simp
theorem pw_next (n five i : Nat) : pw n five (i + 1) = (if i < five then 5 else 2) * pw n five i := by
  unfold pw
  split
  · rename_i h
    rw [show min (i + 1) five = min i five + 1 by omega, show i + 1 - five = 0 by omega, show i - five = 0 by omega, Nat.pow_succ]; ac_rfl
  · rename_i h
    rw [show min (i + 1) five = min i five by omega, show i + 1 - five = i - five + 1 by omega, Nat.pow_succ]; ac_rfl
theorem pw_mono (n five i : Nat) : ∀ k, pw n five i ≤ pw n five (i + k)
  | 0 => Nat.le_refl _
  | k + 1 => by
    refine Nat.le_trans (pw_mono n five i k) ?_
    rw [← Nat.add_assoc, pw_next]
    exact Nat.le_mul_of_pos_left _ (by split <;> decide)
/-- the digits of n0, so many read that n is left -/
structure Low (n0 n : Nat) (l : List UInt8) : Prop where
  v : val l + 10 ^ l.length * n = n0
  d : D9 l
  t : n = 0 → 10 ^ (l.length - 1) ≤ n0 ∧ 0 < l.length
theorem Low.start {n : Nat} (h : 0 < n) : Low n n [] := ⟨by simp [val], (fun c hc => by cases hc), fun h' => by omega⟩
theorem Low.step {n0 n : Nat} {l : List UInt8} (L : Low n0 n l) (h : 0 < n) {c : UInt8} (hc : c.toNat = n % 10) : Low n0 (n / 10) (l ++ [c]) := by
  refine ⟨?_, L.d.snoc (by omega), fun h0 => ⟨?_, by simp⟩⟩
  · rw [val_app, List.length_append, List.length_singleton, Nat.pow_succ, hc, ← L.v, Nat.mul_assoc, Nat.add_assoc, ← Nat.mul_add]; congr 2; omega
  · rw [List.length_append, List.length_singleton, Nat.add_sub_cancel, ← L.v]
    have : 10 ^ l.length * 1 ≤ 10 ^ l.length * n := Nat.mul_le_mul_left _ h
    omega
theorem Low.ten {n0 : Nat} {l : List UInt8} (L : Low n0 0 l) : Ten l n0 := ⟨by have := L.v; rw [Nat.mul_zero] at this; exact this, L.d, (L.t rfl).1, (L.t rfl).2⟩
end PT
set_option maxRecDepth 100000 in
set_option maxHeartbeats 4000000 in
theorem tens_any (n0 five two : Nat) (w : World) (h0 : 0 < n0) (hn : n0 < 18446744073709551616) (h5 : five ≤ 1000) (h2 : two ≤ 1000) (hV : PT.pw n0 five (five + two) < 10 ^ 450) :
    Calls Tryz.prog 35 #[.int .u64 (n0 : Int), .int .i64 (five : Int), .int .i64 (two : Int)] w fun e w' => ∃ v l, e = .returned v ∧ Row1 w w' v l ∧ PT.Ten l (PT.pw n0 five (five + two)) := by
  have HV := hd hV
  clear hV
  go_enter Tryz.func35, Tryz.ntmps35
  go_wp2_with fail
  go_loopw [0, 7] (fun xn xd wr => ∃ (n : Nat) (l : List UInt8), n < 18446744073709551616 ∧ xn = .int .u64 (n : Int) ∧ Hd (l.length ≤ 20 ∧ n < 10 ^ (20 - l.length)) ∧ Hd (PT.Low n0 n l) ∧ Hd (Row1 w wr xd l)) (fun xn _ _ => (intOf xn).toNat)
  case atStart => exact ⟨n0, [], hn, rfl, hd ⟨by decide, Nat.lt_trans hn (by decide)⟩, hd (PT.Low.start h0), hd (Row1.start w)⟩
  case round =>
    clear hn h0
    obtain ⟨n, l, hn, rfl, HL, HLow, HR⟩ := hrel
    by_cases hz : n = 0
    · subst hz
      have e0 : ((0 : Nat) : Int) = 0 := rfl
      rw [e0]
      clear e0
      have HT := hd HLow.o.ten
      have HV0 : Hd (PT.Ten l (PT.pw n0 five 0)) := hd (by rw [PT.pw_0]; exact HT.o)
      clear HLow HT HL
      go_wp2_with fail
      go_loopw [7, 8] (fun xd xi wr => ∃ (i : Nat) (l : List UInt8), i ≤ five + two ∧ xi = .int .i64 (i : Int) ∧ Hd (PT.Ten l (PT.pw n0 five i)) ∧ Hd (Row1 w wr xd l)) (fun _ xi _ => five + two - (intOf xi).toNat)
      case atStart => exact ⟨0, l, Nat.zero_le _, rfl, HV0, HR⟩
      case round =>
        clear HV0 HR
        obtain ⟨i, l, hi, rfl, HT, HR⟩ := hrel
        have HL450 : Hd (l.length ≤ 450) := hd (HT.o.len (Nat.lt_of_le_of_lt (by
          have := PT.pw_mono n0 five i (five + two - i)
          rw [show i + (five + two - i) = five + two by omega] at this; exact this) HV.o))
        have hl450 : l.length ≤ 450 := HL450.o
        have hl0 := HT.o.n
        obtain ⟨g, cap, hv⟩ := row_shape HR.o.o hl0
        by_cases hlt : i < five + two
        · subst hv
          have hltI : (i : Int) < (five : Int) + (two : Int) := by omega
          obtain ⟨b, hb⟩ : ∃ b : Nat, b = if i < five then 5 else 2 := ⟨_, rfl⟩
          have HBV := hd hb
          have hb5 : b ≤ 5 := by rw [hb]; split <;> decide
          have hb1 : 1 ≤ b := by rw [hb]; split <;> decide
          clear hb
          go_upto_if 31 with fail
          go_cut [10] from 29 to 31 (fun x10 wx => x10 = .int .u8 (b : Int) ∧ wx = wr)
          case first =>
            by_cases h5i : i < five
            · obtain rfl : b = 5 := by rw [HBV.o, if_pos h5i]
              have h5I : (i : Int) < (five : Int) := by omega
              go_wp2
              go_meet
              case rel => exact ⟨rfl, rfl⟩
            · obtain rfl : b = 2 := by rw [HBV.o, if_neg h5i]
              have h5I : ¬ (i : Int) < (five : Int) := by omega
              go_wp2
              go_meet
              case rel => exact ⟨rfl, rfl⟩
          case rest =>
            obtain ⟨rfl, rfl⟩ := hcut
            have HM0 := hd (PT.Mul.start HT.o.d b)
            obtain ⟨N, hN⟩ : ∃ N, N = l.length := ⟨_, rfl⟩
            rw [← hN] at hl0 hl450 HR ⊢
            have HN := hd hN
            clear hN
            go_wp2_with fail
            go_loopw [9, 11] (fun xc xj wq => ∃ (j cy : Nat) (L : List UInt8), j ≤ N ∧ cy ≤ 4 ∧ xc = .int .u8 (cy : Int) ∧ xj = .int .i64 (j : Int) ∧ Hd (PT.Mul l L b j cy) ∧ Hd (Row1 w wq (.slice (some ⟨g, 0, none⟩) N cap) L)) (fun _ xj _ => N - (intOf xj).toNat)
            case atStart => exact ⟨0, 0, l, Nat.zero_le _, by decide, rfl, rfl, HM0, HR⟩
            case round =>
              obtain ⟨j, cy, L, hj, hcy, rfl, rfl, HM, HRL⟩ := hrel
              have HLL : Hd (L.length = N) := hd (HM.o.len.trans HN.o.symm)
              by_cases hjn : j < N
              · have hLj : j < L.length := by rw [HLL.o]; exact hjn
                have cj := HRL.o.cell HLL.o j hLj
                have zj := HRL.o.fz HLL.o j
                have hy9 : (L[j]'hLj).toNat ≤ 9 := HM.o.d _ (List.getElem_mem hLj)
                obtain ⟨p, hp⟩ : ∃ p, p = (L[j]'hLj).toNat * b := ⟨_, rfl⟩
                have hpb : p ≤ 45 := by rw [hp]; exact Nat.le_trans (Nat.mul_le_mul hy9 hb5) (by decide)
                have hpi : ((L[j]'hLj).toNat : Int) * (b : Int) = (p : Int) := by rw [hp]; exact (Int.natCast_mul _ _).symm
                have HS := hd (fun x hx => HM.o.step hLj (x := x) hx)
                rw [← hp] at HS
                have HX : Hd (((cy : Int) + (p : Int)) % 10 = ((UInt8.ofNat ((cy + p) % 10)).toNat : Int)) := hd (by
                  rw [UInt8.toNat_ofNat', Nat.mod_eq_of_lt (by omega)]; omega)
                have HM2 : Hd (PT.Mul l (L.set j (UInt8.ofNat ((cy + p) % 10))) b (j + 1) ((cy + p) / 10)) := hd (HS.o _ (by rw [UInt8.toNat_ofNat', Nat.mod_eq_of_lt (by omega)]))
                have HR2 : Hd (Row1 w (wr.setCell ⟨g, j, none⟩ (.int .u8 (((cy : Int) + (p : Int)) % 10))) (.slice (some ⟨g, 0, none⟩) N cap) (L.set j (UInt8.ofNat ((cy + p) % 10)))) := hd (by
                  rw [HX.o]; exact HRL.o.put HLL.o j _)
                have hjI : (j : Int) < (N : Int) := by omega
                have hq : ((cy : Int) + (p : Int)) / 10 = (((cy + p) / 10 : Nat) : Int) := by omega
                have hq4 : (cy + p) / 10 ≤ 4 := by omega
                generalize UInt8.ofNat ((cy + p) % 10) = x at *
                generalize (L[j]'hLj).toNat = y at *
                clear hp HS HX hLj
                generalize (cy + p) / 10 = cz at *
                go_wp2
                go_roundw
                case rel => exact ⟨j + 1, cz, _, by omega, hq4, by first | rfl | rw [hq], by go_num, HM2, HR2⟩
                case measure => simp [intOf]; omega
              · obtain rfl : j = N := by omega
                have hjI : ¬ ((j : Int) < (j : Int)) := by omega
                obtain ⟨d1, d2⟩ := PT.Mul.done (by have := HM.o; rw [HN.o] at this; exact this) HT.o hb1
                have HD1 := hd d1
                have HD2 := hd d2
                have HPN : Hd (PT.pw n0 five (i + 1) = b * PT.pw n0 five i) := hd (by rw [PT.pw_next, HBV.o])
                clear d1 d2 hjn
                by_cases hc0 : cy = 0
                · subst hc0
                  have HT2 := hd (HD1.o rfl)
                  clear HD1 HD2
                  go_wp2
                  go_roundw
                  case rel => exact ⟨i + 1, L, by omega, by go_num, hd (by rw [HPN.o]; exact HT2.o), HRL⟩
                  case measure => simp [intOf]; omega
                · have hcI : (0 : Int) < (cy : Int) := by omega
                  have HC : Hd ((cy : Int) = ((UInt8.ofNat cy).toNat : Int)) := hd (by rw [UInt8.toNat_ofNat', Nat.mod_eq_of_lt (by omega)])
                  have HT2 := hd (HD2.o (by omega) (UInt8.ofNat cy) (by rw [UInt8.toNat_ofNat', Nat.mod_eq_of_lt (by omega)]) (by omega))
                  have HLB : Hd (L.length ≤ 100000000) := hd (by rw [HLL.o]; omega)
                  clear HD1 HD2 hc0
                  go_wp2_with (at_builtin; refine wpList_push1 Tryz.underlying50 info_u8f rfl _ _ rfl HRL.o HLB.o (UInt8.ofNat cy) _ HC.o _ rfl rfl rfl ?_)
                  intro v2 w2 hR2
                  have HR2 := hd hR2
                  clear hR2
                  go_wp2
                  go_roundw
                  case rel => exact ⟨i + 1, _, by omega, by go_num, hd (by rw [HPN.o]; exact HT2.o), HR2⟩
                  case measure => simp [intOf]; omega
        · obtain rfl : i = five + two := by omega
          clear hv
          go_wp2
          go_ret
          exact ⟨_, l, rfl, HR.o, HT.o⟩
    · have hnI : (0 : Int) < (n : Int) := by omega
      have hl20 : l.length < 20 := by
        have h1 := HL.o
        rcases Nat.lt_or_ge l.length 20 with c | c
        · exact c
        · exfalso
          rw [show 20 - l.length = 0 by omega, Nat.pow_zero] at h1
          omega
      have HX : Hd ((n : Int) % 10 = ((UInt8.ofNat (n % 10)).toNat : Int)) := hd (by
        rw [UInt8.toNat_ofNat', Nat.mod_eq_of_lt (by omega)]; omega)
      have HN : Hd (PT.Low n0 (n / 10) (l ++ [UInt8.ofNat (n % 10)])) := hd (HLow.o.step (by omega) (by rw [UInt8.toNat_ofNat', Nat.mod_eq_of_lt (by omega)]))
      have HL2 : Hd ((l ++ [UInt8.ofNat (n % 10)]).length ≤ 20 ∧ n / 10 < 10 ^ (20 - (l ++ [UInt8.ofNat (n % 10)]).length)) := hd (by
        have h1 := HL.o.2
        rw [List.length_append, List.length_singleton]
        refine ⟨by omega, ?_⟩
        rw [show 20 - l.length = 20 - (l.length + 1) + 1 by omega, Nat.pow_succ] at h1
        omega)
      have HLB : Hd (l.length ≤ 100000000) := hd (by omega)
      have hq : (n : Int) / 10 = ((n / 10 : Nat) : Int) := by omega
      have HQ : Hd (n / 10 < n ∧ n / 10 < 18446744073709551616) := hd (by omega)
      generalize UInt8.ofNat (n % 10) = c at *
      generalize n / 10 = n2 at *
      clear hz HLow HL hl20
      go_wp2_with (at_builtin; refine wpList_push1 Tryz.underlying50 info_u8f rfl _ _ rfl HR.o HLB.o c _ HX.o _ rfl rfl rfl ?_)
      intro v2 w2 hR2
      have HR2 := hd hR2
      clear hR2 HR
      go_wp2
      go_roundw
      case rel => exact ⟨n2, _, HQ.o.2, by first | rfl | rw [hq], HL2, HN, HR2⟩
      case measure => have := HQ.o.1; simp [intOf]; omega
set_option maxRecDepth 100000 in
set_option maxHeartbeats 4000000 in
theorem written_any (Pl : Option Addr) (cl : Nat) (l : List UInt8) (w : World) (hd9 : PT.D9 l) (hl : l.length ≤ 450) (hI : IsL 1 w (.slice Pl l.length cl) l.length (cellsB l)) :
    Calls Tryz.prog 36 #[.slice Pl l.length cl] w fun e w' => e = .returned (.string ⟨(PT.wr l).toArray⟩) ∧ Below w.heap.size w w' := by
  have hmk := fun W => mk0_run l.length (by omega) W
  have HR0 : Hd (Row1 w (w.alloc (.cells (mk0 l.length) 5)) (.slice (some ⟨w.heap.size, 0, none⟩) 0 l.length) []) := hd ⟨own_mk0 w l.length w.heap.size (Nat.le_refl _) (by omega), (Below.refl _ _).alloc (Nat.le_refl _) _⟩
  have HD9 := hd hd9
  have HI := hd hI
  obtain ⟨N, hN⟩ : ∃ N, N = l.length := ⟨_, rfl⟩
  rw [← hN] at hmk HR0 hl HI ⊢
  have HN := hd hN
  clear hd9 hI hN
  go_enter Tryz.func36, Tryz.ntmps36
  go_wp2_with fail
  go_loopw [3, 4] (fun xd xi wr => ∃ k : Nat, k ≤ N ∧ xi = .int .i64 ((k : Int) - 1) ∧ Hd (Row1 w wr xd (PT.wr (l.drop k)))) (fun _ xi _ => (intOf xi + 1).toNat)
  case atStart => exact ⟨N, Nat.le_refl _, rfl, hd (by rw [List.drop_of_length_le (by have := HN.o; omega)]; exact HR0.o)⟩
  case round =>
    clear hmk HR0
    obtain ⟨k, hk, rfl, HR⟩ := hrel
    by_cases hk0 : k = 0
    · subst hk0
      have hcv : (convert 50 9 u3).run Tryz.prog wr = .ok (.string ⟨(PT.wr l).toArray⟩) wr := by
        have h := conv_u8 (IsL.own HR.o.o)
        rw [List.drop_zero] at h; exact h
      go_wp2
      go_ret
      exact ⟨rfl, HR.o.b⟩
    · obtain ⟨j, rfl⟩ : ∃ j, k = j + 1 := ⟨k - 1, by omega⟩
      have ej : ((j + 1 : Nat) : Int) - 1 = (j : Int) := by omega
      rw [ej]
      have hjl : j < l.length := by have := HN.o; omega
      obtain ⟨bb, ob, rfl, cj⟩ := isL_cell (by have h := IsL.below HI.o HR.o.b; rw [HN.o] at h; exact h) j hjl
      have hjN : j < N := by omega
      have hjI : (j : Int) < (N : Int) := by omega
      have hj0 : (0 : Int) ≤ (j : Int) := by omega
      have hc9 : (l[j]'hjl).toNat ≤ 9 := HD9.o _ (List.getElem_mem hjl)
      have HX : Hd ((48 : Int) + ((l[j]'hjl).toNat : Int) = ((48 + (l[j]'hjl) : UInt8).toNat : Int)) := hd (by rw [PT.add48 hc9]; omega)
      have HW : Hd (PT.wr (l.drop j) = PT.wr (l.drop (j + 1)) ++ [48 + (l[j]'hjl)]) := hd (by rw [← PT.wr_cons, List.drop_eq_getElem_cons hjl])
      have HLB : Hd ((PT.wr (l.drop (j + 1))).length ≤ 100000000) := hd (by rw [PT.wr_len, List.length_drop]; have := HN.o; omega)
      generalize (48 + (l[j]'hjl) : UInt8) = x at *
      generalize (l[j]'hjl).toNat = y at *
      clear hjl
      go_wp2_with (at_builtin; refine wpList_push1 Tryz.underlying50 info_u8f rfl _ _ rfl HR.o HLB.o x _ HX.o _ rfl rfl rfl ?_)
      intro v2 w2 hR2
      have HR2 := hd hR2
      clear hR2 HR
      go_wp2
      go_roundw
      case rel => exact ⟨j, by omega, rfl, hd (by rw [HW.o]; exact HR2.o)⟩
      case measure => simp [intOf]
end Go.Proofs.YtibmgmgdbicdlaaGreatDoor
namespace Go.Proofs.YtibmgmgdbicdlaaGreatDoor
set_option linter.unusedVariables false
namespace PT
open FS
/-- a float of 53 bits, what stands half way behind it -/
structure Half (r : Nat) (e : Int) (five two lo V : Nat) : Prop where
  rb : r < 4503599627370496
  e1 : -600 ≤ e
  e2 : e ≤ 971
  f : (five : Int) = if e < 1 then 1 - e else 0
  t : (two : Int) = if e < 1 then 0 else e - 1
  lb : (lo : Int) = (e + 1075) * 4503599627370496 + r
  vb : V = pw (9007199254740993 + 2 * r) five (five + two)
section
variable {r five two lo V : Nat} {e : Int}
def fv (k : Nat) : Nat := 5 ^ k
theorem fvB : 18014398509481984 * fv 601 < X 450 ∧ 18014398509481984 * Z 970 < X 450 := by decide +kernel
theorem fv_le {a b : Nat} (h : a ≤ b) : fv a ≤ fv b := Nat.pow_le_pow_right (by decide) h
theorem pw_all (n five two : Nat) : pw n five (five + two) = n * fv five * Z two := by
  unfold pw fv Z; rw [Nat.min_eq_right (by omega), Nat.add_sub_cancel_left]
theorem X_fv (k : Nat) : X k = fv k * Z k := by unfold X fv Z; rw [← Nat.mul_pow]
theorem X_ten (k : Nat) : X (k + 1) = 10 * X k := by unfold X; rw [Nat.pow_succ, Nat.mul_comm]
theorem X_def' (k : Nat) : X k = 10 ^ k := rfl
theorem Z_leX (k : Nat) : Z k ≤ X k := Nat.pow_le_pow_left (by decide) k
theorem fv_0 : fv 0 = 1 := rfl
theorem Z_0 : Z 0 = 1 := rfl
theorem fv_pos (k : Nat) : 0 < fv k := Nat.pow_pos (by decide)
attribute [local irreducible] X Z fv
theorem Half.bound (H : Half r e five two lo V) : V < X 450 := by
  have h1 := H.rb
  have hf := H.f
  have ht := H.t
  have e1 := H.e1
  have e2 := H.e2
  rw [H.vb, pw_all]
  by_cases c : e < 1
  · rw [if_pos c] at hf ht
    have : two = 0 := by omega
    subst this
    rw [Z_0, Nat.mul_one]
    exact Nat.lt_of_le_of_lt (Nat.mul_le_mul (by omega) (fv_le (by omega))) fvB.1
  · rw [if_neg c] at hf ht
    have : five = 0 := by omega
    subst this
    rw [fv_0, Nat.mul_one]
    exact Nat.lt_of_le_of_lt (Nat.mul_le_mul (by omega) (Z_mono' (by omega))) fvB.2
theorem Half.pos (H : Half r e five two lo V) : 0 < V := by
  rw [H.vb, pw_all]
  exact Nat.mul_pos (Nat.mul_pos (by omega) (fv_pos _)) (Z_pos _)
theorem Half.at_ (H : Half r e five two lo V) : ∃ K : Nat, (K : Int) = e + 1074 ∧ lo = (K + 1) * 4503599627370496 + r ∧ K < 2046 ∧ 1 ≤ K ∧ lo < INF ∧ hf lo = (9007199254740993 + 2 * r) * Z K := by
  obtain ⟨K, hK⟩ : ∃ K : Nat, (K : Int) = e + 1074 := ⟨(e + 1074).toNat, by have := H.e1; omega⟩
  have hl := H.lb
  have hr := H.rb
  have e1 := H.e1
  have e2 := H.e2
  have hlo : lo = (K + 1) * 4503599627370496 + r := by omega
  refine ⟨K, hK, hlo, by omega, by omega, by unfold INF; omega, ?_⟩
  rw [hlo]; exact hf_high hr (by omega)
theorem Half.eq (H : Half r e five two lo V) : V * Z 1075 = hf lo * X five := by
  obtain ⟨K, hK, _, _, _, _, hh⟩ := H.at_
  have hf := H.f
  have ht := H.t
  have e1 := H.e1
  rw [hh, H.vb, pw_all, X_fv]
  have : Z two * Z 1075 = Z K * Z five := by
    rw [Z_mul, Z_mul]
    refine congrArg Z ?_
    split at hf <;> split at ht <;> omega
  calc (9007199254740993 + 2 * r) * fv five * Z two * Z 1075 = (9007199254740993 + 2 * r) * fv five * (Z two * Z 1075) := by ac_rfl
    _ = _ := by rw [this]; ac_rfl
/-- a unit of the last place of the text is less than the distance of two floats -/
theorem Half.unit (H : Half r e five two lo V) {K : Nat} (hK : (K : Int) = e + 1074) : Z 1075 ≤ Z K * X five := by
  have hf := H.f
  have e1 := H.e1
  by_cases c : e < 1
  · rw [if_pos c] at hf
    refine Nat.le_trans ?_ (Nat.mul_le_mul_left _ (Z_leX five))
    rw [Z_mul]
    exact Z_mono' (by omega)
  · rw [if_neg c] at hf
    have : five = 0 := by omega
    subst this
    exact Nat.le_trans (Z_mono' (by omega)) (Nat.le_mul_of_pos_right _ (X_pos _))
theorem Half.even (H : Half r e five two lo V) (h : r % 2 = 0) : Rnd V (X five) lo := by
  obtain ⟨K, hK, hlo, _, _, hI, _⟩ := H.at_
  have hE := H.eq
  have h2 : lo % 2 = 0 := by omega
  refine ⟨by omega, .inr (.inl ?_), .inr (.inr ⟨hE, h2⟩)⟩
  rw [hE]
  exact Nat.mul_lt_mul_of_pos_right (hf_lt (by omega) hI) (X_pos _)
theorem Half.odd (H : Half r e five two lo V) (h : r % 2 = 1) : Rnd V (X five) (lo + 1) := by
  obtain ⟨K, hK, hlo, _, _, hI, _⟩ := H.at_
  have hE := H.eq
  have h2 : (lo + 1) % 2 = 0 := by omega
  refine ⟨by omega, .inr (.inr ⟨by rw [Nat.add_sub_cancel]; exact hE.symm, h2⟩), ?_⟩
  rcases Nat.lt_or_ge (lo + 1) INF with c | c
  · right; left
    rw [hE]
    exact Nat.mul_lt_mul_of_pos_right (hf_lt (by omega) c) (X_pos _)
  · left; omega
theorem hf_gap {K r : Nat} (hr : r < 4503599627370496) (hK : K < 2046) (hI : (K + 1) * 4503599627370496 + r + 1 < INF) : hf ((K + 1) * 4503599627370496 + r) + 2 * Z K ≤ hf ((K + 1) * 4503599627370496 + r + 1) := by
  rw [hf_high hr hK]
  by_cases c : r + 1 < 4503599627370496
  · rw [Nat.add_assoc ((K + 1) * 4503599627370496), hf_high c hK, ← Nat.add_mul]
    exact Nat.mul_le_mul_right _ (by omega)
  · have e : (K + 1) * 4503599627370496 + r + 1 = (K + 1 + 1) * 4503599627370496 + 0 := by omega
    have hK2 : K + 1 < 2046 := by unfold INF at hI; omega
    rw [e, hf_high (by decide) hK2, Z_succ, ← Nat.mul_assoc, ← Nat.add_mul]
    exact Nat.mul_le_mul_right _ (by omega)
theorem Half.up (H : Half r e five two lo V) : Rnd (10 * V + 1) (X (five + 1)) (lo + 1) := by
  obtain ⟨K, hK, hlo, hK2, _, hI, _⟩ := H.at_
  have hE := H.eq
  have hU := H.unit hK
  have hz := Z_pos 1075
  rw [X_ten]
  refine ⟨by omega, .inr (.inl ?_), ?_⟩
  · rw [Nat.add_sub_cancel]
    have : hf lo * (10 * X five) = 10 * (V * Z 1075) := by rw [hE]; ac_rfl
    rw [this, Nat.add_mul, Nat.mul_assoc]; omega
  · rcases Nat.lt_or_ge (lo + 1) INF with c | c
    · right; left
      have hg := hf_gap H.rb hK2 (by rw [← hlo]; exact c)
      rw [← hlo] at hg
      have h1 := Nat.mul_le_mul_right (10 * X five) hg
      have e1 : (hf lo + 2 * Z K) * (10 * X five) = 10 * (V * Z 1075) + 20 * (Z K * X five) := by
        rw [Nat.add_mul, hE]
        have : 2 * Z K * (10 * X five) = 20 * (Z K * X five) := by rw [show (20 : Nat) = 2 * 10 from rfl]; ac_rfl
        rw [this]; congr 1; ac_rfl
      rw [e1] at h1
      rw [Nat.add_mul, Nat.mul_assoc]; omega
    · left; omega
theorem Half.down (H : Half r e five two lo V) {n : Nat} (hn : n + 1 = 10 * V) : Rnd n (X (five + 1)) lo := by
  obtain ⟨K, hK, hlo, hK2, hK1, hI, _⟩ := H.at_
  have hE := H.eq
  have hU := H.unit hK
  have hz := Z_pos 1075
  rw [X_ten]
  have e0 : n * Z 1075 + Z 1075 = 10 * (V * Z 1075) := by
    have h := congrArg (fun x => x * Z 1075) hn
    simp only [Nat.add_mul, Nat.one_mul] at h
    rw [h, Nat.mul_assoc]
  have e2 : hf lo * (10 * X five) = 10 * (V * Z 1075) := by rw [hE]; ac_rfl
  refine ⟨by omega, .inr (.inl ?_), .inr (.inl (by rw [e2]; omega))⟩
  have hg : hf (lo - 1) + Z K ≤ hf lo := by
    by_cases c : r = 0
    · obtain ⟨J, rfl⟩ : ∃ J, K = J + 1 := ⟨K - 1, by omega⟩
      have e3 : (J + 1) * 4503599627370496 + 4503599627370495 = lo - 1 := by clear hE hU hz e0 e2; omega
      have e4 : (J + 1) * 4503599627370496 + 4503599627370495 + 1 = lo := by clear hE hU hz e0 e2 e3; omega
      have h1 := hf_gap (K := J) (r := 4503599627370495) (by decide) (by omega) (by rw [e4]; exact hI)
      rw [e4, e3] at h1
      rw [Z_succ]; exact h1
    · have e3 : (K + 1) * 4503599627370496 + (r - 1) = lo - 1 := by clear hE hU hz e0 e2; omega
      have e4 : (K + 1) * 4503599627370496 + (r - 1) + 1 = lo := by clear hE hU hz e0 e2 e3; omega
      have h1 := hf_gap (K := K) (r := r - 1) (by have := H.rb; omega) hK2 (by rw [e4]; exact hI)
      rw [e4, e3] at h1
      omega
  have h1 := Nat.mul_le_mul_right (10 * X five) hg
  rw [e2, Nat.add_mul] at h1
  have : Z K * (10 * X five) = 10 * (Z K * X five) := by ac_rfl
  rw [this] at h1
  omega
end
end PT
end Go.Proofs.YtibmgmgdbicdlaaGreatDoor
