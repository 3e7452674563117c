/- weirlaw02.decimal and power. weirlaw02.figures over what Show tells. Texts of digits of one length: byte by byte is by number. Two rows of bytes that grow beside each other. -/
import Derived.Test.YtibmgmgdbicdlaaGreatDoorPBackMath
import Derived.Test.YtibmgmgdbicdlaaGreatDoorBase4
import Derived.Deep.RegionLaw
import Derived.Test.YtibmgmgdbicdlaaGreatDoorFEfg
namespace Go.Proofs.YtibmgmgdbicdlaaGreatDoor
open Go.RowKit
set_option linter.unusedVariables false
set_option linter.unusedSimpArgs false
theorem isL_lit1 (w : World) (C : Array Value) (e : TypeId) (xs : List Value) (n : Nat) (hn : xs.length = n) (hC : C.toList = xs) : IsL 1 (w.alloc (.cells C e)) (.slice (some ⟨w.heap.size, 0, none⟩) n n) n xs := by
  refine ⟨by omega, _, _, rfl, fun k hk => ⟨_, _, rfl, ?_⟩⟩
  rw [Nat.zero_add, World.cell?_alloc_mark, ← Array.getElem?_toList, hC, List.getElem?_eq_getElem hk]
theorem byte_lit (w : World) (c : Nat) (B : UInt8) (hB : UInt8.ofNat c = B) (hc : c < 256) (e : TypeId) : IsL 1 (w.alloc (.cells #[.int .u8 (c : Int)] e)) (.slice (some ⟨w.heap.size, 0, none⟩) 1 1) 1 (cellsB [B]) := by
  subst hB
  refine isL_lit1 w _ e _ 1 rfl ?_
  simp [cellsB]
  omega
theorem conv_byte (w : World) (c : Nat) (B : UInt8) (hB : UInt8.ofNat c = B) (hc : c < 256) : (convert 50 9 (.slice (some ⟨w.heap.size, 0, none⟩) 1 1)).run Tryz.prog (w.alloc (.cells #[.int .u8 (c : Int)] 5)) = .ok (.string ⟨[B].toArray⟩) (w.alloc (.cells #[.int .u8 (c : Int)] 5)) :=
  conv_u8 (m := 1) (byte_lit w c B hB hc _)
set_option maxRecDepth 100000 in
theorem decimal_one (n : Nat) (h : n < 10) (w : World) : Calls Tryz.prog 37 #[.int .u64 (n : Int)] w fun e w' => e = .returned (.string ⟨(Lib.decDigits n).toArray⟩) ∧ Below w.heap.size w w' := by
  have hn : (n : Int) < 10 := by omega
  obtain ⟨B, hB⟩ : ∃ B, UInt8.ofNat (48 + n) = B := ⟨_, rfl⟩
  have hcv := conv_byte w (48 + n) B hB (by omega)
  rw [show ((48 + n : Nat) : Int) = 48 + (n : Int) by omega] at hcv
  have e := hd (Lib.decDigits_one h)
  rw [hB] at e
  clear hB
  go_enter Tryz.func37, Tryz.ntmps37
  go_wp2
  go_ret
  rw [e.o]
  exact ⟨rfl, (Below.refl _ _).alloc (Nat.le_refl _) _⟩
set_option maxRecDepth 100000 in
set_option maxHeartbeats 1000000 in
theorem decimal_step (n : Nat) (h : 10 ≤ n) (hn : n < 18446744073709551616) (w : World) (IH : Hd (∀ W, Calls Tryz.prog 37 #[.int .u64 ((n / 10 : Nat) : Int)] W fun e w' => e = .returned (.string ⟨(Lib.decDigits (n / 10)).toArray⟩) ∧ Below W.heap.size W w')) :
    Calls Tryz.prog 37 #[.int .u64 (n : Int)] w fun e w' => e = .returned (.string ⟨(Lib.decDigits n).toArray⟩) ∧ Below w.heap.size w w' := by
  have hnI : ¬ (n : Int) < 10 := by omega
  have hq : (n : Int) / 10 = ((n / 10 : Nat) : Int) := by omega
  have hr : 48 + (n : Int) % 10 = ((48 + n % 10 : Nat) : Int) := by omega
  have hr2 : 48 + n % 10 < 256 := by omega
  have w1 : IntKind.u64.wrap ((n / 10 : Nat) : Int) = ((n / 10 : Nat) : Int) := by rw [IntKind.wrap_u64]; omega
  have w2 : IntKind.u64.wrap (48 + (n : Int).tmod 10) = ((48 + n % 10 : Nat) : Int) := by rw [Int.tmod_eq_emod_of_nonneg (by omega), IntKind.wrap_u64]; omega
  have w3 : IntKind.u8.wrap ((48 + n % 10 : Nat) : Int) = ((48 + n % 10 : Nat) : Int) := by rw [IntKind.wrap_u8]; omega
  obtain ⟨B, hB⟩ : ∃ B, UInt8.ofNat (48 + n % 10) = B := ⟨_, rfl⟩
  have HC := hd (fun W => conv_byte W (48 + n % 10) B hB hr2)
  have HC2 := hd (fun (W : World) (v : Value) (hl : IsL 1 W v 1 (cellsB [B])) => conv_u8 (m := 1) hl)
  have HL := hd (fun (W : World) => byte_lit W (48 + n % 10) B hB hr2 5)
  have e : Hd (Lib.decDigits n = Lib.decDigits (n / 10) ++ [B]) := hd (by
    conv => lhs; rw [Lib.decDigits]
    rw [dif_neg (by omega), hB])
  clear hB
  have hlen : (Lib.decDigits (n / 10)).length ≤ 20 := by rw [Lib.decDigits_length]; exact Lib.nDigits_le20 _ (by omega)
  have hcat : ¬ 9223372036854775807 < (Lib.decDigits (n / 10)).length + 1 := by omega
  generalize Lib.decDigits (n / 10) = l at *
  generalize 48 + n % 10 = c at *
  generalize n / 10 = q at *
  go_enter Tryz.func37, Tryz.ntmps37
  go_wp2
  have c1 : (convert 50 9 (.slice (some ⟨w.heap.size, 0, none⟩) 1 1)).run Tryz.prog (w.alloc (.cells #[.int .u8 (c : Int)] 5)).drew = .ok (.string ⟨[B].toArray⟩) (w.alloc (.cells #[.int .u8 (c : Int)] 5)).drew := HC.o w.drew
  clear hlen
  go_region_law (go_simp; go_at_call 37; (with_reducible refine (IH.o _).mono ?_); rintro e w2 ⟨rfl, hb⟩; have hb2 := hd hb; have c2 := HC.o w2; (try have c3 := HC2.o w2 (.slice (some ⟨w.heap.size, 0, none⟩) 1 1) (IsL.below (w := w.drew.alloc (.cells #[.int .u8 (c : Int)] 5)) (HL.o w.drew) hb)); clear hb)
  all_goals
    go_wp2
    go_ret
    rw [e.o]
    have hsc : ((⟨l.toArray⟩ : ByteArray) ++ ⟨#[B]⟩) = ⟨(l ++ [B]).toArray⟩ := by apply ByteArray.ext; simp [ByteArray.data_append]
    refine ⟨congrArg (fun s => Ending.returned (Value.string s)) hsc, ?_⟩
    first
      | exact ((Below.drew (Below.refl _ w)).trans hb2.o).alloc hb2.o.size _
      | exact (((Below.refl _ w).alloc (Nat.le_refl _) _).drew).trans (hb2.o.mono (by simp))
theorem decimal_any (n : Nat) : n < 18446744073709551616 → ∀ w : World, Calls Tryz.prog 37 #[.int .u64 (n : Int)] w fun e w' => e = .returned (.string ⟨(Lib.decDigits n).toArray⟩) ∧ Below w.heap.size w w' := by
  induction n using Nat.strongRecOn with
  | _ n ih =>
    intro hn w
    by_cases c : n < 10
    · exact decimal_one n c w
    · exact decimal_step n (by omega) hn w (hd (ih (n / 10) (by omega) (by omega)))
def PwT (d : Nat) (ng : Bool) (j : Nat) : List UInt8 := Lib.decDigits d ++ 101 :: ((if ng then [45] else []) ++ Lib.decDigits j)
set_option maxRecDepth 100000 in
theorem power_pos (d j : Nat) (hd64 : d < 18446744073709551616) (hj : j ≤ 1000) (w : World) : Calls Tryz.prog 34 #[.int .u64 (d : Int), .int .i64 (j : Int)] w fun e w' => e = .returned (.string ⟨(PwT d false j).toArray⟩) ∧ Below w.heap.size w w' := by
  have H1 := hd (decimal_any d hd64)
  have H2 := hd (decimal_any j (by omega))
  have l1 : (Lib.decDigits d).length ≤ 20 := by rw [Lib.decDigits_length]; exact Lib.nDigits_le20 _ hd64
  have l2 : (Lib.decDigits j).length ≤ 20 := by rw [Lib.decDigits_length]; exact Lib.nDigits_le20 _ (by omega)
  have c1 : ¬ 9223372036854775807 < (Lib.decDigits d).length + 1 := by omega
  have c2 : ¬ 9223372036854775807 < (Lib.decDigits d).length + 1 + (Lib.decDigits j).length := by omega
  have hjI : ¬ (j : Int) < 0 := by omega
  have e : Hd (PwT d false j = Lib.decDigits d ++ 101 :: Lib.decDigits j) := hd rfl
  generalize PwT d false j = T at *
  generalize Lib.decDigits d = a at *
  generalize Lib.decDigits j = b at *
  clear hd64 l1 l2
  go_enter Tryz.func34, Tryz.ntmps34
  go_wp2_with (first
    | (go_at_call 37; (with_reducible refine (H1.o _).mono ?_); rintro x w1 ⟨rfl, h⟩; have B1 := hd h; clear h)
    | (go_at_call 37; (with_reducible refine (H2.o _).mono ?_); rintro x w2 ⟨rfl, h⟩; have B2 := hd (bel B1.o h); clear h))
  go_ret
  have hsc : ((⟨a.toArray⟩ : ByteArray) ++ ⟨#[101]⟩ ++ ⟨b.toArray⟩) = ⟨T.toArray⟩ := by rw [e.o]; apply ByteArray.ext; simp [ByteArray.data_append]
  exact ⟨congrArg (fun s => Ending.returned (Value.string s)) hsc, B2.o⟩
set_option maxRecDepth 100000 in
theorem power_neg (d j : Nat) (hd64 : d < 18446744073709551616) (hj0 : 0 < j) (hj : j ≤ 1000) (w : World) : Calls Tryz.prog 34 #[.int .u64 (d : Int), .int .i64 (-(j : Int))] w fun e w' => e = .returned (.string ⟨(PwT d true j).toArray⟩) ∧ Below w.heap.size w w' := by
  have H1 := hd (decimal_any d hd64)
  have H2 := hd (decimal_any j (by omega))
  have l1 : (Lib.decDigits d).length ≤ 20 := by rw [Lib.decDigits_length]; exact Lib.nDigits_le20 _ hd64
  have l2 : (Lib.decDigits j).length ≤ 20 := by rw [Lib.decDigits_length]; exact Lib.nDigits_le20 _ (by omega)
  have c1 : ¬ 9223372036854775807 < (Lib.decDigits d).length + 2 := by omega
  have c2 : ¬ 9223372036854775807 < (Lib.decDigits d).length + 2 + (Lib.decDigits j).length := by omega
  have hjI : -(j : Int) < 0 := by omega
  have e : Hd (PwT d true j = Lib.decDigits d ++ 101 :: 45 :: Lib.decDigits j) := hd rfl
  generalize PwT d true j = T at *
  generalize Lib.decDigits d = a at *
  generalize Lib.decDigits j = b at *
  clear hd64 l1 l2
  go_enter Tryz.func34, Tryz.ntmps34
  go_wp2_with (first
    | (go_at_call 37; (with_reducible refine (H1.o _).mono ?_); rintro x w1 ⟨rfl, h⟩; have B1 := hd h; clear h)
    | (go_at_call 37; (with_reducible refine (H2.o _).mono ?_); rintro x w2 ⟨rfl, h⟩; have B2 := hd (bel B1.o h); clear h))
  go_ret
  have hsc : ((⟨a.toArray⟩ : ByteArray) ++ ⟨#[101, 45]⟩ ++ ⟨b.toArray⟩) = ⟨T.toArray⟩ := by rw [e.o]; apply ByteArray.ext; simp [ByteArray.data_append]
  exact ⟨congrArg (fun s => Ending.returned (Value.string s)) hsc, B2.o⟩
end Go.Proofs.YtibmgmgdbicdlaaGreatDoor
namespace Go.Proofs.YtibmgmgdbicdlaaGreatDoor
open Go.RowKit
set_option linter.unusedVariables false
set_option linter.unusedSimpArgs false
/-- bytes that a call puts into a row of its own -/
structure Row1 (w0 W : World) (v : Value) (bs : List UInt8) : Prop where
  o : W.ownsRow w0.heap.size 5 1 v bs.length (cellsB bs)
  b : Below w0.heap.size w0 W
theorem Row1.start (w : World) : Row1 w w (.slice none 0 0) [] := ⟨World.ownsRow_nil _ _ _ _, Below.refl _ _⟩
section
variable {P : Program}
theorem wpList_push1 {ops : Array Oper} {rest : List Oper} {o : Oper} {a : Act} {Q : Exit → Act → World → Prop} (ht : P.underlying 50 = some (.slice 5)) (hinfo : (P.info? 5).map (fun i => (i.zero, i.size, i.bytes)) = some (some (.int .u8 0), 1, 1))
    (hgd : o.guard = none) (s x : Operand) (ho : o.op = .call { callee := .builtin .append, args := #[s, x], argTypes := #[50, 50] })
    {w0 W : World} {v : Value} {bs : List UInt8} (R : Row1 w0 W v bs) (hl : bs.length ≤ 100000000) (c : UInt8) (X : Int) (hX : X = (c.toNat : Int)) (H : Nat) (hH : W.heap.size = H) (hs : a.eval s = v) (hx : a.eval x = .slice (some ⟨H, 0, none⟩) 1 1)
    (h : ∀ v' w', Row1 w0 w' v' (bs ++ [c]) → wpList P ops Q rest (a.put o.dst v') w') : wpList P ops Q (o :: rest) a (W.alloc (.cells #[.int .u8 X] 5)) :=
  wpList_app_litH 50 5 (.int .u8 0) 1 1 ht hinfo rfl (by decide) hgd s x ho w0.heap.size v bs.length (cellsB bs) W #[.int .u8 X] 1 H hH hs hx R.o rfl (by simp [Value.oneCell']) (by omega) (by omega) R.b.size fun v' w' h1 h2 => h v' w' (by
    refine ⟨?_, R.b.grown h2 R.b.size (fun g hg => (R.o.lt g hg).1)⟩
    rw [List.length_append, cellsB_app]
    subst hX
    exact h1)
end
/-- one byte of figures -/
def fst1 (q : List UInt8 × Int × Bool) (c : UInt8) : List UInt8 × Int × Bool :=
  if c.toNat = 46 then (q.1, q.2.1, true) else if q.1 ≠ [] ∨ c.toNat ≠ 48 then (q.1 ++ [c], if q.2.2 then q.2.1 else q.2.1 + 1, q.2.2) else (q.1, if q.2.2 then q.2.1 - 1 else q.2.1, q.2.2)
def ffold : List UInt8 → List UInt8 × Int × Bool → List UInt8 × Int × Bool
  | [], q => q
  | c :: l, q => ffold l (fst1 q c)
theorem ffold_app : ∀ (a b : List UInt8) (q : List UInt8 × Int × Bool), ffold (a ++ b) q = ffold b (ffold a q)
  | [], b, q => rfl
  | c :: a, b, q => ffold_app a b _
/-- digits behind a digit -/
theorem ffold_dig : ∀ (l d : List UInt8) (k : Int) (bh : Bool), PF.Dig l → d ≠ [] → ffold l (d, k, bh) = (d ++ l, if bh then k else k + l.length, bh)
  | [], d, k, bh, _, _ => by cases bh <;> simp [ffold]
  | c :: l, d, k, bh, h, hd => by
    have hc := h c (List.mem_cons_self ..)
    rw [ffold]
    unfold fst1
    rw [if_neg (by show ¬ c.toNat = 46; omega), if_pos (.inl hd), ffold_dig l _ _ _ (fun x hx => h x (List.mem_cons_of_mem _ hx)) (by simp)]
    cases bh
    · simp; omega
    · simp
theorem ffold_first {c : UInt8} {l : List UInt8} (h : PF.Dig (c :: l)) (hc : c.toNat ≠ 48) (k : Int) (bh : Bool) : ffold (c :: l) ([], k, bh) = (c :: l, if bh then k else k + (c :: l).length, bh) := by
  have h1 := h c (List.mem_cons_self ..)
  rw [ffold]
  unfold fst1
  rw [if_neg (by show ¬ c.toNat = 46; omega), if_pos (.inr hc), ffold_dig l _ _ _ (fun x hx => h x (List.mem_cons_of_mem _ hx)) (by simp)]
  cases bh
  · simp; omega
  · simp
theorem ffold_zeros : ∀ (n : Nat) (k : Int), ffold (List.replicate n 48) ([], k, true) = ([], k - n, true)
  | 0, k => by simp [ffold]
  | n + 1, k => by
    rw [List.replicate_succ, ffold]
    have : fst1 ([], k, true) 48 = ([], k - 1, true) := by unfold fst1; rw [if_neg (by decide), if_neg (fun h => by rcases h with h | h; exact h rfl; exact h (by decide))]; rfl
    rw [this, ffold_zeros n]
    simp; omega
/-- what figures finds in a plain decimal -/
theorem ffold_plain {A : List UInt8} {k : Int} {c : UInt8} {l : List UInt8} (hA : A = c :: l) (h : PF.Dig A) (hc : c.toNat ≠ 48) : ∃ z bh, ffold (plainT A k) ([], 0, false) = (A ++ List.replicate z 48, k, bh) := by
  have hl : 0 < A.length := by rw [hA]; simp
  unfold plainT
  by_cases c1 : k ≤ 0
  · rw [if_pos c1]
    refine ⟨0, true, ?_⟩
    rw [List.append_assoc, ffold_app]
    have e : ffold [48, 46] ([], 0, false) = ([], 0, true) := rfl
    rw [e, ffold_app, ffold_zeros, hA, ffold_first (hA ▸ h) hc]
    simp; omega
  · rw [if_neg c1]
    by_cases c2 : k < A.length
    · rw [if_pos c2]
      refine ⟨0, true, ?_⟩
      have hdt : PF.Dig (A.take k.toNat) := fun x hx => h x (List.mem_of_mem_take hx)
      have hdd : PF.Dig (A.drop k.toNat) := fun x hx => h x (List.mem_of_mem_drop hx)
      obtain ⟨l', e⟩ : ∃ l', A.take k.toNat = c :: l' := by
        obtain ⟨j, hj⟩ : ∃ j, k.toNat = j + 1 := ⟨k.toNat - 1, by omega⟩
        rw [hj, hA, List.take_succ_cons]; exact ⟨_, rfl⟩
      have hlt : (A.take k.toNat).length = k.toNat := by rw [List.length_take]; omega
      rw [ffold_app, ffold_app, e, ffold_first (e ▸ hdt) hc, ← e, hlt]
      have e2 : ffold [46] (A.take k.toNat, (if false = true then (0 : Int) else 0 + (k.toNat : Nat)), false) = (A.take k.toNat, (k.toNat : Int), true) := by
        show fst1 _ 46 = _
        unfold fst1
        rw [if_pos (by decide)]
        simp
      rw [e2, ffold_dig _ _ _ _ hdd (by rw [e]; simp), List.take_append_drop]
      simp; omega
    · rw [if_neg c2]
      refine ⟨k.toNat - A.length, false, ?_⟩
      have hz : PF.Dig (List.replicate (k.toNat - A.length) (48 : UInt8)) := fun x hx => by
        obtain rfl := List.eq_of_mem_replicate hx
        decide
      rw [ffold_app, hA, ffold_first (hA ▸ h) hc, ← hA, ffold_dig _ _ _ _ hz (by rw [hA]; simp), List.length_replicate]
      simp; omega
theorem ffold_take (l : List UInt8) (k : Nat) (h : k < l.length) (q : List UInt8 × Int × Bool) : ffold (l.take (k + 1)) q = fst1 (ffold (l.take k) q) (l[k]'h) := by
  rw [List.take_succ_eq_append_getElem h, ffold_app]; rfl
theorem isL_take {w : World} {P : Option Addr} {n c : Nat} {l : List UInt8} (h : IsL 1 w (.slice P n c) n (cellsB l)) (m : Nat) (hm : m ≤ n) : IsL 1 w (.slice P m c) m (cellsB (l.take m)) := by
  obtain ⟨hl, A, c', e, r⟩ := h
  rw [cellsB_len, Nat.mul_one] at hl
  simp only [Value.slice.injEq] at e
  obtain ⟨rfl, _, rfl⟩ := e
  refine ⟨by rw [cellsB_len, List.length_take]; omega, P, c, rfl, fun k hk => ?_⟩
  rw [cellsB_len, List.length_take] at hk
  obtain ⟨b, off, e1, e2⟩ := r k (by rw [cellsB_len]; omega)
  refine ⟨b, off, e1, e2.trans ?_⟩
  simp [cellsB]
theorem isL_cell {w : World} {P : Option Addr} {n c : Nat} {l : List UInt8} (h : IsL 1 w (.slice P n c) n (cellsB l)) (k : Nat) (hk : k < l.length) : ∃ b off, P = some ⟨b, off, none⟩ ∧ w.cell? ⟨b, off + k, none⟩ = some (.int .u8 ((l[k]'hk).toNat : Int)) := by
  obtain ⟨hl, A, c', e, r⟩ := h
  simp only [Value.slice.injEq] at e
  obtain ⟨rfl, _, rfl⟩ := e
  obtain ⟨b, off, e1, e2⟩ := r k (by rw [cellsB_len]; exact hk)
  refine ⟨b, off, e1, e2.trans ?_⟩
  simp [cellsB]
set_option maxRecDepth 100000 in
set_option maxHeartbeats 4000000 in
/-- figures of a text that holds a plain decimal's digits -/
theorem figures_any (T : ByteArray) (A : List UInt8) (z : Nat) (κ : Int) (bh : Bool) (w : World) (hT : T.size ≤ 1000) (hF : ffold T.data.toList ([], 0, false) = (A ++ List.replicate z 48, κ, bh)) (hA : A ≠ []) (hlast : ∀ h : A ≠ [], (A.getLast h).toNat ≠ 48) :
    Calls Tryz.prog 33 #[.string T] w fun e w' => e = .returned (.tuple #[.string ⟨A.toArray⟩, .int .i64 κ]) ∧ Below w.heap.size w w' := by
  have HSZ := hd (Lib.size_eq T)
  have HF := hd hF
  have HA := hd hA
  have HLA := hd hlast
  clear hF hA hlast
  go_enter Tryz.func33, Tryz.ntmps33
  go_wp2
  go_loopw [4, 5, 6, 7] (fun xd xk xb xi wr => ∃ (i : Nat) (d : List UInt8) (k : Int) (b : Bool), i ≤ T.size ∧ xi = .int .i64 (i : Int) ∧ xk = .int .i64 k ∧ xb = .bool b ∧ d.length ≤ i ∧ -(i : Int) ≤ k ∧ k ≤ (i : Int) ∧ Hd (ffold (T.data.toList.take i) ([], 0, false) = (d, k, b)) ∧ Hd (Row1 w wr xd d)) (fun xd xk xb xi wr => T.size - (intOf xi).toNat)
  case atStart => exact ⟨0, [], 0, false, Nat.zero_le _, rfl, rfl, rfl, Nat.le_refl _, by omega, by omega, hd rfl, hd (Row1.start w)⟩
  case round =>
    obtain ⟨i, d, k, b, hi, rfl, rfl, rfl, hdl, hk1, hk2, HQ, HR⟩ := hrel
    have hvl : ∃ P c, u4 = .slice P d.length c := by
      obtain ⟨_, P, c, e, _⟩ := IsL.own HR.o.o
      exact ⟨P, c, e⟩
    obtain ⟨P, c, rfl⟩ := hvl
    by_cases hlt : i < T.size
    · have hil : i < T.data.toList.length := by have := HSZ.o; omega
      have HT := hd (ffold_take T.data.toList i hil ([], 0, false))
      have HE : Hd (T.data.toList[i]'hil = T[i]'hlt) := hd rfl
      rw [HE.o, HQ.o] at HT
      have hc : (T[i]'hlt).toNat < 256 := (T[i]'hlt).toNat_lt
      clear HE HQ
      by_cases c46 : (T[i]'hlt).toNat = 46
      · have t46 : (((T[i]'hlt).toNat : Int) == 46) = true := by rw [c46]; rfl
        have HQ2 : Hd (ffold (T.data.toList.take (i + 1)) ([], 0, false) = (d, k, true)) := hd (by rw [HT.o]; unfold fst1; rw [if_pos c46])
        clear HT c46
        go_wp2
        go_roundw
        case rel => exact ⟨i + 1, d, k, true, by omega, by go_num, rfl, rfl, by omega, by omega, by omega, HQ2, HR⟩
        case measure => simp [intOf]; omega
      · have t46 : (((T[i]'hlt).toNat : Int) == 46) = false := by rw [beq_eq_false_iff_ne]; omega
        by_cases hin : d ≠ [] ∨ (T[i]'hlt).toNat ≠ 48
        · have HQ2 : Hd (ffold (T.data.toList.take (i + 1)) ([], 0, false) = (d ++ [T[i]'hlt], if b then k else k + 1, b)) := hd (by rw [HT.o]; unfold fst1; rw [if_neg c46, if_pos hin])
          clear c46 HT
          by_cases hd0 : d = []
          · have h48 : (T[i]'hlt).toNat ≠ 48 := by
              rcases hin with h | h
              · exact absurd hd0 h
              · exact h
            have g2 : (((T[i]'hlt).toNat : Int) != 48) = true := by rw [bne_iff_ne]; omega
            subst hd0
            clear hin h48
            cases b
            all_goals
              go_wp2_with (at_builtin; refine wpList_push1 Tryz.underlying50 info_u8f rfl _ _ rfl HR.o (by simp) (T[i]'hlt) _ rfl _ rfl rfl rfl ?_)
              intro v2 w2 hR2
              have HR2 := hd hR2
              clear hR2 HR
              go_wp2
              go_roundw
              case rel => exact ⟨i + 1, _, _, _, by omega, by go_num, rfl, rfl, by simp, by omega, by omega, HQ2, HR2⟩
              case measure => simp [intOf]; omega
          · have hdl0 : d.length ≠ 0 := fun e => hd0 (List.eq_nil_of_length_eq_zero e)
            have g : (0 : Int) < (d.length : Int) := by omega
            have hl2 : (d ++ [T[i]'hlt]).length = d.length + 1 := by simp
            clear hin
            cases b
            all_goals
              go_wp2_with (at_builtin; refine wpList_push1 Tryz.underlying50 info_u8f rfl _ _ rfl HR.o (by omega) (T[i]'hlt) _ rfl _ rfl rfl rfl ?_)
              intro v2 w2 hR2
              have HR2 := hd hR2
              clear hR2 HR
              go_wp2
              go_roundw
              case rel => exact ⟨i + 1, _, _, _, by omega, by go_num, rfl, rfl, by omega, by omega, by omega, HQ2, HR2⟩
              case measure => simp [intOf]; omega
        · have hd0 : d = [] := by
            rcases Classical.em (d = []) with h | h
            · exact h
            · exact absurd (.inl h) hin
          have h48 : (T[i]'hlt).toNat = 48 := by
            rcases Classical.em ((T[i]'hlt).toNat = 48) with h | h
            · exact h
            · exact absurd (.inr h) hin
          have HQ2 : Hd (ffold (T.data.toList.take (i + 1)) ([], 0, false) = (d, if b then k - 1 else k, b)) := hd (by rw [HT.o]; unfold fst1; rw [if_neg c46, if_neg hin])
          have t48 : (((T[i]'hlt).toNat : Int) != 48) = false := by rw [bne_eq_false_iff_eq]; omega
          subst hd0
          clear c46 hin HT
          cases b
          all_goals
            go_wp2
            go_roundw
            case rel => exact ⟨i + 1, [], _, _, by omega, by go_num, rfl, rfl, by simp, by omega, by omega, HQ2, HR⟩
            case measure => simp [intOf]; omega
    · obtain rfl : i = T.size := by omega
      have hfull : T.data.toList.take T.size = T.data.toList := List.take_of_length_le (by rw [HSZ.o]; exact Nat.le_refl _)
      have hq := HQ.o
      rw [hfull, HF.o] at hq
      simp only [Prod.mk.injEq] at hq
      obtain ⟨rfl, rfl, rfl⟩ := hq
      obtain ⟨wo, rfl⟩ : ∃ wo : World, wo = wr := ⟨_, rfl⟩
      have HI := hd (IsL.own HR.o.o)
      have HB := hd HR.o.b
      have HN : Hd ((A ++ List.replicate z (48 : UInt8)).length = A.length + z) := hd (by simp)
      have hA1 : 1 ≤ A.length := by
        have := HA.o
        cases A with | nil => exact absurd rfl this | cons x a => simp
      have hcap : A.length + z ≤ c := by
        rcases HR.o.o.2 with ⟨h1, h2⟩ | ⟨g, cap, cur, h1, _, _, h2, _⟩
        · rw [HN.o] at h2; omega
        · simp only [Value.slice.injEq] at h1
          obtain ⟨_, _, rfl⟩ := h1
          rw [HN.o] at h2; exact h2
      rw [HN.o] at HI hdl ⊢
      clear hfull HQ HR hlt
      go_wp2
      go_loopw [4] (fun xd wr => ∃ m : Nat, A.length ≤ m ∧ m ≤ A.length + z ∧ xd = .slice P m c ∧ wr = wo) (fun xd wr => match xd with | .slice _ m _ => m | _ => 0)
      case atStart => exact ⟨A.length + z, by omega, Nat.le_refl _, rfl, rfl⟩
      case round =>
        obtain ⟨m, hm1, hm2, rfl, rfl⟩ := hrel
        obtain ⟨j, rfl⟩ : ∃ j, m = j + 1 := ⟨m - 1, by omega⟩
        have hjb : (j : Int) ≤ 1000 := by omega
        have hjb2 : j ≤ 1000 := by omega
        obtain ⟨b, off, rfl, hcell⟩ := isL_cell HI.o j (by rw [HN.o]; omega)
        by_cases hj : A.length = j + 1
        · have hlastc : ((A ++ List.replicate z (48 : UInt8))[j]'(by rw [HN.o]; omega)).toNat ≠ 48 := by
            have h1 := HLA.o HA.o
            rw [List.getLast_eq_getElem] at h1
            rw [List.getElem_append_left (by omega)]
            have e : A.length - 1 = j := by omega
            simp only [e] at h1
            exact h1
          have t48 : ((((A ++ List.replicate z (48 : UInt8))[j]'(by rw [HN.o]; omega)).toNat : Int) == 48) = false := by rw [beq_eq_false_iff_ne]; omega
          have hcv : (convert 50 9 (.slice (some ⟨b, off, none⟩) (j + 1) c)).run Tryz.prog wr = .ok (.string ⟨A.toArray⟩) wr := by
            have h1 := isL_take HI.o (j + 1) (by omega)
            have h2 : (A ++ List.replicate z (48 : UInt8)).take (j + 1) = A := by rw [List.take_append_of_le_length (by omega), List.take_of_length_le (by omega)]
            rw [h2] at h1
            exact conv_u8 h1
          generalize ((A ++ List.replicate z (48 : UInt8))[j]'(by rw [HN.o]; omega)).toNat = y at *
          clear hlastc
          go_wp2
          go_ret2
          exact ⟨rfl, HB.o⟩
        · have hz48 : ((A ++ List.replicate z (48 : UInt8))[j]'(by rw [HN.o]; omega)).toNat = 48 := by
            rw [List.getElem_append_right (by omega)]
            simp
          rw [hz48] at hcell
          have hcj : j ≤ c := by omega
          clear hz48
          go_wp2
          go_roundw
          case rel => exact ⟨j, by omega, by omega, rfl, trivial⟩
          case measure => show j < j + 1; omega
end Go.Proofs.YtibmgmgdbicdlaaGreatDoor
namespace Go.Proofs.YtibmgmgdbicdlaaGreatDoor
open Go.RowKit
set_option linter.unusedVariables false
namespace PF
theorem fold_mono : ∀ (l : List UInt8) (a b : Nat), a ≤ b → l.foldl (fun a c => a * 10 + (c.toNat - 48)) a ≤ l.foldl (fun a c => a * 10 + (c.toNat - 48)) b
  | [], a, b, h => h
  | c :: l, a, b, h => by rw [List.foldl_cons, List.foldl_cons]; exact fold_mono l _ _ (by omega)
theorem fold_add : ∀ (l : List UInt8) (a : Nat), l.foldl (fun a c => a * 10 + (c.toNat - 48)) a = a * 10 ^ l.length + l.foldl (fun a c => a * 10 + (c.toNat - 48)) 0
  | [], a => by simp
  | c :: l, a => by
    rw [List.foldl_cons, List.foldl_cons, fold_add l, fold_add l (0 * 10 + (c.toNat - 48)), List.length_cons, Nat.pow_succ, Nat.zero_mul, Nat.zero_add, Nat.add_mul, Nat.mul_assoc, Nat.mul_comm 10, Nat.add_assoc]
theorem fold_lt : ∀ (l : List UInt8), Dig l → l.foldl (fun a c => a * 10 + (c.toNat - 48)) 0 < 10 ^ l.length
  | [], _ => by decide
  | c :: l, h => by
    have hc := h c (List.mem_cons_self ..)
    have h1 := fold_lt l (fun x hx => h x (List.mem_cons_of_mem _ hx))
    rw [List.foldl_cons, fold_add, List.length_cons, Nat.pow_succ]
    have : (0 * 10 + (c.toNat - 48)) * 10 ^ l.length ≤ 9 * 10 ^ l.length := Nat.mul_le_mul_right _ (by omega)
    omega
theorem less_dv : ∀ (x y : List UInt8), x.length = y.length → Dig x → Dig y → (Op.bytesLess x y = true → dv x ≤ dv y) ∧ (Op.bytesLess x y = false → dv y ≤ dv x)
  | [], [], _, _, _ => ⟨fun _ => Nat.le_refl _, fun _ => Nat.le_refl _⟩
  | [], _ :: _, h, _, _ => by cases h
  | _ :: _, [], h, _, _ => by cases h
  | a :: x, b :: y, h, hx, hy => by
    have hl : x.length = y.length := by simpa using h
    have ha := hx a (List.mem_cons_self ..)
    have hb := hy b (List.mem_cons_self ..)
    have hx' : Dig x := fun c hc => hx c (List.mem_cons_of_mem _ hc)
    have hy' : Dig y := fun c hc => hy c (List.mem_cons_of_mem _ hc)
    obtain ⟨i1, i2⟩ := less_dv x y hl hx' hy'
    have ex : dv (a :: x) = (a.toNat - 48) * 10 ^ x.length + dv x := by
      show List.foldl _ _ (a :: x) = _
      rw [List.foldl_cons, fold_add, Nat.zero_mul, Nat.zero_add]; rfl
    have ey : dv (b :: y) = (b.toNat - 48) * 10 ^ x.length + dv y := by
      show List.foldl _ _ (b :: y) = _
      rw [List.foldl_cons, fold_add, Nat.zero_mul, Nat.zero_add, hl]; rfl
    have lx : dv x < 10 ^ x.length := fold_lt x hx'
    have ly : dv y < 10 ^ x.length := by rw [hl]; exact fold_lt y hy'
    rw [ex, ey, Op.bytesLess]
    rcases Nat.lt_trichotomy a.toNat b.toNat with c | c | c
    · have hab : a < b := UInt8.lt_iff_toNat_lt.2 c
      have : (a.toNat - 48 + 1) * 10 ^ x.length ≤ (b.toNat - 48) * 10 ^ x.length := Nat.mul_le_mul_right _ (by omega)
      rw [Nat.add_mul, Nat.one_mul] at this
      refine ⟨fun _ => by omega, fun hh => ?_⟩
      simp [hab] at hh
    · have hab : a = b := UInt8.toNat_inj.1 c
      subst hab
      have hn : ¬ a < a := fun h => by have := UInt8.lt_iff_toNat_lt.1 h; omega
      simp only [decide_eq_false hn, Bool.false_or, beq_self_eq_true, Bool.true_and]
      exact ⟨fun h => by have := i1 h; omega, fun h => by have := i2 h; omega⟩
    · have hn : ¬ a < b := fun h => by have := UInt8.lt_iff_toNat_lt.1 h; omega
      have hne : (a == b) = false := by rw [beq_eq_false_iff_ne]; rintro rfl; omega
      have : (b.toNat - 48 + 1) * 10 ^ x.length ≤ (a.toNat - 48) * 10 ^ x.length := Nat.mul_le_mul_right _ (by omega)
      rw [Nat.add_mul, Nat.one_mul] at this
      simp only [decide_eq_false hn, hne, Bool.false_and, Bool.or_false]
      exact ⟨fun h => by simp at h, fun _ => by omega⟩
/-- the digit that a byte stands for -/
def d10 (c : UInt8) : UInt8 := 48 + c % 10
theorem d10_nat (c : UInt8) : (d10 c).toNat = 48 + c.toNat % 10 := by
  unfold d10
  have h : c.toNat < 256 := c.toNat_lt
  rw [UInt8.toNat_add, UInt8.toNat_mod]
  show (48 + c.toNat % 10) % 256 = _
  omega
theorem d10_dig (l : List UInt8) : Dig (l.map d10) := fun c hc => by
  obtain ⟨x, _, rfl⟩ := List.mem_map.1 hc
  rw [d10_nat]; omega
theorem take_map_next {l : List UInt8} {k : Nat} (h : k < l.length) : (l.take (k + 1)).map d10 = (l.take k).map d10 ++ [d10 (l[k]'h)] := by
  rw [List.take_succ_eq_append_getElem h, List.map_append]; rfl
end PF
/-- two rows of bytes, each in a block of its own -/
structure RowO (w0 W : World) (v : Value) (bs : List UInt8) (u : Value) (cs : List UInt8) : Prop where
  o : W.ownsRow w0.heap.size 5 1 v bs.length (cellsB bs)
  p : W.ownsRow w0.heap.size 5 1 u cs.length (cellsB cs)
  b : Below w0.heap.size w0 W
  ds : u.ownBlock = none ∨ u.ownBlock ≠ v.ownBlock
theorem RowO.swap {w0 W : World} {v u : Value} {bs cs : List UInt8} (R : RowO w0 W v bs u cs) : RowO w0 W u cs v bs :=
  ⟨R.p, R.o, R.b, by
    rcases R.ds with h | h
    · rw [h]
      cases v.ownBlock with
      | none => exact .inl rfl
      | some g => exact .inr (by simp)
    · exact .inr (Ne.symm h)⟩
section
variable {P : Program}
theorem wpList_push2 {ops : Array Oper} {rest : List Oper} {o : Oper} {a : Act} {Q : Exit → Act → World → Prop} (ht : P.underlying 50 = some (.slice 5)) (hinfo : (P.info? 5).map (fun i => (i.zero, i.size, i.bytes)) = some (some (.int .u8 0), 1, 1))
    (hgd : o.guard = none) (s x : Operand) (ho : o.op = .call { callee := .builtin .append, args := #[s, x], argTypes := #[50, 50] })
    {w0 W : World} {v u : Value} {bs cs : List UInt8} (R : RowO w0 W v bs u cs) (hl : bs.length ≤ 100000000) (c : UInt8) (X : Int) (hX : X = (c.toNat : Int)) (H : Nat) (hH : W.heap.size = H) (hs : a.eval s = v) (hx : a.eval x = .slice (some ⟨H, 0, none⟩) 1 1)
    (h : ∀ v' w', RowO w0 w' v' (bs ++ [c]) u cs → wpList P ops Q rest (a.put o.dst v') w') : wpList P ops Q (o :: rest) a (W.alloc (.cells #[.int .u8 X] 5)) := by
  subst hH hX
  have hB : Below W.heap.size W (W.alloc (.cells #[.int .u8 (c.toNat : Int)] 5)) := (Below.refl _ W).alloc (Nat.le_refl _) _
  have o1 := own_below R.o hB
  have p1 := own_below R.p hB
  refine wpList_app_keep _ 50 5 (.int .u8 0) 1 1 ht hinfo rfl (by decide) (by unfold Region.wanted; rw [hgd]) s x ho w0.heap.size v bs.length (cellsB bs) hs o1 (.slice (some ⟨W.heap.size, 0, none⟩) 1 1) 1 [.int .u8 (c.toNat : Int)] hx (isL_lit1 W _ _ _ 1 rfl rfl) (by simp [Value.oneCell']) (by omega) (by omega) (by have := R.b.size; have := hB.size; omega) fun v' w' h1 h2 _ h4 => h v' w' ?_
  refine ⟨?_, own_kept p1 h2 R.ds, ?_, ?_⟩
  · rw [List.length_append, cellsB_app]; exact h1
  · exact (R.b.trans (hB.mono R.b.size)).grown h2 (by have := R.b.size; have := hB.size; omega) (fun g hg => (R.o.lt g hg).1)
  · rcases h4 with h4 | h4
    · rw [h4]; exact R.ds
    · rw [h4]
      cases hu : u.ownBlock with
      | none => exact .inl rfl
      | some g =>
        refine .inr fun he => ?_
        have h5 := own_lt p1 g hu
        have : g = (W.alloc (.cells #[.int .u8 (c.toNat : Int)] 5)).heap.size := by simpa using he
        omega
end
/-- a row that is made empty -/
def mk0 (n : Nat) : Array Value := madeCells (Value.int .u8 0).cells n
theorem mk0_run (n : Nat) (hn : n ≤ 100000000) (W : World) : (Instr.makeSlice 50 (.int .i64 0) (.int .i64 (n : Int))).run Tryz.prog W = .ok (.slice (some ⟨W.heap.size, 0, none⟩) 0 n) (W.alloc (.cells (mk0 n) 5)) := by
  obtain ⟨i, hi, q0, q1, q2⟩ := info_parts info_u8f
  have hb' : (i.bytes : Int) * (n : Int) ≤ 281474976710656 := by rw [q2]; omega
  have hr := run_make (P := Tryz.prog) W 50 5 i (.int .u8 0) Tryz.underlying50 hi q0 .i64 .i64 0 n (by omega) (by omega) hb' (by omega)
  simp only [Int.toNat_natCast, q1, Nat.mul_one] at hr
  unfold mk0
  simpa [Result.andThen] using hr
theorem own_mk0 (W : World) (n B : Nat) (hB : B ≤ W.heap.size) (hn : n ≤ 100000000) : (W.alloc (.cells (mk0 n) 5)).ownsRow B 5 1 (.slice (some ⟨W.heap.size, 0, none⟩) 0 n) 0 [] :=
  ⟨by simp, .inr ⟨W.heap.size, n, mk0 n, rfl, hB, heap_alloc_new W _, Nat.zero_le _, by unfold maxLen; omega, by unfold mk0; rw [size_madeCells, Nat.mul_one], by simp⟩⟩
theorem rowO_start {w0 W : World} (n : Nat) (hn : n ≤ 100000000) (hb : Below w0.heap.size w0 W) : RowO w0 ((W.alloc (.cells (mk0 n) 5)).alloc (.cells (mk0 n) 5)) (.slice (some ⟨W.heap.size, 0, none⟩) 0 n) [] (.slice (some ⟨W.heap.size + 1, 0, none⟩) 0 n) [] := by
  have hz : (W.alloc (.cells (mk0 n) 5)).heap.size = W.heap.size + 1 := by simp
  have h1 := own_mk0 W n w0.heap.size hb.size hn
  have h2 := own_mk0 (W.alloc (.cells (mk0 n) 5)) n w0.heap.size (by have := hb.size; omega) hn
  rw [hz] at h2
  refine ⟨own_below h1 ((Below.refl _ _).alloc (Nat.le_refl _) _), h2, (hb.alloc hb.size _).alloc (by have := hb.size; omega) _, .inr ?_⟩
  simp [Value.ownBlock]
end Go.Proofs.YtibmgmgdbicdlaaGreatDoor
