/- weirlaw02.decimal and power. weirlaw02.figures over what Show tells. Texts of digits of one length: byte by byte is by number. Two rows of bytes that grow beside each other. -/
import Derived.Test.YtcbggkdginfakaaGreatDoorPBackW
import Derived.Test.YtcbggkdginfakaaGreatDoorBase4
import Derived.Deep.RegionLaw
import Derived.Test.YtcbggkdginfakaaGreatDoorFEfg
namespace Go.Proofs.YtcbggkdginfakaaGreatDoor
open Go.RowKit
set_option linter.unusedVariables false
set_option linter.unusedSimpArgs false
theorem isL_lit1 (w : World) (C : Array Value) (e : TypeId) (xs : List Value) (n : Nat) (hn : xs.length = n) (hC : C.toList = xs) : IsL 1 (w.alloc (.cells C e)) (.slice (some ⟨w.heap.size, 0, none⟩) n n) n xs := by
  refine ⟨by omega, _, _, rfl, fun k hk => ⟨_, _, rfl, ?_⟩⟩
  rw [Nat.zero_add, World.cell?_alloc_mark, ← Array.getElem?_toList, hC, List.getElem?_eq_getElem hk]
theorem byte_lit (w : World) (c : Nat) (B : UInt8) (hB : UInt8.ofNat c = B) (hc : c < 256) (e : TypeId) : IsL 1 (w.alloc (.cells #[.int .u8 (c : Int)] e)) (.slice (some ⟨w.heap.size, 0, none⟩) 1 1) 1 (cellsB [B]) := by
  subst hB
  refine isL_lit1 w _ e _ 1 rfl ?_
  simp [cellsB]
  omega
theorem conv_byte (w : World) (c : Nat) (B : UInt8) (hB : UInt8.ofNat c = B) (hc : c < 256) : (convert 32 9 (.slice (some ⟨w.heap.size, 0, none⟩) 1 1)).run Tryz.prog (w.alloc (.cells #[.int .u8 (c : Int)] 5)) = .ok (.string ⟨[B].toArray⟩) (w.alloc (.cells #[.int .u8 (c : Int)] 5)) :=
  conv_u8 (m := 1) (byte_lit w c B hB hc _)
def PwT (d : Nat) (ng : Bool) (j : Nat) : List UInt8 := Lib.decDigits d ++ 101 :: ((if ng then [45] else []) ++ Lib.decDigits j)
end Go.Proofs.YtcbggkdginfakaaGreatDoor
namespace Go.Proofs.YtcbggkdginfakaaGreatDoor
open Go.RowKit
set_option linter.unusedVariables false
set_option linter.unusedSimpArgs false
/-- bytes that a call puts into a row of its own -/
structure Row1 (w0 W : World) (v : Value) (bs : List UInt8) : Prop where
  o : W.ownsRow w0.heap.size 5 1 v bs.length (cellsB bs)
  b : Below w0.heap.size w0 W
theorem Row1.start (w : World) : Row1 w w (.slice none 0 0) [] := ⟨World.ownsRow_nil _ _ _ _, Below.refl _ _⟩
section
variable {P : Program}
theorem wpList_push1 {ops : Array Oper} {rest : List Oper} {o : Oper} {a : Act} {Q : Exit → Act → World → Prop} (ht : P.underlying 32 = some (.slice 5)) (hinfo : (P.info? 5).map (fun i => (i.zero, i.size, i.bytes)) = some (some (.int .u8 0), 1, 1))
    (hgd : o.guard = none) (s x : Operand) (ho : o.op = .call { callee := .builtin .append, args := #[s, x], argTypes := #[32, 32] })
    {w0 W : World} {v : Value} {bs : List UInt8} (R : Row1 w0 W v bs) (hl : bs.length ≤ 100000000) (c : UInt8) (X : Int) (hX : X = (c.toNat : Int)) (H : Nat) (hH : W.heap.size = H) (hs : a.eval s = v) (hx : a.eval x = .slice (some ⟨H, 0, none⟩) 1 1)
    (h : ∀ v' w', Row1 w0 w' v' (bs ++ [c]) → wpList P ops Q rest (a.put o.dst v') w') : wpList P ops Q (o :: rest) a (W.alloc (.cells #[.int .u8 X] 5)) :=
  wpList_app_litH 32 5 (.int .u8 0) 1 1 ht hinfo rfl (by decide) hgd s x ho w0.heap.size v bs.length (cellsB bs) W #[.int .u8 X] 1 H hH hs hx R.o rfl (by simp [Value.oneCell']) (by omega) (by omega) R.b.size fun v' w' h1 h2 => h v' w' (by
    refine ⟨?_, R.b.grown h2 R.b.size (fun g hg => (R.o.lt g hg).1)⟩
    rw [List.length_append, cellsB_app]
    subst hX
    exact h1)
end
/-- one byte of figures -/
def fst1 (q : List UInt8 × Int × Bool) (c : UInt8) : List UInt8 × Int × Bool :=
  if c.toNat = 46 then (q.1, q.2.1, true) else if q.1 ≠ [] ∨ c.toNat ≠ 48 then (q.1 ++ [c], if q.2.2 then q.2.1 else q.2.1 + 1, q.2.2) else (q.1, if q.2.2 then q.2.1 - 1 else q.2.1, q.2.2)
def ffold : List UInt8 → List UInt8 × Int × Bool → List UInt8 × Int × Bool
  | [], q => q
  | c :: l, q => ffold l (fst1 q c)
theorem ffold_app : ∀ (a b : List UInt8) (q : List UInt8 × Int × Bool), ffold (a ++ b) q = ffold b (ffold a q)
  | [], b, q => rfl
  | c :: a, b, q => ffold_app a b _
/-- digits behind a digit -/
theorem ffold_dig : ∀ (l d : List UInt8) (k : Int) (bh : Bool), PF.Dig l → d ≠ [] → ffold l (d, k, bh) = (d ++ l, if bh then k else k + l.length, bh)
  | [], d, k, bh, _, _ => by cases bh <;> simp [ffold]
  | c :: l, d, k, bh, h, hd => by
    have hc := h c (List.mem_cons_self ..)
    rw [ffold]
    unfold fst1
    rw [if_neg (by show ¬ c.toNat = 46; omega), if_pos (.inl hd), ffold_dig l _ _ _ (fun x hx => h x (List.mem_cons_of_mem _ hx)) (by simp)]
    cases bh
    · simp; omega
    · simp
theorem ffold_first {c : UInt8} {l : List UInt8} (h : PF.Dig (c :: l)) (hc : c.toNat ≠ 48) (k : Int) (bh : Bool) : ffold (c :: l) ([], k, bh) = (c :: l, if bh then k else k + (c :: l).length, bh) := by
  have h1 := h c (List.mem_cons_self ..)
  rw [ffold]
  unfold fst1
  rw [if_neg (by show ¬ c.toNat = 46; omega), if_pos (.inr hc), ffold_dig l _ _ _ (fun x hx => h x (List.mem_cons_of_mem _ hx)) (by simp)]
  cases bh
  · simp; omega
  · simp
theorem ffold_zeros : ∀ (n : Nat) (k : Int), ffold (List.replicate n 48) ([], k, true) = ([], k - n, true)
  | 0, k => by simp [ffold]
  | n + 1, k => by
    rw [List.replicate_succ, ffold]
    have : fst1 ([], k, true) 48 = ([], k - 1, true) := by unfold fst1; rw [if_neg (by decide), if_neg (fun h => by rcases h with h | h; exact h rfl; exact h (by decide))]; rfl
    rw [this, ffold_zeros n]
    simp; omega
/-- what figures finds in a plain decimal -/
theorem ffold_plain {A : List UInt8} {k : Int} {c : UInt8} {l : List UInt8} (hA : A = c :: l) (h : PF.Dig A) (hc : c.toNat ≠ 48) : ∃ z bh, ffold (plainT A k) ([], 0, false) = (A ++ List.replicate z 48, k, bh) := by
  have hl : 0 < A.length := by rw [hA]; simp
  unfold plainT
  by_cases c1 : k ≤ 0
  · rw [if_pos c1]
    refine ⟨0, true, ?_⟩
    rw [List.append_assoc, ffold_app]
    have e : ffold [48, 46] ([], 0, false) = ([], 0, true) := rfl
    rw [e, ffold_app, ffold_zeros, hA, ffold_first (hA ▸ h) hc]
    simp; omega
  · rw [if_neg c1]
    by_cases c2 : k < A.length
    · rw [if_pos c2]
      refine ⟨0, true, ?_⟩
      have hdt : PF.Dig (A.take k.toNat) := fun x hx => h x (List.mem_of_mem_take hx)
      have hdd : PF.Dig (A.drop k.toNat) := fun x hx => h x (List.mem_of_mem_drop hx)
      obtain ⟨l', e⟩ : ∃ l', A.take k.toNat = c :: l' := by
        obtain ⟨j, hj⟩ : ∃ j, k.toNat = j + 1 := ⟨k.toNat - 1, by omega⟩
        rw [hj, hA, List.take_succ_cons]; exact ⟨_, rfl⟩
      have hlt : (A.take k.toNat).length = k.toNat := by rw [List.length_take]; omega
      rw [ffold_app, ffold_app, e, ffold_first (e ▸ hdt) hc, ← e, hlt]
      have e2 : ffold [46] (A.take k.toNat, (if false = true then (0 : Int) else 0 + (k.toNat : Nat)), false) = (A.take k.toNat, (k.toNat : Int), true) := by
        show fst1 _ 46 = _
        unfold fst1
        rw [if_pos (by decide)]
        simp
      rw [e2, ffold_dig _ _ _ _ hdd (by rw [e]; simp), List.take_append_drop]
      simp; omega
    · rw [if_neg c2]
      refine ⟨k.toNat - A.length, false, ?_⟩
      have hz : PF.Dig (List.replicate (k.toNat - A.length) (48 : UInt8)) := fun x hx => by
        obtain rfl := List.eq_of_mem_replicate hx
        decide
      rw [ffold_app, hA, ffold_first (hA ▸ h) hc, ← hA, ffold_dig _ _ _ _ hz (by rw [hA]; simp), List.length_replicate]
      simp; omega
theorem ffold_take (l : List UInt8) (k : Nat) (h : k < l.length) (q : List UInt8 × Int × Bool) : ffold (l.take (k + 1)) q = fst1 (ffold (l.take k) q) (l[k]'h) := by
  rw [List.take_succ_eq_append_getElem h, ffold_app]; rfl
theorem isL_take {w : World} {P : Option Addr} {n c : Nat} {l : List UInt8} (h : IsL 1 w (.slice P n c) n (cellsB l)) (m : Nat) (hm : m ≤ n) : IsL 1 w (.slice P m c) m (cellsB (l.take m)) := by
  obtain ⟨hl, A, c', e, r⟩ := h
  rw [cellsB_len, Nat.mul_one] at hl
  simp only [Value.slice.injEq] at e
  obtain ⟨rfl, _, rfl⟩ := e
  refine ⟨by rw [cellsB_len, List.length_take]; omega, P, c, rfl, fun k hk => ?_⟩
  rw [cellsB_len, List.length_take] at hk
  obtain ⟨b, off, e1, e2⟩ := r k (by rw [cellsB_len]; omega)
  refine ⟨b, off, e1, e2.trans ?_⟩
  simp [cellsB]
theorem isL_cell {w : World} {P : Option Addr} {n c : Nat} {l : List UInt8} (h : IsL 1 w (.slice P n c) n (cellsB l)) (k : Nat) (hk : k < l.length) : ∃ b off, P = some ⟨b, off, none⟩ ∧ w.cell? ⟨b, off + k, none⟩ = some (.int .u8 ((l[k]'hk).toNat : Int)) := by
  obtain ⟨hl, A, c', e, r⟩ := h
  simp only [Value.slice.injEq] at e
  obtain ⟨rfl, _, rfl⟩ := e
  obtain ⟨b, off, e1, e2⟩ := r k (by rw [cellsB_len]; exact hk)
  refine ⟨b, off, e1, e2.trans ?_⟩
  simp [cellsB]
end Go.Proofs.YtcbggkdginfakaaGreatDoor
namespace Go.Proofs.YtcbggkdginfakaaGreatDoor
open Go.RowKit
set_option linter.unusedVariables false
namespace PF
theorem fold_mono : ∀ (l : List UInt8) (a b : Nat), a ≤ b → l.foldl (fun a c => a * 10 + (c.toNat - 48)) a ≤ l.foldl (fun a c => a * 10 + (c.toNat - 48)) b
  | [], a, b, h => h
  | c :: l, a, b, h => by rw [List.foldl_cons, List.foldl_cons]; exact fold_mono l _ _ (by omega)
theorem fold_add : ∀ (l : List UInt8) (a : Nat), l.foldl (fun a c => a * 10 + (c.toNat - 48)) a = a * 10 ^ l.length + l.foldl (fun a c => a * 10 + (c.toNat - 48)) 0
  | [], a => by simp
  | c :: l, a => by
    rw [List.foldl_cons, List.foldl_cons, fold_add l, fold_add l (0 * 10 + (c.toNat - 48)), List.length_cons, Nat.pow_succ, Nat.zero_mul, Nat.zero_add, Nat.add_mul, Nat.mul_assoc, Nat.mul_comm 10, Nat.add_assoc]
theorem fold_lt : ∀ (l : List UInt8), Dig l → l.foldl (fun a c => a * 10 + (c.toNat - 48)) 0 < 10 ^ l.length
  | [], _ => by decide
  | c :: l, h => by
    have hc := h c (List.mem_cons_self ..)
    have h1 := fold_lt l (fun x hx => h x (List.mem_cons_of_mem _ hx))
    rw [List.foldl_cons, fold_add, List.length_cons, Nat.pow_succ]
    have : (0 * 10 + (c.toNat - 48)) * 10 ^ l.length ≤ 9 * 10 ^ l.length := Nat.mul_le_mul_right _ (by omega)
    omega
theorem less_dv : ∀ (x y : List UInt8), x.length = y.length → Dig x → Dig y → (Op.bytesLess x y = true → dv x ≤ dv y) ∧ (Op.bytesLess x y = false → dv y ≤ dv x)
  | [], [], _, _, _ => ⟨fun _ => Nat.le_refl _, fun _ => Nat.le_refl _⟩
  | [], _ :: _, h, _, _ => by cases h
  | _ :: _, [], h, _, _ => by cases h
  | a :: x, b :: y, h, hx, hy => by
    have hl : x.length = y.length := by simpa using h
    have ha := hx a (List.mem_cons_self ..)
    have hb := hy b (List.mem_cons_self ..)
    have hx' : Dig x := fun c hc => hx c (List.mem_cons_of_mem _ hc)
    have hy' : Dig y := fun c hc => hy c (List.mem_cons_of_mem _ hc)
    obtain ⟨i1, i2⟩ := less_dv x y hl hx' hy'
    have ex : dv (a :: x) = (a.toNat - 48) * 10 ^ x.length + dv x := by
      show List.foldl _ _ (a :: x) = _
      rw [List.foldl_cons, fold_add, Nat.zero_mul, Nat.zero_add]; rfl
    have ey : dv (b :: y) = (b.toNat - 48) * 10 ^ x.length + dv y := by
      show List.foldl _ _ (b :: y) = _
      rw [List.foldl_cons, fold_add, Nat.zero_mul, Nat.zero_add, hl]; rfl
    have lx : dv x < 10 ^ x.length := fold_lt x hx'
    have ly : dv y < 10 ^ x.length := by rw [hl]; exact fold_lt y hy'
    rw [ex, ey, Op.bytesLess]
    rcases Nat.lt_trichotomy a.toNat b.toNat with c | c | c
    · have hab : a < b := UInt8.lt_iff_toNat_lt.2 c
      have : (a.toNat - 48 + 1) * 10 ^ x.length ≤ (b.toNat - 48) * 10 ^ x.length := Nat.mul_le_mul_right _ (by omega)
      rw [Nat.add_mul, Nat.one_mul] at this
      refine ⟨fun _ => by omega, fun hh => ?_⟩
      simp [hab] at hh
    · have hab : a = b := UInt8.toNat_inj.1 c
      subst hab
      have hn : ¬ a < a := fun h => by have := UInt8.lt_iff_toNat_lt.1 h; omega
      simp only [decide_eq_false hn, Bool.false_or, beq_self_eq_true, Bool.true_and]
      exact ⟨fun h => by have := i1 h; omega, fun h => by have := i2 h; omega⟩
    · have hn : ¬ a < b := fun h => by have := UInt8.lt_iff_toNat_lt.1 h; omega
      have hne : (a == b) = false := by rw [beq_eq_false_iff_ne]; rintro rfl; omega
      have : (b.toNat - 48 + 1) * 10 ^ x.length ≤ (a.toNat - 48) * 10 ^ x.length := Nat.mul_le_mul_right _ (by omega)
      rw [Nat.add_mul, Nat.one_mul] at this
      simp only [decide_eq_false hn, hne, Bool.false_and, Bool.or_false]
      exact ⟨fun h => by simp at h, fun _ => by omega⟩
/-- the digit that a byte stands for -/
def d10 (c : UInt8) : UInt8 := 48 + c % 10
theorem d10_nat (c : UInt8) : (d10 c).toNat = 48 + c.toNat % 10 := by
  unfold d10
  have h : c.toNat < 256 := c.toNat_lt
  rw [UInt8.toNat_add, UInt8.toNat_mod]
  show (48 + c.toNat % 10) % 256 = _
  omega
theorem d10_dig (l : List UInt8) : Dig (l.map d10) := fun c hc => by
  obtain ⟨x, _, rfl⟩ := List.mem_map.1 hc
  rw [d10_nat]; omega
theorem take_map_next {l : List UInt8} {k : Nat} (h : k < l.length) : (l.take (k + 1)).map d10 = (l.take k).map d10 ++ [d10 (l[k]'h)] := by
  rw [List.take_succ_eq_append_getElem h, List.map_append]; rfl
end PF
/-- two rows of bytes, each in a block of its own -/
structure RowO (w0 W : World) (v : Value) (bs : List UInt8) (u : Value) (cs : List UInt8) : Prop where
  o : W.ownsRow w0.heap.size 5 1 v bs.length (cellsB bs)
  p : W.ownsRow w0.heap.size 5 1 u cs.length (cellsB cs)
  b : Below w0.heap.size w0 W
  ds : u.ownBlock = none ∨ u.ownBlock ≠ v.ownBlock
theorem RowO.swap {w0 W : World} {v u : Value} {bs cs : List UInt8} (R : RowO w0 W v bs u cs) : RowO w0 W u cs v bs :=
  ⟨R.p, R.o, R.b, by
    rcases R.ds with h | h
    · rw [h]
      cases v.ownBlock with
      | none => exact .inl rfl
      | some g => exact .inr (by simp)
    · exact .inr (Ne.symm h)⟩
section
variable {P : Program}
theorem wpList_push2 {ops : Array Oper} {rest : List Oper} {o : Oper} {a : Act} {Q : Exit → Act → World → Prop} (ht : P.underlying 32 = some (.slice 5)) (hinfo : (P.info? 5).map (fun i => (i.zero, i.size, i.bytes)) = some (some (.int .u8 0), 1, 1))
    (hgd : o.guard = none) (s x : Operand) (ho : o.op = .call { callee := .builtin .append, args := #[s, x], argTypes := #[32, 32] })
    {w0 W : World} {v u : Value} {bs cs : List UInt8} (R : RowO w0 W v bs u cs) (hl : bs.length ≤ 100000000) (c : UInt8) (X : Int) (hX : X = (c.toNat : Int)) (H : Nat) (hH : W.heap.size = H) (hs : a.eval s = v) (hx : a.eval x = .slice (some ⟨H, 0, none⟩) 1 1)
    (h : ∀ v' w', RowO w0 w' v' (bs ++ [c]) u cs → wpList P ops Q rest (a.put o.dst v') w') : wpList P ops Q (o :: rest) a (W.alloc (.cells #[.int .u8 X] 5)) := by
  subst hH hX
  have hB : Below W.heap.size W (W.alloc (.cells #[.int .u8 (c.toNat : Int)] 5)) := (Below.refl _ W).alloc (Nat.le_refl _) _
  have o1 := own_below R.o hB
  have p1 := own_below R.p hB
  refine wpList_app_keep _ 32 5 (.int .u8 0) 1 1 ht hinfo rfl (by decide) (by unfold Region.wanted; rw [hgd]) s x ho w0.heap.size v bs.length (cellsB bs) hs o1 (.slice (some ⟨W.heap.size, 0, none⟩) 1 1) 1 [.int .u8 (c.toNat : Int)] hx (isL_lit1 W _ _ _ 1 rfl rfl) (by simp [Value.oneCell']) (by omega) (by omega) (by have := R.b.size; have := hB.size; omega) fun v' w' h1 h2 _ h4 => h v' w' ?_
  refine ⟨?_, own_kept p1 h2 R.ds, ?_, ?_⟩
  · rw [List.length_append, cellsB_app]; exact h1
  · exact (R.b.trans (hB.mono R.b.size)).grown h2 (by have := R.b.size; have := hB.size; omega) (fun g hg => (R.o.lt g hg).1)
  · rcases h4 with h4 | h4
    · rw [h4]; exact R.ds
    · rw [h4]
      cases hu : u.ownBlock with
      | none => exact .inl rfl
      | some g =>
        refine .inr fun he => ?_
        have h5 := own_lt p1 g hu
        have : g = (W.alloc (.cells #[.int .u8 (c.toNat : Int)] 5)).heap.size := by simpa using he
        omega
end
/-- a row that is made empty -/
def mk0 (n : Nat) : Array Value := madeCells (Value.int .u8 0).cells n
theorem mk0_run (n : Nat) (hn : n ≤ 100000000) (W : World) : (Instr.makeSlice 32 (.int .i64 0) (.int .i64 (n : Int))).run Tryz.prog W = .ok (.slice (some ⟨W.heap.size, 0, none⟩) 0 n) (W.alloc (.cells (mk0 n) 5)) := by
  obtain ⟨i, hi, q0, q1, q2⟩ := info_parts info_u8f
  have hb' : (i.bytes : Int) * (n : Int) ≤ 281474976710656 := by rw [q2]; omega
  have hr := run_make (P := Tryz.prog) W 32 5 i (.int .u8 0) Tryz.underlying32 hi q0 .i64 .i64 0 n (by omega) (by omega) hb' (by omega)
  simp only [Int.toNat_natCast, q1, Nat.mul_one] at hr
  unfold mk0
  simpa [Result.andThen] using hr
theorem own_mk0 (W : World) (n B : Nat) (hB : B ≤ W.heap.size) (hn : n ≤ 100000000) : (W.alloc (.cells (mk0 n) 5)).ownsRow B 5 1 (.slice (some ⟨W.heap.size, 0, none⟩) 0 n) 0 [] :=
  ⟨by simp, .inr ⟨W.heap.size, n, mk0 n, rfl, hB, heap_alloc_new W _, Nat.zero_le _, by unfold maxLen; omega, by unfold mk0; rw [size_madeCells, Nat.mul_one], by simp⟩⟩
theorem rowO_start {w0 W : World} (n : Nat) (hn : n ≤ 100000000) (hb : Below w0.heap.size w0 W) : RowO w0 ((W.alloc (.cells (mk0 n) 5)).alloc (.cells (mk0 n) 5)) (.slice (some ⟨W.heap.size, 0, none⟩) 0 n) [] (.slice (some ⟨W.heap.size + 1, 0, none⟩) 0 n) [] := by
  have hz : (W.alloc (.cells (mk0 n) 5)).heap.size = W.heap.size + 1 := by simp
  have h1 := own_mk0 W n w0.heap.size hb.size hn
  have h2 := own_mk0 (W.alloc (.cells (mk0 n) 5)) n w0.heap.size (by have := hb.size; omega) hn
  rw [hz] at h2
  refine ⟨own_below h1 ((Below.refl _ _).alloc (Nat.le_refl _) _), h2, (hb.alloc hb.size _).alloc (by have := hb.size; omega) _, .inr ?_⟩
  simp [Value.ownBlock]
end Go.Proofs.YtcbggkdginfakaaGreatDoor
