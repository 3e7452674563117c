/- weirlaw02.figures over what Show tells. -/
import Derived.Test.YtibmgmgdbicdlaaGreatDoorPDecW
import Derived.Test.YtibmgmgdbicdlaaGreatDoorFEfg
namespace Go.Proofs.YtibmgmgdbicdlaaGreatDoor
open Go.RowKit
set_option linter.unusedVariables false
set_option linter.unusedSimpArgs false
/-- bytes that a call puts into a row of its own -/
structure Row1 (w0 W : World) (v : Value) (bs : List UInt8) : Prop where
  o : W.ownsRow w0.heap.size 5 1 v bs.length (cellsB bs)
  b : Below w0.heap.size w0 W
theorem Row1.start (w : World) : Row1 w w (.slice none 0 0) [] := ⟨World.ownsRow_nil _ _ _ _, Below.refl _ _⟩
section
variable {P : Program}
theorem wpList_push1 {ops : Array Oper} {rest : List Oper} {o : Oper} {a : Act} {Q : Exit → Act → World → Prop} (ht : P.underlying 50 = some (.slice 5)) (hinfo : (P.info? 5).map (fun i => (i.zero, i.size, i.bytes)) = some (some (.int .u8 0), 1, 1))
    (hgd : o.guard = none) (s x : Operand) (ho : o.op = .call { callee := .builtin .append, args := #[s, x], argTypes := #[50, 50] })
    {w0 W : World} {v : Value} {bs : List UInt8} (R : Row1 w0 W v bs) (hl : bs.length ≤ 100000000) (c : UInt8) (X : Int) (hX : X = (c.toNat : Int)) (H : Nat) (hH : W.heap.size = H) (hs : a.eval s = v) (hx : a.eval x = .slice (some ⟨H, 0, none⟩) 1 1)
    (h : ∀ v' w', Row1 w0 w' v' (bs ++ [c]) → wpList P ops Q rest (a.put o.dst v') w') : wpList P ops Q (o :: rest) a (W.alloc (.cells #[.int .u8 X] 5)) :=
  wpList_app_litH 50 5 (.int .u8 0) 1 1 ht hinfo rfl (by decide) hgd s x ho w0.heap.size v bs.length (cellsB bs) W #[.int .u8 X] 1 H hH hs hx R.o rfl (by simp [Value.oneCell']) (by omega) (by omega) R.b.size fun v' w' h1 h2 => h v' w' (by
    refine ⟨?_, R.b.grown h2 R.b.size (fun g hg => (R.o.lt g hg).1)⟩
    rw [List.length_append, cellsB_app]
    subst hX
    exact h1)
end
/-- one byte of figures -/
def fst1 (q : List UInt8 × Int × Bool) (c : UInt8) : List UInt8 × Int × Bool :=
  if c.toNat = 46 then (q.1, q.2.1, true) else if q.1 ≠ [] ∨ c.toNat ≠ 48 then (q.1 ++ [c], if q.2.2 then q.2.1 else q.2.1 + 1, q.2.2) else (q.1, if q.2.2 then q.2.1 - 1 else q.2.1, q.2.2)
def ffold : List UInt8 → List UInt8 × Int × Bool → List UInt8 × Int × Bool
  | [], q => q
  | c :: l, q => ffold l (fst1 q c)
theorem ffold_app : ∀ (a b : List UInt8) (q : List UInt8 × Int × Bool), ffold (a ++ b) q = ffold b (ffold a q)
  | [], b, q => rfl
  | c :: a, b, q => ffold_app a b _
/-- digits behind a digit -/
theorem ffold_dig : ∀ (l d : List UInt8) (k : Int) (bh : Bool), PF.Dig l → d ≠ [] → ffold l (d, k, bh) = (d ++ l, if bh then k else k + l.length, bh)
  | [], d, k, bh, _, _ => by cases bh <;> simp [ffold]
  | c :: l, d, k, bh, h, hd => by
    have hc := h c (List.mem_cons_self ..)
    rw [ffold]
    unfold fst1
    rw [if_neg (by show ¬ c.toNat = 46; omega), if_pos (.inl hd), ffold_dig l _ _ _ (fun x hx => h x (List.mem_cons_of_mem _ hx)) (by simp)]
    cases bh
    · simp; omega
    · simp
theorem ffold_first {c : UInt8} {l : List UInt8} (h : PF.Dig (c :: l)) (hc : c.toNat ≠ 48) (k : Int) (bh : Bool) : ffold (c :: l) ([], k, bh) = (c :: l, if bh then k else k + (c :: l).length, bh) := by
  have h1 := h c (List.mem_cons_self ..)
  rw [ffold]
  unfold fst1
  rw [if_neg (by show ¬ c.toNat = 46; omega), if_pos (.inr hc), ffold_dig l _ _ _ (fun x hx => h x (List.mem_cons_of_mem _ hx)) (by simp)]
  cases bh
  · simp; omega
  · simp
theorem ffold_zeros : ∀ (n : Nat) (k : Int), ffold (List.replicate n 48) ([], k, true) = ([], k - n, true)
  | 0, k => by simp [ffold]
  | n + 1, k => by
    rw [List.replicate_succ, ffold]
    have : fst1 ([], k, true) 48 = ([], k - 1, true) := by unfold fst1; rw [if_neg (by decide), if_neg (fun h => by rcases h with h | h; exact h rfl; exact h (by decide))]; rfl
    rw [this, ffold_zeros n]
    simp; omega
/-- what figures finds in a plain decimal -/
theorem ffold_plain {A : List UInt8} {k : Int} {c : UInt8} {l : List UInt8} (hA : A = c :: l) (h : PF.Dig A) (hc : c.toNat ≠ 48) : ∃ z bh, ffold (plainT A k) ([], 0, false) = (A ++ List.replicate z 48, k, bh) := by
  have hl : 0 < A.length := by rw [hA]; simp
  unfold plainT
  by_cases c1 : k ≤ 0
  · rw [if_pos c1]
    refine ⟨0, true, ?_⟩
    rw [List.append_assoc, ffold_app]
    have e : ffold [48, 46] ([], 0, false) = ([], 0, true) := rfl
    rw [e, ffold_app, ffold_zeros, hA, ffold_first (hA ▸ h) hc]
    simp; omega
  · rw [if_neg c1]
    by_cases c2 : k < A.length
    · rw [if_pos c2]
      refine ⟨0, true, ?_⟩
      have hdt : PF.Dig (A.take k.toNat) := fun x hx => h x (List.mem_of_mem_take hx)
      have hdd : PF.Dig (A.drop k.toNat) := fun x hx => h x (List.mem_of_mem_drop hx)
      obtain ⟨l', e⟩ : ∃ l', A.take k.toNat = c :: l' := by
        obtain ⟨j, hj⟩ : ∃ j, k.toNat = j + 1 := ⟨k.toNat - 1, by omega⟩
        rw [hj, hA, List.take_succ_cons]; exact ⟨_, rfl⟩
      have hlt : (A.take k.toNat).length = k.toNat := by rw [List.length_take]; omega
      rw [ffold_app, ffold_app, e, ffold_first (e ▸ hdt) hc, ← e, hlt]
      have e2 : ffold [46] (A.take k.toNat, (if false = true then (0 : Int) else 0 + (k.toNat : Nat)), false) = (A.take k.toNat, (k.toNat : Int), true) := by
        show fst1 _ 46 = _
        unfold fst1
        rw [if_pos (by decide)]
        simp
      rw [e2, ffold_dig _ _ _ _ hdd (by rw [e]; simp), List.take_append_drop]
      simp; omega
    · rw [if_neg c2]
      refine ⟨k.toNat - A.length, false, ?_⟩
      have hz : PF.Dig (List.replicate (k.toNat - A.length) (48 : UInt8)) := fun x hx => by
        obtain rfl := List.eq_of_mem_replicate hx
        decide
      rw [ffold_app, hA, ffold_first (hA ▸ h) hc, ← hA, ffold_dig _ _ _ _ hz (by rw [hA]; simp), List.length_replicate]
      simp; omega
theorem ffold_take (l : List UInt8) (k : Nat) (h : k < l.length) (q : List UInt8 × Int × Bool) : ffold (l.take (k + 1)) q = fst1 (ffold (l.take k) q) (l[k]'h) := by
  rw [List.take_succ_eq_append_getElem h, ffold_app]; rfl
theorem isL_take {w : World} {P : Option Addr} {n c : Nat} {l : List UInt8} (h : IsL 1 w (.slice P n c) n (cellsB l)) (m : Nat) (hm : m ≤ n) : IsL 1 w (.slice P m c) m (cellsB (l.take m)) := by
  obtain ⟨hl, A, c', e, r⟩ := h
  rw [cellsB_len, Nat.mul_one] at hl
  simp only [Value.slice.injEq] at e
  obtain ⟨rfl, _, rfl⟩ := e
  refine ⟨by rw [cellsB_len, List.length_take]; omega, P, c, rfl, fun k hk => ?_⟩
  rw [cellsB_len, List.length_take] at hk
  obtain ⟨b, off, e1, e2⟩ := r k (by rw [cellsB_len]; omega)
  refine ⟨b, off, e1, e2.trans ?_⟩
  simp [cellsB]
theorem isL_cell {w : World} {P : Option Addr} {n c : Nat} {l : List UInt8} (h : IsL 1 w (.slice P n c) n (cellsB l)) (k : Nat) (hk : k < l.length) : ∃ b off, P = some ⟨b, off, none⟩ ∧ w.cell? ⟨b, off + k, none⟩ = some (.int .u8 ((l[k]'hk).toNat : Int)) := by
  obtain ⟨hl, A, c', e, r⟩ := h
  simp only [Value.slice.injEq] at e
  obtain ⟨rfl, _, rfl⟩ := e
  obtain ⟨b, off, e1, e2⟩ := r k (by rw [cellsB_len]; exact hk)
  refine ⟨b, off, e1, e2.trans ?_⟩
  simp [cellsB]
set_option maxRecDepth 100000 in
set_option maxHeartbeats 4000000 in
/-- figures of a text that holds a plain decimal's digits -/
theorem figures_any (T : ByteArray) (A : List UInt8) (z : Nat) (κ : Int) (bh : Bool) (w : World) (hT : T.size ≤ 1000) (hF : ffold T.data.toList ([], 0, false) = (A ++ List.replicate z 48, κ, bh)) (hA : A ≠ []) (hlast : ∀ h : A ≠ [], (A.getLast h).toNat ≠ 48) :
    Calls Tryz.prog 33 #[.string T] w fun e w' => e = .returned (.tuple #[.string ⟨A.toArray⟩, .int .i64 κ]) ∧ Below w.heap.size w w' := by
  have HSZ := hd (Lib.size_eq T)
  have HF := hd hF
  have HA := hd hA
  have HLA := hd hlast
  clear hF hA hlast
  go_enter Tryz.func33, Tryz.ntmps33
  go_wp2
  go_loopw [4, 5, 6, 7] (fun xd xk xb xi wr => ∃ (i : Nat) (d : List UInt8) (k : Int) (b : Bool), i ≤ T.size ∧ xi = .int .i64 (i : Int) ∧ xk = .int .i64 k ∧ xb = .bool b ∧ d.length ≤ i ∧ -(i : Int) ≤ k ∧ k ≤ (i : Int) ∧ Hd (ffold (T.data.toList.take i) ([], 0, false) = (d, k, b)) ∧ Hd (Row1 w wr xd d)) (fun xd xk xb xi wr => T.size - (intOf xi).toNat)
  case atStart => exact ⟨0, [], 0, false, Nat.zero_le _, rfl, rfl, rfl, Nat.le_refl _, by omega, by omega, hd rfl, hd (Row1.start w)⟩
  case round =>
    obtain ⟨i, d, k, b, hi, rfl, rfl, rfl, hdl, hk1, hk2, HQ, HR⟩ := hrel
    have hvl : ∃ P c, u4 = .slice P d.length c := by
      obtain ⟨_, P, c, e, _⟩ := IsL.own HR.o.o
      exact ⟨P, c, e⟩
    obtain ⟨P, c, rfl⟩ := hvl
    by_cases hlt : i < T.size
    · have hil : i < T.data.toList.length := by have := HSZ.o; omega
      have HT := hd (ffold_take T.data.toList i hil ([], 0, false))
      have HE : Hd (T.data.toList[i]'hil = T[i]'hlt) := hd rfl
      rw [HE.o, HQ.o] at HT
      have hc : (T[i]'hlt).toNat < 256 := (T[i]'hlt).toNat_lt
      clear HE HQ
      by_cases c46 : (T[i]'hlt).toNat = 46
      · have t46 : (((T[i]'hlt).toNat : Int) == 46) = true := by rw [c46]; rfl
        have HQ2 : Hd (ffold (T.data.toList.take (i + 1)) ([], 0, false) = (d, k, true)) := hd (by rw [HT.o]; unfold fst1; rw [if_pos c46])
        clear HT c46
        go_wp2
        go_roundw
        case rel => exact ⟨i + 1, d, k, true, by omega, by go_num, rfl, rfl, by omega, by omega, by omega, HQ2, HR⟩
        case measure => simp [intOf]; omega
      · have t46 : (((T[i]'hlt).toNat : Int) == 46) = false := by rw [beq_eq_false_iff_ne]; omega
        by_cases hin : d ≠ [] ∨ (T[i]'hlt).toNat ≠ 48
        · have HQ2 : Hd (ffold (T.data.toList.take (i + 1)) ([], 0, false) = (d ++ [T[i]'hlt], if b then k else k + 1, b)) := hd (by rw [HT.o]; unfold fst1; rw [if_neg c46, if_pos hin])
          clear c46 HT
          by_cases hd0 : d = []
          · have h48 : (T[i]'hlt).toNat ≠ 48 := by
              rcases hin with h | h
              · exact absurd hd0 h
              · exact h
            have g2 : (((T[i]'hlt).toNat : Int) != 48) = true := by rw [bne_iff_ne]; omega
            subst hd0
            clear hin h48
            cases b
            all_goals
              go_wp2_with (at_builtin; refine wpList_push1 Tryz.underlying50 info_u8f rfl _ _ rfl HR.o (by simp) (T[i]'hlt) _ rfl _ rfl rfl rfl ?_)
              intro v2 w2 hR2
              have HR2 := hd hR2
              clear hR2 HR
              go_wp2
              go_roundw
              case rel => exact ⟨i + 1, _, _, _, by omega, by go_num, rfl, rfl, by simp, by omega, by omega, HQ2, HR2⟩
              case measure => simp [intOf]; omega
          · have hdl0 : d.length ≠ 0 := fun e => hd0 (List.eq_nil_of_length_eq_zero e)
            have g : (0 : Int) < (d.length : Int) := by omega
            have hl2 : (d ++ [T[i]'hlt]).length = d.length + 1 := by simp
            clear hin
            cases b
            all_goals
              go_wp2_with (at_builtin; refine wpList_push1 Tryz.underlying50 info_u8f rfl _ _ rfl HR.o (by omega) (T[i]'hlt) _ rfl _ rfl rfl rfl ?_)
              intro v2 w2 hR2
              have HR2 := hd hR2
              clear hR2 HR
              go_wp2
              go_roundw
              case rel => exact ⟨i + 1, _, _, _, by omega, by go_num, rfl, rfl, by omega, by omega, by omega, HQ2, HR2⟩
              case measure => simp [intOf]; omega
        · have hd0 : d = [] := by
            rcases Classical.em (d = []) with h | h
            · exact h
            · exact absurd (.inl h) hin
          have h48 : (T[i]'hlt).toNat = 48 := by
            rcases Classical.em ((T[i]'hlt).toNat = 48) with h | h
            · exact h
            · exact absurd (.inr h) hin
          have HQ2 : Hd (ffold (T.data.toList.take (i + 1)) ([], 0, false) = (d, if b then k - 1 else k, b)) := hd (by rw [HT.o]; unfold fst1; rw [if_neg c46, if_neg hin])
          have t48 : (((T[i]'hlt).toNat : Int) != 48) = false := by rw [bne_eq_false_iff_eq]; omega
          subst hd0
          clear c46 hin HT
          cases b
          all_goals
            go_wp2
            go_roundw
            case rel => exact ⟨i + 1, [], _, _, by omega, by go_num, rfl, rfl, by simp, by omega, by omega, HQ2, HR⟩
            case measure => simp [intOf]; omega
    · obtain rfl : i = T.size := by omega
      have hfull : T.data.toList.take T.size = T.data.toList := List.take_of_length_le (by rw [HSZ.o]; exact Nat.le_refl _)
      have hq := HQ.o
      rw [hfull, HF.o] at hq
      simp only [Prod.mk.injEq] at hq
      obtain ⟨rfl, rfl, rfl⟩ := hq
      obtain ⟨wo, rfl⟩ : ∃ wo : World, wo = wr := ⟨_, rfl⟩
      have HI := hd (IsL.own HR.o.o)
      have HB := hd HR.o.b
      have HN : Hd ((A ++ List.replicate z (48 : UInt8)).length = A.length + z) := hd (by simp)
      have hA1 : 1 ≤ A.length := by
        have := HA.o
        cases A with | nil => exact absurd rfl this | cons x a => simp
      have hcap : A.length + z ≤ c := by
        rcases HR.o.o.2 with ⟨h1, h2⟩ | ⟨g, cap, cur, h1, _, _, h2, _⟩
        · rw [HN.o] at h2; omega
        · simp only [Value.slice.injEq] at h1
          obtain ⟨_, _, rfl⟩ := h1
          rw [HN.o] at h2; exact h2
      rw [HN.o] at HI hdl ⊢
      clear hfull HQ HR hlt
      go_wp2
      go_loopw [4] (fun xd wr => ∃ m : Nat, A.length ≤ m ∧ m ≤ A.length + z ∧ xd = .slice P m c ∧ wr = wo) (fun xd wr => match xd with | .slice _ m _ => m | _ => 0)
      case atStart => exact ⟨A.length + z, by omega, Nat.le_refl _, rfl, rfl⟩
      case round =>
        obtain ⟨m, hm1, hm2, rfl, rfl⟩ := hrel
        obtain ⟨j, rfl⟩ : ∃ j, m = j + 1 := ⟨m - 1, by omega⟩
        have hjb : (j : Int) ≤ 1000 := by omega
        have hjb2 : j ≤ 1000 := by omega
        obtain ⟨b, off, rfl, hcell⟩ := isL_cell HI.o j (by rw [HN.o]; omega)
        by_cases hj : A.length = j + 1
        · have hlastc : ((A ++ List.replicate z (48 : UInt8))[j]'(by rw [HN.o]; omega)).toNat ≠ 48 := by
            have h1 := HLA.o HA.o
            rw [List.getLast_eq_getElem] at h1
            rw [List.getElem_append_left (by omega)]
            have e : A.length - 1 = j := by omega
            simp only [e] at h1
            exact h1
          have t48 : ((((A ++ List.replicate z (48 : UInt8))[j]'(by rw [HN.o]; omega)).toNat : Int) == 48) = false := by rw [beq_eq_false_iff_ne]; omega
          have hcv : (convert 50 9 (.slice (some ⟨b, off, none⟩) (j + 1) c)).run Tryz.prog wr = .ok (.string ⟨A.toArray⟩) wr := by
            have h1 := isL_take HI.o (j + 1) (by omega)
            have h2 : (A ++ List.replicate z (48 : UInt8)).take (j + 1) = A := by rw [List.take_append_of_le_length (by omega), List.take_of_length_le (by omega)]
            rw [h2] at h1
            exact conv_u8 h1
          generalize ((A ++ List.replicate z (48 : UInt8))[j]'(by rw [HN.o]; omega)).toNat = y at *
          clear hlastc
          go_wp2
          go_ret2
          exact ⟨rfl, HB.o⟩
        · have hz48 : ((A ++ List.replicate z (48 : UInt8))[j]'(by rw [HN.o]; omega)).toNat = 48 := by
            rw [List.getElem_append_right (by omega)]
            simp
          rw [hz48] at hcell
          have hcj : j ≤ c := by omega
          clear hz48
          go_wp2
          go_roundw
          case rel => exact ⟨j, by omega, by omega, rfl, trivial⟩
          case measure => show j < j + 1; omega
end Go.Proofs.YtibmgmgdbicdlaaGreatDoor
