/- A moment's seconds as bytes. Plain lists. strconv.AppendUint at this program; span.thousandths; span.Seconds. weirref03.decimal, weirref03.Seconds. -/
import Derived.Test.YteckfdohgiddgaaGreatDoorBase3
import Derived.Lib.ItoaNum
import Derived.Lib.ItoaLen
import Derived.Test.YteckfdohgiddgaaGreatDoorBase5
import Derived.Test.YteckfdohgiddgaaGreatDoorFShow
import Derived.Test.YteckfdohgiddgaaGreatDoorLBase
import Derived.Shelf.Lay
import Derived.Shelf.Strconv.AppendUint10
namespace Go.Proofs.YteckfdohgiddgaaGreatDoor
namespace T
set_option linter.unusedVariables false
def dig (n : Nat) : UInt8 := UInt8.ofNat (48 + n)
/-- without the noughts at the end -/
def rz (l : List UInt8) : List UInt8 := (l.reverse.dropWhile (· == 48)).reverse
theorem rz_end {l : List UInt8} {c : UInt8} (h : c ≠ 48) : rz (l ++ [c]) = l ++ [c] := by
  unfold rz
  rw [List.reverse_append, List.reverse_singleton, List.singleton_append, List.dropWhile_cons_of_neg (by simpa using h), List.reverse_cons, List.reverse_reverse]
theorem rz_nought (l : List UInt8) : rz (l ++ [48]) = rz l := by
  unfold rz
  rw [List.reverse_append, List.reverse_singleton, List.singleton_append, List.dropWhile_cons_of_pos (by decide)]
theorem rz_len (l : List UInt8) : (rz l).length ≤ l.length := by
  unfold rz
  rw [List.length_reverse]
  have := (List.dropWhile_sublist (· == (48 : UInt8)) (l := l.reverse)).length_le
  rw [List.length_reverse] at this
  exact this
theorem dw_ne : ∀ (l : List UInt8) (c : UInt8), c ∈ l → c ≠ 48 → l.dropWhile (· == 48) ≠ []
  | x :: l, c, hc, h => by
    by_cases e : x = 48
    · rw [List.dropWhile_cons_of_pos (by simpa using e)]
      rcases List.mem_cons.1 hc with rfl | hc
      · exact absurd e h
      · exact dw_ne l c hc h
    · rw [List.dropWhile_cons_of_neg (by simpa using e)]
      simp
theorem rz_ne {l : List UInt8} {c : UInt8} (hc : c ∈ l) (h : c ≠ 48) : rz l ≠ [] := by
  intro e
  unfold rz at e
  have e2 : l.reverse.dropWhile (· == 48) = [] := List.reverse_eq_nil_iff.1 e
  exact dw_ne _ c (List.mem_reverse.2 hc) h e2
/-- three digits -/
def d3 (r : Nat) : List UInt8 := [dig (r / 100), dig (r / 10 % 10), dig (r % 10)]
def frac (r : Nat) : List UInt8 := if r = 0 then [] else 46 :: rz (d3 r)
def sec (ms : Int) : List UInt8 := (if ms < 0 then [45] else []) ++ (Lib.decDigits (ms.natAbs / 1000) ++ frac (ms.natAbs % 1000))
theorem dig_ne : ∀ n, n < 10 → (dig n = 48 ↔ n = 0) := by decide
theorem rz_d3 (r : Nat) (h : 0 < r) (h2 : r < 1000) : rz (d3 r) ≠ [] := by
  by_cases c1 : r / 100 = 0
  · by_cases c2 : r / 10 % 10 = 0
    · exact rz_ne (c := dig (r % 10)) (by simp [d3]) (fun e => by have := (dig_ne _ (by omega)).1 e; omega)
    · exact rz_ne (c := dig (r / 10 % 10)) (by simp [d3]) (fun e => by have := (dig_ne _ (by omega)).1 e; omega)
  · exact rz_ne (c := dig (r / 100)) (by simp [d3]) (fun e => by have := (dig_ne _ (by omega)).1 e; omega)
/-- digits put ahead, as the document's decimal does -/
def dl (n wd : Nat) (acc : List UInt8) : List UInt8 := if 0 < n ∨ acc.length < wd then dl (n / 10) wd (dig (n % 10) :: acc) else acc
termination_by (n, wd - acc.length)
decreasing_by
  rcases Nat.eq_zero_or_pos n with e | e
  · subst e
    refine Prod.Lex.right _ ?_
    simp only [List.length_cons]
    omega
  · exact Prod.Lex.left _ _ (by omega)
theorem sec_len (ms : Int) (h0 : -9223372036854775808 ≤ ms) (h1 : ms ≤ 9223372036854775807) : (sec ms).length ≤ 25 := by
  unfold sec
  have h2 : (Lib.decDigits (ms.natAbs / 1000)).length ≤ 20 := by rw [Lib.decDigits_length]; exact Lib.nDigits_le20 _ (by omega)
  have h3 : (frac (ms.natAbs % 1000)).length ≤ 4 := by
    unfold frac
    split
    · simp
    · have := rz_len (d3 (ms.natAbs % 1000))
      simp [d3] at this ⊢
      omega
  rw [List.length_append, List.length_append]
  split <;> simp <;> omega
end T
end Go.Proofs.YteckfdohgiddgaaGreatDoor
namespace Go.Proofs
open Go.Shelf
shelf_lay LaysM.n288 Nm 288 at Tryz as Tryz.laysM288
namespace YteckfdohgiddgaaGreatDoor
open Go.RowKit
set_option linter.unusedVariables false
set_option linter.unusedSimpArgs false
theorem appU_in (B n u : Nat) (hu : u < 18446744073709551616) (v : Value) (xs : List Value) (w : World) (hown : w.ownsRow B 5 1 v n xs) (hBw : B ≤ w.heap.size) (hlim : n + 20 ≤ 140737488355328) (htab : Tbl w) :
    Calls Tryz.prog 142 #[v, .int .u64 u, .int .i64 10] w fun e w' => ∃ v', e = .returned v' ∧ w'.ownsRow B 5 1 v' (n + (Lib.decDigits u).length) (xs ++ cellsB (Lib.decDigits u)) ∧ Below B w w' := by
  by_cases c : u < 100
  · have h : Calls Tryz.prog 142 #[v, .int .u64 u, .int .i64 10] w fun e w' => ∃ v', e = .returned v' ∧ w'.ownsRow B 5 1 v' (n + (Lib.decDigits u).length) (xs ++ Lib.byteCells (Lib.decDigits u)) ∧ Below B w w' ∧ Lib.OthersKept 5 none w w' := Any.internal_strconv_AppendUint_10_small Tryz.laysM288 B n u c v xs w hown hBw hlim
    refine h.mono ?_
    rintro e w' ⟨v', rfl, h1, h2, _⟩
    exact ⟨v', rfl, h1, h2⟩
  · have h : Calls Tryz.prog 142 #[v, .int .u64 u, .int .i64 10] w fun e w' => ∃ v', e = .returned v' ∧ w'.ownsRow B 5 1 v' (n + (Lib.decDigits u).length) (xs ++ Lib.byteCells (Lib.decDigits u)) ∧ Below B w w' ∧ Lib.OthersKept 5 none w w' := Any.internal_strconv_AppendUint_10_big Tryz.laysM288 B n u (by omega) hu v xs w hown hBw hlim htab.u
    refine h.mono ?_
    rintro e w' ⟨v', rfl, h1, h2, _⟩
    exact ⟨v', rfl, h1, h2⟩
theorem appU_any (B n u : Nat) (hu : u < 18446744073709551616) (v : Value) (xs : List Value) (w : World) (hown : w.ownsRow B 5 1 v n xs) (hBw : B ≤ w.heap.size) (hlim : n + 20 ≤ 140737488355328) (htab : Tbl w) :
    Calls Tryz.prog 84 #[v, .int .u64 u, .int .i64 10] w fun e w' => ∃ v', e = .returned v' ∧ w'.ownsRow B 5 1 v' (n + (Lib.decDigits u).length) (xs ++ cellsB (Lib.decDigits u)) ∧ Below B w w' := by
  have HO := hd hown
  have HT := hd htab
  clear hown htab
  go_enter Tryz.func84, Tryz.ntmps84
  go_wp2_with (go_at_call 142; refine (appU_in B n u hu v xs _ HO.o hBw hlim HT.o).mono ?_; rintro e w2 ⟨v2, rfl, h1, h2⟩; have H1 := hd h1; have H2 := hd h2; clear h1 h2)
  go_ret
  exact ⟨v2, rfl, H1.o, H2.o⟩
theorem IsL.last {w : World} {A : Option Addr} {n m c : Nat} {l : List UInt8} {x : UInt8} (h : IsL 1 w (.slice A n c) m (cellsB (l ++ [x]))) :
    ∃ b off, A = some ⟨b, off, none⟩ ∧ b < w.heap.size ∧ w.cell? ⟨b, off + l.length, none⟩ = some (.int .u8 (x.toNat : Int)) ∧ n = l.length + 1 ∧ ∀ k, k = l.length → IsL 1 w (.slice A k c) k (cellsB l) := by
  obtain ⟨hl, A', c', e, r⟩ := h
  simp only [Value.slice.injEq] at e
  obtain ⟨rfl, rfl, rfl⟩ := e
  rw [cellsB_len, List.length_append, List.length_singleton, Nat.mul_one] at hl
  have hlen : (cellsB (l ++ [x])).length = l.length + 1 := by rw [cellsB_len]; simp
  obtain ⟨b, off, rfl, hb, hc⟩ := r.head (by omega)
  refine ⟨b, off, rfl, hb, ?_, hl.symm, fun k hk => ?_⟩
  · rw [hc l.length (by omega)]
    simp [cellsB]
  · subst hk
    refine ⟨by rw [cellsB_len, Nat.mul_one], _, _, rfl, fun k hk => ⟨b, off, rfl, ?_⟩⟩
    rw [cellsB_len] at hk
    rw [hc k (by omega)]
    have e1 : cellsB (l ++ [x]) = cellsB l ++ cellsB [x] := cellsB_app l [x]
    simp only [e1]
    rw [List.getElem_append_left]
theorem own_cap {w : World} {B : Nat} {e : TypeId} {v : Value} {n : Nat} {xs : List Value} (h : w.ownsRow B e 1 v n xs) : ∃ A c, v = .slice A n c ∧ n ≤ c := by
  rcases h.2 with ⟨rfl, rfl⟩ | ⟨g, cap, cur, rfl, _, _, h1, _⟩
  · exact ⟨none, 0, rfl, Nat.le_refl _⟩
  · exact ⟨_, cap, rfl, h1⟩
set_option maxRecDepth 100000 in
set_option maxHeartbeats 1000000 in
theorem thou_any (B r : Nat) (hr : r < 1000) (v : Value) (bs : List UInt8) (w : World) (hown : w.ownsRow B 5 1 v bs.length (cellsB bs)) (hBw : B ≤ w.heap.size) (hlim : bs.length ≤ 1000) :
    Calls Tryz.prog 85 #[v, .int .i64 (r : Int), .bool false] w fun e w' => (∃ v' m, e = .returned v' ∧ IsL 1 w' v' m (cellsB (bs ++ T.frac r))) ∧ Below B w w' := by
  have HO := hd hown
  clear hown
  by_cases h0 : r = 0
  · subst h0
    go_enter Tryz.func85, Tryz.ntmps85
    go_wp2
    go_ret
    exact ⟨⟨v, bs.length, rfl, by rw [show T.frac 0 = [] from rfl, List.append_nil]; exact IsL.own HO.o⟩, Below.refl _ _⟩
  · have hrI : ((r : Int) == 0) = false := by rw [beq_eq_false_iff_ne]; omega
    have HF : Hd (T.frac r = 46 :: T.rz (T.d3 r)) := hd (by unfold T.frac; rw [if_neg h0])
    have HNE : Hd (T.rz (T.d3 r) ≠ []) := hd (T.rz_d3 r (by omega) hr)
    have HC : Hd ((#[.int .u8 46, .int .u8 (48 + (r : Int) / 100), .int .u8 (48 + (r : Int) / 10 % 10), .int .u8 (48 + (r : Int) % 10)] : Array Value).toList = cellsB (46 :: T.d3 r)) := hd (by
      unfold T.d3 T.dig cellsB
      simp
      omega)
    generalize hds : T.d3 r = ds at *
    have hdl : ds.length = 3 := by rw [← hds]; rfl
    go_enter Tryz.func85, Tryz.ntmps85
    go_wp2_with (at_builtin; refine wpList_app_lit 32 5 (.int .u8 0) 1 1 Tryz.underlying32 info_u8f rfl (by decide) rfl _ _ rfl B v bs.length (cellsB bs) w #[.int .u8 46, .int .u8 (48 + (r : Int) / 100), .int .u8 (48 + (r : Int) / 10 % 10), .int .u8 (48 + (r : Int) % 10)] 4 rfl rfl HO.o rfl (by simp [Value.oneCell']) (by omega) (by omega) hBw ?_)
    intro v2 w2 ho2 hg2
    have HB2 := hd ((Below.refl B w).grown hg2 hBw (fun g hg => (HO.o.lt g hg).1))
    rw [HC.o, ← cellsB_app] at ho2
    have HI : Hd (IsL 1 w2 v2 (bs.length + 4) (cellsB (bs ++ 46 :: ds))) := hd (IsL.own ho2)
    obtain ⟨A0, cap, rfl, hcap⟩ := own_cap ho2
    clear ho2 hg2 hds
    go_wp2
    go_loopw [0] (fun v wr => ∃ (cs : List UInt8) (A : Option Addr), v = .slice A (bs.length + 1 + cs.length) cap ∧ cs.length ≤ 3 ∧ Hd (T.rz cs = T.rz ds) ∧ Hd (IsL 1 w2 (.slice A (bs.length + 1 + cs.length) cap) (bs.length + 1 + cs.length) (cellsB (bs ++ 46 :: cs))) ∧ wr = w2) (fun v _ => match v with | .slice _ n _ => n | _ => 0)
    case atStart => exact ⟨ds, A0, by rw [hdl], by omega, hd rfl, by rw [hdl]; exact HI, rfl⟩
    case round =>
      clear HI
      obtain ⟨cs, A, rfl, hc3, HR, HI, rfl⟩ := hrel
      have hcne : cs ≠ [] := fun e => HNE.o (by rw [← HR.o, e]; rfl)
      obtain ⟨l, x, rfl⟩ : ∃ l x, cs = l ++ [x] := ⟨cs.dropLast, cs.getLast hcne, (List.dropLast_concat_getLast hcne).symm⟩
      have hI := HI.o
      rw [show bs ++ 46 :: (l ++ [x]) = (bs ++ 46 :: l) ++ [x] by simp] at hI
      obtain ⟨b, off, rfl, hbl, c0, hn, hP⟩ := hI.last
      have hll : (bs ++ 46 :: l).length = bs.length + 1 + l.length := by simp; omega
      rw [hll] at c0 hP
      have hxl : (l ++ [x]).length = l.length + 1 := by simp
      rw [hxl] at hc3 ⊢
      have HP := hd (hP _ rfl)
      clear hI hP hcne
      by_cases h48 : x = 48
      · have HR2 : Hd (T.rz l = T.rz ds) := hd (by rw [← HR.o, h48, T.rz_nought])
        subst h48
        have c1 : wr.cell? ⟨b, off + (bs.length + 1 + l.length), none⟩ = some (.int .u8 48) := c0
        have hNc : bs.length + 1 + l.length ≤ cap := by omega
        clear c0 HR hn hxl hll HI hcap
        generalize hN : bs.length + 1 + l.length = N at *
        rw [show bs.length + 1 + (l.length + 1) = N + 1 by omega]
        go_wp2
        go_roundw
        case rel => exact ⟨l, _, by rw [hN], by omega, HR2, by rw [hN]; exact HP, trivial⟩
        case measure => simp
      · have HE : Hd (T.rz ds = l ++ [x]) := hd (by rw [← HR.o, T.rz_end h48])
        have hx : ((x.toNat : Int) == 48) = false := by
          rw [beq_eq_false_iff_ne]
          intro e
          exact h48 (UInt8.toNat.inj (show x.toNat = 48 by omega))
        have HQ : Hd (IsL 1 wr (.slice (some ⟨b, off, none⟩) (bs.length + 1 + (l.length + 1)) cap) (bs.length + 1 + (l.length + 1)) (cellsB (bs ++ T.frac r))) := hd (by
          rw [HF.o, HE.o, ← hxl]
          exact HI.o)
        clear HI HR hn hxl hll hcap HC
        generalize hN : bs.length + 1 + l.length = N at *
        have hN1 : bs.length + 1 + (l.length + 1) = N + 1 := by omega
        rw [hN1] at HQ ⊢
        go_wp2
        go_ret
        exact ⟨⟨_, _, rfl, HQ.o⟩, HB2.o⟩
set_option maxRecDepth 100000 in
set_option maxHeartbeats 1000000 in
theorem sec_pos (n : Nat) (hn : n < 9223372036854775808) (w : World) (hT : Tbl w) :
    Calls Tryz.prog 44 #[.int .i64 (n : Int)] w fun e w' => e = .returned (.string ⟨(Lib.decDigits (n / 1000) ++ T.frac (n % 1000)).toArray⟩) ∧ Below w.heap.size w w' := by
  have HT := hd hT
  have HQ : Hd (n / 1000 < 18446744073709551616) := hd (by omega)
  have HR : Hd (n % 1000 < 1000) := hd (by omega)
  have hlen : (Lib.decDigits (n / 1000)).length ≤ 20 := by rw [Lib.decDigits_length]; exact Lib.nDigits_le20 _ HQ.o
  have hq : (n : Int) / 1000 = ((n / 1000 : Nat) : Int) := by omega
  have hr : (n : Int) % 1000 = ((n % 1000 : Nat) : Int) := by omega
  have hr3 : n % 1000 < 1000 := HR.o
  have wq : IntKind.u64.wrap ((n / 1000 : Nat) : Int) = ((n / 1000 : Nat) : Int) := by rw [IntKind.wrap_u64]; omega
  have hnI : ¬ (n : Int) < 0 := by omega
  have w0 : IntKind.u64.wrap (n : Int) = (n : Int) := by rw [IntKind.wrap_u64]; omega
  have HO0 : Hd (w.ownsRow w.heap.size 5 1 (.slice none 0 0) 0 []) := hd ⟨rfl, .inl ⟨rfl, rfl⟩⟩
  clear hT hn
  generalize n / 1000 = q at *
  generalize n % 1000 = r at *
  go_enter Tryz.func44, Tryz.ntmps44
  go_wp2_with (first
    | (go_at_call 84; refine (appU_any w.heap.size 0 q HQ.o _ [] _ HO0.o (Nat.le_refl _) (by omega) HT.o).mono ?_; rintro e w2 ⟨v2, rfl, h1, h2⟩; rw [List.nil_append, Nat.zero_add] at h1; have H1 := hd h1; have H2 := hd h2; clear h1 h2)
    | (go_at_call 85; refine (thou_any w.heap.size r HR.o v2 (Lib.decDigits q) _ H1.o H2.o.size (by omega)).mono ?_; rintro e w3 ⟨⟨v3, m3, rfl, h3⟩, hb3⟩; have hcv := conv_u8 h3; have H3 := hd (H2.o.trans hb3); clear h3 hb3))
  go_ret
  exact ⟨rfl, H3.o⟩
set_option maxRecDepth 100000 in
set_option maxHeartbeats 1000000 in
theorem sec_neg (n : Nat) (hn : n ≤ 9223372036854775808) (hn0 : 0 < n) (w : World) (hT : Tbl w) :
    Calls Tryz.prog 44 #[.int .i64 (-(n : Int))] w fun e w' => e = .returned (.string ⟨(45 :: (Lib.decDigits (n / 1000) ++ T.frac (n % 1000))).toArray⟩) ∧ Below w.heap.size w w' := by
  have HT := hd hT
  have HQ : Hd (n / 1000 < 18446744073709551616) := hd (by omega)
  have HR : Hd (n % 1000 < 1000) := hd (by omega)
  have hlen : (Lib.decDigits (n / 1000)).length ≤ 20 := by rw [Lib.decDigits_length]; exact Lib.nDigits_le20 _ HQ.o
  have hq : (n : Int) / 1000 = ((n / 1000 : Nat) : Int) := by omega
  have hr : (n : Int) % 1000 = ((n % 1000 : Nat) : Int) := by omega
  have hr3 : n % 1000 < 1000 := HR.o
  have wq : IntKind.u64.wrap ((n / 1000 : Nat) : Int) = ((n / 1000 : Nat) : Int) := by rw [IntKind.wrap_u64]; omega
  have hnI : -(n : Int) < 0 := by omega
  obtain ⟨y, hy⟩ : ∃ y : Nat, y = 18446744073709551616 - n := ⟨_, rfl⟩
  have w0 : IntKind.u64.wrap (-(n : Int)) = (y : Int) := by rw [IntKind.wrap_u64]; omega
  have w1 : IntKind.u64.wrap (-(y : Int)) = (n : Int) := by rw [IntKind.wrap_u64]; omega
  have HO0 : Hd (w.ownsRow w.heap.size 5 1 (.slice none 0 0) 0 []) := hd ⟨rfl, .inl ⟨rfl, rfl⟩⟩
  clear hT hn hy
  generalize n / 1000 = q at *
  generalize n % 1000 = r at *
  go_enter Tryz.func44, Tryz.ntmps44
  go_wp2_with (at_builtin; refine wpList_app_lit 32 5 (.int .u8 0) 1 1 Tryz.underlying32 info_u8f rfl (by decide) rfl _ _ rfl w.heap.size (.slice none 0 0) 0 [] w #[.int .u8 45] 1 rfl rfl HO0.o rfl (by simp [Value.oneCell']) (by omega) (by omega) (Nat.le_refl _) ?_)
  intro v1 w1' ho1 hg1
  have HB1 := hd ((Below.refl w.heap.size w).grown hg1 (Nat.le_refl _) (fun g hg => (HO0.o.lt g hg).1))
  have HO1 : Hd (w1'.ownsRow w.heap.size 5 1 v1 1 (cellsB [45])) := hd ho1
  clear ho1 hg1
  go_wp2_with (first
    | (go_at_call 84; refine (appU_any w.heap.size 1 q HQ.o _ (cellsB [45]) _ HO1.o HB1.o.size (by omega) (HT.o.below HB1.o)).mono ?_; rintro e w2 ⟨v2, rfl, h1, h2⟩; rw [← cellsB_app, Nat.add_comm] at h1; have H1 : Hd (w2.ownsRow w.heap.size 5 1 v2 (45 :: Lib.decDigits q).length (cellsB (45 :: Lib.decDigits q))) := hd h1; have H2 := hd (HB1.o.trans h2); clear h1 h2)
    | (go_at_call 85; refine (thou_any w.heap.size r HR.o v2 (45 :: Lib.decDigits q) _ H1.o H2.o.size (by rw [List.length_cons]; omega)).mono ?_; rintro e w3 ⟨⟨v3, m3, rfl, h3⟩, hb3⟩; have hcv := conv_u8 h3; have H3 := hd (H2.o.trans hb3); clear h3 hb3))
  go_ret
  exact ⟨rfl, H3.o⟩
theorem sec_any (ms : Int) (h0 : -9223372036854775808 ≤ ms) (h1 : ms ≤ 9223372036854775807) (w : World) (hT : Tbl w) :
    Calls Tryz.prog 44 #[.int .i64 ms] w fun e w' => e = .returned (.string ⟨(T.sec ms).toArray⟩) ∧ Below w.heap.size w w' := by
  unfold T.sec
  rcases Int.lt_or_le ms 0 with c | c
  · obtain ⟨n, rfl⟩ : ∃ n : Nat, ms = -(n : Int) := ⟨ms.natAbs, by omega⟩
    rw [if_pos c, show (-(n : Int)).natAbs = n by omega]
    exact sec_neg n (by omega) (by omega) w hT
  · obtain ⟨n, rfl⟩ : ∃ n : Nat, ms = (n : Int) := ⟨ms.natAbs, by omega⟩
    rw [if_neg (by omega), show (n : Int).natAbs = n by omega, List.nil_append]
    exact sec_pos n (by omega) w hT
end YteckfdohgiddgaaGreatDoor
end Go.Proofs
namespace Go.Proofs.YteckfdohgiddgaaGreatDoor
open Go.RowKit
set_option linter.unusedVariables false
set_option linter.unusedSimpArgs false
end Go.Proofs.YteckfdohgiddgaaGreatDoor
