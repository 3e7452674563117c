/- copy into a block that is known whole, whatever the element's size; the walks of weirlaw16.lent and weirlaw16.whole. -/
import Derived.Test.YtifaepkeoffcfaaLSame
import Derived.Test.YtifaepkeoffcfaaLWith
import Derived.Test.YtifaepkeoffcfaaBk
namespace Go.Proofs.Ytifaepkeoffcfaa
open Go.RowKit
set_option linter.unusedVariables false
set_option linter.unusedSimpArgs false
theorem Bk.isLN {w : World} {g : Nat} {e : TypeId} {L : List Value} (h : Bk w g e L) (size n c : Nat) (hn : n * size ≤ L.length) : IsL size w (.slice (some ⟨g, 0, none⟩) n c) n (L.take (n * size)) := by
  refine ⟨by rw [List.length_take]; omega, _, c, rfl, fun k hk => ⟨g, 0, rfl, ?_⟩⟩
  rw [List.length_take] at hk
  rw [Nat.zero_add, h.cell k (by omega), List.getElem_take]
section
variable {P : Program}
theorem run_copy_any (w : World) (dT sT ty e : TypeId) (size : Nat) (hu : P.underlying dT = some (.slice e)) (hs : (P.info? e).map (·.size) = some size) (hsz : 0 < size)
    (g dLen dCap : Nat) (L : List Value) (hg : Bk w g e L) (x : Value) (m : Nat) (news : List Value) (hx : IsL size w x m news) (hm : m ≤ dLen) (hfit : news.length ≤ L.length) (h1 : ∀ v ∈ news, v.oneCell' = true) :
    ∃ w', (Builtin.copy_ #[dT, sT] ty #[.slice (some ⟨g, 0, none⟩) dLen dCap, x]).run P w = .ok (goInt m) w' ∧ Bk w' g e (news ++ L.drop news.length) ∧ w.grownBy w' (some g) := by
  obtain ⟨hl, A, c, rfl, hr⟩ := hx
  have hmin : Nat.min m dLen = m := Nat.min_eq_left hm
  cases hq : P.info? e with
  | none => simp [hq] at hs
  | some i =>
    have hi : i.size = size := by simpa [hq] using hs
    cases A with
    | none =>
      have h0 : news = [] := by
        cases news with
        | nil => rfl
        | cons u r => obtain ⟨_, _, e, _⟩ := hr 0 (by simp); cases e
      subst h0
      have hm0 : m = 0 := by
        rcases Nat.eq_zero_or_pos m with h | h
        · exact h
        · have := Nat.mul_pos h hsz
          simp at hl
          omega
      subst hm0
      refine ⟨w, ?_, by simpa using hg, World.grownBy.refl w _⟩
      simp [Builtin.copy_, run_underlying hu, Builtin.lenOf, Builtin.firstCells, sizeOf, typeInfo, hq, storeCells]
    | some ad =>
      have hnews : ∀ j u, news[j]? = some u → w.cell? (ad.add j) = some u := by
        intro j u hj
        obtain ⟨hj1, rfl⟩ := List.getElem?_eq_some_iff.1 hj
        obtain ⟨b, off, he, _, hc⟩ := hr.head (by omega)
        obtain rfl : ad = ⟨b, off, none⟩ := by simpa using he
        rw [add_plain]; exact hc j hj1
      have hf := run_firstCells_some (P := P) w size m ad m c news hl hnews
      have hst := run_storeCells_at P g 0 e news 0 L.toArray w hg (by simpa using hfit) h1
      refine ⟨w.setRow g (news ++ L.drop news.length).toArray, ?_, setRow_heap w g L.toArray _ e _ hg, ⟨rfl, rfl, rfl, by simp [World.setRow], fun k _ hk => setRow_other w g k _ (fun e => hk (by simp [e]))⟩⟩
      simp only [Nat.add_zero, List.take_zero, List.nil_append, Nat.zero_add] at hst
      simp [Builtin.copy_, run_underlying hu, Builtin.lenOf, sizeOf, typeInfo, hq, hi, hmin, hf, hst]
theorem wpList_copy_any {ops : Array Oper} {rest : List Oper} {o : Oper} {a : Act} {Q : Exit → Act → World → Prop} (w : World) (dT sT e : TypeId) (size : Nat) (hu : P.underlying dT = some (.slice e)) (hs : (P.info? e).map (·.size) = some size) (hsz : 0 < size)
    (hgd : o.guard = none) (d s : Operand) (ho : o.op = .call { callee := .builtin .copy, args := #[d, s], argTypes := #[dT, sT] })
    (g dLen dCap : Nat) (L : List Value) (hd' : a.eval d = .slice (some ⟨g, 0, none⟩) dLen dCap) (hg : Bk w g e L) (x : Value) (hx' : a.eval s = x) (m : Nat) (news : List Value) (hx : IsL size w x m news) (hm : m ≤ dLen) (hfit : news.length ≤ L.length) (h1 : ∀ v ∈ news, v.oneCell' = true)
    (h : ∀ w', Bk w' g e (news ++ L.drop news.length) → w.grownBy w' (some g) → wpList P ops Q rest (a.put o.dst (goInt m)) w') : wpList P ops Q (o :: rest) a w := by
  refine wpList_plain hgd fun K hK => ?_
  obtain ⟨w', hrun, h2, h3⟩ := run_copy_any (P := P) w dT sT o.type e size hu hs hsz g dLen dCap L hg x m news hx hm hfit h1
  unfold Oper.wp
  simp [execOp, ho, resolve, invoke, builtin, hd', hx', hrun, Result.andThen]
  exact hK _ _ (h w' h2 h3)
end
theorem Bk.of_ownN {w : World} {g : Nat} {e : TypeId} {L : List Value} {B m size : Nat} (h : w.ownsRow B e size (.slice (some ⟨g, 0, none⟩) m m) m L) : Bk w g e L := by
  rcases h.2 with ⟨h', _⟩ | ⟨g', cap, cur, h', _, hg, _, _, hcs, ht⟩
  · simp at h'
  · simp only [Value.slice.injEq, Option.some.injEq, Addr.mk.injEq, and_true, true_and] at h'
    obtain ⟨rfl, rfl⟩ := h'
    have : cur.toList = L := by rw [← ht, List.take_of_length_le (by simp; omega)]
    unfold Bk
    rw [hg, ← this]
theorem cellsL_set : ∀ (M : List Lb) (i : Nat) (x y : ByteArray), ((cellsL M).set (i * 2) (.string x)).set (i * 2 + 1) (.string y) = cellsL (M.set i (x, y))
  | [], i, x, y => by simp [cellsL]
  | z :: M, 0, x, y => by simp [cellsL]
  | z :: M, i + 1, x, y => by
    rw [cellsL_cons, show (i + 1) * 2 = i * 2 + 1 + 1 by omega, List.set_cons_succ, List.set_cons_succ, List.set_cons_succ, List.set_cons_succ, cellsL_set M i x y]
    rfl
theorem cellsL_ext {l m : List Value} (k : Nat) (h1 : l.length = k * 2) (h2 : m.length = k * 2) (h : ∀ i, i < k → l[i * 2]? = m[i * 2]? ∧ l[i * 2 + 1]? = m[i * 2 + 1]?) : l = m := by
  apply List.ext_getElem?
  intro j
  by_cases hj : j < k * 2
  · rcases Nat.mod_two_eq_zero_or_one j with e | e
    · rw [show j = (j / 2) * 2 by omega]; exact (h (j / 2) (by omega)).1
    · rw [show j = (j / 2) * 2 + 1 by omega]; exact (h (j / 2) (by omega)).2
  · rw [List.getElem?_eq_none (by omega), List.getElem?_eq_none (by omega)]
theorem made2 (k : Nat) (x y : ByteArray) : (madeCells #[.string x, .string y] (k * 2)).toList = cellsL (List.replicate k (x, y)) := by
  refine cellsL_ext k (by simp [madeCells]) (by rw [cellsL_len, List.length_replicate]) (fun i hi => ?_)
  obtain ⟨a, b⟩ := cellsL_at (List.replicate k (x, y)) i (by simpa using hi)
  rw [a, b]
  have h1 : i * 2 < k * 2 := by omega
  have h2 : i * 2 + 1 < k * 2 := by omega
  have e1 : i * 2 % 2 = 0 := by omega
  have e2 : (i * 2 + 1) % 2 = 1 := by omega
  constructor
  · simp [madeCells, h1, e1]
  · simp [madeCells, h2, e2]
def lentB : ByteArray := ⟨#[108, 101, 110, 116]⟩
def lentL (k : Nat) : List Lb := List.replicate k (lentB, lentB)
theorem sz_label : (Try.prog.info? 26).map (·.size) = some 2 := by kernel_rfl
set_option maxRecDepth 100000 in
set_option maxHeartbeats 1000000 in
theorem lent_any (va : Value) (n : Nat) (l : List Lb) (w : World) (hl : IsL 2 w va n (cellsL l)) (hn : n ≤ 1099511627776) :
    Calls Try.prog 12 #[va] w fun e w' => ∃ g, e = .returned (.tuple #[.slice (some ⟨g, 0, none⟩) n (n + 40), .slice (some ⟨g, 0, none⟩) (n + 40) (n + 40)]) ∧ w.heap.size ≤ g ∧ Bk w' g 26 (cellsL (l ++ lentL 40)) ∧ Below w.heap.size w w' := by
  have hll := IsLb.len hl
  obtain ⟨A, c, rfl⟩ := hl.shape
  have HL := hd hl
  have HLL := hd hll
  clear hl hll
  go_enter Try.func12, Try.ntmps12
  go_wp2_with (at_make; refine wpList_mkn _ 23 26 (.agg #[.string ⟨#[]⟩, .string ⟨#[]⟩]) 2 32 Try.underlying23 info_label rfl _ _ rfl w.heap.size _ _ (n + 40) rfl rfl ?b1 ?b2 ?b3 ?_)
  case b1 => omega
  case b2 => omega
  case b3 => exact Nat.le_refl _
  intro w2 ho hg
  obtain ⟨g, hgG⟩ : ∃ g, g = w.heap.size := ⟨_, rfl⟩
  rw [← hgG] at ho ⊢
  have hk2 : Bk w2 g 26 (cellsL (List.replicate (n + 40) (⟨#[]⟩, ⟨#[]⟩))) := by rw [← made2]; exact Bk.of_ownN ho
  have hgw : w.heap.size ≤ g := by omega
  have HB2 : Hd (Below w.heap.size w w2) := hd (bel_grown (Below.refl _ _) hg (fun k h => by cases h))
  have HK2 := hd hk2
  clear ho hg hgG hk2
  have hsz := sz_label
  go_wp2_with (refine wpList_copy_any _ 23 23 26 2 Try.underlying23 hsz (by decide) rfl (.tmp 9) (.tmp 10) rfl g (n + 40) (n + 40) _ rfl HK2.o (.slice A n c) rfl n _ (HL.o.below HB2.o) ?h1 ?h2 ?h3 ?_)
  case h1 => omega
  case h2 => rw [cellsL_len, cellsL_len, HLL.o, List.length_replicate]; omega
  case h3 => exact cellsL_one _
  intro w3 hk3 hg3
  have HK3 : Hd (Bk w3 g 26 (cellsL (l ++ (List.replicate (n + 40) (⟨#[]⟩, ⟨#[]⟩)).drop n))) := hd <| by
    rw [cellsL_app, ← cellsL_drop]
    rw [cellsL_len, HLL.o] at hk3
    exact hk3
  have HB3 := hd (bel_grown HB2.o hg3 (fun k h => by cases h; exact hgw))
  clear hk3 hg3
  go_wp2
  go_loopw [4] (fun x wr => ∃ (i : Nat) (M : List Lb), n ≤ i ∧ i ≤ n + 40 ∧ x = .int .i64 i ∧ Hd (Bk wr g 26 (cellsL M)) ∧ Hd (M.length = n + 40) ∧ Hd (M.take n = l) ∧ Hd (∀ a, n ≤ a → a < i → M[a]? = some (lentB, lentB)) ∧ Hd (Below w.heap.size w wr)) (fun x _ => n + 40 - (intOf x).toNat)
  case atStart => exact ⟨n, _, Nat.le_refl _, by omega, rfl, HK3, hd (by rw [List.length_append, HLL.o, List.length_drop, List.length_replicate]; omega), hd (by rw [List.take_append_of_le_length (by rw [HLL.o]; exact Nat.le_refl _), List.take_of_length_le (by rw [HLL.o]; exact Nat.le_refl _)]), hd (fun a h1 h2 => by omega), HB3⟩
  case round =>
    obtain ⟨i, M, hi0, hi, rfl, hK, hL, hT, hS, hB⟩ := hrel
    by_cases hlt : i < n + 40
    · have hln := hlt
      have hz := cellsL_len M
      rw [hL.o] at hz
      have c0 := hK.o.cell (i * 2) (by omega)
      have c1 := hK.o.cell (i * 2 + 1) (by omega)
      have f0 := hK.o.frozen (i * 2)
      have f1 := hK.o.frozen (i * 2 + 1)
      generalize (cellsL M)[i * 2]'_ = old at *
      generalize (cellsL M)[i * 2 + 1]'_ = old2 at *
      clear hz
      go_wp2
      go_roundw
      case rel =>
        refine ⟨i + 1, M.set i (lentB, lentB), by omega, by omega, by go_num, hd ?_, hd (by rw [List.length_set]; exact hL.o), hd (by rw [List.take_set_of_le hi0]; exact hT.o), hd (fun a h1 h2 => ?_), hd ?_⟩
        · rw [← cellsL_set]
          exact (hK.o.set (i * 2) _).set (i * 2 + 1) _
        · by_cases hai : a = i
          · subst hai; exact List.getElem?_set_self (by rw [hL.o]; exact hln)
          · rw [List.getElem?_set_ne (Ne.symm hai)]; exact hS.o a h1 (by omega)
        · exact (hB.o.setCell (p := ⟨g, i * 2, none⟩) hgw _).setCell (p := ⟨g, i * 2 + 1, none⟩) hgw _
      case measure => simp [intOf]; omega
    · have hin : i = n + 40 := by omega
      have HM : Hd (M = l ++ lentL 40) := hd <| by
        apply List.ext_getElem?
        intro j
        by_cases h1 : j < n
        · rw [List.getElem?_append_left (by rw [HLL.o]; exact h1), ← hT.o, List.getElem?_take, if_pos h1]
        · rw [List.getElem?_append_right (by rw [HLL.o]; omega)]
          unfold lentL
          rw [List.getElem?_replicate]
          by_cases h2 : j < n + 40
          · rw [hS.o j (by omega) (by omega), if_pos (by rw [HLL.o]; omega)]
          · rw [List.getElem?_eq_none (by rw [hL.o]; omega), if_neg (by rw [HLL.o]; omega)]
      clear hin
      go_wp2
      go_ret2
      exact ⟨g, rfl, hgw, by rw [← HM.o]; exact hK.o, hB.o⟩
set_option maxRecDepth 100000 in
set_option maxHeartbeats 1000000 in
theorem whole_any (g : Nat) (va : Value) (n : Nat) (l : List Lb) (w : World) (hf : Bk w g 26 (cellsL (l ++ lentL 40))) (hl : IsL 2 w va n (cellsL l)) (hn : n ≤ 1099511627776) :
    Calls Try.prog 18 #[.slice (some ⟨g, 0, none⟩) (n + 40) (n + 40), va] w fun e w' => e = .returned (.bool true) ∧ Below w.heap.size w w' := by
  have hll := IsLb.len hl
  obtain ⟨A, c, rfl⟩ := hl.shape
  have HL := hd hl
  have HLL := hd hll
  have HF := hd hf
  have HP : Hd (IsL 2 w (.slice (some ⟨g, 0, none⟩) n (n + 40)) n (cellsL l)) := hd <| by
    have := hf.isLN 2 n (n + 40) (by rw [cellsL_len, List.length_append, hll]; omega)
    rw [cellsL_take, List.take_append_of_le_length (by omega), List.take_of_length_le (by omega)] at this
    exact this
  clear hl hll hf
  go_enter Try.func18, Try.ntmps18
  go_wp2_with (go_at_call 16; refine (lsame_any _ _ n n l l _ HP.o HL.o (by omega)).mono ?_; rintro e w2 ⟨rfl, hb2⟩; rw [show decide (l = l) = true from by simp]; have HB2 := hd hb2; clear hb2)
  go_loopw [19] (fun x wr => ∃ i : Nat, i ≤ 40 ∧ x = .int .i64 i ∧ Hd (Below w.heap.size w wr)) (fun x _ => 40 - (intOf x).toNat)
  case atStart => exact ⟨0, by omega, rfl, HB2⟩
  case round =>
    obtain ⟨i, hi, rfl, HB⟩ := hrel
    by_cases hlt : i < 40
    · have hgl := HF.o.lt
      obtain ⟨q1, q2⟩ := cellsL_at (l ++ lentL 40) (n + i) (by rw [List.length_append, HLL.o]; simp [lentL]; omega)
      have e : (l ++ lentL 40)[n + i]'(by rw [List.length_append, HLL.o]; simp [lentL]; omega) = (lentB, lentB) := by
        rw [← Option.some_inj, ← List.getElem?_eq_getElem, List.getElem?_append_right (by rw [HLL.o]; omega)]
        unfold lentL
        rw [List.getElem?_replicate, if_pos (by rw [HLL.o]; omega)]
      rw [e] at q1 q2
      obtain ⟨k1, q1⟩ := List.getElem?_eq_some_iff.1 q1
      obtain ⟨k2, q2⟩ := List.getElem?_eq_some_iff.1 q2
      have c1 := (HB.o.cell (p := ⟨g, (n + i) * 2, none⟩) hgl).trans (HF.o.cell _ k1)
      have c2 := (HB.o.cell (p := ⟨g, (n + i) * 2 + 1, none⟩) hgl).trans (HF.o.cell _ k2)
      rw [q1] at c1
      rw [q2] at c2
      rw [show (n + i) * 2 = n * 2 + i * 2 by omega] at c1 c2
      unfold lentB at c1 c2
      clear e q1 q2 k1 k2
      go_wp2
      go_roundw
      case rel => exact ⟨i + 1, by omega, by go_num, hd (HB.o.alloc HB.o.size _)⟩
      case measure => simp [intOf]; omega
    · go_wp2
      go_ret
      exact ⟨rfl, HB.o⟩
end Go.Proofs.Ytifaepkeoffcfaa
