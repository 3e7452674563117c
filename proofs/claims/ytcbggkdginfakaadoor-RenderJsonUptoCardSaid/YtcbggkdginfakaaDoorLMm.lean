/- The walk of weirlaw16.same. The walk of labels.With. The walks of slices.Index and slices.Contains over texts, of labels.stays and labels.Keep. copy into a block that is known whole, whatever the element's size; the walks of weirlaw16.lent and weirlaw16.whole. The walk of weirlaw16.mark. The walks of labels.Keep and of weirref16.Keep. The walk of weirlaw16.apart: lists of labels that share no memory. -/
import Derived.Test.YtcbggkdginfakaaDoorLBase
import Derived.Deep.QuietTactic
import Derived.BigQuiet
import Derived.Test.YtcbggkdginfakaaDoorBk
import Derived.Test.YtcbggkdginfakaaDoorBase4
namespace Go.Proofs.YtcbggkdginfakaaDoor
open Go.RowKit
set_option linter.unusedVariables false
set_option linter.unusedSimpArgs false
theorem bytes_ne {a b : ByteArray} (h : a ≠ b) : (a.toList == b.toList) = false := by
  rw [beq_eq_false_iff_ne]
  intro e
  apply h
  rw [ByteArray.toList_eq, ByteArray.toList_eq] at e
  exact ByteArray.ext (Array.toList_inj.1 e)
theorem label_eq (w : World) (a b c d : ByteArray) : (Op.equalIn 10000 77 (.agg #[.string a, .string b]) (.agg #[.string c, .string d])).run Tryd.prog w = .ok (a.toList == c.toList && b.toList == d.toList) w := by
  have ht : Tryd.prog.underlying 77 = some (.struct (Tryd.prog.fieldsOf 77)) := by unfold Program.fieldsOf; rw [Tryd.underlying77]
  have hp : Tryd.prog.stoodInHeld 77 = false := by kernel_rfl
  have hs := Tryd.underlying9
  rw [run_equalIn_agg w 9999 _ _ _ ht hp]
  unfold Program.fieldsOf
  rw [Tryd.underlying77]
  have h1 := run_equalIn_string (P := Tryd.prog) w 9998 9 a c hs
  have h2 := run_equalIn_string (P := Tryd.prog) w 9998 9 b d hs
  simp [Op.eqFields, part, isAgg, run_underlying hs, h1, h2]
  by_cases h3 : a.toList = c.toList
  · by_cases h4 : b.toList = d.toList
    · rw [if_pos h3, if_pos h4]; simp [h3, h4]
    · rw [if_pos h3, if_neg h4]; simp [h3, h4]
  · rw [if_neg h3]; simp [h3]
theorem toList_inj {a b : ByteArray} : a.toList = b.toList ↔ a = b := by
  constructor
  · intro h
    rw [ByteArray.toList_eq, ByteArray.toList_eq] at h
    exact ByteArray.ext (Array.toList_inj.1 h)
  · intro h; rw [h]
theorem lab_ne (x y : Lb) : (x.1.toList == y.1.toList && x.2.toList == y.2.toList) = decide (x = y) := by
  obtain ⟨a, b⟩ := x
  obtain ⟨c, d⟩ := y
  rw [Bool.eq_iff_iff]
  simp [toList_inj]
end Go.Proofs.YtcbggkdginfakaaDoor
namespace Go.Proofs.YtcbggkdginfakaaDoor
open Go.RowKit
set_option linter.unusedVariables false
set_option linter.unusedSimpArgs false
namespace L
/-- a > b as the walk has it, where a and b differ -/
def gt (a b : ByteArray) : Bool := !(Op.bytesLess a.toList b.toList)
def withGo (n v : ByteArray) : Bool → List Lb → List Lb
  | put, [] => if put then [] else [(n, v)]
  | put, x :: r => if x.1 = n then withGo n v put r else if put = false ∧ gt x.1 n = true then (n, v) :: x :: withGo n v true r else x :: withGo n v put r
def withL (l : List Lb) (n v : ByteArray) : List Lb := withGo n v v.toList.isEmpty l
theorem withGo_len (n v : ByteArray) : ∀ (l : List Lb) (put : Bool), (withGo n v put l).length ≤ l.length + 1
  | [], put => by unfold withGo; split <;> simp
  | x :: r, put => by
    unfold withGo
    have h1 := withGo_len n v r put
    have h2 : (withGo n v true r).length ≤ r.length := withGo_true n v r
    split
    · simp; omega
    · split
      · simp; omega
      · simp; omega
where
  withGo_true (n v : ByteArray) : ∀ (l : List Lb), (withGo n v true l).length ≤ l.length
    | [] => by simp [withGo]
    | x :: r => by
      unfold withGo
      have := withGo_true n v r
      split
      · simp; omega
      · simp; omega
end L
theorem info_label : (Tryd.prog.info? 77).map (fun i => (i.zero, i.size, i.bytes)) = some (some (.agg #[.string ⟨#[]⟩, .string ⟨#[]⟩]), 2, 32) := by kernel_rfl
end Go.Proofs.YtcbggkdginfakaaDoor
namespace Go.Proofs.YtcbggkdginfakaaDoor
open Go.RowKit
set_option linter.unusedVariables false
set_option linter.unusedSimpArgs false
def cellsS (l : List ByteArray) : List Value := l.map Value.string
theorem cellsS_len (l : List ByteArray) : (cellsS l).length = l.length := by simp [cellsS]
theorem strs_at {w : World} {A : Option Addr} {n c : Nat} {l : List ByteArray} (h : IsL 1 w (.slice A n c) n (cellsS l)) (i : Nat) (hi : i < l.length) :
    ∃ b off, A = some ⟨b, off, none⟩ ∧ b < w.heap.size ∧ w.cell? ⟨b, off + i, none⟩ = some (.string l[i]) := by
  obtain ⟨hl, A', c', e, r⟩ := h
  simp only [Value.slice.injEq, true_and] at e
  obtain ⟨rfl, _⟩ := e
  obtain ⟨b, off, rfl, hb, hc⟩ := r.head (by rw [cellsS_len]; omega)
  refine ⟨b, off, rfl, hb, ?_⟩
  rw [hc i (by rw [cellsS_len]; exact hi)]
  simp [cellsS]
theorem strs_len {w : World} {v : Value} {n : Nat} {l : List ByteArray} (h : IsL 1 w v n (cellsS l)) : l.length = n := by
  have := h.1; rw [cellsS_len] at this; omega
namespace L
def idx (x : ByteArray) : Nat → List ByteArray → Int
  | _, [] => -1
  | k, y :: r => if x = y then (k : Int) else idx x (k + 1) r
def isIn (x : ByteArray) : List ByteArray → Bool
  | [] => false
  | y :: r => if x = y then true else isIn x r
theorem isIn_iff (x : ByteArray) : ∀ l : List ByteArray, isIn x l = true ↔ x ∈ l
  | [] => by simp [isIn]
  | y :: r => by
    unfold isIn
    by_cases h : x = y
    · rw [if_pos h]; simp [h]
    · rw [if_neg h, isIn_iff x r]; simp [h]
theorem idx_mem (x : ByteArray) : ∀ (l : List ByteArray) (k : Nat), decide (0 ≤ idx x k l) = isIn x l
  | [], k => by simp [idx, isIn]
  | y :: r, k => by
    unfold idx isIn
    by_cases h : x = y
    · rw [if_pos h, if_pos h]; simp
    · rw [if_neg h, if_neg h, idx_mem x r (k + 1)]
theorem idx_bd (x : ByteArray) : ∀ (l : List ByteArray) (k : Nat), -1 ≤ idx x k l ∧ idx x k l < (k + l.length + 1 : Nat)
  | [], k => by simp [idx]; omega
  | y :: r, k => by
    unfold idx
    have := idx_bd x r (k + 1)
    split
    · simp; omega
    · simp at this ⊢; omega
def metric : ByteArray := ⟨#[95, 95, 110, 97, 109, 101, 95, 95]⟩
def stays (name : ByteArray) (names : List ByteArray) (without : Bool) : Bool :=
  if without then decide (name ≠ metric) && !isIn name names else isIn name names
def keepL (l : List Lb) (names : List ByteArray) (without : Bool) : List Lb := l.filter fun x => stays x.1 names without
end L
end Go.Proofs.YtcbggkdginfakaaDoor
namespace Go.Proofs.YtcbggkdginfakaaDoor
open Go.RowKit
set_option linter.unusedVariables false
set_option linter.unusedSimpArgs false
theorem Bk.isLN {w : World} {g : Nat} {e : TypeId} {L : List Value} (h : Bk w g e L) (size n c : Nat) (hn : n * size ≤ L.length) : IsL size w (.slice (some ⟨g, 0, none⟩) n c) n (L.take (n * size)) := by
  refine ⟨by rw [List.length_take]; omega, _, c, rfl, fun k hk => ⟨g, 0, rfl, ?_⟩⟩
  rw [List.length_take] at hk
  rw [Nat.zero_add, h.cell k (by omega), List.getElem_take]
section
variable {P : Program}
theorem run_copy_any (w : World) (dT sT ty e : TypeId) (size : Nat) (hu : P.underlying dT = some (.slice e)) (hs : (P.info? e).map (·.size) = some size) (hsz : 0 < size)
    (g dLen dCap : Nat) (L : List Value) (hg : Bk w g e L) (x : Value) (m : Nat) (news : List Value) (hx : IsL size w x m news) (hm : m ≤ dLen) (hfit : news.length ≤ L.length) (h1 : ∀ v ∈ news, v.oneCell' = true) :
    ∃ w', (Builtin.copy_ #[dT, sT] ty #[.slice (some ⟨g, 0, none⟩) dLen dCap, x]).run P w = .ok (goInt m) w' ∧ Bk w' g e (news ++ L.drop news.length) ∧ w.grownBy w' (some g) := by
  obtain ⟨hl, A, c, rfl, hr⟩ := hx
  have hmin : Nat.min m dLen = m := Nat.min_eq_left hm
  cases hq : P.info? e with
  | none => simp [hq] at hs
  | some i =>
    have hi : i.size = size := by simpa [hq] using hs
    cases A with
    | none =>
      have h0 : news = [] := by
        cases news with
        | nil => rfl
        | cons u r => obtain ⟨_, _, e, _⟩ := hr 0 (by simp); cases e
      subst h0
      have hm0 : m = 0 := by
        rcases Nat.eq_zero_or_pos m with h | h
        · exact h
        · have := Nat.mul_pos h hsz
          simp at hl
          omega
      subst hm0
      refine ⟨w, ?_, by simpa using hg, World.grownBy.refl w _⟩
      simp [Builtin.copy_, run_underlying hu, Builtin.lenOf, Builtin.firstCells, sizeOf, typeInfo, hq, storeCells]
    | some ad =>
      have hnews : ∀ j u, news[j]? = some u → w.cell? (ad.add j) = some u := by
        intro j u hj
        obtain ⟨hj1, rfl⟩ := List.getElem?_eq_some_iff.1 hj
        obtain ⟨b, off, he, _, hc⟩ := hr.head (by omega)
        obtain rfl : ad = ⟨b, off, none⟩ := by simpa using he
        rw [add_plain]; exact hc j hj1
      have hf := run_firstCells_some (P := P) w size m ad m c news hl hnews
      have hst := run_storeCells_at P g 0 e news 0 L.toArray w hg (by simpa using hfit) h1
      refine ⟨w.setRow g (news ++ L.drop news.length).toArray, ?_, setRow_heap w g L.toArray _ e _ hg, ⟨rfl, rfl, rfl, by simp [World.setRow], fun k _ hk => setRow_other w g k _ (fun e => hk (by simp [e]))⟩⟩
      simp only [Nat.add_zero, List.take_zero, List.nil_append, Nat.zero_add] at hst
      simp [Builtin.copy_, run_underlying hu, Builtin.lenOf, sizeOf, typeInfo, hq, hi, hmin, hf, hst]
theorem wpList_copy_any {ops : Array Oper} {rest : List Oper} {o : Oper} {a : Act} {Q : Exit → Act → World → Prop} (w : World) (dT sT e : TypeId) (size : Nat) (hu : P.underlying dT = some (.slice e)) (hs : (P.info? e).map (·.size) = some size) (hsz : 0 < size)
    (hgd : o.guard = none) (d s : Operand) (ho : o.op = .call { callee := .builtin .copy, args := #[d, s], argTypes := #[dT, sT] })
    (g dLen dCap : Nat) (L : List Value) (hd' : a.eval d = .slice (some ⟨g, 0, none⟩) dLen dCap) (hg : Bk w g e L) (x : Value) (hx' : a.eval s = x) (m : Nat) (news : List Value) (hx : IsL size w x m news) (hm : m ≤ dLen) (hfit : news.length ≤ L.length) (h1 : ∀ v ∈ news, v.oneCell' = true)
    (h : ∀ w', Bk w' g e (news ++ L.drop news.length) → w.grownBy w' (some g) → wpList P ops Q rest (a.put o.dst (goInt m)) w') : wpList P ops Q (o :: rest) a w := by
  refine wpList_plain hgd fun K hK => ?_
  obtain ⟨w', hrun, h2, h3⟩ := run_copy_any (P := P) w dT sT o.type e size hu hs hsz g dLen dCap L hg x m news hx hm hfit h1
  unfold Oper.wp
  simp [execOp, ho, resolve, invoke, builtin, hd', hx', hrun, Result.andThen]
  exact hK _ _ (h w' h2 h3)
end
theorem Bk.of_ownN {w : World} {g : Nat} {e : TypeId} {L : List Value} {B m size : Nat} (h : w.ownsRow B e size (.slice (some ⟨g, 0, none⟩) m m) m L) : Bk w g e L := by
  rcases h.2 with ⟨h', _⟩ | ⟨g', cap, cur, h', _, hg, _, _, hcs, ht⟩
  · simp at h'
  · simp only [Value.slice.injEq, Option.some.injEq, Addr.mk.injEq, and_true, true_and] at h'
    obtain ⟨rfl, rfl⟩ := h'
    have : cur.toList = L := by rw [← ht, List.take_of_length_le (by simp; omega)]
    unfold Bk
    rw [hg, ← this]
theorem cellsL_set : ∀ (M : List Lb) (i : Nat) (x y : ByteArray), ((cellsL M).set (i * 2) (.string x)).set (i * 2 + 1) (.string y) = cellsL (M.set i (x, y))
  | [], i, x, y => by simp [cellsL]
  | z :: M, 0, x, y => by simp [cellsL]
  | z :: M, i + 1, x, y => by
    rw [cellsL_cons, show (i + 1) * 2 = i * 2 + 1 + 1 by omega, List.set_cons_succ, List.set_cons_succ, List.set_cons_succ, List.set_cons_succ, cellsL_set M i x y]
    rfl
theorem cellsL_ext {l m : List Value} (k : Nat) (h1 : l.length = k * 2) (h2 : m.length = k * 2) (h : ∀ i, i < k → l[i * 2]? = m[i * 2]? ∧ l[i * 2 + 1]? = m[i * 2 + 1]?) : l = m := by
  apply List.ext_getElem?
  intro j
  by_cases hj : j < k * 2
  · rcases Nat.mod_two_eq_zero_or_one j with e | e
    · rw [show j = (j / 2) * 2 by omega]; exact (h (j / 2) (by omega)).1
    · rw [show j = (j / 2) * 2 + 1 by omega]; exact (h (j / 2) (by omega)).2
  · rw [List.getElem?_eq_none (by omega), List.getElem?_eq_none (by omega)]
theorem made2 (k : Nat) (x y : ByteArray) : (madeCells #[.string x, .string y] (k * 2)).toList = cellsL (List.replicate k (x, y)) := by
  refine cellsL_ext k (by simp [madeCells]) (by rw [cellsL_len, List.length_replicate]) (fun i hi => ?_)
  obtain ⟨a, b⟩ := cellsL_at (List.replicate k (x, y)) i (by simpa using hi)
  rw [a, b]
  have h1 : i * 2 < k * 2 := by omega
  have h2 : i * 2 + 1 < k * 2 := by omega
  have e1 : i * 2 % 2 = 0 := by omega
  have e2 : (i * 2 + 1) % 2 = 1 := by omega
  constructor
  · simp [madeCells, h1, e1]
  · simp [madeCells, h2, e2]
def lentB : ByteArray := ⟨#[108, 101, 110, 116]⟩
def lentL (k : Nat) : List Lb := List.replicate k (lentB, lentB)
theorem sz_label : (Tryd.prog.info? 77).map (·.size) = some 2 := by kernel_rfl
end Go.Proofs.YtcbggkdginfakaaDoor
namespace Go.Proofs.YtcbggkdginfakaaDoor
open Go.RowKit
set_option linter.unusedVariables false
set_option linter.unusedSimpArgs false
def mkA (i : Nat) : ByteArray := ⟨[35, UInt8.ofNat i, UInt8.ofNat (i / 256)].toArray⟩
def mkB (k : Nat) : ByteArray := ⟨[35, UInt8.ofNat k].toArray⟩
theorem conv_at (W : World) (H k : Nat) (hH : W.heap.size = H) (bs : List UInt8) (C : Array Value) (hC : C.toList = cellsB bs) (hk : bs.length = k) (hm : k ≤ 1000) :
    (convert 35 9 (.slice (some ⟨H, 0, none⟩) k k)).run Tryd.prog (W.alloc (.cells C 5)) = .ok (.string ⟨bs.toArray⟩) (W.alloc (.cells C 5)) := by
  subst hH
  refine run_string_of _ 35 9 5 Tryd.underlying35 Tryd.underlying5 Tryd.underlying9 _ k bs (IsL.own (B := W.heap.size) (e := 5) ?_)
  have := World.ownsRow_lit (base := W.heap.size) (e := 5) (size := 1) W C k (Nat.le_refl _) (by unfold maxLen; omega) (by have := congrArg List.length hC; simp [cellsB] at this; omega)
  rw [hC] at this
  exact this
end Go.Proofs.YtcbggkdginfakaaDoor
namespace Go.Proofs.YtcbggkdginfakaaDoor
open Go.RowKit
set_option linter.unusedVariables false
set_option linter.unusedSimpArgs false
theorem L.keep_step (l : List Lb) (names : List ByteArray) (wo : Bool) (k : Nat) (h : k < l.length) (x : Lb) (hx : l[k] = x) :
    L.keepL (l.take (k + 1)) names wo = L.keepL (l.take k) names wo ++ (if L.stays x.1 names wo then [x] else []) := by
  subst hx
  unfold L.keepL
  rw [List.take_succ_eq_append_getElem h, List.filter_append, List.filter_cons, List.filter_nil]
theorem L.keep_len (l : List Lb) (names : List ByteArray) (wo : Bool) : (L.keepL l names wo).length ≤ l.length := List.length_filter_le _ _
theorem L.isIn_snoc (x y : ByteArray) : ∀ l : List ByteArray, L.isIn x (l ++ [y]) = (L.isIn x l || decide (x = y))
  | [] => by simp [L.isIn]
  | z :: r => by
    simp only [List.cons_append, L.isIn]
    by_cases h : x = z
    · rw [if_pos h, if_pos h]; simp
    · rw [if_neg h, if_neg h, L.isIn_snoc x y r]
end Go.Proofs.YtcbggkdginfakaaDoor
namespace Go.Proofs.YtcbggkdginfakaaDoor
open Go.RowKit
set_option linter.unusedVariables false
set_option linter.unusedSimpArgs false
def mkL (b i : Nat) : Lb := (mkA i, mkB b)
def q1 (n : Nat → Nat) (a : Nat) : List Lb := List.replicate (n a) (mkL 1 a)
def q2 (n : Nat → Nat) (a : Nat) : List Lb := q1 n a ++ List.replicate 16 (mkL 2 a)
def q3 (n : Nat → Nat) (a : Nat) : List Lb := q2 n a ++ List.replicate 200 (mkL 3 a)
def m200 (i : Nat) : List Lb := List.replicate 200 (mkL 3 i)
theorem q1_len (n : Nat → Nat) (a : Nat) : (q1 n a).length = n a := List.length_replicate
theorem q2_len (n : Nat → Nat) (a : Nat) : (q2 n a).length = n a + 16 := by unfold q2; rw [List.length_append, q1_len, List.length_replicate]
theorem q3_len (n : Nat → Nat) (a : Nat) : (q3 n a).length = n a + 216 := by unfold q3; rw [List.length_append, q2_len, List.length_replicate]
theorem q3_at (n : Nat → Nat) (a j : Nat) (h : j < (q3 n a).length) : (q3 n a)[j]'h = if j < n a then mkL 1 a else if j < n a + 16 then mkL 2 a else mkL 3 a := by
  have e : (q3 n a)[j]? = some ((q3 n a)[j]'h) := List.getElem?_eq_getElem h
  have hl : j < n a + 16 + 200 := by have := q3_len n a; omega
  rw [← Option.some_inj, ← e]
  unfold q3
  by_cases h2 : j < n a + 16
  · rw [List.getElem?_append_left (by rw [q2_len]; exact h2)]
    unfold q2
    by_cases h1 : j < n a
    · rw [if_pos h1, List.getElem?_append_left (by rw [q1_len]; exact h1)]
      unfold q1
      rw [List.getElem?_replicate, if_pos h1]
    · rw [if_neg h1, if_pos h2, List.getElem?_append_right (by rw [q1_len]; omega), List.getElem?_replicate, if_pos (by rw [q1_len]; omega)]
  · rw [if_neg (by omega), if_neg h2, List.getElem?_append_right (by rw [q2_len]; omega), List.getElem?_replicate, if_pos (by rw [q2_len]; omega)]
theorem q2_at (n : Nat → Nat) (a j : Nat) (h : j < (q2 n a).length) : (q2 n a)[j]'h = if j < n a then mkL 1 a else mkL 2 a := by
  have l2 := q2_len n a
  have h3 : j < (q3 n a).length := by unfold q3; rw [List.length_append]; omega
  have := q3_at n a j h3
  rw [show (if j < n a then mkL 1 a else if j < n a + 16 then mkL 2 a else mkL 3 a) = (if j < n a then mkL 1 a else mkL 2 a) from by rw [if_pos (show j < n a + 16 by omega)]] at this
  rw [← this, ← Option.some_inj, ← List.getElem?_eq_getElem, ← List.getElem?_eq_getElem]
  unfold q3
  rw [List.getElem?_append_left h]
theorem q1_at (n : Nat → Nat) (a j : Nat) (h : j < (q1 n a).length) : (q1 n a)[j]'h = mkL 1 a := List.getElem_replicate _
theorem ltake_set {l : List Lb} {x : Lb} {j : Nat} (h : l.take j = List.replicate j x) (hj : j < l.length) : (l.set j x).take (j + 1) = List.replicate (j + 1) x := by
  rw [List.take_succ_eq_append_getElem (by simpa using hj), List.getElem_set_self, List.take_set_of_le (Nat.le_refl _), h, List.replicate_succ']
theorem ltake_all {l : List Lb} {n : Nat} {x : Lb} (h : l.take n = List.replicate n x) (hl : l.length = n) : l = List.replicate n x := by
  rw [← h, List.take_of_length_le (by omega)]
theorem range_at (v : Nat → Value) (k i : Nat) (hi : i < k) : ∃ h : i < ((List.range k).map v).length, ((List.range k).map v)[i]'h = v i := ⟨by simpa using hi, by simp⟩
theorem info_sll : (Tryd.prog.info? 42).map (fun i => (i.zero, i.size, i.bytes)) = some (some (.slice none 0 0), 1, 24) := by kernel_rfl
theorem set_of_lt {α : Type} {l : List α} {i : Nat} {x : α} (h : i < l.length) : (l.set i x)[i]? = some x := by rw [List.getElem?_set_self h]
theorem Bk.set_far {w : World} {g : Nat} {e : TypeId} {L : List Value} (h : Bk w g e L) {p : Addr} (hp : g ≠ p.block) (u : Value) : Bk (w.setCell p u) g e L := (Below.heap_setCell w p u g hp).trans h
theorem updC (z : Nat → List Lb) (i : Nat) (M : List Lb) : upd (fun a => cellsL (z a)) i (cellsL M) = fun a => cellsL (upd z i M a) := by
  funext a; unfold upd; split <;> rfl
theorem own_len {w : World} {B e n : Nat} {v : Value} {M : List Lb} (h : w.ownsRow B e 2 v n (cellsL M)) : M.length = n := by have := h.1; rw [cellsL_len] at this; omega
/-- the two cells of a label in a row of the call's own -/
theorem own_at {w : World} {B e n g c : Nat} {M : List Lb} (h : w.ownsRow B e 2 (.slice (some ⟨g, 0, none⟩) n c) n (cellsL M)) (j : Nat) (hj : j < M.length) :
    w.cell? ⟨g, j * 2, none⟩ = some (.string M[j].1) ∧ w.cell? ⟨g, j * 2 + 1, none⟩ = some (.string M[j].2) ∧ w.frozen? ⟨g, j * 2, none⟩ = false ∧ w.frozen? ⟨g, j * 2 + 1, none⟩ = false := by
  have hl := own_len h
  obtain ⟨a, b⟩ := cellsL_at M j hj
  exact ⟨by rw [h.cellAt _ (by omega), a], by rw [h.cellAt _ (by omega), b], h.frozenAt _, h.frozenAt _⟩
theorem own_set {w : World} {B e n g c : Nat} {M : List Lb} (h : w.ownsRow B e 2 (.slice (some ⟨g, 0, none⟩) n c) n (cellsL M)) (j : Nat) (x y : ByteArray) :
    ((w.setCell ⟨g, j * 2, none⟩ (.string x)).setCell ⟨g, j * 2 + 1, none⟩ (.string y)).ownsRow B e 2 (.slice (some ⟨g, 0, none⟩) n c) n (cellsL (M.set j (x, y))) ∧
    w.grownBy ((w.setCell ⟨g, j * 2, none⟩ (.string x)).setCell ⟨g, j * 2 + 1, none⟩ (.string y)) (some g) := by
  obtain ⟨a, b⟩ := h.stored (j * 2) (.string x)
  obtain ⟨a', b'⟩ := a.stored (j * 2 + 1) (.string y)
  exact ⟨by rw [← cellsL_set]; exact a', b.trans b'⟩

end Go.Proofs.YtcbggkdginfakaaDoor
