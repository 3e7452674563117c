/- JSON values as trees: in memory, and as bytes. Plain law. The plain reader of JSON: many (lists). The plain reader of JSON: many (objects). The plain reader of JSON: value, Read. The plain reader of JSON: Read. -/
import Derived.Test.YteckfdohgiddgaaGreatDoorJVal
import Derived.Deep.AppendLies
import Derived.Laws.ResultCell
namespace Go.Proofs.YteckfdohgiddgaaGreatDoor
open Go.RowKit
set_option linter.unusedVariables false
set_option linter.unusedSimpArgs false
open RJ
inductive JT where
  | nul
  | num (s : ByteArray)
  | txt (s : ByteArray)
  | arr (l : List JT)
  | obj (ks : List ByteArray) (l : List JT)
namespace RJ
/-- a row whose block satisfies P -/
def RowP (P : Nat → Prop) (w : World) (e : TypeId) (size : Nat) (v : Value) (n : Nat) (xs : List Value) : Prop :=
  w.ownsRow 0 e size v n xs ∧ ∀ g, v.ownBlock = some g → P g
theorem RowP.keep {P P' : Nat → Prop} {w w' : World} {e : TypeId} {size : Nat} {v : Value} {n : Nat} {xs : List Value} (h : RowP P w e size v n xs) (hk : ∀ k, P k → w'.heap[k]? = w.heap[k]?) (hp : ∀ k, P k → P' k) : RowP P' w' e size v n xs := by
  refine ⟨⟨h.1.1, ?_⟩, fun g hg => hp g (h.2 g hg)⟩
  rcases h.1.2 with hn | ⟨g, cap, cur, rfl, hB, hg, rest⟩
  · exact .inl hn
  · exact .inr ⟨g, cap, cur, rfl, hB, (hk g (h.2 g rfl)).trans hg, rest⟩
theorem RowP.shape {P : Nat → Prop} {w : World} {e : TypeId} {size : Nat} {v : Value} {n : Nat} {xs : List Value} (h : RowP P w e size v n xs) : ∃ A c, v = .slice A n c := by
  rcases h.1.2 with ⟨rfl, rfl⟩ | ⟨g, cap, cur, rfl, _⟩
  · exact ⟨_, _, rfl⟩
  · exact ⟨_, _, rfl⟩
/-- t lies in memory as the four cells c; its rows lie in blocks that satisfy P -/
def Js (P : Nat → Prop) (w : World) : Nat → JT → List Value → Prop
  | 0, _, _ => False
  | _ + 1, .nul, c => c = [.int .i64 1, .string ⟨#[]⟩, .slice none 0 0, .slice none 0 0]
  | _ + 1, .num s, c => c = [.int .i64 3, .string s, .slice none 0 0, .slice none 0 0]
  | _ + 1, .txt s, c => c = [.int .i64 4, .string s, .slice none 0 0, .slice none 0 0]
  | d + 1, .arr l, c => ∃ (D : Value) (cs : List (List Value)), c = [.int .i64 5, .string ⟨#[]⟩, .slice none 0 0, D] ∧ RowP P w 80 4 D l.length (List.flatten cs) ∧ cs.length = l.length ∧ ∀ (i : Nat) (t : JT) (x : List Value), l[i]? = some t → cs[i]? = some x → Js P w d t x
  | d + 1, .obj ks l, c => ∃ (K D : Value) (cs : List (List Value)), c = [.int .i64 6, .string ⟨#[]⟩, K, D] ∧ ks.length = l.length ∧ RowP P w 9 1 K ks.length (cellsS ks) ∧ RowP P w 80 4 D l.length (List.flatten cs) ∧ cs.length = l.length ∧ ∀ (i : Nat) (t : JT) (x : List Value), l[i]? = some t → cs[i]? = some x → Js P w d t x
theorem Js.keep {P P' : Nat → Prop} {w w' : World} (hk : ∀ k, P k → w'.heap[k]? = w.heap[k]?) (hp : ∀ k, P k → P' k) : ∀ (d : Nat) (t : JT) (c : List Value), Js P w d t c → Js P' w' d t c
  | 0, _, _, h => h.elim
  | _ + 1, .nul, _, h => h
  | _ + 1, .num _, _, h => h
  | _ + 1, .txt _, _, h => h
  | d + 1, .arr l, c, h => by
    obtain ⟨D, cs, e, hr, hl, hi⟩ := h
    exact ⟨D, cs, e, hr.keep hk hp, hl, fun i t x h1 h2 => Js.keep hk hp d t x (hi i t x h1 h2)⟩
  | d + 1, .obj ks l, c, h => by
    obtain ⟨K, D, cs, e, hkl, hK, hr, hl, hi⟩ := h
    exact ⟨K, D, cs, e, hkl, hK.keep hk hp, hr.keep hk hp, hl, fun i t x h1 h2 => Js.keep hk hp d t x (hi i t x h1 h2)⟩
theorem Js.shape {P : Nat → Prop} {w : World} : ∀ {d : Nat} {t : JT} {c : List Value}, Js P w d t c → ∃ k s A n m A' n' m', c = [.int .i64 k, .string s, .slice A n m, .slice A' n' m']
  | 0, _, _, h => h.elim
  | _ + 1, .nul, _, h => ⟨_, _, _, _, _, _, _, _, h⟩
  | _ + 1, .num _, _, h => ⟨_, _, _, _, _, _, _, _, h⟩
  | _ + 1, .txt _, _, h => ⟨_, _, _, _, _, _, _, _, h⟩
  | d + 1, .arr l, c, h => by
    obtain ⟨D, cs, rfl, hr, _⟩ := h
    obtain ⟨A, m, rfl⟩ := hr.shape
    exact ⟨_, _, _, _, _, _, _, _, rfl⟩
  | d + 1, .obj ks l, c, h => by
    obtain ⟨K, D, cs, rfl, _, hK, hr, _⟩ := h
    obtain ⟨A, m, rfl⟩ := hr.shape
    obtain ⟨A', m', rfl⟩ := hK.shape
    exact ⟨_, _, _, _, _, _, _, _, rfl⟩
/-- a number's lexeme without exponent -/
def Dg (l : List UInt8) : Prop := l ≠ [] ∧ ∀ x ∈ l, isD x.toNat = true
def NumLex (b : List UInt8) : Prop := ∃ sg ip fr : List UInt8, b = sg ++ (ip ++ fr) ∧ (sg = [] ∨ sg = [45]) ∧ Dg ip ∧ (ip.head? = some 48 → ip = [48]) ∧ (fr = [] ∨ ∃ f, fr = 46 :: f ∧ Dg f)
/-- what may follow a value -/
def Fol (rest : List UInt8) : Prop := ∀ x t, rest = x :: t → x = 44 ∨ x = 93 ∨ x = 125
def tx (s : ByteArray) : List UInt8 := 34 :: s.data.toList.flatMap U.wrJ ++ [34]
/-- the bytes b tell the tree t of d levels at most -/
def Enc : Nat → List UInt8 → JT → Prop
  | 0, _, _ => False
  | _ + 1, b, .nul => b = [110, 117, 108, 108]
  | _ + 1, b, .num s => b = s.data.toList ∧ NumLex b
  | _ + 1, b, .txt s => b = tx s ∧ s.size ≤ 70368744177664 ∧ U.valid s = true
  | d + 1, b, .arr l => ∃ bs : List (List UInt8), b = 91 :: R.jn bs ++ [93] ∧ bs.length = l.length ∧ l.length ≤ 1099511627776 ∧ ∀ (i : Nat) (x : List UInt8) (t : JT), bs[i]? = some x → l[i]? = some t → Enc d x t
  | d + 1, b, .obj ks l => ∃ bs : List (List UInt8), b = 123 :: R.jn ((ks.zip bs).map fun x => tx x.1 ++ 58 :: x.2) ++ [125] ∧ bs.length = l.length ∧ ks.length = l.length ∧ l.length ≤ 1099511627776 ∧ (∀ s ∈ ks, s.size ≤ 70368744177664 ∧ U.valid s = true) ∧ ∀ (i : Nat) (x : List UInt8) (t : JT), bs[i]? = some x → l[i]? = some t → Enc d x t
def hb : List UInt8 → Nat
  | [] => 0
  | x :: _ => x.toNat
theorem pk_hb (L : List UInt8) (q : Nat) : pk L q = hb (L.drop q) := by
  cases h : L.drop q with
  | nil =>
    unfold pk
    rw [dif_neg (by have := congrArg List.length h; rw [List.length_drop] at this; simp at this; omega)]; rfl
  | cons x t => rw [(pk_drop h).1]; rfl
theorem drop_app {L a t : List UInt8} {p : Nat} (h : L.drop p = a ++ t) : L.drop (p + a.length) = t := by
  rw [← List.drop_drop, h, List.drop_left]
theorem isD_lt {c : Nat} (h : isD c = true) : 48 ≤ c ∧ c ≤ 57 := by
  unfold isD at h
  simpa using h
theorem run_of {L ds t : List UInt8} {p : Nat} (h : L.drop p = ds ++ t) (hd : Dg ds) (ht : isD (hb t) = false) : Run L p (p + ds.length) := by
  refine ⟨?_, fun i h1 h2 => ?_, ?_⟩
  · have := List.length_pos_iff.2 hd.1; omega
  · have e : L.drop i = ds.drop (i - p) ++ t := by
      have := congrArg (List.drop (i - p)) h
      rw [List.drop_drop, show p + (i - p) = i by omega, List.drop_append_of_le_length (by omega)] at this
      exact this
    rw [pk_hb, e, List.drop_eq_getElem_cons (by omega)]
    exact hd.2 _ (List.getElem_mem _)
  · rw [pk_hb, drop_app h]; exact ht
theorem fol_hb {rest : List UInt8} (h : Fol rest) : hb rest = 0 ∨ hb rest = 44 ∨ hb rest = 93 ∨ hb rest = 125 := by
  cases rest with
  | nil => exact .inl rfl
  | cons x t =>
    rcases h x t rfl with rfl | rfl | rfl
    · exact .inr (.inl rfl)
    · exact .inr (.inr (.inl rfl))
    · exact .inr (.inr (.inr rfl))
theorem hb_app {a t : List UInt8} (h : a ≠ []) : hb (a ++ t) = hb a := by
  cases a with
  | nil => exact absurd rfl h
  | cons x a => rfl
theorem dg_hb {a : List UInt8} (h : Dg a) : isD (hb a) = true := by
  cases a with
  | nil => exact absurd rfl h.1
  | cons x a => exact h.2 x (by simp)
theorem num_pos {L b rest : List UInt8} {p : Nat} (h : L.drop p = b ++ rest) (hn : NumLex b) (hf : Fol rest) : ∃ p1 p2 p3 : Nat,
    (pk L p = 45 ∨ isD (pk L p) = true) ∧ ((p1 = p + 1 ∧ pk L p = 45) ∨ (p = p1 ∧ pk L p ≠ 45)) ∧ ((p2 = p1 + 1 ∧ pk L p1 = 48) ∨ (Run L p1 p2 ∧ pk L p1 ≠ 48)) ∧
    ((p3 = p2 + 1 ∧ pk L p2 = 46 ∧ Run L p3 (p + b.length)) ∨ (p2 = p + b.length ∧ pk L p2 ≠ 46)) ∧ (pk L (p + b.length) ≠ 101 ∧ pk L (p + b.length) ≠ 69) ∧ p + b.length ≤ L.length ∧ (L.drop p).take b.length = b := by
  obtain ⟨sg, ip, fr, rfl, hs, hi, hi0, hr⟩ := hn
  have hfb := fol_hb hf
  have hnd : isD (hb rest) = false := by rcases hfb with e | e | e | e <;> rw [e] <;> decide
  have e1 : L.drop (p + sg.length) = ip ++ (fr ++ rest) := drop_app (by rw [h]; simp)
  have e2 : L.drop (p + sg.length + ip.length) = fr ++ rest := drop_app e1
  have ei := dg_hb hi
  have ei2 := isD_lt ei
  have k1 : pk L (p + sg.length) = hb ip := by rw [pk_hb, e1, hb_app hi.1]
  have hlen : p + (sg ++ (ip ++ fr)).length = p + sg.length + ip.length + fr.length := by simp [List.length_append]; omega
  have hle : p + (sg ++ (ip ++ fr)).length ≤ L.length := by
    have := congrArg List.length h
    rw [List.length_drop, List.length_append] at this
    have h2 := List.length_pos_iff.2 hi.1
    simp only [List.length_append] at this ⊢
    omega
  have kE : pk L (p + (sg ++ (ip ++ fr)).length) = hb rest := by rw [pk_hb, drop_app h]
  refine ⟨p + sg.length, p + sg.length + ip.length, p + sg.length + ip.length + 1, ?_, ?_, ?_, ?_, ?_, hle, by rw [h, List.take_left]⟩
  · rcases hs with rfl | rfl
    · exact .inr (by rw [show p = p + ([] : List UInt8).length from rfl, k1]; exact ei)
    · exact .inl (by rw [pk_hb, h]; rfl)
  · rcases hs with rfl | rfl
    · refine .inr ⟨rfl, ?_⟩
      have : pk L p = hb ip := k1
      omega
    · exact .inl ⟨rfl, by rw [pk_hb, h]; rfl⟩
  · by_cases c : pk L (p + sg.length) = 48
    · refine .inl ⟨?_, c⟩
      have hx : ip.head? = some 48 := by
        rw [k1] at c
        cases ip with
        | nil => exact absurd rfl hi.1
        | cons x t =>
          have : x.toNat = 48 := c
          have hx : x = 48 := UInt8.toNat_inj.1 this
          rw [hx]; rfl
      rw [hi0 hx]; rfl
    · refine .inr ⟨run_of e1 hi ?_, c⟩
      rcases hr with rfl | ⟨f, rfl, _⟩
      · exact hnd
      · rfl
  · rcases hr with rfl | ⟨f, rfl, hfd⟩
    · refine .inr ⟨by simp only [List.length_append, List.length_nil]; omega, ?_⟩
      rw [pk_hb, e2, List.nil_append]; omega
    · refine .inl ⟨rfl, by rw [pk_hb, e2]; rfl, ?_⟩
      have e3 : L.drop (p + sg.length + ip.length + 1) = f ++ rest := (pk_drop (x := 46) (t := f ++ rest) e2).2.2
      have := run_of e3 hfd hnd
      rw [hlen, List.length_cons]
      rw [show p + sg.length + ip.length + (f.length + 1) = p + sg.length + ip.length + 1 + f.length by omega]
      exact this
  · rw [kE]; omega
theorem jn_cons (x : List UInt8) (xs : List (List UInt8)) : R.jn (x :: xs) = x ++ xs.flatMap (44 :: ·) := by
  unfold R.jn R.cm
  rw [List.flatMap_cons]; rfl
end RJ
end Go.Proofs.YteckfdohgiddgaaGreatDoor
namespace Go.Proofs.YteckfdohgiddgaaGreatDoor
open Go.RowKit
set_option linter.unusedVariables false
set_option linter.unusedSimpArgs false
open RJ
namespace RJ
theorem enc_hb {d : Nat} {x : List UInt8} {t : JT} (h : Enc d x t) : x ≠ [] ∧ (hb x = 110 ∨ hb x = 45 ∨ isD (hb x) = true ∨ hb x = 34 ∨ hb x = 91 ∨ hb x = 123) := by
  cases d with
  | zero => exact h.elim
  | succ d =>
    cases t with
    | nul => cases h; exact ⟨by simp, .inl rfl⟩
    | num s =>
      obtain ⟨_, sg, ip, fr, rfl, hs, hi, _⟩ := h
      have hne : ip ++ fr ≠ [] := by simp [hi.1]
      rcases hs with rfl | rfl
      · rw [List.nil_append]
        refine ⟨hne, .inr (.inr (.inl ?_))⟩
        rw [hb_app hi.1]; exact dg_hb hi
      · exact ⟨by simp, .inr (.inl rfl)⟩
    | txt s => obtain ⟨rfl, _⟩ := h; exact ⟨by simp [tx], .inr (.inr (.inr (.inl rfl)))⟩
    | arr l => obtain ⟨bs, rfl, _⟩ := h; exact ⟨by simp, .inr (.inr (.inr (.inr (.inl rfl))))⟩
    | obj ks l => obtain ⟨bs, rfl, _⟩ := h; exact ⟨by simp, .inr (.inr (.inr (.inr (.inr rfl))))⟩
theorem enc_first {d : Nat} {x : List UInt8} {t : JT} (h : Enc d x t) : hb x ≠ 32 ∧ hb x ≠ 10 ∧ hb x ≠ 13 ∧ hb x ≠ 9 ∧ hb x ≠ 93 ∧ hb x ≠ 125 := by
  rcases (enc_hb h).2 with e | e | e | e | e | e
  · omega
  · omega
  · have := isD_lt e; omega
  · omega
  · omega
  · omega
/-- value reads each tree of d levels -/
def VOk (w0 : World) (r : Nat) (bv : Value) (L : List UInt8) (d : Nat) : Prop :=
  ∀ (t : JT) (b rest : List UInt8) (w : World) (p deep : Nat), Enc d b t → At w0 w r bv L p → L.drop p = b ++ rest → Fol rest → d ≤ deep → deep ≤ 100 →
    Calls Tryz.prog 76 #[.pointer (some ⟨r, 0, none⟩), .int .i64 (deep : Int)] w fun e w' => ∃ k s A n m A' n' m', e = .returned (.agg #[.int .i64 k, .string s, .slice A n m, .slice A' n' m']) ∧ Js (fun k => w.heap.size ≤ k ∧ k < w'.heap.size) w' d t [.int .i64 k, .string s, .slice A n m, .slice A' n' m'] ∧ (∃ q, L.drop q = rest ∧ q ≤ L.length ∧ At w0 w' r bv L q) ∧ Ex r w w'
theorem infoJ : (Tryz.prog.info? 80).map (fun i => (i.zero, i.size, i.bytes)) = some (some (.agg #[.int .i64 0, .string ⟨#[]⟩, .slice none 0 0, .slice none 0 0]), 4, 72) := by kernel_rfl
/-- a J made anew -/
theorem mk_bk (w : World) (a b c d : Value) : Bk (w.alloc (.cells #[a, b, c, d] 80)) w.heap.size 80 [a, b, c, d] := heap_alloc_new _ _
end RJ
section
variable {w0 w : World} {r : Nat} {bv : Value} {L : List UInt8} {p : Nat}
/-- what many has laid before it looks at the parts -/
structure RJ.Mn (w0 w W : World) (r : Nat) (bv : Value) (L : List UInt8) (q : Nat) (k : Int) (K D : Value) : Prop where
  at_ : At w0 W r bv L q
  ex : Ex r w W
  b6 : Bk W w.heap.size 80 [.int .i64 0, .string ⟨#[]⟩, .slice none 0 0, .slice none 0 0]
  b7 : Bk W (w.heap.size + 1) 80 [.int .i64 k, .string ⟨#[]⟩, K, D]
  hs : w0.heap.size ≤ w.heap.size
  hr : r < w.heap.size
theorem RJ.ent (h : At w0 w r bv L p) (k : Int) : RJ.Mn w0 w ((w.alloc (.cells #[.int .i64 0, .string ⟨#[]⟩, .slice none 0 0, .slice none 0 0] 80)).alloc (.cells #[.int .i64 k, .string ⟨#[]⟩, .slice none 0 0, .slice none 0 0] 80)) r bv L p k (.slice none 0 0) (.slice none 0 0) := by
  have B2 : Below w.heap.size w ((w.alloc (.cells #[.int .i64 0, .string ⟨#[]⟩, .slice none 0 0, .slice none 0 0] 80)).alloc (.cells #[.int .i64 k, .string ⟨#[]⟩, .slice none 0 0, .slice none 0 0] 80)) :=
    ((Below.refl _ _).alloc (Nat.le_refl _) _).alloc (by simp) _
  refine ⟨h.below B2, Ex.of_below B2, ?_, ?_, h.le, h.lt⟩
  · exact ((RJ.mk_bk _ _ _ _ _).below ((Below.refl _ _).alloc (Nat.le_refl _) _))
  · exact heap_alloc2_new _ _ _
theorem RJ.ent0 (h : At w0 w r bv L p) (k : Int) : ((w.alloc (.cells #[.int .i64 0, .string ⟨#[]⟩, .slice none 0 0, .slice none 0 0] 80)).alloc (.cells #[.int .i64 k, .string ⟨#[]⟩, .slice none 0 0, .slice none 0 0] 80)).cell? ⟨r, 1, none⟩ = some (.int .i64 (p : Int)) ∧
    ((w.alloc (.cells #[.int .i64 0, .string ⟨#[]⟩, .slice none 0 0, .slice none 0 0] 80)).alloc (.cells #[.int .i64 k, .string ⟨#[]⟩, .slice none 0 0, .slice none 0 0] 80)).frozen? ⟨r, 1, none⟩ = false := by
  have B2 : Below w.heap.size w ((w.alloc (.cells #[.int .i64 0, .string ⟨#[]⟩, .slice none 0 0, .slice none 0 0] 80)).alloc (.cells #[.int .i64 k, .string ⟨#[]⟩, .slice none 0 0, .slice none 0 0] 80)) :=
    ((Below.refl _ _).alloc (Nat.le_refl _) _).alloc (by simp) _
  exact ⟨(h.below B2).c1, (h.below B2).fz⟩
namespace RJ.Mn
variable {W W' : World} {q q' : Nat} {k : Int} {K D : Value}
theorem step (h : RJ.Mn w0 w W r bv L q k K D) (ha : At w0 W' r bv L q') (hx : Ex r W W') : RJ.Mn w0 w W' r bv L q' k K D :=
  ⟨ha, h.ex.trans hx, bk_ex h.b6 hx (by have := h.hr; omega), bk_ex h.b7 hx (by have := h.hr; omega), h.hs, h.hr⟩
theorem below (h : RJ.Mn w0 w W r bv L q k K D) (hb : Below W.heap.size W W') : RJ.Mn w0 w W' r bv L q k K D := h.step (h.at_.below hb) (Ex.of_below hb)
theorem set1 (h : RJ.Mn w0 w W r bv L q k K D) : RJ.Mn w0 w (W.setCell ⟨r, 1, none⟩ (.int .i64 ((q : Int) + 1))) r bv L (q + 1) k K D := h.step h.at_.set1 (Ex.set r W 1 _)
theorem c7 (h : RJ.Mn w0 w W r bv L q k K D) : W.cell? ⟨w.heap.size + 1, 0, none⟩ = some (.int .i64 k) ∧ W.cell? ⟨w.heap.size + 1, 1, none⟩ = some (.string ⟨#[]⟩) ∧ W.cell? ⟨w.heap.size + 1, 2, none⟩ = some K ∧ W.cell? ⟨w.heap.size + 1, 3, none⟩ = some D :=
  ⟨h.b7.cell 0 (by simp), h.b7.cell 1 (by simp), h.b7.cell 2 (by simp), h.b7.cell 3 (by simp)⟩
theorem c6 (h : RJ.Mn w0 w W r bv L q k K D) : W.cell? ⟨w.heap.size, 0, none⟩ = some (.int .i64 0) ∧ W.cell? ⟨w.heap.size, 1, none⟩ = some (.string ⟨#[]⟩) ∧ W.cell? ⟨w.heap.size, 2, none⟩ = some (.slice none 0 0) ∧ W.cell? ⟨w.heap.size, 3, none⟩ = some (.slice none 0 0) :=
  ⟨h.b6.cell 0 (by simp), h.b6.cell 1 (by simp), h.b6.cell 2 (by simp), h.b6.cell 3 (by simp)⟩
theorem f6 (h : RJ.Mn w0 w W r bv L q k K D) (j : Nat) : W.frozen? ⟨w.heap.size, j, none⟩ = false := h.b6.frozen j
theorem f7 (h : RJ.Mn w0 w W r bv L q k K D) (j : Nat) : W.frozen? ⟨w.heap.size + 1, j, none⟩ = false := h.b7.frozen j
/-- the answer laid into its cell -/
theorem out (h : RJ.Mn w0 w W r bv L q k K D) (a b c d : Value) : At w0 ((((W.setCell ⟨w.heap.size, 0, none⟩ a).setCell ⟨w.heap.size, 1, none⟩ b).setCell ⟨w.heap.size, 2, none⟩ c).setCell ⟨w.heap.size, 3, none⟩ d) r bv L q ∧
    Ex r w ((((W.setCell ⟨w.heap.size, 0, none⟩ a).setCell ⟨w.heap.size, 1, none⟩ b).setCell ⟨w.heap.size, 2, none⟩ c).setCell ⟨w.heap.size, 3, none⟩ d) ∧
    Bk ((((W.setCell ⟨w.heap.size, 0, none⟩ a).setCell ⟨w.heap.size, 1, none⟩ b).setCell ⟨w.heap.size, 2, none⟩ c).setCell ⟨w.heap.size, 3, none⟩ d) w.heap.size 80 [a, b, c, d] :=
  ⟨h.at_.belowB (RJ.st4_ex _ _ _ _ (Nat.le_refl _)) h.hs h.hr, h.ex.belowB (RJ.st4_ex _ _ _ _ (Nat.le_refl _)), RJ.st4 h.b6⟩
theorem grow (h : RJ.Mn w0 w W r bv L q k K D) (hb : Below (w.heap.size + 2) W W') : RJ.Mn w0 w W' r bv L q k K D :=
  ⟨h.at_.belowB hb (by have := h.hs; omega) (by have := h.hr; omega), h.ex.belowB (hb.mono (by omega)), (hb.block _ (by omega)).trans h.b6, (hb.block _ (by omega)).trans h.b7, h.hs, h.hr⟩
theorem setD (h : RJ.Mn w0 w W r bv L q k K D) (D' : Value) : RJ.Mn w0 w (W.setCell ⟨w.heap.size + 1, 3, none⟩ D') r bv L q k K D' :=
  ⟨h.at_.belowB ((Below.refl (w.heap.size + 1) W).setCell (p := ⟨w.heap.size + 1, 3, none⟩) (Nat.le_refl _) _) (by have := h.hs; omega) (by have := h.hr; omega), h.ex.belowB ((Below.refl w.heap.size W).setCell (p := ⟨w.heap.size + 1, 3, none⟩) (Nat.le_succ _) _),
    (Below.heap_setCell _ _ _ _ (by show _ ≠ w.heap.size + 1; omega)).trans h.b6, h.b7.set 3 D', h.hs, h.hr⟩
theorem setK (h : RJ.Mn w0 w W r bv L q k K D) (K' : Value) : RJ.Mn w0 w (W.setCell ⟨w.heap.size + 1, 2, none⟩ K') r bv L q k K' D :=
  ⟨h.at_.belowB ((Below.refl (w.heap.size + 1) W).setCell (p := ⟨w.heap.size + 1, 2, none⟩) (Nat.le_refl _) _) (by have := h.hs; omega) (by have := h.hr; omega), h.ex.belowB ((Below.refl w.heap.size W).setCell (p := ⟨w.heap.size + 1, 2, none⟩) (Nat.le_succ _) _),
    (Below.heap_setCell _ _ _ _ (by show _ ≠ w.heap.size + 1; omega)).trans h.b6, h.b7.set 2 K', h.hs, h.hr⟩
theorem size (h : RJ.Mn w0 w W r bv L q k K D) : w.heap.size + 2 ≤ W.heap.size := by have := h.b7.lt; omega
end RJ.Mn
theorem RJ.drop_of {α : Type} {bs : List α} {i : Nat} {y : α} {ys : List α} (h : bs.drop i = y :: ys) : bs.drop (i + 1) = ys := by
  rw [← List.drop_drop, h]; rfl
/-- the parts read so far -/
structure RJ.Kd (d : Nat) (w W : World) (l : List JT) (i : Nat) (D : Value) (cs : List (List Value)) : Prop where
  own : W.ownsRow (w.heap.size + 2) 80 4 D i cs.flatten
  len : cs.length = i
  tree : ∀ (j : Nat) (t : JT) (c : List Value), l[j]? = some t → cs[j]? = some c → Js (fun k => w.heap.size + 2 ≤ k ∧ k < W.heap.size ∧ D.ownBlock ≠ some k) W d t c
theorem RJ.Kd.ex {d : Nat} {w W W' : World} {l : List JT} {i r : Nat} {D : Value} {cs : List (List Value)} (h : RJ.Kd d w W l i D cs) (hx : Ex r W W') (hr : r < w.heap.size + 2) : RJ.Kd d w W' l i D cs :=
  ⟨own_ex h.own hx hr, h.len, fun j t c h1 h2 => (h.tree j t c h1 h2).keep (fun k hk => hx.block k hk.2.1 (by omega)) (fun k hk => ⟨hk.1, Nat.lt_of_lt_of_le hk.2.1 hx.size, hk.2.2⟩)⟩
theorem RJ.Kd.nil (d : Nat) (w W : World) (l : List JT) : RJ.Kd d w W l 0 (.slice none 0 0) [] := ⟨World.ownsRow_nil _ _ _ _, rfl, by simp⟩
theorem RJ.Kd.blk {d : Nat} {w W : World} {l : List JT} {i : Nat} {D : Value} {cs : List (List Value)} (h : RJ.Kd d w W l i D cs) : D.ownBlock = none ∨ ∃ g, D.ownBlock = some g ∧ g < W.heap.size := by
  cases e : D.ownBlock with
  | none => exact .inl rfl
  | some g => exact .inr ⟨g, rfl, (h.own.lt g e).2⟩
/-- a part more -/
theorem RJ.Kd.push {d : Nat} {w W' Wv : World} {l : List JT} {i : Nat} {D : Value} {cs : List (List Value)} {t : JT} {a b c e : Value} (h : RJ.Kd d w Wv l i D cs) (hi : l[i]? = some t) (B : Nat) (hB : D.ownBlock = none ∨ ∃ g, D.ownBlock = some g ∧ g < B) (hB2 : w.heap.size + 2 ≤ B)
    (ht : Js (fun k => B ≤ k ∧ k < Wv.heap.size) Wv d t [a, b, c, e]) (X Y : Obj) (g cap : Nat)
    (ho : W'.ownsRow (w.heap.size + 2) 80 4 (.slice (some ⟨g, 0, none⟩) (i + 1) cap) (i + 1) (cs.flatten ++ [a, b, c, e]))
    (hg : ((Wv.alloc X).alloc Y).grownBy W' D.ownBlock) (hgg : D.ownBlock = some g ∨ g = Wv.heap.size + 2) : RJ.Kd d w W' l (i + 1) (.slice (some ⟨g, 0, none⟩) (i + 1) cap) (cs ++ [[a, b, c, e]]) := by
  have hsz : Wv.heap.size + 2 ≤ W'.heap.size := by have := hg.size; simpa using this
  have hk : ∀ k, k < Wv.heap.size → D.ownBlock ≠ some k → W'.heap[k]? = Wv.heap[k]? := fun k h1 h2 => by
    rw [hg.block k (by simp; omega) (fun e => h2 e.symm), Below.heap_alloc _ _ _ (by simp; omega), Below.heap_alloc _ _ _ h1]
  refine ⟨by rw [List.flatten_append]; simpa using ho, by simp [h.len], fun j u x h1 h2 => ?_⟩
  by_cases hj : j < cs.length
  · rw [List.getElem?_append_left hj] at h2
    refine (h.tree j u x h1 h2).keep (fun k hk' => hk k hk'.2.1 hk'.2.2) (fun k hk' => ⟨hk'.1, by omega, ?_⟩)
    simp only [Value.ownBlock, ne_eq, Option.some.injEq]
    rintro rfl
    rcases hgg with e | e
    · exact hk'.2.2 e
    · omega
  · rw [List.getElem?_append_right (by omega)] at h2
    have hj2 : j = i := by
      have := (List.getElem?_eq_some_iff.1 h2).1
      have := h.len
      simp at *; omega
    subst hj2
    rw [h.len, Nat.sub_self] at h2
    simp only [List.getElem?_cons_zero, Option.some.injEq] at h2
    subst h2
    rw [hi] at h1
    cases h1
    refine ht.keep (fun k hk' => hk k hk'.2 ?_) (fun k hk' => ⟨by omega, by omega, ?_⟩)
    · rcases hB with e | ⟨g', e, h3⟩
      · rw [e]; simp
      · rw [e]; simp; omega
    · simp only [Value.ownBlock, ne_eq, Option.some.injEq]
      rintro rfl
      rcases hgg with e | e
      · rcases hB with e' | ⟨g', e', h3⟩
        · rw [e'] at e; cases e
        · rw [e'] at e; cases e; omega
      · omega
set_option maxHeartbeats 4000000 in
theorem jmany_nil (h : At w0 w r bv L p) (rest : List UInt8) (hL : L.drop p = 91 :: 93 :: rest) (deep d : Nat) :
    Calls Tryz.prog 132 #[.pointer (some ⟨r, 0, none⟩), .bool false, .int .i64 (deep : Int)] w fun e w' => ∃ k s A n m A' n' m', e = .returned (.agg #[.int .i64 k, .string s, .slice A n m, .slice A' n' m']) ∧ Js (fun k => w.heap.size ≤ k ∧ k < w'.heap.size) w' (d + 1) (.arr []) [.int .i64 k, .string s, .slice A n m, .slice A' n' m'] ∧ (∃ q, L.drop q = rest ∧ q ≤ L.length ∧ At w0 w' r bv L q) ∧ Ex r w w' := by
  obtain ⟨_, hp1, k2⟩ := RJ.pk_drop (x := 91) hL
  obtain ⟨k3, hp2, k4⟩ := RJ.pk_drop (x := 93) k2
  rw [show (93 : UInt8).toNat = 93 from rfl] at k3
  have HM := hd (RJ.ent h 5).set1
  have HP := hd hp2
  have HQ := hd k4
  obtain ⟨cc, fz⟩ := RJ.ent0 h 5
  have HN := hd (show ¬ (w.heap.size + 1 = r) ∧ ¬ (r = w.heap.size + 1) ∧ ¬ (w.heap.size = r) ∧ ¬ (r = w.heap.size) by have := h.lt; omega)
  have hw := h.wr hp1
  have hw2 : IntKind.i64.wrap ((p : Int) + 1 + 1) = (p : Int) + 1 + 1 := by
    have := (h.set1).wr hp2
    rw [Int.natCast_add] at this; exact this
  clear h hL k2 k4 hp1 hp2
  go_enter Tryz.func132, Tryz.ntmps132
  go_wp2_with (first
    | (go_at_call 77; refine (jblanks_any HM.o.at_ (by rw [k3]; decide)).mono ?_; rintro e w1 ⟨rfl, hb1⟩; replace HM := hd (HM.o.below hb1); clear hb1)
    | (go_at_call 129; refine (jpeek_any HM.o.at_).mono ?_; rintro e w2 ⟨rfl, hb1⟩; rw [k3]; replace HM := hd (HM.o.below hb1); have cd := HM.o.at_.c1; have fd := HM.o.at_.fz; have f6 := HM.o.f6; have f7 := HM.o.f7; obtain ⟨e0, e1, e2, e3⟩ := HM.o.c7; obtain ⟨g0, g1, g2, g3⟩ := HM.o.c6; obtain ⟨n1, n2, n3, n4⟩ := HN.o; clear hb1))
  have HZ := hd (HM.o.set1.out (.int .i64 5) (.string ⟨#[]⟩) (.slice none 0 0) (.slice none 0 0))
  refine bodyPost_ret (RJ.res4 rfl _ rfl HZ.o.2.2) rfl ?_
  exact ⟨_, _, _, _, _, _, _, _, rfl, ⟨.slice none 0 0, [], rfl, ⟨World.ownsRow_nil _ _ _ _, by simp [Value.ownBlock]⟩, rfl, by simp⟩, ⟨p + 1 + 1, HQ.o, HP.o, HZ.o.1⟩, HZ.o.2.1⟩
theorem RJ.Kd.st4 {d g : Nat} {w W : World} {l : List JT} {i : Nat} {D : Value} {cs : List (List Value)} (h : RJ.Kd d w W l i D cs) (hg : g < w.heap.size + 2) (a b c e : Value) : RJ.Kd d w ((((W.setCell ⟨g, 0, none⟩ a).setCell ⟨g, 1, none⟩ b).setCell ⟨g, 2, none⟩ c).setCell ⟨g, 3, none⟩ e) l i D cs :=
  (((h.ex (Ex.set g _ 0 a) hg).ex (Ex.set g _ 1 b) hg).ex (Ex.set g _ 2 c) hg).ex (Ex.set g _ 3 e) hg
theorem RJ.Kd.row {d : Nat} {w W : World} {l : List JT} {D : Value} {cs : List (List Value)} (h : RJ.Kd d w W l l.length D cs) : RowP (fun k => w.heap.size ≤ k ∧ k < W.heap.size) W 80 4 D l.length cs.flatten ∧ cs.length = l.length ∧ ∀ (j : Nat) (t : JT) (c : List Value), l[j]? = some t → cs[j]? = some c → Js (fun k => w.heap.size ≤ k ∧ k < W.heap.size) W d t c :=
  ⟨⟨own_mono h.own (Nat.zero_le _), fun g hg => ⟨by have := (h.own.lt g hg).1; omega, (h.own.lt g hg).2⟩⟩, h.len, fun j t c h1 h2 => (h.tree j t c h1 h2).keep (fun _ _ => rfl) (fun k hk => ⟨by omega, hk.2.1⟩)⟩
theorem RJ.Kd.arr {d : Nat} {w W : World} {l : List JT} {A : Option Addr} {n m : Nat} {cs : List (List Value)} (h : RJ.Kd d w W l l.length (.slice A n m) cs) : Js (fun k => w.heap.size ≤ k ∧ k < W.heap.size) W (d + 1) (.arr l) [.int .i64 5, .string ⟨#[]⟩, .slice none 0 0, .slice A n m] :=
  ⟨_, cs, rfl, h.row.1, h.row.2.1, h.row.2.2⟩
set_option maxHeartbeats 8000000 in
theorem jmany_arr {d : Nat} (HV : RJ.VOk w0 r bv L d) (h : At w0 w r bv L p) (l : List JT) (bs : List (List UInt8)) (rest : List UInt8) (hlen : bs.length = l.length) (hl0 : 0 < l.length) (hll : l.length ≤ 1099511627776)
    (hE : ∀ (i : Nat) (x : List UInt8) (t : JT), bs[i]? = some x → l[i]? = some t → Enc d x t) (hL : L.drop p = 91 :: (R.jn bs ++ 93 :: rest)) (deep dm : Nat) (hdm : deep = dm + 1) (hdd : d ≤ dm) (hd100 : deep ≤ 100) :
    Calls Tryz.prog 132 #[.pointer (some ⟨r, 0, none⟩), .bool false, .int .i64 (deep : Int)] w fun e w' => ∃ k s A n m A' n' m', e = .returned (.agg #[.int .i64 k, .string s, .slice A n m, .slice A' n' m']) ∧ Js (fun k => w.heap.size ≤ k ∧ k < w'.heap.size) w' (d + 1) (.arr l) [.int .i64 k, .string s, .slice A n m, .slice A' n' m'] ∧ (∃ q, L.drop q = rest ∧ q ≤ L.length ∧ At w0 w' r bv L q) ∧ Ex r w w' := by
  obtain ⟨_, hp1, k2⟩ := RJ.pk_drop (x := 91) hL
  have HM := hd (RJ.ent h 5).set1
  have HTL : Hd (∃ x xs, bs.drop 0 = x :: xs ∧ L.drop (p + 1) = x ++ (xs.flatMap (44 :: ·) ++ 93 :: rest)) := hd (by
    cases bs with
    | nil => simp at hlen; omega
    | cons x xs => exact ⟨x, xs, rfl, by rw [k2, jn_cons, List.append_assoc]⟩)
  have hx0 := hd (show ∀ (i q : Nat) (x : List UInt8) (xs : List (List UInt8)), i < l.length → bs.drop i = x :: xs → L.drop q = x ++ (xs.flatMap (44 :: ·) ++ 93 :: rest) → ∃ t, l[i]? = some t ∧ Enc d x t ∧ RJ.pk L q = hb x from fun i q x xs hi hb hq => by
    have e1 : bs[i]? = some x := by
      have := congrArg List.head? hb
      rw [List.head?_drop] at this; exact this
    have e2 : l[i]? = some l[i] := List.getElem?_eq_getElem hi
    have he := hE i x _ e1 e2
    exact ⟨_, e2, he, by rw [pk_hb, hq, hb_app (enc_hb he).1]⟩)
  obtain ⟨cc, fz⟩ := RJ.ent0 h 5
  have HN := hd (show ¬ (w.heap.size + 1 = r) ∧ ¬ (r = w.heap.size + 1) ∧ ¬ (w.heap.size = r) ∧ ¬ (r = w.heap.size) by have := h.lt; omega)
  have HR := hd h.lt
  have HSW := hd h.le
  have hw := h.wr hp1
  have hwd : IntKind.i64.wrap ((deep : Int) - 1) = (dm : Int) := by rw [IntKind.wrap_i64]; omega
  have HDM := hd hdm
  have HLB := hd hlen
  have HLL := hd hll
  obtain ⟨x0, xs0, hb0, hq0⟩ := HTL.o
  obtain ⟨t0, _, he0, hk0⟩ := hx0.o 0 _ x0 xs0 hl0 hb0 hq0
  have hf0 := RJ.enc_first he0
  rw [← hk0] at hf0
  have HF0 := hd hf0
  have t93 : (((RJ.pk L (p + 1) : Nat) : Int) == 93) = false := by rw [beq_eq_false_iff_ne]; have := hf0.2.2.2.2.1; omega
  clear h hL k2 hp1 hb0 hq0 he0 hk0 hf0 hE hlen hll hdm
  go_enter Tryz.func132, Tryz.ntmps132
  go_wp2_with (first
    | (go_at_call 77; refine (jblanks_any HM.o.at_ (by have := HF0.o; omega)).mono ?_; rintro e w1 ⟨rfl, hb1⟩; replace HM := hd (HM.o.below hb1); clear hb1)
    | (go_at_call 129; refine (jpeek_any HM.o.at_).mono ?_; rintro e w2 ⟨rfl, hb1⟩; replace HM := hd (HM.o.below hb1); clear hb1))
  go_loopw [] (fun wr => ∃ (i q : Nat) (D : Value) (cs : List (List Value)), i < l.length ∧ Hd (RJ.Mn w0 w wr r bv L q 5 (.slice none 0 0) D) ∧ Hd (∃ x xs, bs.drop i = x :: xs ∧ L.drop q = x ++ (xs.flatMap (44 :: ·) ++ 93 :: rest)) ∧ Hd (RJ.Kd d w wr l i D cs)) (fun wr => L.length - RJ.pos wr r)
  case atStart => exact ⟨0, p + 1, _, [], hl0, HM, HTL, hd (RJ.Kd.nil _ _ _ _)⟩
  case round =>
    obtain ⟨i, q, D, cs, hi, HM0, HTL2, HK⟩ := hrel
    clear HM HTL cc fz t93 HF0 x0 xs0
    have HM := HM0
    obtain ⟨x, xs, hbx, hqx⟩ := HTL2.o
    obtain ⟨t, hti, he, hkq⟩ := hx0.o i q x xs hi hbx hqx
    have hfi := RJ.enc_first he
    rw [← hkq] at hfi
    have HF := hd hfi
    obtain ⟨A, m, rfl⟩ := own_shape HK.o.own
    have b2 := HM.o.at_.c2
    have HE := hd he
    have HQX := hd hqx
    have HTI := hd hti
    have hfol : Fol (xs.flatMap (44 :: ·) ++ 93 :: rest) := by
      intro y u hy
      cases xs with
      | nil => simp at hy; exact .inr (.inl hy.1.symm)
      | cons z zs => simp at hy; exact .inl hy.1.symm
    have HFOL := hd hfol
    clear hfi hkq he hqx hti hfol HTL2
    obtain ⟨i0, i1, i2, i3, i4⟩ := info_parts RJ.infoJ
    have I1 := hd i1
    have I2 := hd i2
    have I3 := hd i3
    have I4 := hd i4
    clear i1 i2 i3 i4
    obtain ⟨e0, e1, e2, e3⟩ := HM.o.c7
    cases xs with
    | nil =>
      go_wp2_with (first
        | (go_at_call 77; refine (jblanks_any HM.o.at_ (by have := HF.o; omega)).mono ?_; rintro e w3 ⟨rfl, hb3⟩; replace HM := hd (HM.o.below hb3); replace HK := hd (HK.o.ex (Ex.of_below (r := r) hb3) (by have := HR.o; omega)); clear hb3)
        | (go_at_call 76; refine (HV t x _ _ q dm HE.o HM.o.at_ HQX.o HFOL.o hdd (by have := HDM.o; omega)).mono ?_; rintro e wv ⟨k, s, A1, n1, m1, A2, n2, m2, rfl, hj, ⟨q2, hq2, hl2, ha2⟩, hxx⟩; have HJ := hd hj; have HB := hd HK.o.blk; have HB2 := hd HM.o.size; replace HM := hd (HM.o.step ha2 hxx); replace HK := hd (HK.o.ex hxx (by have := HR.o; omega)); have HQ2 := hd hq2; have h7 := fun o : Obj => (HM.o.below ((Below.refl _ _).alloc (Nat.le_refl _) o)).c7.2.2.2; have HSZ := hd HM.o.size; clear hj hq2 hl2 ha2 hxx)
        | (at_builtin; refine wpList_append_lies _ rfl _ _ 78 rfl (w.heap.size + 2) 80 i0 _ 4 72 Tryz.underlying78 I1.o I2.o I3.o I4.o rfl (by decide) (.slice A i m) i cs.flatten rfl ((HK.o.own.alloc _).alloc _) ⟨wv.heap.size + 1, 0, none⟩ 1 1 [.int .i64 k, .string s, .slice A1 n1 m1, .slice A2 n2 m2] rfl rfl (World.news_of_block (heap_alloc2_new wv _ _)) (by simp [Value.oneCell']) (by decide) (by have := HLL.o; unfold maxLen; omega) (by have := HLL.o; omega) (by have := HSZ.o; simp; omega) (wv.heap.size + 2) (by simp) ?_))
      intro g cap w5 ho hg hgg hlt5
      have hb0 : Below (w.heap.size + 2) wv ((wv.alloc (.cells #[.int .i64 k, .string s, .slice A1 n1 m1, .slice A2 n2 m2] 80)).alloc (.cells #[.int .i64 k, .string s, .slice A1 n1 m1, .slice A2 n2 m2] 80)) := ((Below.refl _ _).alloc HSZ.o _).alloc (by have := HSZ.o; simp; omega) _
      have hb5 := hb0.grown hg (by have := HSZ.o; simp; omega) (fun k hk => (HK.o.own.lt k hk).1)
      have HM5 := hd (HM.o.grow hb5)
      have HK5 := hd (HK.o.push HTI.o w3.heap.size HB.o HB2.o HJ.o _ _ g cap ho hg hgg)
      have HM6 := hd (HM5.o.setD (.slice (some ⟨g, 0, none⟩) (i + 1) cap))
      have HK6 := hd (HK5.o.ex (Ex.set (w.heap.size + 1) w5 3 (.slice (some ⟨g, 0, none⟩) (i + 1) cap)) (by omega))
      obtain ⟨x0, x1, x2, x3⟩ := HM5.o.c7
      have y7 := HM5.o.f7
      replace HM := HM6
      replace HK := HK6
      clear HM5 HK5 HM6 HK6 hb0 hb5 ho hg hgg hlt5 e0 e1 e2 e3 h7 HJ HB HB2 HF
      have HI1 : Hd (l.length = i + 1) := hd (by have := congrArg List.length hbx; rw [List.length_drop] at this; have := HLB.o; simp at *; omega)
      obtain ⟨k2, hl3, k3⟩ := RJ.pk_drop (x := 93) (t := rest) HQ2.o
      rw [show (93 : UInt8).toNat = 93 from rfl] at k2
      have HF := hd (show RJ.pk L q2 ≠ 32 ∧ RJ.pk L q2 ≠ 10 ∧ RJ.pk L q2 ≠ 13 ∧ RJ.pk L q2 ≠ 9 by omega)
      have hwq := HM.o.at_.wr hl3
      have HK3 := hd k3
      have HL3 := hd hl3
      clear k3 hl3
      go_wp2_with (first
        | (go_at_call 77; refine (jblanks_any HM.o.at_ (by have := HF.o; omega)).mono ?_; rintro e w3 ⟨rfl, hb3⟩; replace HM := hd (HM.o.below hb3); replace HK := hd (HK.o.ex (Ex.of_below (r := r) hb3) (by have := HR.o; omega)); clear hb3)
        | (go_at_call 129; refine (jpeek_any HM.o.at_).mono ?_; rintro e w7 ⟨rfl, hb7⟩; rw [k2]; replace HM := hd (HM.o.below hb7); replace HK := hd (HK.o.ex (Ex.of_below (r := r) hb7) (by have := HR.o; omega)); have cd := HM.o.at_.c1; have fd := HM.o.at_.fz; have f6 := HM.o.f6; have f7 := HM.o.f7; obtain ⟨e0, e1, e2, e3⟩ := HM.o.c7; obtain ⟨g0, g1, g2, g3⟩ := HM.o.c6; obtain ⟨n1, n2, n3, n4⟩ := HN.o; clear hb7))
      have HZ := hd (HM.o.set1.out (.int .i64 5) (.string ⟨#[]⟩) (.slice none 0 0) (.slice (some ⟨g, 0, none⟩) (i + 1) cap))
      have HK8 := hd ((HK.o.ex (Ex.set r w7 1 (.int .i64 ((q2 : Int) + 1))) (by have := HR.o; omega)).st4 (g := w.heap.size) (by omega) (.int .i64 5) (.string ⟨#[]⟩) (.slice none 0 0) (.slice (some ⟨g, 0, none⟩) (i + 1) cap))
      rw [← HI1.o] at HK8
      refine bodyPost_ret (RJ.res4 rfl _ rfl HZ.o.2.2) rfl ?_
      rw [← HI1.o]
      exact ⟨_, _, _, _, _, _, _, _, rfl, HK8.o.arr, ⟨q2 + 1, HK3.o, HL3.o, by rw [HI1.o]; exact HZ.o.1⟩, by rw [HI1.o]; exact HZ.o.2.1⟩
    | cons z zs =>
      go_wp2_with (first
        | (go_at_call 77; refine (jblanks_any HM.o.at_ (by have := HF.o; omega)).mono ?_; rintro e w3 ⟨rfl, hb3⟩; replace HM := hd (HM.o.below hb3); replace HK := hd (HK.o.ex (Ex.of_below (r := r) hb3) (by have := HR.o; omega)); clear hb3)
        | (go_at_call 76; refine (HV t x _ _ q dm HE.o HM.o.at_ HQX.o HFOL.o hdd (by have := HDM.o; omega)).mono ?_; rintro e wv ⟨k, s, A1, n1, m1, A2, n2, m2, rfl, hj, ⟨q2, hq2, hl2, ha2⟩, hxx⟩; have HJ := hd hj; have HB := hd HK.o.blk; have HB2 := hd HM.o.size; replace HM := hd (HM.o.step ha2 hxx); replace HK := hd (HK.o.ex hxx (by have := HR.o; omega)); have HQ2 := hd hq2; have h7 := fun o : Obj => (HM.o.below ((Below.refl _ _).alloc (Nat.le_refl _) o)).c7.2.2.2; have HSZ := hd HM.o.size; clear hj hq2 hl2 ha2 hxx)
        | (at_builtin; refine wpList_append_lies _ rfl _ _ 78 rfl (w.heap.size + 2) 80 i0 _ 4 72 Tryz.underlying78 I1.o I2.o I3.o I4.o rfl (by decide) (.slice A i m) i cs.flatten rfl ((HK.o.own.alloc _).alloc _) ⟨wv.heap.size + 1, 0, none⟩ 1 1 [.int .i64 k, .string s, .slice A1 n1 m1, .slice A2 n2 m2] rfl rfl (World.news_of_block (heap_alloc2_new wv _ _)) (by simp [Value.oneCell']) (by decide) (by have := HLL.o; unfold maxLen; omega) (by have := HLL.o; omega) (by have := HSZ.o; simp; omega) (wv.heap.size + 2) (by simp) ?_))
      intro g cap w5 ho hg hgg hlt5
      have hb0 : Below (w.heap.size + 2) wv ((wv.alloc (.cells #[.int .i64 k, .string s, .slice A1 n1 m1, .slice A2 n2 m2] 80)).alloc (.cells #[.int .i64 k, .string s, .slice A1 n1 m1, .slice A2 n2 m2] 80)) := ((Below.refl _ _).alloc HSZ.o _).alloc (by have := HSZ.o; simp; omega) _
      have hb5 := hb0.grown hg (by have := HSZ.o; simp; omega) (fun k hk => (HK.o.own.lt k hk).1)
      have HM5 := hd (HM.o.grow hb5)
      have HK5 := hd (HK.o.push HTI.o w3.heap.size HB.o HB2.o HJ.o _ _ g cap ho hg hgg)
      have HM6 := hd (HM5.o.setD (.slice (some ⟨g, 0, none⟩) (i + 1) cap))
      have HK6 := hd (HK5.o.ex (Ex.set (w.heap.size + 1) w5 3 (.slice (some ⟨g, 0, none⟩) (i + 1) cap)) (by omega))
      obtain ⟨x0, x1, x2, x3⟩ := HM5.o.c7
      have y7 := HM5.o.f7
      replace HM := HM6
      replace HK := HK6
      clear HM5 HK5 HM6 HK6 hb0 hb5 ho hg hgg hlt5 e0 e1 e2 e3 h7 HJ HB HB2 HF
      have HI1 : Hd (i + 1 < l.length) := hd (by have := congrArg List.length hbx; rw [List.length_drop] at this; have := HLB.o; simp at *; omega)
      have hq3 := HQ2.o
      rw [List.flatMap_cons, List.append_assoc, List.cons_append] at hq3
      obtain ⟨k2, hl3, k3⟩ := RJ.pk_drop (x := 44) hq3
      rw [show (44 : UInt8).toNat = 44 from rfl] at k2
      have HF := hd (show RJ.pk L q2 ≠ 32 ∧ RJ.pk L q2 ≠ 10 ∧ RJ.pk L q2 ≠ 13 ∧ RJ.pk L q2 ≠ 9 by omega)
      have HT2 := hd (fun W (hW : At w0 W r bv L q2) => jtake_any hW ⟨#[44]⟩ (by decide) (by decide) (by have : ByteArray.size ⟨#[44]⟩ = 1 := rfl; omega) (by rw [hq3]; rfl))
      have HTN : Hd (∃ x xs, bs.drop (i + 1) = x :: xs ∧ L.drop (q2 + 1) = x ++ (xs.flatMap (44 :: ·) ++ 93 :: rest)) := hd ⟨z, zs, (RJ.drop_of hbx), k3⟩
      clear k3 hl3 hq3
      go_wp2_with (first
        | (go_at_call 77; refine (jblanks_any HM.o.at_ (by have := HF.o; omega)).mono ?_; rintro e w3 ⟨rfl, hb3⟩; replace HM := hd (HM.o.below hb3); replace HK := hd (HK.o.ex (Ex.of_below (r := r) hb3) (by have := HR.o; omega)); clear hb3)
        | (go_at_call 129; refine (jpeek_any HM.o.at_).mono ?_; rintro e w7 ⟨rfl, hb7⟩; rw [k2]; replace HM := hd (HM.o.below hb7); replace HK := hd (HK.o.ex (Ex.of_below (r := r) hb7) (by have := HR.o; omega)); clear hb7)
        | (go_at_call 130; refine (HT2.o _ HM.o.at_).mono ?_; rintro e w8 ⟨rfl, ha8, hx8⟩; replace HM := hd (HM.o.step ha8 hx8); replace HK := hd (HK.o.ex hx8 (by have := HR.o; omega)); clear ha8 hx8))
      go_roundw
      case rel => exact ⟨i + 1, q2 + 1, _, _, HI1.o, HM, HTN, HK⟩
      case measure =>
        rw [HM.o.at_.pos, HM0.o.at_.pos]
        have m1 := congrArg List.length HQX.o
        have m2 := congrArg List.length HQ2.o
        have m3 := List.length_pos_iff.2 (RJ.enc_hb HE.o).1
        rw [List.length_append, ← m2, List.length_drop, List.length_drop] at m1
        rw [List.length_drop, List.length_append, List.length_cons] at m2
        have m4 : ByteArray.size ⟨#[44]⟩ = 1 := rfl
        omega
end
end Go.Proofs.YteckfdohgiddgaaGreatDoor
namespace Go.Proofs.YteckfdohgiddgaaGreatDoor
open Go.RowKit
set_option linter.unusedVariables false
set_option linter.unusedSimpArgs false
open RJ
namespace RJ
theorem infoStr : (Tryz.prog.info? 9).map (fun i => (i.zero, i.size, i.bytes)) = some (some (.string ⟨#[]⟩), 1, 16) := by kernel_rfl
theorem rows_apart {W : World} {B C e f s s' n n' : Nat} {u v : Value} {xs ys : List Value} (hu : W.ownsRow B e s u n xs) (hv : W.ownsRow C f s' v n' ys) (hef : e ≠ f) : u.ownBlock = none ∨ u.ownBlock ≠ v.ownBlock := by
  rcases hu.2 with ⟨rfl, _⟩ | ⟨g, cap, cur, rfl, _, hg, _⟩
  · exact .inl rfl
  · rcases hv.2 with ⟨rfl, _⟩ | ⟨g', cap', cur', rfl, _, hg', _⟩
    · exact .inr (by simp [Value.ownBlock])
    · refine .inr ?_
      simp only [Value.ownBlock, ne_eq, Option.some.injEq]
      rintro rfl
      rw [hg] at hg'
      simp only [Option.some.injEq, Obj.cells.injEq] at hg'
      exact hef hg'.2.1
/-- the members read so far -/
structure Ko (d : Nat) (w W : World) (ks : List ByteArray) (l : List JT) (n i : Nat) (K D : Value) (cs : List (List Value)) : Prop where
  own : W.ownsRow (w.heap.size + 2) 80 4 D i cs.flatten
  keys : W.ownsRow (w.heap.size + 2) 9 1 K n (cellsS (ks.take n))
  len : cs.length = i
  tree : ∀ (j : Nat) (t : JT) (c : List Value), l[j]? = some t → cs[j]? = some c → Js (fun k => w.heap.size + 2 ≤ k ∧ k < W.heap.size ∧ D.ownBlock ≠ some k ∧ K.ownBlock ≠ some k) W d t c
section
variable {d : Nat} {w W W' : World} {ks : List ByteArray} {l : List JT} {n i : Nat} {K D : Value} {cs : List (List Value)}
theorem Ko.ex {r : Nat} (h : Ko d w W ks l n i K D cs) (hx : Ex r W W') (hr : r < w.heap.size + 2) : Ko d w W' ks l n i K D cs :=
  ⟨own_ex h.own hx hr, own_ex h.keys hx hr, h.len, fun j t c h1 h2 => (h.tree j t c h1 h2).keep (fun k hk => hx.block k hk.2.1 (by omega)) (fun k hk => ⟨hk.1, Nat.lt_of_lt_of_le hk.2.1 hx.size, hk.2.2⟩)⟩
theorem Ko.nil (d : Nat) (w W : World) (ks : List ByteArray) (l : List JT) : Ko d w W ks l 0 0 (.slice none 0 0) (.slice none 0 0) [] := ⟨World.ownsRow_nil _ _ _ _, World.ownsRow_nil _ _ _ _, rfl, by simp⟩
theorem Ko.blkD (h : Ko d w W ks l n i K D cs) : D.ownBlock = none ∨ ∃ g, D.ownBlock = some g ∧ g < W.heap.size := by
  cases e : D.ownBlock with
  | none => exact .inl rfl
  | some g => exact .inr ⟨g, rfl, (h.own.lt g e).2⟩
theorem Ko.blkK (h : Ko d w W ks l n i K D cs) : K.ownBlock = none ∨ ∃ g, K.ownBlock = some g ∧ g < W.heap.size := by
  cases e : K.ownBlock with
  | none => exact .inl rfl
  | some g => exact .inr ⟨g, rfl, (h.keys.lt g e).2⟩
theorem Ko.st4 {g : Nat} (h : Ko d w W ks l n i K D cs) (hg : g < w.heap.size + 2) (a b c e : Value) : Ko d w ((((W.setCell ⟨g, 0, none⟩ a).setCell ⟨g, 1, none⟩ b).setCell ⟨g, 2, none⟩ c).setCell ⟨g, 3, none⟩ e) ks l n i K D cs :=
  (((h.ex (Ex.set g _ 0 a) hg).ex (Ex.set g _ 1 b) hg).ex (Ex.set g _ 2 c) hg).ex (Ex.set g _ 3 e) hg
/-- a key more -/
theorem Ko.pushK (h : Ko d w W ks l n i K D cs) {s : ByteArray} (hs : ks[n]? = some s) (X : Obj) (g cap : Nat)
    (ho : W'.ownsRow (w.heap.size + 2) 9 1 (.slice (some ⟨g, 0, none⟩) (n + 1) cap) (n + 1) (cellsS (ks.take n) ++ [.string s]))
    (hg : (W.alloc X).grownBy W' K.ownBlock) (hgg : K.ownBlock = some g ∨ g = W.heap.size + 1) : Ko d w W' ks l (n + 1) i (.slice (some ⟨g, 0, none⟩) (n + 1) cap) D cs := by
  have hsz : W.heap.size + 1 ≤ W'.heap.size := by have := hg.size; simpa using this
  have hk : ∀ k, k < W.heap.size → K.ownBlock ≠ some k → W'.heap[k]? = W.heap[k]? := fun k h1 h2 => by
    rw [hg.block k (by simp; omega) (fun e => h2 e.symm), Below.heap_alloc _ _ _ h1]
  refine ⟨(h.own.alloc X).kept hg ?_, ?_, h.len, fun j t c h1 h2 => (h.tree j t c h1 h2).keep (fun k hk' => hk k hk'.2.1 hk'.2.2.2) (fun k hk' => ⟨hk'.1, by omega, hk'.2.2.1, ?_⟩)⟩
  · exact rows_apart h.own h.keys (by decide)
  · have hlt : n < ks.length := (List.getElem?_eq_some_iff.1 hs).1
    have e : ks.take (n + 1) = ks.take n ++ [s] := by
      rw [List.take_succ_eq_append_getElem hlt, (List.getElem?_eq_some_iff.1 hs).2]
    rw [e, show cellsS (ks.take n ++ [s]) = cellsS (ks.take n) ++ [.string s] by simp [cellsS]]
    exact ho
  · simp only [Value.ownBlock, ne_eq, Option.some.injEq]
    rintro rfl
    rcases hgg with e | e
    · exact hk'.2.2.2 e
    · omega
/-- a part more -/
theorem Ko.push {Wv : World} {t : JT} {a b c e : Value} (h : Ko d w Wv ks l n i K D cs) (hi : l[i]? = some t) (B : Nat) (hB : D.ownBlock = none ∨ ∃ g, D.ownBlock = some g ∧ g < B) (hC : K.ownBlock = none ∨ ∃ g, K.ownBlock = some g ∧ g < B) (hB2 : w.heap.size + 2 ≤ B)
    (ht : Js (fun k => B ≤ k ∧ k < Wv.heap.size) Wv d t [a, b, c, e]) (X Y : Obj) (g cap : Nat)
    (ho : W'.ownsRow (w.heap.size + 2) 80 4 (.slice (some ⟨g, 0, none⟩) (i + 1) cap) (i + 1) (cs.flatten ++ [a, b, c, e]))
    (hg : ((Wv.alloc X).alloc Y).grownBy W' D.ownBlock) (hgg : D.ownBlock = some g ∨ g = Wv.heap.size + 2) : Ko d w W' ks l n (i + 1) K (.slice (some ⟨g, 0, none⟩) (i + 1) cap) (cs ++ [[a, b, c, e]]) := by
  have hsz : Wv.heap.size + 2 ≤ W'.heap.size := by have := hg.size; simpa using this
  have hk : ∀ k, k < Wv.heap.size → D.ownBlock ≠ some k → W'.heap[k]? = Wv.heap[k]? := fun k h1 h2 => by
    rw [hg.block k (by simp; omega) (fun e => h2 e.symm), Below.heap_alloc _ _ _ (by simp; omega), Below.heap_alloc _ _ _ h1]
  refine ⟨by rw [List.flatten_append]; simpa using ho, ((h.keys.alloc X).alloc Y).kept hg (rows_apart h.keys h.own (by decide)), by simp [h.len], fun j u x h1 h2 => ?_⟩
  by_cases hj : j < cs.length
  · rw [List.getElem?_append_left hj] at h2
    refine (h.tree j u x h1 h2).keep (fun k hk' => hk k hk'.2.1 hk'.2.2.1) (fun k hk' => ⟨hk'.1, by omega, ?_, hk'.2.2.2⟩)
    simp only [Value.ownBlock, ne_eq, Option.some.injEq]
    rintro rfl
    rcases hgg with e | e
    · exact hk'.2.2.1 e
    · omega
  · rw [List.getElem?_append_right (by omega)] at h2
    have hj2 : j = i := by
      have := (List.getElem?_eq_some_iff.1 h2).1
      have := h.len
      simp at *; omega
    subst hj2
    rw [h.len, Nat.sub_self] at h2
    simp only [List.getElem?_cons_zero, Option.some.injEq] at h2
    subst h2
    rw [hi] at h1
    cases h1
    refine ht.keep (fun k hk' => hk k hk'.2 ?_) (fun k hk' => ⟨by omega, by omega, ?_, ?_⟩)
    · rcases hB with e | ⟨g', e, h3⟩
      · rw [e]; simp
      · rw [e]; simp; omega
    · simp only [Value.ownBlock, ne_eq, Option.some.injEq]
      rintro rfl
      rcases hgg with e | e
      · rcases hB with e' | ⟨g', e', h3⟩
        · rw [e'] at e; cases e
        · rw [e'] at e; cases e; omega
      · omega
    · rcases hC with e | ⟨g', e, h3⟩
      · rw [e]; simp
      · rw [e]; simp; omega
theorem Ko.obj {A A' : Option Addr} {a b a' b' : Nat} (h : Ko d w W ks l l.length l.length (.slice A a b) (.slice A' a' b') cs) (hl : ks.length = l.length) : Js (fun k => w.heap.size ≤ k ∧ k < W.heap.size) W (d + 1) (.obj ks l) [.int .i64 6, .string ⟨#[]⟩, .slice A a b, .slice A' a' b'] := by
  refine ⟨_, _, cs, rfl, hl, ⟨?_, fun g hg => ⟨by have := (h.keys.lt g hg).1; omega, (h.keys.lt g hg).2⟩⟩, ⟨own_mono h.own (Nat.zero_le _), fun g hg => ⟨by have := (h.own.lt g hg).1; omega, (h.own.lt g hg).2⟩⟩, h.len, fun j t c h1 h2 => (h.tree j t c h1 h2).keep (fun _ _ => rfl) (fun k hk => ⟨by omega, hk.2.1⟩)⟩
  have := own_mono h.keys (Nat.zero_le _)
  rw [← hl, List.take_length] at this
  exact this
end
end RJ
section
variable {w0 w : World} {r : Nat} {bv : Value} {L : List UInt8} {p : Nat}
theorem jtext_s (h : At w0 w r bv L p) (s : ByteArray) (rest : List UInt8) (hL : L.drop p = tx s ++ rest) (hs : s.size ≤ 70368744177664) (hv : U.valid s = true) :
    Calls Tryz.prog 131 #[.pointer (some ⟨r, 0, none⟩)] w fun e w' => e = .returned (.string s) ∧ (∃ q, L.drop q = rest ∧ q ≤ L.length ∧ At w0 w' r bv L q) ∧ Ex r w w' :=
  jtext_any h s.data.toList rest (by rw [hL]; simp [tx]) (by rw [← Lib.size_eq]; exact hs) hv
set_option maxHeartbeats 16000000 in
theorem jmany_obj {d : Nat} (HV : RJ.VOk w0 r bv L d) (h : At w0 w r bv L p) (ks : List ByteArray) (l : List JT) (bs : List (List UInt8)) (rest : List UInt8) (hlen : bs.length = l.length) (hkl : ks.length = l.length) (hl0 : 0 < l.length) (hll : l.length ≤ 1099511627776)
    (hE : ∀ (i : Nat) (y : List UInt8) (t : JT) (s : ByteArray), bs[i]? = some y → l[i]? = some t → ks[i]? = some s → (∃ x, y = tx s ++ 58 :: x ∧ Enc d x t) ∧ s.size ≤ 70368744177664 ∧ U.valid s = true) (hL : L.drop p = 123 :: (R.jn bs ++ 125 :: rest)) (deep dm : Nat) (hdm : deep = dm + 1) (hdd : d ≤ dm) (hd100 : deep ≤ 100) :
    Calls Tryz.prog 132 #[.pointer (some ⟨r, 0, none⟩), .bool true, .int .i64 (deep : Int)] w fun e w' => ∃ k s A n m A' n' m', e = .returned (.agg #[.int .i64 k, .string s, .slice A n m, .slice A' n' m']) ∧ Js (fun k => w.heap.size ≤ k ∧ k < w'.heap.size) w' (d + 1) (.obj ks l) [.int .i64 k, .string s, .slice A n m, .slice A' n' m'] ∧ (∃ q, L.drop q = rest ∧ q ≤ L.length ∧ At w0 w' r bv L q) ∧ Ex r w w' := by
  obtain ⟨_, hp1, k2⟩ := RJ.pk_drop (x := 123) hL
  have HM := hd (RJ.ent h 6).set1
  have HTL : Hd (∃ x xs, bs.drop 0 = x :: xs ∧ L.drop (p + 1) = x ++ (xs.flatMap (44 :: ·) ++ 125 :: rest)) := hd (by
    cases bs with
    | nil => simp at hlen; omega
    | cons x xs => exact ⟨x, xs, rfl, by rw [k2, jn_cons, List.append_assoc]⟩)
  have hx0 := hd (show ∀ (i q : Nat) (y : List UInt8) (ys : List (List UInt8)), i < l.length → bs.drop i = y :: ys → L.drop q = y ++ (ys.flatMap (44 :: ·) ++ 125 :: rest) → ∃ t s x, l[i]? = some t ∧ ks[i]? = some s ∧ y = tx s ++ 58 :: x ∧ Enc d x t ∧ s.size ≤ 70368744177664 ∧ U.valid s = true ∧ RJ.pk L q = 34 from fun i q y ys hi hb hq => by
    have e1 : bs[i]? = some y := by
      have := congrArg List.head? hb
      rw [List.head?_drop] at this; exact this
    have e2 : l[i]? = some l[i] := List.getElem?_eq_getElem hi
    have e3 : ks[i]? = some (ks[i]'(by omega)) := List.getElem?_eq_getElem (by omega)
    obtain ⟨⟨x, hy, he⟩, hs1, hs2⟩ := hE i y _ _ e1 e2 e3
    exact ⟨_, _, x, e2, e3, hy, he, hs1, hs2, by rw [pk_hb, hq, hy]; rfl⟩)
  obtain ⟨cc, fz⟩ := RJ.ent0 h 6
  have HN := hd (show ¬ (w.heap.size + 1 = r) ∧ ¬ (r = w.heap.size + 1) ∧ ¬ (w.heap.size = r) ∧ ¬ (r = w.heap.size) by have := h.lt; omega)
  have HR := hd h.lt
  have HSW := hd h.le
  have hw := h.wr hp1
  have hwd : IntKind.i64.wrap ((deep : Int) - 1) = (dm : Int) := by rw [IntKind.wrap_i64]; omega
  have HDM := hd hdm
  have HLB := hd hlen
  have HKL := hd hkl
  have HLL := hd hll
  obtain ⟨x0, xs0, hb0, hq0⟩ := HTL.o
  have hk0 : RJ.pk L (p + 1) = 34 := by
    obtain ⟨_, _, _, _, _, _, _, _, _, hk⟩ := hx0.o 0 _ x0 xs0 hl0 hb0 hq0
    exact hk
  have HF0 := hd (show RJ.pk L (p + 1) ≠ 32 ∧ RJ.pk L (p + 1) ≠ 10 ∧ RJ.pk L (p + 1) ≠ 13 ∧ RJ.pk L (p + 1) ≠ 9 by omega)
  have t93 : (((RJ.pk L (p + 1) : Nat) : Int) == 125) = false := by rw [beq_eq_false_iff_ne]; omega
  clear h hL k2 hp1 hb0 hq0 hk0 hE hlen hkl hll hdm
  go_enter Tryz.func132, Tryz.ntmps132
  go_wp2_with (first
    | (go_at_call 77; refine (jblanks_any HM.o.at_ (by have := HF0.o; omega)).mono ?_; rintro e w1 ⟨rfl, hb1⟩; replace HM := hd (HM.o.below hb1); clear hb1)
    | (go_at_call 129; refine (jpeek_any HM.o.at_).mono ?_; rintro e w2 ⟨rfl, hb1⟩; replace HM := hd (HM.o.below hb1); clear hb1))
  go_loopw [] (fun wr => ∃ (i q : Nat) (K D : Value) (cs : List (List Value)), i < l.length ∧ Hd (RJ.Mn w0 w wr r bv L q 6 K D) ∧ Hd (∃ x xs, bs.drop i = x :: xs ∧ L.drop q = x ++ (xs.flatMap (44 :: ·) ++ 125 :: rest)) ∧ Hd (RJ.Ko d w wr ks l i i K D cs)) (fun wr => L.length - RJ.pos wr r)
  case atStart => exact ⟨0, p + 1, _, _, [], hl0, HM, HTL, hd (RJ.Ko.nil _ _ _ _ _)⟩
  case round =>
    obtain ⟨i, q, K, D, cs, hi, HM0, HTL2, HK⟩ := hrel
    clear HM HTL cc fz t93 HF0 x0 xs0
    have HM := HM0
    obtain ⟨y, ys, hbx, hqx⟩ := HTL2.o
    obtain ⟨t, s, x, hti, hsi, rfl, he, hs1, hs2, hkq⟩ := hx0.o i q y ys hi hbx hqx
    have HF := hd (show RJ.pk L q ≠ 32 ∧ RJ.pk L q ≠ 10 ∧ RJ.pk L q ≠ 13 ∧ RJ.pk L q ≠ 9 by omega)
    obtain ⟨A, m, rfl⟩ := own_shape HK.o.own
    obtain ⟨Ak, mk, rfl⟩ := own_shape HK.o.keys
    have b2 := HM.o.at_.c2
    have HE := hd he
    have HQT : Hd (L.drop q = tx s ++ (58 :: (x ++ (ys.flatMap (44 :: ·) ++ 125 :: rest)))) := hd (by rw [hqx]; simp)
    have HSS := hd (And.intro hs1 hs2)
    have HTI := hd hti
    have HSI := hd hsi
    have hfol : Fol (ys.flatMap (44 :: ·) ++ 125 :: rest) := by
      intro y u hy
      cases ys with
      | nil => simp at hy; exact .inr (.inr hy.1.symm)
      | cons z zs => simp at hy; exact .inl hy.1.symm
    have HFOL := hd hfol
    have HQL := hd hqx
    clear hkq he hqx hti hsi hfol HTL2 hs1 hs2
    obtain ⟨i0, i1, i2, i3, i4⟩ := info_parts RJ.infoJ
    have I1 := hd i1
    have I2 := hd i2
    have I3 := hd i3
    have I4 := hd i4
    obtain ⟨j0, j1, j2, j3, j4⟩ := info_parts RJ.infoStr
    have J1 := hd j1
    have J2 := hd j2
    have J3 := hd j3
    have J4 := hd j4
    clear i1 i2 i3 i4 j1 j2 j3 j4
    go_wp2_with (first
      | (go_at_call 77; refine (jblanks_any HM.o.at_ (by have := HF.o; omega)).mono ?_; rintro e w3 ⟨rfl, hb3⟩; replace HM := hd (HM.o.below hb3); replace HK := hd (HK.o.ex (Ex.of_below (r := r) hb3) (by have := HR.o; omega)); clear hb3)
      | (go_at_call 131; refine (jtext_s HM.o.at_ s (58 :: (x ++ (ys.flatMap (44 :: ·) ++ 125 :: rest))) HQT.o HSS.o.1 HSS.o.2).mono ?_; rintro e wt ⟨rfl, ⟨q1, hq1, hl1, ha1⟩, hx1⟩; replace HM := hd (HM.o.step ha1 hx1); replace HK := hd (HK.o.ex hx1 (by have := HR.o; omega)); have HQ1 := hd hq1; have h8 := HM.o.c7.2.2.1; have HSZ1 := hd HM.o.size; clear hq1 hl1 ha1 hx1)
      | (at_builtin; refine wpList_append_lies _ rfl _ _ 37 rfl (w.heap.size + 2) 9 j0 _ 1 16 Tryz.underlying37 J1.o J2.o J3.o J4.o rfl (by decide) (.slice Ak i mk) i (cellsS (ks.take i)) rfl (HK.o.keys.alloc _) ⟨wt.heap.size, 0, none⟩ 1 1 [.string s] rfl rfl (World.news_of_block (heap_alloc_new wt _)) (by simp [Value.oneCell']) (by decide) (by have := HLL.o; unfold maxLen; omega) (by have := HLL.o; omega) (by have := HSZ1.o; simp; omega) (wt.heap.size + 1) (by simp) ?_))
    intro gk capk wk ho hg hgg hltk
    have hb0 : Below (w.heap.size + 2) wt (wt.alloc (.cells #[.string s] 9)) := (Below.refl _ _).alloc HSZ1.o _
    have hb5 := hb0.grown hg (by have := HSZ1.o; simp; omega) (fun k hk => (HK.o.keys.lt k hk).1)
    have HM5 := hd (HM.o.grow hb5)
    have HK5 := hd (HK.o.pushK HSI.o _ gk capk ho hg hgg)
    have HM6 := hd (HM5.o.setK (.slice (some ⟨gk, 0, none⟩) (i + 1) capk))
    have HK6 := hd (HK5.o.ex (Ex.set (w.heap.size + 1) wk 2 (.slice (some ⟨gk, 0, none⟩) (i + 1) capk)) (by omega))
    obtain ⟨x0, x1, x2, x3⟩ := HM5.o.c7
    have y7 := HM5.o.f7
    replace HM := HM6
    replace HK := HK6
    clear HM5 HK5 HM6 HK6 hb0 hb5 ho hg hgg hltk h8 HF
    obtain ⟨k2, hl3, k3⟩ := RJ.pk_drop (x := 58) HQ1.o
    rw [show (58 : UInt8).toNat = 58 from rfl] at k2
    have HF := hd (show RJ.pk L q1 ≠ 32 ∧ RJ.pk L q1 ≠ 10 ∧ RJ.pk L q1 ≠ 13 ∧ RJ.pk L q1 ≠ 9 by omega)
    have HT1 := hd (fun W (hW : At w0 W r bv L q1) => jtake_any hW ⟨#[58]⟩ (by decide) (by decide) (by have : ByteArray.size ⟨#[58]⟩ = 1 := rfl; omega) (by rw [HQ1.o]; rfl))
    have HQX := hd k3
    clear k3 hl3
    go_wp2_with (first
      | (go_at_call 77; refine (jblanks_any HM.o.at_ (by have := HF.o; omega)).mono ?_; rintro e w3 ⟨rfl, hb3⟩; replace HM := hd (HM.o.below hb3); replace HK := hd (HK.o.ex (Ex.of_below (r := r) hb3) (by have := HR.o; omega)); clear hb3)
      | (go_at_call 130; refine (HT1.o _ HM.o.at_).mono ?_; rintro e w8 ⟨rfl, ha8, hx8⟩; replace HM := hd (HM.o.step ha8 hx8); replace HK := hd (HK.o.ex hx8 (by have := HR.o; omega)); clear ha8 hx8)
      | (go_at_call 76; refine (HV t x _ _ (q1 + 1) dm HE.o HM.o.at_ HQX.o HFOL.o hdd (by have := HDM.o; omega)).mono ?_; rintro e wv ⟨k, sv, A1, n1, m1, A2, n2, m2, rfl, hj, ⟨q2, hq2, hl2, ha2⟩, hxx⟩; have HJ := hd hj; have HB := hd HK.o.blkD; have HC := hd HK.o.blkK; have HB2 := hd HM.o.size; replace HM := hd (HM.o.step ha2 hxx); replace HK := hd (HK.o.ex hxx (by have := HR.o; omega)); have HQ2 := hd hq2; have h7 := fun o : Obj => (HM.o.below ((Below.refl _ _).alloc (Nat.le_refl _) o)).c7.2.2.2; have HSZ := hd HM.o.size; clear hj hq2 hl2 ha2 hxx)
      | (at_builtin; refine wpList_append_lies _ rfl _ _ 78 rfl (w.heap.size + 2) 80 i0 _ 4 72 Tryz.underlying78 I1.o I2.o I3.o I4.o rfl (by decide) (.slice A i m) i cs.flatten rfl ((HK.o.own.alloc _).alloc _) ⟨wv.heap.size + 1, 0, none⟩ 1 1 [.int .i64 k, .string sv, .slice A1 n1 m1, .slice A2 n2 m2] rfl rfl (World.news_of_block (heap_alloc2_new wv _ _)) (by simp [Value.oneCell']) (by decide) (by have := HLL.o; unfold maxLen; omega) (by have := HLL.o; omega) (by have := HSZ.o; simp; omega) (wv.heap.size + 2) (by simp) ?_))
    obtain ⟨wq, hwq⟩ : ∃ wq, wq = wv := ⟨_, rfl⟩
    intro g cap w5 ho hg hgg hlt5
    have hb0 : Below (w.heap.size + 2) wv ((wv.alloc (.cells #[.int .i64 k, .string sv, .slice A1 n1 m1, .slice A2 n2 m2] 80)).alloc (.cells #[.int .i64 k, .string sv, .slice A1 n1 m1, .slice A2 n2 m2] 80)) := ((Below.refl _ _).alloc HSZ.o _).alloc (by have := HSZ.o; simp; omega) _
    have hb5 := hb0.grown hg (by have := HSZ.o; simp; omega) (fun k hk => (HK.o.own.lt k hk).1)
    have HM5 := hd (HM.o.grow hb5)
    have HK5 := hd (HK.o.push HTI.o _ HB.o HC.o HB2.o HJ.o _ _ g cap ho hg hgg)
    have HM6 := hd (HM5.o.setD (.slice (some ⟨g, 0, none⟩) (i + 1) cap))
    have HK6 := hd (HK5.o.ex (Ex.set (w.heap.size + 1) w5 3 (.slice (some ⟨g, 0, none⟩) (i + 1) cap)) (by omega))
    obtain ⟨z0, z1, z2, z3⟩ := HM5.o.c7
    have z7 := HM5.o.f7
    replace HM := HM6
    replace HK := HK6
    clear hwq HM5 HK5 HM6 HK6 hb0 hb5 ho hg hgg hlt5 h7 HJ HB HC HB2 HF x0 x1 x2 x3 y7 k2
    cases ys with
    | nil =>
      have HI1 : Hd (l.length = i + 1) := hd (by have := congrArg List.length hbx; rw [List.length_drop] at this; have := HLB.o; simp at *; omega)
      obtain ⟨k2, hl3, k3⟩ := RJ.pk_drop (x := 125) (t := rest) HQ2.o
      rw [show (125 : UInt8).toNat = 125 from rfl] at k2
      have HF := hd (show RJ.pk L q2 ≠ 32 ∧ RJ.pk L q2 ≠ 10 ∧ RJ.pk L q2 ≠ 13 ∧ RJ.pk L q2 ≠ 9 by omega)
      have hwq := HM.o.at_.wr hl3
      have HK3 := hd k3
      have HL3 := hd hl3
      clear k3 hl3
      go_wp2_with (first
        | (go_at_call 77; refine (jblanks_any HM.o.at_ (by have := HF.o; omega)).mono ?_; rintro e w3 ⟨rfl, hb3⟩; replace HM := hd (HM.o.below hb3); replace HK := hd (HK.o.ex (Ex.of_below (r := r) hb3) (by have := HR.o; omega)); clear hb3)
        | (go_at_call 129; refine (jpeek_any HM.o.at_).mono ?_; rintro e w7 ⟨rfl, hb7⟩; rw [k2]; replace HM := hd (HM.o.below hb7); replace HK := hd (HK.o.ex (Ex.of_below (r := r) hb7) (by have := HR.o; omega)); have cd := HM.o.at_.c1; have fd := HM.o.at_.fz; have f6 := HM.o.f6; have f7 := HM.o.f7; obtain ⟨e0, e1, e2, e3⟩ := HM.o.c7; obtain ⟨g0, g1, g2, g3⟩ := HM.o.c6; obtain ⟨n1, n2, n3, n4⟩ := HN.o; clear hb7))
      have HZ := hd (HM.o.set1.out (.int .i64 6) (.string ⟨#[]⟩) (.slice (some ⟨gk, 0, none⟩) (i + 1) capk) (.slice (some ⟨g, 0, none⟩) (i + 1) cap))
      have HK8 := hd ((HK.o.ex (Ex.set r w7 1 (.int .i64 ((q2 : Int) + 1))) (by have := HR.o; omega)).st4 (g := w.heap.size) (by omega) (.int .i64 6) (.string ⟨#[]⟩) (.slice (some ⟨gk, 0, none⟩) (i + 1) capk) (.slice (some ⟨g, 0, none⟩) (i + 1) cap))
      rw [← HI1.o] at HK8
      refine bodyPost_ret (RJ.res4 rfl _ rfl HZ.o.2.2) rfl ?_
      rw [← HI1.o]
      exact ⟨_, _, _, _, _, _, _, _, rfl, HK8.o.obj HKL.o, ⟨q2 + 1, HK3.o, HL3.o, by rw [HI1.o]; exact HZ.o.1⟩, by rw [HI1.o]; exact HZ.o.2.1⟩
    | cons z zs =>
      have HI1 : Hd (i + 1 < l.length) := hd (by have := congrArg List.length hbx; rw [List.length_drop] at this; have := HLB.o; simp at *; omega)
      have hq3 := HQ2.o
      rw [List.flatMap_cons, List.append_assoc, List.cons_append] at hq3
      obtain ⟨k2, hl3, k3⟩ := RJ.pk_drop (x := 44) hq3
      rw [show (44 : UInt8).toNat = 44 from rfl] at k2
      have HF := hd (show RJ.pk L q2 ≠ 32 ∧ RJ.pk L q2 ≠ 10 ∧ RJ.pk L q2 ≠ 13 ∧ RJ.pk L q2 ≠ 9 by omega)
      have HT2 := hd (fun W (hW : At w0 W r bv L q2) => jtake_any hW ⟨#[44]⟩ (by decide) (by decide) (by have : ByteArray.size ⟨#[44]⟩ = 1 := rfl; omega) (by rw [hq3]; rfl))
      have HTN : Hd (∃ x xs, bs.drop (i + 1) = x :: xs ∧ L.drop (q2 + 1) = x ++ (xs.flatMap (44 :: ·) ++ 125 :: rest)) := hd ⟨z, zs, (RJ.drop_of hbx), k3⟩
      clear k3 hl3 hq3
      go_wp2_with (first
        | (go_at_call 77; refine (jblanks_any HM.o.at_ (by have := HF.o; omega)).mono ?_; rintro e w3 ⟨rfl, hb3⟩; replace HM := hd (HM.o.below hb3); replace HK := hd (HK.o.ex (Ex.of_below (r := r) hb3) (by have := HR.o; omega)); clear hb3)
        | (go_at_call 129; refine (jpeek_any HM.o.at_).mono ?_; rintro e w7 ⟨rfl, hb7⟩; rw [k2]; replace HM := hd (HM.o.below hb7); replace HK := hd (HK.o.ex (Ex.of_below (r := r) hb7) (by have := HR.o; omega)); clear hb7)
        | (go_at_call 130; refine (HT2.o _ HM.o.at_).mono ?_; rintro e w8 ⟨rfl, ha8, hx8⟩; replace HM := hd (HM.o.step ha8 hx8); replace HK := hd (HK.o.ex hx8 (by have := HR.o; omega)); clear ha8 hx8))
      go_roundw
      case rel => exact ⟨i + 1, q2 + 1, _, _, _, HI1.o, HM, HTN, HK⟩
      case measure =>
        rw [HM.o.at_.pos, HM0.o.at_.pos]
        have m1 := congrArg List.length HQL.o
        have m2 := congrArg List.length HQ2.o
        have m3 : 0 < (tx s ++ 58 :: x).length := by simp [tx]
        rw [List.length_append, ← m2, List.length_drop, List.length_drop] at m1
        rw [List.length_drop, List.length_append, List.length_cons] at m2
        have m4 : ByteArray.size ⟨#[44]⟩ = 1 := rfl
        omega
end
end Go.Proofs.YteckfdohgiddgaaGreatDoor
namespace Go.Proofs.YteckfdohgiddgaaGreatDoor
open Go.RowKit
set_option linter.unusedVariables false
set_option linter.unusedSimpArgs false
open RJ
section
variable {w0 w : World} {r : Nat} {bv : Value} {L : List UInt8} {p : Nat}
set_option maxHeartbeats 4000000 in
theorem jmany_nilo (h : At w0 w r bv L p) (rest : List UInt8) (hL : L.drop p = 123 :: 125 :: rest) (deep d : Nat) :
    Calls Tryz.prog 132 #[.pointer (some ⟨r, 0, none⟩), .bool true, .int .i64 (deep : Int)] w fun e w' => ∃ k s A n m A' n' m', e = .returned (.agg #[.int .i64 k, .string s, .slice A n m, .slice A' n' m']) ∧ Js (fun k => w.heap.size ≤ k ∧ k < w'.heap.size) w' (d + 1) (.obj [] []) [.int .i64 k, .string s, .slice A n m, .slice A' n' m'] ∧ (∃ q, L.drop q = rest ∧ q ≤ L.length ∧ At w0 w' r bv L q) ∧ Ex r w w' := by
  obtain ⟨_, hp1, k2⟩ := RJ.pk_drop (x := 123) hL
  obtain ⟨k3, hp2, k4⟩ := RJ.pk_drop (x := 125) k2
  rw [show (125 : UInt8).toNat = 125 from rfl] at k3
  have HM := hd (RJ.ent h 6).set1
  have HP := hd hp2
  have HQ := hd k4
  obtain ⟨cc, fz⟩ := RJ.ent0 h 6
  have HN := hd (show ¬ (w.heap.size + 1 = r) ∧ ¬ (r = w.heap.size + 1) ∧ ¬ (w.heap.size = r) ∧ ¬ (r = w.heap.size) by have := h.lt; omega)
  have hw := h.wr hp1
  have hw2 : IntKind.i64.wrap ((p : Int) + 1 + 1) = (p : Int) + 1 + 1 := by
    have := (h.set1).wr hp2
    rw [Int.natCast_add] at this; exact this
  clear h hL k2 k4 hp1 hp2
  go_enter Tryz.func132, Tryz.ntmps132
  go_wp2_with (first
    | (go_at_call 77; refine (jblanks_any HM.o.at_ (by rw [k3]; decide)).mono ?_; rintro e w1 ⟨rfl, hb1⟩; replace HM := hd (HM.o.below hb1); clear hb1)
    | (go_at_call 129; refine (jpeek_any HM.o.at_).mono ?_; rintro e w2 ⟨rfl, hb1⟩; rw [k3]; replace HM := hd (HM.o.below hb1); have cd := HM.o.at_.c1; have fd := HM.o.at_.fz; have f6 := HM.o.f6; have f7 := HM.o.f7; obtain ⟨e0, e1, e2, e3⟩ := HM.o.c7; obtain ⟨g0, g1, g2, g3⟩ := HM.o.c6; obtain ⟨n1, n2, n3, n4⟩ := HN.o; clear hb1))
  have HZ := hd (HM.o.set1.out (.int .i64 6) (.string ⟨#[]⟩) (.slice none 0 0) (.slice none 0 0))
  refine bodyPost_ret (RJ.res4 rfl _ rfl HZ.o.2.2) rfl ?_
  exact ⟨_, _, _, _, _, _, _, _, rfl, ⟨.slice none 0 0, .slice none 0 0, [], rfl, rfl, ⟨World.ownsRow_nil _ _ _ _, by simp [Value.ownBlock]⟩, ⟨World.ownsRow_nil _ _ _ _, by simp [Value.ownBlock]⟩, rfl, by simp⟩, ⟨p + 1 + 1, HQ.o, HP.o, HZ.o.1⟩, HZ.o.2.1⟩
set_option maxHeartbeats 4000000 in
theorem jval_many {d : Nat} {t : JT} (ob : Bool) (c0 : UInt8) (hc : (c0 = 91 ∧ ob = false) ∨ (c0 = 123 ∧ ob = true)) (h : At w0 w r bv L p) (rest b : List UInt8) (hL : L.drop p = c0 :: b) (deep : Nat) (hd0 : 0 < deep)
    (HM : ∀ W, At w0 W r bv L p → Calls Tryz.prog 132 #[.pointer (some ⟨r, 0, none⟩), .bool ob, .int .i64 (deep : Int)] W fun e w' => ∃ k s A n m A' n' m', e = .returned (.agg #[.int .i64 k, .string s, .slice A n m, .slice A' n' m']) ∧ Js (fun k => W.heap.size ≤ k ∧ k < w'.heap.size) w' d t [.int .i64 k, .string s, .slice A n m, .slice A' n' m'] ∧ (∃ q, L.drop q = rest ∧ q ≤ L.length ∧ At w0 w' r bv L q) ∧ Ex r W w') :
    Calls Tryz.prog 76 #[.pointer (some ⟨r, 0, none⟩), .int .i64 (deep : Int)] w fun e w' => ∃ k s A n m A' n' m', e = .returned (.agg #[.int .i64 k, .string s, .slice A n m, .slice A' n' m']) ∧ Js (fun k => w.heap.size ≤ k ∧ k < w'.heap.size) w' d t [.int .i64 k, .string s, .slice A n m, .slice A' n' m'] ∧ (∃ q, L.drop q = rest ∧ q ≤ L.length ∧ At w0 w' r bv L q) ∧ Ex r w w' := by
  obtain ⟨k1, _, _⟩ := RJ.pk_drop hL
  have HA := hd (h.below ((Below.refl _ _).alloc (Nat.le_refl _) (.cells #[.int .i64 0, .string ⟨#[]⟩, .slice none 0 0, .slice none 0 0] 80)))
  have HX := hd (Ex.of_below (r := r) ((Below.refl w.heap.size w).alloc (Nat.le_refl _) (.cells #[.int .i64 0, .string ⟨#[]⟩, .slice none 0 0, .slice none 0 0] 80)))
  have HK : Hd (Bk (w.alloc (.cells #[.int .i64 0, .string ⟨#[]⟩, .slice none 0 0, .slice none 0 0] 80)) w.heap.size 80 [.int .i64 0, .string ⟨#[]⟩, .slice none 0 0, .slice none 0 0]) := hd (heap_alloc_new _ _)
  have hrw := h.lt
  have hsw := h.le
  have HT := hd HM
  have hdd : ((deep : Int) ≤ 0) = False := eq_false (by omega)
  clear h hL HM
  rcases hc with ⟨rfl, rfl⟩ | ⟨rfl, rfl⟩
  all_goals
    first
      | rw [show (91 : UInt8).toNat = 91 from rfl] at k1
      | rw [show (123 : UInt8).toNat = 123 from rfl] at k1
    go_enter Tryz.func76, Tryz.ntmps76
    go_wp2_with (first
      | (go_at_call 77; refine (jblanks_any HA.o (by rw [k1]; decide)).mono ?_; rintro e w1 ⟨rfl, hb1⟩; replace HX := hd (HX.o.trans (Ex.of_below (r := r) hb1)); replace HK := hd (bk_ex HK.o (Ex.of_below (r := r) hb1) (by omega)); replace HA := hd (HA.o.below hb1); have c2 := HA.o.c2; clear hb1)
      | (go_at_call 129; refine (jpeek_any HA.o).mono ?_; rintro e w2 ⟨rfl, hb1⟩; rw [k1]; replace HX := hd (HX.o.trans (Ex.of_below (r := r) hb1)); replace HK := hd (bk_ex HK.o (Ex.of_below (r := r) hb1) (by omega)); replace HA := hd (HA.o.below hb1); clear hb1)
      | (go_at_call 132; refine (HT.o _ HA.o).mono ?_; rintro e w3 ⟨k, s, A, n, m, A', n', m', rfl, hj, hq, hx⟩; have HJ := hd hj; have HS := hd HX.o.size; have HKb := hd HK.o.lt; replace HX := hd (HX.o.trans hx); replace HK := hd (bk_ex HK.o hx (by omega)); have HQ := hd hq; have f0 := HK.o.frozen 0; have f1 := HK.o.frozen 1; have f2 := HK.o.frozen 2; have f3 := HK.o.frozen 3; have k0 := HK.o.cell 0 (by simp); have kk1 := HK.o.cell 1 (by simp); have kk2 := HK.o.cell 2 (by simp); have kk3 := HK.o.cell 3 (by simp); clear hq hx hj))
    refine bodyPost_ret (RJ.res4 rfl _ rfl (RJ.st4 HK.o)) rfl ?_
    obtain ⟨q, q1, q2, q3⟩ := HQ.o
    have HB := hd (RJ.st4_ex (W := w3) (g := w.heap.size) (B := w.heap.size) (.int .i64 k) (.string s) (.slice A n m) (.slice A' n' m') (Nat.le_refl _))
    refine ⟨_, _, _, _, _, _, _, _, rfl, HJ.o.keep (fun i hi => ?_) (fun i hi => ⟨?_, ?_⟩), ⟨q, q1, q2, q3.belowB HB.o hsw hrw⟩, HX.o.belowB HB.o⟩
    · have hne : i ≠ w.heap.size := by have := HKb.o; omega
      rw [Below.heap_setCell _ _ _ _ hne, Below.heap_setCell _ _ _ _ hne, Below.heap_setCell _ _ _ _ hne, Below.heap_setCell _ _ _ _ hne]
    · have := HS.o; omega
    · have := HB.o.size; simp [World.setCell] at *; omega
theorem value_any (d : Nat) : ∀ {w0 : World} {r : Nat} {bv : Value} {L : List UInt8}, RJ.VOk w0 r bv L d := by
  induction d with
  | zero => intro w0 r bv L t b rest w p deep hE; exact hE.elim
  | succ d ih =>
    intro w0 r bv L t b rest w p deep hE h hL hf hdp hd1
    have hlt := h.lt
    cases t with
    | nul =>
      cases hE
      refine (jval_nul h deep (by omega) rest hL).mono ?_
      rintro e w' ⟨rfl, ha, hx⟩
      exact ⟨_, _, _, _, _, _, _, _, rfl, rfl, ⟨p + 4, drop_app (a := [110, 117, 108, 108]) hL, by have := congrArg List.length hL; rw [List.length_drop, List.length_append] at this; simp at this; omega, ha⟩, hx⟩
    | num s =>
      obtain ⟨rfl, hn⟩ := hE
      obtain ⟨p1, p2, p3, g1, g2, g3, g4, g5, g6, g7⟩ := num_pos hL hn hf
      refine (jval_num h deep (by omega) p1 p2 p3 _ g1 g2 g3 g4 g5 g6 s (by rw [show p + s.data.toList.length - p = s.data.toList.length by omega]; exact g7)).mono ?_
      rintro e w' ⟨rfl, ha, hx⟩
      exact ⟨_, _, _, _, _, _, _, _, rfl, rfl, ⟨_, drop_app hL, g6, ha⟩, hx⟩
    | txt s =>
      obtain ⟨rfl, hs, hv⟩ := hE
      refine (jval_txt h deep (by omega) s.data.toList rest (by rw [hL]; simp [tx]) (by rw [← Lib.size_eq]; exact hs) hv).mono ?_
      rintro e w' ⟨rfl, ha, hx⟩
      exact ⟨_, _, _, _, _, _, _, _, rfl, rfl, ha, hx⟩
    | arr l =>
      obtain ⟨bs, rfl, hl, hll, hi⟩ := hE
      have hL2 : L.drop p = 91 :: (R.jn bs ++ 93 :: rest) := by rw [hL]; simp
      refine jval_many false 91 (.inl ⟨rfl, rfl⟩) h rest _ hL2 deep (by omega) fun W hW => ?_
      cases l with
      | nil =>
        have : bs = [] := by cases bs; rfl; simp at hl
        subst this
        exact jmany_nil hW rest (by rw [hL2]; rfl) deep d
      | cons x l => exact jmany_arr ih hW (x :: l) bs rest hl (by simp) hll hi hL2 deep (deep - 1) (by omega) (by omega) hd1
    | obj ks l =>
      obtain ⟨bs, rfl, hl, hk, hll, hs, hi⟩ := hE
      have hL2 : L.drop p = 123 :: (R.jn ((ks.zip bs).map fun x => tx x.1 ++ 58 :: x.2) ++ 125 :: rest) := by rw [hL]; simp
      refine jval_many true 123 (.inr ⟨rfl, rfl⟩) h rest _ hL2 deep (by omega) fun W hW => ?_
      cases l with
      | nil =>
        have : ks = [] := by cases ks; rfl; simp at hk
        subst this
        exact jmany_nilo hW rest (by rw [hL2]; rfl) deep d
      | cons x l =>
        refine jmany_obj ih hW ks (x :: l) _ rest (by simp [hl, hk]) hk (by simp) hll (fun i y t s h1 h2 h3 => ?_) hL2 deep (deep - 1) (by omega) (by omega) hd1
        have h4 := List.getElem?_eq_some_iff.1 h1
        obtain ⟨h5, h6⟩ := h4
        have h7 : i < ks.length := (List.getElem?_eq_some_iff.1 h3).1
        have h8 : i < bs.length := by simp at h5; omega
        rw [List.getElem_map, List.getElem_zip] at h6
        have h9 : ks[i] = s := (List.getElem?_eq_some_iff.1 h3).2
        rw [h9] at h6
        refine ⟨⟨bs[i], h6.symm, hi i _ t (List.getElem?_eq_getElem h8) h2⟩, hs s (h9 ▸ List.getElem_mem _)⟩
end
end Go.Proofs.YteckfdohgiddgaaGreatDoor
namespace Go.Proofs.YteckfdohgiddgaaGreatDoor
open Go.RowKit
set_option linter.unusedVariables false
set_option linter.unusedSimpArgs false
open RJ
theorem RJ.pk_end (b : List UInt8) : RJ.pk b b.length ≠ 32 ∧ RJ.pk b b.length ≠ 10 ∧ RJ.pk b b.length ≠ 13 ∧ RJ.pk b b.length ≠ 9 := by
  have : RJ.pk b b.length = 0 := by unfold RJ.pk; rw [dif_neg (by omega)]
  omega
theorem RJ.res41 {fn : Func} {q u : Tmp} {W : World} {g : Nat} {a b c d : Value} (hf : fn.results = #[.cell q 80, .tmp u]) (tmps : Array Value) (hp : tmps.getD q undef = .pointer (some ⟨g, 0, none⟩)) (h : Bk W g 80 [a, b, c, d]) :
    (results fn tmps).run Tryz.prog W = .ok (.tuple #[.agg #[a, b, c, d], tmps.getD u undef]) W := by
  rw [results_cell_tmp hf, hp]
  have := run_loadVar_row (P := Tryz.prog) W g 80 80 #[a, b, c, d] (0, 0) _ h Tryz.underlying80 rfl (by kernel_rfl)
  simp [asAddr, this]
section
variable {w : World}
theorem RJ.rd0 (w : World) (bv : Value) (L : List UInt8) (hI : IsL 1 w bv L.length (cellsB L)) (hlim : L.length ≤ 1125899906842624) (hcp : ∃ A c, bv = .slice A L.length c ∧ L.length ≤ c) :
    At w ((w.alloc (.cells #[.int .i64 0, .string ⟨#[]⟩, .slice none 0 0, .slice none 0 0] 80)).alloc (.cells #[bv, .int .i64 0, .bool false] 131)) (w.heap.size + 1) bv L 0 :=
  ⟨((Below.refl _ _).alloc (Nat.le_refl _) _).alloc (by simp) _, by omega, heap_alloc2_new _ _ _, hI, hlim, hcp⟩
set_option maxHeartbeats 4000000 in
theorem jread_any (b : List UInt8) (t : JT) (hE : RJ.Enc 16 b t) (A : Option Addr) (c : Nat) (hI : IsL 1 w (.slice A b.length c) b.length (cellsB b)) (hc : b.length ≤ c) (hlim : b.length ≤ 1125899906842624) :
    Calls Tryz.prog 35 #[.slice A b.length c] w fun e w' => ∃ k s A n m A' n' m', e = .returned (.tuple #[.agg #[.int .i64 k, .string s, .slice A n m, .slice A' n' m'], .bool true]) ∧ Js (fun k => w.heap.size ≤ k ∧ k < w'.heap.size) w' 16 t [.int .i64 k, .string s, .slice A n m, .slice A' n' m'] ∧ Below w.heap.size w w' := by
  have HA := hd (RJ.rd0 w _ b hI hlim ⟨A, c, rfl, hc⟩)
  have HV := hd (value_any 16 (w0 := w) (r := w.heap.size + 1) (bv := .slice A b.length c) (L := b))
  have HE := hd hE
  clear hI hE hlim hc
  have HK0 : Hd (Bk ((w.alloc (.cells #[.int .i64 0, .string ⟨#[]⟩, .slice none 0 0, .slice none 0 0] 80)).alloc (.cells #[.slice A b.length c, .int .i64 0, .bool false] 131)) w.heap.size 80 [.int .i64 0, .string ⟨#[]⟩, .slice none 0 0, .slice none 0 0]) := hd ((RJ.mk_bk _ _ _ _ _).below ((Below.refl _ _).alloc (Nat.le_refl _) _))
  have hne : ((b.length : Int) != (b.length : Int)) = false := by simp
  go_enter Tryz.func35, Tryz.ntmps35
  go_wp2_with (first
    | (go_at_call 76; refine (HV.o t b [] _ 0 16 HE.o HA.o (by simp) (by intro x u h; cases h) (by decide) (by decide)).mono ?_; rintro e w1 ⟨k, s, A1, n1, m1, A2, n2, m2, rfl, hj, ⟨q, hq1, hq2, ha⟩, hx⟩; obtain rfl : q = b.length := Nat.le_antisymm hq2 (by have e := congrArg List.length hq1; rw [List.length_drop] at e; simp at e; omega); have HJ := hd hj; have HX := hd hx; have HK1 := hd (bk_ex HK0.o hx (by omega)); have HB5 := hd (RJ.mk_bk w1 (.int .i64 k) (.string s) (.slice A1 n1 m1) (.slice A2 n2 m2)); have HA1 := hd (ha.below ((Below.refl _ _).alloc (Nat.le_refl _) (.cells #[.int .i64 k, .string s, .slice A1 n1 m1, .slice A2 n2 m2] 80))); have HK2 := hd (HK1.o.below ((Below.refl _ _).alloc (Nat.le_refl _) (.cells #[.int .i64 k, .string s, .slice A1 n1 m1, .slice A2 n2 m2] 80))); clear hj hx hq1 hq2 ha)
    | (go_at_call 77; refine (jblanks_any HA1.o (RJ.pk_end b)).mono ?_; rintro e w2 ⟨rfl, hb2⟩; have HB := hd hb2; have HA2 := hd (HA1.o.below hb2); have HK3 := hd (HK2.o.below hb2); have HC := hd (HB5.o.below hb2); have cc1 := HA2.o.c1; have cc2 := HA2.o.c2; have f0 := HK3.o.frozen 0; have f1 := HK3.o.frozen 1; have f2 := HK3.o.frozen 2; have f3 := HK3.o.frozen 3; have k0 := HK3.o.cell 0 (by simp); have k1 := HK3.o.cell 1 (by simp); have k2 := HK3.o.cell 2 (by simp); have k3 := HK3.o.cell 3 (by simp); have d0 := HC.o.cell 0 (by simp); have d1 := HC.o.cell 1 (by simp); have d2 := HC.o.cell 2 (by simp); have d3 := HC.o.cell 3 (by simp); clear hb2))
  refine bodyPost_ret (RJ.res41 rfl _ rfl (RJ.st4 HK3.o)) rfl ?_
  have HS := hd (RJ.st4_ex (W := w2) (g := w.heap.size) (B := w.heap.size) (.int .i64 k) (.string s) (.slice A1 n1 m1) (.slice A2 n2 m2) (Nat.le_refl _))
  have hb0 : Below w.heap.size w ((w.alloc (.cells #[.int .i64 0, .string ⟨#[]⟩, .slice none 0 0, .slice none 0 0] 80)).alloc (.cells #[.slice A b.length c, .int .i64 0, .bool false] 131)) := ((Below.refl _ _).alloc (Nat.le_refl _) _).alloc (by simp) _
  have hb1 : Below w.heap.size w w1 := hb0.trans (HX.o.below (by omega) hb0.size)
  have hb2 : Below w.heap.size w w2 := (hb1.alloc hb1.size (.cells #[.int .i64 k, .string s, .slice A1 n1 m1, .slice A2 n2 m2] 80)).trans (HB.o.mono (by have := hb1.size; simp; omega))
  have hz2 : w1.heap.size + 1 ≤ w2.heap.size := by have := HB.o.size; simpa using this
  refine ⟨_, _, _, _, _, _, _, _, rfl, HJ.o.keep (fun i hi => ?_) (fun i hi => ⟨?_, ?_⟩), hb2.trans HS.o⟩
  · have hi1 : w.heap.size + 2 ≤ i := by have := hi.1; simpa using this
    have hne : i ≠ w.heap.size := by omega
    rw [Below.heap_setCell _ _ _ _ hne, Below.heap_setCell _ _ _ _ hne, Below.heap_setCell _ _ _ _ hne, Below.heap_setCell _ _ _ _ hne, HB.o.block i (by have := hi.2; simp; omega), Below.heap_alloc _ _ _ hi.2]
  · have hi1 : w.heap.size + 2 ≤ i := by have := hi.1; simpa using this
    omega
  · have := HS.o.size
    have := hi.2
    simp [World.setCell] at *; omega
end
end Go.Proofs.YteckfdohgiddgaaGreatDoor
