/- JSON texts of plain letters; the answers of render as trees. Plain law. What is read of a tree: cells of its parts. Plain law. -/
import Derived.Test.YteckfdohgiddgaaGreatDoorJReadA
import Derived.Test.YteckfdohgiddgaaGreatDoorRRC
namespace Go.Proofs.YteckfdohgiddgaaGreatDoor
open Go.RowKit
set_option linter.unusedVariables false
set_option linter.unusedSimpArgs false
open RJ
namespace RJ
/-- a letter that stands for itself -/
def Pl (c : UInt8) : Prop := 32 ≤ c.toNat ∧ c.toNat < 128 ∧ c.toNat ≠ 34 ∧ c.toNat ≠ 92
instance (c : UInt8) : Decidable (Pl c) := inferInstanceAs (Decidable (_ ∧ _))
theorem pl_flat : ∀ (l : List UInt8), (∀ c ∈ l, Pl c) → l.flatMap U.wrJ = l
  | [], _ => rfl
  | c :: l, h => by
    have hc : UInt8.ofNat c.toNat = c := by simp
    have h1 := h c (by simp)
    have := U.wrJ_self c.toNat c.toNat_lt ⟨h1.1, h1.2.2⟩
    rw [hc] at this
    rw [List.flatMap_cons, this, pl_flat l (fun x hx => h x (by simp [hx]))]; rfl
theorem one_valid (c : UInt8) (h : c.toNat < 128) : U.valid ⟨#[c]⟩ = true := by
  have ha : U.at' ⟨#[c]⟩ 0 = c.toNat := by simp [U.at', ByteArray.size]; rfl
  have hd := U.dec1 ⟨#[c]⟩ 0 (by rw [ha]; exact h)
  unfold U.valid
  have hb : U.bad ⟨#[c]⟩ 0 = false := by
    unfold U.bad
    rw [hd, beq_eq_false_iff_ne]
    intro e
    rw [Prod.mk.injEq, ha] at e
    have := e.1
    omega
  rw [U.vfrom_step _ _ (by simp [ByteArray.size]) hb, hd, U.vfrom_end _ _ (by simp [ByteArray.size])]
theorem low_valid : ∀ (l : List UInt8), (∀ c ∈ l, c.toNat < 128) → U.valid ⟨l.toArray⟩ = true
  | [], _ => by unfold U.valid; rw [U.vfrom_end _ _ (by simp [ByteArray.size])]
  | c :: l, h => by
    have h1 := one_valid c (h c (by simp))
    have h2 := low_valid l (fun x hx => h x (by simp [hx]))
    have := (U.joined ⟨#[c]⟩ ⟨l.toArray⟩ h1 h2).1
    have e : (⟨#[c]⟩ ++ ⟨l.toArray⟩ : ByteArray) = ⟨(c :: l).toArray⟩ := by
      apply ByteArray.ext
      simp [ByteArray.data_append]
    rw [e] at this; exact this
def str (l : List UInt8) : ByteArray := ⟨l.toArray⟩
theorem tx_pl (l : List UInt8) (h : ∀ c ∈ l, Pl c) : tx (str l) = 34 :: (l ++ [34]) ∧ U.valid (str l) = true :=
  ⟨by unfold tx str; simp [pl_flat l h], low_valid l (fun c hc => (h c hc).2.1)⟩
/-- a text, or nothing where it is none -/
def fx (s : ByteArray) : ByteArray := if U.valid s then s else ⟨#[]⟩
theorem fx_valid (s : ByteArray) : U.valid (fx s) = true := by
  unfold fx; split
  · assumption
  · exact low_valid [] (by simp)
theorem fx_size (s : ByteArray) : (fx s).size ≤ s.size := by
  unfold fx; split
  · exact Nat.le_refl _
  · exact Nat.zero_le _
theorem t_tx (s : ByteArray) : R.t s = tx (fx s) := by
  unfold R.t U.wrS fx
  by_cases h : U.valid s = true
  · simp [h, tx]
  · simp [h, tx]
theorem enc_txt (d : Nat) (s : ByteArray) (hs : s.size ≤ 70368744177664) : Enc (d + 1) (R.t s) (.txt (fx s)) := ⟨t_tx s, Nat.le_trans (fx_size s) hs, fx_valid s⟩
theorem isD_of (c : Nat) (h : c < 10) : isD (UInt8.ofNat (48 + c)).toNat = true := by
  rw [UInt8.toNat_ofNat', show (48 + c) % 2 ^ 8 = 48 + c by omega]
  unfold isD
  simp
  omega
theorem dd_dg (u : Nat) : Dg (Lib.decDigits u) := by
  induction u using Nat.strongRecOn with
  | _ u ih =>
    rw [Lib.decDigits]
    split
    · rename_i h
      exact ⟨by simp, fun x hx => by rw [List.mem_singleton] at hx; subst hx; exact isD_of u h⟩
    · rename_i h
      refine ⟨by simp, fun x hx => ?_⟩
      rcases List.mem_append.1 hx with hx | hx
      · exact (ih (u / 10) (by omega)).2 x hx
      · rw [List.mem_singleton] at hx; subst hx; exact isD_of _ (Nat.mod_lt u (by decide))
theorem dd_head (u : Nat) : 0 < u → (Lib.decDigits u).head? ≠ some 48 := by
  induction u using Nat.strongRecOn with
  | _ u ih =>
    intro h0
    rw [Lib.decDigits]
    split
    · rename_i h
      simp only [List.head?_cons, ne_eq, Option.some.injEq]
      intro e
      have := congrArg UInt8.toNat e
      rw [UInt8.toNat_ofNat', show (48 + u) % 2 ^ 8 = 48 + u by omega] at this
      have e2 : (48 : UInt8).toNat = 48 := rfl
      omega
    · rename_i h
      have h2 := ih (u / 10) (by omega) (by omega)
      cases e : Lib.decDigits (u / 10) with
      | nil => exact absurd e (dd_dg _).1
      | cons x l => rw [e] at h2; exact h2
theorem dd_nought (u : Nat) (h : (Lib.decDigits u).head? = some 48) : Lib.decDigits u = [48] := by
  rcases Nat.eq_zero_or_pos u with e | e
  · subst e; rw [Lib.decDigits_one (by decide)]; rfl
  · exact absurd h (dd_head u e)
theorem rz_sub (l : List UInt8) : ∀ x ∈ T.rz l, x ∈ l := fun x hx => by
  unfold T.rz at hx
  exact List.mem_reverse.1 ((List.dropWhile_sublist _).subset (List.mem_reverse.1 hx))
theorem frac_lex (r : Nat) (h : r < 1000) : T.frac r = [] ∨ ∃ f, T.frac r = 46 :: f ∧ Dg f := by
  unfold T.frac
  split
  · exact .inl rfl
  · refine .inr ⟨_, rfl, T.rz_d3 r (by omega) h, fun x hx => ?_⟩
    have := rz_sub _ x hx
    unfold T.d3 at this
    simp only [List.mem_cons, List.not_mem_nil, or_false] at this
    rcases this with rfl | rfl | rfl
    · exact isD_of _ (by omega)
    · exact isD_of _ (by omega)
    · exact isD_of _ (by omega)
theorem sec_lex (ms : Int) : NumLex (T.sec ms) := by
  unfold T.sec
  refine ⟨_, _, _, rfl, ?_, dd_dg _, dd_nought _, frac_lex _ (Nat.mod_lt _ (by decide))⟩
  split
  · exact .inr rfl
  · exact .inl rfl
theorem enc_sec (d : Nat) (ms : Int) : Enc (d + 1) (T.sec ms) (.num (str (T.sec ms))) := ⟨by simp [str], sec_lex ms⟩
theorem dg_pl {c : UInt8} (h : isD c.toNat = true) : Pl c := by
  have := isD_lt h
  unfold Pl; omega
theorem rep_pl (n : Nat) : ∀ c ∈ List.replicate n (48 : UInt8), Pl c := fun c hc => by
  rw [(List.mem_replicate.1 hc).2]; decide
theorem app_pl {a b : List UInt8} (ha : ∀ c ∈ a, Pl c) (hb : ∀ c ∈ b, Pl c) : ∀ c ∈ a ++ b, Pl c := fun c hc => (List.mem_append.1 hc).elim (ha c) (hb c)
theorem dd_pl (u : Nat) : ∀ c ∈ Lib.decDigits u, Pl c := fun c hc => dg_pl ((dd_dg u).2 c hc)
theorem plain_pl (D : List UInt8) (k : Int) (h : ∀ c ∈ D, Pl c) : ∀ c ∈ plainT D k, Pl c := by
  unfold plainT
  split
  · exact app_pl (app_pl (by decide) (rep_pl _)) h
  · split
    · exact app_pl (app_pl (fun c hc => h c (List.mem_of_mem_take hc)) (by decide)) (fun c hc => h c (List.mem_of_mem_drop hc))
    · exact app_pl h (rep_pl _)
theorem sgn_pl (b : Bool) : ∀ c ∈ sgn b, Pl c := by cases b <;> decide
theorem tell_pl (f : Nat) : ∀ c ∈ FS.tell f, Pl c := by
  unfold FS.tell
  split
  · rename_i h
    rcases Classical.choose_spec h with ⟨_, e⟩ | ⟨_, _, e⟩ | ⟨_, _, d, t, _, _, e⟩
    · rw [e]; split
      · split <;> decide
      · decide
    · rw [e]; exact app_pl (sgn_pl _) (by decide)
    · rw [e]; exact app_pl (sgn_pl _) (plain_pl _ _ (dd_pl d))
  · simp
theorem str_size (l : List UInt8) : (str l).size = l.length := by unfold str; rw [Lib.size_eq]
theorem enc_pl (d : Nat) (l : List UInt8) (h : ∀ c ∈ l, Pl c) (hs : l.length ≤ 70368744177664) : Enc (d + 1) (34 :: (l ++ [34])) (.txt (str l)) := ⟨(tx_pl l h).1.symm, by rw [str_size]; exact hs, (tx_pl l h).2⟩
/-- a point -/
noncomputable def ptT (t : Int) (f : Nat) : JT := .arr [.num (str (T.sec t)), .txt (str (FS.tell f))]
theorem enc_pt (d : Nat) (t : Int) (f : Nat) : Enc (d + 2) (RS.pt t f) (ptT t f) := by
  refine ⟨[T.sec t, 34 :: (FS.tell f ++ [34])], ?_, rfl, by simp, fun i x u h1 h2 => ?_⟩
  · unfold RS.pt
    rw [jn_cons]; simp
  · match i, h1, h2 with
    | 0, h1, h2 => cases h1; cases h2; exact enc_sec d t
    | 1, h1, h2 => cases h1; cases h2; exact enc_pl d _ (tell_pl f) (by have := FS.tell_len f; omega)
    | i + 2, h1, h2 => simp at h1
/-- labels -/
def stT (l : List Lb) : JT := .obj (l.map fun x => fx x.1) (l.map fun x => .txt (fx x.2))
theorem enc_st (d : Nat) (l : List Lb) (hl : l.length ≤ 1099511627776) (hs : ∀ x ∈ l, x.1.size ≤ 70368744177664 ∧ x.2.size ≤ 70368744177664) : Enc (d + 2) (R.st l) (stT l) := by
  refine ⟨l.map fun x => R.t x.2, ?_, by simp, by simp, by simpa using hl, fun s h => ?_, fun i x u h1 h2 => ?_⟩
  · unfold R.st
    congr 3
    rw [List.zip_map', List.map_map]
    exact List.map_congr_left fun x _ => by simp [R.lb, t_tx]
  · obtain ⟨x, hx, rfl⟩ := List.mem_map.1 h
    exact ⟨Nat.le_trans (fx_size _) (hs x hx).1, fx_valid _⟩
  · rw [List.getElem?_map] at h1 h2
    cases e : l[i]? with
    | none => rw [e] at h1; cases h1
    | some y =>
      rw [e] at h1 h2
      cases h1; cases h2
      exact enc_txt d _ (hs y (List.mem_of_getElem? e)).2
theorem enc_two (d : Nat) (k1 k2 v1 v2 : List UInt8) (t1 t2 : JT) (h1 : ∀ c ∈ k1, Pl c) (h2 : ∀ c ∈ k2, Pl c) (l1 : k1.length ≤ 100) (l2 : k2.length ≤ 100) (e1 : Enc d v1 t1) (e2 : Enc d v2 t2) :
    Enc (d + 1) (123 :: (34 :: (k1 ++ 34 :: 58 :: v1) ++ 44 :: 34 :: (k2 ++ 34 :: 58 :: v2)) ++ [125]) (.obj [str k1, str k2] [t1, t2]) := by
  refine ⟨[v1, v2], ?_, rfl, rfl, by simp, fun s h => ?_, fun i x u g1 g2 => ?_⟩
  · simp only [List.zip_cons_cons, List.zip_nil_right, List.map_cons, List.map_nil]
    rw [jn_cons, (tx_pl k1 h1).1, (tx_pl k2 h2).1]; simp
  · simp only [List.mem_cons, List.not_mem_nil, or_false] at h
    rcases h with rfl | rfl
    · exact ⟨by rw [str_size]; omega, (tx_pl k1 h1).2⟩
    · exact ⟨by rw [str_size]; omega, (tx_pl k2 h2).2⟩
  · match i, g1, g2 with
    | 0, g1, g2 => cases g1; cases g2; exact e1
    | 1, g1, g2 => cases g1; cases g2; exact e2
    | i + 2, g1, g2 => simp at g1
theorem enc_lst (d : Nat) {α : Type} (f : α → List UInt8) (g : α → JT) (l : List α) (hl : l.length ≤ 1099511627776) (h : ∀ x ∈ l, Enc d (f x) (g x)) : Enc (d + 1) (R.lst (l.map f)) (.arr (l.map g)) := by
  refine ⟨l.map f, by simp [R.lst], by simp, by simpa using hl, fun i x u h1 h2 => ?_⟩
  rw [List.getElem?_map] at h1 h2
  cases e : l[i]? with
  | none => rw [e] at h1; cases h1
  | some y =>
    rw [e] at h1 h2
    cases h1; cases h2
    exact h y (List.mem_of_getElem? e)
def bMetric : List UInt8 := [109, 101, 116, 114, 105, 99]
def bValue : List UInt8 := [118, 97, 108, 117, 101]
def bValues : List UInt8 := [118, 97, 108, 117, 101, 115]
def bStatus : List UInt8 := [115, 116, 97, 116, 117, 115]
def bSuccess : List UInt8 := [115, 117, 99, 99, 101, 115, 115]
def bData : List UInt8 := [100, 97, 116, 97]
def bType : List UInt8 := [114, 101, 115, 117, 108, 116, 84, 121, 112, 101]
def bResult : List UInt8 := [114, 101, 115, 117, 108, 116]
noncomputable def elT (t : Int) (x : RS.El) : JT := .obj [str bMetric, str bValue] [stT x.l, ptT t x.f]
noncomputable def seT (x : RS.Sr) : JT := .obj [str bMetric, str bValues] [stT x.l, .arr (x.ps.map fun p => ptT p.t p.f)]
theorem enc_el (d : Nat) (t : Int) (x : RS.El) (hl : x.l.length ≤ 1099511627776) (hs : RS.SmL' x.l) : Enc (d + 3) (RS.el t x) (elT t x) := by
  have := enc_two (d + 2) bMetric bValue (R.st x.l) (RS.pt t x.f) _ _ (by decide) (by decide) (by decide) (by decide) (enc_st d x.l hl (fun y hy => ⟨by have := (hs y hy).1; omega, by have := (hs y hy).2; omega⟩)) (enc_pt d t x.f)
  refine cast (congrArg (fun b => Enc (d + 3) b (elT t x)) ?_) this
  simp [RS.el, RS.kMetric, RS.kValue, bMetric, bValue]
theorem enc_se (d : Nat) (x : RS.Sr) (hl : x.l.length ≤ 1099511627776) (hs : RS.SmL' x.l) (hp : x.ps.length ≤ 1099511627776) : Enc (d + 4) (RS.se x) (seT x) := by
  have := enc_two (d + 3) bMetric bValues (R.st x.l) (RS.pts x.ps) _ _ (by decide) (by decide) (by decide) (by decide) (enc_st (d + 1) x.l hl (fun y hy => ⟨by have := (hs y hy).1; omega, by have := (hs y hy).2; omega⟩)) (enc_lst (d + 2) (fun p : RS.Pt => RS.pt p.t p.f) (fun p => ptT p.t p.f) x.ps hp (fun p _ => enc_pt d p.t p.f))
  refine cast (congrArg (fun b => Enc (d + 4) b (seT x)) ?_) this
  simp [RS.se, RS.kMetric, RS.kValues, RS.pts, bMetric, bValues]
def okT (t : JT) : JT := .obj [str bStatus, str bData] [.txt (str bSuccess), t]
theorem enc_ok (d : Nat) (b : List UInt8) (t : JT) (h : Enc (d + 1) b t) : Enc (d + 2) (RS.pre ++ b ++ [125]) (okT t) := by
  have := enc_two (d + 1) bStatus bData (34 :: (bSuccess ++ [34])) b _ _ (by decide) (by decide) (by decide) (by decide) (enc_pl d bSuccess (by decide) (by decide)) h
  refine cast (congrArg (fun b => Enc (d + 2) b (okT t)) ?_) this
  simp [RS.pre, bStatus, bData, bSuccess]
def wholeT (n : List UInt8) (t : JT) : JT := okT (.obj [str bType, str bResult] [.txt (str n), t])
theorem enc_whole (d : Nat) (n b : List UInt8) (t : JT) (hn : ∀ c ∈ n, Pl c) (hl : n.length ≤ 100) (h : Enc (d + 1) b t) : Enc (d + 3) (RS.whole n b) (wholeT n t) := by
  have h2 := enc_two (d + 1) bType bResult (34 :: (n ++ [34])) b _ _ (by decide) (by decide) (by decide) (by decide) (enc_pl d n hn (by omega)) h
  have := enc_ok (d + 1) _ _ h2
  refine cast (congrArg (fun b => Enc (d + 3) b (wholeT n t)) ?_) this
  simp [RS.whole, RS.head, RS.pre, bType, bResult]
noncomputable def resT (r : RS.Res) : JT :=
  if r.ty = 1 then wholeT RS.nScalar (ptT r.t r.v) else
  if r.ty = 2 then wholeT RS.nString (.arr [.num (str (T.sec r.t)), .txt (fx r.tx)]) else
  if r.ty = 3 then wholeT RS.nVector (.arr (r.E.map (elT r.t))) else
  if r.ty = 4 then wholeT RS.nMatrix (.arr (r.S.map seT)) else okT .nul
theorem enc_str (d : Nat) (t : Int) (s : ByteArray) (hs : s.size ≤ 70368744177664) : Enc (d + 2) (91 :: (T.sec t ++ 44 :: (R.t s ++ [93]))) (.arr [.num (str (T.sec t)), .txt (fx s)]) := by
  refine ⟨[T.sec t, R.t s], ?_, rfl, by simp, fun i x u h1 h2 => ?_⟩
  · rw [jn_cons]; simp
  · match i, h1, h2 with
    | 0, h1, h2 => cases h1; cases h2; exact enc_sec d t
    | 1, h1, h2 => cases h1; cases h2; exact enc_txt d s hs
    | i + 2, h1, h2 => simp at h1
theorem _root_.Go.Proofs.YteckfdohgiddgaaGreatDoor.RS.mem_wt {α : Type} (g : α → Nat) : ∀ (l : List α) (x : α), x ∈ l → g x ≤ RS.wt g l
  | y :: l, x, h => by
    rw [RS.wt]
    rcases List.mem_cons.1 h with rfl | h
    · omega
    · have := RS.mem_wt g l x h
      omega
theorem enc_res {w : World} (r : RS.Res) (h : r.Ok w) : Enc 16 (RS.bytes r) (resT r) := by
  unfold RS.bytes resT
  have nE := h.nE
  have nS := h.nS
  split
  · exact enc_whole 13 _ _ _ (by decide) (by decide) (enc_pt 12 _ _)
  split
  · exact enc_whole 13 _ _ _ (by decide) (by decide) (enc_str 12 _ _ (by have := h.tx; omega))
  split
  · refine enc_whole 13 _ _ _ (by decide) (by decide) (enc_lst 13 _ _ _ (by omega) fun x hx => ?_)
    obtain ⟨i, hi, rfl⟩ := List.mem_iff_getElem.1 hx
    obtain ⟨_, _, _, _, _, _, _, hs, _⟩ := h.E.at_ i hi
    exact enc_el 10 _ _ (by have := RS.mem_wt RS.gE r.E _ (List.getElem_mem hi); have := h.wE; unfold RS.gE at *; omega) hs
  split
  · refine enc_whole 13 _ _ _ (by decide) (by decide) (enc_lst 13 _ _ _ (by omega) fun x hx => ?_)
    obtain ⟨i, hi, rfl⟩ := List.mem_iff_getElem.1 hx
    obtain ⟨_, _, _, _, _, _, _, hs, _⟩ := h.S.at_ i hi
    exact enc_se 9 _ (by have := RS.mem_wt RS.gS r.S _ (List.getElem_mem hi); have := h.wS; unfold RS.gS at *; omega) hs (by have := RS.mem_wt RS.gS r.S _ (List.getElem_mem hi); have := h.wS; unfold RS.gS at *; omega)
  · have := enc_ok 14 [110, 117, 108, 108] .nul rfl
    exact this
end RJ
end Go.Proofs.YteckfdohgiddgaaGreatDoor
namespace Go.Proofs.YteckfdohgiddgaaGreatDoor
open Go.RowKit
set_option linter.unusedVariables false
set_option linter.unusedSimpArgs false
open RJ
namespace RJ
/-- a row's cells, in every world that keeps its block -/
theorem RowP.cells {P : Nat → Prop} {w : World} {e : TypeId} {size : Nat} {v : Value} {n : Nat} {xs : List Value} (h : RowP P w e size v n xs) : ∃ A c, v = .slice A n c ∧ ∀ j x, xs[j]? = some x → ∃ g, A = some ⟨g, 0, none⟩ ∧ P g ∧ ∀ W : World, (∀ k, P k → W.heap[k]? = w.heap[k]?) → W.cell? ⟨g, j, none⟩ = some x := by
  rcases h.1.2 with ⟨rfl, rfl⟩ | ⟨g, cap, cur, rfl, _, hg, _, _, _, hx⟩
  · refine ⟨none, 0, rfl, fun j x hj => ?_⟩
    have := (List.getElem?_eq_some_iff.1 hj).1
    have := h.1.1
    omega
  · refine ⟨_, cap, rfl, fun j x hj => ⟨g, rfl, h.2 g rfl, fun W hW => ?_⟩⟩
    have h1 := (hW g (h.2 g rfl)).trans hg
    rw [cell_of_row W g j cur e (0, 0) h1]
    rw [← hx] at hj
    have h2 := List.getElem?_eq_some_iff.1 hj
    obtain ⟨h3, h4⟩ := h2
    rw [List.getElem_take] at h4
    rw [List.length_take] at h3
    have h5 : j < cur.size := by have : cur.toList.length = cur.size := rfl; omega
    rw [Array.getElem?_eq_getElem h5]
    exact congrArg some h4
theorem flat4 {cs : List (List Value)} (hl : ∀ c ∈ cs, c.length = 4) (i : Nat) (c : List Value) (h : cs[i]? = some c) (j : Nat) (hj : j < 4) : cs.flatten[i * 4 + j]? = c[j]? := by
  induction cs generalizing i with
  | nil => simp at h
  | cons x cs ih =>
    have hx := hl x (by simp)
    cases i with
    | zero =>
      simp only [List.getElem?_cons_zero, Option.some.injEq] at h
      subst h
      rw [List.flatten_cons, List.getElem?_append_left (by omega)]
      simp
    | succ i =>
      rw [List.getElem?_cons_succ] at h
      rw [List.flatten_cons, List.getElem?_append_right (by omega), hx, show (i + 1) * 4 + j - 4 = i * 4 + j by omega]
      exact ih (fun c hc => hl c (by simp [hc])) i h
theorem Js.len {P : Nat → Prop} {w : World} {d : Nat} {t : JT} {c : List Value} (h : Js P w d t c) : c.length = 4 := by
  obtain ⟨_, _, _, _, _, _, _, _, rfl⟩ := h.shape; rfl
/-- the parts of a list or an object: D's row, each part's four cells -/
theorem kids_cells {P : Nat → Prop} {w : World} {d : Nat} {l : List JT} {D : Value} {cs : List (List Value)} (hr : RowP P w 80 4 D l.length cs.flatten) (hl : cs.length = l.length) (ht : ∀ (i : Nat) (t : JT) (x : List Value), l[i]? = some t → cs[i]? = some x → Js P w d t x) :
    ∃ A m, D = .slice A l.length m ∧ ∀ i t, l[i]? = some t → ∃ g x, A = some ⟨g, 0, none⟩ ∧ P g ∧ Js P w d t x ∧ ∀ W : World, (∀ k, P k → W.heap[k]? = w.heap[k]?) → ∀ j u, x[j]? = some u → W.cell? ⟨g, i * 4 + j, none⟩ = some u := by
  obtain ⟨A, m, hD, hc⟩ := hr.cells
  refine ⟨A, m, hD, fun i t hi => ?_⟩
  have hi2 := (List.getElem?_eq_some_iff.1 hi).1
  have hx : cs[i]? = some (cs[i]'(by omega)) := List.getElem?_eq_getElem (by omega)
  have hJ := ht i t _ hi hx
  have h4 : ∀ c ∈ cs, c.length = 4 := fun c hcm => by
    obtain ⟨k, hk, rfl⟩ := List.mem_iff_getElem.1 hcm
    exact (ht k _ _ (List.getElem?_eq_getElem (show k < l.length by omega)) (List.getElem?_eq_getElem hk)).len
  have h0 := flat4 h4 i _ hx
  have hlen := hJ.len
  obtain ⟨g, hA, hP, _⟩ := hc (i * 4 + 0) _ ((h0 0 (by omega)).trans (List.getElem?_eq_getElem (by omega)))
  refine ⟨g, _, hA, hP, hJ, fun W hW j u hu => ?_⟩
  have hj := (List.getElem?_eq_some_iff.1 hu).1
  obtain ⟨g', hA', _, hcell⟩ := hc (i * 4 + j) u ((h0 j (by omega)).trans hu)
  rw [hA] at hA'
  simp only [Option.some.injEq, Addr.mk.injEq, and_true] at hA'
  rw [hA']
  exact hcell W hW
end RJ
end Go.Proofs.YteckfdohgiddgaaGreatDoor
