/- labels.Vector at this program. -/
import Derived.Test.YtifaepkeoffcfaaVBase
import Derived.Test.YtifaepkeoffcfaaVClone
import Derived.Test.YtifaepkeoffcfaaVRef
import Derived.Test.YtifaepkeoffcfaaVSort
import Derived.Test.YtifaepkeoffcfaaLPush
import Derived.Deep.RegionLaw
import Derived.Deep.AppendLies
import Derived.Deep.LoopGhost
namespace Go.Proofs.Ytifaepkeoffcfaa
open Go.RowKit Go.Sort
set_option linter.unusedVariables false
set_option linter.unusedSimpArgs false
/-- append of what was laid last, at a step of a region that draws -/
theorem step_app_lit {P : Program} {ops : Array Oper} {o : Oper} {a : Act} {K : Act → World → Prop} {Q : Exit → Act → World → Prop} {F : Prop} (t e : TypeId) (z : Value) (size bytes : Nat) (ht : P.underlying t = some (.slice e)) (hinfo : (P.info? e).map (fun i => (i.zero, i.size, i.bytes)) = some (some z, size, bytes)) (hzs : z.cells.size = size) (hsz : 0 < size)
    (hgd : o.guard = none) (s x : Operand) (ho : o.op = .call { callee := .builtin .append, args := #[s, x], argTypes := #[t, t] })
    (B : Nat) (v : Value) (n : Nat) (xs : List Value) (W : World) (C : Array Value) (m : Nat) (hs : a.eval s = v) (hx : a.eval x = .slice (some ⟨W.heap.size, 0, none⟩) m m)
    (hown : W.ownsRow B e size v n xs) (hC : C.size = m * size) (h1 : ∀ u ∈ C.toList, u.oneCell' = true) (hm : 0 < m) (hb : (n + m) * bytes ≤ 140737488355328) (hn : n + m ≤ 140737488355328) (hB : B ≤ W.heap.size)
    (h : ∀ g cap w', w'.ownsRow B e size (.slice (some ⟨g, 0, none⟩) (n + m) cap) (n + m) (xs ++ C.toList) → W.grownBy w' v.ownBlock → K (a.put o.dst (.slice (some ⟨g, 0, none⟩) (n + m) cap)) w') :
    if Region.wanted o (yielded ops a.tmps) = true then Oper.wp P o a (W.alloc (.cells C e)) K Q else F := by
  obtain ⟨i, hi, hz0, hz1, hz2⟩ := info_parts hinfo
  refine step_append_lies _ hgd s x t ho B e i z size bytes ht hi hz0 hz1 hz2 hzs hsz v n xs hs (hown.alloc _) ⟨W.heap.size, 0, none⟩ m m C.toList hx (by simpa using hC) ?_ h1 hm (by unfold maxLen; omega) hb (by simp; omega) _ rfl fun g cap w' h2 h3 _ _ => h g cap w' h2 (grown_of_alloc h3)
  intro j u hj
  rw [add_plain, Nat.zero_add, World.cell?_alloc_mark]
  simpa using hj
theorem keep2F {w W w4 : World} {g : Nat} {u v : Value} (hb : Below W.heap.size W w4) (h : W.cell? ⟨g, 0, none⟩ = some u ∧ W.cell? ⟨g, 1, none⟩ = some v ∧ g < W.heap.size ∧ Below w.heap.size w W) :
    w4.cell? ⟨g, 0, none⟩ = some u ∧ w4.cell? ⟨g, 1, none⟩ = some v ∧ g < w4.heap.size ∧ Below w.heap.size w w4 :=
  ⟨(hb.cell (p := ⟨g, 0, none⟩) h.2.2.1).trans h.1, (hb.cell (p := ⟨g, 1, none⟩) h.2.2.1).trans h.2.1, Nat.lt_of_lt_of_le h.2.2.1 hb.size, bel h.2.2.2 hb⟩
theorem LinE.typed {w w' : World} {B : Nat} {T T2 : TypeId} {P : List El} (h : LinE w B T P) {v : Value} {m : Nat} {xs : List Value} (ho : w.ownsRow B T2 2 v m xs) (hne : T ≠ T2) (hg : w.grownBy w' v.ownBlock) : LinE w' B T P :=
  ⟨fun j hj => (h.own j hj).kept hg (own_type_ne (h.own j hj) ho hne), h.dist⟩
theorem dist_symm (x y : El) : (x.sl.ownBlock = none ∨ x.sl.ownBlock ≠ y.sl.ownBlock) → (y.sl.ownBlock = none ∨ y.sl.ownBlock ≠ x.sl.ownBlock) := fun h => by
  by_cases e : y.sl.ownBlock = none
  · exact .inl e
  · right
    rcases h with h | h
    · rw [h]; exact e
    · exact Ne.symm h
theorem LinE.iff {w : World} {B : Nat} {T : TypeId} {P : List El} : LinE w B T P ↔ (∀ x ∈ P, w.ownsRow B T 2 x.sl x.l.length (cellsL x.l)) ∧ P.Pairwise fun x y => x.sl.ownBlock = none ∨ x.sl.ownBlock ≠ y.sl.ownBlock := by
  have e : ∀ i (h : i < P.length), P.getD i default = P[i] := fun i h => by simp [h]
  constructor
  · intro h
    refine ⟨fun x hx => ?_, List.pairwise_iff_getElem.2 fun i j hi hj hij => ?_⟩
    · obtain ⟨i, hi, rfl⟩ := List.getElem_of_mem hx
      have := h.own i hi
      simp only [e i hi] at this
      exact this
    · have := h.dist i j hi hj (by omega)
      simp only [e i hi, e j hj] at this
      exact this
  · rintro ⟨h1, h2⟩
    have h3 := List.pairwise_iff_getElem.1 h2
    refine ⟨fun i hi => ?_, fun i j hi hj hij => ?_⟩
    · simp only [e i hi]; exact h1 _ (List.getElem_mem hi)
    · simp only [e i hi, e j hj]
      rcases Nat.lt_or_gt_of_ne hij with h | h
      · exact h3 i j hi hj h
      · exact dist_symm _ _ (h3 j i hj hi h)
theorem LinE.perm {w : World} {B : Nat} {T : TypeId} {P R : List El} (h : LinE w B T P) (hp : R.Perm P) : LinE w B T R := by
  obtain ⟨h1, h2⟩ := LinE.iff.1 h
  exact LinE.iff.2 ⟨fun x hx => h1 x (hp.mem_iff.1 hx), (hp.pairwise_iff (dist_symm _ _)).2 h2⟩
theorem LinE.lies {w : World} {B : Nat} {T T2 : TypeId} {P : List El} (h : LinE w B T P) {g n c : Nat} {xs : List Value} (ho : w.ownsRow B T2 2 (.slice (some ⟨g, 0, none⟩) n c) n xs) (hne : T ≠ T2) : ∀ x ∈ P, x.Lies w g := fun x hx => by
  have h1 := (LinE.iff.1 h).1 x hx
  refine ⟨IsL.own h1, fun a ha hl e => ?_⟩
  rcases own_type_ne h1 ho hne with h2 | h2
  · rw [El.sl, ha] at h2; cases h2
  · apply h2
    show Value.ownBlock (.slice x.p _ _) = some g
    rw [ha, ← e]; rfl
theorem LinE.isL {w : World} {B : Nat} {T : TypeId} {P : List El} (h : LinE w B T P) : ∀ x ∈ P, IsL 2 w x.sl x.l.length (cellsL x.l) := fun x hx => IsL.own ((LinE.iff.1 h).1 x hx)
/-- the first loop has taken k elements -/
structure VI (w0 : World) (T T2 : TypeId) (E : List El) (k : Nat) (o : Value) (w : World) : Prop where
  ex : ∃ P : List El, P.length = k ∧ P.map El.d = (E.take k).map El.d ∧ w.ownsRow w0.heap.size T 2 o k (cellsE P) ∧ LinE w w0.heap.size T2 P
  bel : Below w0.heap.size w0 w
  nn : ∃ g cap, o = .slice (some ⟨g, 0, none⟩) k cap
set_option maxHeartbeats 2000000 in
set_option maxRecDepth 100000 in
theorem VI.push {w0 w4 w5 w6 : World} {E : List El} {k : Nat} {P : List El} {Ao : Option Addr} {co g cap c5 cc f : Nat} {p A5 : Option Addr} {l : List Lb} (hP : P.length = k ∧ P.map El.d = (E.take k).map El.d)
    (ho : w4.ownsRow w0.heap.size 50 2 (.slice Ao k co) k (cellsE P)) (hl : LinE w4 w0.heap.size 26 P) (hE : (E.take (k + 1)).map El.d = (E.take k).map El.d ++ [El.d ⟨p, cc, l, f⟩])
    (h5 : w5.ownsRow w4.heap.size 26 2 (.slice A5 l.length c5) l.length (cellsL l)) (hb5 : Below w4.heap.size w4 w5) (h04 : Below w0.heap.size w0 w4)
    (h6 : w6.ownsRow w0.heap.size 50 2 (.slice (some ⟨g, 0, none⟩) (k + 1) cap) (k + 1) (cellsE P ++ [.slice A5 l.length c5, .float .f64 f])) (hg6 : w5.grownBy w6 (Value.slice Ao k co).ownBlock) :
    VI w0 50 26 E (k + 1) (.slice (some ⟨g, 0, none⟩) (k + 1) cap) w6 := by
  have ho5 := own_below ho hb5
  refine ⟨⟨P ++ [⟨A5, c5, l, f⟩], by simp [hP.1], by rw [List.map_append, hP.2, hE]; rfl, by rw [cellsE_app]; exact h6, ?_⟩, bel_grown (Go.Proofs.Ytifaepkeoffcfaa.bel h04 hb5) hg6 (fun g hg => (ho5.lt g hg).1), _, _, rfl⟩
  exact (hl.push (x := ⟨A5, c5, l, f⟩) h5 hb5 h04.size).typed ho5 (by decide) hg6
set_option maxHeartbeats 2000000 in
set_option maxRecDepth 100000 in
theorem vec_any (n : Nat) (A : Option Addr) (c : Nat) (E : List El) (w : World) (hV : IsV w (.slice A n c) n E) (hn : n ≤ 1099511627776) (hS : SzE E) :
    Calls Try.prog 26 #[.slice A n c] w fun e w' => Below w.heap.size w w' ∧ ((e = .returned (.tuple #[.slice none 0 0, .int .i64 5]) ∧ VNo E) ∨ ∃ v' R, e = .returned (.tuple #[v', .int .i64 0]) ∧ w'.ownsRow w.heap.size 50 2 v' n (cellsE R) ∧ LinE w' w.heap.size 26 R ∧ VOK E R) := by
  have HV := hd hV
  have HN := hd hV.len
  have HS := hd hS
  clear hV hS
  go_enter Try.func26, Try.ntmps26
  go_wp2_with (at_make; refine wpList_mk0 _ 44 50 (.agg #[.slice none 0 0, .float .f64 0]) 2 32 Try.underlying44 info_elem rfl _ _ rfl w.heap.size _ _ n rfl rfl ?b1 ?b2 ?b3 ?_)
  case b1 => omega
  case b2 => omega
  case b3 => exact Nat.le_refl _
  intro w2 ho hg
  have hb2 : Below w.heap.size w w2 := bel_grown (Below.refl _ _) hg (fun k h => by cases h)
  have HI := hd (show VI w 50 26 E 0 _ w2 from ⟨⟨[], rfl, rfl, by simpa [cellsE] using ho, LinE.nil _ _ _⟩, hb2, _, _, rfl⟩)
  clear hg ho hb2
  go_wp2
  go_loopg [4, 13] n (fun kx o x wr => ∃ k : Nat, k ≤ n ∧ x = .int .i64 k ∧ n - k ≤ kx ∧ Hd (VI w 50 26 E k o wr) ∧ Hd (∀ x ∈ E.take k, L.vld x.l = true))
  case atStart => exact ⟨0, Nat.zero_le _, rfl, Nat.le_refl _, HI, hd (by simp)⟩
  case round =>
    clear HI
    obtain ⟨k, hk, rfl, hkx, HI, HG⟩ := hrel
    by_cases hlt : k < n
    · have hlz : (k : Int) < (n : Int) := by omega
      have hkl : k < E.length := by rw [HN.o]; exact hlt
      have HBW := hd HI.o.bel
      obtain ⟨b, off, rfl, hb, c1, c2⟩ := (HV.o.below HBW.o).at_ k hkl
      have HX := hd (show IsL 2 wr (E[k]'hkl).sl (E[k]'hkl).l.length (cellsL (E[k]'hkl).l) from (HV.o.below HBW.o).2 _ (List.getElem_mem hkl))
      have HSX := hd (HS.o _ (List.getElem_mem hkl))
      have HEK := hd (show (E.take (k + 1)).map El.d = (E.take k).map El.d ++ [(E[k]'hkl).d] by rw [List.take_succ_eq_append_getElem hkl, List.map_append]; rfl)
      have HXM := hd (List.getElem_mem hkl)
      have HTK := hd (List.take_succ_eq_append_getElem hkl)
      generalize E[k]'hkl = x at *
      obtain ⟨p, cc, l, f⟩ := x
      simp only [El.sl] at c1 c2 HX HSX HEK HXM HTK
      have HB1 := hd (show Below wr.heap.size wr (wr.alloc (.cells #[.slice p l.length cc, .float .f64 f] 50)) from (Below.refl _ _).alloc (Nat.le_refl _) _)
      have HVD := hd (vld_any _ _ l _ (HX.o.below HB1.o) (by have := HSX.o.1; omega) HSX.o.2)
      cases hv : L.vld l with
      | false =>
        rw [hv] at HVD
        go_wp2_with (go_at_call 33; refine HVD.o.mono ?_; rintro e w4 ⟨rfl, hb4⟩; have HB4 := hd hb4; clear hb4)
        go_ret2
        exact ⟨bel HBW.o (bel HB1.o HB4.o), .inl ⟨rfl, VNo.bad HXM.o hv⟩⟩
      | true =>
        rw [hv] at HVD
        have HIA := hd (HI.o)
        go_wp2_with (first | fail | (go_at_call 33; refine HVD.o.mono ?_; rintro e w4 ⟨rfl, hb4⟩; have HB4 := hd (bel HB1.o hb4); have HN4 := hd (show wr.heap.size < w4.heap.size from Nat.lt_of_lt_of_le (by simp) hb4.size); have HC4 := hd (And.intro (hb4.cell (p := ⟨wr.heap.size, 0, none⟩) (by simp)) (hb4.cell (p := ⟨wr.heap.size, 1, none⟩) (by simp))); clear hb4))
        have hN4 : wr.heap.size < w4.heap.size := HN4.o
        have d1 : w4.cell? ⟨wr.heap.size, 0, none⟩ = some (.slice p l.length cc) := HC4.o.1.trans (by simp)
        have d2 : w4.cell? ⟨wr.heap.size, 1, none⟩ = some (.float .f64 f) := HC4.o.2.trans (by simp)
        obtain ⟨P, hPk, hPd, hPo, hPl⟩ := HI.o.ex
        obtain ⟨Ao, co, rfl⟩ := own_shape hPo
        have HPO := hd (own_below (own_below hPo HB4.o) (Below.refl _ _).drew)
        have HPL := hd ((hPl.below HB4.o).below (Below.refl _ _).drew)
        have HPD := hd (And.intro hPk hPd)
        have HX4 := hd ((HX.o.below HB4.o).below (Below.refl _ _).drew)
        have HZ := hd (Nat.le_trans HBW.o.size HB4.o.size)
        clear HC4 HVD hPk hPd hPo hPl
        go_region_law (first
            | (refine step_app_lit 44 50 (.agg #[.slice none 0 0, .float .f64 0]) 2 32 Try.underlying44 info_elem rfl (by decide) rfl _ _ rfl w.heap.size _ k (cellsE P) _ #[.slice A5 l.length c5, .float .f64 f] 1 rfl rfl (own_below HPO.o hb5) rfl (by simp [Value.oneCell']) (by decide) (by omega) (by omega) (Nat.le_trans HZ.o hb5.size) ?_; intro g6 cap6 w6 ho6 hg6)
            | (go_simp; go_at_call 53; refine (clone_any _ _ l _ HX4.o HSX.o.1).mono ?_; rintro e w5 ⟨v5, rfl, ho5, hb5⟩; obtain ⟨A5, c5, rfl⟩ := own_shape ho5; have d3 : w5.cell? ⟨wr.heap.size, 0, none⟩ = some (.slice p l.length cc) := (hb5.cell (p := ⟨wr.heap.size, 0, none⟩) hN4).trans d1; have d4 : w5.cell? ⟨wr.heap.size, 1, none⟩ = some (.float .f64 f) := (hb5.cell (p := ⟨wr.heap.size, 1, none⟩) hN4).trans d2))
        all_goals (go_simp; have HI6 := hd (VI.push HPD.o HPO.o HPL.o HEK.o ho5 hb5 (bel HBW.o (bel HB4.o (Below.refl _ _).drew)) ho6 hg6); clear ho6 hg6 ho5 hb5 d3 d4)
        all_goals (
          go_wp2
          go_roundg (n - (k + 1))
          case measure => omega
          case rel => exact ⟨k + 1, by omega, by go_num, by omega, HI6, hd (by
            rw [HTK.o]; intro y hy
            rcases List.mem_append.1 hy with h | h
            · exact HG.o y h
            · rw [List.mem_singleton] at h; subst h; exact hv)⟩)
    · have hkn : k = n := by omega
      subst hkn
      have HVD : Hd (∀ x ∈ E, L.vld x.l = true) := hd (by have := HG.o; rwa [List.take_of_length_le (by rw [HN.o]; omega)] at this)
      have hET : E.take k = E := List.take_of_length_le (by rw [HN.o]; omega)
      obtain ⟨g, cap, rfl⟩ := HI.o.nn
      obtain ⟨P, hPk, hPd, hPo, hPl⟩ := HI.o.ex
      rw [hET] at hPd
      have HB := hd HI.o.bel
      have HPO := hd hPo
      have HPL := hd hPl
      have HPD := hd hPd
      have HSP : Hd (SzE P) := hd (fun x hx => by
        have : x.d ∈ E.map El.d := by rw [← HPD.o]; exact List.mem_map_of_mem hx
        obtain ⟨y, hy, he⟩ := List.mem_map.1 this
        have e1 : y.l = x.l := congrArg Prod.fst he
        have := HS.o y hy
        rw [e1] at this
        exact this)
      have HSO := hd (sortRow_any wr w.heap.size g k cap P HPO.o (fun x hx => ⟨HPL.o.lies HPO.o (by decide) x hx, by have := (HSP.o x hx).1; omega⟩) (by omega))
      clear hPo hPl hPd HI HG hET
      go_wp2_with (go_at_call 54; refine HSO.o.mono ?_; rintro e w2 ⟨rfl, R, hp2, hs2, ho2, hg2⟩)
      have HP2 := hd (And.intro hp2 hs2)
      have HB2 := hd (bel_grown HB.o hg2 (fun g hg => (HPO.o.lt g hg).1))
      have HLR : Hd (LinE w2 w.heap.size 26 R) := hd ((HPL.o.perm hp2).typed HPO.o (by decide) hg2)
      have HVR := hd (IsV.own ho2 HLR.o.isL)
      have HSR : Hd (SzE R) := hd (fun x hx => HSP.o x (hp2.mem_iff.1 hx))
      have HOR := hd ho2
      have HRL := hd HVR.o.len
      have HPM : Hd ((R.map El.d).Perm (E.map El.d)) := hd ((hp2.map El.d).trans (by rw [HPD.o]))
      clear HSO hp2 hs2 hg2 ho2 HB hkx hk hlt HPO HPL HPD
      go_wp2
      go_loopg [7] k (fun kx vj wr2 => ∃ j : Nat, vj = .int .i64 ((j : Int) + 1) ∧ (j < k ∨ j = 0) ∧ k - j ≤ kx ∧ Hd (Below w2.heap.size w2 wr2) ∧ Hd (∀ q (hq : q + 1 < R.length), q < j → L.cmps R[q].l R[q + 1].l ≠ 0))
      case atStart => exact ⟨0, rfl, by omega, by omega, hd (Below.refl _ _), hd (fun q _ h => absurd h (Nat.not_lt_zero _))⟩
      case round =>
        obtain ⟨j, rfl, hj, hkx, HB, HG⟩ := hrel
        by_cases hji : j + 1 < k
        · have hjz : (j : Int) + 1 < (k : Int) := by omega
          have hjR : j + 1 < R.length := by rw [HRL.o]; exact hji
          have e1 : ((j : Int) + 1 - 1) = j := by omega
          have e2 : ((j : Int) + 1).toNat = j + 1 := by omega
          have HVA2 := hd (HVR.o.below HB.o)
          obtain ⟨b1, o1, e4, hA1, a1, _⟩ := HVA2.o.at_ j (by omega)
          obtain ⟨b2, o2, e3, _, a3, _⟩ := HVA2.o.at_ (j + 1) hjR
          simp only [Option.some.injEq, Addr.mk.injEq, and_true] at e3 e4
          obtain ⟨rfl, rfl⟩ := e3
          obtain ⟨rfl, rfl⟩ := e4
          have HXA := hd (HVA2.o.2 _ (List.getElem_mem (show j < R.length by omega)))
          have HXB := hd (HVA2.o.2 _ (List.getElem_mem hjR))
          have HSX := hd (HSR.o _ (List.getElem_mem (show j < R.length by omega)))
          have HSY := hd (HSR.o _ (List.getElem_mem hjR))
          have HGJ := hd (fun (h : L.cmps (R[j]'(by omega)).l (R[j + 1]'hjR).l ≠ 0) q (hq : q + 1 < R.length) (hlt : q < j + 1) => show L.cmps R[q].l R[q + 1].l ≠ 0 by
            by_cases e : q = j
            · subst e; exact h
            · exact HG.o q hq (by omega))
          have HNO := hd (fun (h : L.cmps (R[j]'(by omega)).l (R[j + 1]'hjR).l = 0) => VNo.twice HPM.o hjR h)
          generalize R[j]'(by omega) = x at *
          generalize R[j + 1]'hjR = y at *
          obtain ⟨xp, xc, xl, xf⟩ := x
          obtain ⟨yp, yc, yl, yf⟩ := y
          simp only [El.sl] at a1 a3 HXA HXB HSX HSY
          simp only at HGJ HNO
          rw [Nat.zero_add] at a1 a3
          have HCA := hd (And.intro a1 a3)
          clear a1 a3
          have C1 := hd (fun p : BelW wr => compare_any _ _ _ _ xl yl p.w (HXA.o.below p.h) (HXB.o.below p.h) (by have := HSX.o.1; omega) (by have := HSY.o.1; omega))
          have HJ := hd hj
          have HKX := hd hkx
          clear hj hkx
          by_cases hc : L.cmps xl yl = 0
          · rw [hc] at C1
            go_wp2_with fail
            refine wp_region_below (by kernel_rfl) (by kernel_rfl) ?_
            have f1 := fun p : BelW wr => p.cell (HCA.o).1
            have f2 := fun p : BelW wr => p.cell (HCA.o).2
            repeat (go_big_quiet_step (first | (go_at_call 19; exact Calls.below_of (C1.o _))))
            refine wpQuiet_nil ?_
            rintro _ ⟨⟨w4, hb4⟩, rfl⟩
            clear f1 f2
            have HB4 := hd (bel HB.o hb4)
            clear hb4
            go_wp2
            go_ret2
            exact ⟨bel HB2.o HB4.o, .inl ⟨rfl, HNO.o hc⟩⟩
          · have hcz : ¬ L.cmps xl yl = 0 := hc
            go_wp2_with fail
            refine wp_region_below (by kernel_rfl) (by kernel_rfl) ?_
            have f1 := fun p : BelW wr => p.cell (HCA.o).1
            have f2 := fun p : BelW wr => p.cell (HCA.o).2
            repeat (go_big_quiet_step (first | (go_at_call 19; exact Calls.below_of (C1.o _))))
            refine wpQuiet_nil ?_
            rintro _ ⟨⟨w4, hb4⟩, rfl⟩
            clear f1 f2
            have HB4 := hd (bel HB.o hb4)
            clear hb4
            go_wp2
            go_roundg (k - (j + 1))
            case measure => have := HKX.o; omega
            case rel => exact ⟨j + 1, by go_num, by omega, by omega, HB4, hd (HGJ.o hc)⟩
        · have hjz : ¬ (j : Int) + 1 < (k : Int) := by omega
          go_wp2
          go_ret2
          exact ⟨bel HB2.o HB.o, .inr ⟨_, rfl, R, own_below HOR.o HB.o, (LinE.below HLR.o HB.o), VOK.of HPM.o HVD.o HP2.o.2 (fun q hq => HG.o q hq (by rw [HRL.o] at hq; omega))⟩⟩
end Go.Proofs.Ytifaepkeoffcfaa
