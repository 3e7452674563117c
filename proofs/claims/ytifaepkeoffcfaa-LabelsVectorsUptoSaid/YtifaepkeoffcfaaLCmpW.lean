/- LabelsCompares: the law's walk. -/
import Derived.Test.YtifaepkeoffcfaaLOpen
import Derived.Test.YtifaepkeoffcfaaLCmp
import Derived.Test.YtifaepkeoffcfaaLSame
import Derived.Test.YtifaepkeoffcfaaLApart
import Derived.Deep.RegionLaw
import Derived.Deep.RegionHeld3
namespace Go.Proofs.Ytifaepkeoffcfaa
open Go.RowKit
set_option linter.unusedVariables false
set_option linter.unusedSimpArgs false
/-- append at a step of a region that draws -/
theorem step_app_any {P : Program} {ops : Array Oper} {o : Oper} {a : Act} {w : World} {K : Act → World → Prop} {Q : Exit → Act → World → Prop} {E : Prop} (hgd : o.guard = none)
    (t e : TypeId) (z : Value) (size bytes : Nat) (ht : P.underlying t = some (.slice e)) (hinfo : (P.info? e).map (fun i => (i.zero, i.size, i.bytes)) = some (some z, size, bytes)) (hzs : z.cells.size = size) (hsz : 0 < size)
    (s x : Operand) (ho : o.op = .call { callee := .builtin .append, args := #[s, x], argTypes := #[t, t] })
    (B : Nat) (v : Value) (n : Nat) (xs : List Value) (hs : a.eval s = v) (hown : w.ownsRow B e size v n xs) (y : Value) (m : Nat) (news : List Value) (hx : a.eval x = y) (hy : IsL size w y m news) (h1 : ∀ u ∈ news, u.oneCell' = true)
    (hb : (n + m) * bytes ≤ 140737488355328) (hn : n + m ≤ 140737488355328) (hB : B ≤ w.heap.size)
    (h : ∀ v' w', w'.ownsRow B e size v' (n + m) (xs ++ news) → w.grownBy w' v.ownBlock → (v'.ownBlock = v.ownBlock ∨ v'.ownBlock = some w.heap.size) → K (a.put o.dst v') w') :
    if Region.wanted o (yielded ops a.tmps) = true then Oper.wp P o a w K Q else E := by
  have hw : Region.wanted o (yielded ops a.tmps) = true := by simp [Region.wanted, hgd]
  rw [if_pos hw]
  exact wp_app_keep w t e z size bytes ht hinfo hzs hsz s x ho B v n xs hs hown y m news hx hy h1 hb hn hB fun v' w' h2 h3 _ h5 => h v' w' h2 h3 h5
theorem app_bd {k : Nat} (h : k * 32 ≤ reachBytes) : (0 + k) * 32 ≤ 140737488355328 := by unfold reachBytes at h; omega
theorem app_bd2 {k : Nat} (h : k * 32 ≤ reachBytes) : 0 + k ≤ 140737488355328 := by unfold reachBytes at h; omega
/-- two rows of labels, each in a block of its own; what lies below B is as in w0 -/
structure Two (w0 w : World) (B : Nat) (x y : Value) (n m : Nat) (xs ys : List Lb) : Prop where
  ox : w.ownsRow B 26 2 x n (cellsL xs)
  oy : w.ownsRow B 26 2 y m (cellsL ys)
  ne : x.ownBlock = none ∨ x.ownBlock ≠ y.ownBlock
  bel : Below B w0 w
  base : B ≤ w.heap.size
theorem Two.below {w0 w w' : World} {B : Nat} {x y : Value} {n m : Nat} {xs ys : List Lb} (h : Two w0 w B x y n m xs ys) (hb : Below w.heap.size w w') : Two w0 w' B x y n m xs ys :=
  ⟨own_below h.ox hb, own_below h.oy hb, h.ne, h.bel.trans (hb.mono h.base), Nat.le_trans h.base hb.size⟩
theorem cut_block (A : Option Addr) (n c : Nat) : (Value.slice A 0 c).ownBlock = (Value.slice A n c).ownBlock := by
  rcases A with _ | ⟨b, o, _⟩ <;> rfl
/-- one row is written anew -/
theorem Two.app1 {w0 w w1 : World} {B : Nat} {x y x1 : Value} {n m n1 : Nat} {xs ys xs1 : List Lb} (h : Two w0 w B x y n m xs ys)
    (ho1 : w1.ownsRow B 26 2 x1 n1 (cellsL xs1)) (hg1 : w.grownBy w1 x.ownBlock) (hat1 : x1.ownBlock = x.ownBlock ∨ x1.ownBlock = some w.heap.size) : Two w0 w1 B x1 y n1 m xs1 ys := by
  have hs := h.base
  have lx : ∀ g, x.ownBlock = some g → B ≤ g ∧ g < w.heap.size := fun g hg => h.ox.lt g hg
  have ly : ∀ g, y.ownBlock = some g → B ≤ g ∧ g < w.heap.size := fun g hg => h.oy.lt g hg
  have hs1 : w.heap.size ≤ w1.heap.size := hg1.size
  refine ⟨ho1, h.oy.kept hg1 ?_, ?_, h.bel.grown hg1 hs (fun g hg => (lx g hg).1), by omega⟩
  · rcases h.ne with e | e
    · cases hy : y.ownBlock with
      | none => exact .inl rfl
      | some g => exact .inr (by rw [e]; simp)
    · exact .inr (Ne.symm e)
  · rcases hat1 with e | e
    · rw [e]; exact h.ne
    · rw [e]; refine .inr fun e2 => ?_
      have := (ly _ e2.symm).2
      omega
theorem Two.swap {w0 w : World} {B : Nat} {x y : Value} {n m : Nat} {xs ys : List Lb} (h : Two w0 w B x y n m xs ys) : Two w0 w B y x m n ys xs := by
  refine ⟨h.oy, h.ox, ?_, h.bel, h.base⟩
  rcases h.ne with e | e
  · cases hy : y.ownBlock with
    | none => exact .inl rfl
    | some g => exact .inr (by rw [e]; simp)
  · exact .inr (Ne.symm e)
theorem k_cmp : L.cmps [(⟨#[97]⟩, ⟨#[49]⟩)] [] = 1 := rfl
theorem own_cut {w : World} {B : Nat} {e : TypeId} {size n c : Nat} {A : Option Addr} {xs : List Value} (h : w.ownsRow B e size (.slice A n c) n xs) : w.ownsRow B e size (.slice A 0 c) 0 [] := by
  refine ⟨by simp, ?_⟩
  rcases h.2 with ⟨h1, rfl⟩ | ⟨g, cap, cur, h1, hB, hg, h3, h4, h5, h6⟩
  · simp at h1
    obtain ⟨rfl, rfl⟩ := h1
    exact .inl ⟨rfl, rfl⟩
  · simp at h1
    obtain ⟨rfl, rfl⟩ := h1
    exact .inr ⟨g, c, cur, rfl, hB, hg, Nat.zero_le _, h4, h5, by simp⟩
set_option maxRecDepth 100000 in
set_option maxHeartbeats 2000000 in
theorem compares_walk (va : Value) (l : List (List Lb)) (w : World) (hl : IsLbss w va l) :
    Calls Try.prog 4 #[va] w fun e w' => e = .returned (.bool true) ∧ Below w.heap.size w w' := by
  obtain ⟨A, c, rfl, hn, hc⟩ := hl
  have HC := hd hc
  have KC := hd k_cmp
  unfold maxLen at hn
  clear hc
  go_enter Try.func4, Try.ntmps4
  go_wp2_with (go_at_call 19; refine (compare_any _ _ 1 0 [(⟨#[97]⟩, ⟨#[49]⟩)] [] _ (IsL.own (World.ownsRow_lit (base := w.heap.size) w #[.string ⟨#[97]⟩, .string ⟨#[49]⟩] 1 (Nat.le_refl _) (by decide) rfl)) (IsL.nil 2 _ none 0) (by decide) (by decide)).mono ?_; rintro e w1 ⟨rfl, hb1⟩; rw [KC.o]; have HT0 : Hd (Two w w1 w.heap.size (.slice none 0 0) (.slice none 0 0) 0 0 [] []) := hd ⟨⟨rfl, .inl ⟨rfl, rfl⟩⟩, ⟨rfl, .inl ⟨rfl, rfl⟩⟩, .inl rfl, ((Below.refl w.heap.size w).alloc (Nat.le_refl _) _).trans (hb1.mono (by simp)), Nat.le_trans (by simp) hb1.size⟩; clear hb1)
  go_loopw [3, 4, 16] (fun x y k wr => ∃ (i n m : Nat) (xs ys : List Lb) (Ax Ay : Option Addr) (cx cy : Nat), i ≤ l.length ∧ k = .int .i64 i ∧ x = .slice Ax n cx ∧ y = .slice Ay m cy ∧ Hd (Two w wr w.heap.size (.slice Ax n cx) (.slice Ay m cy) n m xs ys)) (fun _ _ k _ => l.length - (intOf k).toNat)
  case atStart => exact ⟨0, 0, 0, [], [], none, none, 0, 0, by omega, rfl, rfl, rfl, HT0⟩
  case round =>
    clear HT0
    obtain ⟨i, n, m, xs, ys, Ax, Ay, cx, cy, hi, rfl, rfl, rfl, HT⟩ := hrel
    by_cases hlt : i < l.length
    · obtain ⟨b, off, x, rfl, c0, hx, hxn⟩ := HC.o i hlt
      have d0 := (HT.o.bel.cell (p := ⟨b, off + i, none⟩) (World.block_lt_of_cell? w _ c0)).trans c0
      clear c0
      have HX := hd hx
      have HXN := hd hxn
      clear hx hxn
      generalize l[i]'hlt = a at *
      obtain ⟨A1, c1, rfl⟩ := HX.o.shape
      go_wp2
      clear d0
      go_loopw [3, 4, 22] (fun x y k wr => ∃ (j n m : Nat) (xs ys : List Lb) (Ax Ay : Option Addr) (cx cy : Nat), j ≤ l.length ∧ k = .int .i64 j ∧ x = .slice Ax n cx ∧ y = .slice Ay m cy ∧ Hd (Two w wr w.heap.size (.slice Ax n cx) (.slice Ay m cy) n m xs ys)) (fun _ _ k _ => l.length - (intOf k).toNat)
      case atStart => exact ⟨0, n, m, xs, ys, Ax, Ay, cx, cy, by omega, rfl, rfl, rfl, HT⟩
      case round =>
        clear HT
        obtain ⟨j, n, m, xs, ys, Ax, Ay, cx, cy, hj, rfl, rfl, rfl, HT⟩ := hrel
        by_cases hltj : j < l.length
        · obtain ⟨b', off', y, he, c0, hy, hyn⟩ := HC.o j hltj
          obtain ⟨rfl, rfl⟩ : b = b' ∧ off = off' := by simpa using he
          have d0 := (HT.o.bel.cell (p := ⟨b, off + j, none⟩) (World.block_lt_of_cell? w _ c0)).trans c0
          clear c0 he
          have HY := hd hy
          have HYN := hd hyn
          clear hy hyn
          generalize l[j]'hltj = a2 at *
          obtain ⟨A2, c2, rfl⟩ := HY.o.shape
          have HBA := hd (show a.length ≤ 1125899906842624 by have := HXN.o; unfold reachBytes at this; omega)
          have HBB := hd (show a2.length ≤ 1125899906842624 by have := HYN.o; unfold reachBytes at this; omega)
          go_wp2_with (go_at_call 20; refine (refCompare_any _ _ a.length a2.length a a2 _ (HX.o.below HT.o.bel) (HY.o.below HT.o.bel) HBA.o HBB.o).mono ?_; rintro e w2 ⟨rfl, hb2⟩; have HT2 := hd (HT.o.below hb2); clear hb2 HT d0)
          have HO1 := hd (own_below (own_cut HT2.o.ox) (Below.refl _ _).drew)
          have HA2 := hd ((HX.o.below HT2.o.bel).below (Below.refl _ _).drew)
          have HZ2 := hd HT2.o.base
          have HT3 := hd (HT2.o.below (Below.refl _ _).drew)
          clear HT2
          go_region_law (first
            | (refine step_app_any rfl 23 26 (.agg #[.string ⟨#[]⟩, .string ⟨#[]⟩]) 2 32 Try.underlying23 info_label rfl (by decide) (.tmp 30) (.tmp 31) rfl w.heap.size (.slice Ax 0 cx) 0 (cellsL []) (by simp [Act.eval, Act.put]) HO1.o (.slice A1 a.length c1) a.length (cellsL a) (by simp [Act.eval, Act.put]) HA2.o (cellsL_one a) (app_bd HXN.o) (app_bd2 HXN.o) HZ2.o ?_
               intro v1 w3 ho1 hg1 hat1
               rw [Nat.zero_add] at ho1; obtain ⟨Av1, cv1, rfl⟩ := own_shape ho1
               have HT4 := hd (HT3.o.app1 (xs1 := a) ho1 (cut_block Ax n cx ▸ hg1) (cut_block Ax n cx ▸ hat1))
               clear ho1 hg1 hat1)
            | (refine step_app_any rfl 23 26 (.agg #[.string ⟨#[]⟩, .string ⟨#[]⟩]) 2 32 Try.underlying23 info_label rfl (by decide) (.tmp 34) (.tmp 35) rfl w.heap.size (.slice Ay 0 cy) 0 (cellsL []) (by simp [Act.eval, Act.put]) (own_cut HT4.o.oy) (.slice A2 a2.length c2) a2.length (cellsL a2) (by simp [Act.eval, Act.put]) (HY.o.below HT4.o.bel) (cellsL_one a2) (app_bd HYN.o) (app_bd2 HYN.o) HT4.o.base ?_
               intro v2 w4 ho2 hg2 hat2
               rw [Nat.zero_add] at ho2; obtain ⟨Av2, cv2, rfl⟩ := own_shape ho2
               have HT5 := hd (HT4.o.swap.app1 (xs1 := a2) ho2 (cut_block Ay m cy ▸ hg2) (cut_block Ay m cy ▸ hat2)).swap
               clear ho2 hg2 hat2 HT4))
          have hbo2 : (L.cmps a a2 != L.cmps a a2) = false := by simp
          go_wp2_with (go_at_call 19; refine (compare_any _ _ a.length a2.length a a2 _ (IsL.own HT5.o.ox) (IsL.own HT5.o.oy) HBA.o HBB.o).mono ?_; rintro e w5 ⟨rfl, hb5⟩; have HT6 := hd (HT5.o.below hb5); clear hb5 HT5)
          refine (lsame_any _ _ a.length a.length a a _ (IsL.own HT6.o.ox) (HX.o.below HT6.o.bel) HBA.o).mono ?_
          rintro e w6 ⟨rfl, hb6⟩
          rw [decide_eq_true rfl]
          have HT7 := hd (HT6.o.below hb6)
          clear hb6 HT6
          go_wp2_with fail
          refine (lsame_any _ _ a2.length a2.length a2 a2 _ (IsL.own HT7.o.oy) (HY.o.below HT7.o.bel) HBB.o).mono ?_
          rintro e w7 ⟨rfl, hb7⟩
          rw [decide_eq_true rfl]
          have HT8 := hd (HT7.o.below hb7)
          clear hb7 HT7
          go_wp2
          go_roundw
          case rel => exact ⟨j + 1, _, _, a, a2, Av1, Av2, cv1, cv2, by omega, by go_num, rfl, rfl, HT8⟩
          case measure => simp [intOf]; omega
        · go_wp2
          go_roundw
          case rel => exact ⟨i + 1, n, m, xs, ys, Ax, Ay, cx, cy, by omega, by go_num, rfl, rfl, HT⟩
          case measure => simp [intOf]; omega
    · go_wp2
      go_ret
      exact ⟨rfl, HT.o.bel⟩
theorem compares_all (W : World) {H : Type} (v : Value) (d : DataW H) (h : ∃ l, IsLbss W v l) :
    Calls Try.prog 4 #[v] W fun e W' => e = .returned (.bool true) ∧ Below W.heap.size W W' := by
  obtain ⟨l, hl⟩ := h
  exact compares_walk v l W hl
end Go.Proofs.Ytifaepkeoffcfaa
