/- The walk of the reference's Make (labels). -/
import Derived.Test.YtifaepkeoffcfaaLRefVld
import Derived.Test.YtifaepkeoffcfaaLRefWith
namespace Go.Proofs.Ytifaepkeoffcfaa
open Go.RowKit
set_option linter.unusedVariables false
set_option linter.unusedSimpArgs false
namespace L
def mkErrP : List Lb → List Lb → Int
  | _, [] => 0
  | b, x :: r => if lab x.1 && !named x.1 b then (if U.valid x.2 then mkErrP (b ++ [x]) r else 4) else 160
def mkErr (l : List Lb) : Int := mkErrP [] l
def made (l : List Lb) : List Lb := if mkErr l = 0 then mkL l else []
theorem mkL_snoc (l : List Lb) (x : Lb) : mkL (l ++ [x]) = withL (mkL l) x.1 x.2 := by
  unfold mkL mkFrom; rw [List.foldl_append]; rfl
theorem mkFrom_len : ∀ (l acc : List Lb), (mkFrom acc l).length ≤ acc.length + l.length
  | [], acc => by simp [mkFrom]
  | x :: l, acc => by
    have h := mkFrom_len l (withL acc x.1 x.2)
    have h2 := withGo_len x.1 x.2 acc x.2.toList.isEmpty
    show (mkFrom (withL acc x.1 x.2) l).length ≤ _
    unfold withL at h ⊢
    simp; omega
theorem mkL_len (l : List Lb) : (mkL l).length ≤ l.length := by
  have := mkFrom_len l []
  simpa [mkL] using this
theorem mkErrP_step (l : List Lb) (k : Nat) (h : k < l.length) : mkErrP (l.take k) (l.drop k) =
    if lab (l[k]'h).1 && !named (l[k]'h).1 (l.take k) then (if U.valid (l[k]'h).2 then mkErrP (l.take (k + 1)) (l.drop (k + 1)) else 4) else 160 := by
  rw [List.drop_eq_getElem_cons h, List.take_succ_eq_append_getElem h]
  conv => lhs; unfold mkErrP
end L
theorem cellsL_takeIs {w : World} {A : Option Addr} {n c : Nat} {l : List Lb} (h : IsL 2 w (.slice A n c) n (cellsL l)) (k : Nat) (hk : k ≤ n) : IsL 2 w (.slice A k c) k (cellsL (l.take k)) := by
  have hl := IsLb.len h
  obtain ⟨h1, A', c', e, r⟩ := h
  simp only [Value.slice.injEq, true_and] at e
  obtain ⟨rfl, rfl⟩ := e
  refine ⟨by rw [cellsL_len, List.length_take, Nat.min_eq_left (by omega)], A, c, rfl, fun i hi => ?_⟩
  have hi2 : i < (cellsL l).length := by rw [cellsL_len] at hi ⊢; rw [List.length_take] at hi; omega
  obtain ⟨b, off, rfl, hc⟩ := r i hi2
  refine ⟨b, off, rfl, ?_⟩
  rw [hc]
  have : (cellsL (l.take k))[i]'hi = (cellsL l)[i]'hi2 := by
    simp only [← cellsL_take]
    rw [List.getElem_take]
  rw [this]
theorem ret_mk {x : Value} {a b : Int} (h : a = b) : Ending.returned (.tuple #[x, .int .i64 a]) = .returned (.tuple #[x, .int .i64 b]) := by rw [h]
set_option maxHeartbeats 2000000 in
theorem refMake_any (A : Option Addr) (n c : Nat) (l : List Lb) (w : World) (hl : IsL 2 w (.slice A n c) n (cellsL l)) (hnc : n ≤ c) (hn : n ≤ 4398046510976) (hS : ∀ y ∈ l, y.1.size ≤ 1125899906842624 ∧ y.2.size ≤ 1125899906842624) :
    Calls Try.prog 31 #[.slice A n c] w fun e w' => ∃ x, e = .returned (.tuple #[x, .int .i64 (L.mkErr l)]) ∧ w'.ownsRow w.heap.size 26 2 x (L.made l).length (cellsL (L.made l)) ∧ Below w.heap.size w w' := by
  have hll := IsLb.len hl
  have HL := hd hl
  have HLL := hd hll
  have HS := hd hS
  clear hl hll hS
  go_enter Try.func31, Try.ntmps31
  go_wp2
  go_loopw [4, 5] (fun o x wr => ∃ k : Nat, k ≤ n ∧ x = .int .i64 k ∧ Hd (wr.ownsRow w.heap.size 26 2 o (L.mkL (l.take k)).length (cellsL (L.mkL (l.take k)))) ∧ Hd (L.mkErrP (l.take k) (l.drop k) = L.mkErr l) ∧ Hd (Below w.heap.size w wr)) (fun _ x _ => n - (intOf x).toNat)
  case atStart => exact ⟨0, Nat.zero_le _, rfl, hd (by simpa [L.mkL, L.mkFrom, cellsL] using World.ownsRow_nil w w.heap.size 26 2), hd rfl, hd (Below.refl _ _)⟩
  case round =>
    obtain ⟨k, hk, rfl, HO, hG, HB⟩ := hrel
    have hzr := HB.o.size
    by_cases hlt : k < n
    · have hkl : k < l.length := by rw [HLL.o]; exact hlt
      obtain ⟨b, off, rfl, hbl, c1, c2⟩ := IsLb.at_ HL.o k hkl
      have d1 := (HB.o.cell (p := ⟨b, off + k * 2, none⟩) hbl).trans c1
      have d2 := (HB.o.cell (p := ⟨b, off + k * 2 + 1, none⟩) hbl).trans c2
      obtain ⟨hs1, hs2⟩ := HS.o _ (List.getElem_mem hkl)
      have HST := hd (hG.o.symm.trans (L.mkErrP_step l k hkl))
      have HMK : Hd (L.mkL (l.take (k + 1)) = L.withL (L.mkL (l.take k)) (l[k]'hkl).1 (l[k]'hkl).2) := hd (by rw [List.take_succ_eq_append_getElem hkl, L.mkL_snoc])
      have HT := hd (cellsL_takeIs HL.o k hk)
      have hpl : (L.mkL (l.take k)).length ≤ k := Nat.le_trans (L.mkL_len _) (List.length_take_le _ _)
      clear c1 c2 hG
      generalize l[k]'hkl = x at *
      obtain ⟨x1, x2⟩ := x
      simp only at d1 d2 hs1 hs2 HST HMK
      generalize hP : L.mkL (l.take k) = P at *
      clear hP
      obtain ⟨W, hW⟩ : ∃ W, W = wr.alloc (.cells #[.string x1, .string x2] 26) := ⟨_, rfl⟩
      obtain ⟨g, hg⟩ : ∃ g, g = wr.heap.size := ⟨_, rfl⟩
      have e1 : W.cell? ⟨g, 0, none⟩ = some (.string x1) := by rw [hW, hg]; simp
      have e2 : W.cell? ⟨g, 1, none⟩ = some (.string x2) := by rw [hW, hg]; simp
      have HBW : Hd (Below w.heap.size w W) := hd (by rw [hW]; exact HB.o.alloc hzr _)
      have HC := hd (And.intro e1 e2)
      have HOW : Hd (W.ownsRow w.heap.size 26 2 u4 P.length (cellsL P)) := hd (by rw [hW]; exact HO.o.alloc _)
      have HW := hd hW
      have HG := hd hg
      clear e1 e2 hW hg HO
      have hk0 : (0 : Int) ≤ (k : Int) := by omega
      have hkc : (k : Int) ≤ (c : Int) := by omega
      cases h1 : L.lab x1 with
      | false =>
        have C1 := hd (fun w' => by have h := refIsLabel_any x1 w' hs1; rw [h1] at h; exact h)
        have G : Hd (L.mkErr l = 160) := hd (by rw [HST.o, h1]; rfl)
        have GM : Hd (L.made l = []) := hd (by unfold L.made; rw [if_neg (by rw [G.o]; decide)])
        clear h1 HST HMK HT
        go_wp2_with fail
        rw [← HW.o, ← HG.o]
        refine wp_region_below (by kernel_rfl) (by kernel_rfl) ?_
        have f1 := fun p : BelW W => p.cell (HC.o).1
        repeat (go_big_quiet_step (first | (go_at_call 57; exact Calls.below_same (C1.o _))))
        refine wpQuiet_nil ?_
        rintro _ ⟨⟨w2, hb2⟩, rfl⟩
        clear f1
        go_wp2
        go_ret2
        exact ⟨.slice none 0 0, ret_mk G.o.symm, by rw [GM.o]; exact World.ownsRow_nil _ _ _ _, bel HBW.o hb2⟩
      | true =>
        have C1 := hd (fun w' => by have h := refIsLabel_any x1 w' hs1; rw [h1] at h; exact h)
        cases h2 : L.named x1 (l.take k) with
        | true =>
          have C2 := hd (fun p : BelW W => by have h := named_any _ k (l.take k) x1 p.w (HT.o.below (bel HBW.o p.h)) (by omega); rw [h2] at h; exact h)
          have G : Hd (L.mkErr l = 160) := hd (by rw [HST.o, h1, h2]; rfl)
          have GM : Hd (L.made l = []) := hd (by unfold L.made; rw [if_neg (by rw [G.o]; decide)])
          clear h1 h2 HST HMK HT
          go_wp2_with fail
          rw [← HW.o, ← HG.o]
          refine wp_region_below (by kernel_rfl) (by kernel_rfl) ?_
          have f1 := fun p : BelW W => p.cell (HC.o).1
          repeat (go_big_quiet_step (first | (go_at_call 57; exact Calls.below_same (C1.o _)) | (go_at_call 58; exact Calls.below_same (C2.o _))))
          refine wpQuiet_nil ?_
          rintro _ ⟨⟨w2, hb2⟩, rfl⟩
          clear f1
          go_wp2
          go_ret2
          exact ⟨.slice none 0 0, ret_mk G.o.symm, by rw [GM.o]; exact World.ownsRow_nil _ _ _ _, bel HBW.o hb2⟩
        | false =>
          have C2 := hd (fun p : BelW W => by have h := named_any _ k (l.take k) x1 p.w (HT.o.below (bel HBW.o p.h)) (by omega); rw [h2] at h; exact h)
          cases h3 : U.valid x2 with
          | false =>
            have C3 := hd (fun w' => by have h := refValid_any x2 w' hs2; rw [h3] at h; exact h)
            have G : Hd (L.mkErr l = 4) := hd (by rw [HST.o, h1, h2, h3]; rfl)
            have GM : Hd (L.made l = []) := hd (by unfold L.made; rw [if_neg (by rw [G.o]; decide)])
            clear h1 h2 h3 HST HMK HT
            go_wp2_with fail
            rw [← HW.o, ← HG.o]
            refine wp_region_below (by kernel_rfl) (by kernel_rfl) ?_
            have f1 := fun p : BelW W => p.cell (HC.o).1
            repeat (go_big_quiet_step (first | (go_at_call 57; exact Calls.below_same (C1.o _)) | (go_at_call 58; exact Calls.below_same (C2.o _))))
            refine wpQuiet_nil ?_
            rintro _ ⟨p, rfl⟩
            clear f1
            have f2 := p.cell (HC.o).2
            go_wp2_with (go_at_call 59; refine (C3.o _).mono ?_; rintro e w3 ⟨rfl, hb⟩; have HB3 := hd (bel (bel HBW.o p.h) hb); clear hb)
            go_ret2
            exact ⟨.slice none 0 0, ret_mk G.o.symm, by rw [GM.o]; exact World.ownsRow_nil _ _ _ _, HB3.o⟩
          | true =>
            have C3 := hd (fun w' => by have h := refValid_any x2 w' hs2; rw [h3] at h; exact h)
            have G : Hd (L.mkErrP (l.take (k + 1)) (l.drop (k + 1)) = L.mkErr l) := hd (by rw [HST.o, h1, h2, h3]; rfl)
            clear h1 h2 h3 HST HT
            go_wp2_with fail
            rw [← HW.o, ← HG.o]
            refine wp_region_below (by kernel_rfl) (by kernel_rfl) ?_
            have f1 := fun p : BelW W => p.cell (HC.o).1
            repeat (go_big_quiet_step (first | (go_at_call 57; exact Calls.below_same (C1.o _)) | (go_at_call 58; exact Calls.below_same (C2.o _))))
            refine wpQuiet_nil ?_
            rintro _ ⟨p, rfl⟩
            clear f1
            have f2 := p.cell (HC.o).2
            go_wp2_with (go_at_call 59; refine (C3.o _).mono ?_; rintro e w3 ⟨rfl, hb⟩; have B3 := hd (bel p.h hb); have q1 := B3.o.cell (p := ⟨g, 0, none⟩) (World.block_lt_of_cell? W _ (HC.o).1) |>.trans (HC.o).1; have q2 := B3.o.cell (p := ⟨g, 1, none⟩) (World.block_lt_of_cell? W _ (HC.o).2) |>.trans (HC.o).2; clear hb f2)
            have HO3 := hd (own_below HOW.o B3.o)
            have HB3 := hd (bel HBW.o B3.o)
            go_wp2_with (go_at_call 13; refine (refWith_any u4 P.length P x1 x2 _ (IsL.own HO3.o) (by omega)).mono ?_; rintro e w4 ⟨y, rfl, ho, hb⟩; have HO4 := hd (own_mono ho HB3.o.size); have HB4 := hd (bel HB3.o hb); clear ho hb q1 q2)
            rw [← HMK.o] at HO4
            go_roundw
            case rel => exact ⟨k + 1, by omega, by go_num, HO4, G, HB4⟩
            case measure => simp [intOf]; omega
    · have e : l.take k = l := List.take_of_length_le (by rw [HLL.o]; omega)
      have e2 : l.drop k = [] := List.drop_eq_nil_of_le (by rw [HLL.o]; omega)
      have G : Hd (L.mkErr l = 0) := hd (by rw [← hG.o, e2]; rfl)
      have GM : Hd (L.made l = L.mkL l) := hd (by unfold L.made; rw [if_pos G.o])
      rw [e] at HO
      clear e e2 hG
      go_wp2
      go_ret2
      exact ⟨_, ret_mk G.o.symm, by rw [GM.o]; exact HO.o, HB.o⟩
end Go.Proofs.Ytifaepkeoffcfaa
