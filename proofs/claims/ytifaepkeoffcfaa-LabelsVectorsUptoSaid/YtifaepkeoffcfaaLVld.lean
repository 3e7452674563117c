/- The walks of labels.Valid and of the reference's Valid. -/
import Derived.Test.YtifaepkeoffcfaaLGet
import Derived.Test.YtifaepkeoffcfaaLName
import Derived.Test.YtifaepkeoffcfaaLOrd
import Derived.Test.YtifaepkeoffcfaaUWalkA
import Derived.Test.YtifaepkeoffcfaaUWalkC
import Derived.Test.YtifaepkeoffcfaaBQuiet
namespace Go.Proofs.Ytifaepkeoffcfaa
open Go.RowKit
set_option linter.unusedVariables false
set_option linter.unusedSimpArgs false
namespace L
/-- a sound label -/
def ok1 (x : Lb) : Bool := lab x.1 && !x.2.toList.isEmpty && U.valid x.2
def ahead (p : Option ByteArray) (n : ByteArray) : Bool := match p with | none => true | some y => lt y n
def vldP : Option ByteArray → List Lb → Bool
  | _, [] => true
  | p, x :: r => ok1 x && ahead p x.1 && vldP (some x.1) r
def vld (l : List Lb) : Bool := vldP none l
def prev (l : List Lb) (k : Nat) : Option ByteArray := if k = 0 then none else (l[k - 1]?).map (·.1)
theorem vld_step (l : List Lb) (k : Nat) (h : k < l.length) : vldP (prev l k) (l.drop k) = (ok1 (l[k]'h) && ahead (prev l k) (l[k]'h).1 && vldP (prev l (k + 1)) (l.drop (k + 1))) := by
  rw [List.drop_eq_getElem_cons h]
  conv => lhs; unfold vldP
  have : prev l (k + 1) = some (l[k]'h).1 := by
    unfold prev
    rw [if_neg (by omega)]
    simp [List.getElem?_eq_getElem h]
  rw [this]
theorem vld_bad1 {l : List Lb} {k : Nat} (h : k < l.length) (hG : vldP (prev l k) (l.drop k) = vld l) (hb : ok1 (l[k]'h) = false) : vld l = false := by
  rw [← hG, vld_step l k h, hb]; rfl
theorem vld_bad2 {l : List Lb} {k : Nat} (h : k < l.length) (hG : vldP (prev l k) (l.drop k) = vld l) (hb : ahead (prev l k) (l[k]'h).1 = false) : vld l = false := by
  rw [← hG, vld_step l k h, hb]; simp
theorem vld_next {l : List Lb} {k : Nat} (h : k < l.length) (hG : vldP (prev l k) (l.drop k) = vld l) (hb : ok1 (l[k]'h) = true) (hb2 : ahead (prev l k) (l[k]'h).1 = true) : vldP (prev l (k + 1)) (l.drop (k + 1)) = vld l := by
  rw [← hG, vld_step l k h, hb, hb2]; rfl
theorem prev_succ {l : List Lb} {j : Nat} (h : j < l.length) (n : ByteArray) : ahead (prev l (j + 1)) n = lt (l[j]'h).1 n := by
  unfold prev
  rw [if_neg (by omega)]
  simp [List.getElem?_eq_getElem h, ahead]
end L
theorem empty_of {s : ByteArray} (h : s.toList.isEmpty = true) : s.toList = [] := List.isEmpty_iff.1 h
theorem nonempty_of {s : ByteArray} (h : s.toList.isEmpty = false) : ¬ s.toList = [] := by rw [← List.isEmpty_iff, h]; simp
set_option maxHeartbeats 2000000 in
theorem vld_any (va : Value) (n : Nat) (l : List Lb) (w : World) (hl : IsL 2 w va n (cellsL l)) (hn : n ≤ 4398046510976) (hS : ∀ y ∈ l, y.1.size ≤ 1125899906842624 ∧ y.2.size ≤ 1125899906842624) :
    Calls Try.prog 33 #[va] w fun e w' => e = .returned (.bool (L.vld l)) ∧ Below w.heap.size w w' := by
  have hll := IsLb.len hl
  obtain ⟨A, c, rfl⟩ := hl.shape
  have HL := hd hl
  have HLL := hd hll
  have HS := hd hS
  clear hl hll hS
  go_enter Try.func33, Try.ntmps33
  go_wp2
  go_loopw [7] (fun x wr => ∃ k : Nat, k ≤ n ∧ x = .int .i64 k ∧ Hd (L.vldP (L.prev l k) (l.drop k) = L.vld l) ∧ Hd (Below w.heap.size w wr)) (fun x _ => n - (intOf x).toNat)
  case atStart => exact ⟨0, Nat.zero_le _, rfl, hd rfl, hd (Below.refl _ _)⟩
  case round =>
    obtain ⟨k, hk, rfl, hG, HB⟩ := hrel
    have hzr := HB.o.size
    by_cases hlt : k < n
    · have hkl : k < l.length := by rw [HLL.o]; exact hlt
      obtain ⟨b, off, rfl, hbl, c1, c2⟩ := IsLb.at_ HL.o k hkl
      have d1 := (HB.o.cell (p := ⟨b, off + k * 2, none⟩) hbl).trans c1
      have d2 := (HB.o.cell (p := ⟨b, off + k * 2 + 1, none⟩) hbl).trans c2
      obtain ⟨hs1, hs2⟩ := HS.o _ (List.getElem_mem hkl)
      have BAD1 := hd (fun h => L.vld_bad1 hkl hG.o h)
      have BAD2 := hd (fun h => L.vld_bad2 hkl hG.o h)
      have NEXT := hd (fun h h2 => L.vld_next hkl hG.o h h2)
      have PREV : Hd (∀ j, k = j + 1 → ∃ (h : j < l.length), ∀ m, L.ahead (L.prev l k) m = L.lt (l[j]'h).1 m) := hd fun j e => by
        subst e
        exact ⟨by omega, fun m => L.prev_succ _ m⟩
      have FIRST : Hd (k = 0 → ∀ m, L.ahead (L.prev l k) m = true) := hd fun e m => by subst e; rfl
      clear c1 c2 hG
      generalize l[k]'hkl = x at *
      obtain ⟨x1, x2⟩ := x
      simp only at d1 d2 hs1 hs2 BAD1 BAD2 NEXT
      obtain ⟨W, hW⟩ : ∃ W, W = wr.alloc (.cells #[.string x1, .string x2] 26) := ⟨_, rfl⟩
      obtain ⟨g, hg⟩ : ∃ g, g = wr.heap.size := ⟨_, rfl⟩
      have e1 : W.cell? ⟨g, 0, none⟩ = some (.string x1) := by rw [hW, hg]; simp
      have e2 : W.cell? ⟨g, 1, none⟩ = some (.string x2) := by rw [hW, hg]; simp
      have HBW : Hd (Below w.heap.size w W) := hd (by rw [hW]; exact HB.o.alloc hzr _)
      have HC := hd (And.intro e1 e2)
      have HW := hd hW
      have HG := hd hg
      clear e1 e2 hW hg
      cases h1 : L.lab x1 with
      | false =>
        have C1 := hd (fun w' => by have h := isLabel_any x1 w' hs1; rw [h1] at h; exact h)
        have G := hd (BAD1.o (by unfold L.ok1; rw [h1]; rfl))
        clear h1 BAD1 BAD2 NEXT PREV FIRST
        go_wp2_with fail
        rw [← HW.o, ← HG.o]
        refine wp_region_below (by kernel_rfl) (by kernel_rfl) ?_
        have f1 := fun p : BelW W => p.cell (HC.o).1
        have f2 := fun p : BelW W => p.cell (HC.o).2
        repeat (go_big_quiet_step (first | (go_at_call 60; exact Calls.below_same (C1.o _))))
        refine wpQuiet_nil ?_
        rintro _ ⟨⟨w2, hb2⟩, rfl⟩
        clear f1 f2
        go_wp2
        go_ret
        exact ⟨ret_bool G.o.symm, bel HBW.o hb2⟩
      | true =>
        have C1 := hd (fun w' => by have h := isLabel_any x1 w' hs1; rw [h1] at h; exact h)
        cases h2 : x2.toList.isEmpty with
        | true =>
          have G := hd (BAD1.o (by unfold L.ok1; rw [h1, h2]; rfl))
          have hem := empty_of h2
          clear h1 BAD1 BAD2 NEXT PREV FIRST
          go_wp2_with fail
          rw [← HW.o, ← HG.o]
          refine wp_region_below (by kernel_rfl) (by kernel_rfl) ?_
          have f1 := fun p : BelW W => p.cell (HC.o).1
          have f2 := fun p : BelW W => p.cell (HC.o).2
          repeat (go_big_quiet_step (first | (go_at_call 60; exact Calls.below_same (C1.o _))))
          refine wpQuiet_nil ?_
          rintro _ ⟨⟨w2, hb2⟩, rfl⟩
          clear f1 f2
          go_wp2
          go_ret
          exact ⟨ret_bool G.o.symm, bel HBW.o hb2⟩
        | false =>
          have hem := nonempty_of h2
          cases h3 : U.valid x2 with
          | false =>
            have C3 := hd (fun w' => by have h := Valid_any x2 w' hs2; rw [h3] at h; exact h)
            have G := hd (BAD1.o (by unfold L.ok1; rw [h1, h2, h3]; rfl))
            clear h1 h3 BAD1 BAD2 NEXT PREV FIRST
            go_wp2_with fail
            rw [← HW.o, ← HG.o]
            refine wp_region_below (by kernel_rfl) (by kernel_rfl) ?_
            have f1 := fun p : BelW W => p.cell (HC.o).1
            have f2 := fun p : BelW W => p.cell (HC.o).2
            repeat (go_big_quiet_step (first | (go_at_call 60; exact Calls.below_same (C1.o _)) | (go_at_call 61; exact Calls.below_of (C3.o _))))
            refine wpQuiet_nil ?_
            rintro _ ⟨⟨w2, hb2⟩, rfl⟩
            clear f1 f2
            go_wp2
            go_ret
            exact ⟨ret_bool G.o.symm, bel HBW.o hb2⟩
          | true =>
            have C3 := hd (fun w' => by have h := Valid_any x2 w' hs2; rw [h3] at h; exact h)
            have OK : Hd (L.ok1 (x1, x2) = true) := hd (by unfold L.ok1; rw [h1, h2, h3]; rfl)
            clear h1 h3 BAD1
            by_cases hk0 : k = 0
            · have G := hd (NEXT.o OK.o (FIRST.o hk0 _))
              have ed : decide (0 < k) = false := by simp; omega
              have ek : k ≤ 0 := by omega
              clear BAD2 NEXT PREV FIRST hk0
              go_wp2_with fail
              rw [← HW.o, ← HG.o]
              refine wp_region_below (by kernel_rfl) (by kernel_rfl) ?_
              have f1 := fun p : BelW W => p.cell (HC.o).1
              have f2 := fun p : BelW W => p.cell (HC.o).2
              repeat (go_big_quiet_step (first | (go_at_call 60; exact Calls.below_same (C1.o _)) | (go_at_call 61; exact Calls.below_of (C3.o _))))
              refine wpQuiet_nil ?_
              rintro _ ⟨⟨w2, hb2⟩, rfl⟩
              clear f1 f2
              have HB2 := hd (bel HBW.o hb2)
              clear hb2
              go_wp2
              go_roundw
              case rel => exact ⟨k + 1, by omega, by go_num, G, HB2⟩
              case measure => simp [intOf]; omega
            · obtain ⟨j, rfl⟩ : ∃ j, k = j + 1 := ⟨k - 1, by omega⟩
              obtain ⟨hj, hp⟩ := PREV.o j rfl
              obtain ⟨b', off', he, _, c3, _⟩ := IsLb.at_ HL.o j hj
              obtain ⟨rfl, rfl⟩ : b = b' ∧ off = off' := by simpa using he
              have c4 := (HBW.o.cell (p := ⟨b, off + j * 2, none⟩) hbl).trans c3
              have hbW : b < W.heap.size := Nat.lt_of_lt_of_le hbl HBW.o.size
              have HPX := hd (hp x1)
              generalize (l[j]'hj).1 = y at *
              clear hp he c3 PREV FIRST hk0
              have hj0 : (0 : Int) ≤ (j : Int) := by omega
              have hj1 : (j : Int) < (n : Int) := by omega
              cases h4 : Op.bytesLess y.toList x1.toList with
              | true =>
                have G := hd (NEXT.o OK.o (by rw [HPX.o]; exact h4))
                clear BAD2 NEXT
                go_wp2_with fail
                rw [← HW.o, ← HG.o]
                refine wp_region_below (by kernel_rfl) (by kernel_rfl) ?_
                have f1 := fun p : BelW W => p.cell (HC.o).1
                have f2 := fun p : BelW W => p.cell (HC.o).2
                have f3 := fun p : BelW W => p.cell c4
                repeat (go_big_quiet_step (first | (go_at_call 60; exact Calls.below_same (C1.o _)) | (go_at_call 61; exact Calls.below_of (C3.o _))))
                refine wpQuiet_nil ?_
                rintro _ ⟨⟨w2, hb2⟩, rfl⟩
                clear f1 f2
                have HB2 := hd (bel HBW.o hb2)
                clear hb2
                go_wp2
                go_roundw
                case rel => exact ⟨j + 1 + 1, by omega, by go_num, G, HB2⟩
                case measure => simp [intOf]; omega
              | false =>
                have G := hd (BAD2.o (by rw [HPX.o]; exact h4))
                clear BAD2 NEXT
                go_wp2_with fail
                rw [← HW.o, ← HG.o]
                refine wp_region_below (by kernel_rfl) (by kernel_rfl) ?_
                have f1 := fun p : BelW W => p.cell (HC.o).1
                have f2 := fun p : BelW W => p.cell (HC.o).2
                have f3 := fun p : BelW W => p.cell c4
                repeat (go_big_quiet_step (first | (go_at_call 60; exact Calls.below_same (C1.o _)) | (go_at_call 61; exact Calls.below_of (C3.o _))))
                refine wpQuiet_nil ?_
                rintro _ ⟨⟨w2, hb2⟩, rfl⟩
                clear f1 f2
                go_wp2
                go_ret
                exact ⟨ret_bool G.o.symm, bel HBW.o hb2⟩
    · have G : Hd (L.vld l = true) := hd <| by rw [← hG.o, List.drop_eq_nil_of_le (by rw [HLL.o]; omega)]; rfl
      go_wp2
      go_ret
      exact ⟨ret_bool G.o.symm, HB.o⟩
end Go.Proofs.Ytifaepkeoffcfaa
