/- The walk of the reference's Valid (labels). -/
import Derived.Test.YtifaepkeoffcfaaLVld
namespace Go.Proofs.Ytifaepkeoffcfaa
open Go.RowKit
set_option linter.unusedVariables false
set_option linter.unusedSimpArgs false
set_option maxHeartbeats 2000000 in
theorem refVld_any (va : Value) (n : Nat) (l : List Lb) (w : World) (hl : IsL 2 w va n (cellsL l)) (hn : n ≤ 4398046510976) (hS : ∀ y ∈ l, y.1.size ≤ 1125899906842624 ∧ y.2.size ≤ 1125899906842624) :
    Calls Try.prog 34 #[va] w fun e w' => e = .returned (.bool (L.vld l)) ∧ Below w.heap.size w w' := by
  have hll := IsLb.len hl
  obtain ⟨A, c, rfl⟩ := hl.shape
  have HL := hd hl
  have HLL := hd hll
  have HS := hd hS
  clear hl hll hS
  go_enter Try.func34, Try.ntmps34
  go_wp2
  go_loopw [3] (fun x wr => ∃ k : Nat, k ≤ n ∧ x = .int .i64 k ∧ Hd (L.vldP (L.prev l k) (l.drop k) = L.vld l) ∧ Hd (Below w.heap.size w wr)) (fun x _ => n - (intOf x).toNat)
  case atStart => exact ⟨0, Nat.zero_le _, rfl, hd rfl, hd (Below.refl _ _)⟩
  case round =>
    obtain ⟨k, hk, rfl, hG, HB⟩ := hrel
    by_cases hlt : k < n
    · have hkl : k < l.length := by rw [HLL.o]; exact hlt
      obtain ⟨b, off, rfl, hbl, c1, c2⟩ := IsLb.at_ HL.o k hkl
      have d1 := (HB.o.cell (p := ⟨b, off + k * 2, none⟩) hbl).trans c1
      have d2 := (HB.o.cell (p := ⟨b, off + k * 2 + 1, none⟩) hbl).trans c2
      obtain ⟨hs1, hs2⟩ := HS.o _ (List.getElem_mem hkl)
      have BAD1 := hd (fun h => L.vld_bad1 hkl hG.o h)
      have BAD2 := hd (fun h => L.vld_bad2 hkl hG.o h)
      have NEXT := hd (fun h h2 => L.vld_next hkl hG.o h h2)
      have PREV : Hd (∀ j, k = j + 1 → ∃ (h : j < l.length), ∀ m, L.ahead (L.prev l k) m = L.lt (l[j]'h).1 m) := hd fun j e => by
        subst e
        exact ⟨by omega, fun m => L.prev_succ _ m⟩
      have FIRST : Hd (k = 0 → ∀ m, L.ahead (L.prev l k) m = true) := hd fun e m => by subst e; rfl
      clear hG
      generalize l[k]'hkl = x at *
      obtain ⟨x1, x2⟩ := x
      simp only at d1 d2 hs1 hs2 BAD1 BAD2 NEXT c1 c2
      have HC1 := hd c1
      clear c1 c2
      cases h1 : L.lab x1 with
      | false =>
        have C1 := hd (fun w' => by have h := refIsLabel_any x1 w' hs1; rw [h1] at h; exact h)
        have G := hd (BAD1.o (by unfold L.ok1; rw [h1]; rfl))
        clear h1 BAD1 BAD2 NEXT PREV FIRST
        go_wp2_with (first | (go_at_call 57; refine (C1.o _).mono ?_; rintro e w' ⟨rfl, rfl⟩))
        go_ret
        exact ⟨ret_bool G.o.symm, HB.o⟩
      | true =>
        have C1 := hd (fun w' => by have h := refIsLabel_any x1 w' hs1; rw [h1] at h; exact h)
        cases h2 : x2.toList.isEmpty with
        | true =>
          have G := hd (BAD1.o (by unfold L.ok1; rw [h1, h2]; rfl))
          have hem := empty_of h2
          clear h1 BAD1 BAD2 NEXT PREV FIRST
          go_wp2_with (first | (go_at_call 57; refine (C1.o _).mono ?_; rintro e w' ⟨rfl, rfl⟩))
          go_ret
          exact ⟨ret_bool G.o.symm, HB.o⟩
        | false =>
          have hem := nonempty_of h2
          cases h3 : U.valid x2 with
          | false =>
            have C3 := hd (fun w' => by have h := refValid_any x2 w' hs2; rw [h3] at h; exact h)
            have G := hd (BAD1.o (by unfold L.ok1; rw [h1, h2, h3]; rfl))
            clear h1 h3 BAD1 BAD2 NEXT PREV FIRST
            go_wp2_with (first | (go_at_call 57; refine (C1.o _).mono ?_; rintro e w' ⟨rfl, rfl⟩) | (go_at_call 59; refine (C3.o _).mono ?_; rintro e w2 ⟨rfl, hb⟩; have HB2 := hd (bel HB.o hb); clear hb; have f1 := (HB2.o.cell (p := ⟨b, off + k * 2, none⟩) hbl).trans HC1.o))
            go_ret
            exact ⟨ret_bool G.o.symm, HB2.o⟩
          | true =>
            have C3 := hd (fun w' => by have h := refValid_any x2 w' hs2; rw [h3] at h; exact h)
            have OK : Hd (L.ok1 (x1, x2) = true) := hd (by unfold L.ok1; rw [h1, h2, h3]; rfl)
            clear h1 h3 BAD1
            by_cases hk0 : k = 0
            · have G := hd (NEXT.o OK.o (FIRST.o hk0 _))
              have ed : decide (0 < k) = false := by simp; omega
              have ek : k ≤ 0 := by omega
              clear BAD2 NEXT PREV FIRST hk0
              go_wp2_with (first | (go_at_call 57; refine (C1.o _).mono ?_; rintro e w' ⟨rfl, rfl⟩) | (go_at_call 59; refine (C3.o _).mono ?_; rintro e w2 ⟨rfl, hb⟩; have HB2 := hd (bel HB.o hb); clear hb; have f1 := (HB2.o.cell (p := ⟨b, off + k * 2, none⟩) hbl).trans HC1.o))
              go_quiet (fail)
              go_wp2
              go_roundw
              case rel => exact ⟨k + 1, by omega, by go_num, G, hd (bel_drew HB2.o _)⟩
              case measure => simp [intOf]; omega
            · obtain ⟨j, rfl⟩ : ∃ j, k = j + 1 := ⟨k - 1, by omega⟩
              obtain ⟨hj, hp⟩ := PREV.o j rfl
              obtain ⟨b', off', he, _, c3, _⟩ := IsLb.at_ HL.o j hj
              obtain ⟨rfl, rfl⟩ : b = b' ∧ off = off' := by simpa using he
              have HPX := hd (hp x1)
              generalize (l[j]'hj).1 = y at *
              have HC3 := hd c3
              clear hp he c3 PREV FIRST hk0
              have hj0 : (0 : Int) ≤ (j : Int) := by omega
              have hj1 : (j : Int) < (n : Int) := by omega
              have hj2 : (0 : Int) ≤ (j : Int) + 1 := by omega
              have hj3 : (j : Int) + 1 < (n : Int) := by omega
              have hj4 : ((j : Int) + 1).toNat = j + 1 := by omega
              cases h4 : Op.bytesLess y.toList x1.toList with
              | true =>
                have G := hd (NEXT.o OK.o (by rw [HPX.o]; exact h4))
                clear BAD2 NEXT
                go_wp2_with (first | (go_at_call 57; refine (C1.o _).mono ?_; rintro e w' ⟨rfl, rfl⟩) | (go_at_call 59; refine (C3.o _).mono ?_; rintro e w2 ⟨rfl, hb⟩; have HB2 := hd (bel HB.o hb); clear hb; have f1 := (HB2.o.cell (p := ⟨b, off + (j + 1) * 2, none⟩) hbl).trans HC1.o; have f3 := (HB2.o.cell (p := ⟨b, off + j * 2, none⟩) hbl).trans HC3.o))
                go_quiet (fail)
                go_wp2
                go_roundw
                case rel => exact ⟨j + 1 + 1, by omega, by go_num, G, hd (bel_drew HB2.o _)⟩
                case measure => simp [intOf]; omega
              | false =>
                have G := hd (BAD2.o (by rw [HPX.o]; exact h4))
                clear BAD2 NEXT
                go_wp2_with (first | (go_at_call 57; refine (C1.o _).mono ?_; rintro e w' ⟨rfl, rfl⟩) | (go_at_call 59; refine (C3.o _).mono ?_; rintro e w2 ⟨rfl, hb⟩; have HB2 := hd (bel HB.o hb); clear hb; have f1 := (HB2.o.cell (p := ⟨b, off + (j + 1) * 2, none⟩) hbl).trans HC1.o; have f3 := (HB2.o.cell (p := ⟨b, off + j * 2, none⟩) hbl).trans HC3.o))
                go_quiet (fail)
                go_wp2
                go_ret
                exact ⟨ret_bool G.o.symm, bel_drew HB2.o _⟩
    · have G : Hd (L.vld l = true) := hd <| by rw [← hG.o, List.drop_eq_nil_of_le (by rw [HLL.o]; omega)]; rfl
      go_wp2
      go_ret
      exact ⟨ret_bool G.o.symm, HB.o⟩
end Go.Proofs.Ytifaepkeoffcfaa
