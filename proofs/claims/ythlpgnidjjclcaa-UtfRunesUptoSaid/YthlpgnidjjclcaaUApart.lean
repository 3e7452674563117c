/- The walk of weirlaw01.apart: lists that share no memory. -/
import Derived.Test.YthlpgnidjjclcaaLin
import Derived.Test.YthlpgnidjjclcaaUText
namespace Go.Proofs.Ythlpgnidjjclcaa
open Go.RowKit
set_option linter.unusedVariables false
set_option linter.unusedSimpArgs false
def mk (b i : Nat) : Value := .int .i32 ((b : Int) + (i : Int))
def R1 (n : Nat → Nat) (a : Nat) : List Value := List.replicate (n a) (mk 1000 a)
def R2 (n : Nat → Nat) (a : Nat) : List Value := R1 n a ++ List.replicate 16 (mk 2000 a)
def R3 (n : Nat → Nat) (a : Nat) : List Value := R2 n a ++ List.replicate 200 (mk 3000 a)
theorem R3_at (n : Nat → Nat) (a j : Nat) (h : j < (R3 n a).length) : (R3 n a)[j]'h = if j < n a then mk 1000 a else if j < n a + 16 then mk 2000 a else mk 3000 a := by
  have e : (R3 n a)[j]? = some ((R3 n a)[j]'h) := List.getElem?_eq_getElem h
  have l1 : (R1 n a).length = n a := List.length_replicate
  have l2 : (R2 n a).length = n a + 16 := by unfold R2; rw [List.length_append, l1, List.length_replicate]
  have hl : j < n a + 16 + 200 := by unfold R3 at h; rw [List.length_append, l2, List.length_replicate] at h; exact h
  rw [← Option.some_inj, ← e]
  unfold R3
  by_cases h2 : j < n a + 16
  · rw [List.getElem?_append_left (by rw [l2]; exact h2)]
    unfold R2
    by_cases h1 : j < n a
    · rw [if_pos h1, List.getElem?_append_left (by rw [l1]; exact h1)]
      unfold R1
      rw [List.getElem?_replicate, if_pos h1]
    · rw [if_neg h1, if_pos h2, List.getElem?_append_right (by rw [l1]; omega), List.getElem?_replicate, if_pos (by rw [l1]; omega)]
  · rw [if_neg (by omega), if_neg h2, List.getElem?_append_right (by rw [l2]; omega), List.getElem?_replicate, if_pos (by rw [l2]; omega)]
theorem R2_at (n : Nat → Nat) (a j : Nat) (h : j < (R2 n a).length) : (R2 n a)[j]'h = if j < n a then mk 1000 a else mk 2000 a := by
  have l1 : (R1 n a).length = n a := List.length_replicate
  have l2 : (R2 n a).length = n a + 16 := by unfold R2; rw [List.length_append, l1, List.length_replicate]
  have h3 : j < (R3 n a).length := by unfold R3; rw [List.length_append]; omega
  have := R3_at n a j h3
  rw [show (if j < n a then mk 1000 a else if j < n a + 16 then mk 2000 a else mk 3000 a) = (if j < n a then mk 1000 a else mk 2000 a) from by rw [if_pos (show j < n a + 16 by omega)]] at this
  rw [← this, ← Option.some_inj, ← List.getElem?_eq_getElem, ← List.getElem?_eq_getElem]
  unfold R3
  rw [List.getElem?_append_left h]
theorem R1_at (n : Nat → Nat) (a j : Nat) (h : j < (R1 n a).length) : (R1 n a)[j]'h = mk 1000 a := List.getElem_replicate _
theorem take_set_rep {l : List Value} {x : Value} {j : Nat} (h : l.take j = List.replicate j x) (hj : j < l.length) : (l.set j x).take (j + 1) = List.replicate (j + 1) x := by
  rw [List.take_succ_eq_append_getElem (by simpa using hj), List.getElem_set_self, List.take_set_of_le (Nat.le_refl _), h, List.replicate_succ']
theorem take_all {l : List Value} {n : Nat} {x : Value} (h : l.take n = List.replicate n x) (hl : l.length = n) : l = List.replicate n x := by
  rw [← h, List.take_of_length_le (by omega)]
theorem range_at (v : Nat → Value) (k i : Nat) (hi : i < k) : ∃ h : i < ((List.range k).map v).length, ((List.range k).map v)[i]'h = v i := ⟨by simpa using hi, by simp⟩
theorem info_sl32 : (Try.prog.info? 23).map (fun i => (i.zero, i.size, i.bytes)) = some (some (.slice none 0 0), 1, 24) := by kernel_rfl
theorem set_of_lt {α : Type} {l : List α} {i : Nat} {x : α} (h : i < l.length) : (l.set i x)[i]? = some x := by rw [List.getElem?_set_self h]

set_option maxRecDepth 100000 in
set_option maxHeartbeats 4000000 in
theorem apart_any (B k gC cC : Nat) (v : Nat → Value) (n : Nat → Nat) (X : Nat → List Value) (w : World)
    (hC : w.ownsRow B 23 1 (.slice (some ⟨gC, 0, none⟩) k cC) k ((List.range k).map v)) (L : Lin w B 21 1 k v n X) (hk : k ≤ 1048576) (hn : ∀ i, i < k → n i ≤ 4194304) (hB : B ≤ w.heap.size) :
    Calls Try.prog 26 #[.slice (some ⟨gC, 0, none⟩) k cC] w fun e w' => e = .returned (.bool true) ∧ Below B w w' := by
  have HE : Hd (Env w w B 21 23 1 k v n X [] k 1 k (fun _ => .slice (some ⟨gC, 0, none⟩) k cC) (fun _ => (List.range k).map v)) := hd
    ⟨L, (fun p hp => by cases hp), ⟨fun i hi => hC, fun i j hi hj hne => by omega⟩, Below.refl _ _, hB⟩
  have HN := hd hn
  clear hC L hn
  go_enter Try.func26, Try.ntmps26
  go_wp2
  go_loopw [22] (fun x wr => ∃ (i : Nat) (Z : Nat → List Value), i ≤ k ∧ x = .int .i64 i ∧ Hd (∀ a, a < i → Z a = R1 n a) ∧
      Hd (Env w wr B 21 23 1 k v n Z [] k 1 k (fun _ => .slice (some ⟨gC, 0, none⟩) k cC) (fun _ => (List.range k).map v))) (fun x _ => k - (intOf x).toNat)
  case atStart => exact ⟨0, X, Nat.zero_le _, rfl, hd (fun a h => by omega), HE⟩
  case round =>
    obtain ⟨i, Z, hi, rfl, hZ, hE⟩ := hrel
    by_cases hlt : i < k
    · obtain ⟨r1, r2⟩ := range_at v k i hlt
      have c0 := row_cell (hE.o.rows.own 0 (by omega)) rfl i r1
      rw [r2] at c0
      obtain ⟨Ai, ci, hvi⟩ := own_shape (hE.o.lin.own i hlt)
      rw [hvi] at c0
      have HV := hd hvi
      have hni := HN.o i hlt
      have hkk := hk
      clear hvi r1 r2
      obtain ⟨wo, rfl⟩ : ∃ wo : World, wo = wr := ⟨_, rfl⟩
      go_wp2
      go_loopw [29] (fun x wr => ∃ (j : Nat) (Y : List Value), j ≤ n i ∧ x = .int .i64 j ∧ Hd (Y.take j = List.replicate j (mk 1000 i)) ∧
          Hd (Env w wr B 21 23 1 k v n (upd Z i Y) [] k 1 k (fun _ => .slice (some ⟨gC, 0, none⟩) k cC) (fun _ => (List.range k).map v))) (fun x _ => n i - (intOf x).toNat)
      case atStart => exact ⟨0, Z i, Nat.zero_le _, rfl, hd rfl, by rw [upd_self]; exact hE⟩
      case round =>
        obtain ⟨j, Y, hj, rfl, hyt, hF⟩ := hrel
        have hy := hF.o.lin.own i hlt
        rw [upd_at] at hy
        by_cases hjn : j < n i
        · obtain ⟨g, cap, hvg, _, _⟩ := hy.form (by omega)
          have he := HV.o.symm.trans hvg
          simp only [Value.slice.injEq, true_and] at he
          obtain ⟨rfl, rfl⟩ := he
          have hy2 := hy
          rw [hvg] at hy2
          have hyl : j < Y.length := by have := hy2.1; omega
          have c1 := row_cell hy2 rfl j hyl
          have f1 := hy2.frozenAt j
          have HS := hd (hy2.stored j (mk 1000 i))
          have HVG := hd hvg
          clear hvg hy2 hy
          generalize Y[j]'hyl = old at *
          go_wp2
          go_roundw
          case rel =>
            refine ⟨j + 1, Y.set j (mk 1000 i), by omega, by go_num, hd (take_set_rep hyt.o hyl), hd ?_⟩
            rw [← upd_upd Z i Y]
            exact hF.o.putE (by decide) (by rw [HVG.o]; exact HS.o.1) (by rw [HVG.o]; exact HS.o.2) hlt
          case measure => simp [intOf]; omega
        · have hyl : Y.length = n i := by have := hy.1; omega
          have hjj : j = n i := by omega
          have HY : Hd (Y = R1 n i) := hd (take_all (by rw [← hjj]; exact hyt.o) (hjj ▸ hyl))
          clear hy hyl hjj
          go_wp2
          go_roundw
          case rel =>
            refine ⟨i + 1, upd Z i Y, by omega, by go_num, hd (fun a ha => ?_), hF⟩
            by_cases hai : a = i
            · subst hai; rw [upd_at]; exact HY.o
            · rw [upd_ne _ _ _ _ hai]; exact hZ.o a (by omega)
          case measure => simp [intOf]; omega
    · have HE2 : Hd (Env w wr B 21 23 1 k v n (R1 n) [(v, n, R1 n)] k 1 k (fun _ => .slice (some ⟨gC, 0, none⟩) k cC) (fun _ => (List.range k).map v)) := hd <| by
        have h1 := hE.o.congr (Nat.le_refl _) (h' := v) (c' := n) (Z' := R1 n) (fun a ha => ⟨rfl, rfl, (hZ.o a (by omega)).symm⟩)
        exact h1.see (Nat.le_refl _) v n (R1 n) (fun a ha => ⟨rfl, rfl, rfl⟩)
      clear hE hZ
      have hBr := HE2.o.base
      go_wp2_with (at_make; refine wpList_mkn _ 40 23 (.slice none 0 0) 1 24 Try.underlying40 info_sl32 rfl _ _ rfl B _ _ k rfl rfl ?b1 ?b2 hBr ?_)
      case b1 => omega
      case b2 => omega
      intro w2 ho hg
      obtain ⟨gG, hgG⟩ : ∃ gG, gG = wr.heap.size := ⟨_, rfl⟩
      rw [← hgG] at ho ⊢
      obtain ⟨Y1, HE3⟩ : ∃ Y1, Hd (Env w w2 B 21 23 1 k v n (R1 n) [(v, n, R1 n)] k 2 k (upd (fun _ => .slice (some ⟨gC, 0, none⟩) k cC) 1 (.slice (some ⟨gG, 0, none⟩) k k)) (upd (fun _ => (List.range k).map v) 1 Y1)) :=
        ⟨_, hd (HE2.o.pushT ho (below_of_grown (row := none) hg) (fun g hg => by simp [Value.ownBlock] at hg; omega))⟩
      clear ho hg HE2 hgG hBr
      go_wp2
      go_loopw [45] (fun x wr => ∃ (i : Nat) (h : Nat → Value) (c : Nat → Nat) (Z Y : Nat → List Value), i ≤ k ∧ x = .int .i64 i ∧
          Hd (∀ a, a < k → a < i → c a = n a + 16 ∧ Z a = R2 n a ∧ (Y 1)[a]? = some (h a)) ∧ Hd (∀ a, a < k → i ≤ a → h a = v a ∧ c a = n a ∧ Z a = R1 n a) ∧ Hd (Y 0 = (List.range k).map v) ∧
          Hd (Env w wr B 21 23 1 k h c Z [(v, n, R1 n)] k 2 k (upd (fun _ => .slice (some ⟨gC, 0, none⟩) k cC) 1 (.slice (some ⟨gG, 0, none⟩) k k)) Y)) (fun x _ => k - (intOf x).toNat)
      case atStart => exact ⟨0, v, n, R1 n, _, Nat.zero_le _, rfl, hd (fun a _ h => by omega), hd (fun a _ _ => ⟨rfl, rfl, rfl⟩), hd rfl, HE3⟩
      case round =>
        clear HE3 HE hlt hi
        obtain ⟨i, h, c, Z, Y, hi, rfl, hpast, hfut, hY0, hE⟩ := hrel
        by_cases hlt : i < k
        · obtain ⟨r1, r2⟩ := range_at v k i hlt
          have c0 := row_cell (hE.o.rows.own 0 (by omega)) rfl i (by rw [hY0.o]; exact r1)
          simp only [hY0.o] at c0
          rw [r2] at c0
          obtain ⟨f1, f2, f3⟩ := hfut.o i hlt (Nat.le_refl _)
          obtain ⟨Ai, ci, hvi⟩ := own_shape (hE.o.lin.own i hlt)
          rw [f1, f2] at hvi
          rw [hvi] at c0
          have F1 := hd f1
          have F2 := hd f2
          have F3 := hd f3
          have HV := hd hvi
          have hni := HN.o i hlt
          have hkk := hk
          clear hvi r1 r2 f1 f2 f3
          obtain ⟨wo, rfl⟩ : ∃ wo : World, wo = wr := ⟨_, rfl⟩
          go_wp2
          go_loopw [9, 51] (fun y x wr => ∃ (t : Nat) (h' : Nat → Value) (c' : Nat → Nat) (Z' : Nat → List Value) (A : Option Addr) (cap : Nat), t ≤ 16 ∧ x = .int .i64 t ∧ y = .slice A (n i + t) cap ∧ Hd (h' i = .slice A (n i + t) cap) ∧ Hd (c' i = n i + t) ∧
              Hd (Z' i = R1 n i ++ List.replicate t (mk 2000 i)) ∧ Hd (∀ a, a ≠ i → h' a = h a ∧ c' a = c a ∧ Z' a = Z a) ∧
              Hd (Env w wr B 21 23 1 k h' c' Z' [(v, n, R1 n)] k 2 k (upd (fun _ => .slice (some ⟨gC, 0, none⟩) k cC) 1 (.slice (some ⟨gG, 0, none⟩) k k)) Y)) (fun _ x _ => 16 - (intOf x).toNat)
          case atStart => exact ⟨0, h, c, Z, Ai, ci, Nat.zero_le _, rfl, rfl, hd (F1.o.trans HV.o), F2, hd (by rw [F3.o]; simp), hd (fun a _ => ⟨rfl, rfl, rfl⟩), hE⟩
          case round =>
            obtain ⟨t, h', c', Z', A, cap, ht, rfl, rfl, hh, hc, hz, hoth, hF⟩ := hrel
            by_cases ht16 : t < 16
            · have hz1 := hF.o.base
              go_wp2_with (at_builtin; refine wpList_app_keep _ 23 21 (.int .i32 0) 1 4 Try.underlying23 info_i32 rfl (by decide) rfl _ _ rfl B (.slice A (n i + t) cap) (n i + t) (R1 n i ++ List.replicate t (mk 2000 i)) rfl ?p1 (.slice (some ⟨wr.heap.size, 0, none⟩) 1 1) 1 [mk 2000 i] rfl ?p2 ?p3 ?p4 ?p5 ?p6 ?_)
              case p1 => have := ((hF.o.lin.own i hlt).alloc (.cells #[mk 2000 i] 21)); rw [hh.o, hc.o, hz.o] at this; exact this
              case p2 => exact IsL.own (World.ownsRow_lit (base := wr.heap.size) wr #[mk 2000 i] 1 (Nat.le_refl _) (by decide) rfl)
              case p3 => intro u hu; simp only [List.mem_singleton] at hu; subst hu; rfl
              case p4 => omega
              case p5 => omega
              case p6 => simp; omega
              intro v' w' ho hg hk' hat
              obtain ⟨A', cap', rfl⟩ := own_shape ho
              have HE' := hd ((hF.o.alloc (.cells #[mk 2000 i] 21)).stepE (by decide) ho (by rw [hh.o]; exact hg) (by rw [hc.o, hh.o, Nat.mul_one]; exact hk') (by rw [hh.o, World.size_alloc]; exact hat) hlt (by rw [hc.o]; omega))
              clear ho hg hk' hat
              go_wp2
              go_roundw
              case rel => exact ⟨t + 1, _, _, _, A', cap', by omega, by go_num, rfl, hd (upd_at _ _ _), hd (upd_at _ _ _), hd (by rw [upd_at, ← List.replicate_succ']), hd (fun a ha => by rw [upd_ne _ _ _ _ ha, upd_ne _ _ _ _ ha, upd_ne _ _ _ _ ha]; exact hoth.o a ha), HE'⟩
              case measure => simp [intOf]; omega
            · obtain rfl : t = 16 := by omega
              have hG := hF.o.rows.own 1 (by omega)
              rw [upd_at] at hG
              have hyl : i < (Y 1).length := by have := hG.1; omega
              have c1 := row_cell hG rfl i hyl
              have f1 := hG.frozenAt i
              have HS := hd (hG.stored i (.slice A (n i + 16) cap))
              have HE' := hd (hF.o.stepT (by decide) (i := 1) (by rw [upd_at]; exact HS.o.1) (by rw [upd_at]; exact HS.o.2) (by omega))
              clear hG HS
              generalize (Y 1)[i]'hyl = old at *
              go_wp2
              go_roundw
              case rel =>
                refine ⟨i + 1, h', c', Z', _, by omega, by go_num, hd (fun a hak hai => ?_), hd (fun a hak hai => ?_), hd ?_, HE'⟩
                · rw [upd_at]
                  by_cases hae : a = i
                  · subst hae
                    refine ⟨hc.o, by rw [hz.o]; rfl, ?_⟩
                    rw [set_of_lt hyl, hh.o]
                  · obtain ⟨o1, o2, o3⟩ := hoth.o a hae
                    obtain ⟨p1, p2, p3⟩ := hpast.o a hak (by omega)
                    refine ⟨by rw [o2]; exact p1, by rw [o3]; exact p2, ?_⟩
                    rw [List.getElem?_set_ne (Ne.symm hae), p3, o1]
                · obtain ⟨o1, o2, o3⟩ := hoth.o a (by omega)
                  obtain ⟨p1, p2, p3⟩ := hfut.o a hak (by omega)
                  exact ⟨by rw [o1]; exact p1, by rw [o2]; exact p2, by rw [o3]; exact p3⟩
                · rw [upd_ne _ _ _ _ (by decide)]; exact hY0.o
              case measure => simp [intOf]; omega
        · obtain ⟨n2, hn2⟩ : ∃ n2 : Nat → Nat, ∀ a, n2 a = n a + 16 := ⟨_, fun a => rfl⟩
          have HN2 := hd hn2
          have HY1 : Hd (∀ a, a < k → (Y 1)[a]? = some (h a)) := hd fun a ha => (hpast.o a ha (by omega)).2.2
          have HE2 : Hd (Env w wr B 21 23 1 k h n2 (R2 n) [(h, n2, R2 n), (v, n, R1 n)] k 2 k (upd (fun _ => .slice (some ⟨gC, 0, none⟩) k cC) 1 (.slice (some ⟨gG, 0, none⟩) k k)) Y) := hd <| by
            have h1 := hE.o.congr (Nat.le_refl _) (h' := h) (c' := n2) (Z' := R2 n) (fun a ha => by
              obtain ⟨p1, p2, _⟩ := hpast.o a ha (by omega)
              exact ⟨rfl, by rw [HN2.o]; exact p1.symm, p2.symm⟩)
            exact h1.see (Nat.le_refl _) h n2 (R2 n) (fun a ha => ⟨rfl, rfl, rfl⟩)
          clear hE hpast hfut hn2
          have hBr := HE2.o.base
          go_wp2_with (at_make; refine wpList_mkn _ 40 23 (.slice none 0 0) 1 24 Try.underlying40 info_sl32 rfl _ _ rfl B _ _ k rfl rfl ?b3 ?b4 hBr ?_)
          case b3 => omega
          case b4 => omega
          intro w3 ho hg
          obtain ⟨gM, hgM⟩ : ∃ gM, gM = wr.heap.size := ⟨_, rfl⟩
          rw [← hgM] at ho ⊢
          obtain ⟨Y2, HE3⟩ : ∃ Y2, Hd (Env w w3 B 21 23 1 k h n2 (R2 n) [(h, n2, R2 n), (v, n, R1 n)] k 3 k (upd (upd (fun _ => .slice (some ⟨gC, 0, none⟩) k cC) 1 (.slice (some ⟨gG, 0, none⟩) k k)) 2 (.slice (some ⟨gM, 0, none⟩) k k)) (upd Y 2 Y2)) :=
            ⟨_, hd (HE2.o.pushT ho (below_of_grown (row := none) hg) (fun g hg => by simp [Value.ownBlock] at hg; omega))⟩
          clear ho hg HE2 hgM hBr
          go_wp2
          go_loopw [70] (fun x wr => ∃ (i : Nat) (h' : Nat → Value) (c Z' : _) (Y' : Nat → List Value), i ≤ k ∧ x = .int .i64 i ∧
              Hd (∀ a, a < k → a < i → c a = n a + 216 ∧ Z' a = R3 n a ∧ (Y' 2)[a]? = some (h' a)) ∧ Hd (∀ a, a < k → i ≤ a → h' a = h a ∧ c a = n2 a ∧ Z' a = R2 n a) ∧ Hd (Y' 0 = (List.range k).map v ∧ Y' 1 = Y 1) ∧
              Hd (Env w wr B 21 23 1 k h' c Z' [(h, n2, R2 n), (v, n, R1 n)] k 3 k (upd (upd (fun _ => .slice (some ⟨gC, 0, none⟩) k cC) 1 (.slice (some ⟨gG, 0, none⟩) k k)) 2 (.slice (some ⟨gM, 0, none⟩) k k)) Y')) (fun x _ => k - (intOf x).toNat)
          case atStart => exact ⟨0, h, n2, R2 n, _, Nat.zero_le _, rfl, hd (fun a _ h => by omega), hd (fun a _ _ => ⟨rfl, rfl, rfl⟩), hd ⟨by rw [upd_ne _ _ _ _ (by decide)]; exact hY0.o, by rw [upd_ne _ _ _ _ (by decide)]⟩, HE3⟩
          case round =>
            clear HE3 hlt hi
            obtain ⟨i, h', c, Z', Y', hi, rfl, hpast, hfut, hY', hE⟩ := hrel
            by_cases hlt : i < k
            · have hG := hE.o.rows.own 1 (by omega)
              rw [upd_ne _ _ _ _ (by decide), upd_at, hY'.o.2] at hG
              obtain ⟨hyl, g2⟩ := List.getElem?_eq_some_iff.1 (HY1.o i hlt)
              have c0 := row_cell hG rfl i hyl
              rw [g2] at c0
              obtain ⟨f1, f2, f3⟩ := hfut.o i hlt (Nat.le_refl _)
              obtain ⟨Ai, ci, hvi⟩ := own_shape (hE.o.lin.own i hlt)
              rw [f1, f2, HN2.o] at hvi
              rw [hvi] at c0
              have F1 := hd f1
              have F2 := hd f2
              have F3 := hd f3
              have HV := hd hvi
              have hni := HN.o i hlt
              have hkk := hk
              have hB1 := hE.o.base
              clear hvi f1 f2 f3 g2 hG
              go_wp2_with (at_make; refine wpList_mkn _ 23 21 (.int .i32 0) 1 4 Try.underlying23 info_i32 rfl _ _ rfl B _ _ 200 rfl rfl ?b5 ?b6 hB1 ?_)
              case b5 => omega
              case b6 => omega
              intro w4 ho hg
              obtain ⟨gT, hgT⟩ : ∃ gT, gT = wr.heap.size := ⟨_, rfl⟩
              rw [← hgT] at ho ⊢
              obtain ⟨X0, HE4⟩ : ∃ X0, Hd (Env w w4 B 21 23 1 (k + 1) (upd h' k (.slice (some ⟨gT, 0, none⟩) 200 200)) (upd c k 200) (upd Z' k X0) [(h, n2, R2 n), (v, n, R1 n)] k 3 k (upd (upd (fun _ => .slice (some ⟨gC, 0, none⟩) k cC) 1 (.slice (some ⟨gG, 0, none⟩) k k)) 2 (.slice (some ⟨gM, 0, none⟩) k k)) Y') :=
                ⟨_, hd (hE.o.pushE (Nat.le_refl _) ho (below_of_grown (row := none) hg) (fun g hg => by simp [Value.ownBlock] at hg; omega))⟩
              clear ho hg hgT hB1 c0
              go_wp2
              go_loopw [78] (fun x wr => ∃ (j : Nat) (Q : List Value), j ≤ 200 ∧ x = .int .i64 j ∧ Hd (Q.take j = List.replicate j (mk 3000 i)) ∧
                  Hd (Env w wr B 21 23 1 (k + 1) (upd h' k (.slice (some ⟨gT, 0, none⟩) 200 200)) (upd c k 200) (upd Z' k Q) [(h, n2, R2 n), (v, n, R1 n)] k 3 k (upd (upd (fun _ => .slice (some ⟨gC, 0, none⟩) k cC) 1 (.slice (some ⟨gG, 0, none⟩) k k)) 2 (.slice (some ⟨gM, 0, none⟩) k k)) Y')) (fun x _ => 200 - (intOf x).toNat)
              case atStart => exact ⟨0, X0, Nat.zero_le _, rfl, hd rfl, HE4⟩
              case round =>
                clear HE4
                obtain ⟨j, Q, hj, rfl, hq, hF⟩ := hrel
                have own := hF.o.lin.own k (by omega)
                rw [upd_at, upd_at, upd_at] at own
                have hql : Q.length = 200 := by have := own.1; omega
                by_cases hj2 : j < 200
                · have c1 := row_cell own rfl j (by omega)
                  have f1 := own.frozenAt j
                  have HS := hd (own.stored j (mk 3000 i))
                  have HE' := hd (hF.o.putLast (by decide) (Nat.le_refl _) (by rw [upd_at, upd_at]; exact HS.o.1) (by rw [upd_at]; exact HS.o.2))
                  rw [upd_upd] at HE'
                  have HQ := hd hql
                  generalize Q[j]'_ = old at *
                  clear own HS hql
                  go_wp2
                  go_roundw
                  case rel => exact ⟨j + 1, _, by omega, by go_num, hd (take_set_rep hq.o (by rw [HQ.o]; exact hj2)), HE'⟩
                  case measure => simp [intOf]; omega
                · have HQ : Hd (Q = List.replicate 200 (mk 3000 i)) := hd (take_all (by rw [← show j = 200 by omega]; exact hq.o) (by omega))
                  have hB1 := hF.o.base
                  have HO := hd own
                  clear own hql hq
                  go_wp2_with (at_builtin; refine wpList_app_keep _ 23 21 (.int .i32 0) 1 4 Try.underlying23 info_i32 rfl (by decide) rfl _ _ rfl B (.slice Ai (n i + 16) ci) (n i + 16) (R2 n i) rfl ?q1 (.slice (some ⟨gT, 0, none⟩) 200 200) 200 (List.replicate 200 (mk 3000 i)) rfl ?q2 ?q3 ?q4 ?q5 hB1 ?_)
                  case q1 =>
                    have := hF.o.lin.own i (by omega)
                    rw [upd_ne _ _ _ _ (by omega), upd_ne _ _ _ _ (by omega), upd_ne _ _ _ _ (by omega), F1.o, F2.o, F3.o, HN2.o, HV.o] at this
                    exact this
                  case q2 => rw [← HQ.o]; exact IsL.own HO.o
                  case q3 => intro u hu; rw [List.eq_of_mem_replicate hu]; rfl
                  case q4 => omega
                  case q5 => omega
                  intro v' w' ho hg hk' hat
                  obtain ⟨A', cap', rfl⟩ := own_shape ho
                  have HE5 : Hd (Env w w' B 21 23 1 k (upd h' i (.slice A' (n i + 16 + 200) cap')) (upd c i (n i + 16 + 200)) (upd Z' i (R3 n i)) [(h, n2, R2 n), (v, n, R1 n)] k 3 k (upd (upd (fun _ => .slice (some ⟨gC, 0, none⟩) k cC) 1 (.slice (some ⟨gG, 0, none⟩) k k)) 2 (.slice (some ⟨gM, 0, none⟩) k k)) Y') := hd <| by
                    have hii : upd h' k (.slice (some ⟨gT, 0, none⟩) 200 200) i = .slice Ai (n i + 16) ci := by rw [upd_ne _ _ _ _ (by omega), F1.o, HV.o]
                    have hcc : upd c k 200 i = n i + 16 := by rw [upd_ne _ _ _ _ (by omega), F2.o, HN2.o]
                    have h1 := hF.o.stepE (i := i) (by decide) ho (by rw [hii]; exact hg) (by rw [hii, hcc, Nat.mul_one]; exact hk') (by rw [hii]; exact hat) (by omega) (by rw [hcc]; omega)
                    refine h1.popE.congr (Nat.le_refl _) (fun a ha => ?_)
                    by_cases hai : a = i
                    · subst hai
                      rw [upd_at, upd_at, upd_at, upd_at, upd_at, upd_at]
                      exact ⟨rfl, rfl, rfl⟩
                    · rw [upd_ne _ _ _ _ hai, upd_ne _ _ _ _ hai, upd_ne _ _ _ _ hai, upd_ne _ _ _ _ hai, upd_ne _ _ _ _ hai, upd_ne _ _ _ _ hai, upd_ne _ _ _ _ (by omega), upd_ne _ _ _ _ (by omega), upd_ne _ _ _ _ (by omega)]
                      exact ⟨rfl, rfl, rfl⟩
                  clear ho hg hk' hat hF
                  have hM := HE5.o.rows.own 2 (by omega)
                  rw [upd_at] at hM
                  have hyl2 : i < (Y' 2).length := by have := hM.1; omega
                  have c2 := row_cell hM rfl i hyl2
                  have m1 := hM.frozenAt i
                  have HS := hd (hM.stored i (.slice A' (n i + 16 + 200) cap'))
                  have HE6 := hd (HE5.o.stepT (by decide) (i := 2) (by rw [upd_at]; exact HS.o.1) (by rw [upd_at]; exact HS.o.2) (by omega))
                  have HYL := hd hyl2
                  generalize (Y' 2)[i]'hyl2 = old at *
                  clear hM HS HE5 hyl2
                  go_wp2
                  go_roundw
                  case rel =>
                    refine ⟨i + 1, _, _, _, _, by omega, by go_num, hd (fun a hak hai => ?_), hd (fun a hak hai => ?_), hd ⟨?_, ?_⟩, HE6⟩
                    · by_cases hae : a = i
                      · subst hae
                        rw [upd_at, upd_at, upd_at, upd_at, set_of_lt HYL.o]
                        exact ⟨rfl, rfl, rfl⟩
                      · rw [upd_ne _ _ _ _ hae, upd_ne _ _ _ _ hae, upd_ne _ _ _ _ hae, upd_at, List.getElem?_set_ne (Ne.symm hae)]
                        exact hpast.o a hak (by omega)
                    · rw [upd_ne _ _ _ _ (by omega), upd_ne _ _ _ _ (by omega), upd_ne _ _ _ _ (by omega)]
                      exact hfut.o a hak (by omega)
                    · rw [upd_ne _ _ _ _ (by decide)]; exact hY'.o.1
                    · rw [upd_ne _ _ _ _ (by decide)]; exact hY'.o.2
                  case measure => simp [intOf]; omega
            · have HP : Hd (∀ a, a < k → c a = n a + 216 ∧ Z' a = R3 n a ∧ (Y' 2)[a]? = some (h' a)) := hd fun a ha => hpast.o a ha (by omega)
              have hbel := hE.o.bel
              have HBL := hd hbel
              clear hpast hfut hbel
              go_wp2
              go_loop [97] (fun x => ∃ i : Nat, i ≤ k ∧ x = .int .i64 i) (fun x => k - (intOf x).toNat)
              case atStart => exact ⟨0, Nat.zero_le _, rfl⟩
              case round =>
                clear hlt hi
                obtain ⟨i, hi, rfl⟩ := hrel
                by_cases hlt : i < k
                · obtain ⟨p1, p2, p3⟩ := HP.o i hlt
                  obtain ⟨r1, r2⟩ := range_at v k i hlt
                  have c0 := row_cell (hE.o.rows.own 0 (by omega)) rfl i (by rw [hY'.o.1]; exact r1)
                  simp only [hY'.o.1] at c0
                  rw [r2] at c0
                  have hv : wr.ownsRow B 21 1 (v i) (n i) (R1 n i) := (hE.o.vw (v, n, R1 n) (by simp) i hlt).1
                  have hh2 : wr.ownsRow B 21 1 (h i) (n2 i) (R2 n i) := (hE.o.vw (h, n2, R2 n) (by simp) i hlt).1
                  have hm := hE.o.lin.own i hlt
                  rw [HN2.o] at hh2
                  rw [p1, p2] at hm
                  obtain ⟨Ai, ci, hvi⟩ := own_shape hv
                  rw [hvi] at c0 hv
                  obtain ⟨gB, bi, hhi, _, _⟩ := hh2.form (by omega)
                  rw [hhi] at hh2
                  obtain ⟨gD, di, hmi, _, _⟩ := hm.form (by omega)
                  rw [hmi] at hm
                  have c1 : wr.cell? ⟨gG, i, none⟩ = some (.slice (some ⟨gB, 0, none⟩) (n i + 16) bi) := by
                    have hG := hE.o.rows.own 1 (by omega)
                    rw [upd_ne _ _ _ _ (by decide), upd_at, hY'.o.2] at hG
                    obtain ⟨hyl, g2⟩ := List.getElem?_eq_some_iff.1 (HY1.o i hlt)
                    have := row_cell hG rfl i hyl
                    rw [g2, hhi] at this
                    exact this
                  have c2 : wr.cell? ⟨gM, i, none⟩ = some (.slice (some ⟨gD, 0, none⟩) (n i + 216) di) := by
                    have hG := hE.o.rows.own 2 (by omega)
                    rw [upd_at] at hG
                    obtain ⟨hyl, g2⟩ := List.getElem?_eq_some_iff.1 p3
                    have := row_cell hG rfl i hyl
                    rw [g2, hmi] at this
                    exact this
                  have HV := hd hv
                  have HH := hd hh2
                  have HM := hd hm
                  have hni := HN.o i hlt
                  have hkk := hk
                  clear hv hh2 hm hvi hhi hmi p1 p2 p3 r1 r2
                  go_wp2
                  go_loop [107] (fun x => ∃ j : Nat, j ≤ n i + 216 ∧ x = .int .i64 j) (fun x => n i + 216 - (intOf x).toNat)
                  case atStart => exact ⟨0, Nat.zero_le _, rfl⟩
                  case round =>
                    obtain ⟨j, hj, rfl⟩ := hrel
                    by_cases hj2 : j < n i + 216
                    · have l3 := HM.o.1
                      have l2 := HH.o.1
                      have l1 := HV.o.1
                      rw [Nat.mul_one] at l1 l2 l3
                      have d2 := row_cell HM.o rfl j (by omega)
                      rw [R3_at] at d2
                      have L1 := hd l1
                      have L2 := hd l2
                      by_cases h1 : j < n i
                      · obtain ⟨gA, cA, e1, _, _⟩ := HV.o.form (by omega)
                        simp only [Value.slice.injEq, true_and] at e1
                        obtain ⟨rfl, rfl⟩ := e1
                        have d0 := row_cell HV.o rfl j (by omega)
                        have d1 := row_cell HH.o rfl j (by omega)
                        rw [R1_at] at d0
                        rw [R2_at, if_pos h1] at d1
                        rw [if_pos h1] at d2
                        unfold mk at d0 d1 d2
                        clear l1 l2 l3
                        go_wp2
                        go_round
                        case rel => exact ⟨j + 1, by omega, by go_num⟩
                        case measure => simp [intOf]; omega
                      · by_cases h2 : j < n i + 16
                        · have d1 := row_cell HH.o rfl j (by omega)
                          rw [R2_at, if_neg h1] at d1
                          rw [if_neg h1, if_pos h2] at d2
                          unfold mk at d1 d2
                          clear l1 l2 l3
                          go_wp2
                          go_round
                          case rel => exact ⟨j + 1, by omega, by go_num⟩
                          case measure => simp [intOf]; omega
                        · rw [if_neg h1, if_neg h2] at d2
                          unfold mk at d2
                          clear l1 l2 l3
                          go_wp2
                          go_round
                          case rel => exact ⟨j + 1, by omega, by go_num⟩
                          case measure => simp [intOf]; omega
                    · go_wp2
                      go_round
                      case rel => exact ⟨i + 1, by omega, by go_num⟩
                      case measure => simp [intOf]; omega
                · go_wp2
                  go_ret
                  exact ⟨rfl, HBL.o⟩
end Go.Proofs.Ythlpgnidjjclcaa
