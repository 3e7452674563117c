/- The walks of labels.Keep and of weirref16.Keep. -/
import Derived.Test.YtifaepkeoffcfaaLKeep
namespace Go.Proofs.Ytifaepkeoffcfaa
open Go.RowKit
set_option linter.unusedVariables false
set_option linter.unusedSimpArgs false
theorem L.keep_step (l : List Lb) (names : List ByteArray) (wo : Bool) (k : Nat) (h : k < l.length) (x : Lb) (hx : l[k] = x) :
    L.keepL (l.take (k + 1)) names wo = L.keepL (l.take k) names wo ++ (if L.stays x.1 names wo then [x] else []) := by
  subst hx
  unfold L.keepL
  rw [List.take_succ_eq_append_getElem h, List.filter_append, List.filter_cons, List.filter_nil]
theorem L.keep_len (l : List Lb) (names : List ByteArray) (wo : Bool) : (L.keepL l names wo).length ≤ l.length := List.length_filter_le _ _
set_option maxHeartbeats 1000000 in
theorem keep_any (va : Value) (n : Nat) (l : List Lb) (vb : Value) (m : Nat) (names : List ByteArray) (wo : Bool) (w : World) (hl : IsL 2 w va n (cellsL l)) (hs : IsL 1 w vb m (cellsS names)) (hn : n ≤ 4398046510976) (hm : m ≤ 8796093021952) :
    Calls Try.prog 15 #[va, vb, .bool wo] w fun e w' => ∃ x, e = .returned x ∧ w'.ownsRow w.heap.size 26 2 x (L.keepL l names wo).length (cellsL (L.keepL l names wo)) ∧ Below w.heap.size w w' := by
  have hll := IsLb.len hl
  obtain ⟨A, c, rfl⟩ := hl.shape
  have HL := hd hl
  have HLL := hd hll
  have HS := hd hs
  clear hl hll hs
  go_enter Try.func15, Try.ntmps15
  go_wp2_with (at_make; refine wpList_mk0 _ 23 26 (.agg #[.string ⟨#[]⟩, .string ⟨#[]⟩]) 2 32 Try.underlying23 info_label rfl _ _ rfl w.heap.size _ _ n rfl rfl ?b1 ?b2 ?b3 ?_)
  case b1 => omega
  case b2 => omega
  case b3 => exact Nat.le_refl _
  intro w2 ho hg
  have hb2 : Below w.heap.size w w2 := bel_grown (Below.refl _ _) hg (fun k h => by cases h)
  clear hg
  go_wp2
  go_loopw [7, 15] (fun o x wr => ∃ k : Nat, k ≤ n ∧ x = .int .i64 k ∧ Hd (wr.ownsRow w.heap.size 26 2 o (L.keepL (l.take k) names wo).length (cellsL (L.keepL (l.take k) names wo))) ∧ Hd (Below w.heap.size w wr)) (fun _ x _ => n - (intOf x).toNat)
  case atStart => exact ⟨0, Nat.zero_le _, rfl, hd (by simpa [L.keepL, cellsL] using ho), hd hb2⟩
  case round =>
    obtain ⟨k, hk, rfl, HO, HBW⟩ := hrel
    have hzr := HBW.o.size
    by_cases hlt : k < n
    · have hkl : k < l.length := by rw [HLL.o]; exact hlt
      obtain ⟨b, off, rfl, hbl, c1, c2⟩ := IsLb.at_ HL.o k hkl
      have d1 := (HBW.o.cell (p := ⟨b, off + k * 2, none⟩) hbl).trans c1
      have d2 := (HBW.o.cell (p := ⟨b, off + k * 2 + 1, none⟩) hbl).trans c2
      have HST := hd (L.keep_step l names wo k hkl _ rfl)
      have hpl := L.keep_len (l.take k) names wo
      rw [List.length_take] at hpl
      clear c1 c2
      generalize l[k]'hkl = x at *
      obtain ⟨x1, x2⟩ := x
      simp only at d1 d2 HST
      generalize hP : L.keepL (l.take k) names wo = P at *
      clear hP
      have HW1 : Hd (Below w.heap.size w (wr.alloc (.cells #[.string x1, .string x2] 26))) := hd (HBW.o.alloc hzr _)
      cases hst : L.stays x1 names wo with
      | true =>
        have V := hd hst
        rw [hst] at HST
        clear hst
        go_wp2_with (first
          | (at_builtin; refine wpList_app_litH 23 26 (.agg #[.string ⟨#[]⟩, .string ⟨#[]⟩]) 2 32 Try.underlying23 info_label rfl (by decide) rfl _ _ rfl w.heap.size u7 P.length (cellsL P) _ #[.string x1, .string x2] 1 _ (by simp) rfl rfl (HO.o.alloc _) rfl (by simp [Value.oneCell']) (by omega) (by omega) (by first | omega | (simp; omega)) ?_)
          | (go_at_call 37; refine (stays_any vb m names x1 wo _ (HS.o.below HW1.o) hm).mono ?_; rintro e w' ⟨rfl, rfl⟩; rw [V.o]))
        intro v3 w3 ho3 hg3
        have HB3 := hd (bel_grown HW1.o hg3 (fun g h => (HO.o.lt g h).1))
        have HO3 : Hd (w3.ownsRow w.heap.size 26 2 v3 (L.keepL (l.take (k + 1)) names wo).length (cellsL (L.keepL (l.take (k + 1)) names wo))) := hd <| by
          rw [HST.o, if_pos trivial, cellsL_app, List.length_append]
          simpa [cellsL] using ho3
        clear hg3 ho3
        go_wp2
        go_roundw
        case rel => exact ⟨k + 1, by omega, by go_num, HO3, HB3⟩
        case measure => simp [intOf]; omega
      | false =>
        have V := hd hst
        rw [hst] at HST
        clear hst
        have HO3 : Hd ((wr.alloc (.cells #[.string x1, .string x2] 26)).ownsRow w.heap.size 26 2 u7 (L.keepL (l.take (k + 1)) names wo).length (cellsL (L.keepL (l.take (k + 1)) names wo))) := hd <| by
          rw [HST.o]; simpa using HO.o.alloc _
        go_wp2_with (go_at_call 37; refine (stays_any vb m names x1 wo _ (HS.o.below HW1.o) hm).mono ?_; rintro e w' ⟨rfl, rfl⟩; rw [V.o])
        go_roundw
        case rel => exact ⟨k + 1, by omega, by go_num, HO3, HW1⟩
        case measure => simp [intOf]; omega
    · have e : l.take k = l := List.take_of_length_le (by rw [HLL.o]; omega)
      rw [e] at HO
      go_wp2
      go_ret
      exact ⟨_, rfl, HO.o, HBW.o⟩

theorem L.isIn_snoc (x y : ByteArray) : ∀ l : List ByteArray, L.isIn x (l ++ [y]) = (L.isIn x l || decide (x = y))
  | [] => by simp [L.isIn]
  | z :: r => by
    simp only [List.cons_append, L.isIn]
    by_cases h : x = z
    · rw [if_pos h, if_pos h]; simp
    · rw [if_neg h, if_neg h, L.isIn_snoc x y r]
set_option maxHeartbeats 2000000 in
theorem refKeep_any (va : Value) (n : Nat) (l : List Lb) (vb : Value) (m : Nat) (names : List ByteArray) (wo : Bool) (w : World) (hl : IsL 2 w va n (cellsL l)) (hs : IsL 1 w vb m (cellsS names)) (hn : n ≤ 4398046510976) (hm : m ≤ 8796093021952) :
    Calls Try.prog 14 #[va, vb, .bool wo] w fun e w' => ∃ x, e = .returned x ∧ w'.ownsRow w.heap.size 26 2 x (L.keepL l names wo).length (cellsL (L.keepL l names wo)) ∧ Below w.heap.size w w' := by
  have hll := IsLb.len hl
  have hsl := strs_len hs
  obtain ⟨A, c, rfl⟩ := hl.shape
  obtain ⟨B, cb, rfl⟩ := hs.shape
  have HL := hd hl
  have HLL := hd hll
  have HS := hd hs
  have HSL := hd hsl
  clear hl hll hs hsl
  go_enter Try.func14, Try.ntmps14
  go_wp2
  go_loopw [7, 8] (fun o x wr => ∃ k : Nat, k ≤ n ∧ x = .int .i64 k ∧ Hd (wr.ownsRow w.heap.size 26 2 o (L.keepL (l.take k) names wo).length (cellsL (L.keepL (l.take k) names wo))) ∧ Hd (Below w.heap.size w wr)) (fun _ x _ => n - (intOf x).toNat)
  case atStart => exact ⟨0, Nat.zero_le _, rfl, hd (by simpa [L.keepL, cellsL] using World.ownsRow_nil w w.heap.size 26 2), hd (Below.refl _ _)⟩
  case round =>
    obtain ⟨k, hk, rfl, HO, HBW⟩ := hrel
    have hzr := HBW.o.size
    by_cases hlt : k < n
    · have hkl : k < l.length := by rw [HLL.o]; exact hlt
      obtain ⟨b, off, rfl, hbl, c1, c2⟩ := IsLb.at_ HL.o k hkl
      have d1 := (HBW.o.cell (p := ⟨b, off + k * 2, none⟩) hbl).trans c1
      have d2 := (HBW.o.cell (p := ⟨b, off + k * 2 + 1, none⟩) hbl).trans c2
      have HST := hd (L.keep_step l names wo k hkl _ rfl)
      have hpl := L.keep_len (l.take k) names wo
      rw [List.length_take] at hpl
      clear c1 c2
      generalize l[k]'hkl = x at *
      obtain ⟨x1, x2⟩ := x
      simp only at d1 d2 HST
      generalize hP : L.keepL (l.take k) names wo = P at *
      clear hP
      have hkn : (k : Int) < (n : Int) := by omega
      have hk0 : (0 : Int) ≤ (k : Int) := by omega
      obtain ⟨wo2, rfl⟩ : ∃ wo2 : World, wo2 = wr := ⟨_, rfl⟩
      go_wp2
      go_loopw [9, 10] (fun p x wr => ∃ j q : Nat, j ≤ m ∧ x = .int .i64 j ∧ p = .bool (L.isIn x1 (names.take j)) ∧ wr = wo2.drewN q) (fun _ x _ => m - (intOf x).toNat)
      case atStart => exact ⟨0, 0, Nat.zero_le _, rfl, rfl, rfl⟩
      case round =>
        obtain ⟨j, q, hj, rfl, rfl, rfl⟩ := hrel
        by_cases hjm : j < m
        · have hjl : j < names.length := by rw [HSL.o]; exact hjm
          obtain ⟨b2, off2, rfl, hbl2, e1⟩ := strs_at HS.o j hjl
          have f1 := (HBW.o.cell (p := ⟨b2, off2 + j, none⟩) hbl2).trans e1
          have HIN := hd (L.isIn_snoc x1 names[j] (names.take j))
          have HTK := hd (List.take_succ_eq_append_getElem hjl)
          have hjm1 : (j : Int) < (m : Int) := by omega
          have hj0 : (0 : Int) ≤ (j : Int) := by omega
          clear e1
          generalize names[j]'hjl = y at *
          by_cases hxy : x1 = y
          · have G : Hd (L.isIn x1 (names.take (j + 1)) = true) := hd <| by rw [HTK.o, HIN.o]; simp [hxy]
            have he : (y.toList == x1.toList) = true := by rw [hxy]; simp
            have he2 : y.toList = x1.toList := by rw [hxy]
            clear hxy
            go_wp2_with fail
            go_quiet (fail)
            go_wp2
            go_roundw
            case rel => exact ⟨j + 1, _, by omega, by go_num, by rw [G.o], rfl⟩
            case measure => simp [intOf]; omega
          · have G : Hd (L.isIn x1 (names.take (j + 1)) = L.isIn x1 (names.take j)) := hd <| by rw [HTK.o, HIN.o]; simp [hxy]
            have he : (y.toList == x1.toList) = false := bytes_ne (Ne.symm hxy)
            have he2 : ¬ y.toList = x1.toList := fun h => hxy (toList_inj.1 h).symm
            clear hxy
            go_wp2_with fail
            go_quiet (fail)
            go_wp2
            go_roundw
            case rel => exact ⟨j + 1, _, by omega, by go_num, by rw [G.o], rfl⟩
            case measure => simp [intOf]; omega
        · have e : names.take j = names := List.take_of_length_le (by rw [HSL.o]; omega)
          rw [e]
          clear e
          have HOD : Hd ((wo2.drewN q).ownsRow w.heap.size 26 2 u7 P.length (cellsL P)) := hd HO.o
          have HBD : Hd (Below w.heap.size w (wo2.drewN q)) := hd (bel_drew HBW.o q)
          have hzd : w.heap.size ≤ (wo2.drewN q).heap.size := HBD.o.size
          have YES : Hd (L.stays x1 names wo = true → ∀ (v3 : Value) (w3 : World), w3.ownsRow w.heap.size 26 2 v3 (P.length + 1) (cellsL P ++ [.string x1, .string x2]) → w3.ownsRow w.heap.size 26 2 v3 (L.keepL (l.take (k + 1)) names wo).length (cellsL (L.keepL (l.take (k + 1)) names wo))) := hd fun h v3 w3 ho => by
            rw [HST.o, h, if_pos rfl, cellsL_app, List.length_append]
            simpa [cellsL] using ho
          have NO : Hd (L.stays x1 names wo = false → L.keepL (l.take (k + 1)) names wo = P) := hd fun h => by rw [HST.o, h]; simp
          generalize hin : L.isIn x1 names = bi at *
          have HIN := hd hin
          clear hin HST
          cases wo with
          | false =>
            cases bi with
            | true =>
              have V : Hd (L.stays x1 names false = true) := hd <| by unfold L.stays; rw [HIN.o]; rfl
              go_wp2_with (at_builtin; refine wpList_app_litH 23 26 (.agg #[.string ⟨#[]⟩, .string ⟨#[]⟩]) 2 32 Try.underlying23 info_label rfl (by decide) rfl _ _ rfl w.heap.size u7 P.length (cellsL P) (wo2.drewN q) #[.string x1, .string x2] 1 _ rfl rfl rfl HOD.o rfl (by simp [Value.oneCell']) (by omega) (by omega) hzd ?_)
              intro v3 w3 ho3 hg3
              have HB3 := hd (bel_grown HBD.o hg3 (fun g h => (HO.o.lt g h).1))
              have HO3 := hd (YES.o V.o v3 w3 ho3)
              clear hg3 ho3
              go_wp2
              go_roundw
              case rel => exact ⟨k + 1, by omega, by go_num, HO3, HB3⟩
              case measure => simp [intOf]; omega
            | false =>
              have V : Hd (L.stays x1 names false = false) := hd <| by unfold L.stays; rw [HIN.o]; rfl
              go_wp2
              go_roundw
              case rel => exact ⟨k + 1, by omega, by go_num, hd (by rw [NO.o V.o]; exact HOD.o), HBD⟩
              case measure => simp [intOf]; omega
          | true =>
            cases bi with
            | true =>
              have V : Hd (L.stays x1 names true = false) := hd <| by unfold L.stays; rw [HIN.o]; simp
              go_wp2
              go_roundw
              case rel => exact ⟨k + 1, by omega, by go_num, hd (by rw [NO.o V.o]; exact HOD.o), HBD⟩
              case measure => simp [intOf]; omega
            | false =>
              by_cases hm2 : x1 = L.metric
              · have V : Hd (L.stays x1 names true = false) := hd <| by unfold L.stays; simp [hm2]
                have he2 : x1.toList = [95, 95, 110, 97, 109, 101, 95, 95] := by rw [hm2]; decide +kernel
                have he : (x1.toList == [95, 95, 110, 97, 109, 101, 95, 95]) = true := by rw [beq_iff_eq]; exact he2
                clear hm2
                go_wp2
                go_roundw
                case rel => exact ⟨k + 1, by omega, by go_num, hd (by rw [NO.o V.o]; exact HOD.o), HBD⟩
                case measure => simp [intOf]; omega
              · have V : Hd (L.stays x1 names true = true) := hd <| by unfold L.stays; rw [HIN.o]; simp [hm2]
                have he2 : ¬ x1.toList = [95, 95, 110, 97, 109, 101, 95, 95] := fun h => hm2 (toList_inj.1 (h.trans (by decide +kernel)))
                have he : (x1.toList == [95, 95, 110, 97, 109, 101, 95, 95]) = false := by rw [beq_eq_false_iff_ne]; exact he2
                clear hm2
                go_wp2_with (at_builtin; refine wpList_app_litH 23 26 (.agg #[.string ⟨#[]⟩, .string ⟨#[]⟩]) 2 32 Try.underlying23 info_label rfl (by decide) rfl _ _ rfl w.heap.size u7 P.length (cellsL P) (wo2.drewN q) #[.string x1, .string x2] 1 _ rfl rfl rfl HOD.o rfl (by simp [Value.oneCell']) (by omega) (by omega) hzd ?_)
                intro v3 w3 ho3 hg3
                have HB3 := hd (bel_grown HBD.o hg3 (fun g h => (HO.o.lt g h).1))
                have HO3 := hd (YES.o V.o v3 w3 ho3)
                clear hg3 ho3
                go_wp2
                go_roundw
                case rel => exact ⟨k + 1, by omega, by go_num, HO3, HB3⟩
                case measure => simp [intOf]; omega
    · have e : l.take k = l := List.take_of_length_le (by rw [HLL.o]; omega)
      rw [e] at HO
      go_wp2
      go_ret
      exact ⟨_, rfl, HO.o, HBW.o⟩
end Go.Proofs.Ytifaepkeoffcfaa
