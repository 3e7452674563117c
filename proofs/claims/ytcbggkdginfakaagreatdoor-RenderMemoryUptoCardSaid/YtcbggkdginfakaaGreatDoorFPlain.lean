/- plain: the decimal 0.d * 10^k written out (weirref02/show.go). -/
import Derived.Test.YtcbggkdginfakaaGreatDoorFDG
namespace Go.Proofs.YtcbggkdginfakaaGreatDoor
open Go.RowKit
set_option linter.unusedVariables false
set_option linter.unusedSimpArgs false
namespace FB
/-- what the second loop has put before its round i -/
def pre (k : Int) : List UInt8 := if k ≤ 0 then [48, 46] ++ List.replicate (-k).toNat 48 else []
/-- what its first loop has put at i -/
def prI (k i : Int) : List UInt8 := if k ≤ 0 then [48, 46] ++ List.replicate (i - k).toNat 48 else []
theorem prI_len (k i : Int) (h : i ≤ 0) (h2 : -1000 ≤ k) : (prI k i).length ≤ 1002 := by
  unfold prI
  split
  · simp; omega
  · simp
theorem prI_end (k i : Int) (h : k ≤ 0 → i = 0) : prI k i = pre k := by
  unfold prI pre
  by_cases c : k ≤ 0
  · rw [if_pos c, if_pos c, h c]; simp
  · rw [if_neg c, if_neg c]
theorem prI_succ (k i : Int) (h : k ≤ i) (h0 : k ≤ 0) : prI k (i + 1) = prI k i ++ [48] := by
  unfold prI
  rw [if_pos h0, if_pos h0, show (i + 1 - k).toNat = (i - k).toNat + 1 by omega, List.replicate_succ', List.append_assoc]
theorem pre_len (k : Int) (h2 : -1000 ≤ k) : (pre k).length ≤ 1002 := by
  unfold pre
  split
  · simp; omega
  · simp
def em (D : List UInt8) (k : Int) (i : Nat) : List UInt8 :=
  if k ≤ 0 then D.take i else if (i : Int) ≤ k then D.take i ++ List.replicate (i - D.length) 48 else D.take k.toNat ++ [46] ++ (D.drop k.toNat).take (i - k.toNat)
theorem em_len (D : List UInt8) (k : Int) (i : Nat) (hi : i ≤ 1000) (hD : D.length ≤ 1000) : (em D k i).length ≤ 3002 := by
  unfold em
  split
  · simp; omega
  · split
    · simp; omega
    · simp; omega
theorem em_zero (D : List UInt8) (k : Int) : em D k 0 = [] := by
  unfold em
  split
  · simp
  · rw [if_pos (by omega)]; simp
theorem em_end {D : List UInt8} {k : Int} {i : Nat} (h1 : D.length ≤ i) (h2 : k ≤ i) (h3 : i = D.length ∨ (i : Int) = k) : pre k ++ em D k i = plainT D k := by
  unfold pre em plainT
  by_cases c : k ≤ 0
  · rw [if_pos c, if_pos c, if_pos c, List.take_of_length_le h1]
  · rw [if_neg c, if_neg c, if_neg c, List.nil_append]
    by_cases c2 : (i : Int) ≤ k
    · have hk : k.toNat = i := by omega
      rw [if_pos c2, if_neg (by omega), List.take_of_length_le h1, hk]
    · rw [if_neg c2, if_pos (by omega), List.take_of_length_le (l := D.drop k.toNat) (by rw [List.length_drop]; omega)]
theorem em_dot {D : List UInt8} {k : Int} {i : Nat} (h : (i : Int) = k) (hk : 0 < k) (hi : i < D.length) : em D k (i + 1) = em D k i ++ [46] ++ [D[i]] := by
  unfold em
  have e : k.toNat = i := by omega
  rw [if_neg (by omega), if_neg (by omega), if_neg (by omega), if_pos (by omega), e]
  have e2 : i + 1 - i = 1 := by omega
  have e3 : i - D.length = 0 := by omega
  rw [e2, e3]
  simp
  rw [List.drop_eq_getElem_cons hi]
  rfl
theorem em_dig {D : List UInt8} {k : Int} {i : Nat} (h : (i : Int) ≠ k ∨ k ≤ 0) (hi : i < D.length) : em D k (i + 1) = em D k i ++ [D[i]] := by
  unfold em
  by_cases c : k ≤ 0
  · rw [if_pos c, if_pos c, List.take_succ_eq_append_getElem hi]
  · rw [if_neg c, if_neg c]
    by_cases c2 : (i : Int) ≤ k
    · have e3 : i - D.length = 0 := by omega
      have e4 : i + 1 - D.length = 0 := by omega
      rw [if_pos (by omega), if_pos c2, e3, e4, List.take_succ_eq_append_getElem hi]
      simp
    · rw [if_neg (by omega), if_neg c2]
      have e5 : i + 1 - k.toNat = (i - k.toNat) + 1 := by omega
      have e6 : i - k.toNat < (D.drop k.toNat).length := by rw [List.length_drop]; omega
      rw [e5, List.take_succ_eq_append_getElem e6, List.getElem_drop]
      have e7 : k.toNat + (i - k.toNat) = i := by omega
      simp only [e7, List.append_assoc]
theorem em_zer {D : List UInt8} {k : Int} {i : Nat} (h : (i : Int) < k) (hi : D.length ≤ i) : em D k (i + 1) = em D k i ++ [48] := by
  unfold em
  rw [if_neg (show ¬ k ≤ 0 by omega), if_neg (show ¬ k ≤ 0 by omega), if_pos (show ((i + 1 : Nat) : Int) ≤ k by omega), if_pos (show (i : Int) ≤ k by omega), List.take_of_length_le hi, List.take_of_length_le (show D.length ≤ i + 1 by omega)]
  have e : i + 1 - D.length = (i - D.length) + 1 := by omega
  rw [e, List.replicate_succ', List.append_assoc]
end FB
theorem own_snocB {w : World} {B : Nat} {e : TypeId} {v : Value} {O : List UInt8} {E : Int} {N : Nat} {b : UInt8} {xs : List Value} (h : w.ownsRow B e 1 v N xs) (hN : N = O.length + 1) (hx : xs = cellsB O ++ [Value.int .u8 E]) (hE : E = (b.toNat : Int)) :
    w.ownsRow B e 1 v (O ++ [b]).length (cellsB (O ++ [b])) := by
  subst hE hN hx
  rw [cellsB_app, List.length_append]
  exact h
/-- a row of bytes of the call's own -/
def OwB (B : Nat) (w : World) (v : Value) (O : List UInt8) : Prop := w.ownsRow B 5 1 v O.length (cellsB O)
theorem OwB.lit {B : Nat} {w : World} {v : Value} {O L : List UInt8} {n : Nat} {xs ys : List Value} (h : w.ownsRow B 5 1 v n (xs ++ ys)) (hn : n = O.length + L.length) (hx : xs = cellsB O) (hy : ys = cellsB L) : OwB B w v (O ++ L) := by
  subst hn hx hy
  unfold OwB
  rw [cellsB_app, List.length_append]
  exact h
set_option maxRecDepth 100000 in
set_option maxHeartbeats 2000000 in
theorem plain_any (D : List UInt8) (k : Int) (w : World) (hD : D.length ≤ 100) (hk1 : -1000 ≤ k) (hk2 : k ≤ 1000) :
    Calls Tryz.prog 124 #[.string ⟨D.toArray⟩, .int .i64 k] w fun e w' => e = .returned (.string ⟨(plainT D k).toArray⟩) ∧ Below w.heap.size w w' := by
  go_enter Tryz.func124, Tryz.ntmps124
  go_wp2_with (at_make; refine wpList_mk0 _ 32 5 (.int .u8 0) 1 1 Tryz.underlying32 info_u8f rfl _ _ rfl w.heap.size _ _ 340 rfl rfl (by decide) (by decide) (Nat.le_refl _) ?_)
  intro w2 ho hg
  have HO : Hd (OwB w.heap.size w2 (.slice (some ⟨w.heap.size, 0, none⟩) 0 340) []) := hd ho
  have HB := hd (bel_grown (Below.refl w.heap.size w) hg (fun k h => by cases h))
  have hz2 : w.heap.size ≤ w2.heap.size := HB.o.size
  clear ho hg
  by_cases hk : k ≤ 0
  · go_wp2_with (at_builtin; refine wpList_app_lit 32 5 (.int .u8 0) 1 1 Tryz.underlying32 info_u8f rfl (by decide) rfl _ _ rfl w.heap.size (.slice (some ⟨w.heap.size, 0, none⟩) 0 340) 0 [] w2 #[.int .u8 48, .int .u8 46] 2 ?_ ?_ ?_ ?_ ?_ ?_ ?_ ?_ ?_; all_goals (first | exact HO.o | rfl | omega | exact hz2 | (simp [Value.oneCell']; done) | skip))
    intro v3 w3 ho3 hg3
    have HO3 : Hd (OwB w.heap.size w3 v3 (FB.prI k k)) := hd (by
      have h := OwB.lit (O := []) (L := [48, 46]) (xs := []) ho3 (by simp; try omega) rfl rfl
      unfold FB.prI
      rw [if_pos hk]
      simpa using h)
    have HB3 := hd (bel_grown HB.o hg3 (fun g h => (HO.o.lt g h).1))
    clear ho3 hg3 HO HB hz2
    go_wp2
    go_loopw [5, 6] (fun v x wr => ∃ (i : Int) (O : List UInt8), x = .int .i64 i ∧ k ≤ i ∧ i ≤ max k 0 ∧ (k ≤ 0 → i ≤ 0) ∧ Hd (O = FB.prI k i) ∧ Hd (OwB w.heap.size wr v O) ∧ Hd (Below w.heap.size w wr)) (fun v x wr => (- intOf x).toNat)
    case atStart => exact ⟨k, _, rfl, Int.le_refl _, by omega, fun h => h, hd rfl, HO3, by first | exact HB3 | exact HB⟩
    case round =>
      obtain ⟨i, O, rfl, hki, him, hi0, HOe, HOr, HBr⟩ := hrel
      have hz : w.heap.size ≤ wr.heap.size := HBr.o.size
      by_cases hneg : i < 0
      · have hk0 : k ≤ 0 := by omega
        have hl : O.length ≤ 1002 := by rw [HOe.o]; exact FB.prI_len k i (by omega) hk1
        go_wp2_with (at_builtin; refine wpList_app_lit 32 5 (.int .u8 0) 1 1 Tryz.underlying32 info_u8f rfl (by decide) rfl _ _ rfl w.heap.size u5 O.length (cellsB O) wr #[.int .u8 48] 1 ?_ ?_ ?_ ?_ ?_ ?_ ?_ ?_ ?_; all_goals (first | exact HOr.o | rfl | omega | exact hz | (simp [Value.oneCell']; done) | skip))
        intro v4 w4 ho4 hg4
        have HO4 : Hd (OwB w.heap.size w4 v4 (FB.prI k (i + 1))) := hd (by
          have h := OwB.lit (O := O) (L := [48]) ho4 (by simp; try omega) rfl rfl
          rw [HOe.o] at h
          rw [FB.prI_succ k i hki hk0]
          exact h)
        have HB4 := hd (bel_grown HBr.o hg4 (fun g h => (HOr.o.lt g h).1))
        clear ho4 hg4
        go_wp2
        go_roundw
        case rel => exact ⟨i + 1, _, by go_num, by omega, by omega, fun _ => by omega, hd rfl, HO4, HB4⟩
        case measure => simp [intOf]; omega
      · have HP : Hd (O = FB.pre k ++ FB.em D k 0) := hd (by rw [FB.em_zero, List.append_nil, HOe.o]; exact FB.prI_end k i (fun h => by have := hi0 h; omega))
        clear HOe
        go_wp2
        have HPr : Hd (OwB w.heap.size wr u5 (FB.pre k ++ FB.em D k 0)) := hd (by rw [← HP.o]; exact HOr.o)
        clear HP HOr hz HO3
        go_loopw [5, 7] (fun v x wr => ∃ (i : Nat), x = .int .i64 i ∧ ((i : Int) ≤ D.length ∨ (i : Int) ≤ k) ∧ Hd (OwB w.heap.size wr v (FB.pre k ++ FB.em D k i)) ∧ Hd (Below w.heap.size w wr)) (fun v x wr => (max (D.length : Int) k - intOf x).toNat)
        case atStart => exact ⟨0, rfl, by omega, HPr, HBr⟩
        case round =>
          obtain ⟨wv, rfl⟩ : ∃ wv : World, wv = wr := ⟨_, rfl⟩
          obtain ⟨j, rfl, hjm, HOj, HBj⟩ := hrel
          have hz : w.heap.size ≤ wv.heap.size := HBj.o.size
          have hl : (FB.pre k ++ FB.em D k j).length ≤ 5000 := by
            have h1 := FB.pre_len k hk1
            have h2 := FB.em_len D k j (by omega) (by omega)
            rw [List.length_append]; omega
          by_cases hjD : j < D.length
          · have hjDI : (j : Int) < (D.length : Int) := by omega
            by_cases hd1 : (j : Int) = k ∧ 0 < k
            · exact absurd hd1.2 (by omega)
            · by_cases hd2 : (j : Int) = k
              · have hk0 : k = 0 := by omega
                subst hk0
                have hj0 : j = 0 := by omega
                subst hj0
                have HE := hd (FB.em_dig (D := D) (k := 0) (i := 0) (.inr (by decide)) hjD)
                clear hd1 hd2
                go_wp2_with (at_builtin; refine wpList_app_lit 32 5 (.int .u8 0) 1 1 Tryz.underlying32 info_u8f rfl (by decide) rfl _ _ rfl w.heap.size u5 (FB.pre 0 ++ FB.em D 0 0).length (cellsB (FB.pre 0 ++ FB.em D 0 0)) wv _ 1 ?_ ?_ ?_ ?_ ?_ ?_ ?_ ?_ ?_; all_goals (first | exact HOj.o | rfl | omega | exact hz | (simp [Value.oneCell']; done) | skip))
                intro v5 w5 ho5 hg5
                have HO5 : Hd (OwB w.heap.size w5 v5 (FB.pre 0 ++ FB.em D 0 (0 + 1))) := hd (by
                  have h := OwB.lit (O := FB.pre 0 ++ FB.em D 0 0) (L := [D[0]]) ho5 (by simp; try omega) rfl rfl
                  rw [HE.o, ← List.append_assoc]
                  exact h)
                have HB5 := hd (bel_grown HBj.o hg5 (fun g h => (HOj.o.lt g h).1))
                clear ho5 hg5
                go_wp2
                go_roundw
                case rel => exact ⟨0 + 1, by go_num, by omega, HO5, HB5⟩
                case measure => simp [intOf]; omega
              · have t1 : ((j : Int) == k) = false := by simpa using hd2
                have HE := hd (FB.em_dig (.inl hd2) hjD)
                clear hd1 hd2
                go_wp2_with (at_builtin; refine wpList_app_lit 32 5 (.int .u8 0) 1 1 Tryz.underlying32 info_u8f rfl (by decide) rfl _ _ rfl w.heap.size u5 (FB.pre k ++ FB.em D k j).length (cellsB (FB.pre k ++ FB.em D k j)) wv _ 1 ?_ ?_ ?_ ?_ ?_ ?_ ?_ ?_ ?_; all_goals (first | exact HOj.o | rfl | omega | exact hz | (simp [Value.oneCell']; done) | skip))
                intro v5 w5 ho5 hg5
                have HO5 : Hd (OwB w.heap.size w5 v5 (FB.pre k ++ FB.em D k (j + 1))) := hd (by
                  have h := OwB.lit (O := FB.pre k ++ FB.em D k j) (L := [D[j]]) ho5 (by simp; try omega) rfl rfl
                  rw [HE.o, ← List.append_assoc]
                  exact h)
                have HB5 := hd (bel_grown HBj.o hg5 (fun g h => (HOj.o.lt g h).1))
                clear ho5 hg5
                go_wp2
                go_roundw
                case rel => exact ⟨j + 1, by go_num, by omega, HO5, HB5⟩
                case measure => simp [intOf]; omega
          · have hjDI : (D.length : Int) ≤ (j : Int) := by omega
            by_cases hjk : (j : Int) < k
            · exact absurd hjk (by omega)
            · have HEND := hd (FB.em_end (D := D) (k := k) (i := j) (by omega) (by omega) (by omega))
              have hcv : (convert 32 9 u5).run Tryz.prog wv = .ok (.string ⟨(FB.pre k ++ FB.em D k j).toArray⟩) wv := conv_u8 (IsL.own HOj.o)
              go_wp2
              go_ret
              rw [HEND.o]
              exact ⟨rfl, HBj.o⟩
  · have HO3 : Hd (OwB w.heap.size w2 (.slice (some ⟨w.heap.size, 0, none⟩) 0 340) (FB.prI k k)) := hd (by unfold FB.prI; rw [if_neg hk]; exact HO.o)
    clear HO hz2
    go_wp2
    go_loopw [5, 6] (fun v x wr => ∃ (i : Int) (O : List UInt8), x = .int .i64 i ∧ k ≤ i ∧ i ≤ max k 0 ∧ (k ≤ 0 → i ≤ 0) ∧ Hd (O = FB.prI k i) ∧ Hd (OwB w.heap.size wr v O) ∧ Hd (Below w.heap.size w wr)) (fun v x wr => (- intOf x).toNat)
    case atStart => exact ⟨k, _, rfl, Int.le_refl _, by omega, fun h => h, hd rfl, HO3, by first | exact HB3 | exact HB⟩
    case round =>
      obtain ⟨i, O, rfl, hki, him, hi0, HOe, HOr, HBr⟩ := hrel
      have hz : w.heap.size ≤ wr.heap.size := HBr.o.size
      by_cases hneg : i < 0
      · exact absurd hneg (by omega)
      · have HP : Hd (O = FB.pre k ++ FB.em D k 0) := hd (by rw [FB.em_zero, List.append_nil, HOe.o]; exact FB.prI_end k i (fun h => by have := hi0 h; omega))
        clear HOe
        go_wp2
        have HPr : Hd (OwB w.heap.size wr u5 (FB.pre k ++ FB.em D k 0)) := hd (by rw [← HP.o]; exact HOr.o)
        clear HP HOr hz HO3
        go_loopw [5, 7] (fun v x wr => ∃ (i : Nat), x = .int .i64 i ∧ ((i : Int) ≤ D.length ∨ (i : Int) ≤ k) ∧ Hd (OwB w.heap.size wr v (FB.pre k ++ FB.em D k i)) ∧ Hd (Below w.heap.size w wr)) (fun v x wr => (max (D.length : Int) k - intOf x).toNat)
        case atStart => exact ⟨0, rfl, by omega, HPr, HBr⟩
        case round =>
          obtain ⟨wv, rfl⟩ : ∃ wv : World, wv = wr := ⟨_, rfl⟩
          obtain ⟨j, rfl, hjm, HOj, HBj⟩ := hrel
          have hz : w.heap.size ≤ wv.heap.size := HBj.o.size
          have hl : (FB.pre k ++ FB.em D k j).length ≤ 5000 := by
            have h1 := FB.pre_len k hk1
            have h2 := FB.em_len D k j (by omega) (by omega)
            rw [List.length_append]; omega
          by_cases hjD : j < D.length
          · have hjDI : (j : Int) < (D.length : Int) := by omega
            by_cases hd1 : (j : Int) = k ∧ 0 < k
            · obtain ⟨hd2, hd3⟩ := hd1
              have t1 : ((j : Int) == k) = true := by simpa using hd2
              have HE := hd (FB.em_dot hd2 hd3 hjD)
              clear hd2
              have hl2 : (FB.pre k ++ FB.em D k j ++ [46]).length ≤ 5001 := by rw [List.length_append]; simpa using hl
              go_wp2_with (at_builtin; refine wpList_app_lit 32 5 (.int .u8 0) 1 1 Tryz.underlying32 info_u8f rfl (by decide) rfl _ _ rfl w.heap.size u5 (FB.pre k ++ FB.em D k j).length (cellsB (FB.pre k ++ FB.em D k j)) wv #[.int .u8 46] 1 ?_ ?_ ?_ ?_ ?_ ?_ ?_ ?_ ?_; all_goals (first | exact HOj.o | rfl | omega | exact hz | (simp [Value.oneCell']; done) | skip))
              intro v4 w4 ho4 hg4
              have HO4 : Hd (OwB w.heap.size w4 v4 (FB.pre k ++ FB.em D k j ++ [46])) := hd (OwB.lit (O := FB.pre k ++ FB.em D k j) (L := [46]) ho4 (by simp; try omega) rfl rfl)
              have HB4 := hd (bel_grown HBj.o hg4 (fun g h => (HOj.o.lt g h).1))
              have hz4 : w.heap.size ≤ w4.heap.size := HB4.o.size
              clear ho4 hg4
              go_wp2_with (at_builtin; refine wpList_app_lit 32 5 (.int .u8 0) 1 1 Tryz.underlying32 info_u8f rfl (by decide) rfl _ _ rfl w.heap.size v4 (FB.pre k ++ FB.em D k j ++ [46]).length (cellsB (FB.pre k ++ FB.em D k j ++ [46])) w4 _ 1 ?_ ?_ ?_ ?_ ?_ ?_ ?_ ?_ ?_; all_goals (first | exact HO4.o | rfl | omega | exact hz4 | (simp [Value.oneCell']; done) | skip))
              intro v5 w5 ho5 hg5
              have HO5 : Hd (OwB w.heap.size w5 v5 (FB.pre k ++ FB.em D k (j + 1))) := hd (by
                have h := OwB.lit (O := FB.pre k ++ FB.em D k j ++ [46]) (L := [D[j]]) ho5 (by simp; try omega) (by rw [List.append_assoc]) rfl
                rw [HE.o, ← List.append_assoc, ← List.append_assoc]
                exact h)
              have HB5 := hd (bel_grown HB4.o hg5 (fun g h => (HO4.o.lt g h).1))
              clear ho5 hg5
              go_wp2
              go_roundw
              case rel => exact ⟨j + 1, by go_num, by omega, HO5, HB5⟩
              case measure => simp [intOf]; omega
            · by_cases hd2 : (j : Int) = k
              · exact absurd ⟨hd2, by omega⟩ hd1
              · have t1 : ((j : Int) == k) = false := by simpa using hd2
                have HE := hd (FB.em_dig (.inl hd2) hjD)
                clear hd1 hd2
                go_wp2_with (at_builtin; refine wpList_app_lit 32 5 (.int .u8 0) 1 1 Tryz.underlying32 info_u8f rfl (by decide) rfl _ _ rfl w.heap.size u5 (FB.pre k ++ FB.em D k j).length (cellsB (FB.pre k ++ FB.em D k j)) wv _ 1 ?_ ?_ ?_ ?_ ?_ ?_ ?_ ?_ ?_; all_goals (first | exact HOj.o | rfl | omega | exact hz | (simp [Value.oneCell']; done) | skip))
                intro v5 w5 ho5 hg5
                have HO5 : Hd (OwB w.heap.size w5 v5 (FB.pre k ++ FB.em D k (j + 1))) := hd (by
                  have h := OwB.lit (O := FB.pre k ++ FB.em D k j) (L := [D[j]]) ho5 (by simp; try omega) rfl rfl
                  rw [HE.o, ← List.append_assoc]
                  exact h)
                have HB5 := hd (bel_grown HBj.o hg5 (fun g h => (HOj.o.lt g h).1))
                clear ho5 hg5
                go_wp2
                go_roundw
                case rel => exact ⟨j + 1, by go_num, by omega, HO5, HB5⟩
                case measure => simp [intOf]; omega
          · have hjDI : (D.length : Int) ≤ (j : Int) := by omega
            by_cases hjk : (j : Int) < k
            · have t1 : ((j : Int) == k) = false := by simp; omega
              have HE := hd (FB.em_zer hjk (by omega : D.length ≤ j))
              go_wp2_with (at_builtin; refine wpList_app_lit 32 5 (.int .u8 0) 1 1 Tryz.underlying32 info_u8f rfl (by decide) rfl _ _ rfl w.heap.size u5 (FB.pre k ++ FB.em D k j).length (cellsB (FB.pre k ++ FB.em D k j)) wv #[.int .u8 48] 1 ?_ ?_ ?_ ?_ ?_ ?_ ?_ ?_ ?_; all_goals (first | exact HOj.o | rfl | omega | exact hz | (simp [Value.oneCell']; done) | skip))
              intro v5 w5 ho5 hg5
              have HO5 : Hd (OwB w.heap.size w5 v5 (FB.pre k ++ FB.em D k (j + 1))) := hd (by
                have h := OwB.lit (O := FB.pre k ++ FB.em D k j) (L := [48]) ho5 (by simp; try omega) rfl rfl
                rw [HE.o, ← List.append_assoc]
                exact h)
              have HB5 := hd (bel_grown HBj.o hg5 (fun g h => (HOj.o.lt g h).1))
              clear ho5 hg5
              go_wp2
              go_roundw
              case rel => exact ⟨j + 1, by go_num, by omega, HO5, HB5⟩
              case measure => simp [intOf]; omega
            · have HEND := hd (FB.em_end (D := D) (k := k) (i := j) (by omega) (by omega) (by omega))
              have hcv : (convert 32 9 u5).run Tryz.prog wv = .ok (.string ⟨(FB.pre k ++ FB.em D k j).toArray⟩) wv := conv_u8 (IsL.own HOj.o)
              go_wp2
              go_ret
              rw [HEND.o]
              exact ⟨rfl, HBj.o⟩
end Go.Proofs.YtcbggkdginfakaaGreatDoor
