/- UtfAlls: the law's walk. -/
import Derived.Test.YthlpgnidjjclcaaUGone
import Derived.Test.YthlpgnidjjclcaaUInts
import Derived.Deep.QuietTactic
import Derived.BigQuiet
namespace Go.Proofs.Ythlpgnidjjclcaa
open Go.RowKit
set_option linter.unusedVariables false
set_option linter.unusedSimpArgs false
theorem U.all_places (s : ByteArray) : ∀ n p, s.size - p = n → U.placesFrom s p = (U.allFrom s p).map (·.1) ∧ U.runesFrom s p = (U.allFrom s p).map (·.2) := by
  intro n
  induction n using Nat.strongRecOn with
  | ind n ih =>
    intro p hp
    by_cases h : p < s.size
    · cases hb : U.bad s p with
      | true => rw [U.all_bad s p hb, U.places_bad s p hb, U.runes_bad s p hb]; exact ⟨rfl, rfl⟩
      | false =>
        have hd := U.dec_pos s p
        obtain ⟨h1, h2⟩ := ih (s.size - (p + (Utf8.decode s p).2)) (by omega) _ rfl
        rw [U.all_step s p h hb, U.places_step s p h hb, U.runes_step s p h hb, h1, h2]
        exact ⟨rfl, rfl⟩
    · rw [U.all_end s p h, U.places_end s p h, U.runes_end s p h]; exact ⟨rfl, rfl⟩
theorem ints32_take (l : List Int) (k : Nat) : (ints32 l).take k = ints32 (l.take k) := by simp [ints32]
theorem IsL.pre {w : World} {A : Option Addr} {n c : Nat} {xs : List Value} (h : IsL 1 w (.slice A n c) n xs) (m c' : Nat) (hm : m ≤ n) : IsL 1 w (.slice A m c') m (xs.take m) := by
  obtain ⟨hl, A', c1, e, r⟩ := h
  simp only [Value.slice.injEq, true_and] at e
  obtain ⟨rfl, _⟩ := e
  refine ⟨by rw [List.length_take]; omega, A, c', rfl, fun k hk => ?_⟩
  rw [List.length_take] at hk
  obtain ⟨b, off, e, cc⟩ := r k (by omega)
  exact ⟨b, off, e, by rw [cc, List.getElem_take]⟩
theorem all_any (s : ByteArray) (w : World) :
    Calls Try.prog 15 #[.string s] w fun e w' => e = .returned (.func (.func 43) #[] #[.pointer (some ⟨w.heap.size, 0, none⟩)]) ∧ w' = w.alloc (.cells #[.string s] 9) := by
  go_enter Try.func15, Try.ntmps15
  go_wp2
  go_ret
  exact ⟨rfl, rfl⟩
theorem k_alls : U.allFrom ⟨#[97, 195, 169]⟩ 0 = [(0, 97), (1, 233)] := by
  rw [U.all_step _ 0 (by decide) (by decide +kernel), show U.run ⟨#[97, 195, 169]⟩ 0 = 97 from by decide +kernel, show (Utf8.decode ⟨#[97, 195, 169]⟩ 0).2 = 1 from by decide +kernel,
    U.all_step _ (0 + 1) (by decide) (by decide +kernel), show U.run ⟨#[97, 195, 169]⟩ (0 + 1) = 233 from by decide +kernel, show (Utf8.decode ⟨#[97, 195, 169]⟩ (0 + 1)).2 = 2 from by decide +kernel, U.all_end _ _ (by decide)]
set_option maxRecDepth 100000 in
set_option maxHeartbeats 2000000 in
theorem alls_walk (s : ByteArray) (vb : Value) (zs : List Int) (w : World) (hs : s.size ≤ 1048576) (hz : IsInts .i64 w vb zs) :
    Calls Try.prog 3 #[.string s, vb] w fun e w' => e = .returned (.bool true) ∧ Below w.heap.size w w' := by
  obtain ⟨hzl, hzn, _⟩ := hz
  have HZ := hd hzl
  have KA := hd k_alls
  clear hzl
  go_enter Try.func3, Try.ntmps3
  go_wp2_with fail
  refine (all_any _ _).mono ?_
  rintro e w' ⟨rfl, rfl⟩
  go_wp2_with fail
  refine (gone_any ⟨#[97, 195, 169]⟩ (by decide) w.heap.size (-1) _ (one_cell (World.alloc_heap_new w (.cells #[.string ⟨#[97, 195, 169]⟩] 9))).1 (by simp)).mono ?_
  rintro e w1 ⟨v1, v2, rfl, o1, o2, hb1⟩
  rw [KA.o] at o1 o2
  have HB1 := hd (((Below.refl w.heap.size w).alloc (Nat.le_refl _) (.cells #[.string ⟨#[97, 195, 169]⟩] 9)).trans (hb1.mono (by simp)))
  obtain ⟨g1, c1, rfl, _, _⟩ := o1.form (by decide)
  obtain ⟨g2, c2, rfl, _, _⟩ := o2.form (by decide)
  have d1 := o1.cellAt 1 (by decide)
  have d2 := o2.cellAt 1 (by decide)
  rw [show (cellsP ((List.take (cut (-1) [((0 : Nat), (97 : Nat)), (1, 233)].length) [(0, 97), (1, 233)]).map (·.1)))[1]? = some (.int .i64 1) from rfl] at d1
  rw [show (cellsR ((List.take (cut (-1) [((0 : Nat), (97 : Nat)), (1, 233)].length) [(0, 97), (1, 233)]).map (·.2)))[1]? = some (.int .i32 233) from rfl] at d2
  have el : (List.take (cut (-1) [((0 : Nat), (97 : Nat)), (1, 233)].length) [((0 : Nat), (97 : Nat)), (1, 233)]).length = 2 := rfl
  rw [el]
  clear o1 o2 hb1 el
  go_wp2_with fail
  clear d1 d2
  refine (refAll_any s _ (by omega)).mono ?_
  rintro e w2 ⟨x1, x2, rfl, o1, o2, hb2⟩
  obtain ⟨e1, e2⟩ := U.all_places s s.size 0 rfl
  rw [e1] at o1
  rw [show U.runes s = _ from e2] at o2
  have HB2 := hd (bel HB1.o hb2)
  have hal := U.all_len s s.size 0 rfl
  generalize hA : U.allFrom s 0 = A at *
  have HA := hd hA
  obtain ⟨A1, c3, rfl⟩ := own_shape o1
  obtain ⟨A2, c4, rfl⟩ := own_shape o2
  rw [List.length_map] at o1 o2 ⊢
  have I1 := hd (IsL.own o1)
  have I2 := hd (IsL.own o2)
  have hcap : A.length ≤ c4 := by
    rcases o2.2 with ⟨h, h0⟩ | ⟨g, cap, cur, h, _, _, h1, _⟩
    · omega
    · simp at h; omega
  clear o1 o2 hb2 e1 e2 hA
  rw [List.length_map]
  go_wp2_with fail
  refine (all_any _ _).mono ?_
  rintro e w' ⟨rfl, rfl⟩
  have HCB := hd (one_cell (World.alloc_heap_new w2 (.cells #[.string s] 9))).1
  have HB3 := hd (HB2.o.alloc HB2.o.size (.cells #[.string s] 9))
  have HI1 := hd (I1.o.below ((Below.refl w2.heap.size w2).alloc (Nat.le_refl _) (.cells #[.string s] 9)))
  have HI2 := hd (I2.o.below ((Below.refl w2.heap.size w2).alloc (Nat.le_refl _) (.cells #[.string s] 9)))
  obtain ⟨Bn, hBn⟩ : ∃ Bn, Bn = w2.heap.size := ⟨_, rfl⟩
  have hBw : Bn < (w2.alloc (.cells #[.string s] 9)).heap.size := by rw [hBn]; simp
  rw [← hBn] at HCB ⊢
  generalize w2.alloc (.cells #[.string s] 9) = w3 at *
  clear HB2 I1 I2 hBn
  have hz3 := HB3.o.size
  go_wp2_with (at_builtin; refine wpList_app_any _ 22 3 (.int .i64 0) 1 8 Try.underlying22 info_i64 rfl (by decide) rfl _ _ rfl w3.heap.size (.slice (some ⟨w3.heap.size, 0, none⟩) 1 1) 1 [.int .i64 (-1)] rfl (World.ownsRow_lit w3 #[.int .i64 (-1)] 1 (Nat.le_refl _) (by decide) rfl) vb _ _ rfl (HZ.o.below (HB3.o.alloc hz3 _)) ?c1 ?c2 ?c3 ?c4 ?_)
  case c1 => intro u hu; obtain ⟨x, _, rfl⟩ := List.mem_map.1 hu; rfl
  case c2 => omega
  case c3 => omega
  case c4 => simp
  intro v5 w5 ho5 hg5
  have HB5 := hd (bel_grown (HB3.o.alloc hz3 (.cells #[.int .i64 (-1)] 3)) hg5 (fun k hk => by simp [Value.ownBlock] at hk; omega))
  have HK5 := hd (((Below.refl w3.heap.size w3).alloc (Nat.le_refl _) (.cells #[.int .i64 (-1)] 3)).grown hg5 (by simp) (fun k hk => by simp [Value.ownBlock] at hk; omega))
  have hz5 := HK5.o.size
  clear hg5
  go_wp2_with (at_builtin; refine wpList_app_lit 22 3 (.int .i64 0) 1 8 Try.underlying22 info_i64 rfl (by decide) rfl _ _ rfl w3.heap.size v5 (1 + zs.length) ([.int .i64 (-1)] ++ zs.map (Value.int .i64)) w5 #[.int .i64 (-1)] 1 rfl rfl ho5 rfl ?e1 ?e2 ?e3 hz5 ?_)
  case e1 => rfl
  case e2 => omega
  case e3 => omega
  intro v6 w6 ho6 hg6
  have HB6 := hd (bel_grown HB5.o hg6 (fun k hk => by have := (ho5.lt k hk).1; omega))
  have HK6 := hd (HK5.o.grown hg6 hz5 (fun k hk => (ho5.lt k hk).1))
  obtain ⟨g6, cap6, rfl, _, hg6l⟩ := ho6.form (by omega)
  obtain ⟨zz, hzz⟩ : ∃ zz : List Int, zz = -1 :: (zs ++ [-1]) := ⟨_, rfl⟩
  have hzl : zz.length = 1 + zs.length + 1 := by rw [hzz]; simp; omega
  have HO6 : Hd (∀ k (h : k < zz.length), w6.cell? ⟨g6, k, none⟩ = some (.int .i64 (zz[k]'h))) := hd fun k h => by
    have h1 := ho6.cellAt k (by omega)
    rw [h1, show (Value.int IntKind.i64 (-1) :: (List.map (Value.int IntKind.i64) zs ++ [Value.int IntKind.i64 (-1)])) = zz.map (Value.int .i64) from by rw [hzz]; simp, List.getElem?_map, List.getElem?_eq_getElem h]
    rfl
  have HZL := hd hzl
  clear hg6 ho6 ho5 hzz hzl HB5 HK5
  go_wp2
  go_loopw [47] (fun x wr => ∃ k : Nat, k ≤ 1 + zs.length + 1 ∧ x = .int .i64 k ∧ Hd (Below w6.heap.size w6 wr)) (fun x _ => 1 + zs.length + 1 - (intOf x).toNat)
  case atStart => exact ⟨0, by omega, rfl, hd (Below.refl _ _)⟩
  case round =>
    obtain ⟨k, hk, rfl, HBW⟩ := hrel
    by_cases hlt : k < 1 + zs.length + 1
    · have c0 := HO6.o k (by rw [HZL.o]; exact hlt)
      have d0 := (HBW.o.cell (p := ⟨g6, k, none⟩) hg6l).trans c0
      generalize zz[k]'_ = st at *
      have HKW := hd (HK6.o.trans (HBW.o.mono HK6.o.size))
      have hcb := (HKW.o.cell (p := ⟨Bn, 0, none⟩) hBw).trans HCB.o
      have HBn : Hd (Bn < wr.heap.size) := hd (Nat.lt_of_lt_of_le hBw HKW.o.size)
      have HCBW := hd hcb
      clear c0 hcb
      obtain ⟨m, hm⟩ : ∃ m, m = cut st A.length := ⟨_, rfl⟩
      have hC : (0 < st ∧ st < A.length ∧ st = m) ∨ ((¬ 0 < st ∨ ¬ st < A.length) ∧ m = A.length) := by
        unfold cut at hm
        by_cases h : 0 < st ∧ st < A.length
        · rw [if_pos h] at hm; exact .inl ⟨h.1, h.2, by omega⟩
        · rw [if_neg h] at hm; exact .inr ⟨by omega, hm⟩
      have hml : m ≤ A.length := by omega
      have HM := hd hm
      have hlm : (A.take m).length = m := by rw [List.length_take]; omega
      have HLM := hd hlm
      have HC := hd hC
      clear hm hlm hC
      go_wp2_with fail
      refine (gone_any s (by omega) Bn st wr HCBW.o HBn.o).mono ?_
      rintro e w7 ⟨v1, v2, rfl, o3, o4, hb7⟩
      rw [HA.o, ← HM.o, HLM.o] at o3 o4
      have HB7 := hd (bel HBW.o hb7)
      have HKW7 := hd (HKW.o.trans (hb7.mono HKW.o.size))
      have HW1 := hd (HI1.o.below HKW7.o)
      have HW2 : Hd (IsL 1 w7 (.slice A2 m c4) m (ints32 (((A.take m).map (·.2)).map fun (n : Nat) => (n : Int)))) := hd <| by
        have := (HI2.o.below HKW7.o).pre m c4 hml
        rw [cellsR_map, ints32_take, ← List.map_take, ← List.map_take] at this
        exact this
      obtain ⟨P1, q1, rfl⟩ := own_shape o3
      obtain ⟨P2, q2, rfl⟩ := own_shape o4
      have O3 := hd o3
      have O4 := hd o4
      clear o3 o4 hb7 d0
      rcases HC.o with ⟨h1, h2, h3⟩ | ⟨h1, h2⟩
      · obtain ⟨rfl⟩ := h3
        clear HC HCBW HM
        go_wp2_with fail
        refine (same_any _ _ m m (((A.take m).map (·.2)).map fun (n : Nat) => (n : Int)) (((A.take m).map (·.2)).map fun (n : Nat) => (n : Int)) _ (by rw [← cellsR_map]; exact IsL.own O4.o) HW2.o (by omega)).mono ?_
        rintro e w8 ⟨rfl, hb8⟩
        rw [show ((((A.take m).map (·.2)).map fun (n : Nat) => (n : Int)) == (((A.take m).map (·.2)).map fun (n : Nat) => (n : Int))) = true from by simp]
        have HB8 := hd (bel HB7.o hb8)
        have J1 := hd ((IsL.own O3.o).below hb8)
        have J2 := hd (HW1.o.below hb8)
        clear hb8
        go_wp2
        go_loopw [81] (fun x wr' => ∃ (i d : Nat), i ≤ m ∧ x = .int .i64 i ∧ wr' = w8.drewN d) (fun x _ => m - (intOf x).toNat)
        case atStart => exact ⟨0, 0, Nat.zero_le _, rfl, rfl⟩
        case round =>
          obtain ⟨i, d, hi, rfl, rfl⟩ := hrel
          by_cases hli : i < m
          · have hlen : i < (A.take m).length := by rw [List.length_take]; omega
            obtain ⟨_, q1, q2, q3, q4⟩ := J1.o
            obtain ⟨_, r1, r2, r3, r4⟩ := J2.o
            simp only [Value.slice.injEq, true_and] at q3 r3
            obtain ⟨rfl, rfl⟩ := q3
            obtain ⟨rfl, rfl⟩ := r3
            obtain ⟨b1, o1, rfl, t1⟩ := q4 i (by simp [cellsP]; omega)
            obtain ⟨b2, o2, rfl, t2⟩ := r4 i (by simp [cellsP]; omega)
            have e1 : (cellsP ((A.take m).map (·.1)))[i]'(by simp [cellsP]; omega) = .int .i64 (((A.take m)[i]'hlen).1 : Int) := by simp [cellsP]
            have e2 : (cellsP (A.map (·.1)))[i]'(by simp [cellsP]; omega) = .int .i64 (((A.take m)[i]'hlen).1 : Int) := by simp [cellsP]
            rw [e1] at t1
            rw [e2] at t2
            generalize ((A.take m)[i]'hlen).1 = pl at *
            have u1 : (0 : Int) ≤ (i : Int) := by omega
            have u2 : (i : Int) < (m : Int) := by omega
            have u3 : (i : Int) < (A.length : Int) := by omega
            clear e1 e2 hlen
            go_wp2
            go_quiet (fail)
            go_wp2
            go_roundw
            case rel => exact ⟨i + 1, _, by omega, by go_num, rfl⟩
            case measure => simp [intOf]; omega
          · go_wp2
            go_roundw
            case rel => exact ⟨k + 1, by omega, by go_num, hd (bel_drew HB8.o _)⟩
            case measure => simp [intOf]; omega
      · obtain rfl := h2
        clear HC HCBW HM
        by_cases h0 : 0 < st
        · have h2 : ¬ st < (A.length : Int) := by omega
          go_wp2_with fail
          refine (same_any _ _ A.length A.length (((A.take A.length).map (·.2)).map fun (n : Nat) => (n : Int)) (((A.take A.length).map (·.2)).map fun (n : Nat) => (n : Int)) _ (by rw [← cellsR_map]; exact IsL.own O4.o) HW2.o (by omega)).mono ?_
          rintro e w8 ⟨rfl, hb8⟩
          rw [show ((((A.take A.length).map (·.2)).map fun (n : Nat) => (n : Int)) == (((A.take A.length).map (·.2)).map fun (n : Nat) => (n : Int))) = true from by simp]
          have HB8 := hd (bel HB7.o hb8)
          have J1 := hd ((IsL.own O3.o).below hb8)
          have J2 := hd (HW1.o.below hb8)
          clear hb8
          go_wp2
          go_loopw [81] (fun x wr' => ∃ (i d : Nat), i ≤ A.length ∧ x = .int .i64 i ∧ wr' = w8.drewN d) (fun x _ => A.length - (intOf x).toNat)
          case atStart => exact ⟨0, 0, Nat.zero_le _, rfl, rfl⟩
          case round =>
            obtain ⟨i, d, hi, rfl, rfl⟩ := hrel
            by_cases hli : i < A.length
            · have hlen : i < (A.take A.length).length := by rw [List.length_take]; omega
              obtain ⟨_, q1, q2, q3, q4⟩ := J1.o
              obtain ⟨_, r1, r2, r3, r4⟩ := J2.o
              simp only [Value.slice.injEq, true_and] at q3 r3
              obtain ⟨rfl, rfl⟩ := q3
              obtain ⟨rfl, rfl⟩ := r3
              obtain ⟨b1, o1, rfl, t1⟩ := q4 i (by simp [cellsP]; omega)
              obtain ⟨b2, o2, rfl, t2⟩ := r4 i (by simp [cellsP]; omega)
              have e1 : (cellsP ((A.take A.length).map (·.1)))[i]'(by simp [cellsP]; omega) = .int .i64 (((A.take A.length)[i]'hlen).1 : Int) := by simp [cellsP]
              have e2 : (cellsP (A.map (·.1)))[i]'(by simp [cellsP]; omega) = .int .i64 (((A.take A.length)[i]'hlen).1 : Int) := by simp [cellsP]
              rw [e1] at t1
              rw [e2] at t2
              generalize ((A.take A.length)[i]'hlen).1 = pl at *
              have u1 : (0 : Int) ≤ (i : Int) := by omega
              have u2 : (i : Int) < (A.length : Int) := by omega
              have u3 : (i : Int) < (A.length : Int) := by omega
              clear e1 e2 hlen
              go_wp2
              go_quiet (fail)
              go_wp2
              go_roundw
              case rel => exact ⟨i + 1, _, by omega, by go_num, rfl⟩
              case measure => simp [intOf]; omega
            · go_wp2
              go_roundw
              case rel => exact ⟨k + 1, by omega, by go_num, hd (bel_drew HB8.o _)⟩
              case measure => simp [intOf]; omega
        · go_wp2_with fail
          refine (same_any _ _ A.length A.length (((A.take A.length).map (·.2)).map fun (n : Nat) => (n : Int)) (((A.take A.length).map (·.2)).map fun (n : Nat) => (n : Int)) _ (by rw [← cellsR_map]; exact IsL.own O4.o) HW2.o (by omega)).mono ?_
          rintro e w8 ⟨rfl, hb8⟩
          rw [show ((((A.take A.length).map (·.2)).map fun (n : Nat) => (n : Int)) == (((A.take A.length).map (·.2)).map fun (n : Nat) => (n : Int))) = true from by simp]
          have HB8 := hd (bel HB7.o hb8)
          have J1 := hd ((IsL.own O3.o).below hb8)
          have J2 := hd (HW1.o.below hb8)
          clear hb8
          go_wp2
          go_loopw [81] (fun x wr' => ∃ (i d : Nat), i ≤ A.length ∧ x = .int .i64 i ∧ wr' = w8.drewN d) (fun x _ => A.length - (intOf x).toNat)
          case atStart => exact ⟨0, 0, Nat.zero_le _, rfl, rfl⟩
          case round =>
            obtain ⟨i, d, hi, rfl, rfl⟩ := hrel
            by_cases hli : i < A.length
            · have hlen : i < (A.take A.length).length := by rw [List.length_take]; omega
              obtain ⟨_, q1, q2, q3, q4⟩ := J1.o
              obtain ⟨_, r1, r2, r3, r4⟩ := J2.o
              simp only [Value.slice.injEq, true_and] at q3 r3
              obtain ⟨rfl, rfl⟩ := q3
              obtain ⟨rfl, rfl⟩ := r3
              obtain ⟨b1, o1, rfl, t1⟩ := q4 i (by simp [cellsP]; omega)
              obtain ⟨b2, o2, rfl, t2⟩ := r4 i (by simp [cellsP]; omega)
              have e1 : (cellsP ((A.take A.length).map (·.1)))[i]'(by simp [cellsP]; omega) = .int .i64 (((A.take A.length)[i]'hlen).1 : Int) := by simp [cellsP]
              have e2 : (cellsP (A.map (·.1)))[i]'(by simp [cellsP]; omega) = .int .i64 (((A.take A.length)[i]'hlen).1 : Int) := by simp [cellsP]
              rw [e1] at t1
              rw [e2] at t2
              generalize ((A.take A.length)[i]'hlen).1 = pl at *
              have u1 : (0 : Int) ≤ (i : Int) := by omega
              have u2 : (i : Int) < (A.length : Int) := by omega
              have u3 : (i : Int) < (A.length : Int) := by omega
              clear e1 e2 hlen
              go_wp2
              go_quiet (fail)
              go_wp2
              go_roundw
              case rel => exact ⟨i + 1, _, by omega, by go_num, rfl⟩
              case measure => simp [intOf]; omega
            · go_wp2
              go_roundw
              case rel => exact ⟨k + 1, by omega, by go_num, hd (bel_drew HB8.o _)⟩
              case measure => simp [intOf]; omega
    · go_wp2
      go_ret
      exact ⟨rfl, HB6.o.trans (HBW.o.mono HB6.o.size)⟩
theorem alls_law (W : World) {H : Type} (v : Value) (d : DataW H) (v1 : Value) (d1 : DataW H) (h : ∃ s, IsStr v d s) (h1 : Rows.uptoBulk d1 ≤ 1048576 → ∃ l, IsInts .i64 W v1 l)
    (hb : Rows.uptoBulk d + (Rows.uptoBulk d1 + 0) ≤ 1048576) :
    Calls Try.prog 3 #[v, v1] W fun e W' => e = .returned (.bool true) ∧ Below W.heap.size W W' := by
  obtain ⟨s, rfl, rfl, _⟩ := h
  obtain ⟨l, hl⟩ := h1 (by omega)
  rw [bulk_str, ← Lib.size_eq] at hb
  exact alls_walk s v1 l W (by omega) hl
end Go.Proofs.Ythlpgnidjjclcaa
