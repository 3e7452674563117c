/- render.Sets and weirref29.Sets. -/
import Derived.Test.YtifaepkeoffcfaaRSetsL
import Derived.Test.YtifaepkeoffcfaaRSetsR
namespace Go.Proofs.Ytifaepkeoffcfaa
open Go.RowKit
set_option linter.unusedVariables false
set_option linter.unusedSimpArgs false
theorem R.lst_st (l : List (List Lb)) (h : Sm l) (hn : l.length ≤ 1048576) (ht : R.tot l ≤ 1048576) : (R.lst (l.map R.st)).length ≤ 13194149000002 := by
  have := R.jn_st l h hn ht (l.map R.st).length
  rw [List.take_of_length_le (Nat.le_refl _)] at this
  unfold R.lst
  rw [List.length_append, List.length_cons, List.length_singleton]
  omega
theorem R.sz_cm : ∀ l : List (List Lb), Sm l → R.sz (l.map (R.bt ∘ R.st)) ≤ R.tot l * 12582918 + 3 * l.length
  | [], _ => by simp [R.sz, R.tot]
  | x :: l, h => by
    have h1 := R.sz_cm l (fun y hy => h y (List.mem_cons_of_mem _ hy))
    have h2 := R.st_len x (h x (List.mem_cons_self ..))
    have h3 : ((R.bt ∘ R.st) x).size = (R.st x).length := rfl
    rw [List.map_cons, R.sz, h3, List.length_cons, R.tot, Nat.add_mul]
    omega
theorem R.sz_st (l : List (List Lb)) (h : Sm l) (hn : l.length ≤ 1048576) (ht : R.tot l ≤ 1048576) (k : Nat) : R.sz ((l.map (R.bt ∘ R.st)).take k) ≤ 35184405643264 := by
  have h1 := R.sz_cm (l.take k) (fun x hx => h x (List.mem_of_mem_take hx))
  have h2 := R.tot_take_le l k
  have h3 : (l.take k).length ≤ l.length := by rw [List.length_take]; omega
  rw [← List.map_take]
  omega
set_option maxHeartbeats 1000000 in
theorem reflist2_any (va : Value) (n : Nat) (l : List ByteArray) (w : World) (hl : IsL 1 w va n (cellsS l)) (hn : n ≤ 1048576) (hZ0 : ∀ k, k ≤ n → R.sz (l.take k) ≤ 35184405643264) (hJ0 : ∀ k, k ≤ n → (R.jn ((l.map fun x => x.data.toList).take k)).length ≤ 35184405643264) :
    Calls Try.prog 49 #[va] w fun e w' => e = .returned (.string ⟨(R.lst (l.map fun x => x.data.toList)).toArray⟩) ∧ Below w.heap.size w w' := by
  obtain ⟨A, c, rfl⟩ := hl.shape
  have HN := hd (strs_len hl)
  have HL := hd hl
  obtain ⟨xs, hxs⟩ : ∃ xs, xs = l.map fun x => x.data.toList := ⟨_, rfl⟩
  have HX := hd hxs
  have HJ : Hd (∀ k, k ≤ n → (R.jn (xs.take k)).length ≤ 35184405643264) := hd fun k hk => by rw [HX.o]; exact hJ0 k hk
  have HZ := hd hZ0
  have HXL : Hd (xs.length = n) := hd (by rw [HX.o, List.length_map, HN.o])
  rw [← hxs]
  clear hl hZ0 hJ0 hxs
  go_enter Try.func49, Try.ntmps49
  go_wp2
  go_loopw [3, 11] (fun z x wr => ∃ k Z : Nat, k ≤ n ∧ x = .int .i64 k ∧ z = .int .i64 Z ∧ Z ≤ 35184405643266 ∧ Hd (Z = 2 + R.sz (l.take k)) ∧ wr = w) (fun _ x _ => n - (intOf x).toNat)
  case atStart => exact ⟨0, 2, Nat.zero_le _, rfl, rfl, by omega, hd rfl, rfl⟩
  case round =>
    obtain ⟨k, Z, hk, rfl, rfl, hZ, hZe, rfl⟩ := hrel
    by_cases hlt : k < n
    · have hkx : k < l.length := by rw [HN.o]; exact hlt
      obtain ⟨b, off, rfl, hbl, c0⟩ := strs_at HL.o k hkx
      have HZ2 : Hd (Z + (l[k].size + 1) = 2 + R.sz (l.take (k + 1))) := hd (by rw [R.sz_take l k hkx, hZe.o]; omega)
      have hz2 : Z + (l[k].size + 1) ≤ 35184405643266 := by rw [HZ2.o]; have := HZ.o (k + 1) (by omega); omega
      generalize l[k]'hkx = x at *
      go_wp2
      go_roundw
      case rel => exact ⟨k + 1, Z + (x.size + 1), by omega, by go_num, by go_num, hz2, HZ2, trivial⟩
      case measure => simp [intOf]; omega
    · obtain ⟨wo, rfl⟩ : ∃ wo : World, wo = wr := ⟨_, rfl⟩
      go_wp2_with (at_make; refine wpList_mk0 _ 40 5 (.int .u8 0) 1 1 Try.underlying40 info_out rfl _ _ rfl wo.heap.size _ _ Z rfl rfl ?b1 ?b2 (Nat.le_refl _) ?_)
      case b1 => omega
      case b2 => omega
      intro w1 ho1 hg1
      have HB1 : Hd (Below wo.heap.size wo w1) := hd (below_of_grown (row := none) hg1)
      have hz1 := HB1.o.size
      clear hg1
      go_wp2_with (at_builtin; refine wpList_app_lit 40 5 (.int .u8 0) 1 1 Try.underlying40 info_out rfl (by decide) rfl _ _ rfl wo.heap.size (.slice (some ⟨wo.heap.size, 0, none⟩) 0 Z) 0 [] w1 #[.int .u8 91] 1 rfl rfl ho1 rfl (by simp [Value.oneCell']) (by omega) (by omega) hz1 ?_)
      intro v2 w2 ho2 hg2
      have HB2 := hd (HB1.o.grown hg2 hz1 (fun g hg => (ho1.lt g hg).1))
      have HO2 : Hd (w2.ownsRow wo.heap.size 5 1 v2 [91].length (cellsB [91])) := hd ho2
      clear ho1 ho2 hg2 hz1 HB1
      go_wp2
      go_loopw [6, 28] (fun v x w2 => ∃ (k : Nat) (bs : List UInt8), k ≤ n ∧ x = .int .i64 k ∧ Hd (bs = 91 :: R.jn (xs.take k)) ∧ Hd (w2.ownsRow wo.heap.size 5 1 v bs.length (cellsB bs)) ∧ Hd (Below wo.heap.size wo w2)) (fun _ x _ => n - (intOf x).toNat)
      case atStart => exact ⟨0, [91], Nat.zero_le _, rfl, hd rfl, HO2, HB2⟩
      case round =>
        clear HO2 HB2
        obtain ⟨k, bs, hk, rfl, hbs, HO, HB⟩ := hrel
        have hlen : bs.length ≤ 35184405643265 := by rw [hbs.o, List.length_cons]; have := HJ.o k hk; omega
        have hzr := HB.o.size
        by_cases hlt : k < n
        · have hkx : k < l.length := by rw [HN.o]; exact hlt
          obtain ⟨b, off, rfl, hbl, c0⟩ := strs_at HL.o k hkx
          have d0 := (HB.o.cell (p := ⟨b, off + k, none⟩) hbl).trans c0
          have hsx : (l[k]'hkx).size ≤ 35184405643264 := by have h1 := HZ.o (k + 1) (by omega); rw [R.sz_take l k hkx] at h1; omega
          have HK : Hd (xs[k]'(by rw [HXL.o]; exact hlt) = (l[k]'hkx).data.toList) := hd (by simp [HX.o])
          have HJT := hd (R.jn_take xs k (by rw [HXL.o]; exact hlt))
          rw [HK.o] at HJT
          clear c0 HK
          generalize l[k]'hkx = x at *
          by_cases h0 : k = 0
          · have G : Hd (bs ++ x.data.toList = 91 :: R.jn (xs.take (k + 1))) := hd (by rw [HJT.o, if_pos h0, hbs.o, h0]; rfl)
            have hk0 : ¬ 0 < k := by omega
            clear HJT hbs h0
            go_wp2_with (at_builtin; refine wpList_app_str _ 40 9 5 Try.underlying40 Try.underlying9 info_out rfl _ _ rfl wo.heap.size u6 bs.length (cellsB bs) rfl HO.o x rfl (by omega) hzr ?_)
            intro v3 w3 ho3 hg3
            have HB3 := hd (HB.o.grown hg3 hzr (fun g hg => (HO.o.lt g hg).1))
            have HO3 : Hd (w3.ownsRow wo.heap.size 5 1 v3 (bs ++ x.data.toList).length (cellsB (bs ++ x.data.toList))) := hd (by rw [List.length_append, ← Lib.size_eq, cellsB_app]; exact ho3)
            clear ho3 hg3 HO HB
            go_wp2
            go_roundw
            case rel => exact ⟨k + 1, _, by omega, by go_num, G, HO3, HB3⟩
            case measure => simp [intOf]; omega
          · have G : Hd (bs ++ [44] ++ x.data.toList = 91 :: R.jn (xs.take (k + 1))) := hd (by rw [HJT.o, if_neg h0, hbs.o]; simp)
            have hk0 : (0 : Int) < (k : Int) := by omega
            clear HJT hbs
            go_wp2_with (at_builtin; refine wpList_app_lit 40 5 (.int .u8 0) 1 1 Try.underlying40 info_out rfl (by decide) rfl _ _ rfl wo.heap.size u6 bs.length (cellsB bs) wr #[.int .u8 44] 1 rfl rfl HO.o rfl (by simp [Value.oneCell']) (by omega) (by omega) hzr ?_)
            intro v3 w3 ho3 hg3
            have HB3 := hd (HB.o.grown hg3 hzr (fun g hg => (HO.o.lt g hg).1))
            have HO3 : Hd (w3.ownsRow wo.heap.size 5 1 v3 (bs ++ [44]).length (cellsB (bs ++ [44]))) := hd (by rw [List.length_append, cellsB_app]; exact ho3)
            have hz3 := HB3.o.size
            have hl3 : (bs ++ [44]).length = bs.length + 1 := by simp
            have e4 : (bs ++ [44] ++ x.data.toList).length = bs.length + 1 + x.size := by rw [List.length_append, hl3, Lib.size_eq]
            clear ho3 hg3 HO HB
            go_wp2_with (at_builtin; refine wpList_app_str _ 40 9 5 Try.underlying40 Try.underlying9 info_out rfl _ _ rfl wo.heap.size v3 (bs ++ [44]).length (cellsB (bs ++ [44])) rfl HO3.o x rfl (by omega) hz3 ?_)
            intro v4 w4 ho4 hg4
            have HB4 := hd (HB3.o.grown hg4 hz3 (fun g hg => (HO3.o.lt g hg).1))
            have HO4 : Hd (w4.ownsRow wo.heap.size 5 1 v4 (bs ++ [44] ++ x.data.toList).length (cellsB (bs ++ [44] ++ x.data.toList))) := hd (by rw [e4, cellsB_app (bs ++ [44])]; exact ho4)
            clear ho4 hg4 HO3 HB3
            go_wp2
            go_roundw
            case rel => exact ⟨k + 1, _, by omega, by go_num, G, HO4, HB4⟩
            case measure => simp [intOf]; omega
        · have hkn : k = n := by omega
          subst hkn
          have HE : Hd (bs ++ [93] = R.lst xs) := hd (by rw [hbs.o, List.take_of_length_le (by rw [HXL.o]; exact Nat.le_refl _)]; rfl)
          go_wp2_with (at_builtin; refine wpList_app_lit 40 5 (.int .u8 0) 1 1 Try.underlying40 info_out rfl (by decide) rfl _ _ rfl wo.heap.size u6 bs.length (cellsB bs) wr #[.int .u8 93] 1 rfl rfl HO.o rfl (by simp [Value.oneCell']) (by omega) (by omega) hzr ?_)
          intro v3 w3 ho3 hg3
          have HB3 := hd (HB.o.grown hg3 hzr (fun g hg => (HO.o.lt g hg).1))
          have h3 : IsL 1 w3 v3 (bs.length + 1) (cellsB (bs ++ [93])) := by rw [cellsB_app]; exact IsL.own ho3
          have hcv := run_string_of w3 40 9 5 Try.underlying40 Try.underlying5 Try.underlying9 _ _ _ h3
          rw [HE.o] at hcv
          clear ho3 hg3 h3
          go_wp2
          go_ret
          exact ⟨rfl, HB3.o⟩
theorem sets_any (l : List (List Lb)) (A : Option Addr) (n c : Nat) (w : World) (hl : IsLbss w (.slice A n c) l) (hs : Sm l) (ht : R.tot l ≤ 1048576) (hn2 : n ≤ 1048576) :
    Calls Try.prog 24 #[.slice A n c] w fun e w' => (∃ v m, e = .returned v ∧ IsL 1 w' v m (cellsB (R.ans (l.map R.st)))) ∧ Below w.heap.size w w' := by
  have HN := hd hl.len
  have HL := hd hl
  have HS := hd hs
  have HLL : Hd ((R.lst (l.map R.st)).length ≤ 13194149000002) := hd (R.lst_st l hs (by rw [HN.o]; exact hn2) ht)
  clear hl hs
  obtain ⟨W, hW⟩ : ∃ W, W = w.alloc (.cells #[.slice A n c] 36) := ⟨_, rfl⟩
  have HBX : Hd (W.cell? ⟨w.heap.size, 0, none⟩ = some (.slice A n c)) := hd (by rw [hW]; simp)
  have HBW : Hd (Below w.heap.size w W) := hd (by rw [hW]; exact (Below.refl _ _).alloc (Nat.le_refl _) _)
  have hWz : W.heap.size = w.heap.size + 1 := by rw [hW]; simp
  have HWL := hd (HL.o.below HBW.o)
  have HO0 : Hd (Ou W (W.alloc (.cells #[.slice none 0 0] 70)) (w.heap.size + 1) []) := hd <| by
    refine ⟨⟨none, 0, 0, ?_, ⟨rfl, .inl ⟨rfl, rfl⟩⟩, rfl⟩, ?_⟩
    · show (W.heap.push (.cells #[.slice none 0 0] 70))[w.heap.size + 1]? = _
      rw [← hWz]; simp
    · exact (Below.refl _ _).alloc (by omega) _
  go_enter Try.func24, Try.ntmps24
  go_wp2_with fail
  rw [← hW]
  clear hW
  refine (put_any _ W _ (w.heap.size + 1) [] HO0.o (by decide)).mono ?_
  rintro e w1 ⟨rfl, hO1⟩
  have HO1 := hd hO1
  clear hO1 HO0
  have e1 := (HO1.o.bel.cell (p := ⟨w.heap.size, 0, none⟩) (Nat.lt_succ_self _)).trans HBX.o
  go_wp2_with fail
  refine (stlist_any l A n c W _ (w.heap.size + 1) w.heap.size _ HBX.o HWL.o hWz HO1.o HS.o ht (by decide) hn2).mono ?_
  rintro e w2 ⟨rfl, hO2⟩
  have HO2 := hd hO2
  clear hO2 HO1
  go_wp2_with fail
  refine (put_any ⟨#[125]⟩ W _ (w.heap.size + 1) _ HO2.o ?_).mono ?_
  · have h1 := HLL.o
    have : ByteArray.size ⟨#[125]⟩ = 1 := rfl
    have : (([] : List UInt8) ++ [123, 34, 115, 116, 97, 116, 117, 115, 34, 58, 34, 115, 117, 99, 99, 101, 115, 115, 34, 44, 34, 100, 97, 116, 97, 34, 58]).length = 27 := rfl
    rw [List.length_append]
    omega
  rintro e w3 ⟨rfl, hO3⟩
  obtain ⟨A', n', c', k1, k2, k3⟩ := hO3.ex
  have e0 := k1.cell 0 (by simp)
  simp only [List.getElem_cons_zero] at e0
  have HQ : Hd (IsL 1 w3 (.slice A' n' c') n' (cellsB (R.ans (l.map R.st)))) := hd (by subst k3; exact IsL.own k2)
  have HB3 : Hd (Below w.heap.size w w3) := hd (HBW.o.trans (hO3.bel.mono (by omega)))
  clear hO3 HO2 k1 k2 k3
  go_wp2
  go_ret
  exact ⟨⟨_, _, rfl, HQ.o⟩, HB3.o⟩
set_option maxHeartbeats 1000000 in
theorem refsets_any (l : List (List Lb)) (A : Option Addr) (n c : Nat) (w : World) (hl : IsLbss w (.slice A n c) l) (hs : Sm l) (ht : R.tot l ≤ 1048576) (hn2 : n ≤ 1048576) :
    Calls Try.prog 25 #[.slice A n c] w fun e w' => (∃ v m, e = .returned v ∧ IsL 1 w' v m (cellsB (R.ans (l.map R.st)))) ∧ Below w.heap.size w w' := by
  have HN := hd hl.len
  have HL := hd hl
  have HS := hd hs
  obtain ⟨ys, hys⟩ : ∃ ys, ys = (l.map R.st).map R.bt := ⟨_, rfl⟩
  have HY := hd hys
  have HYL : Hd (ys.length = n) := hd (by rw [HY.o, List.length_map, List.length_map, HN.o])
  clear hl hs hys
  go_enter Try.func25, Try.ntmps25
  go_wp2
  go_loopw [3, 8] (fun v x w2 => ∃ (k : Nat), k ≤ n ∧ x = .int .i64 k ∧ Hd (w2.ownsRow w.heap.size 9 1 v k (cellsS (ys.take k))) ∧ Hd (Below w.heap.size w w2)) (fun _ x _ => n - (intOf x).toNat)
  case atStart => exact ⟨0, Nat.zero_le _, rfl, hd ⟨rfl, .inl ⟨rfl, rfl⟩⟩, hd (Below.refl _ _)⟩
  case round =>
    obtain ⟨k, hk, rfl, HO, HB⟩ := hrel
    by_cases hlt : k < n
    · have hkx : k < l.length := by rw [HN.o]; exact hlt
      obtain ⟨b, off, A1, c1, rfl, hbl, c0, hx⟩ := HL.o.at_ k hkx
      have HXX := hd hx
      have htk := R.tot_mem l (l[k]'hkx) (List.getElem_mem hkx)
      have HSX := hd (HS.o (l[k]'hkx) (List.getElem_mem hkx))
      have d0 := (HB.o.cell (p := ⟨b, off + k, none⟩) hbl).trans c0
      have HK : Hd (cellsS (ys.take (k + 1)) = cellsS (ys.take k) ++ [.string ⟨(R.st (l[k]'hkx)).toArray⟩]) := hd (by rw [strS ys k (by rw [HYL.o]; exact hlt)]; simp [HY.o, R.bt])
      clear c0 hx
      generalize l[k]'hkx = s at *
      go_wp2_with (first
        | (go_at_call 52; refine (refset_any s _ s.length _ (HXX.o.below HB.o) HSX.o (by omega)).mono ?_; rintro e w3 ⟨rfl, hb3⟩; have HB3 := hd (bel HB.o hb3); have HO3 := hd (own_below HO.o hb3); clear hb3 HO HB)
        | (at_builtin; refine wpList_app_litH 27 9 (.string ⟨#[]⟩) 1 16 Try.underlying27 info_str rfl (by decide) rfl _ _ rfl w.heap.size u3 k (cellsS (ys.take k)) w3 #[.string ⟨(R.st s).toArray⟩] 1 _ rfl rfl rfl HO3.o rfl (by simp [Value.oneCell']) (by omega) (by omega) HB3.o.size ?_))
      intro v4 w4 ho4 hg4
      have HB4 := hd (HB3.o.grown hg4 HB3.o.size (fun g hg => (HO3.o.lt g hg).1))
      have HO4 : Hd (w4.ownsRow w.heap.size 9 1 v4 (k + 1) (cellsS (ys.take (k + 1)))) := hd (by rw [HK.o]; exact ho4)
      clear ho4 hg4
      go_wp2
      go_roundw
      case rel => exact ⟨k + 1, by omega, by go_num, HO4, HB4⟩
      case measure => simp [intOf]; omega
    · have hkn : k = n := by omega
      subst hkn
      have h1 := IsL.own HO.o
      rw [List.take_of_length_le (by rw [HYL.o]; exact Nat.le_refl _)] at h1
      have HI := hd h1
      have HZB : Hd (∀ j, j ≤ k → R.sz (ys.take j) ≤ 35184405643264) := hd fun j hj => by rw [HY.o, List.map_map]; exact R.sz_st l HS.o (by rw [HN.o]; exact hn2) ht j
      have HJB : Hd (∀ j, j ≤ k → (R.jn ((ys.map fun x => x.data.toList).take j)).length ≤ 35184405643264) := hd fun j hj => by rw [HY.o, R.bt_map]; exact Nat.le_trans (R.jn_st l HS.o (by rw [HN.o]; exact hn2) ht j) (by decide)
      have HR : Hd (R.lst (ys.map fun x => x.data.toList) = R.lst (l.map R.st)) := hd (by rw [HY.o, R.bt_map])
      have HAN : Hd (((⟨#[123, 34, 115, 116, 97, 116, 117, 115, 34, 58, 34, 115, 117, 99, 99, 101, 115, 115, 34, 44, 34, 100, 97, 116, 97, 34, 58]⟩ : ByteArray) ++ ⟨(R.lst (l.map R.st)).toArray⟩ ++ (⟨#[125]⟩ : ByteArray)).data.toList = R.ans (l.map R.st)) := hd (by simp [R.ans])
      have hLL : (R.lst (l.map R.st)).length ≤ 13194149000002 := R.lst_st l HS.o (by rw [HN.o]; exact hn2) ht
      generalize R.lst (l.map R.st) = q at *
      have b1 : ¬ 9223372036854775807 < 27 + q.length := by omega
      have b2 : ¬ 281474976710656 < 27 + q.length := by omega
      have b3 : ¬ 9223372036854775807 < 27 + q.length + 1 := by omega
      have b4 : ¬ 281474976710656 < 27 + q.length + 1 := by omega
      clear h1
      go_wp2_with (first
        | (go_at_call 49; refine (reflist2_any u3 k ys _ HI.o hn2 (HZB.o) (HJB.o)).mono ?_; rintro e w3 ⟨rfl, hb3⟩; rw [HR.o]; have HB3 := hd (bel HB.o hb3); clear hb3 HO HB)
        | (refine wpList_bytes_isL _ 9 40 5 _ Try.underlying9 Try.underlying40 Try.underlying5 rfl _ rfl rfl ?_
           intro v4 w4 hb4 h4
           rw [HAN.o] at h4))
      have H4 := hd h4
      have HB4 := hd (bel HB3.o hb4)
      clear hb4 h4
      go_wp2
      go_ret
      exact ⟨⟨_, H4.o.choose, rfl, H4.o.choose_spec⟩, HB4.o⟩
end Go.Proofs.Ytifaepkeoffcfaa
