/- strconv.AppendInt at this program; the walk of labels.Key. -/
import Derived.Test.YtifaepkeoffcfaaDoorLKeyMath
import Derived.Test.YtifaepkeoffcfaaDoorLKeepW
import Derived.Test.YtifaepkeoffcfaaDoorBase4
import Derived.Test.YtifaepkeoffcfaaDoorBase5
import Derived.Shelf.Lay
import Derived.Shelf.Strconv.AppendIntPublic10
import Derived.Lib.AppendIntMem
namespace Go.Proofs
open Go.Shelf
shelf_lay LaysM.n176 Nm 176 at Tryd as Tryd.laysM176
namespace YtifaepkeoffcfaaDoor
open Go.RowKit
set_option linter.unusedVariables false
set_option linter.unusedSimpArgs false
/-- the table of powers of ten reads so, whatever is done from B on -/
abbrev Tab (B : Nat) (w : World) : Prop := Lib.TabBelow Tryd.prog B w "internal/strconv.uint64pow10" .u64 Lib.pow10Tab
theorem Tab.on2 {w w' : World} (h : Tab w.heap.size w) (hb : Below w.heap.size w w') : Tab w'.heap.size w' := fun _ h2 => h _ (hb.trans (h2.mono hb.size))
theorem appInt_any (s : ByteArray) (hn : s.size ≤ 1048577) (B m : Nat) (sv : Value) (xs : List Value) (w : World) (hown : w.ownsRow B 5 1 sv m xs) (hB : B ≤ w.heap.size) (hlim : m ≤ 4398046511104) (hT : Tab B w) :
    Calls Tryd.prog 15 #[sv, .int .i64 (s.size : Int), .int .i64 10] w fun e w' => ∃ v', e = .returned v' ∧ w'.ownsRow B 5 1 v' (m + (Lib.itoa (s.size : Int)).length) (xs ++ cellsB (Lib.itoa (s.size : Int))) ∧ Below B w w' := by
  have h : Calls Tryd.prog 15 #[sv, .int .i64 (s.size : Int), .int .i64 10] w fun e w' => ∃ v', e = .returned v' ∧ w'.ownsRow B 5 1 v' (m + (Lib.itoa (s.size : Int)).length) (xs ++ Lib.byteCells (Lib.itoa (s.size : Int))) ∧ Below B w w' ∧ Lib.OthersKept 5 none w w' :=
    Any.strconv_AppendInt_10 Tryd.laysM176 B m (s.size : Int) (by omega) (by omega) sv xs w hown hB (by omega) hT
  exact h.mono fun e w' ⟨v', he, ho, hb, _⟩ => ⟨v', he, ho, hb⟩
theorem info_u8 : (Tryd.prog.info? 5).map (fun i => (i.zero, i.size, i.bytes)) = some (some (.int .u8 0), 1, 1) := by kernel_rfl
theorem conv_b {w : World} {v : Value} {m : Nat} {l : List UInt8} (h : IsL 1 w v m (cellsB l)) : (convert 22 9 v).run Tryd.prog w = .ok (.string ⟨l.toArray⟩) w :=
  run_string_of w 22 9 5 Tryd.underlying22 Tryd.underlying5 Tryd.underlying9 _ _ _ h
theorem idx_two (a b s : ByteArray) (j : Nat) (w : World) (h : (j = 0 ∧ s = a) ∨ (j = 1 ∧ s = b)) : (Instr.index 45 (.agg #[.string a, .string b]) (.int .i64 (j : Int))).run Tryd.prog w = .ok (.string s) w := by
  rcases h with ⟨rfl, rfl⟩ | ⟨rfl, rfl⟩ <;> kernel_rfl
def L.part (x : Lb) : Nat → List UInt8
  | 0 => []
  | 1 => L.hdr x.1
  | _ => L.hdr x.1 ++ L.hdr x.2
theorem L.part_len (x : Lb) (h1 : x.1.size ≤ 1048577) (h2 : x.2.size ≤ 1048577) (j : Nat) : (L.part x j).length ≤ 2097198 := by
  have a := L.hdr_len x.1 h1
  have b := L.hdr_len x.2 h2
  unfold L.part
  split
  · simp
  · omega
  · rw [List.length_append]; omega
theorem L.part_step (x : Lb) (j : Nat) (s : ByteArray) (h : (j = 0 ∧ s = x.1) ∨ (j = 1 ∧ s = x.2)) : L.part x (j + 1) = L.part x j ++ L.hdr s := by
  rcases h with ⟨rfl, rfl⟩ | ⟨rfl, rfl⟩
  · simp [L.part]
  · simp [L.part]
set_option maxHeartbeats 4000000 in
theorem key_any (va : Value) (n : Nat) (l : List Lb) (vb : Value) (m : Nat) (names : List ByteArray) (wo : Bool) (w : World) (hl : IsL 2 w va n (cellsL l)) (hs : IsL 1 w vb m (cellsS names)) (hn : n ≤ 1048576) (hm : m ≤ 1048576)
    (hS : ∀ y ∈ l, y.1.size ≤ 1048577 ∧ y.2.size ≤ 1048577) (hT : Tab w.heap.size w) :
    Calls Tryd.prog 7 #[va, vb, .bool wo] w fun e w' => e = .returned (.string ⟨(L.keyB (L.keepL l names wo)).toArray⟩) ∧ Below w.heap.size w w' := by
  have hll := IsLb.len hl
  obtain ⟨A, c, rfl⟩ := hl.shape
  have HL := hd hl
  have HLL := hd hll
  have HN := hd hs
  have HS := hd hS
  have HT := hd hT
  clear hl hll hs hS hT
  go_enter Tryd.func7, Tryd.ntmps7
  go_wp2
  go_loopw [7, 14] (fun o x wr => ∃ k : Nat, k ≤ n ∧ x = .int .i64 k ∧ Hd (wr.ownsRow w.heap.size 5 1 o (L.keyB (L.keepL (l.take k) names wo)).length (cellsB (L.keyB (L.keepL (l.take k) names wo)))) ∧ Hd (Below w.heap.size w wr)) (fun _ x _ => n - (intOf x).toNat)
  case atStart => exact ⟨0, Nat.zero_le _, rfl, hd (by simpa [L.keepL, L.keyB, cellsB] using World.ownsRow_nil w w.heap.size 5 1), hd (Below.refl _ _)⟩
  case round =>
    obtain ⟨k, hk, rfl, HO, HB⟩ := hrel
    have hzr := HB.o.size
    by_cases hlt : k < n
    · have hkl : k < l.length := by rw [HLL.o]; exact hlt
      obtain ⟨b, off, rfl, hbl, c1, c2⟩ := IsLb.at_ HL.o k hkl
      have d1 := (HB.o.cell (p := ⟨b, off + k * 2, none⟩) hbl).trans c1
      have d2 := (HB.o.cell (p := ⟨b, off + k * 2 + 1, none⟩) hbl).trans c2
      obtain ⟨hs1, hs2⟩ := HS.o _ (List.getElem_mem hkl)
      have HST := hd (L.keep_step l names wo k hkl _ rfl)
      have hpl := L.keyB_len (L.keepL (l.take k) names wo) (fun y hy => HS.o y (List.mem_of_mem_take (List.mem_filter.1 hy).1))
      have hpl2 := L.keep_len (l.take k) names wo
      rw [List.length_take] at hpl2
      have hpl3 : (L.keyB (L.keepL (l.take k) names wo)).length ≤ 2199078436864 := by omega
      clear c1 c2 hpl hpl2
      generalize l[k]'hkl = x at *
      have HPL := hd (fun j => L.part_len x hs1 hs2 j)
      have HPS := hd (fun j s h => L.part_step x j s h)
      obtain ⟨x1, x2⟩ := x
      simp only at d1 d2 HST hs1 hs2
      have HBW : Hd (Below w.heap.size w (wr.alloc (.cells #[.string x1, .string x2] 29))) := hd (HB.o.alloc hzr _)
      have HOW : Hd ((wr.alloc (.cells #[.string x1, .string x2] 29)).ownsRow w.heap.size 5 1 u7 (L.keyB (L.keepL (l.take k) names wo)).length (cellsB (L.keyB (L.keepL (l.take k) names wo)))) := hd (HO.o.alloc _)
      have HNW := hd (HN.o.below HBW.o)
      generalize hP : L.keepL (l.take k) names wo = P at *
      clear hP HO
      cases hst : L.stays x1 names wo with
      | true =>
        have V := hd hst
        rw [hst] at HST
        have HKS := hd (L.keyB_snoc (x1, x2) P)
        clear hst
        go_wp2_with (go_at_call 14; refine (stays_any vb m names x1 wo _ HNW.o (by omega)).mono ?_; rintro e w' ⟨rfl, rfl⟩; rw [V.o])
        go_loopw [7, 28] (fun o x wq => ∃ j : Nat, j ≤ 2 ∧ x = .int .i64 j ∧ Hd (wq.ownsRow w.heap.size 5 1 o (L.keyB P ++ L.part (x1, x2) j).length (cellsB (L.keyB P ++ L.part (x1, x2) j))) ∧ Hd (Below w.heap.size w wq)) (fun _ x _ => 2 - (intOf x).toNat)
        case atStart => exact ⟨0, by omega, rfl, hd (by simpa [L.part] using HOW.o), HBW⟩
        case round =>
          clear HBW HOW HNW HB
          obtain ⟨j, hj, rfl, HO, HB⟩ := hrel
          have hzq := HB.o.size
          by_cases hj2 : j < 2
          · have hcs : ∃ s : ByteArray, ((j = 0 ∧ s = x1) ∨ (j = 1 ∧ s = x2)) ∧ s.size ≤ 1048577 := by
              by_cases h0 : j = 0
              · exact ⟨x1, .inl ⟨h0, rfl⟩, hs1⟩
              · exact ⟨x2, .inr ⟨by omega, rfl⟩, hs2⟩
            obtain ⟨s, hs, hsz⟩ := hcs
            have hidx := fun w' => idx_two x1 x2 s j w' hs
            have HPJ := hd (HPS.o j s hs)
            have hpj := HPL.o j
            have HTB := hd (show Tab w.heap.size _ from fun w' h => HT.o w' (HB.o.trans h))
            have hit := Lib.itoa_length_le (s.size : Int) (by omega) (by omega)
            have hal : (L.keyB P ++ L.part (x1, x2) j).length ≤ 2199080534062 := by rw [List.length_append]; omega
            clear hs
            generalize hQ : L.keyB P ++ L.part (x1, x2) j = Q at *
            go_wp2_with (first | (go_at_call 15; refine (appInt_any s hsz w.heap.size Q.length _ (cellsB Q) _ HO.o hzq (by omega) HTB.o).mono ?_; rintro e w5 ⟨v5, rfl, ho5, hb5⟩; have HO5 := hd ho5; have HB5 := hd (HB.o.trans hb5); have hz5 := HB5.o.size; clear ho5 hb5) | (at_builtin; refine wpList_app_litH 22 5 (.int .u8 0) 1 1 Tryd.underlying22 info_u8 rfl (by decide) rfl _ _ rfl w.heap.size v5 (Q.length + (Lib.itoa (s.size : Int)).length) (cellsB Q ++ cellsB (Lib.itoa (s.size : Int))) _ #[.int .u8 58] 1 _ rfl rfl rfl HO5.o rfl (by simp [Value.oneCell']) (by omega) (by omega) hz5 ?_; intro v6 w6 ho6 hg6; have HO6 := hd ho6; have HB6 := hd (bel_grown HB5.o hg6 (fun g h => (HO5.o.lt g h).1)); have hz6 := HB6.o.size; clear ho6 hg6) | (at_builtin; refine wpList_app_str _ 22 9 5 Tryd.underlying22 Tryd.underlying9 info_u8 rfl _ _ rfl w.heap.size v6 (Q.length + (Lib.itoa (s.size : Int)).length + 1) _ rfl HO6.o s rfl (by omega) hz6 ?_))
            intro v7 w7 ho7 hg7
            have HB7 := hd (bel_grown HB6.o hg7 (fun g h => (HO6.o.lt g h).1))
            have HO7 : Hd (w7.ownsRow w.heap.size 5 1 v7 (L.keyB P ++ L.part (x1, x2) (j + 1)).length (cellsB (L.keyB P ++ L.part (x1, x2) (j + 1)))) := hd <| by
              rw [HPJ.o, ← List.append_assoc, hQ]
              unfold L.hdr
              have e1 : (Q ++ (Lib.itoa (s.size : Int) ++ 58 :: s.data.toList)).length = Q.length + (Lib.itoa (s.size : Int)).length + 1 + s.size := by
                have h2 : s.data.toList.length = s.size := (Lib.size_eq s).symm
                simp; omega
              rw [e1]
              have e2 : cellsB (Q ++ (Lib.itoa (s.size : Int) ++ 58 :: s.data.toList)) = cellsB Q ++ (cellsB (Lib.itoa (s.size : Int)) ++ Value.int .u8 58 :: cellsB s.data.toList) := by
                simp [cellsB]
              rw [e2]
              exact ho7
            clear ho7 hg7
            go_wp2
            go_roundw
            case rel => exact ⟨j + 1, by omega, by go_num, HO7, HB7⟩
            case measure => simp [intOf]; omega
          · have hj3 : j = 2 := by omega
            subst hj3
            have HOX := hd (show _ = _ ∧ _ = _ from ⟨congrArg List.length (show L.keyB P ++ L.part (x1, x2) 2 = L.keyB (L.keepL (l.take (k + 1)) names wo) by rw [HST.o, if_pos trivial, HKS.o]; rfl), congrArg cellsB (show L.keyB P ++ L.part (x1, x2) 2 = L.keyB (L.keepL (l.take (k + 1)) names wo) by rw [HST.o, if_pos trivial, HKS.o]; rfl)⟩)
            rw [HOX.o.1, HOX.o.2] at HO
            go_wp2
            go_roundw
            case rel => exact ⟨k + 1, by omega, by go_num, HO, HB⟩
            case measure => simp [intOf]; omega
      | false =>
        have V := hd hst
        rw [hst] at HST
        clear hst
        have HOX : Hd ((wr.alloc (.cells #[.string x1, .string x2] 29)).ownsRow w.heap.size 5 1 u7 (L.keyB (L.keepL (l.take (k + 1)) names wo)).length (cellsB (L.keyB (L.keepL (l.take (k + 1)) names wo)))) := hd <| by
          rw [HST.o]; simpa using HOW.o
        go_wp2_with (go_at_call 14; refine (stays_any vb m names x1 wo _ HNW.o (by omega)).mono ?_; rintro e w' ⟨rfl, rfl⟩; rw [V.o])
        go_roundw
        case rel => exact ⟨k + 1, by omega, by go_num, HOX, HBW⟩
        case measure => simp [intOf]; omega
    · have e : l.take k = l := List.take_of_length_le (by rw [HLL.o]; omega)
      rw [e] at HO
      have hcv := conv_b (IsL.own HO.o)
      clear e
      go_wp2
      go_ret
      exact ⟨rfl, HB.o⟩
end YtifaepkeoffcfaaDoor
end Go.Proofs
