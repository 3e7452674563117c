/- The walk of labels.With. -/
import Derived.Test.YtifaepkeoffcfaaLSame
namespace Go.Proofs.Ytifaepkeoffcfaa
open Go.RowKit
set_option linter.unusedVariables false
set_option linter.unusedSimpArgs false
namespace L
/-- a > b as the walk has it, where a and b differ -/
def gt (a b : ByteArray) : Bool := !(Op.bytesLess a.toList b.toList)
def withGo (n v : ByteArray) : Bool → List Lb → List Lb
  | put, [] => if put then [] else [(n, v)]
  | put, x :: r => if x.1 = n then withGo n v put r else if put = false ∧ gt x.1 n = true then (n, v) :: x :: withGo n v true r else x :: withGo n v put r
def withL (l : List Lb) (n v : ByteArray) : List Lb := withGo n v v.toList.isEmpty l
theorem withGo_len (n v : ByteArray) : ∀ (l : List Lb) (put : Bool), (withGo n v put l).length ≤ l.length + 1
  | [], put => by unfold withGo; split <;> simp
  | x :: r, put => by
    unfold withGo
    have h1 := withGo_len n v r put
    have h2 : (withGo n v true r).length ≤ r.length := withGo_true n v r
    split
    · simp; omega
    · split
      · simp; omega
      · simp; omega
where
  withGo_true (n v : ByteArray) : ∀ (l : List Lb), (withGo n v true l).length ≤ l.length
    | [] => by simp [withGo]
    | x :: r => by
      unfold withGo
      have := withGo_true n v r
      split
      · simp; omega
      · simp; omega
end L
theorem info_label : (Try.prog.info? 26).map (fun i => (i.zero, i.size, i.bytes)) = some (some (.agg #[.string ⟨#[]⟩, .string ⟨#[]⟩]), 2, 32) := by kernel_rfl
set_option maxHeartbeats 1000000 in
theorem with_any (va : Value) (n : Nat) (l : List Lb) (a v : ByteArray) (w : World) (hl : IsL 2 w va n (cellsL l)) (hn : n ≤ 4398046510976) :
    Calls Try.prog 11 #[va, .string a, .string v] w fun e w' => ∃ x, e = .returned x ∧ w'.ownsRow w.heap.size 26 2 x (L.withL l a v).length (cellsL (L.withL l a v)) ∧ Below w.heap.size w w' := by
  have hll := IsLb.len hl
  obtain ⟨A, c, rfl⟩ := hl.shape
  have HL := hd hl
  have HLL := hd hll
  clear hl hll
  go_enter Try.func11, Try.ntmps11
  go_wp2_with (at_make; refine wpList_mk0 _ 23 26 (.agg #[.string ⟨#[]⟩, .string ⟨#[]⟩]) 2 32 Try.underlying23 info_label rfl _ _ rfl w.heap.size _ _ (n + 1) rfl rfl ?b1 ?b2 ?b3 ?_)
  case b1 => omega
  case b2 => omega
  case b3 => exact Nat.le_refl _
  intro w2 ho hg
  have hb2 : Below w.heap.size w w2 := bel_grown (Below.refl _ _) hg (fun k h => by cases h)
  clear hg
  go_wp2
  go_loopw [7, 8, 19] (fun o p x wr => ∃ (k : Nat) (O : List Lb) (put : Bool), k ≤ n ∧ x = .int .i64 k ∧ p = .bool put ∧ wr.ownsRow w.heap.size 26 2 o O.length (cellsL O) ∧ Below w.heap.size w wr ∧ O.length ≤ k + 1 ∧ Hd (put = false → O.length ≤ k) ∧ Hd (O ++ L.withGo a v put (l.drop k) = L.withL l a v)) (fun _ _ x _ => n - (intOf x).toNat)
  case atStart => exact ⟨0, [], v.toList.isEmpty, Nat.zero_le _, rfl, rfl, ho, hb2, by simp, hd (fun _ => Nat.zero_le _), hd rfl⟩
  case round =>
    obtain ⟨k, O, put, hk, rfl, rfl, how, hbw, hlen, hpl, hG⟩ := hrel
    have hzr := hbw.size
    by_cases hlt : k < n
    · have hkl : k < l.length := by rw [HLL.o]; exact hlt
      obtain ⟨b, off, rfl, hbl, c1, c2⟩ := IsLb.at_ HL.o k hkl
      have d1 := (hbw.cell (p := ⟨b, off + k * 2, none⟩) hbl).trans c1
      have d2 := (hbw.cell (p := ⟨b, off + k * 2 + 1, none⟩) hbl).trans c2
      have hdr : l.drop k = l[k] :: l.drop (k + 1) := List.drop_eq_getElem_cons hkl
      have HDR := hd hdr
      clear c1 c2 hdr
      generalize l[k]'hkl = x at *
      obtain ⟨x1, x2⟩ := x
      simp only at d1 d2
      have HBW := hd hbw
      have HO := hd how
      clear hbw how
      by_cases hxa : x1 = a
      · have G : Hd (O ++ L.withGo a v put (l.drop (k + 1)) = L.withL l a v) := hd <| by
          rw [← hG.o, HDR.o, L.withGo, if_pos hxa]
        have he : (x1.toList == a.toList) = true := by rw [hxa]; simp
        clear hxa
        go_wp2
        go_roundw
        case rel => exact ⟨k + 1, O, put, by omega, by go_num, rfl, HO.o.alloc _, HBW.o.alloc hzr _, by omega, hd (fun h => by have := hpl.o h; omega), G⟩
        case measure => simp [intOf]; omega
      · have he : (x1.toList == a.toList) = false := bytes_ne hxa
        have HXA := hd hxa
        clear hxa
        cases hgt : Op.bytesLess x1.toList a.toList with
        | true =>
          have G : Hd (L.withGo a v put ((x1, x2) :: l.drop (k + 1)) = (x1, x2) :: L.withGo a v put (l.drop (k + 1))) := hd <| by
            rw [L.withGo, if_neg HXA.o, if_neg (by unfold L.gt; rw [hgt]; simp)]
          cases put with
          | true =>
            go_wp2_with (at_builtin; refine wpList_app_litH 23 26 (.agg #[.string ⟨#[]⟩, .string ⟨#[]⟩]) 2 32 Try.underlying23 info_label rfl (by decide) rfl _ _ rfl w.heap.size u7 O.length (cellsL O) _ #[.string x1, .string x2] 1 _ (by simp) rfl rfl (HO.o.alloc _) rfl (by simp [Value.oneCell']) (by omega) (by omega) (by first | omega | (simp; omega)) ?_)
            intro v3 w3 ho3 hg3
            have HB3 := hd (bel_grown (HBW.o.alloc hzr (.cells #[.string x1, .string x2] 26)) hg3 (fun g h => (HO.o.lt g h).1))
            have HO3 : Hd (w3.ownsRow w.heap.size 26 2 v3 (O ++ [(x1, x2)]).length (cellsL (O ++ [(x1, x2)]))) := hd <| by
              rw [cellsL_app, List.length_append]
              simpa [cellsL] using ho3
            clear hg3 ho3
            go_wp2
            go_roundw
            case rel => exact ⟨k + 1, _, true, by omega, by go_num, rfl, HO3.o, HB3.o, by simp; omega, hd (fun h => by cases h), hd (by rw [← hG.o, HDR.o, G.o]; simp)⟩
            case measure => simp [intOf]; omega
          | false =>
            have hp0 := hpl.o rfl
            go_wp2_with (at_builtin; refine wpList_app_litH 23 26 (.agg #[.string ⟨#[]⟩, .string ⟨#[]⟩]) 2 32 Try.underlying23 info_label rfl (by decide) rfl _ _ rfl w.heap.size u7 O.length (cellsL O) _ #[.string x1, .string x2] 1 _ (by simp) rfl rfl (HO.o.alloc _) rfl (by simp [Value.oneCell']) (by omega) (by omega) (by first | omega | (simp; omega)) ?_)
            intro v3 w3 ho3 hg3
            have HB3 := hd (bel_grown (HBW.o.alloc hzr (.cells #[.string x1, .string x2] 26)) hg3 (fun g h => (HO.o.lt g h).1))
            have HO3 : Hd (w3.ownsRow w.heap.size 26 2 v3 (O ++ [(x1, x2)]).length (cellsL (O ++ [(x1, x2)]))) := hd <| by
              rw [cellsL_app, List.length_append]
              simpa [cellsL] using ho3
            clear hg3 ho3
            go_wp2
            go_roundw
            case rel => exact ⟨k + 1, _, false, by omega, by go_num, rfl, HO3.o, HB3.o, by simp; omega, hd (fun h => by simp; omega), hd (by rw [← hG.o, HDR.o, G.o]; simp)⟩
            case measure => simp [intOf]; omega
        | false =>
          cases put with
          | true =>
            have G : Hd (L.withGo a v true ((x1, x2) :: l.drop (k + 1)) = (x1, x2) :: L.withGo a v true (l.drop (k + 1))) := hd <| by
              rw [L.withGo, if_neg HXA.o, if_neg (by simp)]
            go_wp2_with (at_builtin; refine wpList_app_litH 23 26 (.agg #[.string ⟨#[]⟩, .string ⟨#[]⟩]) 2 32 Try.underlying23 info_label rfl (by decide) rfl _ _ rfl w.heap.size u7 O.length (cellsL O) _ #[.string x1, .string x2] 1 _ (by simp) rfl rfl (HO.o.alloc _) rfl (by simp [Value.oneCell']) (by omega) (by omega) (by first | omega | (simp; omega)) ?_)
            intro v3 w3 ho3 hg3
            have HB3 := hd (bel_grown (HBW.o.alloc hzr (.cells #[.string x1, .string x2] 26)) hg3 (fun g h => (HO.o.lt g h).1))
            have HO3 : Hd (w3.ownsRow w.heap.size 26 2 v3 (O ++ [(x1, x2)]).length (cellsL (O ++ [(x1, x2)]))) := hd <| by
              rw [cellsL_app, List.length_append]
              simpa [cellsL] using ho3
            clear hg3 ho3
            go_wp2
            go_roundw
            case rel => exact ⟨k + 1, _, true, by omega, by go_num, rfl, HO3.o, HB3.o, by simp; omega, hd (fun h => by cases h), hd (by rw [← hG.o, HDR.o, G.o]; simp)⟩
            case measure => simp [intOf]; omega
          | false =>
            have G : Hd (L.withGo a v false ((x1, x2) :: l.drop (k + 1)) = (a, v) :: (x1, x2) :: L.withGo a v true (l.drop (k + 1))) := hd <| by
              rw [L.withGo, if_neg HXA.o, if_pos (by unfold L.gt; rw [hgt]; simp)]
            have hp0 := hpl.o rfl
            go_wp2_with (at_builtin; refine wpList_app_litH 23 26 (.agg #[.string ⟨#[]⟩, .string ⟨#[]⟩]) 2 32 Try.underlying23 info_label rfl (by decide) rfl _ _ rfl w.heap.size u7 O.length (cellsL O) _ #[.string a, .string v] 1 _ (by simp) rfl rfl (HO.o.alloc _) rfl (by simp [Value.oneCell']) (by omega) (by omega) (by first | omega | (simp; omega)) ?_)
            intro v3 w3 ho3 hg3
            obtain ⟨e1, e2⟩ := box2 hg3 (own_row_lt HO.o)
            have HB3 := hd (bel_grown (HBW.o.alloc hzr (.cells #[.string x1, .string x2] 26)) hg3 (fun g h => (HO.o.lt g h).1))
            have hz3 := HB3.o.size
            have HO3 := hd ho3
            clear hg3 ho3
            go_wp2_with (at_builtin; refine wpList_app_litH 23 26 (.agg #[.string ⟨#[]⟩, .string ⟨#[]⟩]) 2 32 Try.underlying23 info_label rfl (by decide) rfl _ _ rfl w.heap.size v3 (O.length + 1) (cellsL O ++ [.string a, .string v]) _ #[.string x1, .string x2] 1 _ rfl rfl rfl (HO3.o) rfl (by simp [Value.oneCell']) (by omega) (by omega) (by first | omega | (simp; omega)) ?_)
            intro v4 w4 ho4 hg4
            have HB4 := hd (bel_grown HB3.o hg4 (fun g h => (HO3.o.lt g h).1))
            have HO4 : Hd (w4.ownsRow w.heap.size 26 2 v4 (O ++ [(a, v), (x1, x2)]).length (cellsL (O ++ [(a, v), (x1, x2)]))) := hd <| by
              rw [cellsL_app, List.length_append]
              simpa [cellsL] using ho4
            clear hg4 ho4
            go_wp2
            go_roundw
            case rel => exact ⟨k + 1, _, true, by omega, by go_num, rfl, HO4.o, HB4.o, by simp; omega, hd (fun h => by cases h), hd (by rw [← hG.o, HDR.o, G.o]; simp)⟩
            case measure => simp [intOf]; omega
    · have hkn : k = n := by omega
      have hd0 : l.drop k = [] := List.drop_eq_nil_of_le (by rw [HLL.o]; omega)
      have HD := hd hd0
      clear hd0
      cases put with
      | true =>
        have G : Hd (O = L.withL l a v) := hd <| by rw [← hG.o, HD.o, L.withGo]; simp
        go_wp2
        go_ret
        exact ⟨_, rfl, by rw [← G.o]; exact how, hbw⟩
      | false =>
        have G : Hd (O ++ [(a, v)] = L.withL l a v) := hd <| by rw [← hG.o, HD.o, L.withGo]; simp
        have hp0 := hpl.o rfl
        have HO := hd how
        clear how
        go_wp2_with (at_builtin; refine wpList_app_litH 23 26 (.agg #[.string ⟨#[]⟩, .string ⟨#[]⟩]) 2 32 Try.underlying23 info_label rfl (by decide) rfl _ _ rfl w.heap.size u7 O.length (cellsL O) _ #[.string a, .string v] 1 _ rfl rfl rfl (HO.o) rfl (by simp [Value.oneCell']) (by omega) (by omega) (by first | omega | (simp; omega)) ?_)
        intro v4 w4 ho4 hg4
        have HB4 := hd (bel_grown hbw hg4 (fun g h => (HO.o.lt g h).1))
        have HO4 : Hd (w4.ownsRow w.heap.size 26 2 v4 (O ++ [(a, v)]).length (cellsL (O ++ [(a, v)]))) := hd <| by
          rw [cellsL_app, List.length_append]
          simpa [cellsL] using ho4
        rw [G.o] at HO4
        clear hg4 ho4
        go_wp2
        go_ret
        exact ⟨_, rfl, HO4.o, HB4.o⟩
end Go.Proofs.Ytifaepkeoffcfaa
