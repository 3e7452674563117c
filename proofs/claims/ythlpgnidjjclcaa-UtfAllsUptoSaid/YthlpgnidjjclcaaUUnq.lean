/- The walk of utf.Unquote: a literal's value by one word. -/
import Derived.Test.YthlpgnidjjclcaaUUnqMath
import Derived.Test.YthlpgnidjjclcaaULit
namespace Go.Proofs.Ythlpgnidjjclcaa
open Go.RowKit
set_option linter.unusedVariables false
set_option linter.unusedSimpArgs false
def strR (r : List UInt8 × Int) : Ending := .returned (.tuple #[.string ⟨r.1.toArray⟩, .int .i64 r.2])
theorem ret_strR {a : ByteArray} {b : Int} {r : List UInt8 × Int} (h1 : a.data.toList = r.1) (h2 : b = r.2) : Ending.returned (.tuple #[.string a, .int .i64 b]) = strR r := by
  unfold strR; rw [h2, ← h1]

theorem unquote_utf (s : ByteArray) (w : World) (hs : s.size ≤ 140737488351232) (hv : U.valid s = false) :
    Calls Try.prog 34 #[.string s] w fun e w' => e = strR (U.unquote s) ∧ Below w.heap.size w w' := by
  have V := hd hv
  have G : Hd (U.unquote s = ([], 4)) := hd <| by unfold U.unquote; rw [if_pos hv]
  clear hv
  go_enter Try.func34, Try.ntmps34
  go_wp2_with (go_at_call 19; refine (Valid_any _ _ (by omega)).mono ?_; rintro e w1 ⟨rfl, hb1⟩; rw [V.o])
  go_ret2
  exact ⟨ret_strR (by rw [G.o]) (by rw [G.o]), by assumption⟩

theorem unquote_lit (s : ByteArray) (w : World) (hs : s.size ≤ 140737488351232) (hv : U.valid s = true) (hl : U.literal s 0 ≠ ((s.size : Int), 0)) :
    Calls Try.prog 34 #[.string s] w fun e w' => e = strR (U.unquote s) ∧ Below w.heap.size w w' := by
  have V := hd hv
  have G : Hd (U.unquote s = ([], 10)) := hd <| by unfold U.unquote; rw [if_neg (by simp [hv]), if_pos hl]
  clear hv
  by_cases h2 : (U.literal s 0).2 = 0
  · have h1 : ((U.literal s 0).1 != (s.size : Int)) = true := by
      rw [bne_iff_ne]; intro h; exact hl (Prod.ext h h2)
    have h2' : ((U.literal s 0).2 != 0) = false := by rw [h2]; rfl
    clear hl h2
    go_enter Try.func34, Try.ntmps34
    go_wp2_with (first
      | (go_at_call 19; refine (Valid_any _ _ (by omega)).mono ?_; rintro e w1 ⟨rfl, hb1⟩; rw [V.o])
      | (go_at_call 32; refine (lit_any s 0 _ (by omega)).mono ?_; rintro e w' ⟨rfl, rfl⟩))
    go_ret2
    exact ⟨ret_strR (by rw [G.o]) (by rw [G.o]), by assumption⟩
  · have h2' : ((U.literal s 0).2 != 0) = true := by rw [bne_iff_ne]; exact h2
    clear hl h2
    go_enter Try.func34, Try.ntmps34
    go_wp2_with (first
      | (go_at_call 19; refine (Valid_any _ _ (by omega)).mono ?_; rintro e w1 ⟨rfl, hb1⟩; rw [V.o])
      | (go_at_call 32; refine (lit_any s 0 _ (by omega)).mono ?_; rintro e w' ⟨rfl, rfl⟩))
    go_ret2
    exact ⟨ret_strR (by rw [G.o]) (by rw [G.o]), by assumption⟩

/-- a literal is at least two bytes long and begins with a quote -/
theorem U.lit_facts (s : ByteArray) (hl : U.literal s 0 = ((s.size : Int), 0)) : 2 ≤ s.size ∧ (U.at' s 0 = 34 ∨ U.at' s 0 = 39 ∨ U.at' s 0 = 96) := by
  by_cases h0 : s.size = 0
  · rw [U.literal_out s 0 (.inr (by omega))] at hl; have := congrArg Prod.snd hl; simp [U.litR] at this
  by_cases hq : U.at' s 0 = 34 ∨ U.at' s 0 = 39 ∨ U.at' s 0 = 96
  · have h := U.literal_in s 0 (by omega) hq
    have h' : U.literal s ((0 : Nat) : Int) = ((s.size : Int), 0) := hl
    rw [h'] at h
    cases hc : U.lit s (U.at' s 0) 1 with
    | none => rw [show (0 + 1 : Nat) = 1 from rfl, hc] at h; have := congrArg Prod.snd h; simp [U.litR] at this
    | some n =>
      rw [show (0 + 1 : Nat) = 1 from rfl, hc] at h
      have := U.lit_gt s _ _ 1 n rfl hc
      have e : (s.size : Int) = (n : Int) := congrArg Prod.fst h
      exact ⟨by omega, hq⟩
  · have h := U.literal_no s 0 (by omega) (by omega)
    have h' : U.literal s ((0 : Nat) : Int) = ((s.size : Int), 0) := hl
    rw [h'] at h; have := congrArg Prod.snd h; simp [U.litR] at this

theorem unquote_raw (s : ByteArray) (w : World) (hs : s.size ≤ 140737488351232) (hv : U.valid s = true) (hl : U.literal s 0 = ((s.size : Int), 0)) (hq : U.at' s 0 = 96) :
    Calls Try.prog 34 #[.string s] w fun e w' => e = strR (U.unquote s) ∧ Below w.heap.size w w' := by
  have V := hd hv
  have L := hd hl
  obtain ⟨h2, _⟩ := U.lit_facts s hl
  have G : Hd (U.unquote s = ((s.extract 1 (s.size - 1)).data.toList, 0)) := hd <| by
    unfold U.unquote; rw [if_neg (by simp [hv]), if_neg (by simp [hl]), if_pos hq, U.ext_mid s h2]
  have e0 := U.at_eq s 0 (by omega)
  have hq' : ((s[0]'(by omega)).toNat : Int) = 96 := by rw [← e0, hq]; rfl
  have hz : ((s.size : Int) - 1).toNat = s.size - 1 := by omega
  have hi1 : (0 : Int) < (s.size : Int) := by omega
  have hi2 : (1 : Int) ≤ (s.size : Int) - 1 := by omega
  clear hv hl hq e0
  go_enter Try.func34, Try.ntmps34
  go_wp2_with (first
      | (go_at_call 19; refine (Valid_any _ _ (by omega)).mono ?_; rintro e w1 ⟨rfl, hb1⟩; rw [V.o])
      | (go_at_call 32; refine (lit_any s 0 _ (by omega)).mono ?_; rintro e w' ⟨rfl, rfl⟩; rw [L.o]))
  go_quiet (fail)
  go_wp2
  go_ret2
  exact ⟨ret_strR (by rw [G.o]) (by rw [G.o]), bel_drew (by assumption) _⟩

set_option maxHeartbeats 1600000 in
theorem unquote_esc (s : ByteArray) (w : World) (hs : s.size ≤ 140737488351232) (hv : U.valid s = true) (hl : U.literal s 0 = ((s.size : Int), 0)) (q : Nat) (hq : q = 34 ∨ q = 39) (hq0 : U.at' s 0 = q) :
    Calls Try.prog 34 #[.string s] w fun e w' => e = strR (U.unquote s) ∧ Below w.heap.size w w' := by
  have V := hd hv
  have L := hd hl
  obtain ⟨h2, _⟩ := U.lit_facts s hl
  have hG : U.unquote s = U.unqR (U.unq q (s.extract 1 (s.size - 1)).data.toList) := by
    unfold U.unquote; rw [if_neg (by simp [hv]), if_neg (by simp [hl]), if_neg (by omega), hq0, U.ext_mid s h2]
  have e0 := U.at_eq s 0 (by omega)
  have hq' : ((s[0]'(by omega)).toNat : Int) = (q : Int) := by rw [← e0, hq0]
  have hq96 : ((q : Int) == 96) = false := by rw [beq_eq_false_iff_ne]; omega
  have hz : ((s.size : Int) - 1).toNat = s.size - 1 := by omega
  have hi1 : (0 : Int) < (s.size : Int) := by omega
  have hi2 : (1 : Int) ≤ (s.size : Int) - 1 := by omega
  have hzt : (s.extract 1 (s.size - 1)).size = s.size - 2 := by rw [ByteArray.size_extract]; omega
  have HG := hd hG
  have hQ := hd hq
  have HZT := hd hzt
  clear hv hl hq e0 hG hq0 hzt
  go_enter Try.func34, Try.ntmps34
  go_wp2_with (first
      | (go_at_call 19; refine (Valid_any _ _ (by omega)).mono ?_; rintro e w1 ⟨rfl, hb1⟩; rw [V.o])
      | (go_at_call 32; refine (lit_any s 0 _ (by omega)).mono ?_; rintro e w' ⟨rfl, rfl⟩; rw [L.o]))
  go_quiet (fail)
  have hb1 : Below w.heap.size w w1 := by assumption
  have HB1 := hd (bel_drew hb1 0)
  have hz1 := hb1.size
  go_wp2_with (at_make; refine wpList_mk0 _ 62 5 (.int .u8 0) 1 1 Try.underlying62 info_u8 rfl _ _ rfl w.heap.size _ _ _ rfl rfl ?b1 ?b2 ?b3 ?_)
  case b1 => omega
  case b2 => omega
  case b3 => exact hz1
  intro w2 ho hg
  have hb2 : Below w.heap.size w w2 := bel_grown (bel_drew hb1 _) hg (fun k h => by cases h)
  have hz2 := hb2.size
  clear hg
  go_wp2
  generalize hT : s.extract 1 (s.size - 1) = t at *
  clear hT
  have hzt := HZT.o
  have HZ := hd hzt
  have hts : t.size ≤ 140737488351232 := by omega
  clear hzt
  go_loopw [8, 9] (fun v x wr => ∃ (p : Nat) (bs : List UInt8), p ≤ t.size ∧ x = .int .i64 p ∧ wr.ownsRow w.heap.size 5 1 v bs.length (cellsB bs) ∧ Below w.heap.size w wr ∧ bs.length ≤ p ∧ Hd ((U.unq q (t.data.toList.drop p)).map (bs ++ ·) = U.unq q t.data.toList)) (fun _ x _ => t.size - (intOf x).toNat)
  case atStart => exact ⟨0, [], Nat.zero_le _, rfl, ho, hb2, Nat.le_refl _, hd (by simp)⟩
  case round =>
    obtain ⟨p, bs, hp, rfl, how, hbw, hlen, hr⟩ := hrel
    have hzr := hbw.size
    by_cases hlt : p < t.size
    · obtain ⟨c, hc, hdc⟩ := U.drop_cons t p hlt
      have eat := U.at_eq t p hlt
      by_cases h92 : U.at' t p = 92
      · have b92 : (((t[p]'hlt).toNat : Int) != 92) = false := by rw [← eat, h92]; rfl
        have hed : (t.extract (p + 1) t.size).data.toList = t.data.toList.drop (p + 1) := U.ext_drop t (p + 1)
        have hes : (t.extract (p + 1) t.size).size ≤ 1125899906842624 := by rw [ByteArray.size_extract]; omega
        cases he : U.escL q (t.data.toList.drop (p + 1)) with
        | none =>
          have E : Hd (U.escL q (t.extract (p + 1) t.size).data.toList = none) := hd <| by rw [hed, he]
          have G : Hd (U.unquote s = ([], 11)) := hd <| by
            rw [HG.o, ← hr.o, hdc, U.unq_none q c _ (by rw [hc, h92]) he]; rfl
          clear he hed hdc hc h92 eat hr
          go_wp2_with (go_at_call 51; refine (escape_any q hQ.o (t.extract (p + 1) t.size) hes w.heap.size u8 bs.length (cellsB bs) wr how hzr (by omega)).mono ?_; intro e w3 hpost; unfold EscPost at hpost; rw [E.o] at hpost; obtain ⟨rfl, hb3⟩ := hpost)
          go_ret2
          exact ⟨ret_strR (by rw [G.o]) (by rw [G.o]), bel hbw (by assumption)⟩
        | some r =>
          obtain ⟨es, k⟩ := r
          have hk := U.escL_len q _ es k he
          have hdl : (t.data.toList.drop (p + 1)).length = t.size - (p + 1) := by rw [List.length_drop, ← Lib.size_eq]
          have E : Hd (U.escL q (t.extract (p + 1) t.size).data.toList = some (es, k)) := hd <| by rw [hed, he]
          have G : Hd ((U.unq q (t.data.toList.drop (p + 1 + k))).map ((bs ++ es) ++ ·) = U.unq q t.data.toList) := hd <| by
            rw [← hr.o, hdc, U.unq_some q c _ (by rw [hc, h92]) es k he, List.drop_drop, Option.map_map]
            congr 1
            funext x
            simp
          have hk0 : ((k : Int) == 0) = false := by rw [beq_eq_false_iff_ne]; omega
          have hkb : p + 1 + k ≤ t.size := by omega
          have hkl : bs.length + es.length ≤ p + 1 + k := by omega
          clear he hed hdc hc h92 eat hr hdl
          go_wp2_with (go_at_call 51; refine (escape_any q hQ.o (t.extract (p + 1) t.size) hes w.heap.size u8 bs.length (cellsB bs) wr how hzr (by omega)).mono ?_; intro e w3 hpost; unfold EscPost at hpost; rw [E.o] at hpost; obtain ⟨v3, rfl, ho3, hg3⟩ := hpost)
          have HO : Hd (w3.ownsRow w.heap.size 5 1 v3 (bs ++ es).length (cellsB (bs ++ es))) := hd <| by rw [cellsB_app, List.length_append]; assumption
          have hb3 : Below w.heap.size w w3 := bel_grown hbw (by assumption) (fun g hg' => (how.lt g hg').1)
          go_roundw
          case rel => exact ⟨p + 1 + k, bs ++ es, hkb, by go_num, HO.o, hb3, by rw [List.length_append]; exact hkl, G⟩
          case measure => simp [intOf]; omega
      · have b92 : (((t[p]'hlt).toNat : Int) != 92) = true := by rw [bne_iff_ne, ← eat]; omega
        have G : Hd ((U.unq q (t.data.toList.drop (p + 1))).map ((bs ++ [c]) ++ ·) = U.unq q t.data.toList) := hd <| by
          rw [← hr.o, hdc, U.unq_plain q c _ (by rw [hc]; exact h92), Option.map_map]
          congr 1
          funext x
          simp
        have heq : ((t[p]'hlt).toNat : Int) = (U.at' t p : Int) := by rw [eat]
        have hcc : Hd (cellsB (bs ++ [c]) = cellsB bs ++ [.int .u8 (U.at' t p : Int)]) := hd <| by rw [cellsB_app]; simp only [cellsB, List.map_cons, List.map_nil]; rw [hc]
        rw [heq] at b92
        clear hdc hc h92 eat hr
        go_wp2_with (at_builtin; refine wpList_app_lit 62 5 (.int .u8 0) 1 1 Try.underlying62 info_u8 rfl (by decide) rfl _ _ rfl w.heap.size u8 bs.length (cellsB bs) wr #[.int .u8 (U.at' t p : Int)] 1 rfl rfl how rfl ?_ ?_ ?_ hzr ?_)
        any_goals (first | omega | (simp [Value.oneCell']; done))
        intro v3 w3 ho3 hg3
        have HO : Hd (w3.ownsRow w.heap.size 5 1 v3 (bs ++ [c]).length (cellsB (bs ++ [c]))) := hd <| by rw [hcc.o, List.length_append]; exact ho3
        have hb3 : Below w.heap.size w w3 := bel_grown hbw hg3 (fun g hg' => (how.lt g hg').1)
        clear ho3 hg3
        go_wp2
        go_roundw
        case rel => exact ⟨p + 1, bs ++ [c], by omega, by go_num, HO.o, hb3, by rw [List.length_append]; simp; omega, G⟩
        case measure => simp [intOf]; omega
    · have G : Hd (U.unquote s = if U.valid ⟨bs.toArray⟩ then (bs, 0) else ([], 13)) := hd <| by
        rw [HG.o, ← hr.o, List.drop_of_length_le (by rw [← Lib.size_eq]; omega), U.unq_nil, Option.map_some, List.append_nil]; rfl
      have io := IsL.own how
      have hcv := run_string_of wr 62 9 5 Try.underlying62 Try.underlying5 Try.underlying9 u8 bs.length bs io
      have hcv2 : ∀ W : World, Below wr.heap.size wr W → (convert 62 9 u8).run Try.prog W = .ok (.string ⟨bs.toArray⟩) W := fun W hW => run_string_of W 62 9 5 Try.underlying62 Try.underlying5 Try.underlying9 u8 bs.length bs (io.below hW)
      have hbz : (⟨bs.toArray⟩ : ByteArray).size ≤ 1125899906842624 := by
        have : (⟨bs.toArray⟩ : ByteArray).size = bs.length := by rw [Lib.size_eq]
        omega
      clear hr io
      cases hvb : U.valid ⟨bs.toArray⟩ with
      | true =>
        have VB := hd hvb
        have G2 : Hd (U.unquote s = (bs, 0)) := hd <| by rw [G.o, hvb]; rfl
        clear hvb G
        go_wp2_with (go_at_call 19; refine (Valid_any _ _ hbz).mono ?_; rintro e w3 ⟨rfl, hb3⟩; rw [VB.o])
        go_ret2
        exact ⟨ret_strR (by rw [G2.o]) (by rw [G2.o]), bel hbw (by assumption)⟩
      | false =>
        have VB := hd hvb
        have G2 : Hd (U.unquote s = ([], 13)) := hd <| by rw [G.o, hvb]; rfl
        clear hvb G
        go_wp2_with (go_at_call 19; refine (Valid_any _ _ hbz).mono ?_; rintro e w3 ⟨rfl, hb3⟩; rw [VB.o])
        go_ret2
        exact ⟨ret_strR (by rw [G2.o]) (by rw [G2.o]), bel hbw (by assumption)⟩

theorem unquote_any (s : ByteArray) (w : World) (hs : s.size ≤ 140737488351232) :
    Calls Try.prog 34 #[.string s] w fun e w' => e = strR (U.unquote s) ∧ Below w.heap.size w w' := by
  cases hv : U.valid s with
  | false => exact unquote_utf s w hs hv
  | true =>
    by_cases hl : U.literal s 0 = ((s.size : Int), 0)
    · rcases (U.lit_facts s hl).2 with h | h | h
      · exact unquote_esc s w hs hv hl 34 (.inl rfl) h
      · exact unquote_esc s w hs hv hl 39 (.inr rfl) h
      · exact unquote_raw s w hs hv hl h
    · exact unquote_lit s w hs hv hl
end Go.Proofs.Ythlpgnidjjclcaa
