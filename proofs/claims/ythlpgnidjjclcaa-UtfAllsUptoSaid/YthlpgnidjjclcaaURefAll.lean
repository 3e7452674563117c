/- The walks of the reference's All, Runes and Text, and of utf.Runes at every text. -/
import Derived.Test.YthlpgnidjjclcaaUText
import Derived.Test.YthlpgnidjjclcaaUWalkC
import Derived.Test.YthlpgnidjjclcaaBase5
namespace Go.Proofs.Ythlpgnidjjclcaa
open Go.RowKit
set_option linter.unusedVariables false
set_option linter.unusedSimpArgs false
namespace U
/-- the places at which runes begin, up to the first fault -/
def placesFrom (s : ByteArray) (p : Nat) : List Nat :=
  if h : p < s.size then if bad s p then [] else p :: placesFrom s (p + (Utf8.decode s p).2) else []
termination_by s.size - p
decreasing_by have := dec_pos s p; omega
theorem places_step (s : ByteArray) (p : Nat) (h : p < s.size) (hb : bad s p = false) : placesFrom s p = p :: placesFrom s (p + (Utf8.decode s p).2) := by rw [placesFrom, dif_pos h, if_neg (by simp [hb])]
theorem places_end (s : ByteArray) (p : Nat) (h : ¬ p < s.size) : placesFrom s p = [] := by rw [placesFrom, dif_neg h]
theorem places_bad (s : ByteArray) (p : Nat) (h : bad s p = true) : placesFrom s p = [] := by rw [placesFrom, if_pos h]; split <;> rfl
def runesE (s : ByteArray) : List Nat × Int := if valid s then (runes s, 0) else ([], 4)
end U
def cellsP (l : List Nat) : List Value := l.map (fun (r : Nat) => Value.int .i64 (r : Int))
theorem cellsP_snoc (l : List Nat) (r : Nat) : cellsP (l ++ [r]) = cellsP l ++ [Value.int .i64 (r : Int)] := by simp [cellsP]
theorem info_i64 : (Try.prog.info? 3).map (fun i => (i.zero, i.size, i.bytes)) = some (some (.int .i64 0), 1, 8) := by kernel_rfl
/-- what All of the reference leaves -/
def AllPost (w : World) (s : ByteArray) (en : Ending) (w' : World) : Prop :=
  ∃ v1 v2, en = .returned (.tuple #[v1, v2]) ∧ w'.ownsRow w.heap.size 3 1 v1 (U.placesFrom s 0).length (cellsP (U.placesFrom s 0)) ∧ w'.ownsRow w.heap.size 21 1 v2 (U.runes s).length (cellsR (U.runes s)) ∧ Below w.heap.size w w'
theorem own_keep_type {w w' : World} {B B' : Nat} {e e' : TypeId} {s s' n n' : Nat} {x x' : Value} {xs xs' : List Value} (h1 : w.ownsRow B e s x n xs) (h2 : w.ownsRow B' e' s' x' n' xs') (hne : e ≠ e') (hg : w.grownBy w' x'.ownBlock) : w'.ownsRow B e s x n xs := by
  refine h1.kept hg ?_
  rcases h2.2 with ⟨rfl, _⟩ | ⟨g, cap, cur, rfl, _, hgg, _⟩
  · cases hx : x.ownBlock with
    | none => exact .inl rfl
    | some g => exact .inr (by simp [Value.ownBlock])
  · right
    rcases h1.2 with ⟨rfl, _⟩ | ⟨g', cap', cur', rfl, _, hg', _⟩
    · simp [Value.ownBlock]
    · intro he
      have : g' = g := by simpa [Value.ownBlock] using he
      rw [this, hgg] at hg'
      simp at hg'
      exact hne hg'.2.symm
set_option maxHeartbeats 1000000 in
theorem refAll_any (s : ByteArray) (w : World) (hs : s.size ≤ 1125899906842) :
    Calls Try.prog 16 #[.string s] w (AllPost w s) := by
  go_enter Try.func16, Try.ntmps16
  go_wp2
  go_loopw [4, 5, 6] (fun v1 v2 x wr => ∃ (p : Nat) (ps rs : List Nat), p ≤ s.size ∧ x = .int .i64 p ∧ wr.ownsRow w.heap.size 3 1 v1 ps.length (cellsP ps) ∧ wr.ownsRow w.heap.size 21 1 v2 rs.length (cellsR rs) ∧ Below w.heap.size w wr ∧
      ps.length ≤ p ∧ rs.length ≤ p ∧ Hd (ps ++ U.placesFrom s p = U.placesFrom s 0) ∧ Hd (rs ++ U.runesFrom s p = U.runes s)) (fun _ _ x _ => s.size - (intOf x).toNat)
  case atStart => exact ⟨0, [], [], Nat.zero_le _, rfl, World.ownsRow_nil _ _ _ _, World.ownsRow_nil _ _ _ _, Below.refl _ _, Nat.le_refl _, Nat.le_refl _, hd rfl, hd rfl⟩
  case round =>
    obtain ⟨p, ps, rs, hp, rfl, h1, h2, hbw, l1, l2, hps, hrs⟩ := hrel
    by_cases hlt : p < s.size
    · cases hb : U.bad s p with
      | true =>
        have N : Hd (U.next s p = (-1, 0)) := hd (U.next_bad s p hb)
        have G1 : Hd (ps = U.placesFrom s 0) := hd <| by rw [← hps.o, U.places_bad s p hb, List.append_nil]
        have G2 : Hd (rs = U.runes s) := hd <| by rw [← hrs.o, U.runes_bad s p hb, List.append_nil]
        clear hb
        go_wp2_with (go_at_call 20; refine (refNext_any s p _ (by omega)).mono ?_; rintro e w1 ⟨rfl, hb1⟩; rw [N.o])
        go_ret2
        refine ⟨u4, u5, rfl, ?_, ?_, bel hbw (by assumption)⟩
        · rw [← G1.o]; exact own_below h1 (by assumption)
        · rw [← G2.o]; exact own_below h2 (by assumption)
      | false =>
        have N : Hd (U.next s p = ((U.run s p : Int), ((Utf8.decode s p).2 : Int))) := hd (U.next_good s p hlt hb)
        have G1 : Hd ((ps ++ [p]) ++ U.placesFrom s (p + (Utf8.decode s p).2) = U.placesFrom s 0) := hd <| by rw [← hps.o, U.places_step s p hlt hb, List.append_assoc]; rfl
        have G2 : Hd ((rs ++ [U.run s p]) ++ U.runesFrom s (p + (Utf8.decode s p).2) = U.runes s) := hd <| by rw [← hrs.o, U.runes_step s p hlt hb, List.append_assoc]; rfl
        clear hb
        have hle := U.dec_le s p hlt
        have hdp := U.dec_pos s p
        have hne : (((Utf8.decode s p).2 : Int) == 0) = false := by rw [beq_eq_false_iff_ne]; omega
        generalize U.run s p = r at *
        go_wp2_with (first
          | (at_builtin; refine wpList_app_lit 22 3 (.int .i64 0) 1 8 Try.underlying22 info_i64 rfl (by decide) rfl _ _ rfl w.heap.size u4 ps.length (cellsP ps) w1 #[.int .i64 p] 1 rfl rfl o1 rfl ?_ ?_ ?_ hz1 ?_)
          | (go_at_call 20; refine (refNext_any s p _ (by omega)).mono ?_; rintro e w1 ⟨rfl, hb1⟩; rw [N.o]; have hB1 : Below w.heap.size w w1 := bel hbw hb1; have o1 := own_below h1 hb1; have o2 := own_below h2 hb1; have hz1 := hB1.size; clear h1 h2 hb1 hbw))
        · rfl
        · omega
        · omega
        intro v3 w3 ho3 hg3
        have o2' := own_keep_type o2 o1 (by decide) hg3
        have hB3 : Below w.heap.size w w3 := bel_grown hB1 hg3 (fun g hg' => (o1.lt g hg').1)
        have hz3 := hB3.size
        clear hg3 o1 o2 hB1 hz1
        go_wp2_with (at_builtin; refine wpList_app_lit 23 21 (.int .i32 0) 1 4 Try.underlying23 info_i32 rfl (by decide) rfl _ _ rfl w.heap.size u5 rs.length (cellsR rs) w3 #[.int .i32 r] 1 rfl rfl o2' rfl ?_ ?_ ?_ hz3 ?_)
        · rfl
        · omega
        · omega
        intro v4 w4 ho4 hg4
        have O3 := hd (own_keep_type ho3 o2' (by decide) hg4)
        have O4 := hd ho4
        have hB4 := hd (bel_grown hB3 hg4 (fun g hg' => (o2'.lt g hg').1))
        clear hg4 ho4 ho3 o2' hB3 hz3
        go_wp2
        go_roundw
        case rel =>
          refine ⟨p + (Utf8.decode s p).2, ps ++ [p], rs ++ [r], hle, by go_num, ?_, ?_, hB4.o, by simp; omega, by simp; omega, G1, G2⟩
          · rw [cellsP_snoc, List.length_append]; exact O3.o
          · rw [cellsR_snoc, List.length_append]; exact O4.o
        case measure => simp [intOf]; omega
    · have G1 : Hd (ps = U.placesFrom s 0) := hd <| by rw [← hps.o, U.places_end s p hlt, List.append_nil]
      have G2 : Hd (rs = U.runes s) := hd <| by rw [← hrs.o, U.runes_end s p hlt, List.append_nil]
      go_wp2
      go_ret2
      refine ⟨u4, u5, rfl, ?_, ?_, hbw⟩
      · rw [← G1.o]; exact h1
      · rw [← G2.o]; exact h2

/-- what Runes leaves, of the program and of the reference -/
def RunesP (w : World) (s : ByteArray) (en : Ending) (w' : World) : Prop :=
  ∃ v, en = .returned (.tuple #[v, .int .i64 (U.runesE s).2]) ∧ w'.ownsRow w.heap.size 21 1 v (U.runesE s).1.length (cellsR (U.runesE s).1) ∧ Below w.heap.size w w'
theorem runes_all (s : ByteArray) (w : World) (hs : s.size ≤ 35184372088832) : Calls Try.prog 24 #[.string s] w (RunesP w s) := by
  cases hv : U.valid s with
  | true =>
    have e : U.runesE s = (U.runes s, 0) := by unfold U.runesE; rw [hv]; rfl
    refine (Runes_yes s w hs hv).mono fun en w' ⟨v, h1, h2, h3⟩ => ⟨v, by rw [e]; exact h1, by rw [e]; exact h2, h3⟩
  | false =>
    have e : U.runesE s = ([], 4) := by unfold U.runesE; rw [hv]; rfl
    refine (Runes_no s w (by omega) hv).mono fun en w' ⟨h1, h3⟩ => ⟨_, by rw [e]; exact h1, by rw [e]; exact World.ownsRow_nil _ _ _ _, h3⟩
theorem refRunes_all (s : ByteArray) (w : World) (hs : s.size ≤ 1125899906842) : Calls Try.prog 23 #[.string s] w (RunesP w s) := by
  cases hv : U.valid s with
  | true =>
    have V := hd hv
    have e : Hd (U.runesE s = (U.runes s, 0)) := hd <| by unfold U.runesE; rw [hv]; rfl
    clear hv
    go_enter Try.func23, Try.ntmps23
    go_wp2_with (first
      | (go_at_call 21; refine (refValid_any s _ (by omega)).mono ?_; rintro e w1 ⟨rfl, hb1⟩; rw [V.o])
      | (go_at_call 16; refine (refAll_any s _ hs).mono ?_; rintro e w2 ⟨v1, v2, rfl, ho1, ho2, hb2⟩))
    go_ret2
    exact ⟨v2, by rw [e.o]; rfl, by rw [e.o]; exact own_mono ho2 (Below.size (by assumption)), bel (by assumption) hb2⟩
  | false =>
    have V := hd hv
    have e : Hd (U.runesE s = ([], 4)) := hd <| by unfold U.runesE; rw [hv]; rfl
    clear hv
    go_enter Try.func23, Try.ntmps23
    go_wp2_with (go_at_call 21; refine (refValid_any s _ (by omega)).mono ?_; rintro e w1 ⟨rfl, hb1⟩; rw [V.o])
    go_ret2
    exact ⟨.slice none 0 0, by rw [e.o]; rfl, by rw [e.o]; exact World.ownsRow_nil _ _ _ _, by assumption⟩
end Go.Proofs.Ythlpgnidjjclcaa
