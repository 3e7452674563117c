/- The walk of the law UtfJoins where both texts are UTF-8. -/
import Derived.Test.YthlpgnidjjclcaaUJoinWalk
namespace Go.Proofs.Ythlpgnidjjclcaa
open Go.RowKit
def natsI (l : List Nat) : List Int := l.map (fun (r : Nat) => (r : Int))
theorem cellsR_ints (l : List Nat) : cellsR l = ints32 (natsI l) := by simp [cellsR, ints32, natsI]
theorem natsI_app (l r : List Nat) : natsI (l ++ r) = natsI l ++ natsI r := by simp [natsI]
theorem runes_len (s : ByteArray) : ∀ n p, s.size - p = n → (U.runesFrom s p).length ≤ n := by
  intro n
  induction n using Nat.strongRecOn with
  | ind n ih =>
    intro p hp
    by_cases h : p < s.size
    · cases hb : U.bad s p with
      | true => rw [U.runes_bad s p hb]; simp
      | false =>
        have := U.dec_pos s p
        rw [U.runes_step s p h hb, List.length_cons]
        have := ih (s.size - (p + (Utf8.decode s p).2)) (by omega) _ rfl
        omega
    · rw [U.runes_end s p h]; simp
theorem runes_le (s : ByteArray) : (U.runes s).length ≤ s.size := runes_len s _ 0 rfl

set_option maxHeartbeats 800000 in
theorem joins_yes (a b : ByteArray) (w : World) (ha : a.size ≤ 1048576) (hb : b.size ≤ 1048576) (hva : U.valid a = true) (hvb : U.valid b = true) :
    Calls Try.prog 6 #[.string a, .string b] w fun e w' => e = .returned (.bool true) ∧ Below w.heap.size w w' := by
  obtain ⟨hvw, hrr⟩ := U.joined a b hva hvb
  have hz : (a ++ b).size = a.size + b.size := U.app_size a b
  have VA := hd hva
  have VB := hd hvb
  have VW := hd hvw
  have RR := hd hrr
  have K1 := hd kj_valid1
  have K2 := hd kj_valid2
  have hsum : (a ++ b).size ≤ 2097152 := by omega
  have hla := runes_le a
  have hlb := runes_le b
  have hlw := runes_le (a ++ b)
  have hcut : Hd ((decide (0 < (U.next (a ++ b) (a.size : Int)).2) || b.toList.isEmpty) = true) := hd <| by
    rcases (U.cut_iff a b hvw).2 ⟨hva, hvb⟩ with h | h
    · rw [Bool.or_eq_true]; left
      rw [decide_eq_true_eq, U.next_wid]; omega
    · rw [Bool.or_eq_true]; right
      rw [List.isEmpty_iff, ByteArray.toList_eq]
      exact List.eq_nil_of_length_eq_zero (by rw [← Lib.size_eq]; exact h)
  clear hva hvb hvw hz hrr
  cases c1 : decide (0 < (U.next (a ++ b) (a.size : Int)).2) with
  | true =>
    clear hcut
    go_enter Try.func6, Try.ntmps6
    go_wp2_with (first
        | (go_at_call 18; refine (next_any _ _ _ (by omega)).mono ?_; rintro e w1 ⟨rfl, hb1⟩; replace hb1 := bel (show Below w.heap.size w _ by first | assumption | exact Below.refl _ _) hb1)
        | (go_at_call 19; refine (Valid_any _ _ (by first | omega | decide)).mono ?_; rintro e w1 ⟨rfl, hb1⟩; replace hb1 := bel (show Below w.heap.size w _ by first | assumption | exact Below.refl _ _) hb1; first | rw [K1.o] | rw [K2.o] | rw [VA.o] | rw [VB.o] | rw [VW.o]))
    refine (Runes_yes a _ (by omega) VA.o).mono ?_
    rintro e w2 ⟨va, rfl, ho, hbw⟩
    have ia := IsL.own ho
    replace hbw := bel (show Below w.heap.size w _ by assumption) hbw
    clear ho
    go_wp2_with fail
    refine (Runes_yes b _ (by omega) VB.o).mono ?_
    rintro e w3 ⟨vb, rfl, ho, hbx⟩
    replace ia := ia.below hbx
    have ib := IsL.own ho
    replace hbw := bel hbw hbx
    clear ho hbx
    go_wp2_with fail
    refine (Runes_yes (a ++ b) _ (by omega) VW.o).mono ?_
    rintro e w4 ⟨vw, rfl, ho, hbx⟩
    replace ia := ia.below hbx
    replace ib := ib.below hbx
    have iw := IsL.own ho
    replace hbw := bel hbw hbx
    clear ho hbx
    go_wp2_with (first
        | (go_at_call 19; refine (Valid_any _ _ (by first | omega | decide)).mono ?_; rintro e w5 ⟨rfl, hb5⟩; rw [VW.o]; replace ia := ia.below hb5; replace ib := ib.below hb5; replace iw := iw.below hb5; replace hbw := bel hbw hb5; have hz5 := hbw.size)
        | (at_builtin; refine wpList_app_any _ 23 21 (.int .i32 0) 1 4 Try.underlying23 info_i32 rfl (by decide) rfl _ _ rfl w5.heap.size (.slice (some ⟨w5.heap.size, 0, none⟩) 0 0) 0 [] rfl (World.ownsRow_made w5 #[] 0 (Nat.le_refl _) (by decide) (by simp)) va _ _ rfl (ia.below ((Below.refl _ _).alloc (Nat.le_refl _) _)) ?c1 ?c2 ?c3 ?c4 ?_))
    case c1 => intro u hu; obtain ⟨x, _, rfl⟩ := List.mem_map.1 hu; rfl
    case c2 => omega
    case c3 => omega
    case c4 => simp
    intro v1 w6 ho1 hg1
    have hb56 : Below w5.heap.size w5 w6 := ((Below.refl _ _).alloc (Nat.le_refl _) _).grown hg1 (by simp) (fun k hk => by simp [Value.ownBlock] at hk; omega)
    replace ib := ib.below hb56
    have hz6 := hb56.size
    clear hg1 ia
    go_wp2_with (at_builtin; refine wpList_app_any _ 23 21 (.int .i32 0) 1 4 Try.underlying23 info_i32 rfl (by decide) rfl _ _ rfl w5.heap.size v1 _ _ rfl ho1 vb _ _ rfl ib ?c5 ?c6 ?c7 hz6 ?_)
    case c5 => intro u hu; obtain ⟨x, _, rfl⟩ := List.mem_map.1 hu; rfl
    case c6 => omega
    case c7 => omega
    intro v2 w7 ho2 hg2
    have hb57 : Below w5.heap.size w5 w7 := hb56.grown hg2 hz6 (fun k hk => (ho1.lt k hk).1)
    replace iw := iw.below hb57
    replace hbw := bel hbw hb57
    have i2 := IsL.own ho2
    rw [cellsR_ints] at iw
    rw [cellsR_ints, cellsR_ints, show ints32 (natsI (U.runes a)) ++ ints32 (natsI (U.runes b)) = ints32 (natsI (U.runes a) ++ natsI (U.runes b)) by simp [ints32]] at i2
    have hE : Hd ((natsI (U.runes (a ++ b)) == natsI (U.runes a) ++ natsI (U.runes b)) = true) := hd <| by
      rw [RR.o, natsI_app]; simp
    clear hb56 hb57 hg2 ho1 ho2 ib
    go_wp2_with (go_at_call 17; refine (same_any vw v2 _ _ (natsI (U.runes (a ++ b))) (natsI (U.runes a) ++ natsI (U.runes b)) _ iw i2 (by omega)).mono ?_; rintro e w8 ⟨rfl, hb8⟩; rw [hE.o])
    go_ret
    exact ⟨rfl, bel hbw hb8⟩
  | false =>
    have c2 : b.toList.isEmpty = true := by have := hcut.o; rw [c1, Bool.false_or] at this; exact this
    clear hcut
    go_enter Try.func6, Try.ntmps6
    go_wp2_with (first
        | (go_at_call 18; refine (next_any _ _ _ (by omega)).mono ?_; rintro e w1 ⟨rfl, hb1⟩; replace hb1 := bel (show Below w.heap.size w _ by first | assumption | exact Below.refl _ _) hb1)
        | (go_at_call 19; refine (Valid_any _ _ (by first | omega | decide)).mono ?_; rintro e w1 ⟨rfl, hb1⟩; replace hb1 := bel (show Below w.heap.size w _ by first | assumption | exact Below.refl _ _) hb1; first | rw [K1.o] | rw [K2.o] | rw [VA.o] | rw [VB.o] | rw [VW.o]))
    refine (Runes_yes a _ (by omega) VA.o).mono ?_
    rintro e w2 ⟨va, rfl, ho, hbw⟩
    have ia := IsL.own ho
    replace hbw := bel (show Below w.heap.size w _ by assumption) hbw
    clear ho
    go_wp2_with fail
    refine (Runes_yes b _ (by omega) VB.o).mono ?_
    rintro e w3 ⟨vb, rfl, ho, hbx⟩
    replace ia := ia.below hbx
    have ib := IsL.own ho
    replace hbw := bel hbw hbx
    clear ho hbx
    go_wp2_with fail
    refine (Runes_yes (a ++ b) _ (by omega) VW.o).mono ?_
    rintro e w4 ⟨vw, rfl, ho, hbx⟩
    replace ia := ia.below hbx
    replace ib := ib.below hbx
    have iw := IsL.own ho
    replace hbw := bel hbw hbx
    clear ho hbx
    go_wp2_with (first
        | (go_at_call 19; refine (Valid_any _ _ (by first | omega | decide)).mono ?_; rintro e w5 ⟨rfl, hb5⟩; rw [VW.o]; replace ia := ia.below hb5; replace ib := ib.below hb5; replace iw := iw.below hb5; replace hbw := bel hbw hb5; have hz5 := hbw.size)
        | (at_builtin; refine wpList_app_any _ 23 21 (.int .i32 0) 1 4 Try.underlying23 info_i32 rfl (by decide) rfl _ _ rfl w5.heap.size (.slice (some ⟨w5.heap.size, 0, none⟩) 0 0) 0 [] rfl (World.ownsRow_made w5 #[] 0 (Nat.le_refl _) (by decide) (by simp)) va _ _ rfl (ia.below ((Below.refl _ _).alloc (Nat.le_refl _) _)) ?c1 ?c2 ?c3 ?c4 ?_))
    case c1 => intro u hu; obtain ⟨x, _, rfl⟩ := List.mem_map.1 hu; rfl
    case c2 => omega
    case c3 => omega
    case c4 => simp
    intro v1 w6 ho1 hg1
    have hb56 : Below w5.heap.size w5 w6 := ((Below.refl _ _).alloc (Nat.le_refl _) _).grown hg1 (by simp) (fun k hk => by simp [Value.ownBlock] at hk; omega)
    replace ib := ib.below hb56
    have hz6 := hb56.size
    clear hg1 ia
    go_wp2_with (at_builtin; refine wpList_app_any _ 23 21 (.int .i32 0) 1 4 Try.underlying23 info_i32 rfl (by decide) rfl _ _ rfl w5.heap.size v1 _ _ rfl ho1 vb _ _ rfl ib ?c5 ?c6 ?c7 hz6 ?_)
    case c5 => intro u hu; obtain ⟨x, _, rfl⟩ := List.mem_map.1 hu; rfl
    case c6 => omega
    case c7 => omega
    intro v2 w7 ho2 hg2
    have hb57 : Below w5.heap.size w5 w7 := hb56.grown hg2 hz6 (fun k hk => (ho1.lt k hk).1)
    replace iw := iw.below hb57
    replace hbw := bel hbw hb57
    have i2 := IsL.own ho2
    rw [cellsR_ints] at iw
    rw [cellsR_ints, cellsR_ints, show ints32 (natsI (U.runes a)) ++ ints32 (natsI (U.runes b)) = ints32 (natsI (U.runes a) ++ natsI (U.runes b)) by simp [ints32]] at i2
    have hE : Hd ((natsI (U.runes (a ++ b)) == natsI (U.runes a) ++ natsI (U.runes b)) = true) := hd <| by
      rw [RR.o, natsI_app]; simp
    clear hb56 hb57 hg2 ho1 ho2 ib
    go_wp2_with (go_at_call 17; refine (same_any vw v2 _ _ (natsI (U.runes (a ++ b))) (natsI (U.runes a) ++ natsI (U.runes b)) _ iw i2 (by omega)).mono ?_; rintro e w8 ⟨rfl, hb8⟩; rw [hE.o])
    go_ret
    exact ⟨rfl, bel hbw hb8⟩
end Go.Proofs.Ythlpgnidjjclcaa
