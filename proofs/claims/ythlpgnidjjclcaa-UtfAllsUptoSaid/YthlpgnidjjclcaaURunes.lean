/- The walk of utf.Runes: a text's runes in new memory, or the refusal. -/
import Derived.Test.YthlpgnidjjclcaaUForm
import Derived.Test.YthlpgnidjjclcaaUJoinMath
namespace Go.Proofs.Ythlpgnidjjclcaa
open Go.RowKit
theorem info_i32 : (Try.prog.info? 21).map (fun i => (i.zero, i.size, i.bytes)) = some (some (.int .i32 0), 1, 4) := by kernel_rfl
def cellsR (l : List Nat) : List Value := l.map (fun (r : Nat) => Value.int .i32 (r : Int))
theorem cellsR_len (l : List Nat) : (cellsR l).length = l.length := by simp [cellsR]
theorem cellsR_snoc (l : List Nat) (r : Nat) : cellsR (l ++ [r]) = cellsR l ++ [Value.int .i32 (r : Int)] := by simp [cellsR]

theorem Runes_no (s : ByteArray) (w : World) (hs : s.size ≤ 1125899906842624) (hv : U.valid s = false) :
    Calls Try.prog 24 #[.string s] w fun e w' => e = .returned (.tuple #[.slice none 0 0, .int .i64 4]) ∧ Below w.heap.size w w' := by
  have V := hd hv
  clear hv
  go_enter Try.func24, Try.ntmps24
  go_wp2_with (go_at_call 19; refine (Valid_any _ _ hs).mono ?_; rintro e w1 ⟨rfl, hb1⟩; rw [V.o])
  go_ret2
  exact ⟨rfl, by assumption⟩

/-- what Runes leaves at a text that is UTF-8 -/
def RunesPost (w : World) (s : ByteArray) (en : Ending) (w' : World) : Prop :=
  ∃ v, en = .returned (.tuple #[v, .int .i64 0]) ∧ w'.ownsRow w.heap.size 21 1 v (U.runes s).length (cellsR (U.runes s)) ∧ Below w.heap.size w w'

theorem Runes_yes (s : ByteArray) (w : World) (hs : s.size ≤ 35184372088832) (hv : U.valid s = true) :
    Calls Try.prog 24 #[.string s] w (RunesPost w s) := by
  have V := hd hv
  clear hv
  go_enter Try.func24, Try.ntmps24
  go_wp2_with (first
    | (go_at_call 19; refine (Valid_any _ _ (by omega)).mono ?_; rintro e w1 ⟨rfl, hb1⟩; rw [V.o])
    | (at_make; refine wpList_mk0 _ 23 21 (.int .i32 0) 1 4 Try.underlying23 info_i32 rfl _ _ rfl w.heap.size _ _ s.size rfl rfl ?b1 ?b2 ?b3 ?_))
  case b1 => omega
  case b2 => omega
  case b3 => exact Below.size (B := w.heap.size) (by assumption)
  intro w2 ho hg
  have hb2 : Below w.heap.size w w2 := by
    have hb : Below w.heap.size w w1 := by assumption
    exact bel_grown hb hg (fun k h => by cases h)
  have hz2 := hb2.size
  go_wp2
  go_loopw [4] (fun v wr => ∃ (pos : Nat) (l : List Nat), pos ≤ s.size ∧ wr.heap[w2.heap.size]? = some (.stringIter s pos) ∧ wr.ownsRow w.heap.size 21 1 v l.length (cellsR l) ∧ Below w.heap.size w wr ∧ l.length ≤ pos ∧ Hd (l ++ U.runesFrom s pos = U.runes s) ∧ Hd (U.vfrom s pos = true)) (fun _ wr => s.size - wr.iterPos w2.heap.size)
  case atStart => exact ⟨0, [], Nat.zero_le _, World.iter_heap _ _ _, ho.alloc _, hb2.alloc hz2 _, Nat.le_refl _, hd rfl, hd V.o⟩
  case round =>
    obtain ⟨pos, l, hpos, hit, how, hbw, hl, hr, hvp⟩ := hrel
    have hsz : w2.heap.size < wr.heap.size := (Array.getElem?_eq_some_iff.1 hit).1
    by_cases hp : pos < s.size
    · have hnx : ∀ ty, (Instr.next (.pointer (some ⟨w2.heap.size, 0, none⟩)) true ty).run Try.prog wr = _ := fun ty => Lib.run_next_any_at wr w2.heap.size s pos ty hit hp
      have hb1 := decode_le s pos
      have hdp := U.dec_pos s pos
      have hle := U.dec_le s pos hp
      have gg := U.vf_good s pos hp hvp.o
      have G : Hd ((l ++ [U.run s pos]) ++ U.runesFrom s (pos + (Utf8.decode s pos).2) = U.runes s) := hd <| by
        rw [← hr.o, U.runes_step s pos hp gg.1, List.append_assoc]; rfl
      have GV : Hd (U.vfrom s (pos + (Utf8.decode s pos).2) = true) := hd gg.2
      clear gg
      have hit2 := Lib.iterAt_heap wr w2.heap.size s pos (pos + (Utf8.decode s pos).2) hit
      have how2 := own_iterAt how hit (pos + (Utf8.decode s pos).2)
      have hbw2 := Lib.below_iterAt hbw (k := w2.heap.size) (by omega) s (pos + (Utf8.decode s pos).2)
      have hne := own_ne_iter how2 hit2
      have hzz : w.heap.size ≤ (wr.iterAt w2.heap.size s (pos + (Utf8.decode s pos).2)).heap.size := hbw2.size
      have HIT := hd hit2
      have HIP := hd (iterPos_of hit)
      have HBW := hd hbw2
      have HNE := hd hne
      clear hit hit2 hbw2 hne
      go_wp2_with (at_builtin; refine wpList_app_lit 23 21 (.int .i32 0) 1 4 Try.underlying23 info_i32 rfl (by decide) rfl _ _ rfl w.heap.size u4 _ _ (wr.iterAt w2.heap.size s (pos + (Utf8.decode s pos).2)) #[.int .i32 (Utf8.decode s pos).1] 1 rfl rfl how2 rfl ?c1 ?c2 ?c3 hzz ?_)
      case c1 => simp [Value.oneCell']
      case c2 => omega
      case c3 => omega
      intro v' w' ho' hg'
      have hit' := grown_keep hg' HIT.o HNE.o
      have hbw' := bel_grown HBW.o hg' (fun k hk => (how2.lt k hk).1)
      have HO : Hd (w'.ownsRow w.heap.size 21 1 v' (l ++ [U.run s pos]).length (cellsR (l ++ [U.run s pos]))) := hd <| by
        rw [cellsR_snoc, List.length_append]
        exact ho'
      have HIT' := hd hit'
      clear how how2 ho' hg' hit'
      go_wp2
      go_roundw
      case rel => exact ⟨_, l ++ [U.run s pos], hle, HIT'.o, HO.o, hbw', by simp; omega, G, GV⟩
      case measure => rw [iterPos_of HIT'.o, HIP.o]; omega
    · have hnx := fun ty => Lib.run_next_end_at (P := Try.prog) wr w2.heap.size s pos ty hit hp
      have G : Hd (l = U.runes s) := hd <| by
        rw [← hr.o, U.runes_end s pos hp, List.append_nil]
      go_wp2
      go_ret2
      exact ⟨_, rfl, by rw [← G.o]; exact how, hbw⟩
end Go.Proofs.Ythlpgnidjjclcaa
