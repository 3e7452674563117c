/- The walk of weirlaw01.digits. -/
import Derived.Test.YthlpgnidjjclcaaUSpMath
import Derived.Test.YthlpgnidjjclcaaUUnq
namespace Go.Proofs.Ythlpgnidjjclcaa
open Go.RowKit
set_option linter.unusedVariables false
set_option linter.unusedSimpArgs false
theorem cellsB_rep (k : Nat) : cellsB (List.replicate k 0) = List.replicate k (.int .u8 0) := by
  unfold cellsB; rw [List.map_replicate]; rfl
theorem hexcs : ∀ (i : Nat) (h : i < (⟨#[48, 49, 50, 51, 52, 53, 54, 55, 56, 57, 97, 98, 99, 100, 101, 102, 65, 66, 67, 68, 69, 70]⟩ : ByteArray).size), ((⟨#[48, 49, 50, 51, 52, 53, 54, 55, 56, 57, 97, 98, 99, 100, 101, 102, 65, 66, 67, 68, 69, 70]⟩ : ByteArray)[i]'h).toNat = U.hexC i := by
  have : ∀ i : Fin 22, ((⟨#[48, 49, 50, 51, 52, 53, 54, 55, 56, 57, 97, 98, 99, 100, 101, 102, 65, 66, 67, 68, 69, 70]⟩ : ByteArray)[i.val]'i.isLt).toNat = U.hexC i := by decide +kernel
  exact fun i h => this ⟨i, h⟩
theorem run_hexU (k : IntKind) (n : Int) (h0 : 0 ≤ n) (h1 : n < 22) (w : World) :
    (Instr.index 9 (.string ⟨#[48, 49, 50, 51, 52, 53, 54, 55, 56, 57, 97, 98, 99, 100, 101, 102, 65, 66, 67, 68, 69, 70]⟩) (.int k n)).run Try.prog w = .ok (.int .u8 (U.hexC n.toNat : Int)) w := by
  have hz : ((⟨#[48, 49, 50, 51, 52, 53, 54, 55, 56, 57, 97, 98, 99, 100, 101, 102, 65, 66, 67, 68, 69, 70]⟩ : ByteArray).size) = 22 := rfl
  rw [run_index_string _ _ _ _ _ Try.underlying9]
  rw [dif_pos (show 0 ≤ n ∧ n < _ by rw [hz]; omega)]
  rw [hexcs]
theorem set_row (j : Nat) (T : List UInt8) (u : UInt8) : (cellsB (List.replicate (j + 1) 0 ++ T)).set j (.int .u8 (u.toNat : Int)) = cellsB (List.replicate j 0 ++ (u :: T)) := by
  rw [List.replicate_succ', List.append_assoc, cellsB_app]
  rw [show cellsB (List.replicate j 0 ++ (u :: T)) = cellsB (List.replicate j 0) ++ (.int .u8 (u.toNat : Int) :: cellsB T) from by rw [cellsB_app]; rfl]
  rw [List.set_append_right _ _ (by rw [cellsB_len, List.length_replicate]; exact Nat.le_refl _), cellsB_len, List.length_replicate, Nat.sub_self]
  rfl
theorem digits_any (n base k : Nat) (w : World) (hb1 : 2 ≤ base) (hb2 : base ≤ 16) (hk : k ≤ 16) (hn : n ≤ 2147483647) :
    Calls Try.prog 53 #[.int .i64 n, .int .i64 base, .int .i64 k] w fun e w' => e = .returned (.string ⟨(U.dgs n base k).toArray⟩) ∧ Below w.heap.size w w' := by
  go_enter Try.func53, Try.ntmps53
  go_wp2_with (at_make; refine wpList_mkn _ 62 5 (.int .u8 0) 1 1 Try.underlying62 info_u8 rfl _ _ rfl w.heap.size _ _ k rfl rfl ?b1 ?b2 ?b3 ?_)
  case b1 => omega
  case b2 => omega
  case b3 => exact Nat.le_refl _
  intro w2 ho hg
  have hb2' : Below w.heap.size w w2 := bel_grown (Below.refl _ _) hg (fun k h => by cases h)
  clear hg
  have e : (madeCells #[Value.int .u8 0] k).toList = cellsB (List.replicate k 0 ++ []) := by
    rw [List.append_nil, cellsB_rep]
    exact toList_madeCells_one _ _
  rw [e] at ho
  clear e
  go_wp2
  go_loopw [0, 8] (fun vn vi wr => ∃ (m j : Nat) (T : List UInt8), j ≤ k ∧ m ≤ n ∧ vn = .int .i64 m ∧ vi = .int .i64 ((j : Int) - 1) ∧ wr.ownsRow w.heap.size 5 1 (.slice (some ⟨w.heap.size, 0, none⟩) k k) k (cellsB (List.replicate j 0 ++ T)) ∧ Below w.heap.size w wr ∧ Hd (U.dgs n base k = U.dgs m base j ++ T)) (fun _ vi _ => (intOf vi + 1).toNat)
  case atStart => exact ⟨n, k, [], Nat.le_refl _, Nat.le_refl _, rfl, by go_num, ho, hb2', hd (by simp)⟩
  case round =>
    obtain ⟨m, j, T, hj, hm, rfl, rfl, how, hbw, hT⟩ := hrel
    have hzr := hbw.size
    cases j with
    | zero =>
      have G : Hd (U.dgs n base k = T) := hd <| by rw [hT.o]; rfl
      have io := IsL.own how
      simp only [List.replicate_zero, List.nil_append] at io
      have hcv := run_string_of wr 62 9 5 Try.underlying62 Try.underlying5 Try.underlying9 _ k T io
      go_wp2
      go_ret
      exact ⟨ret_str (by rw [G.o]), hbw⟩
    | succ j =>
      have c1 : wr.cell? ⟨w.heap.size, j, none⟩ = some (.int .u8 0) := by
        rw [how.cellAt j (by omega), cellsB_app, List.getElem?_append_left (by rw [cellsB_len, List.length_replicate]; omega), cellsB_rep, List.getElem?_replicate, if_pos (by omega)]
      have c2 := how.frozenAt j
      have hst := fun u : UInt8 => how.stored j (.int .u8 (u.toNat : Int))
      have HST : Hd (∀ u : UInt8, (wr.setCell ⟨w.heap.size, j, none⟩ (.int .u8 (u.toNat : Int))).ownsRow w.heap.size 5 1 (.slice (some ⟨w.heap.size, 0, none⟩) k k) k (cellsB (List.replicate j 0 ++ (u :: T))) ∧ Below w.heap.size w (wr.setCell ⟨w.heap.size, j, none⟩ (.int .u8 (u.toNat : Int)))) := hd fun u => by
        obtain ⟨h1, h2⟩ := hst u
        rw [set_row] at h1
        exact ⟨h1, bel_grown hbw h2 (fun k hk => by cases hk; exact Nat.le_refl _)⟩
      clear hst
      have G : Hd (∀ u : UInt8, u.toNat = U.dch m base → U.dgs n base k = U.dgs (m / base) base j ++ (u :: T)) := hd fun u hu => by
        rw [hT.o, U.dgs, List.append_assoc, ← hu, U.u8_of]; rfl
      have HD : ∃ d r : Nat, m / base = d ∧ m % base = r ∧ (m : Int) / (base : Int) = (d : Int) ∧ (m : Int) % (base : Int) = (r : Int) ∧ d ≤ n ∧ r < 16 :=
        ⟨_, _, rfl, rfl, by simp, by simp, Nat.le_trans (Nat.div_le_self _ _) hm, Nat.lt_of_lt_of_le (Nat.mod_lt _ (by omega)) hb2⟩
      obtain ⟨d, r, hd1, hr1, hd2, hr2, hdn, hr16⟩ := HD
      rw [hd1] at G
      have GD : Hd (U.dch m base = if 9 < r ∧ d % 2 = 1 then U.hexC (r + 6) else U.hexC r) := hd <| by unfold U.dch; rw [hr1, hd1]
      clear hd1 hr1 how hT hbw
      have e3 : ((d : Int).tmod 2) = ((d % 2 : Nat) : Int) := by rw [Int.tmod_eq_emod_of_nonneg (by omega)]; omega
      have hx := fun h => hexcs r h
      have HX6 := hd (fun h => hexcs (r + 6) h)
      have HX := hd hx
      clear hx
      by_cases h9 : 9 < r
      · have t1 : decide ((9 : Int) < (r : Int)) = true := by simp; omega
        by_cases hodd : d % 2 = 1
        · have t2 : (((d : Int) % 2) == 1) = true := by rw [beq_iff_eq]; omega
          have GG : Hd (U.dch m base = U.hexC (r + 6)) := hd (by rw [GD.o, if_pos ⟨h9, hodd⟩])
          clear h9 hodd GD
          go_wp2
          go_roundw
          case rel => exact ⟨d, j, _, by omega, hdn, rfl, by go_num, (HST.o _).1, (HST.o _).2, hd (G.o _ (by rw [GG.o]; exact HX6.o _))⟩
          case measure => simp [intOf]
        · have t2 : (((d : Int) % 2) == 1) = false := by rw [beq_eq_false_iff_ne]; omega
          have GG : Hd (U.dch m base = U.hexC r) := hd (by rw [GD.o, if_neg (by omega)])
          clear h9 hodd GD
          go_wp2
          go_roundw
          case rel => exact ⟨d, j, _, by omega, hdn, rfl, by go_num, (HST.o _).1, (HST.o _).2, hd (G.o _ (by rw [GG.o]; exact HX.o _))⟩
          case measure => simp [intOf]
      · have t1 : decide ((9 : Int) < (r : Int)) = false := by simp; omega
        have GG : Hd (U.dch m base = U.hexC r) := hd (by rw [GD.o, if_neg (by omega)])
        clear h9 GD
        go_wp2
        go_roundw
        case rel => exact ⟨d, j, _, by omega, hdn, rfl, by go_num, (HST.o _).1, (HST.o _).2, hd (G.o _ (by rw [GG.o]; exact HX.o _))⟩
        case measure => simp [intOf]
end Go.Proofs.Ythlpgnidjjclcaa
