/- internal/strconv.formatBase10, numDigits, setDigits. -/
import Derived.Test.YtcbggkdginfakaaDoorFShfA
import Derived.Lib.ItoaMem
import Derived.Lib.ItoaLen
import Derived.LoopTactic
namespace Go.Proofs.YtcbggkdginfakaaDoor
open Go.RowKit Go.Sort
set_option linter.unusedVariables false
set_option linter.unusedSimpArgs false
theorem numDigits_any (u : Nat) (h1 : 1 ≤ u) (h2 : u < 18446744073709551616) (w : World) (hT : Tbl w) :
    Calls Tryd.prog 51 #[.int .u64 u] w fun e w' => e = .returned (.int .i64 (Lib.nDigits u)) ∧ w' = w := Any.internal_strconv_numDigits Tryd.laysM284 u h1 h2 w hT.u
theorem grownBy_putRow {α : Type} [Inhabited α] (enc : α → Value) (w : World) (g o n : Nat) (d : Array α) : w.grownBy ((putRow enc w g o d).drewN n) (some g) := by
  refine ⟨rfl, rfl, rfl, by show w.heap.size ≤ (putRow enc w g o d).heap.size; rw [size_putRow]; exact Nat.le_refl _, fun k hk hne => ?_⟩
  have : g ≠ k := fun e => hne (by rw [e])
  show (putRow enc w g o d).heap[k]? = _
  simp [putRow, mapBlock, Array.getElem?_modify, this]
theorem bk_putRow {α : Type} [Inhabited α] (enc : α → Value) {w : World} {g : Nat} {e : TypeId} {L : List Value} (h : Bk w g e L) (o n : Nat) (d : Array α) : ∃ L', Bk ((putRow enc w g o d).drewN n) g e L' ∧ L'.length = L.length := by
  refine ⟨(putCells enc o d L.toArray).toList, ?_, by simp [putCells]⟩
  unfold Bk at *
  show (putRow enc w g o d).heap[g]? = _
  simp [putRow, mapBlock, Array.getElem?_modify, h, onCells]
theorem fmt10_any (g cap u : Nat) (w : World) (T : TypeId) (L : List Value) (hk : Bk w g T L) (hz : ∀ j, j < Lib.nDigits u → w.cell? ⟨g, j, none⟩ = some (.int .u8 0) ∧ w.frozen? ⟨g, j, none⟩ = false) (h1 : 1 ≤ u) (h2 : u < 18446744073709551616) :
    Calls Tryd.prog 52 #[.slice (some ⟨g, 0, none⟩) (Lib.nDigits u) cap, .int .u64 u] w fun e w' => e = .returned (.tuple #[]) ∧
      (∀ j (h : j < (Lib.decDigits u).length), w'.cell? ⟨g, j, none⟩ = some (.int .u8 (((Lib.decDigits u)[j]'h).toNat : Int))) ∧ w.grownBy w' (some g) ∧ ∃ L', Bk w' g T L' ∧ L'.length = L.length := by
  have hn := Lib.nDigits_le20 u h2
  have hH : Holds (fun (b : UInt8) => Value.int .u8 (b.toNat : Int)) w g 0 (Array.replicate (Lib.nDigits u) (0 : UInt8)) := fun j hj => by
    rw [Array.size_replicate] at hj
    obtain ⟨a, b⟩ := hz j hj
    rw [Nat.zero_add, a, b, getElem!_pos _ j (by rw [Array.size_replicate]; exact hj), Array.getElem_replicate]
    exact ⟨rfl, rfl⟩
  have h := Any.internal_strconv_formatBase10 Tryd.laysN285 g 0 cap u (Array.replicate (Lib.nDigits u) (0 : UInt8)) w hH (by rw [Array.size_replicate]; exact Lib.lt_pow_nDigits u) h2 (by rw [Array.size_replicate]; omega)
  rw [Array.size_replicate] at h
  refine Calls.mono h ?_
  rintro e w' ⟨rfl, n, v', dk, rfl, hF⟩
  refine ⟨rfl, fun j hj => ?_, grownBy_putRow _ _ _ _ _ _, bk_putRow _ hk _ _ _⟩
  have hj2 : j < Lib.nDigits u := by rw [Lib.decDigits_length] at hj; exact hj
  rw [World.cell?_drewN, Lib.row_is_numeral hF j hj]
  have := cell?_putRow (fun (b : UInt8) => Value.int .u8 (b.toNat : Int)) w g 0 _ dk hH (by rw [hF.size, Array.size_replicate]) j (by rw [hF.size]; exact hj2)
  rw [Nat.zero_add] at this
  exact this
/-- noughts behind a numeral -/
theorem dec_ten (d : Nat) (h : 1 ≤ d) : Lib.decDigits (d * 10) = Lib.decDigits d ++ [48] ∧ Lib.nDigits (d * 10) = Lib.nDigits d + 1 := by
  constructor
  · rw [Lib.decDigits, dif_neg (by omega), show d * 10 / 10 = d by omega, show d * 10 % 10 = 0 by omega]
    rfl
  · rw [Lib.nDigits_big (by omega), show d * 10 / 10 = d by omega]
theorem dec_tens (d : Nat) (h : 1 ≤ d) : ∀ j, Lib.decDigits (d * 10 ^ j) = Lib.decDigits d ++ List.replicate j 48 ∧ Lib.nDigits (d * 10 ^ j) = Lib.nDigits d + j
  | 0 => by simp
  | j + 1 => by
    obtain ⟨a, b⟩ := dec_tens d h j
    have hp : 1 ≤ d * 10 ^ j := Nat.mul_pos h (Nat.pow_pos (by decide))
    obtain ⟨c, e⟩ := dec_ten (d * 10 ^ j) hp
    rw [Nat.pow_succ, ← Nat.mul_assoc, c, e, a, b, List.append_assoc, List.replicate_succ']
    exact ⟨rfl, by omega⟩
theorem dec_last (d : Nat) (h : d % 10 ≠ 0) : ∃ hl : Lib.nDigits d - 1 < (Lib.decDigits d).length, ((Lib.decDigits d)[Lib.nDigits d - 1]'hl).toNat ≠ 48 := by
  have hp := Lib.nDigits_pos d
  refine ⟨by rw [Lib.decDigits_length]; omega, ?_⟩
  by_cases c : d < 10
  · have e := Lib.decDigits_one (i := d) c
    have e2 : Lib.nDigits d = 1 := Lib.nDigits_small c
    simp only [e, e2]
    simp only [Nat.sub_self, List.getElem_cons_zero, UInt8.toNat_ofNat']
    omega
  · have e : Lib.decDigits d = Lib.decDigits (d / 10) ++ [UInt8.ofNat (48 + d % 10)] := by rw [Lib.decDigits, dif_neg c]
    have e2 : Lib.nDigits d = Lib.nDigits (d / 10) + 1 := Lib.nDigits_big c
    simp only [e, e2]
    rw [List.getElem_append_right (by rw [Lib.decDigits_length]; omega)]
    simp only [Lib.decDigits_length, Nat.add_sub_cancel, Nat.sub_self, List.getElem_cons_zero, UInt8.toNat_ofNat']
    omega
set_option maxHeartbeats 1000000 in
set_option maxRecDepth 100000 in
theorem setDigits_any (g d j : Nat) (p : Int) (w : World) (T : TypeId) (L : List Value) (hk : Bk w g T L) (hz : ∀ k, k < Lib.nDigits (d * 10 ^ j) → w.cell? ⟨g, k, none⟩ = some (.int .u8 0) ∧ w.frozen? ⟨g, k, none⟩ = false) (h1 : d % 10 ≠ 0) (h2 : d * 10 ^ j < 18446744073709551616) (hp0 : -10000 ≤ p) (hp1 : p ≤ 10000) :
    Calls Tryd.prog 70 #[.slice (some ⟨g, 0, none⟩) 32 32, .int .u64 (d * 10 ^ j : Nat), .int .i64 p, .int .i64 (Lib.nDigits (d * 10 ^ j))] w fun e w' => e = .returned (.tuple #[.int .i64 ((Lib.nDigits d + j : Nat) + p), .int .i64 (Lib.nDigits d)]) ∧
      (∀ k (h : k < (Lib.decDigits d).length), w'.cell? ⟨g, k, none⟩ = some (.int .u8 (((Lib.decDigits d)[k]'h).toNat : Int))) ∧ w.grownBy w' (some g) ∧ ∃ L', Bk w' g T L' ∧ L'.length = L.length := by
  have hd1 : 1 ≤ d := by omega
  obtain ⟨ed, en⟩ := dec_tens d hd1 j
  have hu1 : 1 ≤ d * 10 ^ j := Nat.mul_pos hd1 (Nat.pow_pos (by decide))
  have hn20 := Lib.nDigits_le20 _ h2
  have HF := hd (fmt10_any g 32 (d * 10 ^ j) w T L hk hz hu1 h2)
  have HL := hd (dec_last d h1)
  have hpos := Lib.nDigits_pos d
  have hlen := Lib.decDigits_length d
  have HE := hd ed
  rw [en] at HF hn20 ⊢
  generalize Lib.nDigits d = n at *
  have HLN := hd hlen
  clear hz h1 h2 ed hlen hu1 en hk
  generalize d * 10 ^ j = u at *
  go_enter Tryd.func70, Tryd.ntmps70
  have z1 : ((n : Int) + (j : Int)) ≤ 32 := by omega
  go_wp2_with (go_at_call 52; refine HF.o.mono ?_; rintro e w2 ⟨rfl, hc, hg, hbk⟩)
  have HBK := hd hbk
  clear hbk
  have HC := hd hc
  have HG := hd hg
  clear hc hg HF
  go_wp2
  go_loop [3] (fun v => ∃ k : Nat, k ≤ j ∧ v = .int .i64 ((n + k : Nat) : Int)) (fun v => (intOf v).toNat)
  case atStart => exact ⟨j, Nat.le_refl _, by push_cast; rfl⟩
  case round =>
    obtain ⟨k, hk, rfl⟩ := hrel
    have hpz : (0 : Int) < (n : Int) + (k : Int) := by omega
    by_cases hk0 : k = 0
    · subst hk0
      obtain ⟨hl, hne⟩ := HL.o
      have c0 : w2.cell? ⟨g, n - 1, none⟩ = some (.int .u8 (((Lib.decDigits d)[n - 1]'hl).toNat : Int)) := by
        have := HC.o (n - 1) (by rw [HE.o, List.length_append]; omega)
        rw [this]; congr 3; simp only [HE.o]; rw [List.getElem_append_left hl]
      have hb : ((((Lib.decDigits d)[n - 1]'hl).toNat : Int) == 48) = false := by rw [beq_eq_false_iff_ne]; omega
      generalize (Lib.decDigits d)[n - 1]'hl = c at *
      have e1 : ((n : Int) - 1).toNat = n - 1 := by omega
      have e2 : (n : Int) - 1 = ((n - 1 : Nat) : Int) := by omega
      go_wp2
      go_ret2
      refine ⟨rfl, fun q hq => ?_, HG.o, HBK.o⟩
      rw [HC.o q (by rw [HE.o, List.length_append]; omega)]
      congr 3; simp only [HE.o]; rw [List.getElem_append_left hq]
    · have c0 : w2.cell? ⟨g, n + k - 1, none⟩ = some (.int .u8 48) := by
        have hl : n + k - 1 < (Lib.decDigits u).length := by rw [HE.o, List.length_append, List.length_replicate]; have := HLN.o; omega
        rw [HC.o (n + k - 1) hl]
        congr 2
        simp only [HE.o]
        rw [List.getElem_append_right (by have := HLN.o; omega), List.getElem_replicate]
        rfl
      have e1 : ((n : Int) + (k : Int) - 1).toNat = n + k - 1 := by omega
      have e2 : (n : Int) + (k : Int) - 1 = ((n + k - 1 : Nat) : Int) := by omega
      have hk1 : 1 ≤ k := by omega
      clear hk0
      go_wp2
      go_round
      case rel => exact ⟨k - 1, by omega, by first | (congr 1; omega) | omega⟩
      case measure => simp [intOf]; omega
end Go.Proofs.YtcbggkdginfakaaDoor
