/- weirref29.member over a tree. weirref29.labelsOf and pointOf over a tree. -/
import Derived.Test.YteckfdohgiddgaaGreatDoorJNm
import Derived.Test.YteckfdohgiddgaaGreatDoorJReadA
namespace Go.Proofs.YteckfdohgiddgaaGreatDoor
open Go.RowKit
set_option linter.unusedVariables false
set_option linter.unusedSimpArgs false
open RJ
theorem RJ.bne' {a b : ByteArray} (h : a ≠ b) : (a.toList == b.toList) = false ∧ ¬ a.toList = b.toList := by
  have h2 : ¬ a.toList = b.toList := fun e => h (by rw [ByteArray.toList_eq, ByteArray.toList_eq] at e; exact ByteArray.ext (Array.toList_inj.1 e))
  exact ⟨by rw [beq_eq_false_iff_ne]; exact h2, h2⟩
namespace RJ
/-- an object's keys and parts, by cells, in every world that keeps what w holds -/
theorem obj_cells {P : Nat → Prop} {w : World} {d : Nat} {ks : List ByteArray} {l : List JT} {c : List Value} (h : Js P w (d + 1) (.obj ks l) c) :
    ∃ A m A' m', c = [.int .i64 6, .string ⟨#[]⟩, .slice A ks.length m, .slice A' l.length m'] ∧ ks.length = l.length ∧
      (∀ i (hi : i < ks.length), ∃ g, A = some ⟨g, 0, none⟩ ∧ P g ∧ ∀ W : World, (∀ k, P k → W.heap[k]? = w.heap[k]?) → W.cell? ⟨g, i, none⟩ = some (.string ks[i])) ∧
      ∀ i t, l[i]? = some t → ∃ g x, A' = some ⟨g, 0, none⟩ ∧ P g ∧ Js P w d t x ∧ ∀ W : World, (∀ k, P k → W.heap[k]? = w.heap[k]?) → ∀ j u, x[j]? = some u → W.cell? ⟨g, i * 4 + j, none⟩ = some u := by
  obtain ⟨K, D, cs, rfl, hk, hK, hr, hl, ht⟩ := h
  obtain ⟨A', m', rfl, h2⟩ := kids_cells hr hl ht
  obtain ⟨A, m, rfl, h1⟩ := hK.cells
  refine ⟨A, m, A', m', rfl, hk, fun i hi => ?_, h2⟩
  exact h1 i (.string ks[i]) (by rw [cellsS, List.getElem?_map, List.getElem?_eq_getElem hi]; rfl)
end RJ
theorem RJ.st4_far {W : World} {g h : Nat} {e : TypeId} {L a' b' c' d' : _} (hk : Bk W g e L) (hne : g ≠ h) :
    Bk ((((W.setCell ⟨h, 0, none⟩ a').setCell ⟨h, 1, none⟩ b').setCell ⟨h, 2, none⟩ c').setCell ⟨h, 3, none⟩ d') g e L :=
  (((hk.set_far hne a').set_far hne b').set_far hne c').set_far hne d'
set_option maxRecDepth 100000 in
set_option maxHeartbeats 4000000 in
theorem member_any {P : Nat → Prop} {w : World} {d : Nat} {ks : List ByteArray} {l : List JT} {k : Int} {s : ByteArray} {A A' : Option Addr} {n m n' m' : Nat} (hJ : Js P w (d + 1) (.obj ks l) [.int .i64 k, .string s, .slice A n m, .slice A' n' m']) (hPw : ∀ k, P k → k < w.heap.size)
    (key : ByteArray) (i0 : Nat) (hi0 : i0 < ks.length) (hkey : ks[i0] = key) (huniq : ∀ j (hj : j < ks.length), j ≠ i0 → ks[j] ≠ key) (t : JT) (ht : l[i0]? = some t) (hn : ks.length ≤ 1099511627776) (W : World) (hW : Below w.heap.size w W) :
    Calls Tryz.prog 36 #[.agg #[.int .i64 k, .string s, .slice A n m, .slice A' n' m'], .string key] W fun e w' => ∃ k2 s2 A2 n2 m2 A3 n3 m3, e = .returned (.tuple #[.agg #[.int .i64 k2, .string s2, .slice A2 n2 m2, .slice A3 n3 m3], .bool true]) ∧ Js P w d t [.int .i64 k2, .string s2, .slice A2 n2 m2, .slice A3 n3 m3] ∧ Below W.heap.size W w' := by
  obtain ⟨Ao, mo, Ao', mo', e, hkl, hks, hkid⟩ := obj_cells hJ
  simp only [List.cons.injEq, Value.int.injEq, Value.string.injEq, Value.slice.injEq, and_true, true_and] at e
  obtain ⟨rfl, rfl, ⟨rfl, rfl, rfl⟩, rfl, rfl, rfl⟩ := e
  obtain ⟨g', x, rfl, hPg, hx, hxc⟩ := hkid i0 t ht
  obtain ⟨k2, s2, A2, n2, m2, A3, n3, m3, rfl⟩ := hx.shape
  obtain ⟨gk, rfl, hPk, _⟩ := hks i0 hi0
  have HKY := hd (show ∀ W', Below w.heap.size w W' → ∀ i (hi : i < ks.length), W'.cell? ⟨gk, i, none⟩ = some (.string ks[i]) from fun W' hb i hi => by
    obtain ⟨g, e, _, h⟩ := hks i hi
    simp only [Option.some.injEq, Addr.mk.injEq, and_true] at e
    rw [e]
    exact h W' (fun k hk => hb.block k (hPw k hk)))
  have HKD := hd (show ∀ W', Below w.heap.size w W' → W'.cell? ⟨g', i0 * 4, none⟩ = some (.int .i64 k2) ∧ W'.cell? ⟨g', i0 * 4 + 1, none⟩ = some (.string s2) ∧ W'.cell? ⟨g', i0 * 4 + 2, none⟩ = some (.slice A2 n2 m2) ∧ W'.cell? ⟨g', i0 * 4 + 3, none⟩ = some (.slice A3 n3 m3) from fun W' hb => by
    have h := hxc W' (fun k hk => hb.block k (hPw k hk))
    exact ⟨h 0 _ rfl, h 1 _ rfl, h 2 _ rfl, h 3 _ rfl⟩)
  have HXT := hd hx
  have HKEY := hd hkey
  have HUN := hd huniq
  have HW := hd hW
  have HLK := hd hkl
  have hi0l : i0 < l.length := by omega
  obtain ⟨W2, hW2⟩ : ∃ W2, W2 = ((W.alloc (.cells #[.int .i64 6, .string ⟨#[]⟩, .slice (some ⟨gk, 0, none⟩) ks.length m, .slice (some ⟨g', 0, none⟩) l.length m'] 80)).alloc (.cells #[.int .i64 0, .string ⟨#[]⟩, .slice none 0 0, .slice none 0 0] 80)).alloc (.cells #[.int .i64 0, .string ⟨#[]⟩, .slice none 0 0, .slice none 0 0] 80) := ⟨_, rfl⟩
  have HB2 : Hd (Below W.heap.size W W2) := hd (by rw [hW2]; exact (((Below.refl _ _).alloc (Nat.le_refl _) _).alloc (by simp) _).alloc (by simp; omega) _)
  have HJ0 : Hd (Bk W2 W.heap.size 80 [.int .i64 6, .string ⟨#[]⟩, .slice (some ⟨gk, 0, none⟩) ks.length m, .slice (some ⟨g', 0, none⟩) l.length m']) := hd (by rw [hW2]; exact ((RJ.mk_bk _ _ _ _ _).below ((Below.refl _ _).alloc (Nat.le_refl _) _)).below ((Below.refl _ _).alloc (Nat.le_refl _) _))
  have HJ1 : Hd (Bk W2 (W.heap.size + 1) 80 [.int .i64 0, .string ⟨#[]⟩, .slice none 0 0, .slice none 0 0]) := hd (by
    rw [hW2]
    have := (RJ.mk_bk (W.alloc (.cells #[.int .i64 6, .string ⟨#[]⟩, .slice (some ⟨gk, 0, none⟩) ks.length m, .slice (some ⟨g', 0, none⟩) l.length m'] 80)) (.int .i64 0) (.string ⟨#[]⟩) (.slice none 0 0) (.slice none 0 0))
    rw [show (W.alloc (.cells #[.int .i64 6, .string ⟨#[]⟩, .slice (some ⟨gk, 0, none⟩) ks.length m, .slice (some ⟨g', 0, none⟩) l.length m'] 80)).heap.size = W.heap.size + 1 by simp] at this
    exact this.below ((Below.refl _ _).alloc (Nat.le_refl _) _))
  have HJ2 : Hd (Bk W2 (W.heap.size + 2) 80 [.int .i64 0, .string ⟨#[]⟩, .slice none 0 0, .slice none 0 0]) := hd (by
    rw [hW2]
    have := (RJ.mk_bk ((W.alloc (.cells #[.int .i64 6, .string ⟨#[]⟩, .slice (some ⟨gk, 0, none⟩) ks.length m, .slice (some ⟨g', 0, none⟩) l.length m'] 80)).alloc (.cells #[.int .i64 0, .string ⟨#[]⟩, .slice none 0 0, .slice none 0 0] 80)) (.int .i64 0) (.string ⟨#[]⟩) (.slice none 0 0) (.slice none 0 0))
    rw [show ((W.alloc (.cells #[.int .i64 6, .string ⟨#[]⟩, .slice (some ⟨gk, 0, none⟩) ks.length m, .slice (some ⟨g', 0, none⟩) l.length m'] 80)).alloc (.cells #[.int .i64 0, .string ⟨#[]⟩, .slice none 0 0, .slice none 0 0] 80)).heap.size = W.heap.size + 2 by simp] at this
    exact this)
  clear hJ hks hkid hxc hx hkey huniq hW hPg hPk hPw hkl
  go_enter Tryz.func36, Tryz.ntmps36
  go_wp2_with fail
  rw [← hW2]
  clear hW2
  go_loopw [6, 13] (fun x6 x13 wr => ∃ i : Nat, i ≤ ks.length ∧ x13 = .int .i64 i ∧ Hd (Below W.heap.size W wr) ∧ Hd (Bk wr W.heap.size 80 [.int .i64 6, .string ⟨#[]⟩, .slice (some ⟨gk, 0, none⟩) ks.length m, .slice (some ⟨g', 0, none⟩) l.length m']) ∧ Hd (Bk wr (W.heap.size + 1) 80 [.int .i64 0, .string ⟨#[]⟩, .slice none 0 0, .slice none 0 0]) ∧
    ((i ≤ i0 ∧ x6 = .int .i64 0 ∧ Hd (Bk wr (W.heap.size + 1 + 1) 80 [.int .i64 0, .string ⟨#[]⟩, .slice none 0 0, .slice none 0 0])) ∨ (i0 < i ∧ x6 = .int .i64 1 ∧ Hd (Bk wr (W.heap.size + 1 + 1) 80 [.int .i64 k2, .string s2, .slice A2 n2 m2, .slice A3 n3 m3])))) (fun _ x _ => ks.length - (intOf x).toNat)
  case atStart => exact ⟨0, Nat.zero_le _, rfl, HB2, HJ0, HJ1, .inl ⟨Nat.zero_le _, rfl, HJ2⟩⟩
  case round =>
    obtain ⟨i, hi, rfl, HB, HA, HZ, hcase⟩ := hrel
    clear HB2 HJ0 HJ1 HJ2
    have HBw := hd (show Below w.heap.size w wr from HW.o.trans (HB.o.mono HW.o.size))
    have a0 := HA.o.cell 0 (by simp)
    have a2 := HA.o.cell 2 (by simp)
    have a3 := HA.o.cell 3 (by simp)
    simp only [List.getElem_cons_succ, List.getElem_cons_zero] at a0 a2 a3
    by_cases hlt : i < ks.length
    · have hltI : (i : Int) < (ks.length : Int) := by omega
      have hil : (i : Int) < (l.length : Int) := by have := HLK.o; omega
      have ky := HKY.o _ HBw.o i hlt
      rcases hcase with ⟨h1, rfl, H2⟩ | ⟨h1, rfl, H2⟩
      · by_cases he : i = i0
        · subst he
          rw [HKEY.o] at ky
          obtain ⟨q0, q1, q2, q3⟩ := HKD.o _ HBw.o
          have f := H2.o.frozen
          have z0 := H2.o.cell 0 (by simp)
          have z1 := H2.o.cell 1 (by simp)
          have z2 := H2.o.cell 2 (by simp)
          have z3 := H2.o.cell 3 (by simp)
          go_wp2
          go_roundw
          case rel => exact ⟨i + 1, by omega, by go_num, hd ((HB.o.trans (RJ.st4_ex _ _ _ _ (by omega)))), hd (RJ.st4_far HA.o (by omega)), hd (RJ.st4_far HZ.o (by omega)), .inr ⟨by omega, rfl, hd (RJ.st4 H2.o)⟩⟩
          case measure => simp [intOf]; omega
        · have hne := HUN.o i hlt he
          obtain ⟨tne, tne2⟩ := RJ.bne' hne
          go_wp2
          go_roundw
          case rel => exact ⟨i + 1, by omega, by go_num, HB, HA, HZ, .inl ⟨by omega, rfl, H2⟩⟩
          case measure => simp [intOf]; omega
      · have hne := HUN.o i hlt (by omega)
        obtain ⟨tne, tne2⟩ := RJ.bne' hne
        go_wp2
        go_roundw
        case rel => exact ⟨i + 1, by omega, by go_num, HB, HA, HZ, .inr ⟨by omega, rfl, H2⟩⟩
        case measure => simp [intOf]; omega
    · obtain rfl : i = ks.length := by omega
      rcases hcase with ⟨h1, _, _⟩ | ⟨h1, rfl, H2⟩
      · omega
      · have f := HZ.o.frozen
        have y0 := HZ.o.cell 0 (by simp)
        have y1 := HZ.o.cell 1 (by simp)
        have y2 := HZ.o.cell 2 (by simp)
        have y3 := HZ.o.cell 3 (by simp)
        have z0 := H2.o.cell 0 (by simp)
        have z1 := H2.o.cell 1 (by simp)
        have z2 := H2.o.cell 2 (by simp)
        have z3 := H2.o.cell 3 (by simp)
        simp only [List.getElem_cons_succ, List.getElem_cons_zero] at y0 y1 y2 y3 z0 z1 z2 z3
        go_wp2_with fail
        go_region
        go_wp2_with fail
        have HZ2 : Hd (Bk (((((wr.setCell ⟨W.heap.size + 1, 0, none⟩ (.int .i64 k2)).setCell ⟨W.heap.size + 1, 1, none⟩ (.string s2)).setCell ⟨W.heap.size + 1, 2, none⟩ (.slice A2 n2 m2)).setCell ⟨W.heap.size + 1, 3, none⟩ (.slice A3 n3 m3)).drew) (W.heap.size + 1) 80 [.int .i64 k2, .string s2, .slice A2 n2 m2, .slice A3 n3 m3]) := hd (RJ.st4 HZ.o)
        refine bodyPost_ret (RJ.res41 rfl _ rfl HZ2.o) rfl ?_
        exact ⟨_, _, _, _, _, _, _, _, rfl, HXT.o, (HB.o.trans (RJ.st4_ex _ _ _ _ (by omega))).drew⟩
end Go.Proofs.YteckfdohgiddgaaGreatDoor
namespace Go.Proofs.YteckfdohgiddgaaGreatDoor
open Go.RowKit
set_option linter.unusedVariables false
set_option linter.unusedSimpArgs false
open RJ
namespace RJ
/-- labels as they are read back -/
def fxl (l : List Lb) : List Lb := l.map fun x => (fx x.1, fx x.2)
theorem fxl_len (l : List Lb) : (fxl l).length = l.length := by simp [fxl]
theorem fxl_take (l : List Lb) (i : Nat) (h : i < l.length) : (fxl l).take (i + 1) = (fxl l).take i ++ [(fx l[i].1, fx l[i].2)] := by
  rw [List.take_succ_eq_append_getElem (by rw [fxl_len]; exact h)]
  simp [fxl]
theorem st_cells {P : Nat → Prop} {w : World} {d : Nat} {l : List Lb} {c : List Value} (h : Js P w (d + 2) (stT l) c) :
    ∃ A m A' m', c = [.int .i64 6, .string ⟨#[]⟩, .slice A l.length m, .slice A' l.length m'] ∧
      (∀ i (hi : i < l.length), ∃ g, A = some ⟨g, 0, none⟩ ∧ P g ∧ ∀ W : World, (∀ k, P k → W.heap[k]? = w.heap[k]?) → W.cell? ⟨g, i, none⟩ = some (.string (fx l[i].1))) ∧
      (∀ i (hi : i < l.length), ∃ g, A' = some ⟨g, 0, none⟩ ∧ P g ∧ ∀ W : World, (∀ k, P k → W.heap[k]? = w.heap[k]?) → W.cell? ⟨g, i * 4, none⟩ = some (.int .i64 4) ∧ W.cell? ⟨g, i * 4 + 1, none⟩ = some (.string (fx l[i].2)) ∧ W.cell? ⟨g, i * 4 + 2, none⟩ = some (.slice none 0 0) ∧ W.cell? ⟨g, i * 4 + 3, none⟩ = some (.slice none 0 0)) := by
  obtain ⟨A, m, A', m', rfl, hl, h1, h2⟩ := obj_cells h
  refine ⟨A, m, A', m', by simp [List.length_map], fun i hi => ?_, fun i hi => ?_⟩
  · obtain ⟨g, e, hP, hc⟩ := h1 i (by simpa using hi)
    exact ⟨g, e, hP, fun W hW => by rw [hc W hW]; simp⟩
  · obtain ⟨g, x, e, hP, hJ, hc⟩ := h2 i (.txt (fx l[i].2)) (by rw [List.getElem?_map, List.getElem?_eq_getElem hi]; rfl)
    have hx : x = [.int .i64 4, .string (fx l[i].2), .slice none 0 0, .slice none 0 0] := hJ
    subst hx
    exact ⟨g, e, hP, fun W hW => ⟨hc W hW 0 _ rfl, hc W hW 1 _ rfl, hc W hW 2 _ rfl, hc W hW 3 _ rfl⟩⟩
end RJ
set_option maxHeartbeats 4000000 in
theorem labelsOf_any {P : Nat → Prop} {w : World} {d : Nat} {l : List Lb} {k : Int} {s : ByteArray} {A A' : Option Addr} {n m n' m' : Nat} (hJ : Js P w (d + 2) (stT l) [.int .i64 k, .string s, .slice A n m, .slice A' n' m']) (hPw : ∀ k, P k → k < w.heap.size)
    (hl : l.length ≤ 1099511627776) (W : World) (hW : Below w.heap.size w W) :
    Calls Tryz.prog 82 #[.agg #[.int .i64 k, .string s, .slice A n m, .slice A' n' m']] W fun e w' => ∃ v, e = .returned (.tuple #[v, .bool true]) ∧ w'.ownsRow W.heap.size 57 2 v l.length (cellsL (fxl l)) ∧ Below W.heap.size W w' := by
  obtain ⟨Ao, mo, Ao', mo', e, hks, hkid⟩ := st_cells hJ
  simp only [List.cons.injEq, Value.int.injEq, Value.string.injEq, Value.slice.injEq, and_true, true_and] at e
  obtain ⟨rfl, rfl, ⟨rfl, rfl, rfl⟩, rfl, rfl, rfl⟩ := e
  have HKS := hd hks
  have HKD := hd hkid
  have HP := hd (show ∀ W', Below w.heap.size w W' → ∀ k, P k → W'.heap[k]? = w.heap[k]? from fun W' hb k hk => hb.block k (hPw k hk))
  have HW := hd hW
  obtain ⟨W2, hW2⟩ : ∃ W2, W2 = W.alloc (.cells #[.int .i64 6, .string ⟨#[]⟩, .slice A l.length m, .slice A' l.length m'] 80) := ⟨_, rfl⟩
  have HB2 : Hd (Below W.heap.size W W2) := hd (by rw [hW2]; exact (Below.refl _ _).alloc (Nat.le_refl _) _)
  have HZ2 : Hd (W2.heap.size = W.heap.size + 1) := hd (by rw [hW2]; simp)
  have HJ0 : Hd (Bk W2 W.heap.size 80 [.int .i64 6, .string ⟨#[]⟩, .slice A l.length m, .slice A' l.length m']) := hd (by rw [hW2]; exact RJ.mk_bk _ _ _ _ _)
  clear hJ hks hkid hPw hW
  go_enter Tryz.func82, Tryz.ntmps82
  go_wp2_with fail
  rw [← hW2]
  clear hW2
  go_loopw [4, 5, 10] (fun o x9 x wr => ∃ i : Nat, i ≤ l.length ∧ x = .int .i64 i ∧ Hd (wr.ownsRow (W.heap.size + 1) 57 2 o i (cellsL ((fxl l).take i))) ∧ Hd (Below (W.heap.size + 1) W2 wr)) (fun _ _ x _ => l.length - (intOf x).toNat)
  case atStart => exact ⟨0, Nat.zero_le _, rfl, hd ⟨rfl, .inl ⟨rfl, rfl⟩⟩, hd (Below.refl _ _)⟩
  case round =>
    obtain ⟨i, hi, rfl, HO, HB⟩ := hrel
    have HBW := hd (HB2.o.trans (HB.o.mono (by omega)))
    have HBw := hd (show Below w.heap.size w wr from HW.o.trans (HBW.o.mono HW.o.size))
    have HA := hd (show Bk wr W.heap.size 80 [.int .i64 6, .string ⟨#[]⟩, .slice A l.length m, .slice A' l.length m'] from (HB.o.block _ (by omega)).trans HJ0.o)
    have a0 := HA.o.cell 0 (by simp)
    have a2 := HA.o.cell 2 (by simp)
    have a3 := HA.o.cell 3 (by simp)
    simp only [List.getElem_cons_succ, List.getElem_cons_zero] at a0 a2 a3
    by_cases hlt : i < l.length
    · have hltI : (i : Int) < (l.length : Int) := by omega
      obtain ⟨g, rfl, _, hk⟩ := HKS.o i hlt
      obtain ⟨g', rfl, _, hv⟩ := HKD.o i hlt
      have ky := hk wr (HP.o wr HBw.o)
      obtain ⟨v0, v1, v2, v3⟩ := hv wr (HP.o wr HBw.o)
      have HT := hd (fxl_take l i hlt)
      have HSZ := HBW.o.size
      have HZ1 : W.heap.size + 1 ≤ wr.heap.size := by have := HB.o.size; have := HZ2.o; omega
      obtain ⟨V, hV⟩ : ∃ V, V = fx l[i].1 := ⟨_, rfl⟩
      obtain ⟨U, hU⟩ : ∃ U, U = fx l[i].2 := ⟨_, rfl⟩
      rw [← hV] at ky HT
      rw [← hU] at v1 HT
      clear hk hv hV hU
      go_wp2_with (at_builtin; refine wpList_app_litH 52 57 (.agg #[.string ⟨#[]⟩, .string ⟨#[]⟩]) 2 32 Tryz.underlying52 info_label rfl (by decide) rfl _ _ rfl (W.heap.size + 1) u4 i (cellsL ((fxl l).take i)) _ #[.string V, .string U] 1 _ rfl rfl rfl HO.o rfl (by simp [Value.oneCell']) (by omega) (by omega) (by first | omega | (simp; omega)) ?_)
      intro v3 w3 ho3 hg3
      have HB3 := hd (HB.o.grown hg3 (by have := HZ2.o; omega) (fun k hk => (HO.o.lt k hk).1))
      have HO3 : Hd (w3.ownsRow (W.heap.size + 1) 57 2 v3 (i + 1) (cellsL ((fxl l).take (i + 1)))) := hd <| by
        rw [HT.o, cellsL_app]
        simpa [cellsL] using ho3
      clear hg3 ho3
      go_wp2
      go_roundw
      case rel => exact ⟨i + 1, by omega, by go_num, HO3, HB3⟩
      case measure => simp [intOf]; omega
    · obtain rfl : i = l.length := by omega
      have a0n := fun n : Nat => show (wr.drewN n).cell? ⟨W.heap.size, 0, none⟩ = some (.int .i64 6) from a0
      go_wp2_with fail
      go_quiet (fail)
      go_wp2
      have HO2 := hd (own_mono HO.o (Nat.le_succ W.heap.size))
      have e : (fxl l).take l.length = fxl l := by rw [← fxl_len l, List.take_length]
      rw [e] at HO2
      go_ret2
      exact ⟨_, rfl, own_below HO2.o (bel_drew (Below.refl _ _) _), bel_drew HBW.o _⟩
/-- a point's parts in memory -/
theorem RJ.pt_cells {P : Nat → Prop} {w : World} {d : Nat} {t : Int} {f : Nat} {c : List Value} (h : Js P w (d + 2) (ptT t f) c) :
    ∃ g m, c = [.int .i64 5, .string ⟨#[]⟩, .slice none 0 0, .slice (some ⟨g, 0, none⟩) 2 m] ∧ P g ∧ ∀ W : World, (∀ k, P k → W.heap[k]? = w.heap[k]?) →
      W.cell? ⟨g, 0, none⟩ = some (.int .i64 3) ∧ W.cell? ⟨g, 1, none⟩ = some (.string (str (T.sec t))) ∧ W.cell? ⟨g, 4, none⟩ = some (.int .i64 4) ∧ W.cell? ⟨g, 5, none⟩ = some (.string (str (FS.tell f))) := by
  obtain ⟨D, cs, rfl, hr, hl, ht⟩ := h
  obtain ⟨A, m, rfl, hk⟩ := kids_cells hr hl ht
  obtain ⟨g, x, rfl, hP, hJ, hc⟩ := hk 0 _ rfl
  obtain ⟨g', x', e, _, hJ', hc'⟩ := hk 1 _ rfl
  simp only [Option.some.injEq, Addr.mk.injEq, and_true] at e
  subst e
  have hx : x = [.int .i64 3, .string (str (T.sec t)), .slice none 0 0, .slice none 0 0] := hJ
  have hx' : x' = [.int .i64 4, .string (str (FS.tell f)), .slice none 0 0, .slice none 0 0] := hJ'
  subst hx hx'
  exact ⟨g, m, rfl, hP, fun W hW => ⟨hc W hW 0 _ rfl, hc W hW 1 _ rfl, hc' W hW 0 _ rfl, hc' W hW 1 _ rfl⟩⟩
end Go.Proofs.YteckfdohgiddgaaGreatDoor
