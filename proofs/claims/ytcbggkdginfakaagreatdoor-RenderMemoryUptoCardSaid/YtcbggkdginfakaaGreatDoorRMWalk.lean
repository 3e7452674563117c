/- RenderMemory: the law's walk. -/
import Derived.Test.YtcbggkdginfakaaGreatDoorRRW
import Derived.Test.YtcbggkdginfakaaGreatDoorRMFail
import Derived.Test.YtcbggkdginfakaaGreatDoorRMRows
import Derived.Test.YtcbggkdginfakaaGreatDoorRMApp0
import Derived.Test.YtcbggkdginfakaaGreatDoorRMLen
import Derived.Test.YtcbggkdginfakaaGreatDoorRInv
import Derived.Deep.DeepCutAuto
namespace Go.Proofs.YtcbggkdginfakaaGreatDoor
open Go.RowKit Go.ChangeShapes Go.WideShapes Go.Deep
set_option linter.unusedVariables false
set_option linter.unusedSimpArgs false
namespace RM
/-- what a call of the program's writers answers: a row of its own -/
def Wr (f : FuncId) (a : Array Value) (w : World) (q : List UInt8) : Prop :=
  ∀ W, Below w.heap.size w W → Calls Tryz.prog f a W fun e w' => (∃ v m, e = .returned v ∧ w'.ownsRow W.heap.size 5 1 v m (cellsB q)) ∧ Below W.heap.size W w'
/-- what a call of the reference's writers answers: a row that reads so -/
def Rd (f : FuncId) (a : Array Value) (w : World) (q : List UInt8) : Prop :=
  ∀ W, Below w.heap.size w W → Calls Tryz.prog f a W fun e w' => (∃ v m, e = .returned v ∧ IsL 1 w' v m (cellsB q)) ∧ Below W.heap.size W w'
def V11 (rv vl vs : Value) (q0 q1 q2 q3 : List UInt8) (B : Nat) : Nat → Value → World → Prop
  | 0, v, _ => v = rv
  | 1, v, w => ∃ m, IsL 1 w v m (cellsB q0)
  | 2, v, _ => v = .string ⟨q0.toArray⟩
  | 3, v, _ => v = vl
  | 4, v, w => ∃ m, IsL 1 w v m (cellsB q1)
  | 5, v, _ => v = .string ⟨q1.toArray⟩
  | 6, v, _ => v = vs
  | 7, v, w => ∃ m, IsL 1 w v m (cellsB q2)
  | 8, v, _ => v = .string ⟨q2.toArray⟩
  | 9, v, w => ∃ m, IsL 1 w v m (cellsB q3)
  | 10, v, _ => v = .string ⟨q3.toArray⟩
  | 11, v, _ => v = .agg #[.string ⟨q0.toArray⟩, .string ⟨q1.toArray⟩, .string ⟨q2.toArray⟩, .string ⟨q3.toArray⟩]
  | 12, v, w => ∃ g C, v = .pointer (some ⟨g, 0, none⟩) ∧ B ≤ g ∧ C.length = 4 ∧ Bk w g 42 C
  | _, _, _ => True
theorem V11.mono {rv vl vs : Value} {q0 q1 q2 q3 : List UInt8} {B : Nat} : ∀ (i : Nat) (v : Value) (w w' : World), V11 rv vl vs q0 q1 q2 q3 B i v w → Below w.heap.size w w' → V11 rv vl vs q0 q1 q2 q3 B i v w'
  | 0, v, w, w', h, hb => h
  | 1, v, w, w', ⟨m, h⟩, hb => ⟨m, h.below hb⟩
  | 2, v, w, w', h, hb => h
  | 3, v, w, w', h, hb => h
  | 4, v, w, w', ⟨m, h⟩, hb => ⟨m, h.below hb⟩
  | 5, v, w, w', h, hb => h
  | 6, v, w, w', h, hb => h
  | 7, v, w, w', ⟨m, h⟩, hb => ⟨m, h.below hb⟩
  | 8, v, w, w', h, hb => h
  | 9, v, w, w', ⟨m, h⟩, hb => ⟨m, h.below hb⟩
  | 10, v, w, w', h, hb => h
  | 11, v, w, w', h, hb => h
  | 12, v, w, w', ⟨g, C, h1, h2, h3, h4⟩, hb => ⟨g, C, h1, h2, h3, h4.below hb⟩
  | _ + 13, v, w, w', _, _ => trivial
-- the facts of the guarded regions (printed by mkrm52.py)
def V52 (rv vl vs : Value) (q0 q1 q2 : List UInt8) (g : Nat) : Nat → Value → World → Prop
  | 0, v, _ => v = rv
  | 1, v, w => ∃ m, IsL 1 w v m (cellsB q0)
  | 2, v, _ => v = .string ⟨q0.toArray⟩
  | 3, v, _ => v = .pointer (some ⟨g, 0, none⟩)
  | 4, v, _ => v = .string ⟨q0.toArray⟩
  | 5, v, _ => v = .bool false
  | 6, v, _ => v = .bool false
  | 7, v, _ => v = vl
  | 8, v, w => ∃ m, IsL 1 w v m (cellsB q1)
  | 9, v, _ => v = .string ⟨q1.toArray⟩
  | 10, v, _ => v = .pointer (some ⟨g, 1, none⟩)
  | 11, v, _ => v = .string ⟨q1.toArray⟩
  | 12, v, _ => v = .bool false
  | 13, v, _ => v = .bool false
  | 14, v, _ => v = .bool false
  | 15, v, _ => v = vs
  | 16, v, w => ∃ m, IsL 1 w v m (cellsB q2)
  | 17, v, _ => v = .string ⟨q2.toArray⟩
  | 18, v, _ => v = .pointer (some ⟨g, 2, none⟩)
  | 19, v, _ => v = .string ⟨q2.toArray⟩
  | 20, v, _ => v = .bool false
  | 21, v, _ => v = .bool false
  | _, _, _ => True
theorem V52.mono {rv vl vs : Value} {q0 q1 q2 : List UInt8} {g : Nat} : ∀ (i : Nat) (v : Value) (w w' : World), V52 rv vl vs q0 q1 q2 g i v w → Below w.heap.size w w' → V52 rv vl vs q0 q1 q2 g i v w'
  | 0, v, w, w', h, hb => h
  | 1, v, w, w', ⟨m, h⟩, hb => ⟨m, h.below hb⟩
  | 2, v, w, w', h, hb => h
  | 3, v, w, w', h, hb => h
  | 4, v, w, w', h, hb => h
  | 5, v, w, w', h, hb => h
  | 6, v, w, w', h, hb => h
  | 7, v, w, w', h, hb => h
  | 8, v, w, w', ⟨m, h⟩, hb => ⟨m, h.below hb⟩
  | 9, v, w, w', h, hb => h
  | 10, v, w, w', h, hb => h
  | 11, v, w, w', h, hb => h
  | 12, v, w, w', h, hb => h
  | 13, v, w, w', h, hb => h
  | 14, v, w, w', h, hb => h
  | 15, v, w, w', h, hb => h
  | 16, v, w, w', ⟨m, h⟩, hb => ⟨m, h.below hb⟩
  | 17, v, w, w', h, hb => h
  | 18, v, w, w', h, hb => h
  | 19, v, w, w', h, hb => h
  | 20, v, w, w', h, hb => h
  | 21, v, w, w', h, hb => h
  | _ + 22, v, w, w', _, _ => trivial
def V54 (rv vl vs : Value) (q0 q1 q2 : List UInt8) (g : Nat) : Nat → Value → World → Prop
  | 0, v, _ => v = rv
  | 1, v, w => ∃ m, IsL 1 w v m (cellsB q0)
  | 2, v, _ => v = .string ⟨q0.toArray⟩
  | 3, v, _ => v = .pointer (some ⟨g, 0, none⟩)
  | 4, v, _ => v = .string ⟨q0.toArray⟩
  | 5, v, _ => v = .bool true
  | 6, v, _ => v = .bool true
  | 7, v, _ => v = vl
  | 8, v, w => ∃ m, IsL 1 w v m (cellsB q1)
  | 9, v, _ => v = .string ⟨q1.toArray⟩
  | 10, v, _ => v = .pointer (some ⟨g, 1, none⟩)
  | 11, v, _ => v = .string ⟨q1.toArray⟩
  | 12, v, _ => v = .bool true
  | 13, v, _ => v = .bool true
  | 14, v, _ => v = .bool true
  | 15, v, _ => v = vs
  | 16, v, w => ∃ m, IsL 1 w v m (cellsB q2)
  | 17, v, _ => v = .string ⟨q2.toArray⟩
  | 18, v, _ => v = .pointer (some ⟨g, 2, none⟩)
  | 19, v, _ => v = .string ⟨q2.toArray⟩
  | 20, v, _ => v = .bool true
  | 21, v, _ => v = .bool true
  | 22, v, _ => v = .bool true
  | _, _, _ => True
theorem V54.mono {rv vl vs : Value} {q0 q1 q2 : List UInt8} {g : Nat} : ∀ (i : Nat) (v : Value) (w w' : World), V54 rv vl vs q0 q1 q2 g i v w → Below w.heap.size w w' → V54 rv vl vs q0 q1 q2 g i v w'
  | 0, v, w, w', h, hb => h
  | 1, v, w, w', ⟨m, h⟩, hb => ⟨m, h.below hb⟩
  | 2, v, w, w', h, hb => h
  | 3, v, w, w', h, hb => h
  | 4, v, w, w', h, hb => h
  | 5, v, w, w', h, hb => h
  | 6, v, w, w', h, hb => h
  | 7, v, w, w', h, hb => h
  | 8, v, w, w', ⟨m, h⟩, hb => ⟨m, h.below hb⟩
  | 9, v, w, w', h, hb => h
  | 10, v, w, w', h, hb => h
  | 11, v, w, w', h, hb => h
  | 12, v, w, w', h, hb => h
  | 13, v, w, w', h, hb => h
  | 14, v, w, w', h, hb => h
  | 15, v, w, w', h, hb => h
  | 16, v, w, w', ⟨m, h⟩, hb => ⟨m, h.below hb⟩
  | 17, v, w, w', h, hb => h
  | 18, v, w, w', h, hb => h
  | 19, v, w, w', h, hb => h
  | 20, v, w, w', h, hb => h
  | 21, v, w, w', h, hb => h
  | 22, v, w, w', h, hb => h
  | _ + 23, v, w, w', _, _ => trivial
-- end of the facts
end RM
set_option maxRecDepth 100000 in
set_option maxHeartbeats 4000000 in
theorem rmem_walk (r : RS.Res) (w : World) (hL : r.Lo w) (hOk : RS.tot r ≤ 1048576 → r.Ok w) (hT : Tbl w) (hP : Pow w.heap.size w)
    (nA : Option Addr) (nc : Nat) (l : List ByteArray) (hl : IsL 1 w (.slice nA l.length nc) l.length (cellsS l)) (hs : ∀ x ∈ l, x.size ≤ 1048576) (hn : l.length ≤ 1048576)
    (sA : Option Addr) (sc : Nat) (S : List (List Lb)) (hS : IsLbss w (.slice sA S.length sc) S) (hSm : Sm S) (hSn : S.length ≤ 1048576) (hSt : R.tot S ≤ 1048576) :
    Calls Tryz.prog 4 #[r.val, .slice nA l.length nc, .slice sA S.length sc] w fun e w' => e = .returned (.bool true) ∧ Below w.heap.size w w' := by
  obtain ⟨W, hW⟩ : ∃ W, W = w.alloc (.cells r.cells.toArray 26) := ⟨_, rfl⟩
  have HBW : Hd (Below w.heap.size w W) := hd (by rw [hW]; exact (Below.refl _ _).alloc (Nat.le_refl _) _)
  have hWz : W.heap.size = w.heap.size + 1 := by rw [hW]; simp
  have HBX : Hd (∀ W', Below W.heap.size W W' → ∀ j (hj : j < 6), W'.cell? ⟨w.heap.size, j, none⟩ = some (r.cells[j]'hj)) := hd fun W' h j hj => by
    rw [h.cell (p := ⟨w.heap.size, j, none⟩) (show w.heap.size < W.heap.size by omega), hW, World.cell?_alloc_mark, ← Array.getElem?_toList, List.getElem?_eq_getElem hj]
  have HBw : Hd (∀ W', Below W.heap.size W W' → Below w.heap.size w W') := hd fun W' hb => HBW.o.trans (hb.mono (by omega))
  obtain ⟨q0, hq0⟩ : ∃ q, q = RS.bytes r := ⟨_, rfl⟩
  obtain ⟨q1, hq1⟩ : ∃ q, q = R.ans (l.map R.t) := ⟨_, rfl⟩
  obtain ⟨q2, hq2⟩ : ∃ q, q = R.ans (S.map R.st) := ⟨_, rfl⟩
  obtain ⟨q3, hq3⟩ : ∃ q, q = T.ans [101, 120, 101, 99, 117, 116, 105, 111, 110] 240 3 := ⟨_, rfl⟩
  have W0 : RS.tot r ≤ 1048576 → Hd (RM.Wr 10 #[r.val] W q0) := fun h => hd fun W' hb => by rw [hq0]; exact res_own r W' ((hOk h).below (HBw.o W' hb))
  have R0 : RS.tot r ≤ 1048576 → Hd (RM.Rd 13 #[r.val] W q0) := fun h => hd fun W' hb => by rw [hq0]; exact refres_any r W' ((hOk h).below (HBw.o W' hb))
  have W1 : Hd (RM.Wr 17 #[.slice nA l.length nc] W q1) := hd fun W' hb => by rw [hq1]; exact names_own l nA l.length nc W' (hl.below (HBw.o W' hb)) hs hn
  have R1 : Hd (RM.Rd 14 #[.slice nA l.length nc] W q1) := hd fun W' hb => by rw [hq1]; exact refnames_any l nA l.length nc W' (hl.below (HBw.o W' hb)) hs hn
  have W2 : Hd (RM.Wr 18 #[.slice sA S.length sc] W q2) := hd fun W' hb => by rw [hq2]; exact sets_own S sA S.length sc W' (hS.below (HBw.o W' hb)) hSm hSt hSn
  have R2 : Hd (RM.Rd 15 #[.slice sA S.length sc] W q2) := hd fun W' hb => by rw [hq2]; exact refsets_any S sA S.length sc W' (hS.below (HBw.o W' hb)) hSm hSt hSn
  have W3 : Hd (RM.Wr 19 #[.int .i64 422, .int .i64 240, .int .i64 3] W q3) := hd fun W' hb => by rw [hq3]; exact fail422_own 240 3 W' (by decide) (by decide) (by decide) (by decide) (by decide) (fun W'' h => hP W'' ((HBw.o W' hb).trans (h.mono (HBw.o W' hb).size)))
  have R3 : Hd (RM.Rd 16 #[.int .i64 422, .int .i64 240, .int .i64 3] W q3) := hd fun W' hb => by rw [hq3]; exact rfail422p 240 3 W' (by decide) (by decide) (by decide) (by decide) (by decide) (fun W'' h => hP W'' ((HBw.o W' hb).trans (h.mono (HBw.o W' hb).size)))
  have HL := hd hL
  have HS := hd hS
  have HQL0 : RS.tot r ≤ 1048576 → Hd (q0.length ≤ 70368744177664 ∧ q1.length ≤ 70368744177664 ∧ q2.length ≤ 70368744177664 ∧ q3.length ≤ 70368744177664) := fun h => hd ⟨by rw [hq0]; exact RS.bytes_le (hOk h), by rw [hq1]; exact R.names_le hs hn, by rw [hq2]; exact R.sets_le hSm hSn hSt, by rw [hq3]; exact T.ans_le⟩
  have HQ0 := hd HQL0
  have HTT := hd hSt
  have HW0 := hd W0
  have HR0 := hd R0
  clear hL hT hOk hP hl hs hSm hS hq0 hq1 hq2 hq3 W0 R0 hSt HQL0
  obtain ⟨ty, t, v, tx, eA, ec, E, mA, mc, M⟩ := r
  unfold RS.Res.val at HW0 HR0 ⊢
  unfold RS.Res.cells at HBX hW ⊢
  go_enter Tryz.func4, Tryz.ntmps4
  go_wp2_with fail
  rw [← hW]
  clear hW
  refine (rawake_any _).mono ?_
  rintro e w1 ⟨rfl, hb1⟩
  have HB1 := hd hb1
  clear hb1
  go_wp2_with fail
  go_loopw [7, 25] (fun z x wr => ∃ k Z : Nat, k ≤ S.length ∧ x = .int .i64 k ∧ z = .int .i64 Z ∧ Hd (Z = R.tot (S.take k)) ∧ wr = w1) (fun _ x _ => S.length - (intOf x).toNat)
  case atStart => exact ⟨0, 0, Nat.zero_le _, rfl, rfl, hd rfl, rfl⟩
  case round =>
    obtain ⟨k, Z, hk, rfl, rfl, hZe, rfl⟩ := hrel
    have hZ : Z ≤ 1048576 := by have := hZe.o; have := HTT.o; have := R.tot_take_le S k; omega
    by_cases hlt : k < S.length
    · obtain ⟨b, off, A1, c1, rfl, hbl, c0, hx⟩ := HS.o.at_ k hlt
      have d0 := ((HBw.o _ HB1.o).cell (p := ⟨b, off + k, none⟩) hbl).trans c0
      have HT := hd (R.tot_take S k hlt)
      have hxl : (S[k]'hlt).length ≤ 1125899906842624 := by
        obtain ⟨A', c', e', _, h2⟩ := HS.o
        obtain ⟨_, _, _, _, _, h3⟩ := h2 k hlt
        obtain ⟨_, h4⟩ := h3
        unfold reachBytes at h4
        omega
      clear c0 hx
      generalize (S[k]'hlt).length = y at *
      go_wp2
      go_roundw
      case rel => exact ⟨k + 1, Z + y, by omega, by go_num, by go_num, hd (by rw [HT.o, hZe.o]), trivial⟩
      case measure => simp [intOf]; omega
    · obtain rfl : k = S.length := by omega
      clear hZe
      have b0 := HBX.o wr HB1.o 0 (by decide)
      have b1 := HBX.o wr HB1.o 1 (by decide)
      have b2 := HBX.o wr HB1.o 2 (by decide)
      have b3 := HBX.o wr HB1.o 3 (by decide)
      have b4 := HBX.o wr HB1.o 4 (by decide)
      have b5 := HBX.o wr HB1.o 5 (by decide)
      simp only [List.getElem_cons_zero, List.getElem_cons_succ] at b0 b1 b2 b3 b4 b5
      go_wp2_with fail
      refine (rparts_any 20000 (by decide) ⟨ty, t, v, tx, eA, ec, E, mA, mc, M⟩ _ (HL.o.below (HBw.o _ HB1.o))).mono ?_
      rintro e w3 ⟨⟨n, rfl, hpa⟩, hb3⟩
      have HPA := hd hpa
      have HB3 := hd (bel HB1.o hb3)
      clear hb3 hpa b0 b1 b2 b3 b4 b5
      by_cases hb1 : (20000 : Int) < (n : Int)
      · go_wp2
        go_ret
        exact ⟨rfl, HBw.o _ HB3.o⟩
      by_cases hb2 : (20000 : Int) < (Z : Int)
      · go_wp2
        go_ret
        exact ⟨rfl, HBw.o _ HB3.o⟩
      by_cases hb3 : (20000 : Int) < (l.length : Int)
      · go_wp2
        go_ret
        exact ⟨rfl, HBw.o _ HB3.o⟩
      have hto : RS.tot ⟨ty, t, v, tx, eA, ec, E, mA, mc, M⟩ ≤ 1048576 := by rw [← HPA.o (by omega)]; omega
      have W0 := HW0.o hto
      have R0 := HR0.o hto
      have HQL := HQ0.o hto
      clear hto HW0 HR0 HQ0 HPA HTT HL HS hSn hn
      have HBZ : Hd (∀ W', Below W.heap.size W W' → W'.cell? ⟨w.heap.size, 0, none⟩ = some (.int .i64 ty) ∧ W'.cell? ⟨w.heap.size, 1, none⟩ = some (.int .i64 t) ∧ W'.cell? ⟨w.heap.size, 2, none⟩ = some (.float .f64 v) ∧ W'.cell? ⟨w.heap.size, 3, none⟩ = some (.string tx) ∧ W'.cell? ⟨w.heap.size, 4, none⟩ = some (.slice eA E.length ec) ∧ W'.cell? ⟨w.heap.size, 5, none⟩ = some (.slice mA M.length mc)) := hd fun W' hb => ⟨HBX.o W' hb 0 (by decide), HBX.o W' hb 1 (by decide), HBX.o W' hb 2 (by decide), HBX.o W' hb 3 (by decide), HBX.o W' hb 4 (by decide), HBX.o W' hb 5 (by decide)⟩
      clear HBX
      obtain ⟨rv, hrv⟩ : ∃ rv, rv = #[Value.agg #[Value.int IntKind.i64 ty, Value.int IntKind.i64 t, Value.float FloatKind.f64 v, Value.string tx, Value.slice eA E.length ec, Value.slice mA M.length mc]] := ⟨_, rfl⟩
      go_upto_region 11 with fail
      go_cut [10] from 46 to 57 (fun x10 wx => ∃ g, x10 = .pointer (some ⟨g, 0, none⟩) ∧ Hd (Bk wx g 42 [.string ⟨q0.toArray⟩, .string ⟨q1.toArray⟩, .string ⟨q2.toArray⟩, .string ⟨q3.toArray⟩]) ∧ W.heap.size ≤ g ∧ Hd (Below W.heap.size W wx))
      case first =>
        refine region_base fun base hbase => ?_
        have e3 : base.eval (.tmp 3) = .pointer (some ⟨w.heap.size, 0, none⟩) := by rw [hbase]; rfl
        have e1 : base.eval (.tmp 1) = .slice nA l.length nc := by rw [hbase]; rfl
        have e2 : base.eval (.tmp 2) = .slice sA S.length sc := by rw [hbase]; rfl
        have hsz : 58 ≤ base.tmps.size := by rw [hbase]; exact Nat.le_of_ble_eq_true rfl
        refine wp_region_put (by kernel_rfl) 13 [some 46, some 47, some 48, some 49, some 50, some 51, some 52, some 53, some 54, some 55, some 56, some 57, some 10, none] (by kernel_rfl) (by kernel_rfl) (by kernel_rfl) (by kernel_rfl) (RM.V11 (.agg #[.int .i64 ty, .int .i64 t, .float .f64 v, .string tx, .slice eA E.length ec, .slice mA M.length mc]) (.slice nA l.length nc) (.slice sA S.length sc) q0 q1 q2 q3 W.heap.size) (fun w' => Below W.heap.size W w') (fun a b => Below a.heap.size a b) RM.V11.mono (HB3.o.drew) ?_ ?_
        · clear hbase
          intro i o ho hne xs w' hI hV
          obtain ⟨ds, hds⟩ : ∃ ds : List (Option Tmp), ds = [some 46, some 47, some 48, some 49, some 50, some 51, some 52, some 53, some 54, some 55, some 56, some 57, some 10, none] := ⟨_, rfl⟩
          rw [← hds]
          have hi : i < 14 := (Array.getElem?_eq_some_iff.1 ho).1
          rcases (show i = 0 ∨ i = 1 ∨ i = 2 ∨ i = 3 ∨ i = 4 ∨ i = 5 ∨ i = 6 ∨ i = 7 ∨ i = 8 ∨ i = 9 ∨ i = 10 ∨ i = 11 ∨ i = 12 by omega) with rfl | rfl | rfl | rfl | rfl | rfl | rfl | rfl | rfl | rfl | rfl | rfl | rfl
          · obtain rfl := Option.some.inj ho
            have x3 : (putL base ds xs 0).eval (.tmp 3) = .pointer (some ⟨w.heap.size, 0, none⟩) := (putL_miss ds base xs 0 3 (by rw [hds]; kernel_rfl)).trans e3
            obtain ⟨b0, b1, b2, b3, b4, b5⟩ := HBZ.o w' hI
            refine wpOp_val ho rfl (v := .agg #[.int .i64 ty, .int .i64 t, .float .f64 v, .string tx, .slice eA E.length ec, .slice mA M.length mc]) (w' := w') ?_ ⟨_, rfl, rfl, hI, Below.refl _ _⟩
            generalize (putL base ds xs 0).eval = ev at *
            simp [execOp, x3, go_sem, b0, b1, b2, b3, b4, b5]
          · obtain rfl := Option.some.inj ho
            have xv := putL_hit ds base xs 0 0 46 (by rw [hds]; rfl) (by rw [hds]; kernel_rfl) (Nat.lt_of_lt_of_le (by decide) hsz)
            have hv := hV ⟨0, .data⟩ (by simp) rfl
            have hv : xs 0 = _ := hv
            rw [Nat.zero_add, hv] at xv
            refine wpOp_enter ho rfl (f := 13) (args := #[_]) ?_ ((R0.o w' hI).mono ?_)
            · have xf : ∀ f, (putL base ds xs 0).eval (.func f) = .func (.func f) #[] #[] := fun _ => rfl
              generalize (putL base ds xs 0).eval = ev at *
              simp [execOp, xv, xf, go_sem, resolve, invoke, Call.operands]
              rfl
            · rintro e w'' ⟨⟨v1, m1, rfl, hl1⟩, hb1⟩
              exact ⟨v1, rfl, v1, rfl, ⟨m1, hl1⟩, bel hI hb1, hb1⟩
          · obtain rfl := Option.some.inj ho
            have xv := putL_hit ds base xs 0 1 47 (by rw [hds]; rfl) (by rw [hds]; kernel_rfl) (Nat.lt_of_lt_of_le (by decide) hsz)
            obtain ⟨m1, hv⟩ : ∃ m, IsL 1 w' (xs 1) m (cellsB q0) := hV ⟨1, .data⟩ (by simp) rfl
            rw [Nat.zero_add] at xv
            refine wpOp_val ho rfl (v := .string ⟨q0.toArray⟩) (w' := w') ?_ ⟨_, rfl, rfl, hI, Below.refl _ _⟩
            generalize (putL base ds xs 0).eval = ev at *
            simp [execOp, xv, conv_isL hv, go_sem]
          · obtain rfl := Option.some.inj ho
            have xv := (putL_miss ds base xs 0 1 (by rw [hds]; kernel_rfl)).trans e1
            refine wpOp_val ho rfl (v := .slice nA l.length nc) (w' := w') ?_ ⟨_, rfl, rfl, hI, Below.refl _ _⟩
            generalize (putL base ds xs 0).eval = ev at *
            simp [execOp, xv, go_sem]
          · obtain rfl := Option.some.inj ho
            have xv := putL_hit ds base xs 0 3 49 (by rw [hds]; rfl) (by rw [hds]; kernel_rfl) (Nat.lt_of_lt_of_le (by decide) hsz)
            have hv := hV ⟨3, .data⟩ (by simp) rfl
            have hv : xs 3 = _ := hv
            rw [Nat.zero_add, hv] at xv
            refine wpOp_enter ho rfl (f := 14) (args := #[_]) ?_ ((R1.o w' hI).mono ?_)
            · have xf : ∀ f, (putL base ds xs 0).eval (.func f) = .func (.func f) #[] #[] := fun _ => rfl
              generalize (putL base ds xs 0).eval = ev at *
              simp [execOp, xv, xf, go_sem, resolve, invoke, Call.operands]
            · rintro e w'' ⟨⟨v1, m1, rfl, hl1⟩, hb1⟩
              exact ⟨v1, rfl, v1, rfl, ⟨m1, hl1⟩, bel hI hb1, hb1⟩
          · obtain rfl := Option.some.inj ho
            have xv := putL_hit ds base xs 0 4 50 (by rw [hds]; rfl) (by rw [hds]; kernel_rfl) (Nat.lt_of_lt_of_le (by decide) hsz)
            obtain ⟨m1, hv⟩ : ∃ m, IsL 1 w' (xs 4) m (cellsB q1) := hV ⟨4, .data⟩ (by simp) rfl
            rw [Nat.zero_add] at xv
            refine wpOp_val ho rfl (v := .string ⟨q1.toArray⟩) (w' := w') ?_ ⟨_, rfl, rfl, hI, Below.refl _ _⟩
            generalize (putL base ds xs 0).eval = ev at *
            simp [execOp, xv, conv_isL hv, go_sem]
          · obtain rfl := Option.some.inj ho
            have xv := (putL_miss ds base xs 0 2 (by rw [hds]; kernel_rfl)).trans e2
            refine wpOp_val ho rfl (v := .slice sA S.length sc) (w' := w') ?_ ⟨_, rfl, rfl, hI, Below.refl _ _⟩
            generalize (putL base ds xs 0).eval = ev at *
            simp [execOp, xv, go_sem]
          · obtain rfl := Option.some.inj ho
            have xv := putL_hit ds base xs 0 6 52 (by rw [hds]; rfl) (by rw [hds]; kernel_rfl) (Nat.lt_of_lt_of_le (by decide) hsz)
            have hv := hV ⟨6, .data⟩ (by simp) rfl
            have hv : xs 6 = _ := hv
            rw [Nat.zero_add, hv] at xv
            refine wpOp_enter ho rfl (f := 15) (args := #[_]) ?_ ((R2.o w' hI).mono ?_)
            · have xf : ∀ f, (putL base ds xs 0).eval (.func f) = .func (.func f) #[] #[] := fun _ => rfl
              generalize (putL base ds xs 0).eval = ev at *
              simp [execOp, xv, xf, go_sem, resolve, invoke, Call.operands]
            · rintro e w'' ⟨⟨v1, m1, rfl, hl1⟩, hb1⟩
              exact ⟨v1, rfl, v1, rfl, ⟨m1, hl1⟩, bel hI hb1, hb1⟩
          · obtain rfl := Option.some.inj ho
            have xv := putL_hit ds base xs 0 7 53 (by rw [hds]; rfl) (by rw [hds]; kernel_rfl) (Nat.lt_of_lt_of_le (by decide) hsz)
            obtain ⟨m1, hv⟩ : ∃ m, IsL 1 w' (xs 7) m (cellsB q2) := hV ⟨7, .data⟩ (by simp) rfl
            rw [Nat.zero_add] at xv
            refine wpOp_val ho rfl (v := .string ⟨q2.toArray⟩) (w' := w') ?_ ⟨_, rfl, rfl, hI, Below.refl _ _⟩
            generalize (putL base ds xs 0).eval = ev at *
            simp [execOp, xv, conv_isL hv, go_sem]
          · obtain rfl := Option.some.inj ho
            refine wpOp_enter ho rfl (f := 16) (args := #[.int .i64 422, .int .i64 240, .int .i64 3]) ?_ ((R3.o w' hI).mono ?_)
            · have xf : ∀ f, (putL base ds xs 0).eval (.func f) = .func (.func f) #[] #[] := fun _ => rfl
              have xc : ∀ v, (putL base ds xs 0).eval (.const v) = v := fun _ => rfl
              generalize (putL base ds xs 0).eval = ev at *
              simp [execOp, xc, xf, go_sem, resolve, invoke, Call.operands]
            · rintro e w'' ⟨⟨v1, m1, rfl, hl1⟩, hb1⟩
              exact ⟨v1, rfl, v1, rfl, ⟨m1, hl1⟩, bel hI hb1, hb1⟩
          · obtain rfl := Option.some.inj ho
            have xv := putL_hit ds base xs 0 9 55 (by rw [hds]; rfl) (by rw [hds]; kernel_rfl) (Nat.lt_of_lt_of_le (by decide) hsz)
            obtain ⟨m1, hv⟩ : ∃ m, IsL 1 w' (xs 9) m (cellsB q3) := hV ⟨9, .data⟩ (by simp) rfl
            rw [Nat.zero_add] at xv
            refine wpOp_val ho rfl (v := .string ⟨q3.toArray⟩) (w' := w') ?_ ⟨_, rfl, rfl, hI, Below.refl _ _⟩
            generalize (putL base ds xs 0).eval = ev at *
            simp [execOp, xv, conv_isL hv, go_sem]
          · obtain rfl := Option.some.inj ho
            have x1 := putL_hit ds base xs 0 2 48 (by rw [hds]; rfl) (by rw [hds]; kernel_rfl) (Nat.lt_of_lt_of_le (by decide) hsz)
            have x2 := putL_hit ds base xs 0 5 51 (by rw [hds]; rfl) (by rw [hds]; kernel_rfl) (Nat.lt_of_lt_of_le (by decide) hsz)
            have x4 := putL_hit ds base xs 0 8 54 (by rw [hds]; rfl) (by rw [hds]; kernel_rfl) (Nat.lt_of_lt_of_le (by decide) hsz)
            have x5 := putL_hit ds base xs 0 10 56 (by rw [hds]; rfl) (by rw [hds]; kernel_rfl) (Nat.lt_of_lt_of_le (by decide) hsz)
            have h1 : xs 2 = _ := hV ⟨2, .data⟩ (by simp) rfl
            have h2 : xs 5 = _ := hV ⟨5, .data⟩ (by simp) rfl
            have h4 : xs 8 = _ := hV ⟨8, .data⟩ (by simp) rfl
            have h5 : xs 10 = _ := hV ⟨10, .data⟩ (by simp) rfl
            rw [Nat.zero_add, h1] at x1
            rw [Nat.zero_add, h2] at x2
            rw [Nat.zero_add, h4] at x4
            rw [Nat.zero_add, h5] at x5
            refine wpOp_val ho rfl (v := .agg #[.string ⟨q0.toArray⟩, .string ⟨q1.toArray⟩, .string ⟨q2.toArray⟩, .string ⟨q3.toArray⟩]) (w' := w') ?_ ⟨_, rfl, rfl, hI, Below.refl _ _⟩
            generalize (putL base ds xs 0).eval = ev at *
            simp [execOp, x1, x2, x4, x5, go_sem]
          · obtain rfl := Option.some.inj ho
            refine wpOp_val ho rfl (v := .pointer (some ⟨w'.heap.size, 0, none⟩)) (w' := w'.alloc (.cells #[.string ByteArray.empty, .string ByteArray.empty, .string ByteArray.empty, .string ByteArray.empty] 42)) ?_ ⟨_, rfl, ⟨w'.heap.size, [.string ByteArray.empty, .string ByteArray.empty, .string ByteArray.empty, .string ByteArray.empty], rfl, hI.size, rfl, ?_⟩, hI.alloc hI.size _, (Below.refl _ _).alloc (Nat.le_refl _) _⟩
            · simp [execOp, go_sem]
              rfl
            · show (w'.heap.push _)[w'.heap.size]? = _
              rw [Array.getElem?_push_size]
        · intro xs w' hI hV
          obtain ⟨ds, hds⟩ : ∃ ds : List (Option Tmp), ds = [some 46, some 47, some 48, some 49, some 50, some 51, some 52, some 53, some 54, some 55, some 56, some 57, some 10, none] := ⟨_, rfl⟩
          rw [← hds]
          have xg := putL_hit ds base xs 0 12 10 (by rw [hds]; rfl) (by rw [hds]; kernel_rfl) (Nat.lt_of_lt_of_le (by decide) hsz)
          have xa := putL_hit ds base xs 0 11 57 (by rw [hds]; rfl) (by rw [hds]; kernel_rfl) (Nat.lt_of_lt_of_le (by decide) hsz)
          obtain ⟨g, C, hg1, hg2, hC, hBk⟩ : ∃ (g : Nat) (C : List Value), xs 12 = .pointer (some ⟨g, 0, none⟩) ∧ W.heap.size ≤ g ∧ C.length = 4 ∧ Bk w' g 42 C := hV 12 (by decide) (by decide)
          have ha : xs 11 = _ := hV 11 (by decide) (by decide)
          rw [Nat.zero_add, hg1] at xg
          rw [Nat.zero_add, ha] at xa
          obtain ⟨c0, c1, c2, c3, rfl⟩ : ∃ c0 c1 c2 c3, C = [c0, c1, c2, c3] := by
            match C, hC with
            | [c0, c1, c2, c3], _ => exact ⟨c0, c1, c2, c3, rfl⟩
          have k0 := hBk.cell 0 (by simp)
          have k1 := hBk.cell 1 (by simp)
          have k2 := hBk.cell 2 (by simp)
          have k3 := hBk.cell 3 (by simp)
          have m0 := hBk.frozen 0
          have m1 := hBk.frozen 1
          have m2 := hBk.frozen 2
          have m3 := hBk.frozen 3
          refine wpOp_void rfl rfl (w' := (((w'.setCell ⟨g, 0, none⟩ (.string ⟨q0.toArray⟩)).setCell ⟨g, 1, none⟩ (.string ⟨q1.toArray⟩)).setCell ⟨g, 2, none⟩ (.string ⟨q2.toArray⟩)).setCell ⟨g, 3, none⟩ (.string ⟨q3.toArray⟩)) ?_ ?_
          · clear hbase
            generalize (putL base ds xs 0).eval = ev at *
            simp [execOp, xg, xa, go_sem, k0, k1, k2, k3, m0, m1, m2, m3]
          · rw [hds, hbase]
            simp only [putL]
            have HBF := hd (((hBk.set 0 (.string ⟨q0.toArray⟩)).set 1 (.string ⟨q1.toArray⟩)).set 2 (.string ⟨q2.toArray⟩) |>.set 3 (.string ⟨q3.toArray⟩))
            have HBB := hd ((((hI.setCell (p := ⟨g, 0, none⟩) hg2 (.string ⟨q0.toArray⟩)).setCell (p := ⟨g, 1, none⟩) hg2 (.string ⟨q1.toArray⟩)).setCell (p := ⟨g, 2, none⟩) hg2 (.string ⟨q2.toArray⟩)).setCell (p := ⟨g, 3, none⟩) hg2 (.string ⟨q3.toArray⟩))
            clear hBk hI hV k0 k1 k2 k3 m0 m1 m2 m3 xg xa hbase hds e1 e2 e3 hsz ha
            generalize (((w'.setCell ⟨g, 0, none⟩ (.string ⟨q0.toArray⟩)).setCell ⟨g, 1, none⟩ (.string ⟨q1.toArray⟩)).setCell ⟨g, 2, none⟩ (.string ⟨q2.toArray⟩)).setCell ⟨g, 3, none⟩ (.string ⟨q3.toArray⟩) = wz at *
            go_simp
            first | (go_meet; exact ⟨g, rfl, HBF, hg2, HBB⟩) | (go_wp2; go_meet; exact ⟨g, rfl, HBF, hg2, HBB⟩) | (refine Met.intro ?_; trace_state; sorry)
      case rest =>
        obtain ⟨g4, rfl, H4, hg4, HB4⟩ := hcut
        go_wp2_with fail
        go_loopw [12] (fun x wq => ∃ (i : Nat) (P : List RM.Rw), i ≤ 2 ∧ x = .int .i64 i ∧ Hd (RM.Rows wc wq wc.heap.size P) ∧ Hd (P.map (·.2) = (List.replicate i [q0, q1, q2, q3]).flatten)) (fun x _ => 2 - (intOf x).toNat)
        case atStart =>
          refine ⟨0, [], by decide, rfl, hd (RM.Rows.start wc ((Below.refl _ _).alloc (Nat.le_refl _) _) ?_), hd rfl⟩
          exact heap_alloc_new wc _
        case round =>
          obtain ⟨i, P, hi2, rfl, HR, HP⟩ := hrel
          by_cases hlt : i < 2
          · rcases (show i = 0 ∨ i = 1 by omega) with rfl | rfl
            · rw [show ((0 : Nat) : Int) = 0 from rfl]
              have hP0 : P.length = 0 := by have := congrArg List.length HP.o; simpa using this
              have HA0 := hd (show Below W.heap.size W wr from HB4.o.trans (HR.o.b.mono HB4.o.size))
              obtain ⟨b0, b1, b2, b3, b4, b5⟩ := HBZ.o wr HA0.o
              have HR0 := HR
              have hq0 := hP0
              go_wp2_with fail
              refine (W0.o _ HA0.o).mono ?_
              rintro e y0 ⟨⟨x0, m0, rfl, o0⟩, kk0⟩
              obtain ⟨A0, cc0, rfl⟩ := own_shape o0
              obtain ⟨c0, f0⟩ := (HR0.o.below kk0).next 0 hq0 (by decide)
              have HR1 : Hd (RM.Rows wc (y0.setCell ⟨wc.heap.size, 0, none⟩ (.slice A0 m0 cc0)) wc.heap.size (P ++ [((Value.slice A0 m0 cc0), q0)])) := hd (HR0.o.pushAt 0 hq0 (by decide) HQL.o.1 kk0 o0)
              have hq1 : (P ++ [((Value.slice A0 m0 cc0), q0)]).length = 1 := by simp [hP0]
              have HA1 := hd (show Below W.heap.size W (y0.setCell ⟨wc.heap.size, 0, none⟩ (.slice A0 m0 cc0)) from HB4.o.trans (HR1.o.b.mono HB4.o.size))
              clear kk0 o0 HR0 HA0 b0 b1 b2 b3 b4 b5
              go_wp2_with fail
              refine (W1.o _ HA1.o).mono ?_
              rintro e y1 ⟨⟨x1, m1, rfl, o1⟩, kk1⟩
              obtain ⟨A1, cc1, rfl⟩ := own_shape o1
              obtain ⟨c1, f1⟩ := (HR1.o.below kk1).next 1 hq1 (by decide)
              have HR2 : Hd (RM.Rows wc (y1.setCell ⟨wc.heap.size, 1, none⟩ (.slice A1 m1 cc1)) wc.heap.size (P ++ [((Value.slice A0 m0 cc0), q0)] ++ [((Value.slice A1 m1 cc1), q1)])) := hd (HR1.o.pushAt 1 hq1 (by decide) HQL.o.2.1 kk1 o1)
              have hq2 : (P ++ [((Value.slice A0 m0 cc0), q0)] ++ [((Value.slice A1 m1 cc1), q1)]).length = 2 := by simp [hP0]
              have HA2 := hd (show Below W.heap.size W (y1.setCell ⟨wc.heap.size, 1, none⟩ (.slice A1 m1 cc1)) from HB4.o.trans (HR2.o.b.mono HB4.o.size))
              clear kk1 o1 HR1 HA1
              go_wp2_with fail
              refine (W2.o _ HA2.o).mono ?_
              rintro e y2 ⟨⟨x2, m2, rfl, o2⟩, kk2⟩
              obtain ⟨A2, cc2, rfl⟩ := own_shape o2
              obtain ⟨c2, f2⟩ := (HR2.o.below kk2).next 2 hq2 (by decide)
              have HR3 : Hd (RM.Rows wc (y2.setCell ⟨wc.heap.size, 2, none⟩ (.slice A2 m2 cc2)) wc.heap.size (P ++ [((Value.slice A0 m0 cc0), q0)] ++ [((Value.slice A1 m1 cc1), q1)] ++ [((Value.slice A2 m2 cc2), q2)])) := hd (HR2.o.pushAt 2 hq2 (by decide) HQL.o.2.2.1 kk2 o2)
              have hq3 : (P ++ [((Value.slice A0 m0 cc0), q0)] ++ [((Value.slice A1 m1 cc1), q1)] ++ [((Value.slice A2 m2 cc2), q2)]).length = 3 := by simp [hP0]
              have HA3 := hd (show Below W.heap.size W (y2.setCell ⟨wc.heap.size, 2, none⟩ (.slice A2 m2 cc2)) from HB4.o.trans (HR3.o.b.mono HB4.o.size))
              clear kk2 o2 HR2 HA2
              go_wp2_with fail
              refine (W3.o _ HA3.o).mono ?_
              rintro e y3 ⟨⟨x3, m3, rfl, o3⟩, kk3⟩
              obtain ⟨A3, cc3, rfl⟩ := own_shape o3
              obtain ⟨c3, f3⟩ := (HR3.o.below kk3).next 3 hq3 (by decide)
              have HR4 : Hd (RM.Rows wc (y3.setCell ⟨wc.heap.size, 3, none⟩ (.slice A3 m3 cc3)) wc.heap.size (P ++ [((Value.slice A0 m0 cc0), q0)] ++ [((Value.slice A1 m1 cc1), q1)] ++ [((Value.slice A2 m2 cc2), q2)] ++ [((Value.slice A3 m3 cc3), q3)])) := hd (HR3.o.pushAt 3 hq3 (by decide) HQL.o.2.2.2 kk3 o3)
              have hq4 : (P ++ [((Value.slice A0 m0 cc0), q0)] ++ [((Value.slice A1 m1 cc1), q1)] ++ [((Value.slice A2 m2 cc2), q2)] ++ [((Value.slice A3 m3 cc3), q3)]).length = 4 := by simp [hP0]
              have HA4 := hd (show Below W.heap.size W (y3.setCell ⟨wc.heap.size, 3, none⟩ (.slice A3 m3 cc3)) from HB4.o.trans (HR4.o.b.mono HB4.o.size))
              clear kk3 o3 HR3 HA3
              go_wp2
              go_roundw
              case rel => exact ⟨1, _, by decide, rfl, HR4, hd (by rw [List.map_append, List.map_append, List.map_append, List.map_append, HP.o]; rfl)⟩
              case measure => simp [intOf]
            · rw [show ((1 : Nat) : Int) = 1 from rfl]
              have hP0 : P.length = 4 := by have := congrArg List.length HP.o; simpa using this
              have HA0 := hd (show Below W.heap.size W wr from HB4.o.trans (HR.o.b.mono HB4.o.size))
              obtain ⟨b0, b1, b2, b3, b4, b5⟩ := HBZ.o wr HA0.o
              have HR0 := HR
              have hq0 := hP0
              go_wp2_with fail
              refine (W0.o _ HA0.o).mono ?_
              rintro e y0 ⟨⟨x0, m0, rfl, o0⟩, kk0⟩
              obtain ⟨A0, cc0, rfl⟩ := own_shape o0
              obtain ⟨c0, f0⟩ := (HR0.o.below kk0).next 4 hq0 (by decide)
              have HR1 : Hd (RM.Rows wc (y0.setCell ⟨wc.heap.size, 4, none⟩ (.slice A0 m0 cc0)) wc.heap.size (P ++ [((Value.slice A0 m0 cc0), q0)])) := hd (HR0.o.pushAt 4 hq0 (by decide) HQL.o.1 kk0 o0)
              have hq1 : (P ++ [((Value.slice A0 m0 cc0), q0)]).length = 5 := by simp [hP0]
              have HA1 := hd (show Below W.heap.size W (y0.setCell ⟨wc.heap.size, 4, none⟩ (.slice A0 m0 cc0)) from HB4.o.trans (HR1.o.b.mono HB4.o.size))
              clear kk0 o0 HR0 HA0 b0 b1 b2 b3 b4 b5
              go_wp2_with fail
              refine (W1.o _ HA1.o).mono ?_
              rintro e y1 ⟨⟨x1, m1, rfl, o1⟩, kk1⟩
              obtain ⟨A1, cc1, rfl⟩ := own_shape o1
              obtain ⟨c1, f1⟩ := (HR1.o.below kk1).next 5 hq1 (by decide)
              have HR2 : Hd (RM.Rows wc (y1.setCell ⟨wc.heap.size, 5, none⟩ (.slice A1 m1 cc1)) wc.heap.size (P ++ [((Value.slice A0 m0 cc0), q0)] ++ [((Value.slice A1 m1 cc1), q1)])) := hd (HR1.o.pushAt 5 hq1 (by decide) HQL.o.2.1 kk1 o1)
              have hq2 : (P ++ [((Value.slice A0 m0 cc0), q0)] ++ [((Value.slice A1 m1 cc1), q1)]).length = 6 := by simp [hP0]
              have HA2 := hd (show Below W.heap.size W (y1.setCell ⟨wc.heap.size, 5, none⟩ (.slice A1 m1 cc1)) from HB4.o.trans (HR2.o.b.mono HB4.o.size))
              clear kk1 o1 HR1 HA1
              go_wp2_with fail
              refine (W2.o _ HA2.o).mono ?_
              rintro e y2 ⟨⟨x2, m2, rfl, o2⟩, kk2⟩
              obtain ⟨A2, cc2, rfl⟩ := own_shape o2
              obtain ⟨c2, f2⟩ := (HR2.o.below kk2).next 6 hq2 (by decide)
              have HR3 : Hd (RM.Rows wc (y2.setCell ⟨wc.heap.size, 6, none⟩ (.slice A2 m2 cc2)) wc.heap.size (P ++ [((Value.slice A0 m0 cc0), q0)] ++ [((Value.slice A1 m1 cc1), q1)] ++ [((Value.slice A2 m2 cc2), q2)])) := hd (HR2.o.pushAt 6 hq2 (by decide) HQL.o.2.2.1 kk2 o2)
              have hq3 : (P ++ [((Value.slice A0 m0 cc0), q0)] ++ [((Value.slice A1 m1 cc1), q1)] ++ [((Value.slice A2 m2 cc2), q2)]).length = 7 := by simp [hP0]
              have HA3 := hd (show Below W.heap.size W (y2.setCell ⟨wc.heap.size, 6, none⟩ (.slice A2 m2 cc2)) from HB4.o.trans (HR3.o.b.mono HB4.o.size))
              clear kk2 o2 HR2 HA2
              go_wp2_with fail
              refine (W3.o _ HA3.o).mono ?_
              rintro e y3 ⟨⟨x3, m3, rfl, o3⟩, kk3⟩
              obtain ⟨A3, cc3, rfl⟩ := own_shape o3
              obtain ⟨c3, f3⟩ := (HR3.o.below kk3).next 7 hq3 (by decide)
              have HR4 : Hd (RM.Rows wc (y3.setCell ⟨wc.heap.size, 7, none⟩ (.slice A3 m3 cc3)) wc.heap.size (P ++ [((Value.slice A0 m0 cc0), q0)] ++ [((Value.slice A1 m1 cc1), q1)] ++ [((Value.slice A2 m2 cc2), q2)] ++ [((Value.slice A3 m3 cc3), q3)])) := hd (HR3.o.pushAt 7 hq3 (by decide) HQL.o.2.2.2 kk3 o3)
              have hq4 : (P ++ [((Value.slice A0 m0 cc0), q0)] ++ [((Value.slice A1 m1 cc1), q1)] ++ [((Value.slice A2 m2 cc2), q2)] ++ [((Value.slice A3 m3 cc3), q3)]).length = 8 := by simp [hP0]
              have HA4 := hd (show Below W.heap.size W (y3.setCell ⟨wc.heap.size, 7, none⟩ (.slice A3 m3 cc3)) from HB4.o.trans (HR4.o.b.mono HB4.o.size))
              clear kk3 o3 HR3 HA3
              go_wp2
              go_roundw
              case rel => exact ⟨2, _, by decide, rfl, HR4, hd (by rw [List.map_append, List.map_append, List.map_append, List.map_append, HP.o]; rfl)⟩
              case measure => simp [intOf]
          · obtain rfl : i = 2 := by omega
            rw [show ((2 : Nat) : Int) = 2 from rfl]
            clear hlt hi2 W3
            have hPm : P.map (·.2) = [q0, q1, q2, q3, q0, q1, q2, q3] := HP.o
            have hP8 : P.length = 8 := by have := congrArg List.length hPm; simpa using this
            have HWT : Hd (∀ (i : Nat) (h : i < P.length) (W' : World), Below wc.heap.size wc W' → W'.cell? ⟨g4, i % 4, none⟩ = some (.string ⟨(P[i]'h).2.toArray⟩)) := hd fun i h W' hb => by
              have hb4 := (H4.o.below hb)
              have e : (P[i]'h).2 = (P.map (·.2))[i]'(by rw [List.length_map]; exact h) := by rw [List.getElem_map]
              rw [e]
              simp only [hPm]
              have hi : i < 8 := by omega
              rcases (show i = 0 ∨ i = 1 ∨ i = 2 ∨ i = 3 ∨ i = 4 ∨ i = 5 ∨ i = 6 ∨ i = 7 by omega) with rfl | rfl | rfl | rfl | rfl | rfl | rfl | rfl
              · exact hb4.cell 0 (by simp)
              · exact hb4.cell 1 (by simp)
              · exact hb4.cell 2 (by simp)
              · exact hb4.cell 3 (by simp)
              · exact hb4.cell 0 (by simp)
              · exact hb4.cell 1 (by simp)
              · exact hb4.cell 2 (by simp)
              · exact hb4.cell 3 (by simp)
            have HP8 := hd hP8
            clear HP hPm
            go_wp2_with fail
            go_loopw [13] (fun x wq => ∃ i : Nat, i ≤ 8 ∧ x = .int .i64 i ∧ Hd (RM.Rows wc wq wc.heap.size P)) (fun x _ => 8 - (intOf x).toNat)
            case atStart => exact ⟨0, by decide, rfl, HR⟩
            case round =>
              clear HR
              obtain ⟨i, hi8, rfl, HR⟩ := hrel
              by_cases hlt : i < 8
              · have hiP : i < P.length := by omega
                have c1 := HR.o.cell i hiP
                have ho := HR.o.own i hiP
                have c2 := HWT.o i hiP wr HR.o.b
                obtain ⟨A, c, hsh⟩ := own_shape ho
                rw [hsh] at c1 ho
                have cv1 := fun n : Nat => conv_isL (IsL.own (own_below ho (bel_drew (Below.refl wr.heap.size wr) n)))
                have er : (i : Int).tmod 4 = ((i % 4 : Nat) : Int) := by rw [Int.tmod_eq_emod_of_nonneg (by omega)]; omega
                have er2 : i % 4 < 4 := by omega
                have er3 : ((i % 4 : Nat) : Int) < 4 := by omega
                generalize i % 4 = rr at *
                clear ho hsh
                generalize (P[i]'hiP).2 = qq at *
                go_wp2_with fail
                go_quiet (fail)
                go_wp2
                go_roundw
                case rel => exact ⟨i + 1, by omega, by go_num, hd (HR.o.below (bel_drew (Below.refl _ _) _))⟩
                case measure => simp [intOf]; omega
              · obtain rfl : i = 8 := by omega
                rw [show ((8 : Nat) : Int) = 8 from rfl]
                clear hlt
                go_wp2_with fail
                go_loopw [14] (fun x wq => ∃ (i : Nat) (P : List RM.Rw), i ≤ 8 ∧ x = .int .i64 i ∧ Hd (RM.Rows wc wq wc.heap.size P) ∧ Hd (RM.Fl P i)) (fun x _ => 8 - (intOf x).toNat)
                case atStart => exact ⟨0, P, by decide, rfl, HR, hd (RM.Fl.start P HP8.o)⟩
                case round =>
                  clear HR HWT HP8 hP8
                  obtain ⟨i, P, hi8, rfl, HR, HF⟩ := hrel
                  by_cases hlt : i < 8
                  · have hiP : i < P.length := by have := HF.o.1; omega
                    have c1 := HR.o.cell i hiP
                    have ho := HR.o.own i hiP
                    obtain ⟨A, c, hsh⟩ := own_shape ho
                    rw [hsh] at c1
                    have HS0 := hd (RM.Fi.start HF.o hiP)
                    rw [hsh] at HS0
                    have hlen : (P[i]'hiP).2.length ≤ maxLen := RM.own_max ho
                    unfold maxLen at hlen
                    generalize (P[i]'hiP).2.length = N at *
                    clear ho hsh
                    have hiI : (i : Int) < 8 := by omega
                    go_wp2_with fail
                    go_loopw [105] (fun x wq => ∃ (j : Nat) (P : List RM.Rw), j ≤ N ∧ x = .int .i64 j ∧ Hd (RM.Rows wc wq wc.heap.size P) ∧ Hd (RM.Fi P i j (.slice A N c) N)) (fun x _ => N - (intOf x).toNat)
                    case atStart => exact ⟨0, P, Nat.zero_le _, rfl, HR, HS0⟩
                    case round =>
                      clear HR HS0 HF c1 hiP
                      obtain ⟨j, P, hj, rfl, HR, HF⟩ := hrel
                      by_cases hjl : j < N
                      · have hv := HF.o.v
                        have hn := HF.o.n
                        have c1 := HR.o.cell i HF.o.h
                        have ho := HR.o.own i HF.o.h
                        rw [hv, hn] at ho
                        rw [hv] at c1
                        obtain ⟨b, rfl⟩ := RM.own_block ho (by omega)
                        obtain ⟨ov, c2⟩ : ∃ ov, wr.cell? ⟨b, j, none⟩ = some ov := ⟨_, row_cell ho rfl j (by rw [cellsB_len, hn]; exact hjl)⟩
                        have f2 : wr.frozen? ⟨b, j, none⟩ = false := ho.frozenAt j
                        have hX : ((UInt8.ofNat (48 + i)).toNat : Int) = 48 + (i : Int) := by rw [UInt8.toNat_ofNat']; omega
                        have hw : IntKind.u8.wrap (48 + (i : Int)) = 48 + (i : Int) := by rw [IntKind.wrap_u8]; omega
                        obtain ⟨P2, HR2, HF2⟩ : ∃ P2 : List RM.Rw, Hd (RM.Rows wc (wr.setCell ⟨b, j, none⟩ (.int .u8 (48 + (i : Int)))) wc.heap.size P2) ∧ Hd (RM.Fi P2 i (j + 1) (.slice (some ⟨b, 0, none⟩) N c) N) :=
                          ⟨_, hd (by have h := HR.o.put i HF.o.h hv j (UInt8.ofNat (48 + i)); rw [hX] at h; exact h), hd (HF.o.step hjl)⟩
                        have hjI : (j : Int) < (N : Int) := by omega
                        clear ho hv hn HR HF hX
                        go_wp2
                        go_roundw
                        case rel => exact ⟨j + 1, _, by omega, by go_num, HR2, HF2⟩
                        case measure => simp [intOf]; omega
                      · obtain rfl : j = N := by omega
                        go_wp2
                        go_roundw
                        case rel => exact ⟨i + 1, P, by omega, by go_num, HR, hd HF.o.done⟩
                        case measure => simp [intOf]; omega
                  · obtain rfl : i = 8 := by omega
                    rw [show ((8 : Nat) : Int) = 8 from rfl]
                    clear hlt
                    go_wp2_with fail
                    go_loopw [16] (fun x wq => ∃ i : Nat, i ≤ 8 ∧ x = .int .i64 i ∧ Hd (RM.Rows wc wq wc.heap.size P)) (fun x _ => 8 - (intOf x).toNat)
                    case atStart => exact ⟨0, by decide, rfl, HR⟩
                    case round =>
                      clear HR
                      obtain ⟨i, hi8, rfl, HR⟩ := hrel
                      by_cases hlt : i < 8
                      · have hiP : i < P.length := by have := HF.o.1; omega
                        have c1 := HR.o.cell i hiP
                        have ho := HR.o.own i hiP
                        have HV0 := hd (HR.o.view i hiP)
                        obtain ⟨A, c, hsh⟩ := own_shape ho
                        rw [hsh] at c1
                        rw [hsh] at HV0
                        have hlen : (P[i]'hiP).2.length ≤ 70368744177664 := HR.o.sm i hiP
                        have hiI : (i : Int) < 8 := by omega
                        generalize (P[i]'hiP).2.length = N at *
                        clear ho hsh
                        go_wp2_with fail
                        go_loopw [17, 18] (fun xb xk wq => ∃ (k m : Nat), k ≤ 16 ∧ xk = .int .i64 k ∧ Hd (RM.Rows wc wq wc.heap.size P) ∧ Hd (∃ xs, RM.View wq wc.heap.size P i xb m xs) ∧ Hd (m = N + k)) (fun _ x _ => 16 - (intOf x).toNat)
                        case atStart => exact ⟨0, N, by decide, rfl, HR, hd ⟨_, HV0.o⟩, hd rfl⟩
                        case round =>
                          clear HR HV0 c1
                          obtain ⟨k, m, hk16, rfl, HR, HVx, hm⟩ := hrel
                          obtain ⟨xs, hV⟩ := HVx.o
                          have HV := hd hV
                          clear HVx hV
                          have hmb : m ≤ 70368744177700 := by have := hm.o; omega
                          by_cases hlk : k < 16
                          · obtain ⟨Ab, cb, rfl⟩ := own_shape HV.o.o
                            have HRa := hd (HR.o.below ((Below.refl wr.heap.size wr).alloc (Nat.le_refl _) (.cells #[.int .u8 122] 5)))
                            have HVa := hd (HV.o.below ((Below.refl wr.heap.size wr).alloc (Nat.le_refl _) (.cells #[.int .u8 122] 5)))
                            have hgz : wc.heap.size + 1 ≤ wr.heap.size := HR.o.a.lt
                            clear HR HV
                            go_wp2_with (at_builtin; refine wpList_app_keep _ 32 5 (.int .u8 0) 1 1 Tryz.underlying32 info_out rfl (by decide) rfl _ _ rfl (wc.heap.size + 1) (.slice Ab m cb) m xs rfl ?p1 (.slice (some ⟨wr.heap.size, 0, none⟩) 1 1) 1 [.int .u8 122] rfl ?p2 ?p3 ?p4 ?p5 ?p6 ?_)
                            case p1 => exact HVa.o.o
                            case p2 => exact IsL.own (World.ownsRow_lit (base := wr.heap.size) wr #[.int .u8 122] 1 (Nat.le_refl _) (by decide) rfl)
                            case p3 => intro u hu; simp only [List.mem_singleton] at hu; subst hu; rfl
                            case p4 => omega
                            case p5 => omega
                            case p6 => simp; omega
                            intro v' w' ho hg hk' hat
                            have HRV := HRa.o.app HVa.o ho (by omega) hg (by rw [Nat.mul_one]; exact hk') (by rw [World.size_alloc]; exact hat)
                            have HR := hd HRV.1
                            have HV := hd HRV.2
                            obtain ⟨A', cap', rfl⟩ := own_shape ho
                            clear ho hg hk' hat HRV HRa HVa
                            go_wp2
                            go_roundw
                            case rel => exact ⟨k + 1, m + 1, by omega, by go_num, HR, hd ⟨_, HV.o⟩, hd (by have := hm.o; omega)⟩
                            case measure => simp [intOf]; omega
                          · obtain rfl : k = 16 := by omega
                            clear hlk HV hmb hm
                            have c1 := HR.o.cell i (by have := HF.o.1; omega)
                            have HV := hd (HR.o.view i (by have := HF.o.1; omega))
                            have hN2 : (P[i]'(by have := HF.o.1; omega)).2.length ≤ 70368744177664 := HR.o.sm i _
                            obtain ⟨A, c, hsh⟩ := own_shape HV.o.o
                            rw [hsh] at c1 HV
                            generalize (P[i]'(by have := HF.o.1; omega)).2.length = N2 at *
                            have hgz : wc.heap.size + 1 ≤ wr.heap.size := HR.o.a.lt
                            clear hsh
                            go_wp2_with (at_builtin; refine wpList_app0 _ 32 3 5 .i64 Tryz.underlying32 Tryz.underlying3 info_out rfl _ _ rfl (wc.heap.size + 1) (.slice A N2 c) N2 64 _ rfl HV.o.o 64 rfl rfl (by decide) ?p5 hgz ?_)
                            case p5 => omega
                            intro v' w' ho hg hk' hat
                            have HR2 := hd (HR.o.app HV.o ho (by omega) hg (by rw [Nat.mul_one]; exact hk') hat).1
                            clear ho hg hk' hat HR HV
                            go_wp2
                            go_roundw
                            case rel => exact ⟨i + 1, by omega, by go_num, HR2⟩
                            case measure => simp [intOf]; omega
                      · obtain rfl : i = 8 := by omega
                        rw [show ((8 : Nat) : Int) = 8 from rfl]
                        clear hlt
                        go_wp2_with fail
                        go_loopw [19] (fun x wq => ∃ i : Nat, i ≤ 8 ∧ x = .int .i64 i ∧ Hd (RM.Rows wc wq wc.heap.size P)) (fun x _ => 8 - (intOf x).toNat)
                        case atStart => exact ⟨0, by decide, rfl, HR⟩
                        case round =>
                          clear HR
                          obtain ⟨i, hi8, rfl, HR⟩ := hrel
                          by_cases hlt : i < 8
                          · have hiP : i < P.length := by have := HF.o.1; omega
                            have c1 := HR.o.cell i hiP
                            have ho := HR.o.own i hiP
                            obtain ⟨A, c, hsh⟩ := own_shape ho
                            rw [hsh] at c1 ho
                            have HD : Hd (∀ (m : Nat) (hm : m < (P[i]'hiP).2.length), ((P[i]'hiP).2[m]'hm) = UInt8.ofNat (48 + i)) := hd fun m hm => HF.o.2 i hiP (by omega) _ (List.getElem_mem hm)
                            have HO := hd ho
                            have hlen : (P[i]'hiP).2.length ≤ 70368744177664 := HR.o.sm i hiP
                            have hX : ((UInt8.ofNat (48 + i)).toNat : Int) = 48 + (i : Int) := by rw [UInt8.toNat_ofNat']; omega
                            have hw : IntKind.u8.wrap (48 + (i : Int)) = 48 + (i : Int) := by rw [IntKind.wrap_u8]; omega
                            have hiI : (i : Int) < 8 := by omega
                            clear ho hsh
                            generalize (P[i]'hiP).2 = bs at *
                            obtain ⟨N, hN⟩ : ∃ N, N = bs.length := ⟨_, rfl⟩
                            rw [← hN] at c1 HO hlen
                            have HN := hd hN
                            clear hN
                            go_wp2_with fail
                            go_loopw [144] (fun x wq => ∃ j : Nat, j ≤ N ∧ x = .int .i64 j ∧ wq = wr) (fun x _ => N - (intOf x).toNat)
                            case atStart => exact ⟨0, Nat.zero_le _, rfl, rfl⟩
                            case round =>
                              obtain ⟨j, hj, rfl, rfl⟩ := hrel
                              by_cases hjl : j < N
                              · obtain ⟨b, rfl⟩ := RM.own_block HO.o (by omega)
                                have c2 : wr.cell? ⟨b, j, none⟩ = some (.int .u8 (48 + (i : Int))) := by
                                  have hjb : j < bs.length := by have := HN.o; omega
                                  rw [row_cell HO.o rfl j (by rw [cellsB_len]; exact hjb)]
                                  have := HD.o j hjb
                                  simp [cellsB, this, hX]
                                  try omega
                                have hjI : (j : Int) < (N : Int) := by omega
                                clear hX
                                go_wp2
                                go_roundw
                                case rel => exact ⟨j + 1, by omega, by go_num, trivial⟩
                                case measure => simp [intOf]; omega
                              · obtain rfl : j = N := by omega
                                go_wp2
                                go_roundw
                                case rel => exact ⟨i + 1, by omega, by go_num, HR⟩
                                case measure => simp [intOf]; omega
-- the end (printed by mkrm52.py)
                          · obtain rfl : i = 8 := by omega
                            rw [show ((8 : Nat) : Int) = 8 from rfl]
                            clear hlt
                            have HBI : Hd (∀ w', Below wr.heap.size wr w' → Below W.heap.size W w') := hd fun w' hb => HB4.o.trans ((HR.o.b.mono HB4.o.size).trans (hb.mono (Nat.le_trans (HB4.o.size) (HR.o.b.size))))
                            have HK4 : Hd (∀ w', Below wr.heap.size wr w' → Bk w' g4 42 [.string ⟨q0.toArray⟩, .string ⟨q1.toArray⟩, .string ⟨q2.toArray⟩, .string ⟨q3.toArray⟩]) := hd fun w' hb => (H4.o.below HR.o.b).below hb
                            clear HR HF
                            go_wp2_with fail
                            refine region_base fun base hbase => ?_
                            have e3 : base.eval (.tmp 3) = .pointer (some ⟨w.heap.size, 0, none⟩) := by rw [hbase]; rfl
                            have e1 : base.eval (.tmp 1) = .slice nA l.length nc := by rw [hbase]; rfl
                            have e2 : base.eval (.tmp 2) = .slice sA S.length sc := by rw [hbase]; rfl
                            have e10 : base.eval (.tmp 10) = .pointer (some ⟨g4, 0, none⟩) := by rw [hbase]; rfl
                            have hsz : 202 ≤ base.tmps.size := by rw [hbase]; exact Nat.le_of_ble_eq_true rfl
                            refine wp_region_put0 (by kernel_rfl) [some 158, some 159, some 160, some 161, some 162, some 163, some 164, some 165, some 166, some 167, some 168, some 169, some 170, some 171, some 172, some 173, some 174, some 175, some 176, some 177, some 178, some 179] (by kernel_rfl) (by kernel_rfl) (by kernel_rfl) (RM.V52 (.agg #[.int .i64 ty, .int .i64 t, .float .f64 v, .string tx, .slice eA E.length ec, .slice mA M.length mc]) (.slice nA l.length nc) (.slice sA S.length sc) q0 q1 q2 g4) (fun w' => Below wr.heap.size wr w') (fun a b => Below a.heap.size a b) RM.V52.mono ((Below.refl wr.heap.size wr).drew) ?_ ?_
                            · clear hbase
                              intro i o ho xs w' hI hV
                              obtain ⟨ds, hds⟩ : ∃ ds : List (Option Tmp), ds = [some 158, some 159, some 160, some 161, some 162, some 163, some 164, some 165, some 166, some 167, some 168, some 169, some 170, some 171, some 172, some 173, some 174, some 175, some 176, some 177, some 178, some 179] := ⟨_, rfl⟩
                              rw [← hds]
                              have hi : i < 22 := (Array.getElem?_eq_some_iff.1 ho).1
                              rcases (show i = 0 ∨ i = 1 ∨ i = 2 ∨ i = 3 ∨ i = 4 ∨ i = 5 ∨ i = 6 ∨ i = 7 ∨ i = 8 ∨ i = 9 ∨ i = 10 ∨ i = 11 ∨ i = 12 ∨ i = 13 ∨ i = 14 ∨ i = 15 ∨ i = 16 ∨ i = 17 ∨ i = 18 ∨ i = 19 ∨ i = 20 ∨ i = 21 by omega) with rfl | rfl | rfl | rfl | rfl | rfl | rfl | rfl | rfl | rfl | rfl | rfl | rfl | rfl | rfl | rfl | rfl | rfl | rfl | rfl | rfl | rfl
                              · obtain rfl := Option.some.inj ho
                                obtain ⟨b0, b1, b2, b3, b4, b5⟩ := HBZ.o w' (HBI.o w' hI)
                                have x3 := (putL_miss ds base xs 0 3 (by rw [hds]; kernel_rfl)).trans e3
                                refine wpOp_valW ho (by rfl) (v := .agg #[.int .i64 ty, .int .i64 t, .float .f64 v, .string tx, .slice eA E.length ec, .slice mA M.length mc]) (w' := w') ?_ ⟨_, rfl, rfl, hI, Below.refl _ _⟩
                                generalize (putL base ds xs 0).eval = ev at *
                                simp [execOp, x3, b0, b1, b2, b3, b4, b5, go_sem]
                              · obtain rfl := Option.some.inj ho
                                have xv := putL_hit ds base xs 0 0 158 (by rw [hds]; rfl) (by rw [hds]; kernel_rfl) (Nat.lt_of_lt_of_le (by decide) hsz)
                                have xe : xs 0 = _ := hV ⟨0, .data⟩ (by simp) rfl
                                rw [Nat.zero_add, xe] at xv
                                refine wpOp_enterW ho (by rfl) (f := 13) (args := #[_]) ?_ ((R0.o w' (HBI.o w' hI)).mono ?_)
                                · have xf : ∀ f, (putL base ds xs 0).eval (.func f) = .func (.func f) #[] #[] := fun _ => rfl
                                  generalize (putL base ds xs 0).eval = ev at *
                                  simp [execOp, xv, xf, go_sem, resolve, invoke, Call.operands]
                                  rfl
                                · rintro e w'' ⟨⟨v1, m1, rfl, hl1⟩, hb1⟩
                                  exact ⟨v1, rfl, v1, rfl, ⟨m1, hl1⟩, bel hI hb1, hb1⟩
                              · obtain rfl := Option.some.inj ho
                                have xv := putL_hit ds base xs 0 1 159 (by rw [hds]; rfl) (by rw [hds]; kernel_rfl) (Nat.lt_of_lt_of_le (by decide) hsz)
                                obtain ⟨m1, hv⟩ : ∃ m, IsL 1 w' (xs 1) m (cellsB q0) := hV ⟨1, .data⟩ (by simp) rfl
                                rw [Nat.zero_add] at xv
                                refine wpOp_valW ho (by rfl) (v := .string ⟨q0.toArray⟩) (w' := w') ?_ ⟨_, rfl, rfl, hI, Below.refl _ _⟩
                                generalize (putL base ds xs 0).eval = ev at *
                                simp [execOp, xv, conv_isL hv, go_sem]
                              · obtain rfl := Option.some.inj ho
                                have x := (putL_miss ds base xs 0 10 (by rw [hds]; kernel_rfl)).trans e10
                                have xc : ∀ v, (putL base ds xs 0).eval (.const v) = v := fun _ => rfl
                                refine wpOp_valW ho (by rfl) (v := .pointer (some ⟨g4, 0, none⟩)) (w' := w') ?_ ⟨_, rfl, rfl, hI, Below.refl _ _⟩
                                generalize (putL base ds xs 0).eval = ev at *
                                simp [execOp, x, xc, go_sem]
                              · obtain rfl := Option.some.inj ho
                                have xv := putL_hit ds base xs 0 3 161 (by rw [hds]; rfl) (by rw [hds]; kernel_rfl) (Nat.lt_of_lt_of_le (by decide) hsz)
                                have xe : xs 3 = _ := hV ⟨3, .data⟩ (by simp) rfl
                                rw [Nat.zero_add, xe] at xv
                                have bk := (HK4.o w' hI).cell 0 (by simp)
                                simp only [List.getElem_cons_zero, List.getElem_cons_succ] at bk
                                refine wpOp_valW ho (by rfl) (v := .string ⟨q0.toArray⟩) (w' := w') ?_ ⟨_, rfl, rfl, hI, Below.refl _ _⟩
                                generalize (putL base ds xs 0).eval = ev at *
                                simp [execOp, xv, bk, go_sem]
                              · obtain rfl := Option.some.inj ho
                                have xv := putL_hit ds base xs 0 2 160 (by rw [hds]; rfl) (by rw [hds]; kernel_rfl) (Nat.lt_of_lt_of_le (by decide) hsz)
                                have xe : xs 2 = _ := hV ⟨2, .data⟩ (by simp) rfl
                                rw [Nat.zero_add, xe] at xv
                                have yv := putL_hit ds base xs 0 4 162 (by rw [hds]; rfl) (by rw [hds]; kernel_rfl) (Nat.lt_of_lt_of_le (by decide) hsz)
                                have ye : xs 4 = _ := hV ⟨4, .data⟩ (by simp) rfl
                                rw [Nat.zero_add, ye] at yv
                                refine wpOp_valW ho (by rfl) (v := .bool false) (w' := w') ?_ ⟨_, rfl, rfl, hI, Below.refl _ _⟩
                                generalize (putL base ds xs 0).eval = ev at *
                                simp [execOp, xv, yv, go_sem]
                              · obtain rfl := Option.some.inj ho
                                have xv := putL_hit ds base xs 0 5 163 (by rw [hds]; rfl) (by rw [hds]; kernel_rfl) (Nat.lt_of_lt_of_le (by decide) hsz)
                                have xe : xs 5 = _ := hV ⟨5, .data⟩ (by simp) rfl
                                rw [Nat.zero_add, xe] at xv
                                refine wpOp_valW ho (by rfl) (v := .bool false) (w' := w') ?_ ⟨_, rfl, rfl, hI, Below.refl _ _⟩
                                generalize (putL base ds xs 0).eval = ev at *
                                simp [execOp, xv, go_sem]
                              · obtain rfl := Option.some.inj ho
                                have hg : xs 6 = .bool false := hV ⟨6, .guard⟩ (by simp) rfl
                                have hgv := putL_hit ds base xs 0 6 164 (by rw [hds]; rfl) (by rw [hds]; kernel_rfl) (Nat.lt_of_lt_of_le (by decide) hsz)
                                rw [Nat.zero_add, hg] at hgv
                                have x := (putL_miss ds base xs 0 1 (by rw [hds]; kernel_rfl)).trans e1
                                refine wpOp_valW ho (wanted_of (g := 6) (d := 164) rfl rfl hgv) (v := .slice nA l.length nc) (w' := w') ?_ ⟨_, rfl, rfl, hI, Below.refl _ _⟩
                                generalize (putL base ds xs 0).eval = ev at *
                                simp [execOp, x, go_sem]
                              · obtain rfl := Option.some.inj ho
                                have hg : xs 6 = .bool false := hV ⟨6, .guard⟩ (by simp) rfl
                                have hgv := putL_hit ds base xs 0 6 164 (by rw [hds]; rfl) (by rw [hds]; kernel_rfl) (Nat.lt_of_lt_of_le (by decide) hsz)
                                rw [Nat.zero_add, hg] at hgv
                                have xv := putL_hit ds base xs 0 7 165 (by rw [hds]; rfl) (by rw [hds]; kernel_rfl) (Nat.lt_of_lt_of_le (by decide) hsz)
                                have xe : xs 7 = _ := hV ⟨7, .data⟩ (by simp) rfl
                                rw [Nat.zero_add, xe] at xv
                                refine wpOp_enterW ho (wanted_of (g := 6) (d := 164) rfl rfl hgv) (f := 14) (args := #[_]) ?_ ((R1.o w' (HBI.o w' hI)).mono ?_)
                                · have xf : ∀ f, (putL base ds xs 0).eval (.func f) = .func (.func f) #[] #[] := fun _ => rfl
                                  generalize (putL base ds xs 0).eval = ev at *
                                  simp [execOp, xv, xf, go_sem, resolve, invoke, Call.operands]
                                · rintro e w'' ⟨⟨v1, m1, rfl, hl1⟩, hb1⟩
                                  exact ⟨v1, rfl, v1, rfl, ⟨m1, hl1⟩, bel hI hb1, hb1⟩
                              · obtain rfl := Option.some.inj ho
                                have hg : xs 6 = .bool false := hV ⟨6, .guard⟩ (by simp) rfl
                                have hgv := putL_hit ds base xs 0 6 164 (by rw [hds]; rfl) (by rw [hds]; kernel_rfl) (Nat.lt_of_lt_of_le (by decide) hsz)
                                rw [Nat.zero_add, hg] at hgv
                                have xv := putL_hit ds base xs 0 8 166 (by rw [hds]; rfl) (by rw [hds]; kernel_rfl) (Nat.lt_of_lt_of_le (by decide) hsz)
                                obtain ⟨m1, hv⟩ : ∃ m, IsL 1 w' (xs 8) m (cellsB q1) := hV ⟨8, .data⟩ (by simp) rfl
                                rw [Nat.zero_add] at xv
                                refine wpOp_valW ho (wanted_of (g := 6) (d := 164) rfl rfl hgv) (v := .string ⟨q1.toArray⟩) (w' := w') ?_ ⟨_, rfl, rfl, hI, Below.refl _ _⟩
                                generalize (putL base ds xs 0).eval = ev at *
                                simp [execOp, xv, conv_isL hv, go_sem]
                              · obtain rfl := Option.some.inj ho
                                have hg : xs 6 = .bool false := hV ⟨6, .guard⟩ (by simp) rfl
                                have hgv := putL_hit ds base xs 0 6 164 (by rw [hds]; rfl) (by rw [hds]; kernel_rfl) (Nat.lt_of_lt_of_le (by decide) hsz)
                                rw [Nat.zero_add, hg] at hgv
                                have x := (putL_miss ds base xs 0 10 (by rw [hds]; kernel_rfl)).trans e10
                                have xc : ∀ v, (putL base ds xs 0).eval (.const v) = v := fun _ => rfl
                                refine wpOp_valW ho (wanted_of (g := 6) (d := 164) rfl rfl hgv) (v := .pointer (some ⟨g4, 1, none⟩)) (w' := w') ?_ ⟨_, rfl, rfl, hI, Below.refl _ _⟩
                                generalize (putL base ds xs 0).eval = ev at *
                                simp [execOp, x, xc, go_sem]
                              · obtain rfl := Option.some.inj ho
                                have hg : xs 6 = .bool false := hV ⟨6, .guard⟩ (by simp) rfl
                                have hgv := putL_hit ds base xs 0 6 164 (by rw [hds]; rfl) (by rw [hds]; kernel_rfl) (Nat.lt_of_lt_of_le (by decide) hsz)
                                rw [Nat.zero_add, hg] at hgv
                                have xv := putL_hit ds base xs 0 10 168 (by rw [hds]; rfl) (by rw [hds]; kernel_rfl) (Nat.lt_of_lt_of_le (by decide) hsz)
                                have xe : xs 10 = _ := hV ⟨10, .data⟩ (by simp) rfl
                                rw [Nat.zero_add, xe] at xv
                                have bk := (HK4.o w' hI).cell 1 (by simp)
                                simp only [List.getElem_cons_zero, List.getElem_cons_succ] at bk
                                refine wpOp_valW ho (wanted_of (g := 6) (d := 164) rfl rfl hgv) (v := .string ⟨q1.toArray⟩) (w' := w') ?_ ⟨_, rfl, rfl, hI, Below.refl _ _⟩
                                generalize (putL base ds xs 0).eval = ev at *
                                simp [execOp, xv, bk, go_sem]
                              · obtain rfl := Option.some.inj ho
                                have hg : xs 6 = .bool false := hV ⟨6, .guard⟩ (by simp) rfl
                                have hgv := putL_hit ds base xs 0 6 164 (by rw [hds]; rfl) (by rw [hds]; kernel_rfl) (Nat.lt_of_lt_of_le (by decide) hsz)
                                rw [Nat.zero_add, hg] at hgv
                                have xv := putL_hit ds base xs 0 9 167 (by rw [hds]; rfl) (by rw [hds]; kernel_rfl) (Nat.lt_of_lt_of_le (by decide) hsz)
                                have xe : xs 9 = _ := hV ⟨9, .data⟩ (by simp) rfl
                                rw [Nat.zero_add, xe] at xv
                                have yv := putL_hit ds base xs 0 11 169 (by rw [hds]; rfl) (by rw [hds]; kernel_rfl) (Nat.lt_of_lt_of_le (by decide) hsz)
                                have ye : xs 11 = _ := hV ⟨11, .data⟩ (by simp) rfl
                                rw [Nat.zero_add, ye] at yv
                                refine wpOp_valW ho (wanted_of (g := 6) (d := 164) rfl rfl hgv) (v := .bool false) (w' := w') ?_ ⟨_, rfl, rfl, hI, Below.refl _ _⟩
                                generalize (putL base ds xs 0).eval = ev at *
                                simp [execOp, xv, yv, go_sem]
                              · obtain rfl := Option.some.inj ho
                                have xv := putL_hit ds base xs 0 6 164 (by rw [hds]; rfl) (by rw [hds]; kernel_rfl) (Nat.lt_of_lt_of_le (by decide) hsz)
                                have xe : xs 6 = _ := hV ⟨6, .data⟩ (by simp) rfl
                                rw [Nat.zero_add, xe] at xv
                                have yv := putL_hit ds base xs 0 12 170 (by rw [hds]; rfl) (by rw [hds]; kernel_rfl) (Nat.lt_of_lt_of_le (by decide) hsz)
                                have ye : xs 12 = _ := hV ⟨12, .data⟩ (by simp) rfl
                                rw [Nat.zero_add, ye] at yv
                                have xc : ∀ v, (putL base ds xs 0).eval (.const v) = v := fun _ => rfl
                                refine wpOp_valW ho (by rfl) (v := .bool false) (w' := w') ?_ ⟨_, rfl, rfl, hI, Below.refl _ _⟩
                                generalize (putL base ds xs 0).eval = ev at *
                                simp [execOp, xv, yv, xc, go_sem]
                              · obtain rfl := Option.some.inj ho
                                have xv := putL_hit ds base xs 0 13 171 (by rw [hds]; rfl) (by rw [hds]; kernel_rfl) (Nat.lt_of_lt_of_le (by decide) hsz)
                                have xe : xs 13 = _ := hV ⟨13, .data⟩ (by simp) rfl
                                rw [Nat.zero_add, xe] at xv
                                refine wpOp_valW ho (by rfl) (v := .bool false) (w' := w') ?_ ⟨_, rfl, rfl, hI, Below.refl _ _⟩
                                generalize (putL base ds xs 0).eval = ev at *
                                simp [execOp, xv, go_sem]
                              · obtain rfl := Option.some.inj ho
                                have hg : xs 14 = .bool false := hV ⟨14, .guard⟩ (by simp) rfl
                                have hgv := putL_hit ds base xs 0 14 172 (by rw [hds]; rfl) (by rw [hds]; kernel_rfl) (Nat.lt_of_lt_of_le (by decide) hsz)
                                rw [Nat.zero_add, hg] at hgv
                                have x := (putL_miss ds base xs 0 2 (by rw [hds]; kernel_rfl)).trans e2
                                refine wpOp_valW ho (wanted_of (g := 14) (d := 172) rfl rfl hgv) (v := .slice sA S.length sc) (w' := w') ?_ ⟨_, rfl, rfl, hI, Below.refl _ _⟩
                                generalize (putL base ds xs 0).eval = ev at *
                                simp [execOp, x, go_sem]
                              · obtain rfl := Option.some.inj ho
                                have hg : xs 14 = .bool false := hV ⟨14, .guard⟩ (by simp) rfl
                                have hgv := putL_hit ds base xs 0 14 172 (by rw [hds]; rfl) (by rw [hds]; kernel_rfl) (Nat.lt_of_lt_of_le (by decide) hsz)
                                rw [Nat.zero_add, hg] at hgv
                                have xv := putL_hit ds base xs 0 15 173 (by rw [hds]; rfl) (by rw [hds]; kernel_rfl) (Nat.lt_of_lt_of_le (by decide) hsz)
                                have xe : xs 15 = _ := hV ⟨15, .data⟩ (by simp) rfl
                                rw [Nat.zero_add, xe] at xv
                                refine wpOp_enterW ho (wanted_of (g := 14) (d := 172) rfl rfl hgv) (f := 15) (args := #[_]) ?_ ((R2.o w' (HBI.o w' hI)).mono ?_)
                                · have xf : ∀ f, (putL base ds xs 0).eval (.func f) = .func (.func f) #[] #[] := fun _ => rfl
                                  generalize (putL base ds xs 0).eval = ev at *
                                  simp [execOp, xv, xf, go_sem, resolve, invoke, Call.operands]
                                · rintro e w'' ⟨⟨v1, m1, rfl, hl1⟩, hb1⟩
                                  exact ⟨v1, rfl, v1, rfl, ⟨m1, hl1⟩, bel hI hb1, hb1⟩
                              · obtain rfl := Option.some.inj ho
                                have hg : xs 14 = .bool false := hV ⟨14, .guard⟩ (by simp) rfl
                                have hgv := putL_hit ds base xs 0 14 172 (by rw [hds]; rfl) (by rw [hds]; kernel_rfl) (Nat.lt_of_lt_of_le (by decide) hsz)
                                rw [Nat.zero_add, hg] at hgv
                                have xv := putL_hit ds base xs 0 16 174 (by rw [hds]; rfl) (by rw [hds]; kernel_rfl) (Nat.lt_of_lt_of_le (by decide) hsz)
                                obtain ⟨m1, hv⟩ : ∃ m, IsL 1 w' (xs 16) m (cellsB q2) := hV ⟨16, .data⟩ (by simp) rfl
                                rw [Nat.zero_add] at xv
                                refine wpOp_valW ho (wanted_of (g := 14) (d := 172) rfl rfl hgv) (v := .string ⟨q2.toArray⟩) (w' := w') ?_ ⟨_, rfl, rfl, hI, Below.refl _ _⟩
                                generalize (putL base ds xs 0).eval = ev at *
                                simp [execOp, xv, conv_isL hv, go_sem]
                              · obtain rfl := Option.some.inj ho
                                have hg : xs 14 = .bool false := hV ⟨14, .guard⟩ (by simp) rfl
                                have hgv := putL_hit ds base xs 0 14 172 (by rw [hds]; rfl) (by rw [hds]; kernel_rfl) (Nat.lt_of_lt_of_le (by decide) hsz)
                                rw [Nat.zero_add, hg] at hgv
                                have x := (putL_miss ds base xs 0 10 (by rw [hds]; kernel_rfl)).trans e10
                                have xc : ∀ v, (putL base ds xs 0).eval (.const v) = v := fun _ => rfl
                                refine wpOp_valW ho (wanted_of (g := 14) (d := 172) rfl rfl hgv) (v := .pointer (some ⟨g4, 2, none⟩)) (w' := w') ?_ ⟨_, rfl, rfl, hI, Below.refl _ _⟩
                                generalize (putL base ds xs 0).eval = ev at *
                                simp [execOp, x, xc, go_sem]
                              · obtain rfl := Option.some.inj ho
                                have hg : xs 14 = .bool false := hV ⟨14, .guard⟩ (by simp) rfl
                                have hgv := putL_hit ds base xs 0 14 172 (by rw [hds]; rfl) (by rw [hds]; kernel_rfl) (Nat.lt_of_lt_of_le (by decide) hsz)
                                rw [Nat.zero_add, hg] at hgv
                                have xv := putL_hit ds base xs 0 18 176 (by rw [hds]; rfl) (by rw [hds]; kernel_rfl) (Nat.lt_of_lt_of_le (by decide) hsz)
                                have xe : xs 18 = _ := hV ⟨18, .data⟩ (by simp) rfl
                                rw [Nat.zero_add, xe] at xv
                                have bk := (HK4.o w' hI).cell 2 (by simp)
                                simp only [List.getElem_cons_zero, List.getElem_cons_succ] at bk
                                refine wpOp_valW ho (wanted_of (g := 14) (d := 172) rfl rfl hgv) (v := .string ⟨q2.toArray⟩) (w' := w') ?_ ⟨_, rfl, rfl, hI, Below.refl _ _⟩
                                generalize (putL base ds xs 0).eval = ev at *
                                simp [execOp, xv, bk, go_sem]
                              · obtain rfl := Option.some.inj ho
                                have hg : xs 14 = .bool false := hV ⟨14, .guard⟩ (by simp) rfl
                                have hgv := putL_hit ds base xs 0 14 172 (by rw [hds]; rfl) (by rw [hds]; kernel_rfl) (Nat.lt_of_lt_of_le (by decide) hsz)
                                rw [Nat.zero_add, hg] at hgv
                                have xv := putL_hit ds base xs 0 17 175 (by rw [hds]; rfl) (by rw [hds]; kernel_rfl) (Nat.lt_of_lt_of_le (by decide) hsz)
                                have xe : xs 17 = _ := hV ⟨17, .data⟩ (by simp) rfl
                                rw [Nat.zero_add, xe] at xv
                                have yv := putL_hit ds base xs 0 19 177 (by rw [hds]; rfl) (by rw [hds]; kernel_rfl) (Nat.lt_of_lt_of_le (by decide) hsz)
                                have ye : xs 19 = _ := hV ⟨19, .data⟩ (by simp) rfl
                                rw [Nat.zero_add, ye] at yv
                                refine wpOp_valW ho (wanted_of (g := 14) (d := 172) rfl rfl hgv) (v := .bool false) (w' := w') ?_ ⟨_, rfl, rfl, hI, Below.refl _ _⟩
                                generalize (putL base ds xs 0).eval = ev at *
                                simp [execOp, xv, yv, go_sem]
                              · obtain rfl := Option.some.inj ho
                                have xv := putL_hit ds base xs 0 14 172 (by rw [hds]; rfl) (by rw [hds]; kernel_rfl) (Nat.lt_of_lt_of_le (by decide) hsz)
                                have xe : xs 14 = _ := hV ⟨14, .data⟩ (by simp) rfl
                                rw [Nat.zero_add, xe] at xv
                                have yv := putL_hit ds base xs 0 20 178 (by rw [hds]; rfl) (by rw [hds]; kernel_rfl) (Nat.lt_of_lt_of_le (by decide) hsz)
                                have ye : xs 20 = _ := hV ⟨20, .data⟩ (by simp) rfl
                                rw [Nat.zero_add, ye] at yv
                                have xc : ∀ v, (putL base ds xs 0).eval (.const v) = v := fun _ => rfl
                                refine wpOp_valW ho (by rfl) (v := .bool false) (w' := w') ?_ ⟨_, rfl, rfl, hI, Below.refl _ _⟩
                                generalize (putL base ds xs 0).eval = ev at *
                                simp [execOp, xv, yv, xc, go_sem]
                            · intro xs wx hI hV
                              have hx : xs 21 = .bool false := hV 21 (by decide)
                              have HIX := hd hI
                              rw [hbase]
                              clear hbase e1 e2 e3 e10 hsz hV hI base
                              simp only [putL]
                              go_simp
                              go_wp2_with fail
                              refine region_base fun base hbase => ?_
                              have e3 : base.eval (.tmp 3) = .pointer (some ⟨w.heap.size, 0, none⟩) := by rw [hbase]; rfl
                              have e1 : base.eval (.tmp 1) = .slice nA l.length nc := by rw [hbase]; rfl
                              have e2 : base.eval (.tmp 2) = .slice sA S.length sc := by rw [hbase]; rfl
                              have e10 : base.eval (.tmp 10) = .pointer (some ⟨g4, 0, none⟩) := by rw [hbase]; rfl
                              have hsz : 202 ≤ base.tmps.size := by rw [hbase]; exact Nat.le_of_ble_eq_true rfl
                              refine wp_region_put0 (by kernel_rfl) [some 180, some 181, some 182, some 183, some 184, some 185, some 186, some 187, some 188, some 189, some 190, some 191, some 192, some 193, some 194, some 195, some 196, some 197, some 198, some 199, some 200, some 201, some 6] (by kernel_rfl) (by kernel_rfl) (by kernel_rfl) (RM.V54 (.agg #[.int .i64 ty, .int .i64 t, .float .f64 v, .string tx, .slice eA E.length ec, .slice mA M.length mc]) (.slice nA l.length nc) (.slice sA S.length sc) q0 q1 q2 g4) (fun w' => Below wr.heap.size wr w') (fun a b => Below a.heap.size a b) RM.V54.mono (HIX.o.drew) ?_ ?_
                              · clear hbase
                                intro i o ho xs w' hI hV
                                obtain ⟨ds, hds⟩ : ∃ ds : List (Option Tmp), ds = [some 180, some 181, some 182, some 183, some 184, some 185, some 186, some 187, some 188, some 189, some 190, some 191, some 192, some 193, some 194, some 195, some 196, some 197, some 198, some 199, some 200, some 201, some 6] := ⟨_, rfl⟩
                                rw [← hds]
                                have hi : i < 23 := (Array.getElem?_eq_some_iff.1 ho).1
                                rcases (show i = 0 ∨ i = 1 ∨ i = 2 ∨ i = 3 ∨ i = 4 ∨ i = 5 ∨ i = 6 ∨ i = 7 ∨ i = 8 ∨ i = 9 ∨ i = 10 ∨ i = 11 ∨ i = 12 ∨ i = 13 ∨ i = 14 ∨ i = 15 ∨ i = 16 ∨ i = 17 ∨ i = 18 ∨ i = 19 ∨ i = 20 ∨ i = 21 ∨ i = 22 by omega) with rfl | rfl | rfl | rfl | rfl | rfl | rfl | rfl | rfl | rfl | rfl | rfl | rfl | rfl | rfl | rfl | rfl | rfl | rfl | rfl | rfl | rfl | rfl
                                · obtain rfl := Option.some.inj ho
                                  obtain ⟨b0, b1, b2, b3, b4, b5⟩ := HBZ.o w' (HBI.o w' hI)
                                  have x3 := (putL_miss ds base xs 0 3 (by rw [hds]; kernel_rfl)).trans e3
                                  refine wpOp_valW ho (by rfl) (v := .agg #[.int .i64 ty, .int .i64 t, .float .f64 v, .string tx, .slice eA E.length ec, .slice mA M.length mc]) (w' := w') ?_ ⟨_, rfl, rfl, hI, Below.refl _ _⟩
                                  generalize (putL base ds xs 0).eval = ev at *
                                  simp [execOp, x3, b0, b1, b2, b3, b4, b5, go_sem]
                                · obtain rfl := Option.some.inj ho
                                  have xv := putL_hit ds base xs 0 0 180 (by rw [hds]; rfl) (by rw [hds]; kernel_rfl) (Nat.lt_of_lt_of_le (by decide) hsz)
                                  have xe : xs 0 = _ := hV ⟨0, .data⟩ (by simp) rfl
                                  rw [Nat.zero_add, xe] at xv
                                  refine wpOp_enterW ho (by rfl) (f := 10) (args := #[_]) ?_ ((W0.o w' (HBI.o w' hI)).mono ?_)
                                  · have xf : ∀ f, (putL base ds xs 0).eval (.func f) = .func (.func f) #[] #[] := fun _ => rfl
                                    generalize (putL base ds xs 0).eval = ev at *
                                    simp [execOp, xv, xf, go_sem, resolve, invoke, Call.operands]
                                    rfl
                                  · rintro e w'' ⟨⟨v1, m1, rfl, hl1⟩, hb1⟩
                                    exact ⟨v1, rfl, v1, rfl, ⟨m1, IsL.own hl1⟩, bel hI hb1, hb1⟩
                                · obtain rfl := Option.some.inj ho
                                  have xv := putL_hit ds base xs 0 1 181 (by rw [hds]; rfl) (by rw [hds]; kernel_rfl) (Nat.lt_of_lt_of_le (by decide) hsz)
                                  obtain ⟨m1, hv⟩ : ∃ m, IsL 1 w' (xs 1) m (cellsB q0) := hV ⟨1, .data⟩ (by simp) rfl
                                  rw [Nat.zero_add] at xv
                                  refine wpOp_valW ho (by rfl) (v := .string ⟨q0.toArray⟩) (w' := w') ?_ ⟨_, rfl, rfl, hI, Below.refl _ _⟩
                                  generalize (putL base ds xs 0).eval = ev at *
                                  simp [execOp, xv, conv_isL hv, go_sem]
                                · obtain rfl := Option.some.inj ho
                                  have x := (putL_miss ds base xs 0 10 (by rw [hds]; kernel_rfl)).trans e10
                                  have xc : ∀ v, (putL base ds xs 0).eval (.const v) = v := fun _ => rfl
                                  refine wpOp_valW ho (by rfl) (v := .pointer (some ⟨g4, 0, none⟩)) (w' := w') ?_ ⟨_, rfl, rfl, hI, Below.refl _ _⟩
                                  generalize (putL base ds xs 0).eval = ev at *
                                  simp [execOp, x, xc, go_sem]
                                · obtain rfl := Option.some.inj ho
                                  have xv := putL_hit ds base xs 0 3 183 (by rw [hds]; rfl) (by rw [hds]; kernel_rfl) (Nat.lt_of_lt_of_le (by decide) hsz)
                                  have xe : xs 3 = _ := hV ⟨3, .data⟩ (by simp) rfl
                                  rw [Nat.zero_add, xe] at xv
                                  have bk := (HK4.o w' hI).cell 0 (by simp)
                                  simp only [List.getElem_cons_zero, List.getElem_cons_succ] at bk
                                  refine wpOp_valW ho (by rfl) (v := .string ⟨q0.toArray⟩) (w' := w') ?_ ⟨_, rfl, rfl, hI, Below.refl _ _⟩
                                  generalize (putL base ds xs 0).eval = ev at *
                                  simp [execOp, xv, bk, go_sem]
                                · obtain rfl := Option.some.inj ho
                                  have xv := putL_hit ds base xs 0 2 182 (by rw [hds]; rfl) (by rw [hds]; kernel_rfl) (Nat.lt_of_lt_of_le (by decide) hsz)
                                  have xe : xs 2 = _ := hV ⟨2, .data⟩ (by simp) rfl
                                  rw [Nat.zero_add, xe] at xv
                                  have yv := putL_hit ds base xs 0 4 184 (by rw [hds]; rfl) (by rw [hds]; kernel_rfl) (Nat.lt_of_lt_of_le (by decide) hsz)
                                  have ye : xs 4 = _ := hV ⟨4, .data⟩ (by simp) rfl
                                  rw [Nat.zero_add, ye] at yv
                                  refine wpOp_valW ho (by rfl) (v := .bool true) (w' := w') ?_ ⟨_, rfl, rfl, hI, Below.refl _ _⟩
                                  generalize (putL base ds xs 0).eval = ev at *
                                  simp [execOp, xv, yv, go_sem]
                                · obtain rfl := Option.some.inj ho
                                  have xv := putL_hit ds base xs 0 5 185 (by rw [hds]; rfl) (by rw [hds]; kernel_rfl) (Nat.lt_of_lt_of_le (by decide) hsz)
                                  have xe : xs 5 = _ := hV ⟨5, .data⟩ (by simp) rfl
                                  rw [Nat.zero_add, xe] at xv
                                  refine wpOp_valW ho (by rfl) (v := .bool true) (w' := w') ?_ ⟨_, rfl, rfl, hI, Below.refl _ _⟩
                                  generalize (putL base ds xs 0).eval = ev at *
                                  simp [execOp, xv, go_sem]
                                · obtain rfl := Option.some.inj ho
                                  have hg : xs 6 = .bool true := hV ⟨6, .guard⟩ (by simp) rfl
                                  have hgv := putL_hit ds base xs 0 6 186 (by rw [hds]; rfl) (by rw [hds]; kernel_rfl) (Nat.lt_of_lt_of_le (by decide) hsz)
                                  rw [Nat.zero_add, hg] at hgv
                                  have x := (putL_miss ds base xs 0 1 (by rw [hds]; kernel_rfl)).trans e1
                                  refine wpOp_valW ho (wanted_of (g := 6) (d := 186) rfl rfl hgv) (v := .slice nA l.length nc) (w' := w') ?_ ⟨_, rfl, rfl, hI, Below.refl _ _⟩
                                  generalize (putL base ds xs 0).eval = ev at *
                                  simp [execOp, x, go_sem]
                                · obtain rfl := Option.some.inj ho
                                  have hg : xs 6 = .bool true := hV ⟨6, .guard⟩ (by simp) rfl
                                  have hgv := putL_hit ds base xs 0 6 186 (by rw [hds]; rfl) (by rw [hds]; kernel_rfl) (Nat.lt_of_lt_of_le (by decide) hsz)
                                  rw [Nat.zero_add, hg] at hgv
                                  have xv := putL_hit ds base xs 0 7 187 (by rw [hds]; rfl) (by rw [hds]; kernel_rfl) (Nat.lt_of_lt_of_le (by decide) hsz)
                                  have xe : xs 7 = _ := hV ⟨7, .data⟩ (by simp) rfl
                                  rw [Nat.zero_add, xe] at xv
                                  refine wpOp_enterW ho (wanted_of (g := 6) (d := 186) rfl rfl hgv) (f := 17) (args := #[_]) ?_ ((W1.o w' (HBI.o w' hI)).mono ?_)
                                  · have xf : ∀ f, (putL base ds xs 0).eval (.func f) = .func (.func f) #[] #[] := fun _ => rfl
                                    generalize (putL base ds xs 0).eval = ev at *
                                    simp [execOp, xv, xf, go_sem, resolve, invoke, Call.operands]
                                  · rintro e w'' ⟨⟨v1, m1, rfl, hl1⟩, hb1⟩
                                    exact ⟨v1, rfl, v1, rfl, ⟨m1, IsL.own hl1⟩, bel hI hb1, hb1⟩
                                · obtain rfl := Option.some.inj ho
                                  have hg : xs 6 = .bool true := hV ⟨6, .guard⟩ (by simp) rfl
                                  have hgv := putL_hit ds base xs 0 6 186 (by rw [hds]; rfl) (by rw [hds]; kernel_rfl) (Nat.lt_of_lt_of_le (by decide) hsz)
                                  rw [Nat.zero_add, hg] at hgv
                                  have xv := putL_hit ds base xs 0 8 188 (by rw [hds]; rfl) (by rw [hds]; kernel_rfl) (Nat.lt_of_lt_of_le (by decide) hsz)
                                  obtain ⟨m1, hv⟩ : ∃ m, IsL 1 w' (xs 8) m (cellsB q1) := hV ⟨8, .data⟩ (by simp) rfl
                                  rw [Nat.zero_add] at xv
                                  refine wpOp_valW ho (wanted_of (g := 6) (d := 186) rfl rfl hgv) (v := .string ⟨q1.toArray⟩) (w' := w') ?_ ⟨_, rfl, rfl, hI, Below.refl _ _⟩
                                  generalize (putL base ds xs 0).eval = ev at *
                                  simp [execOp, xv, conv_isL hv, go_sem]
                                · obtain rfl := Option.some.inj ho
                                  have hg : xs 6 = .bool true := hV ⟨6, .guard⟩ (by simp) rfl
                                  have hgv := putL_hit ds base xs 0 6 186 (by rw [hds]; rfl) (by rw [hds]; kernel_rfl) (Nat.lt_of_lt_of_le (by decide) hsz)
                                  rw [Nat.zero_add, hg] at hgv
                                  have x := (putL_miss ds base xs 0 10 (by rw [hds]; kernel_rfl)).trans e10
                                  have xc : ∀ v, (putL base ds xs 0).eval (.const v) = v := fun _ => rfl
                                  refine wpOp_valW ho (wanted_of (g := 6) (d := 186) rfl rfl hgv) (v := .pointer (some ⟨g4, 1, none⟩)) (w' := w') ?_ ⟨_, rfl, rfl, hI, Below.refl _ _⟩
                                  generalize (putL base ds xs 0).eval = ev at *
                                  simp [execOp, x, xc, go_sem]
                                · obtain rfl := Option.some.inj ho
                                  have hg : xs 6 = .bool true := hV ⟨6, .guard⟩ (by simp) rfl
                                  have hgv := putL_hit ds base xs 0 6 186 (by rw [hds]; rfl) (by rw [hds]; kernel_rfl) (Nat.lt_of_lt_of_le (by decide) hsz)
                                  rw [Nat.zero_add, hg] at hgv
                                  have xv := putL_hit ds base xs 0 10 190 (by rw [hds]; rfl) (by rw [hds]; kernel_rfl) (Nat.lt_of_lt_of_le (by decide) hsz)
                                  have xe : xs 10 = _ := hV ⟨10, .data⟩ (by simp) rfl
                                  rw [Nat.zero_add, xe] at xv
                                  have bk := (HK4.o w' hI).cell 1 (by simp)
                                  simp only [List.getElem_cons_zero, List.getElem_cons_succ] at bk
                                  refine wpOp_valW ho (wanted_of (g := 6) (d := 186) rfl rfl hgv) (v := .string ⟨q1.toArray⟩) (w' := w') ?_ ⟨_, rfl, rfl, hI, Below.refl _ _⟩
                                  generalize (putL base ds xs 0).eval = ev at *
                                  simp [execOp, xv, bk, go_sem]
                                · obtain rfl := Option.some.inj ho
                                  have hg : xs 6 = .bool true := hV ⟨6, .guard⟩ (by simp) rfl
                                  have hgv := putL_hit ds base xs 0 6 186 (by rw [hds]; rfl) (by rw [hds]; kernel_rfl) (Nat.lt_of_lt_of_le (by decide) hsz)
                                  rw [Nat.zero_add, hg] at hgv
                                  have xv := putL_hit ds base xs 0 9 189 (by rw [hds]; rfl) (by rw [hds]; kernel_rfl) (Nat.lt_of_lt_of_le (by decide) hsz)
                                  have xe : xs 9 = _ := hV ⟨9, .data⟩ (by simp) rfl
                                  rw [Nat.zero_add, xe] at xv
                                  have yv := putL_hit ds base xs 0 11 191 (by rw [hds]; rfl) (by rw [hds]; kernel_rfl) (Nat.lt_of_lt_of_le (by decide) hsz)
                                  have ye : xs 11 = _ := hV ⟨11, .data⟩ (by simp) rfl
                                  rw [Nat.zero_add, ye] at yv
                                  refine wpOp_valW ho (wanted_of (g := 6) (d := 186) rfl rfl hgv) (v := .bool true) (w' := w') ?_ ⟨_, rfl, rfl, hI, Below.refl _ _⟩
                                  generalize (putL base ds xs 0).eval = ev at *
                                  simp [execOp, xv, yv, go_sem]
                                · obtain rfl := Option.some.inj ho
                                  have xv := putL_hit ds base xs 0 6 186 (by rw [hds]; rfl) (by rw [hds]; kernel_rfl) (Nat.lt_of_lt_of_le (by decide) hsz)
                                  have xe : xs 6 = _ := hV ⟨6, .data⟩ (by simp) rfl
                                  rw [Nat.zero_add, xe] at xv
                                  have yv := putL_hit ds base xs 0 12 192 (by rw [hds]; rfl) (by rw [hds]; kernel_rfl) (Nat.lt_of_lt_of_le (by decide) hsz)
                                  have ye : xs 12 = _ := hV ⟨12, .data⟩ (by simp) rfl
                                  rw [Nat.zero_add, ye] at yv
                                  have xc : ∀ v, (putL base ds xs 0).eval (.const v) = v := fun _ => rfl
                                  refine wpOp_valW ho (by rfl) (v := .bool true) (w' := w') ?_ ⟨_, rfl, rfl, hI, Below.refl _ _⟩
                                  generalize (putL base ds xs 0).eval = ev at *
                                  simp [execOp, xv, yv, xc, go_sem]
                                · obtain rfl := Option.some.inj ho
                                  have xv := putL_hit ds base xs 0 13 193 (by rw [hds]; rfl) (by rw [hds]; kernel_rfl) (Nat.lt_of_lt_of_le (by decide) hsz)
                                  have xe : xs 13 = _ := hV ⟨13, .data⟩ (by simp) rfl
                                  rw [Nat.zero_add, xe] at xv
                                  refine wpOp_valW ho (by rfl) (v := .bool true) (w' := w') ?_ ⟨_, rfl, rfl, hI, Below.refl _ _⟩
                                  generalize (putL base ds xs 0).eval = ev at *
                                  simp [execOp, xv, go_sem]
                                · obtain rfl := Option.some.inj ho
                                  have hg : xs 14 = .bool true := hV ⟨14, .guard⟩ (by simp) rfl
                                  have hgv := putL_hit ds base xs 0 14 194 (by rw [hds]; rfl) (by rw [hds]; kernel_rfl) (Nat.lt_of_lt_of_le (by decide) hsz)
                                  rw [Nat.zero_add, hg] at hgv
                                  have x := (putL_miss ds base xs 0 2 (by rw [hds]; kernel_rfl)).trans e2
                                  refine wpOp_valW ho (wanted_of (g := 14) (d := 194) rfl rfl hgv) (v := .slice sA S.length sc) (w' := w') ?_ ⟨_, rfl, rfl, hI, Below.refl _ _⟩
                                  generalize (putL base ds xs 0).eval = ev at *
                                  simp [execOp, x, go_sem]
                                · obtain rfl := Option.some.inj ho
                                  have hg : xs 14 = .bool true := hV ⟨14, .guard⟩ (by simp) rfl
                                  have hgv := putL_hit ds base xs 0 14 194 (by rw [hds]; rfl) (by rw [hds]; kernel_rfl) (Nat.lt_of_lt_of_le (by decide) hsz)
                                  rw [Nat.zero_add, hg] at hgv
                                  have xv := putL_hit ds base xs 0 15 195 (by rw [hds]; rfl) (by rw [hds]; kernel_rfl) (Nat.lt_of_lt_of_le (by decide) hsz)
                                  have xe : xs 15 = _ := hV ⟨15, .data⟩ (by simp) rfl
                                  rw [Nat.zero_add, xe] at xv
                                  refine wpOp_enterW ho (wanted_of (g := 14) (d := 194) rfl rfl hgv) (f := 18) (args := #[_]) ?_ ((W2.o w' (HBI.o w' hI)).mono ?_)
                                  · have xf : ∀ f, (putL base ds xs 0).eval (.func f) = .func (.func f) #[] #[] := fun _ => rfl
                                    generalize (putL base ds xs 0).eval = ev at *
                                    simp [execOp, xv, xf, go_sem, resolve, invoke, Call.operands]
                                  · rintro e w'' ⟨⟨v1, m1, rfl, hl1⟩, hb1⟩
                                    exact ⟨v1, rfl, v1, rfl, ⟨m1, IsL.own hl1⟩, bel hI hb1, hb1⟩
                                · obtain rfl := Option.some.inj ho
                                  have hg : xs 14 = .bool true := hV ⟨14, .guard⟩ (by simp) rfl
                                  have hgv := putL_hit ds base xs 0 14 194 (by rw [hds]; rfl) (by rw [hds]; kernel_rfl) (Nat.lt_of_lt_of_le (by decide) hsz)
                                  rw [Nat.zero_add, hg] at hgv
                                  have xv := putL_hit ds base xs 0 16 196 (by rw [hds]; rfl) (by rw [hds]; kernel_rfl) (Nat.lt_of_lt_of_le (by decide) hsz)
                                  obtain ⟨m1, hv⟩ : ∃ m, IsL 1 w' (xs 16) m (cellsB q2) := hV ⟨16, .data⟩ (by simp) rfl
                                  rw [Nat.zero_add] at xv
                                  refine wpOp_valW ho (wanted_of (g := 14) (d := 194) rfl rfl hgv) (v := .string ⟨q2.toArray⟩) (w' := w') ?_ ⟨_, rfl, rfl, hI, Below.refl _ _⟩
                                  generalize (putL base ds xs 0).eval = ev at *
                                  simp [execOp, xv, conv_isL hv, go_sem]
                                · obtain rfl := Option.some.inj ho
                                  have hg : xs 14 = .bool true := hV ⟨14, .guard⟩ (by simp) rfl
                                  have hgv := putL_hit ds base xs 0 14 194 (by rw [hds]; rfl) (by rw [hds]; kernel_rfl) (Nat.lt_of_lt_of_le (by decide) hsz)
                                  rw [Nat.zero_add, hg] at hgv
                                  have x := (putL_miss ds base xs 0 10 (by rw [hds]; kernel_rfl)).trans e10
                                  have xc : ∀ v, (putL base ds xs 0).eval (.const v) = v := fun _ => rfl
                                  refine wpOp_valW ho (wanted_of (g := 14) (d := 194) rfl rfl hgv) (v := .pointer (some ⟨g4, 2, none⟩)) (w' := w') ?_ ⟨_, rfl, rfl, hI, Below.refl _ _⟩
                                  generalize (putL base ds xs 0).eval = ev at *
                                  simp [execOp, x, xc, go_sem]
                                · obtain rfl := Option.some.inj ho
                                  have hg : xs 14 = .bool true := hV ⟨14, .guard⟩ (by simp) rfl
                                  have hgv := putL_hit ds base xs 0 14 194 (by rw [hds]; rfl) (by rw [hds]; kernel_rfl) (Nat.lt_of_lt_of_le (by decide) hsz)
                                  rw [Nat.zero_add, hg] at hgv
                                  have xv := putL_hit ds base xs 0 18 198 (by rw [hds]; rfl) (by rw [hds]; kernel_rfl) (Nat.lt_of_lt_of_le (by decide) hsz)
                                  have xe : xs 18 = _ := hV ⟨18, .data⟩ (by simp) rfl
                                  rw [Nat.zero_add, xe] at xv
                                  have bk := (HK4.o w' hI).cell 2 (by simp)
                                  simp only [List.getElem_cons_zero, List.getElem_cons_succ] at bk
                                  refine wpOp_valW ho (wanted_of (g := 14) (d := 194) rfl rfl hgv) (v := .string ⟨q2.toArray⟩) (w' := w') ?_ ⟨_, rfl, rfl, hI, Below.refl _ _⟩
                                  generalize (putL base ds xs 0).eval = ev at *
                                  simp [execOp, xv, bk, go_sem]
                                · obtain rfl := Option.some.inj ho
                                  have hg : xs 14 = .bool true := hV ⟨14, .guard⟩ (by simp) rfl
                                  have hgv := putL_hit ds base xs 0 14 194 (by rw [hds]; rfl) (by rw [hds]; kernel_rfl) (Nat.lt_of_lt_of_le (by decide) hsz)
                                  rw [Nat.zero_add, hg] at hgv
                                  have xv := putL_hit ds base xs 0 17 197 (by rw [hds]; rfl) (by rw [hds]; kernel_rfl) (Nat.lt_of_lt_of_le (by decide) hsz)
                                  have xe : xs 17 = _ := hV ⟨17, .data⟩ (by simp) rfl
                                  rw [Nat.zero_add, xe] at xv
                                  have yv := putL_hit ds base xs 0 19 199 (by rw [hds]; rfl) (by rw [hds]; kernel_rfl) (Nat.lt_of_lt_of_le (by decide) hsz)
                                  have ye : xs 19 = _ := hV ⟨19, .data⟩ (by simp) rfl
                                  rw [Nat.zero_add, ye] at yv
                                  refine wpOp_valW ho (wanted_of (g := 14) (d := 194) rfl rfl hgv) (v := .bool true) (w' := w') ?_ ⟨_, rfl, rfl, hI, Below.refl _ _⟩
                                  generalize (putL base ds xs 0).eval = ev at *
                                  simp [execOp, xv, yv, go_sem]
                                · obtain rfl := Option.some.inj ho
                                  have xv := putL_hit ds base xs 0 14 194 (by rw [hds]; rfl) (by rw [hds]; kernel_rfl) (Nat.lt_of_lt_of_le (by decide) hsz)
                                  have xe : xs 14 = _ := hV ⟨14, .data⟩ (by simp) rfl
                                  rw [Nat.zero_add, xe] at xv
                                  have yv := putL_hit ds base xs 0 20 200 (by rw [hds]; rfl) (by rw [hds]; kernel_rfl) (Nat.lt_of_lt_of_le (by decide) hsz)
                                  have ye : xs 20 = _ := hV ⟨20, .data⟩ (by simp) rfl
                                  rw [Nat.zero_add, ye] at yv
                                  have xc : ∀ v, (putL base ds xs 0).eval (.const v) = v := fun _ => rfl
                                  refine wpOp_valW ho (by rfl) (v := .bool true) (w' := w') ?_ ⟨_, rfl, rfl, hI, Below.refl _ _⟩
                                  generalize (putL base ds xs 0).eval = ev at *
                                  simp [execOp, xv, yv, xc, go_sem]
                                · obtain rfl := Option.some.inj ho
                                  have xv := putL_hit ds base xs 0 21 201 (by rw [hds]; rfl) (by rw [hds]; kernel_rfl) (Nat.lt_of_lt_of_le (by decide) hsz)
                                  have xe : xs 21 = _ := hV ⟨21, .data⟩ (by simp) rfl
                                  rw [Nat.zero_add, xe] at xv
                                  refine wpOp_valW ho (by rfl) (v := .bool true) (w' := w') ?_ ⟨_, rfl, rfl, hI, Below.refl _ _⟩
                                  generalize (putL base ds xs 0).eval = ev at *
                                  simp [execOp, xv, go_sem]
                              · intro xs wz hI hV
                                have hx : xs 22 = .bool true := hV 22 (by decide)
                                have HIZ := hd hI
                                rw [hbase]
                                clear hbase e1 e2 e3 e10 hsz hV hI base
                                simp only [putL]
                                go_simp
                                go_wp2
                                go_ret
                                exact ⟨by first | rfl | (rw [hx]; rfl), HBw.o _ (HBI.o _ HIZ.o)⟩
end Go.Proofs.YtcbggkdginfakaaGreatDoor
