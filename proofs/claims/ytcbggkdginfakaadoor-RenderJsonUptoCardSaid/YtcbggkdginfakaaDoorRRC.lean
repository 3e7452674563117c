/- weirlaw29.parts. What 2.5 is told as, and a moment of 1500. Plain arithmetic. How an argument api.Result (by value) reads, under the bound. -/
import Derived.Test.YtcbggkdginfakaaDoorRRA
import Derived.Lib.SlBytesConst
import Derived.Test.YtcbggkdginfakaaDoorLOp
import Derived.Lib.SmallJoins
namespace Go.Proofs.YtcbggkdginfakaaDoor
open Go.RowKit
set_option linter.unusedVariables false
set_option linter.unusedSimpArgs false
namespace RS
/-- what may be asked of any result's lists -/
structure Res.Lo (w : World) (r : Res) : Prop where
  E : ∀ i (h : i < r.E.length), ∃ b off, r.eA = some ⟨b, off, none⟩ ∧ b < w.heap.size ∧ w.cell? ⟨b, off + i * 2, none⟩ = some r.E[i].sl ∧ w.cell? ⟨b, off + i * 2 + 1, none⟩ = some (.float .f64 r.E[i].f)
  S : ∀ i (h : i < r.S.length), ∃ b off, r.sA = some ⟨b, off, none⟩ ∧ b < w.heap.size ∧ w.cell? ⟨b, off + i * 2, none⟩ = some r.S[i].sl ∧ w.cell? ⟨b, off + i * 2 + 1, none⟩ = some r.S[i].sp
  nE : r.E.length ≤ 1048576
  nS : r.S.length ≤ 1048576
  lE : ∀ x ∈ r.E, x.l.length ≤ 1048576
  lS : ∀ x ∈ r.S, x.l.length ≤ 1048576 ∧ x.ps.length ≤ 1048576
end RS
@[go_sem] theorem run_store_floatP {P : Program} {w : World} {a : Addr} {m : Mode} (k : FloatKind) (b : Nat) : (store a (.float k b) m).run P w = stored P w a (.float k b) m := run_store P w a _ m rfl
def RS.lE (x : RS.El) : Nat := x.l.length
def RS.lS (x : RS.Sr) : Nat := x.l.length + x.ps.length
/-- what parts answers: above most, or all of them -/
def RS.tot (r : RS.Res) : Nat := r.E.length + r.S.length + RS.wt RS.lE r.E + RS.wt RS.lS r.S
def RS.PA (M : Nat) (r : RS.Res) (n : Nat) : Prop := n ≤ M → n = RS.tot r
set_option maxRecDepth 100000 in
set_option maxHeartbeats 2000000 in
theorem rparts_any (M : Nat) (hM : M ≤ 1048576) (r : RS.Res) (w : World) (hk : r.Lo w) :
    Calls Tryd.prog 5 #[r.val, .int .i64 (M : Int)] w fun e w' => (∃ n : Nat, e = .returned (.int .i64 (n : Int)) ∧ RS.PA M r n) ∧ Below w.heap.size w w' := by
  obtain ⟨W, hW⟩ : ∃ W, W = w.alloc (.cells r.cells.toArray 26) := ⟨_, rfl⟩
  have HBW : Hd (Below w.heap.size w W) := hd (by rw [hW]; exact (Below.refl _ _).alloc (Nat.le_refl _) _)
  have hWz : W.heap.size = w.heap.size + 1 := by rw [hW]; simp
  have HBX : Hd (∀ W', Below W.heap.size W W' → ∀ j (hj : j < 6), W'.cell? ⟨w.heap.size, j, none⟩ = some (r.cells[j]'hj)) := hd fun W' h j hj => by
    rw [h.cell (p := ⟨w.heap.size, j, none⟩) (show w.heap.size < W.heap.size by omega), hW, World.cell?_alloc_mark, ← Array.getElem?_toList, List.getElem?_eq_getElem hj]
  have HK := hd hk
  obtain ⟨ty, t, v, tx, eA, ec, E, sA, sc, S⟩ := r
  have hnE : E.length ≤ 1048576 := hk.nE
  have hnS : S.length ≤ 1048576 := hk.nS
  clear hk
  unfold RS.Res.val
  unfold RS.Res.cells at HBX hW ⊢
  have b4 := HBX.o W (Below.refl _ _) 4 (by decide)
  have b5 := HBX.o W (Below.refl _ _) 5 (by decide)
  simp only [List.getElem_cons_zero, List.getElem_cons_succ] at b4 b5
  go_enter Tryd.func5, Tryd.ntmps5
  go_wp2_with (rw [← hW]; clear hW)
  obtain ⟨ne, hne⟩ : ∃ ne, ne = E.length := ⟨_, rfl⟩
  obtain ⟨ns, hns⟩ : ∃ ns, ns = S.length := ⟨_, rfl⟩
  have HNE := hd hne
  have HNS := hd hns
  rw [← hne] at b4 hnE ⊢
  rw [← hns] at b5 hnS ⊢
  clear hne hns
  go_loopw [5, 20] (fun z x wr => ∃ k Z : Nat, k ≤ ne ∧ x = .int .i64 k ∧ z = .int .i64 Z ∧ Z ≤ 3145728 ∧ Hd (Z = ne + ns + RS.wt RS.lE (E.take k)) ∧ Hd (k = 0 ∨ Z ≤ M) ∧ Hd (Below W.heap.size W wr)) (fun _ x _ => ne - (intOf x).toNat)
  case atStart => exact ⟨0, ne + ns, Nat.zero_le _, rfl, by go_num, by omega, hd rfl, hd (.inl rfl), hd (Below.refl _ _)⟩
  case round =>
    clear b4 b5
    obtain ⟨k, Z, hk, rfl, rfl, hZ, HZE, HZM, HB⟩ := hrel
    by_cases hlt : k < ne
    · have hkx : k < E.length := by rw [← HNE.o]; exact hlt
      obtain ⟨b, off, rfl, hbl, q0, q1⟩ := HK.o.E k hkx
      have hln : E[k].l.length ≤ 1048576 := HK.o.lE _ (List.getElem_mem hkx)
      have hlb : b < W.heap.size := Nat.lt_of_lt_of_le hbl HBW.o.size
      have d0 := (HB.o.cell (p := ⟨b, off + k * 2, none⟩) hlb).trans ((HBW.o.cell (p := ⟨b, off + k * 2, none⟩) hbl).trans q0)
      have d1 := (HB.o.cell (p := ⟨b, off + k * 2 + 1, none⟩) hlb).trans ((HBW.o.cell (p := ⟨b, off + k * 2 + 1, none⟩) hbl).trans q1)
      have HT : Hd (RS.wt RS.lE (E.take (k + 1)) = RS.wt RS.lE (E.take k) + E[k].l.length) := hd (RS.wt_take RS.lE E k hkx)
      clear q0 q1
      unfold RS.El.sl at d0
      generalize E[k]'hkx = x at *
      obtain ⟨xA, xc, xl, xf⟩ := x
      simp only at d0 d1 hln HT
      generalize hy : xl.length = y at *
      have HB1 := hd (HB.o.alloc HB.o.size (.cells #[.slice xA y xc, .float .f64 xf] 44))
      by_cases hbig : Z + y ≤ M
      · have hb3 : ¬ (M : Int) < (Z : Int) + (y : Int) := by omega
        clear hlb
        go_wp2
        go_roundw
        case rel => exact ⟨k + 1, Z + y, by omega, by go_num, by go_num, by omega, hd (by rw [HT.o, HZE.o]; omega), hd (.inr hbig), HB1⟩
        case measure => simp [intOf]; omega
      · have hb3 : (M : Int) < (Z : Int) + (y : Int) := by omega
        clear hlb
        go_wp2
        go_ret
        exact ⟨⟨Z + y, by go_num, fun h => absurd h hbig⟩, HBW.o.trans (HB1.o.mono (by omega))⟩
    · have hkn : k = ne := by omega
      subst hkn
      have HZ1 : Hd (Z = k + ns + RS.wt RS.lE E) := hd (by rw [HZE.o, List.take_of_length_le (by rw [← HNE.o]; exact Nat.le_refl _)])
      have b4 := HBX.o wr HB.o 4 (by decide)
      have b5 := HBX.o wr HB.o 5 (by decide)
      simp only [List.getElem_cons_zero, List.getElem_cons_succ] at b4 b5
      rw [← HNS.o] at b5
      clear HZE b4
      obtain ⟨w1, hw1⟩ : ∃ w1 : World, w1 = wr := ⟨_, rfl⟩
      have HBa := hd HB.o
      rw [hw1.symm] at HBa b5 ⊢
      clear HB hw1
      go_wp2
      go_loopw [5, 37] (fun z x wr => ∃ j Y : Nat, j ≤ ns ∧ x = .int .i64 j ∧ z = .int .i64 Y ∧ Y ≤ 8388608 ∧ Hd (Y = Z + RS.wt RS.lS (S.take j)) ∧ Hd (j = 0 ∨ Y ≤ M) ∧ Hd (Below W.heap.size W wr)) (fun _ x _ => ns - (intOf x).toNat)
      case atStart => exact ⟨0, Z, Nat.zero_le _, rfl, rfl, by omega, hd rfl, hd (.inl rfl), HBa⟩
      case round =>
        clear b5
        obtain ⟨j, Y, hj, rfl, rfl, hY, HYE, HYM, HB⟩ := hrel
        by_cases hlt : j < ns
        · have hkx : j < S.length := by rw [← HNS.o]; exact hlt
          obtain ⟨b, off, rfl, hbl, q0, q1⟩ := HK.o.S j hkx
          have hln := (HK.o.lS _ (List.getElem_mem hkx)).1
          have hlp := (HK.o.lS _ (List.getElem_mem hkx)).2
          have hlb : b < W.heap.size := Nat.lt_of_lt_of_le hbl HBW.o.size
          have d0 := (HB.o.cell (p := ⟨b, off + j * 2, none⟩) hlb).trans ((HBW.o.cell (p := ⟨b, off + j * 2, none⟩) hbl).trans q0)
          have d1 := (HB.o.cell (p := ⟨b, off + j * 2 + 1, none⟩) hlb).trans ((HBW.o.cell (p := ⟨b, off + j * 2 + 1, none⟩) hbl).trans q1)
          have HT : Hd (RS.wt RS.lS (S.take (j + 1)) = RS.wt RS.lS (S.take j) + (S[j].l.length + S[j].ps.length)) := hd (RS.wt_take RS.lS S j hkx)
          clear q0 q1
          unfold RS.Sr.sl at d0
          unfold RS.Sr.sp at d1
          generalize S[j]'hkx = x at *
          obtain ⟨xA, xc, xl, pA, pc, ps⟩ := x
          simp only at d0 d1 hln hlp HT
          generalize hy : xl.length = y at *
          generalize hp : ps.length = p at *
          have HB1 := hd (HB.o.alloc HB.o.size (.cells #[.slice xA y xc, .slice pA p pc] 47))
          by_cases hbig : Y + (y + p) ≤ M
          · have hb3 : ¬ (M : Int) < (Y : Int) + ((y : Int) + (p : Int)) := by omega
            clear hlb
            go_wp2
            go_roundw
            case rel => exact ⟨j + 1, Y + (y + p), by omega, by go_num, by go_num, by omega, hd (by rw [HT.o, HYE.o]; omega), hd (.inr hbig), HB1⟩
            case measure => simp [intOf]; omega
          · have hb3 : (M : Int) < (Y : Int) + ((y : Int) + (p : Int)) := by omega
            clear hlb
            go_wp2
            go_ret
            exact ⟨⟨Y + (y + p), by go_num, fun h => absurd h hbig⟩, HBW.o.trans (HB1.o.mono (by omega))⟩
        · have hjn : j = ns := by omega
          subst hjn
          have HY1 : Hd (Y = Z + RS.wt RS.lS S) := hd (by rw [HYE.o, List.take_of_length_le (by rw [← HNS.o]; exact Nat.le_refl _)])
          go_wp2
          go_ret
          exact ⟨⟨Y, rfl, fun _ => by unfold RS.tot; rw [HY1.o, HZ1.o]; show _ = E.length + S.length + _ + _; rw [← HNE.o, ← HNS.o]⟩, HBW.o.trans (HB.o.mono (by omega))⟩
end Go.Proofs.YtcbggkdginfakaaDoor
namespace Go.Proofs.YtcbggkdginfakaaDoor
set_option linter.unusedVariables false
namespace FS
theorem told2h : Told 4612811918334230528 25 399 := by
  have hm : mOf 4612811918334230528 = 5629499534213120 := by decide +kernel
  have he : eOf 4612811918334230528 = -51 := by decide +kernel
  have hs : sOf 4612811918334230528 = false := by decide +kernel
  unfold Told
  rw [hm, he, hs]
  obtain ⟨V, hV⟩ : ∃ V, V = 4 * 5629499534213120 * uq (-51) := ⟨_, rfl⟩
  obtain ⟨L, hL⟩ : ∃ L, L = 4 * 5629499534213120 * uq (-51) - (if false = true then 1 else 2) * uq (-51) := ⟨_, rfl⟩
  obtain ⟨U, hU⟩ : ∃ U, U = 4 * 5629499534213120 * uq (-51) + 2 * uq (-51) := ⟨_, rfl⟩
  have hVT : 25 * T 399 = V := by rw [hV]; decide +kernel
  have h1 : 2 * T 400 < L := by rw [hL]; decide +kernel
  have h2 : U < 3 * T 400 := by rw [hU]; decide +kernel
  have h3 : L < V := by rw [hL, hV]; decide +kernel
  have h4 : V < U := by rw [hU, hV]; decide +kernel
  rw [← hL, ← hU, ← hV]
  clear hV hL hU hm he hs
  have hT := T_pos 399
  have hT2 := T_pos 400
  refine ⟨?_, fun e he => ?_, fun e he => ⟨?_, fun h => .inl ?_⟩⟩
  · rw [hVT]; exact ⟨.inl h3, .inl h4⟩
  · have he : In (5629499534213120 % 2 == 0) L U (e * T 400) := he
    have := he.le
    rcases Nat.lt_or_ge e 3 with c | c
    · have := Nat.mul_le_mul_right (T 400) (show e ≤ 2 by omega)
      omega
    · have := Nat.mul_le_mul_right (T 400) c
      omega
  · rw [hVT]; unfold dist; omega
  · rw [hVT] at h
    have h5 : e * T 399 = 25 * T 399 := by rw [hVT]; unfold dist at h; omega
    exact Nat.eq_of_mul_eq_mul_right hT h5
theorem digits25h : Lib.decDigits 25 = [50, 53] := by
  rw [Lib.decDigits, dif_neg (by decide), Lib.decDigits_one (by decide)]
  rfl
theorem shown2h : Shown 4612811918334230528 [50, 46, 53] := by
  refine .inr (.inr ⟨by decide +kernel, by decide +kernel, 25, 399, told2h, by decide, ?_⟩)
  rw [digits25h, Lib.nDigits_unique 1 25 (by decide) (by decide), show ng 4612811918334230528 = false by decide +kernel]
  rfl
end FS
def RS.lit : RS.Res := ⟨1, 1500, 4612811918334230528, ⟨#[]⟩, none, 0, [], none, 0, []⟩
def RS.aw : List UInt8 := [123, 34, 115, 116, 97, 116, 117, 115, 34, 58, 34, 115, 117, 99, 99, 101, 115, 115, 34, 44, 34, 100, 97, 116, 97, 34, 58, 123, 34, 114, 101, 115, 117, 108, 116, 84, 121, 112, 101, 34, 58, 34, 115, 99, 97, 108, 97, 114, 34, 44, 34, 114, 101, 115, 117, 108, 116, 34, 58, 91, 49, 46, 53, 44, 34, 50, 46, 53, 34, 93, 125, 125]
theorem sec1500 : T.sec 1500 = [49, 46, 53] := by
  unfold T.sec
  rw [if_neg (by decide), show (1500 : Int).natAbs / 1000 = 1 from rfl, show (1500 : Int).natAbs % 1000 = 500 from rfl, Lib.decDigits_one (by decide)]
  decide
theorem RS.k_lit : RS.bytes RS.lit = RS.aw := by
  unfold RS.bytes
  rw [if_pos (show RS.lit.ty = 1 from rfl)]
  unfold RS.pt RS.lit
  show RS.whole RS.nScalar (91 :: (T.sec 1500 ++ 44 :: 34 :: (FS.tell 4612811918334230528 ++ [34, 93]))) = RS.aw
  rw [sec1500, ← FS.shown2h.eq]
  decide
theorem RS.lit_ok (w : World) (hT : Tbl w) : RS.lit.Ok w :=
  ⟨hT, by decide, by decide, by decide, by decide, fun i h => absurd h (Nat.not_lt_zero _), fun i h => absurd h (Nat.not_lt_zero _), by decide, by decide⟩
end Go.Proofs.YtcbggkdginfakaaDoor
namespace Go.Proofs.YtcbggkdginfakaaDoor
open Go.RowKit Go.ChangeShapes Go.WideShapes Go.Deep Go.Joins
set_option linter.unusedVariables false
theorem row_of {α : Type} {m : Nat} {enc : α → List Value} {P : World → α → Prop} {w : World} {a : Addr} {L : List α} (hm : ∀ x, 0 < (enc x).length)
    (h : ∀ i (hi : i < L.length), (∀ j (hj : j < (enc (L[i]'hi)).length), w.cell? (a.add (i * m + j)) = some ((enc (L[i]'hi))[j])) ∧ P w (L[i]'hi)) : RS.Row m enc P w (some a) L := by
  intro i hi
  obtain ⟨h1, h2⟩ := h i hi
  have hc0 := (h 0 (by omega)).1 0 (hm _)
  rw [Nat.zero_mul, show a.add (0 + 0) = a from by simp [Addr.add]] at hc0
  have ha : a = ⟨a.block, a.off, none⟩ := plain_of_cell hc0
  refine ⟨a.block, a.off, congrArg some ha, World.block_lt_of_cell? w a hc0, fun j hj => ?_, h2⟩
  have h3 := h1 j hj
  rw [ha, add_plain] at h3
  rw [Nat.add_assoc]
  exact h3
section
variable {H : Type} {enc : TypeId × Value → H} {w : World} {base : Nat}
theorem trod_floatR {P : Program} {spare : Nat → Bool} {held : Bool} {fuel : Nat} {t : TypeId} {cs : List Value} {x : DataW H × List MemPlace} {k : FloatKind} (ht : P.underlying t = some (.float k)) (h : DataW.trod enc P w base spare held fuel t cs = some x) : ∃ n, cs = [.float k n] ∧ x = (.lit (.float k n), []) ∧ (Lit.float k n).wf = true := by
  cases fuel with
  | zero => simp [DataW.trod] at h
  | succ n =>
    unfold DataW.trod at h
    rw [ht] at h
    split at h <;> simp_all
theorem trod_intR {P : Program} {spare : Nat → Bool} {held : Bool} {fuel : Nat} {t : TypeId} {cs : List Value} {x : DataW H × List MemPlace} {k : IntKind} (ht : P.underlying t = some (.int k)) (h : DataW.trod enc P w base spare held fuel t cs = some x) : ∃ n, cs = [.int k n] ∧ x = (.lit (.int k n), []) ∧ (Lit.int k n).wf = true := by
  cases fuel with
  | zero => simp [DataW.trod] at h
  | succ n =>
    unfold DataW.trod at h
    rw [ht] at h
    split at h <;> simp_all
theorem trod_boolR {P : Program} {spare : Nat → Bool} {held : Bool} {fuel : Nat} {t : TypeId} {cs : List Value} {x : DataW H × List MemPlace} (ht : P.underlying t = some .bool) (h : DataW.trod enc P w base spare held fuel t cs = some x) : ∃ b, cs = [.bool b] := by
  cases fuel with
  | zero => simp [DataW.trod] at h
  | succ n =>
    unfold DataW.trod at h
    rw [ht] at h
    split at h <;> simp_all
theorem wf_f {n : Nat} (h : (Lit.float .f64 n).wf = true) : n < 18446744073709551616 := by
  simpa [Lit.wf] using h
theorem wf_i {x : Int} (h : (Lit.int .i64 x).wf = true) : -9223372036854775808 ≤ x ∧ x ≤ 9223372036854775807 := by
  simpa [Lit.wf, IntKind.min, IntKind.max, IntKind.signed, IntKind.bits] using h
set_option maxRecDepth 100000 in
theorem open_es {fuel : Nat} {v : Value} {x : DataW H × List MemPlace} (h : DataW.trod enc Tryd.prog w 0 (fun _ => true) true fuel 23 [v] = some x)
    (hb : Rows.uptoBulk x.1 ≤ 1048576) : ∃ (E : List RS.El) (A : Option Addr) (c : Nat), v = .slice A E.length c ∧ RS.IsEs w A E ∧ E.length ≤ 1048576 ∧ ∀ x ∈ E, x.l.length ≤ 1048576 := by
  rcases open_slice_fields Tryd.underlying23 Tryd.underlying44 (by kernel_rfl) (by kernel_rfl) h with ⟨hcs, hx⟩ | ⟨a, len, cap, m, D, Pl, hcs, _, hl, hm, hmm, hx, hi⟩
  · obtain rfl : v = .slice none 0 0 := by simpa using hcs
    exact ⟨[], none, 0, rfl, fun i h => absurd h (Nat.not_lt_zero _), by simp, fun x hx => by cases hx⟩
  · obtain rfl : v = .slice (some a) len cap := by simpa using hcs
    subst hx
    simp only at hb
    rw [bulk_slice] at hb
    have each : ∀ i, i < len → ∃ q : RS.El, w.cell? (a.add (i * 2)) = some q.sl ∧ w.cell? (a.add (i * 2 + 1)) = some (.float .f64 q.f) ∧ IsL 2 w q.sl q.l.length (cellsL q.l) ∧ SmL q.l ∧ q.f < 18446744073709551616 := by
      intro i hil
      obtain ⟨ys, n, hD, _, hyl, hfs⟩ := hi i (by simp only [if_true] at hmm; omega)
      obtain ⟨v0, y0, c0, e0, t0⟩ := hfs 0 _ rfl
      obtain ⟨v1, y1, c1, e1, t1⟩ := hfs 1 _ rfl
      have hp := bulk_part (d := D i) (l := (List.range len).map D) (List.mem_map.2 ⟨i, List.mem_range.2 hil, rfl⟩)
      rw [hD, bulk_agg] at hp
      have b0 := bulk_part (d := y0.1) (l := ys.map (·.1)) (List.mem_map.2 ⟨y0, List.mem_of_getElem? e0, rfl⟩)
      obtain ⟨l, A1, k1, rfl, hL, hS, hcp⟩ := open_lbsC t0 (by omega)
      obtain ⟨f, hf1, _, hw⟩ := trod_floatR Tryd.underlying22 t1
      simp at hf1
      subst hf1
      exact ⟨⟨A1, k1, l, f⟩, c0, c1, hL, hS, wf_f hw⟩
    obtain ⟨E, hlen, hR⟩ := list_of len _ each
    subst hlen
    have hbl := bulk_len ((List.range E.length).map D)
    rw [List.length_map, List.length_range] at hbl
    refine ⟨E, some a, cap, rfl, row_of (fun _ => by simp) fun i hi => ?_, by omega, fun x hx => ?_⟩
    · obtain ⟨r1, r2, r3, r4, r5⟩ := hR i hi
      refine ⟨fun j hj => ?_, r3, r4.2, r5⟩
      match j, hj with
      | 0, _ => exact r1
      | 1, _ => exact r2
    · obtain ⟨k, hk, rfl⟩ := List.mem_iff_getElem.1 hx
      exact (hR k hk).2.2.2.1.1
set_option maxRecDepth 100000 in
theorem open_ps {fuel : Nat} {v : Value} {x : DataW H × List MemPlace} (h : DataW.trod enc Tryd.prog w 0 (fun _ => true) true fuel 45 [v] = some x)
    (hb : Rows.uptoBulk x.1 ≤ 1048576) : ∃ (L : List RS.Pt) (A : Option Addr) (c : Nat), v = .slice A L.length c ∧ RS.IsPs w A L ∧ L.length ≤ 1048576 := by
  rcases open_slice_fields Tryd.underlying45 Tryd.underlying61 (by kernel_rfl) (by kernel_rfl) h with ⟨hcs, hx⟩ | ⟨a, len, cap, m, D, Pl, hcs, _, hl, hm, hmm, hx, hi⟩
  · obtain rfl : v = .slice none 0 0 := by simpa using hcs
    exact ⟨[], none, 0, rfl, fun i h => absurd h (Nat.not_lt_zero _), by simp⟩
  · obtain rfl : v = .slice (some a) len cap := by simpa using hcs
    subst hx
    simp only at hb
    rw [bulk_slice] at hb
    have each : ∀ i, i < len → ∃ q : RS.Pt, w.cell? (a.add (i * 3)) = some (.int .i64 q.t) ∧ w.cell? (a.add (i * 3 + 1)) = some (.float .f64 q.f) ∧ w.cell? (a.add (i * 3 + 2)) = some (.bool q.st) ∧ q.ok := by
      intro i hil
      obtain ⟨ys, n, hD, _, hyl, hfs⟩ := hi i (by simp only [if_true] at hmm; omega)
      obtain ⟨v0, y0, c0, e0, t0⟩ := hfs 0 _ rfl
      obtain ⟨v1, y1, c1, e1, t1⟩ := hfs 1 _ rfl
      obtain ⟨v2, y2, c2, e2, t2⟩ := hfs 2 _ rfl
      obtain ⟨z, hz, _, hzw⟩ := trod_intR Tryd.underlying2 t0
      obtain ⟨f, hf1, _, hw⟩ := trod_floatR Tryd.underlying22 t1
      obtain ⟨b, hb1⟩ := trod_boolR Tryd.underlying4 t2
      simp at hf1 hz hb1
      subst hf1 hz hb1
      exact ⟨⟨z, f, b⟩, c0, c1, c2, (wf_i hzw).1, (wf_i hzw).2, wf_f hw⟩
    obtain ⟨E, hlen, hR⟩ := list_of len _ each
    subst hlen
    have hbl := bulk_len ((List.range E.length).map D)
    rw [List.length_map, List.length_range] at hbl
    refine ⟨E, some a, cap, rfl, row_of (fun _ => by simp) fun i hi => ?_, by omega⟩
    obtain ⟨r1, r2, r3, r4⟩ := hR i hi
    refine ⟨fun j hj => ?_, r4⟩
    match j, hj with
    | 0, _ => exact r1
    | 1, _ => exact r2
    | 2, _ => exact r3
set_option maxRecDepth 100000 in
theorem open_ss {fuel : Nat} {v : Value} {x : DataW H × List MemPlace} (h : DataW.trod enc Tryd.prog w 0 (fun _ => true) true fuel 24 [v] = some x)
    (hb : Rows.uptoBulk x.1 ≤ 1048576) : ∃ (S : List RS.Sr) (A : Option Addr) (c : Nat), v = .slice A S.length c ∧ RS.IsSs w A S ∧ S.length ≤ 1048576 ∧ ∀ x ∈ S, x.l.length ≤ 1048576 ∧ x.ps.length ≤ 1048576 := by
  rcases open_slice_fields Tryd.underlying24 Tryd.underlying47 (by kernel_rfl) (by kernel_rfl) h with ⟨hcs, hx⟩ | ⟨a, len, cap, m, D, Pl, hcs, _, hl, hm, hmm, hx, hi⟩
  · obtain rfl : v = .slice none 0 0 := by simpa using hcs
    exact ⟨[], none, 0, rfl, fun i h => absurd h (Nat.not_lt_zero _), by simp, fun x hx => by cases hx⟩
  · obtain rfl : v = .slice (some a) len cap := by simpa using hcs
    subst hx
    simp only at hb
    rw [bulk_slice] at hb
    have each : ∀ i, i < len → ∃ q : RS.Sr, w.cell? (a.add (i * 2)) = some q.sl ∧ w.cell? (a.add (i * 2 + 1)) = some q.sp ∧ IsL 2 w q.sl q.l.length (cellsL q.l) ∧ SmL q.l ∧ RS.IsPs w q.pA q.ps ∧ q.ps.length ≤ 1048576 := by
      intro i hil
      obtain ⟨ys, n, hD, _, hyl, hfs⟩ := hi i (by simp only [if_true] at hmm; omega)
      obtain ⟨v0, y0, c0, e0, t0⟩ := hfs 0 _ rfl
      obtain ⟨v1, y1, c1, e1, t1⟩ := hfs 1 _ rfl
      have hp := bulk_part (d := D i) (l := (List.range len).map D) (List.mem_map.2 ⟨i, List.mem_range.2 hil, rfl⟩)
      rw [hD, bulk_agg] at hp
      have b0 := bulk_part (d := y0.1) (l := ys.map (·.1)) (List.mem_map.2 ⟨y0, List.mem_of_getElem? e0, rfl⟩)
      have b1 := bulk_part (d := y1.1) (l := ys.map (·.1)) (List.mem_map.2 ⟨y1, List.mem_of_getElem? e1, rfl⟩)
      obtain ⟨l, A1, k1, rfl, hL, hS, hcp⟩ := open_lbsC t0 (by omega)
      obtain ⟨ps, pA, pc, rfl, hP, hPn⟩ := open_ps t1 (by omega)
      exact ⟨⟨A1, k1, l, pA, pc, ps⟩, c0, c1, hL, hS, hP, hPn⟩
    obtain ⟨E, hlen, hR⟩ := list_of len _ each
    subst hlen
    have hbl := bulk_len ((List.range E.length).map D)
    rw [List.length_map, List.length_range] at hbl
    refine ⟨E, some a, cap, rfl, row_of (fun _ => by simp) fun i hi => ?_, by omega, fun x hx => ?_⟩
    · obtain ⟨r1, r2, r3, r4, r5, r6⟩ := hR i hi
      refine ⟨fun j hj => ?_, r3, r4.2, r5⟩
      match j, hj with
      | 0, _ => exact r1
      | 1, _ => exact r2
    · obtain ⟨k, hk, rfl⟩ := List.mem_iff_getElem.1 hx
      exact ⟨(hR k hk).2.2.2.1.1, (hR k hk).2.2.2.2.2⟩
theorem open_agg6 {P : Program} {spare : Nat → Bool} {held : Bool} {r : Reach} {b0 : Nat} {t : TypeId} {f0 f1 f2 f3 f4 f5 : Field} {v : Value} {d : DataW H} {p : List MemPlace} (hs : P.underlying t = some (.struct #[f0, f1, f2, f3, f4, f5])) (hone : oneCellFields P #[f0, f1, f2, f3, f4, f5] = true) (hC : P.cellsOf t = 6)
    (hv : Value.okWide P w r b0 t v) (h : DataW.Trod enc P w base spare held t v d p) :
    ∃ (v0 v1 v2 v3 v4 v5 : Value) (y0 y1 y2 y3 y4 y5 : DataW H × List MemPlace) (n : Nat), v = .agg #[v0, v1, v2, v3, v4, v5] ∧ d = .agg [y0.1, y1.1, y2.1, y3.1, y4.1, y5.1] ∧
      DataW.trod enc P w base spare held n f0.type [v0] = some y0 ∧ DataW.trod enc P w base spare held n f1.type [v1] = some y1 ∧ DataW.trod enc P w base spare held n f2.type [v2] = some y2 ∧ DataW.trod enc P w base spare held n f3.type [v3] = some y3 ∧ DataW.trod enc P w base spare held n f4.type [v4] = some y4 ∧ DataW.trod enc P w base spare held n f5.type [v5] = some y5 := by
  obtain ⟨cs, rfl, hsz⟩ := okWide_struct hs hv
  obtain ⟨l⟩ := cs
  match l, hsz.trans hC with
  | [c0, c1, c2, c3, c4, c5], _ =>
    obtain ⟨fuel, hf⟩ := h
    obtain ⟨xs, n, _, hx, _, hlen, hg⟩ := DataW.trod_struct hs hf
    obtain ⟨o0, k0⟩ := hone_of hone 0 f0 rfl
    obtain ⟨o1, k1⟩ := hone_of hone 1 f1 rfl
    obtain ⟨o2, k2⟩ := hone_of hone 2 f2 rfl
    obtain ⟨o3, k3⟩ := hone_of hone 3 f3 rfl
    obtain ⟨o4, k4⟩ := hone_of hone 4 f4 rfl
    obtain ⟨o5, k5⟩ := hone_of hone 5 f5 rfl
    match xs, hlen with
    | [y0, y1, y2, y3, y4, y5], _ =>
      simp only [Prod.mk.injEq] at hx
      exact ⟨c0, c1, c2, c3, c4, c5, y0, y1, y2, y3, y4, y5, n, rfl, by simpa using hx.1, by simpa [Value.cells, o0, k0] using hg 0 f0 rfl, by simpa [Value.cells, o1, k1] using hg 1 f1 rfl, by simpa [Value.cells, o2, k2] using hg 2 f2 rfl, by simpa [Value.cells, o3, k3] using hg 3 f3 rfl, by simpa [Value.cells, o4, k4] using hg 4 f4 rfl, by simpa [Value.cells, o5, k5] using hg 5 f5 rfl⟩
theorem RS.wt_gE : ∀ l : List RS.El, RS.wt RS.gE l = RS.wt RS.lE l + l.length
  | [] => rfl
  | x :: l => by rw [RS.wt, RS.wt, RS.wt_gE l, List.length_cons]; unfold RS.gE RS.lE; omega
theorem RS.wt_gS : ∀ l : List RS.Sr, RS.wt RS.gS l = RS.wt RS.lS l + l.length
  | [] => rfl
  | x :: l => by rw [RS.wt, RS.wt, RS.wt_gS l, List.length_cons]; unfold RS.gS RS.lS; omega
set_option maxRecDepth 100000 in
theorem open_res {v : Value} {d : DataW H} {p : List MemPlace} (hv : Value.okWide Tryd.prog w .any base 26 v) (h : DataW.Trod enc Tryd.prog w 0 (fun _ => true) true 26 v d p) (hb : Rows.uptoBulk d ≤ 1048576) :
    ∃ r : RS.Res, v = r.val ∧ r.Lo w ∧ (Tbl w → RS.tot r ≤ 1048576 → r.Ok w) := by
  obtain ⟨v0, v1, v2, v3, v4, v5, y0, y1, y2, y3, y4, y5, n, rfl, rfl, t0, t1, t2, t3, t4, t5⟩ := open_agg6 Tryd.underlying26 (by kernel_rfl) (by kernel_rfl) hv h
  rw [bulk_agg] at hb
  have b3 : Rows.uptoBulk y3.1 ≤ 1048576 := by have := bulk_part (d := y3.1) (l := [y0.1, y1.1, y2.1, y3.1, y4.1, y5.1]) (by simp); omega
  have b4 := bulk_part (d := y4.1) (l := [y0.1, y1.1, y2.1, y3.1, y4.1, y5.1]) (by simp)
  have b5 := bulk_part (d := y5.1) (l := [y0.1, y1.1, y2.1, y3.1, y4.1, y5.1]) (by simp)
  obtain ⟨ty, e0, _, _⟩ := trod_intR Tryd.underlying3 t0
  obtain ⟨t, e1, _, wt⟩ := trod_intR Tryd.underlying2 t1
  obtain ⟨f, e2, _, wf⟩ := trod_floatR Tryd.underlying22 t2
  obtain ⟨s, e3, hy3, _⟩ := DataW.trod_string Tryd.underlying9 t3
  obtain ⟨E, eA, ec, rfl, hE, hEn, hEl⟩ := open_es t4 (by omega)
  obtain ⟨S, sA, sc, rfl, hS, hSn, hSl⟩ := open_ss t5 (by omega)
  simp at e0 e1 e2 e3
  subst e0 e1 e2 e3
  rw [hy3] at b3
  simp only at b3
  rw [bulk_str, ← Lib.size_eq] at b3
  refine ⟨⟨ty, t, f, s, eA, ec, E, sA, sc, S⟩, rfl, ⟨fun i hi => ?_, fun i hi => ?_, hEn, hSn, hEl, hSl⟩, fun hT ht => ⟨hT, (wf_i wt).1, (wf_i wt).2, wf_f wf, by show s.size ≤ _; omega, hE, hS, ?_, ?_⟩⟩
  · obtain ⟨b, off, e, hl, h1, h2, _⟩ := hE.at_ i hi
    exact ⟨b, off, e, hl, h1, h2⟩
  · obtain ⟨b, off, e, hl, h1, h2, _⟩ := hS.at_ i hi
    exact ⟨b, off, e, hl, h1, h2⟩
  · show RS.wt RS.gE E ≤ 1048576
    rw [RS.wt_gE]
    have : E.length + S.length + RS.wt RS.lE E + RS.wt RS.lS S ≤ 1048576 := ht
    omega
  · show RS.wt RS.gS S ≤ 1048576
    rw [RS.wt_gS]
    have : E.length + S.length + RS.wt RS.lE E + RS.wt RS.lS S ≤ 1048576 := ht
    omega
end
end Go.Proofs.YtcbggkdginfakaaDoor
