/- internal/strconv.formatBase10, numDigits, setDigits. internal/strconv.fmtEFG at 'f': the digits of the shortest decimal, written out. -/
import Derived.Test.YteckfdohgiddgaaGreatDoorFShfA
import Derived.Lib.ItoaMem
import Derived.Lib.ItoaLen
import Derived.LoopTactic
import Derived.Test.YteckfdohgiddgaaGreatDoorLBase
import Derived.Deep.LoopGhost
namespace Go.Proofs.YteckfdohgiddgaaGreatDoor
open Go.RowKit Go.Sort
set_option linter.unusedVariables false
set_option linter.unusedSimpArgs false
theorem numDigits_any (u : Nat) (h1 : 1 ≤ u) (h2 : u < 18446744073709551616) (w : World) (hT : Tbl w) :
    Calls Tryz.prog 196 #[.int .u64 u] w fun e w' => e = .returned (.int .i64 (Lib.nDigits u)) ∧ w' = w := Any.internal_strconv_numDigits Tryz.laysM284 u h1 h2 w hT.u
theorem grownBy_putRow {α : Type} [Inhabited α] (enc : α → Value) (w : World) (g o n : Nat) (d : Array α) : w.grownBy ((putRow enc w g o d).drewN n) (some g) := by
  refine ⟨rfl, rfl, rfl, by show w.heap.size ≤ (putRow enc w g o d).heap.size; rw [size_putRow]; exact Nat.le_refl _, fun k hk hne => ?_⟩
  have : g ≠ k := fun e => hne (by rw [e])
  show (putRow enc w g o d).heap[k]? = _
  simp [putRow, mapBlock, Array.getElem?_modify, this]
theorem bk_putRow {α : Type} [Inhabited α] (enc : α → Value) {w : World} {g : Nat} {e : TypeId} {L : List Value} (h : Bk w g e L) (o n : Nat) (d : Array α) : ∃ L', Bk ((putRow enc w g o d).drewN n) g e L' ∧ L'.length = L.length := by
  refine ⟨(putCells enc o d L.toArray).toList, ?_, by simp [putCells]⟩
  unfold Bk at *
  show (putRow enc w g o d).heap[g]? = _
  simp [putRow, mapBlock, Array.getElem?_modify, h, onCells]
theorem fmt10_any (g cap u : Nat) (w : World) (T : TypeId) (L : List Value) (hk : Bk w g T L) (hz : ∀ j, j < Lib.nDigits u → w.cell? ⟨g, j, none⟩ = some (.int .u8 0) ∧ w.frozen? ⟨g, j, none⟩ = false) (h1 : 1 ≤ u) (h2 : u < 18446744073709551616) :
    Calls Tryz.prog 197 #[.slice (some ⟨g, 0, none⟩) (Lib.nDigits u) cap, .int .u64 u] w fun e w' => e = .returned (.tuple #[]) ∧
      (∀ j (h : j < (Lib.decDigits u).length), w'.cell? ⟨g, j, none⟩ = some (.int .u8 (((Lib.decDigits u)[j]'h).toNat : Int))) ∧ w.grownBy w' (some g) ∧ ∃ L', Bk w' g T L' ∧ L'.length = L.length := by
  have hn := Lib.nDigits_le20 u h2
  have hH : Holds (fun (b : UInt8) => Value.int .u8 (b.toNat : Int)) w g 0 (Array.replicate (Lib.nDigits u) (0 : UInt8)) := fun j hj => by
    rw [Array.size_replicate] at hj
    obtain ⟨a, b⟩ := hz j hj
    rw [Nat.zero_add, a, b, getElem!_pos _ j (by rw [Array.size_replicate]; exact hj), Array.getElem_replicate]
    exact ⟨rfl, rfl⟩
  have h := Any.internal_strconv_formatBase10 Tryz.laysN285 g 0 cap u (Array.replicate (Lib.nDigits u) (0 : UInt8)) w hH (by rw [Array.size_replicate]; exact Lib.lt_pow_nDigits u) h2 (by rw [Array.size_replicate]; omega)
  rw [Array.size_replicate] at h
  refine Calls.mono h ?_
  rintro e w' ⟨rfl, n, v', dk, rfl, hF⟩
  refine ⟨rfl, fun j hj => ?_, grownBy_putRow _ _ _ _ _ _, bk_putRow _ hk _ _ _⟩
  have hj2 : j < Lib.nDigits u := by rw [Lib.decDigits_length] at hj; exact hj
  rw [World.cell?_drewN, Lib.row_is_numeral hF j hj]
  have := cell?_putRow (fun (b : UInt8) => Value.int .u8 (b.toNat : Int)) w g 0 _ dk hH (by rw [hF.size, Array.size_replicate]) j (by rw [hF.size]; exact hj2)
  rw [Nat.zero_add] at this
  exact this
/-- noughts behind a numeral -/
theorem dec_ten (d : Nat) (h : 1 ≤ d) : Lib.decDigits (d * 10) = Lib.decDigits d ++ [48] ∧ Lib.nDigits (d * 10) = Lib.nDigits d + 1 := by
  constructor
  · rw [Lib.decDigits, dif_neg (by omega), show d * 10 / 10 = d by omega, show d * 10 % 10 = 0 by omega]
    rfl
  · rw [Lib.nDigits_big (by omega), show d * 10 / 10 = d by omega]
theorem dec_tens (d : Nat) (h : 1 ≤ d) : ∀ j, Lib.decDigits (d * 10 ^ j) = Lib.decDigits d ++ List.replicate j 48 ∧ Lib.nDigits (d * 10 ^ j) = Lib.nDigits d + j
  | 0 => by simp
  | j + 1 => by
    obtain ⟨a, b⟩ := dec_tens d h j
    have hp : 1 ≤ d * 10 ^ j := Nat.mul_pos h (Nat.pow_pos (by decide))
    obtain ⟨c, e⟩ := dec_ten (d * 10 ^ j) hp
    rw [Nat.pow_succ, ← Nat.mul_assoc, c, e, a, b, List.append_assoc, List.replicate_succ']
    exact ⟨rfl, by omega⟩
theorem dec_last (d : Nat) (h : d % 10 ≠ 0) : ∃ hl : Lib.nDigits d - 1 < (Lib.decDigits d).length, ((Lib.decDigits d)[Lib.nDigits d - 1]'hl).toNat ≠ 48 := by
  have hp := Lib.nDigits_pos d
  refine ⟨by rw [Lib.decDigits_length]; omega, ?_⟩
  by_cases c : d < 10
  · have e := Lib.decDigits_one (i := d) c
    have e2 : Lib.nDigits d = 1 := Lib.nDigits_small c
    simp only [e, e2]
    simp only [Nat.sub_self, List.getElem_cons_zero, UInt8.toNat_ofNat']
    omega
  · have e : Lib.decDigits d = Lib.decDigits (d / 10) ++ [UInt8.ofNat (48 + d % 10)] := by rw [Lib.decDigits, dif_neg c]
    have e2 : Lib.nDigits d = Lib.nDigits (d / 10) + 1 := Lib.nDigits_big c
    simp only [e, e2]
    rw [List.getElem_append_right (by rw [Lib.decDigits_length]; omega)]
    simp only [Lib.decDigits_length, Nat.add_sub_cancel, Nat.sub_self, List.getElem_cons_zero, UInt8.toNat_ofNat']
    omega
set_option maxHeartbeats 1000000 in
set_option maxRecDepth 100000 in
theorem setDigits_any (g d j : Nat) (p : Int) (w : World) (T : TypeId) (L : List Value) (hk : Bk w g T L) (hz : ∀ k, k < Lib.nDigits (d * 10 ^ j) → w.cell? ⟨g, k, none⟩ = some (.int .u8 0) ∧ w.frozen? ⟨g, k, none⟩ = false) (h1 : d % 10 ≠ 0) (h2 : d * 10 ^ j < 18446744073709551616) (hp0 : -10000 ≤ p) (hp1 : p ≤ 10000) :
    Calls Tryz.prog 252 #[.slice (some ⟨g, 0, none⟩) 32 32, .int .u64 (d * 10 ^ j : Nat), .int .i64 p, .int .i64 (Lib.nDigits (d * 10 ^ j))] w fun e w' => e = .returned (.tuple #[.int .i64 ((Lib.nDigits d + j : Nat) + p), .int .i64 (Lib.nDigits d)]) ∧
      (∀ k (h : k < (Lib.decDigits d).length), w'.cell? ⟨g, k, none⟩ = some (.int .u8 (((Lib.decDigits d)[k]'h).toNat : Int))) ∧ w.grownBy w' (some g) ∧ ∃ L', Bk w' g T L' ∧ L'.length = L.length := by
  have hd1 : 1 ≤ d := by omega
  obtain ⟨ed, en⟩ := dec_tens d hd1 j
  have hu1 : 1 ≤ d * 10 ^ j := Nat.mul_pos hd1 (Nat.pow_pos (by decide))
  have hn20 := Lib.nDigits_le20 _ h2
  have HF := hd (fmt10_any g 32 (d * 10 ^ j) w T L hk hz hu1 h2)
  have HL := hd (dec_last d h1)
  have hpos := Lib.nDigits_pos d
  have hlen := Lib.decDigits_length d
  have HE := hd ed
  rw [en] at HF hn20 ⊢
  generalize Lib.nDigits d = n at *
  have HLN := hd hlen
  clear hz h1 h2 ed hlen hu1 en hk
  generalize d * 10 ^ j = u at *
  go_enter Tryz.func252, Tryz.ntmps252
  have z1 : ((n : Int) + (j : Int)) ≤ 32 := by omega
  go_wp2_with (go_at_call 197; refine HF.o.mono ?_; rintro e w2 ⟨rfl, hc, hg, hbk⟩)
  have HBK := hd hbk
  clear hbk
  have HC := hd hc
  have HG := hd hg
  clear hc hg HF
  go_wp2
  go_loop [3] (fun v => ∃ k : Nat, k ≤ j ∧ v = .int .i64 ((n + k : Nat) : Int)) (fun v => (intOf v).toNat)
  case atStart => exact ⟨j, Nat.le_refl _, by push_cast; rfl⟩
  case round =>
    obtain ⟨k, hk, rfl⟩ := hrel
    have hpz : (0 : Int) < (n : Int) + (k : Int) := by omega
    by_cases hk0 : k = 0
    · subst hk0
      obtain ⟨hl, hne⟩ := HL.o
      have c0 : w2.cell? ⟨g, n - 1, none⟩ = some (.int .u8 (((Lib.decDigits d)[n - 1]'hl).toNat : Int)) := by
        have := HC.o (n - 1) (by rw [HE.o, List.length_append]; omega)
        rw [this]; congr 3; simp only [HE.o]; rw [List.getElem_append_left hl]
      have hb : ((((Lib.decDigits d)[n - 1]'hl).toNat : Int) == 48) = false := by rw [beq_eq_false_iff_ne]; omega
      generalize (Lib.decDigits d)[n - 1]'hl = c at *
      have e1 : ((n : Int) - 1).toNat = n - 1 := by omega
      have e2 : (n : Int) - 1 = ((n - 1 : Nat) : Int) := by omega
      go_wp2
      go_ret2
      refine ⟨rfl, fun q hq => ?_, HG.o, HBK.o⟩
      rw [HC.o q (by rw [HE.o, List.length_append]; omega)]
      congr 3; simp only [HE.o]; rw [List.getElem_append_left hq]
    · have c0 : w2.cell? ⟨g, n + k - 1, none⟩ = some (.int .u8 48) := by
        have hl : n + k - 1 < (Lib.decDigits u).length := by rw [HE.o, List.length_append, List.length_replicate]; have := HLN.o; omega
        rw [HC.o (n + k - 1) hl]
        congr 2
        simp only [HE.o]
        rw [List.getElem_append_right (by have := HLN.o; omega), List.getElem_replicate]
        rfl
      have e1 : ((n : Int) + (k : Int) - 1).toNat = n + k - 1 := by omega
      have e2 : (n : Int) + (k : Int) - 1 = ((n + k - 1 : Nat) : Int) := by omega
      have hk1 : 1 ≤ k := by omega
      clear hk0
      go_wp2
      go_round
      case rel => exact ⟨k - 1, by omega, by first | (congr 1; omega) | omega⟩
      case measure => simp [intOf]; omega
end Go.Proofs.YteckfdohgiddgaaGreatDoor
namespace Go.Proofs.YteckfdohgiddgaaGreatDoor
open Go.RowKit
set_option linter.unusedVariables false
set_option linter.unusedSimpArgs false
theorem info_u8f : (Tryz.prog.info? 5).map (fun i => (i.zero, i.size, i.bytes)) = some (some (.int .u8 0), 1, 1) := by kernel_rfl
/-- bytes that are being written, beside a block that is read -/
structure Fo (w0 : World) (B G : Nat) (L : List Value) (v : Value) (bs : List UInt8) (w : World) : Prop where
  o : w.ownsRow B 5 1 v bs.length (cellsB bs)
  k : Bk w G 284 L
  b : Below B w0 w
  z : B ≤ w.heap.size
theorem Fo.push {w0 w w' : World} {B G : Nat} {L : List Value} {v v' : Value} {bs : List UInt8} (h : Fo w0 B G L v bs w) (c : UInt8) {x : Int} (hx : x = (c.toNat : Int)) (ho : w'.ownsRow B 5 1 v' (bs.length + 1) (cellsB bs ++ [.int .u8 x])) (hg : w.grownBy w' v.ownBlock) : Fo w0 B G L v' (bs ++ [c]) w' := by
  subst hx
  refine ⟨by rw [List.length_append, cellsB_app]; exact ho, (hg.block G h.k.lt (fun e => ?_)).trans h.k, h.b.grown hg h.z (fun q hq => (h.o.lt q hq).1), Nat.le_trans h.z hg.size⟩
  exact own_other h.o h.k (by decide) e.symm
section
variable {P : Program}
/-- append of one byte -/
theorem wpList_push {ops : Array Oper} {rest : List Oper} {o : Oper} {a : Act} {Q : Exit → Act → World → Prop} (ht : P.underlying 32 = some (.slice 5)) (hinfo : (P.info? 5).map (fun i => (i.zero, i.size, i.bytes)) = some (some (.int .u8 0), 1, 1))
    (hgd : o.guard = none) (s x : Operand) (ho : o.op = .call { callee := .builtin .append, args := #[s, x], argTypes := #[32, 32] })
    {w0 W : World} {B G : Nat} {L : List Value} {v : Value} {bs : List UInt8} (hF : Fo w0 B G L v bs W) (hl : bs.length ≤ 1000) (c : UInt8) (X : Int) (hX : X = (c.toNat : Int)) (H : Nat) (hH : W.heap.size = H) (hs : a.eval s = v) (hx : a.eval x = .slice (some ⟨H, 0, none⟩) 1 1)
    (h : ∀ v' w', Fo w0 B G L v' (bs ++ [c]) w' → wpList P ops Q rest (a.put o.dst v') w') : wpList P ops Q (o :: rest) a (W.alloc (.cells #[.int .u8 X] 5)) :=
  wpList_app_litH 32 5 (.int .u8 0) 1 1 ht hinfo rfl (by decide) hgd s x ho B v bs.length (cellsB bs) W #[.int .u8 X] 1 H hH hs hx hF.o rfl (by simp [Value.oneCell']) (by omega) (by omega) hF.z fun v' w' h1 h2 => h v' w' (hF.push c hX h1 h2)
end
/-- the sign -/
def sgn (neg : Bool) : List UInt8 := if neg then [45] else []
theorem dig_snoc (D : List UInt8) (o i : Nat) (h : o + i < D.length) : (D.drop o).take i ++ [D[o + i]'h] = (D.drop o).take (i + 1) := by
  rw [List.take_succ_eq_append_getElem (by rw [List.length_drop]; omega)]
  simp
theorem rep_snoc (c : UInt8) (k : Nat) : List.replicate k c ++ [c] = List.replicate (k + 1) c := (List.replicate_succ' ..).symm
set_option maxHeartbeats 4000000 in
set_option maxRecDepth 100000 in
theorem efg1p (w0 w : World) (B G : Nat) (L : List Value) (v : Value) (D : List UInt8) (q : Nat) (hq : q ≤ 400) (hO : Fo w0 B G L v [] w) (hD : 1 ≤ D.length) (hD2 : D.length ≤ 20)
    (hL : ∀ i (h : i < D.length), w.cell? ⟨G, i, none⟩ = some (.int .u8 ((D[i]'h).toNat : Int))) :
    Calls Tryz.prog 250 #[v, .bool false, .slice (some ⟨G, 0, none⟩) 32 32, .int .i64 (-(q : Int)), .int .i64 D.length, .int .i64 ((D.length + q : Nat) : Int), .int .u8 102, .bool true] w fun e w' =>
      ∃ v', e = .returned v' ∧ Fo w0 B G L v' (sgn false ++ [48, 46] ++ List.replicate q 48 ++ D) w' := by
  have HO0 := hd hO
  have HL := hd (fun i (h : i < D.length) => show L[i]? = some (.int .u8 ((D[i]'h).toNat : Int)) by
    have h1 := hL i h
    have h2 := hO.k
    unfold Bk at h2
    unfold World.cell? at h1
    rw [h2] at h1
    simpa using h1)
  have HC := hd (fun (W : World) (v : Value) bs (h : Fo w0 B G L v bs W) i (hi : i < D.length) => show W.cell? ⟨G, i, none⟩ = some (.int .u8 ((D[i]'hi).toNat : Int)) by
    have h1 := HL.o i hi
    obtain ⟨hl, h2⟩ := List.getElem?_eq_some_iff.1 h1
    rw [h.k.cell i hl, h2])
  clear hL hO HL
  obtain ⟨n, hn⟩ : ∃ n, n = D.length := ⟨_, rfl⟩
  have HN := hd hn
  have z1 : (n : Int) + q ≤ 1000 := by omega
  have z2 : (1 : Int) ≤ (n : Int) := by omega
  have z3 : (0 : Int) ≤ (q : Int) := by omega
  rw [show ((D.length + q : Nat) : Int) = (n : Int) + q by omega, ← hn]
  have y1 : ¬ (0 : Int) < -(q : Int) := by omega
  have y2 : (0 : Int) < (n : Int) + q := by omega
  have hnD : n ≤ 20 := by omega
  clear hn hD hD2
  have r1 : min ((n : Int) + q) (q : Int) = q := by omega
  have r2 : -(q : Int) + q = 0 := by omega
  have r3 : max (0 : Int) (n : Int) = n := by omega
  have r4 : (n : Int) + q - q = n := by omega
  have r5 : max (0 : Int) (q : Int) = q := by omega
  go_enter Tryz.func250, Tryz.ntmps250
  go_wp2_with (at_builtin; refine wpList_push Tryz.underlying32 info_u8f rfl _ _ rfl HO0.o (by have := HN.o; simp only [List.length_append, List.length_take, List.length_drop, List.length_replicate, List.length_cons, List.length_nil]; omega) 48 48 rfl _ rfl rfl rfl ?_)
  intro v' w' h
  have H1 := hd h
  clear h
  go_wp2_with (at_builtin; refine wpList_push Tryz.underlying32 info_u8f rfl _ _ rfl H1.o (by have := HN.o; simp only [List.length_append, List.length_take, List.length_drop, List.length_replicate, List.length_cons, List.length_nil]; omega) 46 46 rfl _ rfl rfl rfl ?_)
  intro v' w' h
  have H2 := hd h
  clear h
  go_wp2
  go_loopg [0, 240] q (fun kx x0 x wr => ∃ i : Nat, i ≤ q ∧ x = .int .i64 i ∧ q - i ≤ kx ∧ Hd (Fo w0 B G L x0 ([48, 46] ++ List.replicate i 48) wr))
  case atStart => exact ⟨0, Nat.zero_le _, rfl, Nat.le_refl _, hd (by have h := H2.o; simpa using h)⟩
  case round =>
    clear H2
    obtain ⟨i, hi, rfl, hkx, H3⟩ := hrel
    by_cases hlt : i < q
    · have hlz : (i : Int) < ((q : Nat) : Int) := by omega
      go_wp2_with (at_builtin; refine wpList_push Tryz.underlying32 info_u8f rfl _ _ rfl H3.o (by have := HN.o; simp only [List.length_append, List.length_take, List.length_drop, List.length_replicate, List.length_cons, List.length_nil]; omega) 48 48 rfl _ rfl rfl rfl ?_)
      intro v' w' h
      have HX := hd h
      clear h
      go_wp2
      go_roundg (q - (i + 1))
      case measure => omega
      case rel => exact ⟨i + 1, by omega, by go_num, by omega, hd (by have h := HX.o; simpa [rep_snoc] using h)⟩
    · have hlz : ¬ (i : Int) < ((q : Nat) : Int) := by omega
      have hiq : i = q := by omega
      rw [hiq] at H3
      clear hlt hiq hi hkx
      go_wp2
      go_loopg [0, 247] n (fun kx x0 x wr => ∃ i : Nat, i ≤ n ∧ x = .int .i64 i ∧ n - i ≤ kx ∧ Hd (Fo w0 B G L x0 ([48, 46] ++ List.replicate q 48 ++ (D.drop 0).take i) wr))
      case atStart => exact ⟨0, Nat.zero_le _, rfl, Nat.le_refl _, hd (by have h := H3.o; simpa using h)⟩
      case round =>
        clear H3
        obtain ⟨i, hi, rfl, hkx, H4⟩ := hrel
        by_cases hlt : i < n
        · have hlz : (i : Int) < ((n : Nat) : Int) := by omega
          have hiD : 0 + i < D.length := by have := HN.o; omega
          have c0 := HC.o _ _ _ H4.o (0 + i) hiD
          have HDS := hd (dig_snoc D 0 i hiD)
          have e1 : (((0 : Nat) : Int) + (i : Int)).toNat = 0 + i := by omega
          generalize D[0 + i]'hiD = cc at *
          rw [Nat.zero_add] at c0
          clear e1
          go_wp2_with (at_builtin; refine wpList_push Tryz.underlying32 info_u8f rfl _ _ rfl H4.o (by have := HN.o; simp only [List.length_append, List.length_take, List.length_drop, List.length_replicate, List.length_cons, List.length_nil]; omega) cc (cc.toNat : Int) rfl _ rfl rfl rfl ?_)
          intro v' w' h
          have HX := hd h
          clear h
          clear c0
          go_wp2
          go_roundg (n - (i + 1))
          case measure => omega
          case rel => exact ⟨i + 1, by omega, by go_num, by omega, hd (by have h := HX.o; have h2 := HDS.o; (try simp at h2); simpa [h2] using h)⟩
        · have hlz : ¬ (i : Int) < ((n : Nat) : Int) := by omega
          have hiq : i = n := by omega
          rw [hiq] at H4
          clear hlt hiq hi hkx
          go_wp2
          go_loopg [0, 261] 0 (fun kx x0 x wr => x = .int .i64 0 ∧ Hd (Fo w0 B G L x0 ([48, 46] ++ List.replicate q 48 ++ (D.drop 0).take n) wr))
          case atStart => exact ⟨rfl, H4⟩
          case round =>
            clear H4
            obtain ⟨rfl, H4⟩ := hrel
            go_wp2
            go_ret
            exact ⟨_, rfl, by have h := H4.o; have hn := HN.o; simpa [sgn, hn] using h⟩
set_option maxHeartbeats 4000000 in
set_option maxRecDepth 100000 in
theorem efg1n (w0 w : World) (B G : Nat) (L : List Value) (v : Value) (D : List UInt8) (q : Nat) (hq : q ≤ 400) (hO : Fo w0 B G L v [] w) (hD : 1 ≤ D.length) (hD2 : D.length ≤ 20)
    (hL : ∀ i (h : i < D.length), w.cell? ⟨G, i, none⟩ = some (.int .u8 ((D[i]'h).toNat : Int))) :
    Calls Tryz.prog 250 #[v, .bool true, .slice (some ⟨G, 0, none⟩) 32 32, .int .i64 (-(q : Int)), .int .i64 D.length, .int .i64 ((D.length + q : Nat) : Int), .int .u8 102, .bool true] w fun e w' =>
      ∃ v', e = .returned v' ∧ Fo w0 B G L v' (sgn true ++ [48, 46] ++ List.replicate q 48 ++ D) w' := by
  have HO0 := hd hO
  have HL := hd (fun i (h : i < D.length) => show L[i]? = some (.int .u8 ((D[i]'h).toNat : Int)) by
    have h1 := hL i h
    have h2 := hO.k
    unfold Bk at h2
    unfold World.cell? at h1
    rw [h2] at h1
    simpa using h1)
  have HC := hd (fun (W : World) (v : Value) bs (h : Fo w0 B G L v bs W) i (hi : i < D.length) => show W.cell? ⟨G, i, none⟩ = some (.int .u8 ((D[i]'hi).toNat : Int)) by
    have h1 := HL.o i hi
    obtain ⟨hl, h2⟩ := List.getElem?_eq_some_iff.1 h1
    rw [h.k.cell i hl, h2])
  clear hL hO HL
  obtain ⟨n, hn⟩ : ∃ n, n = D.length := ⟨_, rfl⟩
  have HN := hd hn
  have z1 : (n : Int) + q ≤ 1000 := by omega
  have z2 : (1 : Int) ≤ (n : Int) := by omega
  have z3 : (0 : Int) ≤ (q : Int) := by omega
  rw [show ((D.length + q : Nat) : Int) = (n : Int) + q by omega, ← hn]
  have y1 : ¬ (0 : Int) < -(q : Int) := by omega
  have y2 : (0 : Int) < (n : Int) + q := by omega
  have hnD : n ≤ 20 := by omega
  clear hn hD hD2
  have r1 : min ((n : Int) + q) (q : Int) = q := by omega
  have r2 : -(q : Int) + q = 0 := by omega
  have r3 : max (0 : Int) (n : Int) = n := by omega
  have r4 : (n : Int) + q - q = n := by omega
  have r5 : max (0 : Int) (q : Int) = q := by omega
  go_enter Tryz.func250, Tryz.ntmps250
  go_wp2_with (at_builtin; refine wpList_push Tryz.underlying32 info_u8f rfl _ _ rfl HO0.o (by have := HN.o; simp only [List.length_append, List.length_take, List.length_drop, List.length_replicate, List.length_cons, List.length_nil]; omega) 45 45 rfl _ rfl rfl rfl ?_)
  intro v' w' h
  have HS := hd h
  clear h
  go_wp2_with (at_builtin; refine wpList_push Tryz.underlying32 info_u8f rfl _ _ rfl HS.o (by have := HN.o; simp only [List.length_append, List.length_take, List.length_drop, List.length_replicate, List.length_cons, List.length_nil]; omega) 48 48 rfl _ rfl rfl rfl ?_)
  intro v' w' h
  have H1 := hd h
  clear h
  go_wp2_with (at_builtin; refine wpList_push Tryz.underlying32 info_u8f rfl _ _ rfl H1.o (by have := HN.o; simp only [List.length_append, List.length_take, List.length_drop, List.length_replicate, List.length_cons, List.length_nil]; omega) 46 46 rfl _ rfl rfl rfl ?_)
  intro v' w' h
  have H2 := hd h
  clear h
  go_wp2
  go_loopg [0, 240] q (fun kx x0 x wr => ∃ i : Nat, i ≤ q ∧ x = .int .i64 i ∧ q - i ≤ kx ∧ Hd (Fo w0 B G L x0 ([45, 48, 46] ++ List.replicate i 48) wr))
  case atStart => exact ⟨0, Nat.zero_le _, rfl, Nat.le_refl _, hd (by have h := H2.o; simpa using h)⟩
  case round =>
    clear H2
    obtain ⟨i, hi, rfl, hkx, H3⟩ := hrel
    by_cases hlt : i < q
    · have hlz : (i : Int) < ((q : Nat) : Int) := by omega
      go_wp2_with (at_builtin; refine wpList_push Tryz.underlying32 info_u8f rfl _ _ rfl H3.o (by have := HN.o; simp only [List.length_append, List.length_take, List.length_drop, List.length_replicate, List.length_cons, List.length_nil]; omega) 48 48 rfl _ rfl rfl rfl ?_)
      intro v' w' h
      have HX := hd h
      clear h
      go_wp2
      go_roundg (q - (i + 1))
      case measure => omega
      case rel => exact ⟨i + 1, by omega, by go_num, by omega, hd (by have h := HX.o; simpa [rep_snoc] using h)⟩
    · have hlz : ¬ (i : Int) < ((q : Nat) : Int) := by omega
      have hiq : i = q := by omega
      rw [hiq] at H3
      clear hlt hiq hi hkx
      go_wp2
      go_loopg [0, 247] n (fun kx x0 x wr => ∃ i : Nat, i ≤ n ∧ x = .int .i64 i ∧ n - i ≤ kx ∧ Hd (Fo w0 B G L x0 ([45, 48, 46] ++ List.replicate q 48 ++ (D.drop 0).take i) wr))
      case atStart => exact ⟨0, Nat.zero_le _, rfl, Nat.le_refl _, hd (by have h := H3.o; simpa using h)⟩
      case round =>
        clear H3
        obtain ⟨i, hi, rfl, hkx, H4⟩ := hrel
        by_cases hlt : i < n
        · have hlz : (i : Int) < ((n : Nat) : Int) := by omega
          have hiD : 0 + i < D.length := by have := HN.o; omega
          have c0 := HC.o _ _ _ H4.o (0 + i) hiD
          have HDS := hd (dig_snoc D 0 i hiD)
          have e1 : (((0 : Nat) : Int) + (i : Int)).toNat = 0 + i := by omega
          generalize D[0 + i]'hiD = cc at *
          rw [Nat.zero_add] at c0
          clear e1
          go_wp2_with (at_builtin; refine wpList_push Tryz.underlying32 info_u8f rfl _ _ rfl H4.o (by have := HN.o; simp only [List.length_append, List.length_take, List.length_drop, List.length_replicate, List.length_cons, List.length_nil]; omega) cc (cc.toNat : Int) rfl _ rfl rfl rfl ?_)
          intro v' w' h
          have HX := hd h
          clear h
          clear c0
          go_wp2
          go_roundg (n - (i + 1))
          case measure => omega
          case rel => exact ⟨i + 1, by omega, by go_num, by omega, hd (by have h := HX.o; have h2 := HDS.o; (try simp at h2); simpa [h2] using h)⟩
        · have hlz : ¬ (i : Int) < ((n : Nat) : Int) := by omega
          have hiq : i = n := by omega
          rw [hiq] at H4
          clear hlt hiq hi hkx
          go_wp2
          go_loopg [0, 261] 0 (fun kx x0 x wr => x = .int .i64 0 ∧ Hd (Fo w0 B G L x0 ([45, 48, 46] ++ List.replicate q 48 ++ (D.drop 0).take n) wr))
          case atStart => exact ⟨rfl, H4⟩
          case round =>
            clear H4
            obtain ⟨rfl, H4⟩ := hrel
            go_wp2
            go_ret
            exact ⟨_, rfl, by have h := H4.o; have hn := HN.o; simpa [sgn, hn] using h⟩
set_option maxHeartbeats 4000000 in
set_option maxRecDepth 100000 in
theorem efg2p (w0 w : World) (B G : Nat) (L : List Value) (v : Value) (D : List UInt8) (k : Nat) (hk0 : 0 < k) (hkn : k < D.length) (hO : Fo w0 B G L v [] w) (hD : 1 ≤ D.length) (hD2 : D.length ≤ 20)
    (hL : ∀ i (h : i < D.length), w.cell? ⟨G, i, none⟩ = some (.int .u8 ((D[i]'h).toNat : Int))) :
    Calls Tryz.prog 250 #[v, .bool false, .slice (some ⟨G, 0, none⟩) 32 32, .int .i64 (k : Int), .int .i64 D.length, .int .i64 ((D.length - k : Nat) : Int), .int .u8 102, .bool true] w fun e w' =>
      ∃ v', e = .returned v' ∧ Fo w0 B G L v' (sgn false ++ D.take k ++ [46] ++ D.drop k) w' := by
  have HO0 := hd hO
  have HL := hd (fun i (h : i < D.length) => show L[i]? = some (.int .u8 ((D[i]'h).toNat : Int)) by
    have h1 := hL i h
    have h2 := hO.k
    unfold Bk at h2
    unfold World.cell? at h1
    rw [h2] at h1
    simpa using h1)
  have HC := hd (fun (W : World) (v : Value) bs (h : Fo w0 B G L v bs W) i (hi : i < D.length) => show W.cell? ⟨G, i, none⟩ = some (.int .u8 ((D[i]'hi).toNat : Int)) by
    have h1 := HL.o i hi
    obtain ⟨hl, h2⟩ := List.getElem?_eq_some_iff.1 h1
    rw [h.k.cell i hl, h2])
  clear hL hO HL
  obtain ⟨n, hn⟩ : ∃ n, n = D.length := ⟨_, rfl⟩
  have HN := hd hn
  obtain ⟨m, rfl⟩ : ∃ m, n = k + m := ⟨n - k, by omega⟩
  have z1 : (k : Int) + m ≤ 1000 := by omega
  have z2 : (1 : Int) ≤ (k : Int) := by omega
  have z3 : (1 : Int) ≤ (m : Int) := by omega
  have HKM := hd (show D.length = k + m from hn.symm)
  rw [show ((D.length - k : Nat) : Int) = (m : Int) by omega, ← hn, Int.natCast_add]
  clear hkn
  have hnD : k + m ≤ 20 := by omega
  clear hn hD hD2
  have r1 : min ((k : Int) + m) (k : Int) = k := by omega
  have r2 : max (0 : Int) (-(k : Int)) = 0 := by omega
  have r3 : min (m : Int) 0 = 0 := by omega
  have r4 : (k : Int) + m - k = m := by omega
  have r5 : max (0 : Int) (m : Int) = m := by omega
  go_enter Tryz.func250, Tryz.ntmps250
  go_wp2
  go_loopg [0, 191] k (fun kx x0 x wr => ∃ i : Nat, i ≤ k ∧ x = .int .i64 i ∧ k - i ≤ kx ∧ Hd (Fo w0 B G L x0 ([] ++ (D.drop 0).take i) wr))
  case atStart => exact ⟨0, Nat.zero_le _, rfl, Nat.le_refl _, hd (by have h := HO0.o; simpa using h)⟩
  case round =>
    clear HO0
    obtain ⟨i, hi, rfl, hkx, H1⟩ := hrel
    by_cases hlt : i < k
    · have hlz : (i : Int) < ((k : Nat) : Int) := by omega
      have hiD : 0 + i < D.length := by have := HN.o; omega
      have c0 := HC.o _ _ _ H1.o (0 + i) hiD
      have HDS := hd (dig_snoc D 0 i hiD)
      have e1 : (((0 : Nat) : Int) + (i : Int)).toNat = 0 + i := by omega
      generalize D[0 + i]'hiD = cc at *
      rw [Nat.zero_add] at c0
      clear e1
      go_wp2_with (at_builtin; refine wpList_push Tryz.underlying32 info_u8f rfl _ _ rfl H1.o (by have := HN.o; simp only [List.length_append, List.length_take, List.length_drop, List.length_replicate, List.length_cons, List.length_nil]; omega) cc (cc.toNat : Int) rfl _ rfl rfl rfl ?_)
      intro v' w' h
      have HX := hd h
      clear h
      clear c0
      go_wp2
      go_roundg (k - (i + 1))
      case measure => omega
      case rel => exact ⟨i + 1, by omega, by go_num, by omega, hd (by have h := HX.o; have h2 := HDS.o; (try simp at h2); simpa [h2] using h)⟩
    · have hlz : ¬ (i : Int) < ((k : Nat) : Int) := by omega
      have hiq : i = k := by omega
      rw [hiq] at H1
      clear hlt hiq hi hkx
      go_wp2
      go_loopg [0, 203] 0 (fun kx x0 x wr => x = .int .i64 0 ∧ Hd (Fo w0 B G L x0 ([] ++ (D.drop 0).take k) wr))
      case atStart => exact ⟨rfl, H1⟩
      case round =>
        clear H1
        obtain ⟨rfl, H1⟩ := hrel
        go_wp2_with (at_builtin; refine wpList_push Tryz.underlying32 info_u8f rfl _ _ rfl H1.o (by have := HN.o; simp only [List.length_append, List.length_take, List.length_drop, List.length_replicate, List.length_cons, List.length_nil]; omega) 46 46 rfl _ rfl rfl rfl ?_)
        intro v' w' h
        have H2 := hd h
        clear h
        go_wp2
        go_loopg [0, 240] 0 (fun kx x0 x wr => x = .int .i64 0 ∧ Hd (Fo w0 B G L x0 ([] ++ (D.drop 0).take k ++ [46]) wr))
        case atStart => exact ⟨rfl, H2⟩
        case round =>
          clear H2
          obtain ⟨rfl, H2⟩ := hrel
          go_wp2
          go_loopg [0, 247] m (fun kx x0 x wr => ∃ i : Nat, i ≤ m ∧ x = .int .i64 i ∧ m - i ≤ kx ∧ Hd (Fo w0 B G L x0 ([] ++ (D.drop 0).take k ++ [46] ++ (D.drop k).take i) wr))
          case atStart => exact ⟨0, Nat.zero_le _, rfl, Nat.le_refl _, hd (by have h := H2.o; simpa using h)⟩
          case round =>
            clear H2
            obtain ⟨i, hi, rfl, hkx, H3⟩ := hrel
            by_cases hlt : i < m
            · have hlz : (i : Int) < ((m : Nat) : Int) := by omega
              have hiD : k + i < D.length := by have := HN.o; omega
              have c0 := HC.o _ _ _ H3.o (k + i) hiD
              have HDS := hd (dig_snoc D k i hiD)
              have e1 : (((k : Nat) : Int) + (i : Int)).toNat = k + i := by omega
              generalize D[k + i]'hiD = cc at *
              go_wp2_with (at_builtin; refine wpList_push Tryz.underlying32 info_u8f rfl _ _ rfl H3.o (by have := HN.o; simp only [List.length_append, List.length_take, List.length_drop, List.length_replicate, List.length_cons, List.length_nil]; omega) cc (cc.toNat : Int) rfl _ rfl rfl rfl ?_)
              intro v' w' h
              have HX := hd h
              clear h
              clear c0
              go_wp2
              go_roundg (m - (i + 1))
              case measure => omega
              case rel => exact ⟨i + 1, by omega, by go_num, by omega, hd (by have h := HX.o; have h2 := HDS.o; (try simp at h2); simpa [h2] using h)⟩
            · have hlz : ¬ (i : Int) < ((m : Nat) : Int) := by omega
              have hiq : i = m := by omega
              rw [hiq] at H3
              clear hlt hiq hi hkx
              go_wp2
              go_loopg [0, 261] 0 (fun kx x0 x wr => x = .int .i64 0 ∧ Hd (Fo w0 B G L x0 ([] ++ (D.drop 0).take k ++ [46] ++ (D.drop k).take m) wr))
              case atStart => exact ⟨rfl, H3⟩
              case round =>
                clear H3
                obtain ⟨rfl, H3⟩ := hrel
                go_wp2
                go_ret
                exact ⟨_, rfl, by have h := H3.o; have hn := HN.o; have e2 : (D.drop k).take m = D.drop k := List.take_of_length_le (by rw [List.length_drop]; omega); rw [e2] at h; simpa [sgn] using h⟩
set_option maxHeartbeats 4000000 in
set_option maxRecDepth 100000 in
theorem efg2n (w0 w : World) (B G : Nat) (L : List Value) (v : Value) (D : List UInt8) (k : Nat) (hk0 : 0 < k) (hkn : k < D.length) (hO : Fo w0 B G L v [] w) (hD : 1 ≤ D.length) (hD2 : D.length ≤ 20)
    (hL : ∀ i (h : i < D.length), w.cell? ⟨G, i, none⟩ = some (.int .u8 ((D[i]'h).toNat : Int))) :
    Calls Tryz.prog 250 #[v, .bool true, .slice (some ⟨G, 0, none⟩) 32 32, .int .i64 (k : Int), .int .i64 D.length, .int .i64 ((D.length - k : Nat) : Int), .int .u8 102, .bool true] w fun e w' =>
      ∃ v', e = .returned v' ∧ Fo w0 B G L v' (sgn true ++ D.take k ++ [46] ++ D.drop k) w' := by
  have HO0 := hd hO
  have HL := hd (fun i (h : i < D.length) => show L[i]? = some (.int .u8 ((D[i]'h).toNat : Int)) by
    have h1 := hL i h
    have h2 := hO.k
    unfold Bk at h2
    unfold World.cell? at h1
    rw [h2] at h1
    simpa using h1)
  have HC := hd (fun (W : World) (v : Value) bs (h : Fo w0 B G L v bs W) i (hi : i < D.length) => show W.cell? ⟨G, i, none⟩ = some (.int .u8 ((D[i]'hi).toNat : Int)) by
    have h1 := HL.o i hi
    obtain ⟨hl, h2⟩ := List.getElem?_eq_some_iff.1 h1
    rw [h.k.cell i hl, h2])
  clear hL hO HL
  obtain ⟨n, hn⟩ : ∃ n, n = D.length := ⟨_, rfl⟩
  have HN := hd hn
  obtain ⟨m, rfl⟩ : ∃ m, n = k + m := ⟨n - k, by omega⟩
  have z1 : (k : Int) + m ≤ 1000 := by omega
  have z2 : (1 : Int) ≤ (k : Int) := by omega
  have z3 : (1 : Int) ≤ (m : Int) := by omega
  have HKM := hd (show D.length = k + m from hn.symm)
  rw [show ((D.length - k : Nat) : Int) = (m : Int) by omega, ← hn, Int.natCast_add]
  clear hkn
  have hnD : k + m ≤ 20 := by omega
  clear hn hD hD2
  have r1 : min ((k : Int) + m) (k : Int) = k := by omega
  have r2 : max (0 : Int) (-(k : Int)) = 0 := by omega
  have r3 : min (m : Int) 0 = 0 := by omega
  have r4 : (k : Int) + m - k = m := by omega
  have r5 : max (0 : Int) (m : Int) = m := by omega
  go_enter Tryz.func250, Tryz.ntmps250
  go_wp2_with (at_builtin; refine wpList_push Tryz.underlying32 info_u8f rfl _ _ rfl HO0.o (by have := HN.o; simp only [List.length_append, List.length_take, List.length_drop, List.length_replicate, List.length_cons, List.length_nil]; omega) 45 45 rfl _ rfl rfl rfl ?_)
  intro v' w' h
  have HS := hd h
  clear h
  go_wp2
  go_loopg [0, 191] k (fun kx x0 x wr => ∃ i : Nat, i ≤ k ∧ x = .int .i64 i ∧ k - i ≤ kx ∧ Hd (Fo w0 B G L x0 ([45] ++ (D.drop 0).take i) wr))
  case atStart => exact ⟨0, Nat.zero_le _, rfl, Nat.le_refl _, hd (by have h := HS.o; simpa using h)⟩
  case round =>
    clear HS
    obtain ⟨i, hi, rfl, hkx, H1⟩ := hrel
    by_cases hlt : i < k
    · have hlz : (i : Int) < ((k : Nat) : Int) := by omega
      have hiD : 0 + i < D.length := by have := HN.o; omega
      have c0 := HC.o _ _ _ H1.o (0 + i) hiD
      have HDS := hd (dig_snoc D 0 i hiD)
      have e1 : (((0 : Nat) : Int) + (i : Int)).toNat = 0 + i := by omega
      generalize D[0 + i]'hiD = cc at *
      rw [Nat.zero_add] at c0
      clear e1
      go_wp2_with (at_builtin; refine wpList_push Tryz.underlying32 info_u8f rfl _ _ rfl H1.o (by have := HN.o; simp only [List.length_append, List.length_take, List.length_drop, List.length_replicate, List.length_cons, List.length_nil]; omega) cc (cc.toNat : Int) rfl _ rfl rfl rfl ?_)
      intro v' w' h
      have HX := hd h
      clear h
      clear c0
      go_wp2
      go_roundg (k - (i + 1))
      case measure => omega
      case rel => exact ⟨i + 1, by omega, by go_num, by omega, hd (by have h := HX.o; have h2 := HDS.o; (try simp at h2); simpa [h2] using h)⟩
    · have hlz : ¬ (i : Int) < ((k : Nat) : Int) := by omega
      have hiq : i = k := by omega
      rw [hiq] at H1
      clear hlt hiq hi hkx
      go_wp2
      go_loopg [0, 203] 0 (fun kx x0 x wr => x = .int .i64 0 ∧ Hd (Fo w0 B G L x0 ([45] ++ (D.drop 0).take k) wr))
      case atStart => exact ⟨rfl, H1⟩
      case round =>
        clear H1
        obtain ⟨rfl, H1⟩ := hrel
        go_wp2_with (at_builtin; refine wpList_push Tryz.underlying32 info_u8f rfl _ _ rfl H1.o (by have := HN.o; simp only [List.length_append, List.length_take, List.length_drop, List.length_replicate, List.length_cons, List.length_nil]; omega) 46 46 rfl _ rfl rfl rfl ?_)
        intro v' w' h
        have H2 := hd h
        clear h
        go_wp2
        go_loopg [0, 240] 0 (fun kx x0 x wr => x = .int .i64 0 ∧ Hd (Fo w0 B G L x0 ([45] ++ (D.drop 0).take k ++ [46]) wr))
        case atStart => exact ⟨rfl, H2⟩
        case round =>
          clear H2
          obtain ⟨rfl, H2⟩ := hrel
          go_wp2
          go_loopg [0, 247] m (fun kx x0 x wr => ∃ i : Nat, i ≤ m ∧ x = .int .i64 i ∧ m - i ≤ kx ∧ Hd (Fo w0 B G L x0 ([45] ++ (D.drop 0).take k ++ [46] ++ (D.drop k).take i) wr))
          case atStart => exact ⟨0, Nat.zero_le _, rfl, Nat.le_refl _, hd (by have h := H2.o; simpa using h)⟩
          case round =>
            clear H2
            obtain ⟨i, hi, rfl, hkx, H3⟩ := hrel
            by_cases hlt : i < m
            · have hlz : (i : Int) < ((m : Nat) : Int) := by omega
              have hiD : k + i < D.length := by have := HN.o; omega
              have c0 := HC.o _ _ _ H3.o (k + i) hiD
              have HDS := hd (dig_snoc D k i hiD)
              have e1 : (((k : Nat) : Int) + (i : Int)).toNat = k + i := by omega
              generalize D[k + i]'hiD = cc at *
              go_wp2_with (at_builtin; refine wpList_push Tryz.underlying32 info_u8f rfl _ _ rfl H3.o (by have := HN.o; simp only [List.length_append, List.length_take, List.length_drop, List.length_replicate, List.length_cons, List.length_nil]; omega) cc (cc.toNat : Int) rfl _ rfl rfl rfl ?_)
              intro v' w' h
              have HX := hd h
              clear h
              clear c0
              go_wp2
              go_roundg (m - (i + 1))
              case measure => omega
              case rel => exact ⟨i + 1, by omega, by go_num, by omega, hd (by have h := HX.o; have h2 := HDS.o; (try simp at h2); simpa [h2] using h)⟩
            · have hlz : ¬ (i : Int) < ((m : Nat) : Int) := by omega
              have hiq : i = m := by omega
              rw [hiq] at H3
              clear hlt hiq hi hkx
              go_wp2
              go_loopg [0, 261] 0 (fun kx x0 x wr => x = .int .i64 0 ∧ Hd (Fo w0 B G L x0 ([45] ++ (D.drop 0).take k ++ [46] ++ (D.drop k).take m) wr))
              case atStart => exact ⟨rfl, H3⟩
              case round =>
                clear H3
                obtain ⟨rfl, H3⟩ := hrel
                go_wp2
                go_ret
                exact ⟨_, rfl, by have h := H3.o; have hn := HN.o; have e2 : (D.drop k).take m = D.drop k := List.take_of_length_le (by rw [List.length_drop]; omega); rw [e2] at h; simpa [sgn] using h⟩
set_option maxHeartbeats 4000000 in
set_option maxRecDepth 100000 in
theorem efg3p (w0 w : World) (B G : Nat) (L : List Value) (v : Value) (D : List UInt8) (q : Nat) (hq : q ≤ 400) (hO : Fo w0 B G L v [] w) (hD : 1 ≤ D.length) (hD2 : D.length ≤ 20)
    (hL : ∀ i (h : i < D.length), w.cell? ⟨G, i, none⟩ = some (.int .u8 ((D[i]'h).toNat : Int))) :
    Calls Tryz.prog 250 #[v, .bool false, .slice (some ⟨G, 0, none⟩) 32 32, .int .i64 ((D.length + q : Nat) : Int), .int .i64 D.length, .int .i64 0, .int .u8 102, .bool true] w fun e w' =>
      ∃ v', e = .returned v' ∧ Fo w0 B G L v' (sgn false ++ D ++ List.replicate q 48) w' := by
  have HO0 := hd hO
  have HL := hd (fun i (h : i < D.length) => show L[i]? = some (.int .u8 ((D[i]'h).toNat : Int)) by
    have h1 := hL i h
    have h2 := hO.k
    unfold Bk at h2
    unfold World.cell? at h1
    rw [h2] at h1
    simpa using h1)
  have HC := hd (fun (W : World) (v : Value) bs (h : Fo w0 B G L v bs W) i (hi : i < D.length) => show W.cell? ⟨G, i, none⟩ = some (.int .u8 ((D[i]'hi).toNat : Int)) by
    have h1 := HL.o i hi
    obtain ⟨hl, h2⟩ := List.getElem?_eq_some_iff.1 h1
    rw [h.k.cell i hl, h2])
  clear hL hO HL
  obtain ⟨n, hn⟩ : ∃ n, n = D.length := ⟨_, rfl⟩
  have HN := hd hn
  have z1 : (n : Int) + q ≤ 1000 := by omega
  have z2 : (1 : Int) ≤ (n : Int) := by omega
  rw [show ((D.length + q : Nat) : Int) = (n : Int) + q by omega, ← hn]
  have hnD : n ≤ 20 := by omega
  clear hn hD hD2
  have y2 : (0 : Int) < (n : Int) + q := by omega
  have r1 : min (n : Int) ((n : Int) + q) = n := by omega
  have r2 : (n : Int) + q - n = q := by omega
  go_enter Tryz.func250, Tryz.ntmps250
  go_wp2
  go_loopg [0, 191] n (fun kx x0 x wr => ∃ i : Nat, i ≤ n ∧ x = .int .i64 i ∧ n - i ≤ kx ∧ Hd (Fo w0 B G L x0 ([] ++ (D.drop 0).take i) wr))
  case atStart => exact ⟨0, Nat.zero_le _, rfl, Nat.le_refl _, hd (by have h := HO0.o; simpa using h)⟩
  case round =>
    clear HO0
    obtain ⟨i, hi, rfl, hkx, H1⟩ := hrel
    by_cases hlt : i < n
    · have hlz : (i : Int) < ((n : Nat) : Int) := by omega
      have hiD : 0 + i < D.length := by have := HN.o; omega
      have c0 := HC.o _ _ _ H1.o (0 + i) hiD
      have HDS := hd (dig_snoc D 0 i hiD)
      have e1 : (((0 : Nat) : Int) + (i : Int)).toNat = 0 + i := by omega
      generalize D[0 + i]'hiD = cc at *
      rw [Nat.zero_add] at c0
      clear e1
      go_wp2_with (at_builtin; refine wpList_push Tryz.underlying32 info_u8f rfl _ _ rfl H1.o (by have := HN.o; simp only [List.length_append, List.length_take, List.length_drop, List.length_replicate, List.length_cons, List.length_nil]; omega) cc (cc.toNat : Int) rfl _ rfl rfl rfl ?_)
      intro v' w' h
      have HX := hd h
      clear h
      clear c0
      go_wp2
      go_roundg (n - (i + 1))
      case measure => omega
      case rel => exact ⟨i + 1, by omega, by go_num, by omega, hd (by have h := HX.o; have h2 := HDS.o; (try simp at h2); simpa [h2] using h)⟩
    · have hlz : ¬ (i : Int) < ((n : Nat) : Int) := by omega
      have hiq : i = n := by omega
      rw [hiq] at H1
      clear hlt hiq hi hkx
      go_wp2
      go_loopg [0, 203] q (fun kx x0 x wr => ∃ i : Nat, i ≤ q ∧ x = .int .i64 i ∧ q - i ≤ kx ∧ Hd (Fo w0 B G L x0 ([] ++ (D.drop 0).take n ++ List.replicate i 48) wr))
      case atStart => exact ⟨0, Nat.zero_le _, rfl, Nat.le_refl _, hd (by have h := H1.o; simpa using h)⟩
      case round =>
        clear H1
        obtain ⟨i, hi, rfl, hkx, H2⟩ := hrel
        by_cases hlt : i < q
        · have hlz : (i : Int) < ((q : Nat) : Int) := by omega
          go_wp2_with (at_builtin; refine wpList_push Tryz.underlying32 info_u8f rfl _ _ rfl H2.o (by have := HN.o; simp only [List.length_append, List.length_take, List.length_drop, List.length_replicate, List.length_cons, List.length_nil]; omega) 48 48 rfl _ rfl rfl rfl ?_)
          intro v' w' h
          have HX := hd h
          clear h
          go_wp2
          go_roundg (q - (i + 1))
          case measure => omega
          case rel => exact ⟨i + 1, by omega, by go_num, by omega, hd (by have h := HX.o; simpa [rep_snoc] using h)⟩
        · have hlz : ¬ (i : Int) < ((q : Nat) : Int) := by omega
          have hiq : i = q := by omega
          rw [hiq] at H2
          clear hlt hiq hi hkx
          go_wp2
          go_ret
          exact ⟨_, rfl, by have h := H2.o; have hn := HN.o; simpa [sgn, hn] using h⟩
set_option maxHeartbeats 4000000 in
set_option maxRecDepth 100000 in
theorem efg3n (w0 w : World) (B G : Nat) (L : List Value) (v : Value) (D : List UInt8) (q : Nat) (hq : q ≤ 400) (hO : Fo w0 B G L v [] w) (hD : 1 ≤ D.length) (hD2 : D.length ≤ 20)
    (hL : ∀ i (h : i < D.length), w.cell? ⟨G, i, none⟩ = some (.int .u8 ((D[i]'h).toNat : Int))) :
    Calls Tryz.prog 250 #[v, .bool true, .slice (some ⟨G, 0, none⟩) 32 32, .int .i64 ((D.length + q : Nat) : Int), .int .i64 D.length, .int .i64 0, .int .u8 102, .bool true] w fun e w' =>
      ∃ v', e = .returned v' ∧ Fo w0 B G L v' (sgn true ++ D ++ List.replicate q 48) w' := by
  have HO0 := hd hO
  have HL := hd (fun i (h : i < D.length) => show L[i]? = some (.int .u8 ((D[i]'h).toNat : Int)) by
    have h1 := hL i h
    have h2 := hO.k
    unfold Bk at h2
    unfold World.cell? at h1
    rw [h2] at h1
    simpa using h1)
  have HC := hd (fun (W : World) (v : Value) bs (h : Fo w0 B G L v bs W) i (hi : i < D.length) => show W.cell? ⟨G, i, none⟩ = some (.int .u8 ((D[i]'hi).toNat : Int)) by
    have h1 := HL.o i hi
    obtain ⟨hl, h2⟩ := List.getElem?_eq_some_iff.1 h1
    rw [h.k.cell i hl, h2])
  clear hL hO HL
  obtain ⟨n, hn⟩ : ∃ n, n = D.length := ⟨_, rfl⟩
  have HN := hd hn
  have z1 : (n : Int) + q ≤ 1000 := by omega
  have z2 : (1 : Int) ≤ (n : Int) := by omega
  rw [show ((D.length + q : Nat) : Int) = (n : Int) + q by omega, ← hn]
  have hnD : n ≤ 20 := by omega
  clear hn hD hD2
  have y2 : (0 : Int) < (n : Int) + q := by omega
  have r1 : min (n : Int) ((n : Int) + q) = n := by omega
  have r2 : (n : Int) + q - n = q := by omega
  go_enter Tryz.func250, Tryz.ntmps250
  go_wp2_with (at_builtin; refine wpList_push Tryz.underlying32 info_u8f rfl _ _ rfl HO0.o (by have := HN.o; simp only [List.length_append, List.length_take, List.length_drop, List.length_replicate, List.length_cons, List.length_nil]; omega) 45 45 rfl _ rfl rfl rfl ?_)
  intro v' w' h
  have HS := hd h
  clear h
  go_wp2
  go_loopg [0, 191] n (fun kx x0 x wr => ∃ i : Nat, i ≤ n ∧ x = .int .i64 i ∧ n - i ≤ kx ∧ Hd (Fo w0 B G L x0 ([45] ++ (D.drop 0).take i) wr))
  case atStart => exact ⟨0, Nat.zero_le _, rfl, Nat.le_refl _, hd (by have h := HS.o; simpa using h)⟩
  case round =>
    clear HS
    obtain ⟨i, hi, rfl, hkx, H1⟩ := hrel
    by_cases hlt : i < n
    · have hlz : (i : Int) < ((n : Nat) : Int) := by omega
      have hiD : 0 + i < D.length := by have := HN.o; omega
      have c0 := HC.o _ _ _ H1.o (0 + i) hiD
      have HDS := hd (dig_snoc D 0 i hiD)
      have e1 : (((0 : Nat) : Int) + (i : Int)).toNat = 0 + i := by omega
      generalize D[0 + i]'hiD = cc at *
      rw [Nat.zero_add] at c0
      clear e1
      go_wp2_with (at_builtin; refine wpList_push Tryz.underlying32 info_u8f rfl _ _ rfl H1.o (by have := HN.o; simp only [List.length_append, List.length_take, List.length_drop, List.length_replicate, List.length_cons, List.length_nil]; omega) cc (cc.toNat : Int) rfl _ rfl rfl rfl ?_)
      intro v' w' h
      have HX := hd h
      clear h
      clear c0
      go_wp2
      go_roundg (n - (i + 1))
      case measure => omega
      case rel => exact ⟨i + 1, by omega, by go_num, by omega, hd (by have h := HX.o; have h2 := HDS.o; (try simp at h2); simpa [h2] using h)⟩
    · have hlz : ¬ (i : Int) < ((n : Nat) : Int) := by omega
      have hiq : i = n := by omega
      rw [hiq] at H1
      clear hlt hiq hi hkx
      go_wp2
      go_loopg [0, 203] q (fun kx x0 x wr => ∃ i : Nat, i ≤ q ∧ x = .int .i64 i ∧ q - i ≤ kx ∧ Hd (Fo w0 B G L x0 ([45] ++ (D.drop 0).take n ++ List.replicate i 48) wr))
      case atStart => exact ⟨0, Nat.zero_le _, rfl, Nat.le_refl _, hd (by have h := H1.o; simpa using h)⟩
      case round =>
        clear H1
        obtain ⟨i, hi, rfl, hkx, H2⟩ := hrel
        by_cases hlt : i < q
        · have hlz : (i : Int) < ((q : Nat) : Int) := by omega
          go_wp2_with (at_builtin; refine wpList_push Tryz.underlying32 info_u8f rfl _ _ rfl H2.o (by have := HN.o; simp only [List.length_append, List.length_take, List.length_drop, List.length_replicate, List.length_cons, List.length_nil]; omega) 48 48 rfl _ rfl rfl rfl ?_)
          intro v' w' h
          have HX := hd h
          clear h
          go_wp2
          go_roundg (q - (i + 1))
          case measure => omega
          case rel => exact ⟨i + 1, by omega, by go_num, by omega, hd (by have h := HX.o; simpa [rep_snoc] using h)⟩
        · have hlz : ¬ (i : Int) < ((q : Nat) : Int) := by omega
          have hiq : i = q := by omega
          rw [hiq] at H2
          clear hlt hiq hi hkx
          go_wp2
          go_ret
          exact ⟨_, rfl, by have h := H2.o; have hn := HN.o; simpa [sgn, hn] using h⟩
end Go.Proofs.YteckfdohgiddgaaGreatDoor
