/- internal/strconv.fmtEFG at 'f': the digits of the shortest decimal, written out. -/
import Derived.Test.YtcbggkdginfakaaDoorFDig
import Derived.Test.YtcbggkdginfakaaDoorLBase
import Derived.Deep.LoopGhost
namespace Go.Proofs.YtcbggkdginfakaaDoor
open Go.RowKit
set_option linter.unusedVariables false
set_option linter.unusedSimpArgs false
theorem info_u8f : (Tryd.prog.info? 5).map (fun i => (i.zero, i.size, i.bytes)) = some (some (.int .u8 0), 1, 1) := by kernel_rfl
/-- bytes that are being written, beside a block that is read -/
structure Fo (w0 : World) (B G : Nat) (L : List Value) (v : Value) (bs : List UInt8) (w : World) : Prop where
  o : w.ownsRow B 5 1 v bs.length (cellsB bs)
  k : Bk w G 110 L
  b : Below B w0 w
  z : B ≤ w.heap.size
theorem Fo.push {w0 w w' : World} {B G : Nat} {L : List Value} {v v' : Value} {bs : List UInt8} (h : Fo w0 B G L v bs w) (c : UInt8) {x : Int} (hx : x = (c.toNat : Int)) (ho : w'.ownsRow B 5 1 v' (bs.length + 1) (cellsB bs ++ [.int .u8 x])) (hg : w.grownBy w' v.ownBlock) : Fo w0 B G L v' (bs ++ [c]) w' := by
  subst hx
  refine ⟨by rw [List.length_append, cellsB_app]; exact ho, (hg.block G h.k.lt (fun e => ?_)).trans h.k, h.b.grown hg h.z (fun q hq => (h.o.lt q hq).1), Nat.le_trans h.z hg.size⟩
  exact own_other h.o h.k (by decide) e.symm
section
variable {P : Program}
/-- append of one byte -/
theorem wpList_push {ops : Array Oper} {rest : List Oper} {o : Oper} {a : Act} {Q : Exit → Act → World → Prop} (ht : P.underlying 35 = some (.slice 5)) (hinfo : (P.info? 5).map (fun i => (i.zero, i.size, i.bytes)) = some (some (.int .u8 0), 1, 1))
    (hgd : o.guard = none) (s x : Operand) (ho : o.op = .call { callee := .builtin .append, args := #[s, x], argTypes := #[35, 35] })
    {w0 W : World} {B G : Nat} {L : List Value} {v : Value} {bs : List UInt8} (hF : Fo w0 B G L v bs W) (hl : bs.length ≤ 1000) (c : UInt8) (X : Int) (hX : X = (c.toNat : Int)) (H : Nat) (hH : W.heap.size = H) (hs : a.eval s = v) (hx : a.eval x = .slice (some ⟨H, 0, none⟩) 1 1)
    (h : ∀ v' w', Fo w0 B G L v' (bs ++ [c]) w' → wpList P ops Q rest (a.put o.dst v') w') : wpList P ops Q (o :: rest) a (W.alloc (.cells #[.int .u8 X] 5)) :=
  wpList_app_litH 35 5 (.int .u8 0) 1 1 ht hinfo rfl (by decide) hgd s x ho B v bs.length (cellsB bs) W #[.int .u8 X] 1 H hH hs hx hF.o rfl (by simp [Value.oneCell']) (by omega) (by omega) hF.z fun v' w' h1 h2 => h v' w' (hF.push c hX h1 h2)
end
/-- the sign -/
def sgn (neg : Bool) : List UInt8 := if neg then [45] else []
theorem sgn_len (neg : Bool) : (sgn neg).length ≤ 1 := by cases neg <;> decide
theorem dig_snoc (D : List UInt8) (o i : Nat) (h : o + i < D.length) : (D.drop o).take i ++ [D[o + i]'h] = (D.drop o).take (i + 1) := by
  rw [List.take_succ_eq_append_getElem (by rw [List.length_drop]; omega)]
  simp
theorem rep_snoc (c : UInt8) (k : Nat) : List.replicate k c ++ [c] = List.replicate (k + 1) c := (List.replicate_succ' ..).symm
set_option maxHeartbeats 4000000 in
set_option maxRecDepth 100000 in
theorem efg1p (w0 w : World) (B G : Nat) (L : List Value) (v : Value) (D : List UInt8) (q : Nat) (hq : q ≤ 400) (hO : Fo w0 B G L v [] w) (hD : 1 ≤ D.length) (hD2 : D.length ≤ 20)
    (hL : ∀ i (h : i < D.length), w.cell? ⟨G, i, none⟩ = some (.int .u8 ((D[i]'h).toNat : Int))) :
    Calls Tryd.prog 68 #[v, .bool false, .slice (some ⟨G, 0, none⟩) 32 32, .int .i64 (-(q : Int)), .int .i64 D.length, .int .i64 ((D.length + q : Nat) : Int), .int .u8 102, .bool true] w fun e w' =>
      ∃ v', e = .returned v' ∧ Fo w0 B G L v' (sgn false ++ [48, 46] ++ List.replicate q 48 ++ D) w' := by
  have HO0 := hd hO
  have HL := hd (fun i (h : i < D.length) => show L[i]? = some (.int .u8 ((D[i]'h).toNat : Int)) by
    have h1 := hL i h
    have h2 := hO.k
    unfold Bk at h2
    unfold World.cell? at h1
    rw [h2] at h1
    simpa using h1)
  have HC := hd (fun (W : World) (v : Value) bs (h : Fo w0 B G L v bs W) i (hi : i < D.length) => show W.cell? ⟨G, i, none⟩ = some (.int .u8 ((D[i]'hi).toNat : Int)) by
    have h1 := HL.o i hi
    obtain ⟨hl, h2⟩ := List.getElem?_eq_some_iff.1 h1
    rw [h.k.cell i hl, h2])
  clear hL hO HL
  obtain ⟨n, hn⟩ : ∃ n, n = D.length := ⟨_, rfl⟩
  have HN := hd hn
  have z1 : (n : Int) + q ≤ 1000 := by omega
  have z2 : (1 : Int) ≤ (n : Int) := by omega
  have z3 : (0 : Int) ≤ (q : Int) := by omega
  rw [show ((D.length + q : Nat) : Int) = (n : Int) + q by omega, ← hn]
  have y1 : ¬ (0 : Int) < -(q : Int) := by omega
  have y2 : (0 : Int) < (n : Int) + q := by omega
  have hnD : n ≤ 20 := by omega
  clear hn hD hD2
  have r1 : min ((n : Int) + q) (q : Int) = q := by omega
  have r2 : -(q : Int) + q = 0 := by omega
  have r3 : max (0 : Int) (n : Int) = n := by omega
  have r4 : (n : Int) + q - q = n := by omega
  have r5 : max (0 : Int) (q : Int) = q := by omega
  go_enter Tryd.func68, Tryd.ntmps68
  go_wp2_with (at_builtin; refine wpList_push Tryd.underlying35 info_u8f rfl _ _ rfl HO0.o (by have := HN.o; simp only [List.length_append, List.length_take, List.length_drop, List.length_replicate, List.length_cons, List.length_nil]; omega) 48 48 rfl _ rfl rfl rfl ?_)
  intro v' w' h
  have H1 := hd h
  clear h
  go_wp2_with (at_builtin; refine wpList_push Tryd.underlying35 info_u8f rfl _ _ rfl H1.o (by have := HN.o; simp only [List.length_append, List.length_take, List.length_drop, List.length_replicate, List.length_cons, List.length_nil]; omega) 46 46 rfl _ rfl rfl rfl ?_)
  intro v' w' h
  have H2 := hd h
  clear h
  go_wp2
  go_loopg [0, 240] q (fun kx x0 x wr => ∃ i : Nat, i ≤ q ∧ x = .int .i64 i ∧ q - i ≤ kx ∧ Hd (Fo w0 B G L x0 ([48, 46] ++ List.replicate i 48) wr))
  case atStart => exact ⟨0, Nat.zero_le _, rfl, Nat.le_refl _, hd (by have h := H2.o; simpa using h)⟩
  case round =>
    clear H2
    obtain ⟨i, hi, rfl, hkx, H3⟩ := hrel
    by_cases hlt : i < q
    · have hlz : (i : Int) < ((q : Nat) : Int) := by omega
      go_wp2_with (at_builtin; refine wpList_push Tryd.underlying35 info_u8f rfl _ _ rfl H3.o (by have := HN.o; simp only [List.length_append, List.length_take, List.length_drop, List.length_replicate, List.length_cons, List.length_nil]; omega) 48 48 rfl _ rfl rfl rfl ?_)
      intro v' w' h
      have HX := hd h
      clear h
      go_wp2
      go_roundg (q - (i + 1))
      case measure => omega
      case rel => exact ⟨i + 1, by omega, by go_num, by omega, hd (by have h := HX.o; simpa [rep_snoc] using h)⟩
    · have hlz : ¬ (i : Int) < ((q : Nat) : Int) := by omega
      have hiq : i = q := by omega
      rw [hiq] at H3
      clear hlt hiq hi hkx
      go_wp2
      go_loopg [0, 247] n (fun kx x0 x wr => ∃ i : Nat, i ≤ n ∧ x = .int .i64 i ∧ n - i ≤ kx ∧ Hd (Fo w0 B G L x0 ([48, 46] ++ List.replicate q 48 ++ (D.drop 0).take i) wr))
      case atStart => exact ⟨0, Nat.zero_le _, rfl, Nat.le_refl _, hd (by have h := H3.o; simpa using h)⟩
      case round =>
        clear H3
        obtain ⟨i, hi, rfl, hkx, H4⟩ := hrel
        by_cases hlt : i < n
        · have hlz : (i : Int) < ((n : Nat) : Int) := by omega
          have hiD : 0 + i < D.length := by have := HN.o; omega
          have c0 := HC.o _ _ _ H4.o (0 + i) hiD
          have HDS := hd (dig_snoc D 0 i hiD)
          have e1 : (((0 : Nat) : Int) + (i : Int)).toNat = 0 + i := by omega
          generalize D[0 + i]'hiD = cc at *
          rw [Nat.zero_add] at c0
          clear e1
          go_wp2_with (at_builtin; refine wpList_push Tryd.underlying35 info_u8f rfl _ _ rfl H4.o (by have := HN.o; simp only [List.length_append, List.length_take, List.length_drop, List.length_replicate, List.length_cons, List.length_nil]; omega) cc (cc.toNat : Int) rfl _ rfl rfl rfl ?_)
          intro v' w' h
          have HX := hd h
          clear h
          clear c0
          go_wp2
          go_roundg (n - (i + 1))
          case measure => omega
          case rel => exact ⟨i + 1, by omega, by go_num, by omega, hd (by have h := HX.o; have h2 := HDS.o; (try simp at h2); simpa [h2] using h)⟩
        · have hlz : ¬ (i : Int) < ((n : Nat) : Int) := by omega
          have hiq : i = n := by omega
          rw [hiq] at H4
          clear hlt hiq hi hkx
          go_wp2
          go_loopg [0, 261] 0 (fun kx x0 x wr => x = .int .i64 0 ∧ Hd (Fo w0 B G L x0 ([48, 46] ++ List.replicate q 48 ++ (D.drop 0).take n) wr))
          case atStart => exact ⟨rfl, H4⟩
          case round =>
            clear H4
            obtain ⟨rfl, H4⟩ := hrel
            go_wp2
            go_ret
            exact ⟨_, rfl, by have h := H4.o; have hn := HN.o; simpa [sgn, hn] using h⟩
set_option maxHeartbeats 4000000 in
set_option maxRecDepth 100000 in
theorem efg1n (w0 w : World) (B G : Nat) (L : List Value) (v : Value) (D : List UInt8) (q : Nat) (hq : q ≤ 400) (hO : Fo w0 B G L v [] w) (hD : 1 ≤ D.length) (hD2 : D.length ≤ 20)
    (hL : ∀ i (h : i < D.length), w.cell? ⟨G, i, none⟩ = some (.int .u8 ((D[i]'h).toNat : Int))) :
    Calls Tryd.prog 68 #[v, .bool true, .slice (some ⟨G, 0, none⟩) 32 32, .int .i64 (-(q : Int)), .int .i64 D.length, .int .i64 ((D.length + q : Nat) : Int), .int .u8 102, .bool true] w fun e w' =>
      ∃ v', e = .returned v' ∧ Fo w0 B G L v' (sgn true ++ [48, 46] ++ List.replicate q 48 ++ D) w' := by
  have HO0 := hd hO
  have HL := hd (fun i (h : i < D.length) => show L[i]? = some (.int .u8 ((D[i]'h).toNat : Int)) by
    have h1 := hL i h
    have h2 := hO.k
    unfold Bk at h2
    unfold World.cell? at h1
    rw [h2] at h1
    simpa using h1)
  have HC := hd (fun (W : World) (v : Value) bs (h : Fo w0 B G L v bs W) i (hi : i < D.length) => show W.cell? ⟨G, i, none⟩ = some (.int .u8 ((D[i]'hi).toNat : Int)) by
    have h1 := HL.o i hi
    obtain ⟨hl, h2⟩ := List.getElem?_eq_some_iff.1 h1
    rw [h.k.cell i hl, h2])
  clear hL hO HL
  obtain ⟨n, hn⟩ : ∃ n, n = D.length := ⟨_, rfl⟩
  have HN := hd hn
  have z1 : (n : Int) + q ≤ 1000 := by omega
  have z2 : (1 : Int) ≤ (n : Int) := by omega
  have z3 : (0 : Int) ≤ (q : Int) := by omega
  rw [show ((D.length + q : Nat) : Int) = (n : Int) + q by omega, ← hn]
  have y1 : ¬ (0 : Int) < -(q : Int) := by omega
  have y2 : (0 : Int) < (n : Int) + q := by omega
  have hnD : n ≤ 20 := by omega
  clear hn hD hD2
  have r1 : min ((n : Int) + q) (q : Int) = q := by omega
  have r2 : -(q : Int) + q = 0 := by omega
  have r3 : max (0 : Int) (n : Int) = n := by omega
  have r4 : (n : Int) + q - q = n := by omega
  have r5 : max (0 : Int) (q : Int) = q := by omega
  go_enter Tryd.func68, Tryd.ntmps68
  go_wp2_with (at_builtin; refine wpList_push Tryd.underlying35 info_u8f rfl _ _ rfl HO0.o (by have := HN.o; simp only [List.length_append, List.length_take, List.length_drop, List.length_replicate, List.length_cons, List.length_nil]; omega) 45 45 rfl _ rfl rfl rfl ?_)
  intro v' w' h
  have HS := hd h
  clear h
  go_wp2_with (at_builtin; refine wpList_push Tryd.underlying35 info_u8f rfl _ _ rfl HS.o (by have := HN.o; simp only [List.length_append, List.length_take, List.length_drop, List.length_replicate, List.length_cons, List.length_nil]; omega) 48 48 rfl _ rfl rfl rfl ?_)
  intro v' w' h
  have H1 := hd h
  clear h
  go_wp2_with (at_builtin; refine wpList_push Tryd.underlying35 info_u8f rfl _ _ rfl H1.o (by have := HN.o; simp only [List.length_append, List.length_take, List.length_drop, List.length_replicate, List.length_cons, List.length_nil]; omega) 46 46 rfl _ rfl rfl rfl ?_)
  intro v' w' h
  have H2 := hd h
  clear h
  go_wp2
  go_loopg [0, 240] q (fun kx x0 x wr => ∃ i : Nat, i ≤ q ∧ x = .int .i64 i ∧ q - i ≤ kx ∧ Hd (Fo w0 B G L x0 ([45, 48, 46] ++ List.replicate i 48) wr))
  case atStart => exact ⟨0, Nat.zero_le _, rfl, Nat.le_refl _, hd (by have h := H2.o; simpa using h)⟩
  case round =>
    clear H2
    obtain ⟨i, hi, rfl, hkx, H3⟩ := hrel
    by_cases hlt : i < q
    · have hlz : (i : Int) < ((q : Nat) : Int) := by omega
      go_wp2_with (at_builtin; refine wpList_push Tryd.underlying35 info_u8f rfl _ _ rfl H3.o (by have := HN.o; simp only [List.length_append, List.length_take, List.length_drop, List.length_replicate, List.length_cons, List.length_nil]; omega) 48 48 rfl _ rfl rfl rfl ?_)
      intro v' w' h
      have HX := hd h
      clear h
      go_wp2
      go_roundg (q - (i + 1))
      case measure => omega
      case rel => exact ⟨i + 1, by omega, by go_num, by omega, hd (by have h := HX.o; simpa [rep_snoc] using h)⟩
    · have hlz : ¬ (i : Int) < ((q : Nat) : Int) := by omega
      have hiq : i = q := by omega
      rw [hiq] at H3
      clear hlt hiq hi hkx
      go_wp2
      go_loopg [0, 247] n (fun kx x0 x wr => ∃ i : Nat, i ≤ n ∧ x = .int .i64 i ∧ n - i ≤ kx ∧ Hd (Fo w0 B G L x0 ([45, 48, 46] ++ List.replicate q 48 ++ (D.drop 0).take i) wr))
      case atStart => exact ⟨0, Nat.zero_le _, rfl, Nat.le_refl _, hd (by have h := H3.o; simpa using h)⟩
      case round =>
        clear H3
        obtain ⟨i, hi, rfl, hkx, H4⟩ := hrel
        by_cases hlt : i < n
        · have hlz : (i : Int) < ((n : Nat) : Int) := by omega
          have hiD : 0 + i < D.length := by have := HN.o; omega
          have c0 := HC.o _ _ _ H4.o (0 + i) hiD
          have HDS := hd (dig_snoc D 0 i hiD)
          have e1 : (((0 : Nat) : Int) + (i : Int)).toNat = 0 + i := by omega
          generalize D[0 + i]'hiD = cc at *
          rw [Nat.zero_add] at c0
          clear e1
          go_wp2_with (at_builtin; refine wpList_push Tryd.underlying35 info_u8f rfl _ _ rfl H4.o (by have := HN.o; simp only [List.length_append, List.length_take, List.length_drop, List.length_replicate, List.length_cons, List.length_nil]; omega) cc (cc.toNat : Int) rfl _ rfl rfl rfl ?_)
          intro v' w' h
          have HX := hd h
          clear h
          clear c0
          go_wp2
          go_roundg (n - (i + 1))
          case measure => omega
          case rel => exact ⟨i + 1, by omega, by go_num, by omega, hd (by have h := HX.o; have h2 := HDS.o; (try simp at h2); simpa [h2] using h)⟩
        · have hlz : ¬ (i : Int) < ((n : Nat) : Int) := by omega
          have hiq : i = n := by omega
          rw [hiq] at H4
          clear hlt hiq hi hkx
          go_wp2
          go_loopg [0, 261] 0 (fun kx x0 x wr => x = .int .i64 0 ∧ Hd (Fo w0 B G L x0 ([45, 48, 46] ++ List.replicate q 48 ++ (D.drop 0).take n) wr))
          case atStart => exact ⟨rfl, H4⟩
          case round =>
            clear H4
            obtain ⟨rfl, H4⟩ := hrel
            go_wp2
            go_ret
            exact ⟨_, rfl, by have h := H4.o; have hn := HN.o; simpa [sgn, hn] using h⟩
set_option maxHeartbeats 4000000 in
set_option maxRecDepth 100000 in
theorem efg2p (w0 w : World) (B G : Nat) (L : List Value) (v : Value) (D : List UInt8) (k : Nat) (hk0 : 0 < k) (hkn : k < D.length) (hO : Fo w0 B G L v [] w) (hD : 1 ≤ D.length) (hD2 : D.length ≤ 20)
    (hL : ∀ i (h : i < D.length), w.cell? ⟨G, i, none⟩ = some (.int .u8 ((D[i]'h).toNat : Int))) :
    Calls Tryd.prog 68 #[v, .bool false, .slice (some ⟨G, 0, none⟩) 32 32, .int .i64 (k : Int), .int .i64 D.length, .int .i64 ((D.length - k : Nat) : Int), .int .u8 102, .bool true] w fun e w' =>
      ∃ v', e = .returned v' ∧ Fo w0 B G L v' (sgn false ++ D.take k ++ [46] ++ D.drop k) w' := by
  have HO0 := hd hO
  have HL := hd (fun i (h : i < D.length) => show L[i]? = some (.int .u8 ((D[i]'h).toNat : Int)) by
    have h1 := hL i h
    have h2 := hO.k
    unfold Bk at h2
    unfold World.cell? at h1
    rw [h2] at h1
    simpa using h1)
  have HC := hd (fun (W : World) (v : Value) bs (h : Fo w0 B G L v bs W) i (hi : i < D.length) => show W.cell? ⟨G, i, none⟩ = some (.int .u8 ((D[i]'hi).toNat : Int)) by
    have h1 := HL.o i hi
    obtain ⟨hl, h2⟩ := List.getElem?_eq_some_iff.1 h1
    rw [h.k.cell i hl, h2])
  clear hL hO HL
  obtain ⟨n, hn⟩ : ∃ n, n = D.length := ⟨_, rfl⟩
  have HN := hd hn
  obtain ⟨m, rfl⟩ : ∃ m, n = k + m := ⟨n - k, by omega⟩
  have z1 : (k : Int) + m ≤ 1000 := by omega
  have z2 : (1 : Int) ≤ (k : Int) := by omega
  have z3 : (1 : Int) ≤ (m : Int) := by omega
  have HKM := hd (show D.length = k + m from hn.symm)
  rw [show ((D.length - k : Nat) : Int) = (m : Int) by omega, ← hn, Int.natCast_add]
  clear hkn
  have hnD : k + m ≤ 20 := by omega
  clear hn hD hD2
  have r1 : min ((k : Int) + m) (k : Int) = k := by omega
  have r2 : max (0 : Int) (-(k : Int)) = 0 := by omega
  have r3 : min (m : Int) 0 = 0 := by omega
  have r4 : (k : Int) + m - k = m := by omega
  have r5 : max (0 : Int) (m : Int) = m := by omega
  go_enter Tryd.func68, Tryd.ntmps68
  go_wp2
  go_loopg [0, 191] k (fun kx x0 x wr => ∃ i : Nat, i ≤ k ∧ x = .int .i64 i ∧ k - i ≤ kx ∧ Hd (Fo w0 B G L x0 ([] ++ (D.drop 0).take i) wr))
  case atStart => exact ⟨0, Nat.zero_le _, rfl, Nat.le_refl _, hd (by have h := HO0.o; simpa using h)⟩
  case round =>
    clear HO0
    obtain ⟨i, hi, rfl, hkx, H1⟩ := hrel
    by_cases hlt : i < k
    · have hlz : (i : Int) < ((k : Nat) : Int) := by omega
      have hiD : 0 + i < D.length := by have := HN.o; omega
      have c0 := HC.o _ _ _ H1.o (0 + i) hiD
      have HDS := hd (dig_snoc D 0 i hiD)
      have e1 : (((0 : Nat) : Int) + (i : Int)).toNat = 0 + i := by omega
      generalize D[0 + i]'hiD = cc at *
      rw [Nat.zero_add] at c0
      clear e1
      go_wp2_with (at_builtin; refine wpList_push Tryd.underlying35 info_u8f rfl _ _ rfl H1.o (by have := HN.o; simp only [List.length_append, List.length_take, List.length_drop, List.length_replicate, List.length_cons, List.length_nil]; omega) cc (cc.toNat : Int) rfl _ rfl rfl rfl ?_)
      intro v' w' h
      have HX := hd h
      clear h
      clear c0
      go_wp2
      go_roundg (k - (i + 1))
      case measure => omega
      case rel => exact ⟨i + 1, by omega, by go_num, by omega, hd (by have h := HX.o; have h2 := HDS.o; (try simp at h2); simpa [h2] using h)⟩
    · have hlz : ¬ (i : Int) < ((k : Nat) : Int) := by omega
      have hiq : i = k := by omega
      rw [hiq] at H1
      clear hlt hiq hi hkx
      go_wp2
      go_loopg [0, 203] 0 (fun kx x0 x wr => x = .int .i64 0 ∧ Hd (Fo w0 B G L x0 ([] ++ (D.drop 0).take k) wr))
      case atStart => exact ⟨rfl, H1⟩
      case round =>
        clear H1
        obtain ⟨rfl, H1⟩ := hrel
        go_wp2_with (at_builtin; refine wpList_push Tryd.underlying35 info_u8f rfl _ _ rfl H1.o (by have := HN.o; simp only [List.length_append, List.length_take, List.length_drop, List.length_replicate, List.length_cons, List.length_nil]; omega) 46 46 rfl _ rfl rfl rfl ?_)
        intro v' w' h
        have H2 := hd h
        clear h
        go_wp2
        go_loopg [0, 240] 0 (fun kx x0 x wr => x = .int .i64 0 ∧ Hd (Fo w0 B G L x0 ([] ++ (D.drop 0).take k ++ [46]) wr))
        case atStart => exact ⟨rfl, H2⟩
        case round =>
          clear H2
          obtain ⟨rfl, H2⟩ := hrel
          go_wp2
          go_loopg [0, 247] m (fun kx x0 x wr => ∃ i : Nat, i ≤ m ∧ x = .int .i64 i ∧ m - i ≤ kx ∧ Hd (Fo w0 B G L x0 ([] ++ (D.drop 0).take k ++ [46] ++ (D.drop k).take i) wr))
          case atStart => exact ⟨0, Nat.zero_le _, rfl, Nat.le_refl _, hd (by have h := H2.o; simpa using h)⟩
          case round =>
            clear H2
            obtain ⟨i, hi, rfl, hkx, H3⟩ := hrel
            by_cases hlt : i < m
            · have hlz : (i : Int) < ((m : Nat) : Int) := by omega
              have hiD : k + i < D.length := by have := HN.o; omega
              have c0 := HC.o _ _ _ H3.o (k + i) hiD
              have HDS := hd (dig_snoc D k i hiD)
              have e1 : (((k : Nat) : Int) + (i : Int)).toNat = k + i := by omega
              generalize D[k + i]'hiD = cc at *
              go_wp2_with (at_builtin; refine wpList_push Tryd.underlying35 info_u8f rfl _ _ rfl H3.o (by have := HN.o; simp only [List.length_append, List.length_take, List.length_drop, List.length_replicate, List.length_cons, List.length_nil]; omega) cc (cc.toNat : Int) rfl _ rfl rfl rfl ?_)
              intro v' w' h
              have HX := hd h
              clear h
              clear c0
              go_wp2
              go_roundg (m - (i + 1))
              case measure => omega
              case rel => exact ⟨i + 1, by omega, by go_num, by omega, hd (by have h := HX.o; have h2 := HDS.o; (try simp at h2); simpa [h2] using h)⟩
            · have hlz : ¬ (i : Int) < ((m : Nat) : Int) := by omega
              have hiq : i = m := by omega
              rw [hiq] at H3
              clear hlt hiq hi hkx
              go_wp2
              go_loopg [0, 261] 0 (fun kx x0 x wr => x = .int .i64 0 ∧ Hd (Fo w0 B G L x0 ([] ++ (D.drop 0).take k ++ [46] ++ (D.drop k).take m) wr))
              case atStart => exact ⟨rfl, H3⟩
              case round =>
                clear H3
                obtain ⟨rfl, H3⟩ := hrel
                go_wp2
                go_ret
                exact ⟨_, rfl, by have h := H3.o; have hn := HN.o; have e2 : (D.drop k).take m = D.drop k := List.take_of_length_le (by rw [List.length_drop]; omega); rw [e2] at h; simpa [sgn] using h⟩
set_option maxHeartbeats 4000000 in
set_option maxRecDepth 100000 in
theorem efg2n (w0 w : World) (B G : Nat) (L : List Value) (v : Value) (D : List UInt8) (k : Nat) (hk0 : 0 < k) (hkn : k < D.length) (hO : Fo w0 B G L v [] w) (hD : 1 ≤ D.length) (hD2 : D.length ≤ 20)
    (hL : ∀ i (h : i < D.length), w.cell? ⟨G, i, none⟩ = some (.int .u8 ((D[i]'h).toNat : Int))) :
    Calls Tryd.prog 68 #[v, .bool true, .slice (some ⟨G, 0, none⟩) 32 32, .int .i64 (k : Int), .int .i64 D.length, .int .i64 ((D.length - k : Nat) : Int), .int .u8 102, .bool true] w fun e w' =>
      ∃ v', e = .returned v' ∧ Fo w0 B G L v' (sgn true ++ D.take k ++ [46] ++ D.drop k) w' := by
  have HO0 := hd hO
  have HL := hd (fun i (h : i < D.length) => show L[i]? = some (.int .u8 ((D[i]'h).toNat : Int)) by
    have h1 := hL i h
    have h2 := hO.k
    unfold Bk at h2
    unfold World.cell? at h1
    rw [h2] at h1
    simpa using h1)
  have HC := hd (fun (W : World) (v : Value) bs (h : Fo w0 B G L v bs W) i (hi : i < D.length) => show W.cell? ⟨G, i, none⟩ = some (.int .u8 ((D[i]'hi).toNat : Int)) by
    have h1 := HL.o i hi
    obtain ⟨hl, h2⟩ := List.getElem?_eq_some_iff.1 h1
    rw [h.k.cell i hl, h2])
  clear hL hO HL
  obtain ⟨n, hn⟩ : ∃ n, n = D.length := ⟨_, rfl⟩
  have HN := hd hn
  obtain ⟨m, rfl⟩ : ∃ m, n = k + m := ⟨n - k, by omega⟩
  have z1 : (k : Int) + m ≤ 1000 := by omega
  have z2 : (1 : Int) ≤ (k : Int) := by omega
  have z3 : (1 : Int) ≤ (m : Int) := by omega
  have HKM := hd (show D.length = k + m from hn.symm)
  rw [show ((D.length - k : Nat) : Int) = (m : Int) by omega, ← hn, Int.natCast_add]
  clear hkn
  have hnD : k + m ≤ 20 := by omega
  clear hn hD hD2
  have r1 : min ((k : Int) + m) (k : Int) = k := by omega
  have r2 : max (0 : Int) (-(k : Int)) = 0 := by omega
  have r3 : min (m : Int) 0 = 0 := by omega
  have r4 : (k : Int) + m - k = m := by omega
  have r5 : max (0 : Int) (m : Int) = m := by omega
  go_enter Tryd.func68, Tryd.ntmps68
  go_wp2_with (at_builtin; refine wpList_push Tryd.underlying35 info_u8f rfl _ _ rfl HO0.o (by have := HN.o; simp only [List.length_append, List.length_take, List.length_drop, List.length_replicate, List.length_cons, List.length_nil]; omega) 45 45 rfl _ rfl rfl rfl ?_)
  intro v' w' h
  have HS := hd h
  clear h
  go_wp2
  go_loopg [0, 191] k (fun kx x0 x wr => ∃ i : Nat, i ≤ k ∧ x = .int .i64 i ∧ k - i ≤ kx ∧ Hd (Fo w0 B G L x0 ([45] ++ (D.drop 0).take i) wr))
  case atStart => exact ⟨0, Nat.zero_le _, rfl, Nat.le_refl _, hd (by have h := HS.o; simpa using h)⟩
  case round =>
    clear HS
    obtain ⟨i, hi, rfl, hkx, H1⟩ := hrel
    by_cases hlt : i < k
    · have hlz : (i : Int) < ((k : Nat) : Int) := by omega
      have hiD : 0 + i < D.length := by have := HN.o; omega
      have c0 := HC.o _ _ _ H1.o (0 + i) hiD
      have HDS := hd (dig_snoc D 0 i hiD)
      have e1 : (((0 : Nat) : Int) + (i : Int)).toNat = 0 + i := by omega
      generalize D[0 + i]'hiD = cc at *
      rw [Nat.zero_add] at c0
      clear e1
      go_wp2_with (at_builtin; refine wpList_push Tryd.underlying35 info_u8f rfl _ _ rfl H1.o (by have := HN.o; simp only [List.length_append, List.length_take, List.length_drop, List.length_replicate, List.length_cons, List.length_nil]; omega) cc (cc.toNat : Int) rfl _ rfl rfl rfl ?_)
      intro v' w' h
      have HX := hd h
      clear h
      clear c0
      go_wp2
      go_roundg (k - (i + 1))
      case measure => omega
      case rel => exact ⟨i + 1, by omega, by go_num, by omega, hd (by have h := HX.o; have h2 := HDS.o; (try simp at h2); simpa [h2] using h)⟩
    · have hlz : ¬ (i : Int) < ((k : Nat) : Int) := by omega
      have hiq : i = k := by omega
      rw [hiq] at H1
      clear hlt hiq hi hkx
      go_wp2
      go_loopg [0, 203] 0 (fun kx x0 x wr => x = .int .i64 0 ∧ Hd (Fo w0 B G L x0 ([45] ++ (D.drop 0).take k) wr))
      case atStart => exact ⟨rfl, H1⟩
      case round =>
        clear H1
        obtain ⟨rfl, H1⟩ := hrel
        go_wp2_with (at_builtin; refine wpList_push Tryd.underlying35 info_u8f rfl _ _ rfl H1.o (by have := HN.o; simp only [List.length_append, List.length_take, List.length_drop, List.length_replicate, List.length_cons, List.length_nil]; omega) 46 46 rfl _ rfl rfl rfl ?_)
        intro v' w' h
        have H2 := hd h
        clear h
        go_wp2
        go_loopg [0, 240] 0 (fun kx x0 x wr => x = .int .i64 0 ∧ Hd (Fo w0 B G L x0 ([45] ++ (D.drop 0).take k ++ [46]) wr))
        case atStart => exact ⟨rfl, H2⟩
        case round =>
          clear H2
          obtain ⟨rfl, H2⟩ := hrel
          go_wp2
          go_loopg [0, 247] m (fun kx x0 x wr => ∃ i : Nat, i ≤ m ∧ x = .int .i64 i ∧ m - i ≤ kx ∧ Hd (Fo w0 B G L x0 ([45] ++ (D.drop 0).take k ++ [46] ++ (D.drop k).take i) wr))
          case atStart => exact ⟨0, Nat.zero_le _, rfl, Nat.le_refl _, hd (by have h := H2.o; simpa using h)⟩
          case round =>
            clear H2
            obtain ⟨i, hi, rfl, hkx, H3⟩ := hrel
            by_cases hlt : i < m
            · have hlz : (i : Int) < ((m : Nat) : Int) := by omega
              have hiD : k + i < D.length := by have := HN.o; omega
              have c0 := HC.o _ _ _ H3.o (k + i) hiD
              have HDS := hd (dig_snoc D k i hiD)
              have e1 : (((k : Nat) : Int) + (i : Int)).toNat = k + i := by omega
              generalize D[k + i]'hiD = cc at *
              go_wp2_with (at_builtin; refine wpList_push Tryd.underlying35 info_u8f rfl _ _ rfl H3.o (by have := HN.o; simp only [List.length_append, List.length_take, List.length_drop, List.length_replicate, List.length_cons, List.length_nil]; omega) cc (cc.toNat : Int) rfl _ rfl rfl rfl ?_)
              intro v' w' h
              have HX := hd h
              clear h
              clear c0
              go_wp2
              go_roundg (m - (i + 1))
              case measure => omega
              case rel => exact ⟨i + 1, by omega, by go_num, by omega, hd (by have h := HX.o; have h2 := HDS.o; (try simp at h2); simpa [h2] using h)⟩
            · have hlz : ¬ (i : Int) < ((m : Nat) : Int) := by omega
              have hiq : i = m := by omega
              rw [hiq] at H3
              clear hlt hiq hi hkx
              go_wp2
              go_loopg [0, 261] 0 (fun kx x0 x wr => x = .int .i64 0 ∧ Hd (Fo w0 B G L x0 ([45] ++ (D.drop 0).take k ++ [46] ++ (D.drop k).take m) wr))
              case atStart => exact ⟨rfl, H3⟩
              case round =>
                clear H3
                obtain ⟨rfl, H3⟩ := hrel
                go_wp2
                go_ret
                exact ⟨_, rfl, by have h := H3.o; have hn := HN.o; have e2 : (D.drop k).take m = D.drop k := List.take_of_length_le (by rw [List.length_drop]; omega); rw [e2] at h; simpa [sgn] using h⟩
set_option maxHeartbeats 4000000 in
set_option maxRecDepth 100000 in
theorem efg3p (w0 w : World) (B G : Nat) (L : List Value) (v : Value) (D : List UInt8) (q : Nat) (hq : q ≤ 400) (hO : Fo w0 B G L v [] w) (hD : 1 ≤ D.length) (hD2 : D.length ≤ 20)
    (hL : ∀ i (h : i < D.length), w.cell? ⟨G, i, none⟩ = some (.int .u8 ((D[i]'h).toNat : Int))) :
    Calls Tryd.prog 68 #[v, .bool false, .slice (some ⟨G, 0, none⟩) 32 32, .int .i64 ((D.length + q : Nat) : Int), .int .i64 D.length, .int .i64 0, .int .u8 102, .bool true] w fun e w' =>
      ∃ v', e = .returned v' ∧ Fo w0 B G L v' (sgn false ++ D ++ List.replicate q 48) w' := by
  have HO0 := hd hO
  have HL := hd (fun i (h : i < D.length) => show L[i]? = some (.int .u8 ((D[i]'h).toNat : Int)) by
    have h1 := hL i h
    have h2 := hO.k
    unfold Bk at h2
    unfold World.cell? at h1
    rw [h2] at h1
    simpa using h1)
  have HC := hd (fun (W : World) (v : Value) bs (h : Fo w0 B G L v bs W) i (hi : i < D.length) => show W.cell? ⟨G, i, none⟩ = some (.int .u8 ((D[i]'hi).toNat : Int)) by
    have h1 := HL.o i hi
    obtain ⟨hl, h2⟩ := List.getElem?_eq_some_iff.1 h1
    rw [h.k.cell i hl, h2])
  clear hL hO HL
  obtain ⟨n, hn⟩ : ∃ n, n = D.length := ⟨_, rfl⟩
  have HN := hd hn
  have z1 : (n : Int) + q ≤ 1000 := by omega
  have z2 : (1 : Int) ≤ (n : Int) := by omega
  rw [show ((D.length + q : Nat) : Int) = (n : Int) + q by omega, ← hn]
  have hnD : n ≤ 20 := by omega
  clear hn hD hD2
  have y2 : (0 : Int) < (n : Int) + q := by omega
  have r1 : min (n : Int) ((n : Int) + q) = n := by omega
  have r2 : (n : Int) + q - n = q := by omega
  go_enter Tryd.func68, Tryd.ntmps68
  go_wp2
  go_loopg [0, 191] n (fun kx x0 x wr => ∃ i : Nat, i ≤ n ∧ x = .int .i64 i ∧ n - i ≤ kx ∧ Hd (Fo w0 B G L x0 ([] ++ (D.drop 0).take i) wr))
  case atStart => exact ⟨0, Nat.zero_le _, rfl, Nat.le_refl _, hd (by have h := HO0.o; simpa using h)⟩
  case round =>
    clear HO0
    obtain ⟨i, hi, rfl, hkx, H1⟩ := hrel
    by_cases hlt : i < n
    · have hlz : (i : Int) < ((n : Nat) : Int) := by omega
      have hiD : 0 + i < D.length := by have := HN.o; omega
      have c0 := HC.o _ _ _ H1.o (0 + i) hiD
      have HDS := hd (dig_snoc D 0 i hiD)
      have e1 : (((0 : Nat) : Int) + (i : Int)).toNat = 0 + i := by omega
      generalize D[0 + i]'hiD = cc at *
      rw [Nat.zero_add] at c0
      clear e1
      go_wp2_with (at_builtin; refine wpList_push Tryd.underlying35 info_u8f rfl _ _ rfl H1.o (by have := HN.o; simp only [List.length_append, List.length_take, List.length_drop, List.length_replicate, List.length_cons, List.length_nil]; omega) cc (cc.toNat : Int) rfl _ rfl rfl rfl ?_)
      intro v' w' h
      have HX := hd h
      clear h
      clear c0
      go_wp2
      go_roundg (n - (i + 1))
      case measure => omega
      case rel => exact ⟨i + 1, by omega, by go_num, by omega, hd (by have h := HX.o; have h2 := HDS.o; (try simp at h2); simpa [h2] using h)⟩
    · have hlz : ¬ (i : Int) < ((n : Nat) : Int) := by omega
      have hiq : i = n := by omega
      rw [hiq] at H1
      clear hlt hiq hi hkx
      go_wp2
      go_loopg [0, 203] q (fun kx x0 x wr => ∃ i : Nat, i ≤ q ∧ x = .int .i64 i ∧ q - i ≤ kx ∧ Hd (Fo w0 B G L x0 ([] ++ (D.drop 0).take n ++ List.replicate i 48) wr))
      case atStart => exact ⟨0, Nat.zero_le _, rfl, Nat.le_refl _, hd (by have h := H1.o; simpa using h)⟩
      case round =>
        clear H1
        obtain ⟨i, hi, rfl, hkx, H2⟩ := hrel
        by_cases hlt : i < q
        · have hlz : (i : Int) < ((q : Nat) : Int) := by omega
          go_wp2_with (at_builtin; refine wpList_push Tryd.underlying35 info_u8f rfl _ _ rfl H2.o (by have := HN.o; simp only [List.length_append, List.length_take, List.length_drop, List.length_replicate, List.length_cons, List.length_nil]; omega) 48 48 rfl _ rfl rfl rfl ?_)
          intro v' w' h
          have HX := hd h
          clear h
          go_wp2
          go_roundg (q - (i + 1))
          case measure => omega
          case rel => exact ⟨i + 1, by omega, by go_num, by omega, hd (by have h := HX.o; simpa [rep_snoc] using h)⟩
        · have hlz : ¬ (i : Int) < ((q : Nat) : Int) := by omega
          have hiq : i = q := by omega
          rw [hiq] at H2
          clear hlt hiq hi hkx
          go_wp2
          go_ret
          exact ⟨_, rfl, by have h := H2.o; have hn := HN.o; simpa [sgn, hn] using h⟩
set_option maxHeartbeats 4000000 in
set_option maxRecDepth 100000 in
theorem efg3n (w0 w : World) (B G : Nat) (L : List Value) (v : Value) (D : List UInt8) (q : Nat) (hq : q ≤ 400) (hO : Fo w0 B G L v [] w) (hD : 1 ≤ D.length) (hD2 : D.length ≤ 20)
    (hL : ∀ i (h : i < D.length), w.cell? ⟨G, i, none⟩ = some (.int .u8 ((D[i]'h).toNat : Int))) :
    Calls Tryd.prog 68 #[v, .bool true, .slice (some ⟨G, 0, none⟩) 32 32, .int .i64 ((D.length + q : Nat) : Int), .int .i64 D.length, .int .i64 0, .int .u8 102, .bool true] w fun e w' =>
      ∃ v', e = .returned v' ∧ Fo w0 B G L v' (sgn true ++ D ++ List.replicate q 48) w' := by
  have HO0 := hd hO
  have HL := hd (fun i (h : i < D.length) => show L[i]? = some (.int .u8 ((D[i]'h).toNat : Int)) by
    have h1 := hL i h
    have h2 := hO.k
    unfold Bk at h2
    unfold World.cell? at h1
    rw [h2] at h1
    simpa using h1)
  have HC := hd (fun (W : World) (v : Value) bs (h : Fo w0 B G L v bs W) i (hi : i < D.length) => show W.cell? ⟨G, i, none⟩ = some (.int .u8 ((D[i]'hi).toNat : Int)) by
    have h1 := HL.o i hi
    obtain ⟨hl, h2⟩ := List.getElem?_eq_some_iff.1 h1
    rw [h.k.cell i hl, h2])
  clear hL hO HL
  obtain ⟨n, hn⟩ : ∃ n, n = D.length := ⟨_, rfl⟩
  have HN := hd hn
  have z1 : (n : Int) + q ≤ 1000 := by omega
  have z2 : (1 : Int) ≤ (n : Int) := by omega
  rw [show ((D.length + q : Nat) : Int) = (n : Int) + q by omega, ← hn]
  have hnD : n ≤ 20 := by omega
  clear hn hD hD2
  have y2 : (0 : Int) < (n : Int) + q := by omega
  have r1 : min (n : Int) ((n : Int) + q) = n := by omega
  have r2 : (n : Int) + q - n = q := by omega
  go_enter Tryd.func68, Tryd.ntmps68
  go_wp2_with (at_builtin; refine wpList_push Tryd.underlying35 info_u8f rfl _ _ rfl HO0.o (by have := HN.o; simp only [List.length_append, List.length_take, List.length_drop, List.length_replicate, List.length_cons, List.length_nil]; omega) 45 45 rfl _ rfl rfl rfl ?_)
  intro v' w' h
  have HS := hd h
  clear h
  go_wp2
  go_loopg [0, 191] n (fun kx x0 x wr => ∃ i : Nat, i ≤ n ∧ x = .int .i64 i ∧ n - i ≤ kx ∧ Hd (Fo w0 B G L x0 ([45] ++ (D.drop 0).take i) wr))
  case atStart => exact ⟨0, Nat.zero_le _, rfl, Nat.le_refl _, hd (by have h := HS.o; simpa using h)⟩
  case round =>
    clear HS
    obtain ⟨i, hi, rfl, hkx, H1⟩ := hrel
    by_cases hlt : i < n
    · have hlz : (i : Int) < ((n : Nat) : Int) := by omega
      have hiD : 0 + i < D.length := by have := HN.o; omega
      have c0 := HC.o _ _ _ H1.o (0 + i) hiD
      have HDS := hd (dig_snoc D 0 i hiD)
      have e1 : (((0 : Nat) : Int) + (i : Int)).toNat = 0 + i := by omega
      generalize D[0 + i]'hiD = cc at *
      rw [Nat.zero_add] at c0
      clear e1
      go_wp2_with (at_builtin; refine wpList_push Tryd.underlying35 info_u8f rfl _ _ rfl H1.o (by have := HN.o; simp only [List.length_append, List.length_take, List.length_drop, List.length_replicate, List.length_cons, List.length_nil]; omega) cc (cc.toNat : Int) rfl _ rfl rfl rfl ?_)
      intro v' w' h
      have HX := hd h
      clear h
      clear c0
      go_wp2
      go_roundg (n - (i + 1))
      case measure => omega
      case rel => exact ⟨i + 1, by omega, by go_num, by omega, hd (by have h := HX.o; have h2 := HDS.o; (try simp at h2); simpa [h2] using h)⟩
    · have hlz : ¬ (i : Int) < ((n : Nat) : Int) := by omega
      have hiq : i = n := by omega
      rw [hiq] at H1
      clear hlt hiq hi hkx
      go_wp2
      go_loopg [0, 203] q (fun kx x0 x wr => ∃ i : Nat, i ≤ q ∧ x = .int .i64 i ∧ q - i ≤ kx ∧ Hd (Fo w0 B G L x0 ([45] ++ (D.drop 0).take n ++ List.replicate i 48) wr))
      case atStart => exact ⟨0, Nat.zero_le _, rfl, Nat.le_refl _, hd (by have h := H1.o; simpa using h)⟩
      case round =>
        clear H1
        obtain ⟨i, hi, rfl, hkx, H2⟩ := hrel
        by_cases hlt : i < q
        · have hlz : (i : Int) < ((q : Nat) : Int) := by omega
          go_wp2_with (at_builtin; refine wpList_push Tryd.underlying35 info_u8f rfl _ _ rfl H2.o (by have := HN.o; simp only [List.length_append, List.length_take, List.length_drop, List.length_replicate, List.length_cons, List.length_nil]; omega) 48 48 rfl _ rfl rfl rfl ?_)
          intro v' w' h
          have HX := hd h
          clear h
          go_wp2
          go_roundg (q - (i + 1))
          case measure => omega
          case rel => exact ⟨i + 1, by omega, by go_num, by omega, hd (by have h := HX.o; simpa [rep_snoc] using h)⟩
        · have hlz : ¬ (i : Int) < ((q : Nat) : Int) := by omega
          have hiq : i = q := by omega
          rw [hiq] at H2
          clear hlt hiq hi hkx
          go_wp2
          go_ret
          exact ⟨_, rfl, by have h := H2.o; have hn := HN.o; simpa [sgn, hn] using h⟩
end Go.Proofs.YtcbggkdginfakaaDoor
