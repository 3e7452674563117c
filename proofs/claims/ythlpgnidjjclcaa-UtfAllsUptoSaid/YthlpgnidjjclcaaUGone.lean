/- The walk of weirlaw01.gone: a range over the iterator of utf.All, left early or not. -/
import Derived.Test.YthlpgnidjjclcaaUAlls
import Derived.Test.YthlpgnidjjclcaaLin
namespace Go.Proofs.Ythlpgnidjjclcaa
open Go.RowKit Go.Shelf
set_option linter.unusedVariables false
set_option linter.unusedSimpArgs false
attribute [local go_sem] Oper.semAt_some
theorem run_eqlIn_func_nil (w : World) (d : Nat) (g : Fn) (A L : Array Value) : (Op.equalIn (d + 1) 27 (.func g A L) .nilFunc).run Try.prog w = .ok false w := by
  simp [Op.equalIn, run_underlying Try.underlying27]
theorem run_eql_func_nil (w : World) (g : Fn) (A L : Array Value) : (binOp .eql 27 (.func g A L) .nilFunc).run Try.prog w = .ok (.bool false) w := by
  simp only [binOp]
  simp [Op.equal, Op.maxDepth, run_eqlIn_func_nil w 9999]
/-- three boxes and two rows that grow -/
structure Gn (n₁ b : Nat) (W : World) (st : Int) (u1 u2 v1 v2 : Value) (k1 k2 : Nat) (xs1 xs2 : List Value) : Prop where
  t0 : W.heap[b]? = some (.cells #[.int .i64 st] 3 (0, 0))
  t1 : W.heap[b + 1]? = some (.cells #[u1] 22 (0, 0))
  t2 : W.heap[b + 2]? = some (.cells #[u2] 23 (0, 0))
  o1 : W.ownsRow n₁ 3 1 v1 k1 xs1
  o2 : W.ownsRow n₁ 21 1 v2 k2 xs2
  lt : b + 3 ≤ n₁
  base : n₁ ≤ W.heap.size
section
variable {n₁ b : Nat} {W W' : World} {st : Int} {u1 u2 v1 v2 : Value} {k1 k2 : Nat} {xs1 xs2 : List Value}
theorem Gn.grown {row : Option Nat} (G : Gn n₁ b W st u1 u2 v1 v2 k1 k2 xs1 xs2) (hg : W.grownBy W' row) (hr : ∀ r, row = some r → n₁ ≤ r) (h1 : v1.ownBlock = none ∨ v1.ownBlock ≠ row) (h2 : v2.ownBlock = none ∨ v2.ownBlock ≠ row) : Gn n₁ b W' st u1 u2 v1 v2 k1 k2 xs1 xs2 := by
  have hl := G.lt
  have hk : ∀ k, k < n₁ → W'.heap[k]? = W.heap[k]? := fun k hk => hg.block k (by have := G.base; omega) (fun e => by have := hr k e.symm; omega)
  exact ⟨(hk _ (by omega)).trans G.t0, (hk _ (by omega)).trans G.t1, (hk _ (by omega)).trans G.t2, G.o1.kept hg h1, G.o2.kept hg h2, G.lt, Nat.le_trans G.base hg.size⟩
theorem Gn.app1 (G : Gn n₁ b W st u1 u2 v1 v2 k1 k2 xs1 xs2) {v' : Value} {k : Nat} {ys : List Value} (ho : W'.ownsRow n₁ 3 1 v' k ys) (hg : W.grownBy W' v1.ownBlock) : Gn n₁ b W' st u1 u2 v' v2 k k2 ys xs2 := by
  have hl := G.lt
  have hk : ∀ k, k < n₁ → W'.heap[k]? = W.heap[k]? := fun k hk => hg.block k (by have := G.base; omega) (fun e => by have := (G.o1.lt k e.symm).1; omega)
  exact ⟨(hk _ (by omega)).trans G.t0, (hk _ (by omega)).trans G.t1, (hk _ (by omega)).trans G.t2, ho, own_keep_type G.o2 G.o1 (by decide) hg, G.lt, Nat.le_trans G.base hg.size⟩
theorem Gn.app2 (G : Gn n₁ b W st u1 u2 v1 v2 k1 k2 xs1 xs2) {v' : Value} {k : Nat} {ys : List Value} (ho : W'.ownsRow n₁ 21 1 v' k ys) (hg : W.grownBy W' v2.ownBlock) : Gn n₁ b W' st u1 u2 v1 v' k1 k xs1 ys := by
  have hl := G.lt
  have hk : ∀ k, k < n₁ → W'.heap[k]? = W.heap[k]? := fun k hk => hg.block k (by have := G.base; omega) (fun e => by have := (G.o2.lt k e.symm).1; omega)
  exact ⟨(hk _ (by omega)).trans G.t0, (hk _ (by omega)).trans G.t1, (hk _ (by omega)).trans G.t2, own_keep_type G.o1 G.o2 (by decide) hg, ho, G.lt, Nat.le_trans G.base hg.size⟩
theorem Gn.alloc (G : Gn n₁ b W st u1 u2 v1 v2 k1 k2 xs1 xs2) (o : Obj) : Gn n₁ b (W.alloc o) st u1 u2 v1 v2 k1 k2 xs1 xs2 :=
  G.grown (World.grownBy_alloc W o none) (fun r e => by cases e) (by cases v1.ownBlock <;> simp) (by cases v2.ownBlock <;> simp)
theorem Gn.far (G : Gn n₁ b W st u1 u2 v1 v2 k1 k2 xs1 xs2) (k : Nat) (hk : k < n₁) (u : Value) : (W.setCell ⟨k, 0, none⟩ u).ownsRow n₁ 3 1 v1 k1 xs1 ∧ (W.setCell ⟨k, 0, none⟩ u).ownsRow n₁ 21 1 v2 k2 xs2 := by
  have hg : W.grownBy (W.setCell ⟨k, 0, none⟩ u) (some k) := ⟨rfl, rfl, rfl, by simp [World.setCell], fun i hi hne => Below.heap_setCell _ _ _ _ (fun e => hne (by rw [e]))⟩
  have hn : ∀ {e : TypeId} {v : Value} {m : Nat} {xs : List Value}, W.ownsRow n₁ e 1 v m xs → v.ownBlock = none ∨ v.ownBlock ≠ some k := fun {e v m xs} ho => by
    cases hv : v.ownBlock with
    | none => exact .inl rfl
    | some g => exact .inr fun he => by have := (ho.lt g hv).1; simp at he; omega
  exact ⟨G.o1.kept hg (hn G.o1), G.o2.kept hg (hn G.o2)⟩
theorem Gn.set1 (G : Gn n₁ b W st u1 u2 v1 v2 k1 k2 xs1 xs2) (u : Value) : Gn n₁ b (W.setCell ⟨b + 1, 0, none⟩ u) st u u2 v1 v2 k1 k2 xs1 xs2 := by
  have hl := G.lt
  obtain ⟨f1, f2⟩ := G.far (b + 1) (by omega) u
  refine ⟨(Below.heap_setCell _ _ _ _ (by simp)).trans G.t0, ?_, (Below.heap_setCell _ _ _ _ (by simp)).trans G.t2, f1, f2, G.lt, by simpa [World.setCell] using G.base⟩
  have := heap_setCell_same W (b + 1) 0 #[u1] 22 u G.t1
  simpa using this
theorem Gn.set2 (G : Gn n₁ b W st u1 u2 v1 v2 k1 k2 xs1 xs2) (u : Value) : Gn n₁ b (W.setCell ⟨b + 2, 0, none⟩ u) st u1 u v1 v2 k1 k2 xs1 xs2 := by
  have hl := G.lt
  obtain ⟨f1, f2⟩ := G.far (b + 2) (by omega) u
  refine ⟨(Below.heap_setCell _ _ _ _ (by simp)).trans G.t0, (Below.heap_setCell _ _ _ _ (by simp)).trans G.t1, ?_, f1, f2, G.lt, by simpa [World.setCell] using G.base⟩
  have := heap_setCell_same W (b + 2) 0 #[u2] 23 u G.t2
  simpa using this
theorem one_cell {k : Nat} {u : Value} {t : TypeId} (h : W.heap[k]? = some (.cells #[u] t (0, 0))) : W.cell? ⟨k, 0, none⟩ = some u ∧ W.frozen? ⟨k, 0, none⟩ = false := by
  refine ⟨?_, frozen_of_row W k 0 #[u] t h⟩
  rw [cell_of_row W k 0 #[u] t (0, 0) h]; rfl
end
theorem keeps_own {W W' : World} {B : Nat} {e : TypeId} {s n : Nat} {v : Value} {xs : List Value} (ho : W.ownsRow B e s v n xs) (hg : W.grownBy W' v.ownBlock) : KeepsOthers W W' := by
  refine KeepsOthers.of_grownBy hg (fun j o hj hh => ?_)
  rcases ho.2 with ⟨rfl, _⟩ | ⟨g, cap, cur, rfl, _, hgb, _⟩
  · simp [Value.ownBlock] at hj
  · have : g = j := by simpa [Value.ownBlock] using hj
    subst this
    rw [hgb] at hh
    simp at hh
    subst hh; rfl
/-- rows and boxes abide the turn of a block that is no cells and no older -/
theorem gn_own (n₁ b : Nat) (st : Int) (B : Nat) (hB : n₁ ≤ B) {β : Type} (u1 u2 : β → Value → Prop) (k : β → Nat) (x1 x2 : β → List Value) :
    OwnFrom B (fun (s : β) (W : World) => ∃ v1 v2, Gn n₁ b W st v1 v2 v1 v2 (k s) (k s) (x1 s) (x2 s)) := by
  intro s W W' row ⟨v1, v2, G⟩ hg hr
  refine ⟨v1, v2, G.grown hg (fun r e => by have := (hr r e).1; omega) ?_ ?_⟩
  · cases hv : v1.ownBlock with
    | none => exact .inl rfl
    | some g =>
      refine .inr fun e => ?_
      obtain ⟨_, o, ho, hc⟩ := hr g e.symm
      rcases G.o1.2 with ⟨rfl, _⟩ | ⟨g', cap, cur, rfl, _, hgb, _⟩
      · simp [Value.ownBlock] at hv
      · have : g' = g := by simpa [Value.ownBlock] using hv
        rw [← this, hgb] at ho
        simp at ho
        subst ho; cases hc
  · cases hv : v2.ownBlock with
    | none => exact .inl rfl
    | some g =>
      refine .inr fun e => ?_
      obtain ⟨_, o, ho, hc⟩ := hr g e.symm
      rcases G.o2.2 with ⟨rfl, _⟩ | ⟨g', cap, cur, rfl, _, hgb, _⟩
      · simp [Value.ownBlock] at hv
      · have : g' = g := by simpa [Value.ownBlock] using hv
        rw [← this, hgb] at ho
        simp at ho
        subst ho; cases hc
theorem U.all_len (s : ByteArray) : ∀ n p, s.size - p = n → (U.allFrom s p).length ≤ n := by
  intro n
  induction n using Nat.strongRecOn with
  | ind n ih =>
    intro p hp
    by_cases h : p < s.size
    · cases hb : U.bad s p with
      | true => rw [U.all_bad s p hb]; simp
      | false =>
        have hd := U.dec_pos s p
        rw [U.all_step s p h hb, List.length_cons]
        have := ih (s.size - (p + (Utf8.decode s p).2)) (by omega) _ rfl
        omega
    · rw [U.all_end s p h]; simp
/-- how many a range gives that is left at stop of them -/
def cut (st : Int) (n : Nat) : Nat := if 0 < st ∧ st < n then st.toNat else n
def GonePost (w : World) (L : List (Nat × Nat)) (en : Ending) (w' : World) : Prop :=
  ∃ v1 v2, en = .returned (.tuple #[v1, v2]) ∧ w'.ownsRow w.heap.size 3 1 v1 L.length (cellsP (L.map (·.1))) ∧ w'.ownsRow w.heap.size 21 1 v2 L.length (cellsR (L.map (·.2))) ∧ Below w.heap.size w w'
set_option maxRecDepth 100000 in
set_option maxHeartbeats 2000000 in
theorem gone_in (s : ByteArray) (hs : s.size ≤ 1125899906842) (Bn : Nat) (st : Int) (w : World) (hc : w.cell? ⟨Bn, 0, none⟩ = some (.string s)) (hB : Bn < w.heap.size) :
    CallsIn Fence.wide 5 Try.prog 14 #[.func (.func 43) #[] #[.pointer (some ⟨Bn, 0, none⟩)], .int .i64 st] w (GonePost w ((U.allFrom s 0).take (cut st (U.allFrom s 0).length))) := by
  have HC := hd hc
  have hnf := run_eql_func_nil
  obtain ⟨i0, i1, i2, i3, i4⟩ := info_parts info_i64
  obtain ⟨j0, j1, j2, j3, j4⟩ := info_parts info_i32
  clear hc
  refine callsIn_of_wp_marks Try.func14 rfl trivial ?_ rfl
  simp only [Try.ntmps14, List.size_toArray, List.length_cons, List.length_nil, Nat.reduceAdd, Nat.reduceSub, Array.replicate_succ, Array.replicate_zero, List.push_toArray, List.append_toArray, List.nil_append, List.cons_append]
  gi_wp2
  clear hnf
  have hB0 : Below w.heap.size w (((w.alloc (.cells #[.int .i64 st] 3)).alloc (.cells #[.slice none 0 0] 22)).alloc (.cells #[.slice none 0 0] 23)) := (((Below.refl _ w).alloc (Nat.le_refl _) _).alloc (by simp) _).alloc (by simp; omega) _
  have HB0 := hd hB0
  have HG0 : Hd (Gn (w.heap.size + 3) w.heap.size (((w.alloc (.cells #[.int .i64 st] 3)).alloc (.cells #[.slice none 0 0] 22)).alloc (.cells #[.slice none 0 0] 23)) st (.slice none 0 0) (.slice none 0 0) (.slice none 0 0) (.slice none 0 0) 0 0 [] []) := hd
    ⟨(Below.heap_alloc _ _ _ (by simp; omega)).trans ((Below.heap_alloc _ _ _ (by simp)).trans (World.alloc_heap_new w _)),
     (Below.heap_alloc _ _ _ (by simp)).trans (by have := World.alloc_heap_new (w.alloc (.cells #[.int .i64 st] 3)) (.cells #[.slice none 0 0] 22); rwa [World.size_alloc] at this),
     by have := World.alloc_heap_new ((w.alloc (.cells #[.int .i64 st] 3)).alloc (.cells #[.slice none 0 0] 22)) (.cells #[.slice none 0 0] 23); rwa [World.size_alloc, World.size_alloc] at this,
     World.ownsRow_nil _ _ _ _, World.ownsRow_nil _ _ _ _, Nat.le_refl _, by simp⟩
  have HCW := hd ((hB0.cell (p := ⟨Bn, 0, none⟩) hB).trans HC.o)
  clear hB0
  generalize hW : ((w.alloc (.cells #[.int .i64 st] 3)).alloc (.cells #[.slice none 0 0] 22)).alloc (.cells #[.slice none 0 0] 23) = Wl at *
  have hWs : Wl.heap.size = w.heap.size + 3 := by rw [← hW]; simp
  clear hW
  have HWS := hd hWs
  refine wpIn_rangeFunc_ownF rfl (by decide) (gf := 43) (lb := #[.pointer (some ⟨Bn, 0, none⟩)]) rfl trivial (enters_of Try.func43 (by kernel_rfl) rfl)
    (encs := fun x : Nat × Nat => #[.int .i64 (x.1 : Int), .int .i32 (x.2 : Int)]) (Kp := KpS w.heap.size) (S := fun ys => ys = U.allFrom s 0) (Sp := fun pre => pre <+: U.allFrom s 0) (N := (U.allFrom s 0).length) (w0 := Wl)
    (fun l J Jx W hW hJ hJx hY h0 => all1_in 4 (by decide) l Bn w.heap.size s hs J Jx W hJ hY ((hW.cell (p := ⟨Bn, 0, none⟩) (by show Bn < Wl.heap.size; have := HWS.o; omega)).trans HCW.o) hB (by have := hW.size; have := HWS.o; omega) h0)
    kpS_t (kpS_b (by have := HWS.o; omega)) (Below.refl _ _) (fun _ => rfl)
    (fun pre W => (∃ v1 v2, Gn (w.heap.size + 3) w.heap.size W st v1 v2 v1 v2 pre.length pre.length (cellsP (pre.map (·.1))) (cellsR (pre.map (·.2)))) ∧ (Below w.heap.size w W ∧ ¬ (0 < st ∧ st ≤ pre.length)))
    (fun c pre W => (∃ v1 v2, Gn (w.heap.size + 3) w.heap.size W st v1 v2 v1 v2 pre.length pre.length (cellsP (pre.map (·.1))) (cellsR (pre.map (·.2)))) ∧ (Below w.heap.size w W ∧ (c = .exit 0 ∧ (pre.length : Int) = st ∧ 0 < st)))
    (OwnFrom.and (gn_own _ _ _ _ (by have := HWS.o; omega) (fun _ _ => True) (fun _ _ => True) _ _ _) (OwnFrom.and (ownFrom_below (Nat.le_of_eq rfl) (by have := HWS.o; omega)) (ownFrom_pure _ _)))
    (fun c => OwnFrom.and (gn_own _ _ _ _ (by have := HWS.o; omega) (fun _ _ => True) (fun _ _ => True) _ _ _) (OwnFrom.and (ownFrom_below (Nat.le_of_eq rfl) (by have := HWS.o; omega)) (ownFrom_pure _ _)))
    ⟨⟨_, _, HG0.o⟩, HB0.o, fun h => by have := h.2; simp at this; omega⟩
    (fun x => { tmps := #[.func (.func 43) #[] #[.pointer (some ⟨Bn, 0, none⟩)], .int .i64 st, undef, .pointer (some ⟨w.heap.size, 0, none⟩), .slice none 0 0, .slice none 0 0, .pointer (some ⟨w.heap.size + 1, 0, none⟩), .pointer (some ⟨w.heap.size + 1 + 1, 0, none⟩), .int .i64 x.1, .int .i32 x.2, .func (.func 43) #[] #[.pointer (some ⟨Bn, 0, none⟩)], .bool false, .func (.func 43) #[] #[.pointer (some ⟨Bn, 0, none⟩)], .int .i64 x.1, .int .i32 x.2, undef, undef, undef, undef, undef, undef, undef, undef, undef, undef, undef, undef, undef, undef], defers := [] }) ?assign ?body ?done ?stop
  case assign =>
    intro l x W K hK
    gi_wp2
    exact hK
  case body =>
    rintro l pre x W ⟨⟨v1, v2, G⟩, hbel, hno⟩ hlt
    have hal := U.all_len s s.size 0 rfl
    have HBE := hd hbel
    have HNO := hd hno
    have hz := G.base
    have c1 := (one_cell G.t1).1
    have HG := hd G
    clear hbel hno G
    gi_wp2_with (gi_at_builtin; refine wpListIn_append_own _ rfl _ _ 22 rfl (w.heap.size + 3) 3 i0 (.int .i64 0) 1 8 Try.underlying22 i1 i2 i3 i4 rfl (by decide) v1 pre.length (cellsP (pre.map (·.1))) rfl (HG.o.o1.alloc _) ⟨W.heap.size, 0, none⟩ 1 1 [.int .i64 (x.1 : Int)] rfl rfl (cell_one_new _ _ _) (by simp [Value.oneCell']) (by unfold maxLen; omega) (by omega) (by simp; omega) ?_)
    intro v' w1 ho hg _
    obtain ⟨g1, cap1, rfl⟩ := ownsRow_succ ho
    clear c1
    have hz1 : w.heap.size ≤ W.heap.size := by omega
    have HK1 := hd ((KeepsOthers.alloc W (.cells #[.int .i64 (x.1 : Int)] 3)).trans (keeps_own (HG.o.o1.alloc _) hg))
    have HE1 := hd (((Below.refl w.heap.size W).alloc hz1 (.cells #[.int .i64 (x.1 : Int)] 3)).grown hg (by simp; omega) (fun k hk => by have := (HG.o.o1.lt k hk).1; omega))
    have HG1 := hd ((HG.o.alloc (.cells #[.int .i64 (x.1 : Int)] 3)).app1 ho hg)
    clear ho hg HG
    have c1 := (one_cell HG1.o.t1).1
    have f1 := (one_cell HG1.o.t1).2
    have HG2 := hd (HG1.o.set1 (.slice (some ⟨g1, 0, none⟩) (pre.length + 1) cap1))
    have c2 : (w1.setCell ⟨w.heap.size + 1, 0, none⟩ (.slice (some ⟨g1, 0, none⟩) (pre.length + 1) cap1)).cell? ⟨w.heap.size + 1 + 1, 0, none⟩ = some v2 := (one_cell HG2.o.t2).1
    have hz2 := HG1.o.base
    have HZ2 := hd HG2.o.base
    have HCN : Hd (∀ j u, ([.int .i32 (x.2 : Int)] : List Value)[j]? = some u → ((w1.setCell ⟨w.heap.size + 1, 0, none⟩ (.slice (some ⟨g1, 0, none⟩) (pre.length + 1) cap1)).alloc (.cells #[.int .i32 (x.2 : Int)] 21)).cell? ((⟨w1.heap.size, 0, none⟩ : Addr).add j) = some u) := hd <| by
      have e : (w1.setCell ⟨w.heap.size + 1, 0, none⟩ (.slice (some ⟨g1, 0, none⟩) (pre.length + 1) cap1)).heap.size = w1.heap.size := by simp [World.setCell]
      have := cell_one_new (w1.setCell ⟨w.heap.size + 1, 0, none⟩ (.slice (some ⟨g1, 0, none⟩) (pre.length + 1) cap1)) (.int .i32 (x.2 : Int)) 21
      rw [e] at this
      exact this
    gi_wp2_with (gi_at_builtin; refine wpListIn_append_own _ rfl _ _ 23 rfl (w.heap.size + 3) 21 j0 (.int .i32 0) 1 4 Try.underlying23 j1 j2 j3 j4 rfl (by decide) v2 pre.length (cellsR (pre.map (·.2))) rfl (HG2.o.o2.alloc _) ⟨w1.heap.size, 0, none⟩ 1 1 [.int .i32 (x.2 : Int)] rfl rfl HCN.o (by simp [Value.oneCell']) (by unfold maxLen; omega) (by omega) (by simp; omega) ?_)
    intro v3 w3 ho hg _
    obtain ⟨g3, cap3, rfl⟩ := ownsRow_succ ho
    clear c1 f1 c2
    have HK2 := hd (((KeepsOthers.setCell w1 ⟨w.heap.size + 1, 0, none⟩ (.slice (some ⟨g1, 0, none⟩) (pre.length + 1) cap1)).trans (KeepsOthers.alloc _ (.cells #[.int .i32 (x.2 : Int)] 21))).trans (keeps_own (HG2.o.o2.alloc _) hg))
    have HE2 := hd ((((Below.refl w.heap.size w1).setCell (p := ⟨w.heap.size + 1, 0, none⟩) (show w.heap.size ≤ w.heap.size + 1 by omega) (.slice (some ⟨g1, 0, none⟩) (pre.length + 1) cap1)).alloc (by have := HZ2.o; omega) (.cells #[.int .i32 (x.2 : Int)] 21)).grown hg (by simp; have := HZ2.o; simp at this; omega) (fun k hk => by have := (HG2.o.o2.lt k hk).1; omega))
    have HG3 := hd ((HG2.o.alloc (.cells #[.int .i32 (x.2 : Int)] 21)).app2 ho hg)
    clear ho hg HG1 HG2
    have c3 : w3.cell? ⟨w.heap.size + 1 + 1, 0, none⟩ = some v2 := (one_cell HG3.o.t2).1
    have f3 : w3.frozen? ⟨w.heap.size + 1 + 1, 0, none⟩ = false := (one_cell HG3.o.t2).2
    have HG4 := hd (HG3.o.set2 (.slice (some ⟨g3, 0, none⟩) (pre.length + 1) cap3))
    have c4 : (w3.setCell ⟨w.heap.size + 1 + 1, 0, none⟩ (.slice (some ⟨g3, 0, none⟩) (pre.length + 1) cap3)).cell? ⟨w.heap.size + 1, 0, none⟩ = some (.slice (some ⟨g1, 0, none⟩) (pre.length + 1) cap1) := (one_cell HG4.o.t1).1
    have c5 : (w3.setCell ⟨w.heap.size + 1 + 1, 0, none⟩ (.slice (some ⟨g3, 0, none⟩) (pre.length + 1) cap3)).cell? ⟨w.heap.size, 0, none⟩ = some (.int .i64 st) := (one_cell HG4.o.t0).1
    have HK4 := hd (HK1.o.trans (HK2.o.trans (KeepsOthers.setCell w3 ⟨w.heap.size + 1 + 1, 0, none⟩ (.slice (some ⟨g3, 0, none⟩) (pre.length + 1) cap3))))
    have HE4 := hd (HE1.o.trans (HE2.o.setCell (p := ⟨w.heap.size + 1 + 1, 0, none⟩) (show w.heap.size ≤ w.heap.size + 1 + 1 by omega) (.slice (some ⟨g3, 0, none⟩) (pre.length + 1) cap3)))
    have HI : Hd (∃ v1 v2, Gn (w.heap.size + 3) w.heap.size (w3.setCell ⟨w.heap.size + 1 + 1, 0, none⟩ (.slice (some ⟨g3, 0, none⟩) (pre.length + 1) cap3)) st v1 v2 v1 v2 (pre ++ [x]).length (pre ++ [x]).length (cellsP ((pre ++ [x]).map (·.1))) (cellsR ((pre ++ [x]).map (·.2)))) := hd <| by
      refine ⟨.slice (some ⟨g1, 0, none⟩) (pre.length + 1) cap1, .slice (some ⟨g3, 0, none⟩) (pre.length + 1) cap3, ?_⟩
      rw [List.map_append, List.map_append, List.map_singleton, List.map_singleton, cellsP_snoc, cellsR_snoc, List.length_append]
      exact HG4.o
    clear HG4 HG3
    by_cases hst : (pre.length : Int) + 1 = st
    · have HST := hd hst
      have hb : ((pre.length : Int) + 1 == st) = true := by rw [beq_iff_eq]; exact hst
      clear hst
      gi_wp2
      exact ⟨HK4.o, HI.o, HBE.o.trans HE4.o, rfl, by rw [List.length_append]; have := HST.o; simp; omega, by have := HST.o; omega⟩
    · have HST := hd hst
      have hb : ((pre.length : Int) + 1 == st) = false := by rw [beq_eq_false_iff_ne]; exact hst
      clear hst
      gi_wp2
      exact ⟨HK4.o, ⟨HK4.o.walks, HE4.o⟩, HI.o, HBE.o.trans HE4.o, fun h => HNO.o ⟨h.1, by have h2 := h.2; rw [List.length_append] at h2; have := HST.o; simp at h2; omega⟩⟩
  case done =>
    rintro D ys W hD rfl ⟨⟨v1, v2, G⟩, hbel, hno⟩ hK
    have c1 := (one_cell G.t1).1
    have c2 : W.cell? ⟨w.heap.size + 1 + 1, 0, none⟩ = some v2 := (one_cell G.t2).1
    have HG := hd G
    have HK := hd hK
    have HBE := hd hbel
    have HCUT : Hd ((U.allFrom s 0).take (cut st (U.allFrom s 0).length) = U.allFrom s 0) := hd <| by
      unfold cut
      rw [if_neg (by omega), List.take_length]
    clear G hK hbel hno
    gi_wp2
    gi_region
    all_goals
      gi_wp2
      refine ⟨by simp, .inl ⟨_, _, rfl, run_takeDeferred (w := W.drew) HK.o, ?_⟩⟩
      refine ⟨_, results_tmp2 rfl _ _ _, v1, v2, rfl, ?_, ?_, ?_⟩
      · rw [HCUT.o]
        exact own_mono (ownsRow_putObj (W := W.drew) HG.o.o1 _ HK.o rfl) (by omega)
      · rw [HCUT.o]
        exact own_mono (ownsRow_putObj (W := W.drew) HG.o.o2 _ HK.o rfl) (by omega)
      · exact (HBE.o.drew).trans (belowK_b (w := w) (Nat.le_refl _) W.drew D _ _ (by have := HWS.o; omega) HK.o rfl rfl)
  case stop =>
    rintro D c pre W hD hSp ⟨⟨v1, v2, G⟩, hbel, rfl, hpl, hst⟩ hK
    have hcut : (U.allFrom s 0).take (cut st (U.allFrom s 0).length) = pre := by
      obtain ⟨r, hr⟩ := hSp
      unfold cut
      rw [← hr, List.length_append]
      by_cases h0 : r.length = 0
      · rw [List.eq_nil_of_length_eq_zero h0, if_neg (by simp; omega)]; simp
      · rw [if_pos (by simp; omega), show st.toNat = pre.length by omega, List.take_left]
    have HCUT := hd hcut
    have c1 := (one_cell G.t1).1
    have c2 : W.cell? ⟨w.heap.size + 1 + 1, 0, none⟩ = some v2 := (one_cell G.t2).1
    have HG := hd G
    have HK := hd hK
    have HBE := hd hbel
    clear G hK hbel hcut hpl hst hSp
    gi_wp2
    gi_region
    all_goals
      gi_wp2
      refine ⟨by simp, .inl ⟨_, _, rfl, run_takeDeferred (w := W.drew) HK.o, ?_⟩⟩
      refine ⟨_, results_tmp2 rfl _ _ _, v1, v2, rfl, ?_, ?_, ?_⟩
      · rw [HCUT.o]
        exact own_mono (ownsRow_putObj (W := W.drew) HG.o.o1 _ HK.o rfl) (by omega)
      · rw [HCUT.o]
        exact own_mono (ownsRow_putObj (W := W.drew) HG.o.o2 _ HK.o rfl) (by omega)
      · exact (HBE.o.drew).trans (belowK_b (w := w) (Nat.le_refl _) W.drew D _ _ (by have := HWS.o; omega) HK.o rfl rfl)
theorem gone_any (s : ByteArray) (hs : s.size ≤ 1125899906842) (Bn : Nat) (st : Int) (w : World) (hc : w.cell? ⟨Bn, 0, none⟩ = some (.string s)) (hB : Bn < w.heap.size) :
    Calls Try.prog 14 #[.func (.func 43) #[] #[.pointer (some ⟨Bn, 0, none⟩)], .int .i64 st] w (GonePost w ((U.allFrom s 0).take (cut st (U.allFrom s 0).length))) :=
  callsIn_wide.1 (gone_in s hs Bn st w hc hB)
end Go.Proofs.Ythlpgnidjjclcaa
