/- append(x, make([]byte, m)...): the builtin's form with a number. No function of the program in sight. -/
import Derived.Test.YtcbggkdginfakaaGreatDoorLin
namespace Go.Proofs.YtcbggkdginfakaaGreatDoor
open Go.RowKit
set_option linter.unusedVariables false
set_option linter.unusedSimpArgs false
section
variable {P : Program}
theorem zeros_list (m : Nat) : (Builtin.zeroCells (Value.int .u8 0).cells m).toList = List.replicate m (.int .u8 0) := by
  apply List.ext_getElem
  · simp [size_zeroCells, Value.cells]
  · intro k h1 h2
    simp [Builtin.zeroCells, Value.cells, Nat.mod_one]
theorem run_app0_room (w : World) (t u ty e : TypeId) (ik : IntKind) (i : TypeInfo) (ht : P.underlying t = some (.slice e)) (hu : P.underlying u = some (.int ik)) (hi : P.info? e = some i) (hz : i.zero = some (.int .u8 0)) (hs : i.size = 1) (hby : i.bytes = 1)
    (g n cap m : Nat) (cur : Array Value) (hg : w.heap[g]? = some (.cells cur e (0, 0))) (hm : 0 < m) (hmm : m ≤ 140737488355328) (hroom : n + m ≤ cap) (hfit : n + m ≤ cur.size) :
    (Builtin.append_ #[t, u] ty #[.slice (some ⟨g, 0, none⟩) n cap, .int .i64 (m : Int)]).run P w =
      .ok (.slice (some ⟨g, 0, none⟩) (n + m) cap) (w.setRow g (cur.toList.take n ++ List.replicate m (Value.int .u8 0) ++ cur.toList.drop (n + m)).toArray) := by
  have hst := run_storeCells_at P g n e (List.replicate m (.int .u8 0)) 0 cur w hg (by simpa using hfit) (by intro x hx; rw [List.eq_of_mem_replicate hx]; rfl)
  simp only [Nat.add_zero, List.length_replicate] at hst
  have hw : IntKind.i64.wrap (m : Int) = (m : Int) := by rw [IntKind.wrap_i64]; omega
  have h1 : ¬ (m : Int) < 0 := by omega
  have h2 : ¬ (281474976710656 : Int) < (m : Int) := by omega
  have h3 : ¬ m = 0 := by omega
  have h4 : ¬ (m : Int) ≤ 0 := by omega
  have hz2 := zeros_list m
  simp [Builtin.append_, run_underlying ht, run_underlying hu, sizeOf, typeInfo, zeroValue, hi, hz, hs, hby, asInt, asIntOf, hw, h4, h1, h2, h3, hroom, Addr.add_lit, hz2, hst]
theorem run_app0_grow (w : World) (t u ty e : TypeId) (ik : IntKind) (i : TypeInfo) (ht : P.underlying t = some (.slice e)) (hu : P.underlying u = some (.int ik)) (hi : P.info? e = some i) (hz : i.zero = some (.int .u8 0)) (hs : i.size = 1) (hby : i.bytes = 1)
    (b : Option Addr) (n cap m : Nat) (xs : List Value) (hf : (Builtin.firstCells 1 n (.slice b n cap)).run P w.drew = .ok xs.toArray w.drew) (hm : 0 < m) (hmm : n + m ≤ 140737488355328) (hg : cap < n + m) (hfit : Builtin.nextslicecap (n + m) cap ≤ 281474976710656) :
    (Builtin.append_ #[t, u] ty #[.slice b n cap, .int .i64 (m : Int)]).run P w =
      .ok (.slice (some ⟨w.heap.size, 0, none⟩) (n + m) (grownCap w (n + m) cap e)) (w.drew.alloc (.cells (xs.toArray ++ (Builtin.zeroCells (Value.int .u8 0).cells m ++ Builtin.zeroCells (Value.int .u8 0).cells (grownCap w (n + m) cap e - (n + m)))) e)) := by
  have hw : IntKind.i64.wrap (m : Int) = (m : Int) := by rw [IntKind.wrap_i64]; omega
  have h1 : ¬ (m : Int) < 0 := by omega
  have h2 : ¬ (281474976710656 : Int) < (m : Int) := by omega
  have h3 : ¬ m = 0 := by omega
  have h4 : ¬ (m : Int) ≤ 0 := by omega
  have h5 : ¬ n + m ≤ cap := by omega
  have h6 : ¬ (9223372036854775807 : Int) < (n : Int) + (m : Int) := by omega
  have h7 : ¬ 281474976710656 < Builtin.nextslicecap (n + m) cap := by omega
  simp [Builtin.append_, run_underlying ht, run_underlying hu, sizeOf, typeInfo, zeroValue, hi, hz, hs, hby, asInt, asIntOf, hw, h1, h2, h3, h4, h5, h6, h7, Question.forced, hf, newRow, grownCap]
theorem run_app0 (w : World) (t u ty e : TypeId) (ik : IntKind) (ht : P.underlying t = some (.slice e)) (hu : P.underlying u = some (.int ik)) (hinfo : (P.info? e).map (fun i => (i.zero, i.size, i.bytes)) = some (some (.int .u8 0), 1, 1))
    (B : Nat) (v : Value) (n m : Nat) (xs : List Value) (hown : w.ownsRow B e 1 v n xs) (hm : 0 < m) (hb : n + m ≤ 140737488355328) (hB : B ≤ w.heap.size) :
    ∃ v' w', (Builtin.append_ #[t, u] ty #[v, .int .i64 (m : Int)]).run P w = .ok v' w' ∧ w'.ownsRow B e 1 v' (n + m) (xs ++ List.replicate m (.int .u8 0)) ∧ w.grownBy w' v.ownBlock ∧
      KeepAt w w' e (n * 1) v.ownBlock ∧ (v'.ownBlock = v.ownBlock ∨ v'.ownBlock = some w.heap.size) := by
  obtain ⟨i, hi, hz, hs, hby⟩ := info_parts hinfo
  have h63 : n + m ≤ maxLen := by unfold maxLen; omega
  have hxl : xs.length = n := by have := hown.1; omega
  have hlen : (xs ++ List.replicate m (Value.int .u8 0)).length = (n + m) * 1 := by rw [List.length_append, List.length_replicate, hxl]; omega
  have grown : ∀ (old : Nat) (row : Option Nat), (w.drew.alloc (.cells (xs.toArray ++ (Builtin.zeroCells (Value.int .u8 0).cells m ++ Builtin.zeroCells (Value.int .u8 0).cells (grownCap w (n + m) old e - (n + m)))) e)).ownsRow B e 1
        (.slice (some ⟨w.heap.size, 0, none⟩) (n + m) (grownCap w (n + m) old e)) (n + m) (xs ++ List.replicate m (.int .u8 0)) ∧
      w.grownBy (w.drew.alloc (.cells (xs.toArray ++ (Builtin.zeroCells (Value.int .u8 0).cells m ++ Builtin.zeroCells (Value.int .u8 0).cells (grownCap w (n + m) old e - (n + m)))) e)) row := by
    intro old row
    have hge := grownCap_ge w (n + m) old e
    have hcm : grownCap w (n + m) old e ≤ maxLen := grownCap_le_maxLen w (n + m) old e h63
    refine ⟨⟨hlen, .inr ⟨w.heap.size, _, _, rfl, hB, heap_alloc_new w.drew _, hge, hcm, ?_, ?_⟩⟩, ⟨rfl, rfl, rfl, by simp, fun k hk _ => heap_alloc_old w.drew _ hk⟩⟩
    · simp only [Array.size_append, List.size_toArray, size_zeroCells, hxl]
      have : (Value.int IntKind.u8 0).cells.size = 1 := rfl
      rw [this]
      omega
    · rw [Array.toList_append, Array.toList_append, zeros_list, zeros_list, ← List.append_assoc, ← hlen]
      exact List.take_left
  rcases hown.2 with ⟨rfl, rfl⟩ | ⟨g, cap, cur, rfl, hbg, hg, hnc, hcm, hcs, htake⟩
  · have hx : xs = [] := List.eq_nil_of_length_eq_zero hxl
    have hr := run_app0_grow (P := P) w t u ty e ik i ht hu hi hz hs hby none 0 0 m xs (by subst hx; simp [Builtin.firstCells, loadCells, loadCellsFrom]) hm hb (by omega) (by have h := growslice_fits (need := 0 + m) (old := 0) (bytes := 1) (by omega) (by omega); simpa using h)
    have hgr := grown 0 (Value.ownBlock (.slice none 0 0))
    refine ⟨_, _, hr, hgr.1, hgr.2, ?_, .inr rfl⟩
    intro g cur hg
    cases hg
  · by_cases hroom : n + m ≤ cap
    · have hr := run_app0_room (P := P) w t u ty e ik i ht hu hi hz hs hby g n cap m cur hg hm (by omega) hroom (by omega)
      have hn1 : n * 1 = n := by omega
      rw [hn1] at htake
      refine ⟨_, _, hr, ⟨hlen, .inr ⟨g, cap, _, rfl, hbg, setRow_heap w g cur _ e _ hg, hroom, hcm, ?_, ?_⟩⟩, ⟨rfl, rfl, rfl, by simp, fun k _ hk => setRow_other w g k _ (fun e => hk (by simp [Value.ownBlock, e]))⟩, ?_, .inl rfl⟩
      · simp only [List.size_toArray, List.length_append, List.length_take, List.length_drop, Array.length_toList, List.length_replicate]
        omega
      · rw [htake, ← hlen]
        exact List.take_left
      · intro g1 cur1 he hg1
        obtain rfl : g = g1 := by simpa [Value.ownBlock] using he
        rw [hg] at hg1
        obtain ⟨rfl, _⟩ : cur = cur1 ∧ True := by simpa using hg1
        refine ⟨_, setRow_heap w g cur _ e _ hg, ?_, ?_⟩
        · simp only [List.size_toArray, List.length_append, List.length_take, List.length_drop, Array.length_toList, List.length_replicate]
          omega
        · rw [hn1, htake, List.append_assoc, ← hxl]
          exact List.take_left
    · have holds : ∀ j u, xs[j]? = some u → w.cell? ((⟨g, 0, none⟩ : Addr).add j) = some u := hown.cells (g := g) rfl
      have hf := run_firstCells_some (P := P) w.drew 1 n ⟨g, 0, none⟩ n cap xs (by omega) (by simpa using holds)
      have hr := run_app0_grow (P := P) w t u ty e ik i ht hu hi hz hs hby (some ⟨g, 0, none⟩) n cap m xs hf hm hb (by omega) (by have h := growslice_fits (need := n + m) (old := cap) (bytes := 1) (by omega) (by omega); simpa using h)
      have hgr := grown cap (Value.ownBlock (.slice (some ⟨g, 0, none⟩) n cap))
      refine ⟨_, _, hr, hgr.1, hgr.2, fun g1 cur1 he hg1 => ?_, .inr rfl⟩
      exact ⟨cur1, (heap_alloc_old w.drew _ (Array.getElem?_eq_some_iff.1 hg1).1).trans hg1, rfl, rfl⟩
theorem wpList_app0 {ops : Array Oper} {rest : List Oper} {o : Oper} {a : Act} {Q : Exit → Act → World → Prop} (w : World) (t u e : TypeId) (ik : IntKind) (ht : P.underlying t = some (.slice e)) (hu : P.underlying u = some (.int ik)) (hinfo : (P.info? e).map (fun i => (i.zero, i.size, i.bytes)) = some (some (.int .u8 0), 1, 1))
    (hg : Region.wanted o (yielded ops a.tmps) = true) (s x : Operand) (ho : o.op = .call { callee := .builtin .append, args := #[s, x], argTypes := #[t, u] })
    (B : Nat) (v : Value) (n m : Nat) (xs : List Value) (hs : a.eval s = v) (hown : w.ownsRow B e 1 v n xs) (z : Int) (hzm : z = (m : Int)) (hx : a.eval x = .int .i64 z) (hm : 0 < m) (hb : n + m ≤ 140737488355328) (hB : B ≤ w.heap.size)
    (h : ∀ v' w', w'.ownsRow B e 1 v' (n + m) (xs ++ List.replicate m (.int .u8 0)) → w.grownBy w' v.ownBlock → KeepAt w w' e (n * 1) v.ownBlock → (v'.ownBlock = v.ownBlock ∨ v'.ownBlock = some w.heap.size) → wpList P ops Q rest (a.put o.dst v') w') : wpList P ops Q (o :: rest) a w := by
  refine wpList_wanted hg fun K hK => ?_
  subst hzm
  obtain ⟨v', w', hrun, h2, h3, h4, h5⟩ := run_app0 (P := P) w t u o.type e ik ht hu hinfo B v n m xs hown hm hb hB
  unfold Oper.wp execOp
  simp only [ho, resolve, invoke, builtin, Sem.run_bind, Sem.run_pure, Result.andThen_ok, List.map_toArray, List.map_cons, List.map_nil, hs, hx, hrun]
  exact hK _ _ (h v' w' h2 h3 h4 h5)
end
end Go.Proofs.YtcbggkdginfakaaGreatDoor
