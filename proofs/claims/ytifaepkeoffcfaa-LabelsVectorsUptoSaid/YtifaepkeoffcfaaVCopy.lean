/- weirlaw16.copied. -/
import Derived.Test.YtifaepkeoffcfaaVVec
import Derived.Test.YtifaepkeoffcfaaLCmpW
namespace Go.Proofs.Ytifaepkeoffcfaa
open Go.RowKit Go.Sort
set_option linter.unusedVariables false
set_option linter.unusedSimpArgs false
theorem cellsE_set (P D : List El) (x y : El) : ((cellsE (P ++ y :: D)).set (P.length * 2) x.sl).set (P.length * 2 + 1) (.float .f64 x.f) = cellsE (P ++ x :: D) := by
  rw [cellsE_app, cellsE_app, cellsE_cons, cellsE_cons]
  have h := cellsE_len P
  rw [List.set_append_right _ _ (by omega), h, Nat.sub_self, List.set_cons_zero, List.set_append_right _ _ (by omega), h, show P.length * 2 + 1 - P.length * 2 = 1 by omega]
  rfl
theorem madeE (n : Nat) : (madeCells #[.slice none 0 0, .float .f64 0] (n * 2)).toList = cellsE (List.replicate n default) := by
  apply List.ext_getElem?
  intro t
  have hl : (madeCells #[.slice none 0 0, .float .f64 0] (n * 2)).toList.length = n * 2 := by simp [madeCells]
  have hr : (cellsE (List.replicate n default)).length = n * 2 := by rw [cellsE_len, List.length_replicate]
  by_cases ht : t < n * 2
  · have hq : t / 2 < (List.replicate n (default : El)).length := by rw [List.length_replicate]; omega
    obtain ⟨e1, e2⟩ := cellsE_at (List.replicate n default) (t / 2) hq
    rw [List.getElem_replicate] at e1 e2
    have hl2 : (madeCells #[.slice none 0 0, .float .f64 0] (n * 2)).toList[t]? = some (#[Value.slice none 0 0, .float .f64 0][t % 2]!) := by
      rw [List.getElem?_eq_getElem (by rw [hl]; exact ht)]
      simp [madeCells, Value.cells]
    rw [hl2]
    rcases Nat.mod_two_eq_zero_or_one t with h0 | h0
    · have : t / 2 * 2 = t := by omega
      rw [this] at e1
      rw [e1, h0]; rfl
    · have : t / 2 * 2 + 1 = t := by omega
      rw [this] at e2
      rw [e2, h0]; rfl
  · rw [List.getElem?_eq_none (by rw [hl]; omega), List.getElem?_eq_none (by rw [hr]; omega)]
/-- append(b, x...) where b was laid empty just before, at a step of a region that draws -/
theorem step_app_empty {P : Program} {ops : Array Oper} {o : Oper} {a : Act} {K : Act → World → Prop} {Q : Exit → Act → World → Prop} {F : Prop} (t e : TypeId) (z : Value) (size bytes : Nat) (ht : P.underlying t = some (.slice e)) (hinfo : (P.info? e).map (fun i => (i.zero, i.size, i.bytes)) = some (some z, size, bytes)) (hzs : z.cells.size = size) (hsz : 0 < size)
    (hgd : o.guard = none) (s x : Operand) (ho : o.op = .call { callee := .builtin .append, args := #[s, x], argTypes := #[t, t] })
    (W : World) (hs : a.eval s = .slice (some ⟨W.heap.size, 0, none⟩) 0 0) (y : Value) (m : Nat) (news : List Value) (hx : a.eval x = y) (hy : IsL size W y m news) (h1 : ∀ u ∈ news, u.oneCell' = true)
    (hb : m * bytes ≤ 140737488355328) (hn : m ≤ 140737488355328)
    (h : ∀ v' w', w'.ownsRow W.heap.size e size v' m news → Below W.heap.size W w' → K (a.put o.dst v') w') :
    if Region.wanted o (yielded ops a.tmps) = true then Oper.wp P o a (W.alloc (.cells #[] e)) K Q else F := by
  refine step_app_any hgd t e z size bytes ht hinfo hzs hsz s x ho W.heap.size _ 0 [] hs (World.ownsRow_made W #[] 0 (Nat.le_refl _) (by decide) (by simp)) y m news hx (hy.below ((Below.refl _ _).alloc (Nat.le_refl _) _)) h1 (by rw [Nat.zero_add]; exact hb) (by omega) (by simp) fun v' w' h2 h3 _ => ?_
  rw [Nat.zero_add, List.nil_append] at h2
  exact h v' w' h2 (bel_grown ((Below.refl _ _).alloc (Nat.le_refl _) _) h3 fun k hk => by simp [Value.ownBlock] at hk; omega)
/-- copied has copied k elements into block G -/
structure CI (w0 : World) (T T2 : TypeId) (G n : Nat) (E : List El) (k : Nat) (w : World) : Prop where
  ex : ∃ P : List El, P.length = k ∧ P.map El.d = (E.take k).map El.d ∧ w.ownsRow w0.heap.size T 2 (.slice (some ⟨G, 0, none⟩) n n) n (cellsE (P ++ List.replicate (n - k) default)) ∧ LinE w w0.heap.size T2 P
  bel : Below w0.heap.size w0 w
theorem CI.push {w0 w1 w2 : World} {G n k cc c5 f : Nat} {E P : List El} {p A5 : Option Addr} {l : List Lb} (hk : k < n) (hP : P.length = k ∧ P.map El.d = (E.take k).map El.d)
    (ho : w1.ownsRow w0.heap.size 50 2 (.slice (some ⟨G, 0, none⟩) n n) n (cellsE (P ++ List.replicate (n - k) default))) (hl : LinE w1 w0.heap.size 26 P) (hE : (E.take (k + 1)).map El.d = (E.take k).map El.d ++ [El.d ⟨p, cc, l, f⟩])
    (h5 : w2.ownsRow w1.heap.size 26 2 (.slice A5 l.length c5) l.length (cellsL l)) (hb5 : Below w1.heap.size w1 w2) (h01 : Below w0.heap.size w0 w1) :
    CI w0 50 26 G n E (k + 1) ((w2.setCell ⟨G, k * 2, none⟩ (.slice A5 l.length c5)).setCell ⟨G, k * 2 + 1, none⟩ (.float .f64 f)) := by
  have ho2 := own_below ho hb5
  obtain ⟨o3, g3⟩ := ho2.stored (k * 2) (.slice A5 l.length c5)
  obtain ⟨o4, g4⟩ := o3.stored (k * 2 + 1) (.float .f64 f)
  have hr : List.replicate (n - k) (default : El) = default :: List.replicate (n - (k + 1)) default := by
    rw [show n - k = (n - (k + 1)) + 1 by omega, List.replicate_succ]
  have hs := cellsE_set P (List.replicate (n - (k + 1)) default) ⟨A5, c5, l, f⟩ default
  rw [hP.1] at hs
  rw [hr] at o4
  have e : (⟨A5, c5, l, f⟩ : El).sl = .slice A5 l.length c5 := rfl
  rw [e] at hs
  rw [hs] at o4
  refine ⟨⟨P ++ [⟨A5, c5, l, f⟩], by simp [hP.1], by rw [List.map_append, hP.2, hE]; rfl, by rw [List.append_assoc]; exact o4, ?_⟩, ?_⟩
  · exact ((hl.push (x := ⟨A5, c5, l, f⟩) h5 hb5 h01.size).typed ho2 (by decide) (g3.trans g4))
  · exact bel_grown (Go.Proofs.Ytifaepkeoffcfaa.bel h01 hb5) (g3.trans g4) (fun g hg => (ho2.lt g hg).1)
set_option maxHeartbeats 4000000 in
set_option maxRecDepth 100000 in
theorem copied_any (n : Nat) (A : Option Addr) (c : Nat) (E : List El) (w : World) (hV : IsV w (.slice A n c) n E) (hn : n ≤ 1099511627776) (hS : ∀ x ∈ E, x.l.length ≤ 1099511627776) :
    Calls Try.prog 28 #[.slice A n c] w fun e w' => ∃ G P, e = .returned (.slice (some ⟨G, 0, none⟩) n n) ∧ P.map El.d = E.map El.d ∧ w'.ownsRow w.heap.size 50 2 (.slice (some ⟨G, 0, none⟩) n n) n (cellsE P) ∧ LinE w' w.heap.size 26 P ∧ Below w.heap.size w w' := by
  have HV := hd hV
  have HN := hd hV.len
  have HS := hd hS
  clear hV hS
  go_enter Try.func28, Try.ntmps28
  go_wp2_with (at_make; refine wpList_mkn _ 44 50 (.agg #[.slice none 0 0, .float .f64 0]) 2 32 Try.underlying44 info_elem rfl _ _ rfl w.heap.size _ _ n rfl rfl ?b1 ?b2 ?b3 ?_)
  case b1 => omega
  case b2 => omega
  case b3 => exact Nat.le_refl _
  intro w2 ho hg
  rw [madeE] at ho
  have HI := hd (show CI w 50 26 w.heap.size n E 0 w2 from ⟨⟨[], rfl, rfl, by simpa using ho, LinE.nil _ _ _⟩, bel_grown (Below.refl _ _) hg (fun k h => by cases h)⟩)
  clear ho hg
  obtain ⟨G, hG⟩ : ∃ G, G = w.heap.size := ⟨_, rfl⟩
  have HG := hd hG
  rw [← hG] at HI ⊢
  clear hG
  go_wp2
  go_loopg [11] n (fun kx x wr => ∃ k : Nat, k ≤ n ∧ x = .int .i64 k ∧ n - k ≤ kx ∧ Hd (CI w 50 26 G n E k wr))
  case atStart => exact ⟨0, Nat.zero_le _, rfl, Nat.le_refl _, HI⟩
  case round =>
    clear HI
    obtain ⟨k, hk, rfl, hkx, HI⟩ := hrel
    by_cases hlt : k < n
    · have hlz : (k : Int) < (n : Int) := by omega
      have hkl : k < E.length := by rw [HN.o]; exact hlt
      have HBW := hd HI.o.bel
      obtain ⟨b, off, rfl, hb, c1, c2⟩ := (HV.o.below HBW.o).at_ k hkl
      have HX := hd (show IsL 2 wr (E[k]'hkl).sl (E[k]'hkl).l.length (cellsL (E[k]'hkl).l) from (HV.o.below HBW.o).2 _ (List.getElem_mem hkl))
      have HSX := hd (HS.o _ (List.getElem_mem hkl))
      have HEK := hd (show (E.take (k + 1)).map El.d = (E.take k).map El.d ++ [(E[k]'hkl).d] by rw [List.take_succ_eq_append_getElem hkl, List.map_append]; rfl)
      generalize E[k]'hkl = x at *
      obtain ⟨p, cc, l, f⟩ := x
      simp only [El.sl] at c1 c2 HX HSX HEK
      obtain ⟨P, hPk, hPd, hPo, hPl⟩ := HI.o.ex
      have HB1 := hd (show Below wr.heap.size wr (wr.alloc (.cells #[.slice p l.length cc, .float .f64 f] 50)).drew from ((Below.refl _ _).alloc (Nat.le_refl _) _).drew)
      have HPO := hd (own_below hPo HB1.o)
      have HPL := hd (hPl.below HB1.o)
      have HPD := hd (And.intro hPk hPd)
      have HX4 := hd (HX.o.below HB1.o)
      clear hPk hPd hPo hPl HI
      go_wp2_with fail
      obtain ⟨W, hW⟩ : ∃ W, W = wr.alloc (.cells #[.slice p l.length cc, .float .f64 f] 50) := ⟨_, rfl⟩
      obtain ⟨h, hh⟩ : ∃ h, h = wr.heap.size := ⟨_, rfl⟩
      have d1 : W.cell? ⟨h, 0, none⟩ = some (.slice p l.length cc) := by rw [hW, hh]; simp
      have d2 : W.cell? ⟨h, 1, none⟩ = some (.float .f64 f) := by rw [hW, hh]; simp
      have hhl : h < W.drew.heap.size := by rw [hW, hh]; simp
      rw [← hW] at HPO HPL HX4 HB1 ⊢
      rw [← hh]
      clear hW hh c1 c2
      have hGl : G < W.drew.heap.size := (HPO.o.lt G rfl).2
      obtain ⟨u1, hu1⟩ : ∃ u, W.drew.cell? ⟨G, k * 2, none⟩ = some u := ⟨_, by rw [HPO.o.cellAt _ (by omega), List.getElem?_eq_getElem (by rw [cellsE_len]; simp [HPD.o.1]; omega)]⟩
      obtain ⟨u2, hu2⟩ : ∃ u, W.drew.cell? ⟨G, k * 2 + 1, none⟩ = some u := ⟨_, by rw [HPO.o.cellAt _ (by omega), List.getElem?_eq_getElem (by rw [cellsE_len]; simp [HPD.o.1]; omega)]⟩
      have q1 := HPO.o.frozenAt (k * 2)
      have q2 := HPO.o.frozenAt (k * 2 + 1)
      have z1 : (W.alloc (.cells #[] 26)).cell? ⟨h, 0, none⟩ = some (.slice p l.length cc) := (((Below.refl W.heap.size W).alloc (Nat.le_refl _) _).cell (p := ⟨h, 0, none⟩) (by exact hhl)).trans d1
      have z2 : (W.alloc (.cells #[] 26)).cell? ⟨h, 1, none⟩ = some (.float .f64 f) := (((Below.refl W.heap.size W).alloc (Nat.le_refl _) _).cell (p := ⟨h, 1, none⟩) (by exact hhl)).trans d2
      go_region_law (first
            | (refine step_app_empty 23 26 (.agg #[.string ⟨#[]⟩, .string ⟨#[]⟩]) 2 32 Try.underlying23 info_label rfl (by decide) rfl _ _ rfl W.drew rfl (.slice p l.length cc) l.length (cellsL l) rfl HX4.o (cellsL_one l) (by have := HSX.o; omega) (by have := HSX.o; omega) ?_; intro v6 w6 ho6 hb6; obtain ⟨A6, c6, rfl⟩ := own_shape ho6; have d3 := (hb6.cell (p := ⟨h, 0, none⟩) hhl).trans d1; have d4 := (hb6.cell (p := ⟨h, 1, none⟩) hhl).trans d2; have d5 := (hb6.cell (p := ⟨G, k * 2, none⟩) hGl).trans hu1; have d6 := (hb6.cell (p := ⟨G, k * 2 + 1, none⟩) hGl).trans hu2; have d7 := (own_below HPO.o hb6).frozenAt (k * 2); have d8 := (own_below HPO.o hb6).frozenAt (k * 2 + 1))
            | fail)
      all_goals (
        have HI6 := hd (CI.push hlt HPD.o HPO.o HPL.o HEK.o ho6 hb6 (bel HBW.o HB1.o))
        clear ho6 hb6 d1 d2 d3 d4 d5 d6 d7 d8 z1 z2 hu1 hu2 q1 q2
        go_wp2
        go_roundg (n - (k + 1))
        case measure => omega
        case rel => exact ⟨k + 1, by omega, by go_num, by omega, HI6⟩)
    · have hkn : k = n := by omega
      subst hkn
      obtain ⟨P, hPk, hPd, hPo, hPl⟩ := HI.o.ex
      rw [List.take_of_length_le (by rw [HN.o]; omega)] at hPd
      rw [Nat.sub_self, List.replicate_zero, List.append_nil] at hPo
      have HPO := hd hPo
      have HPL := hd hPl
      have HPD := hd hPd
      have HB := hd HI.o.bel
      clear hPo hPl hPd HI
      go_wp2
      go_ret
      exact ⟨G, P, rfl, HPD.o, HPO.o, HPL.o, HB.o⟩
end Go.Proofs.Ytifaepkeoffcfaa
