/- num.Read over every decimal lexeme of at most 512 bytes. The table of shifts and the sheet for shifts to the left, as the rows list them. -/
import Derived.Test.YtcbggkdginfakaaGreatDoorPRd
import Derived.Test.YtcbggkdginfakaaGreatDoorDAtof
import Derived.Test.YtcbggkdginfakaaGreatDoorPShortW
import Derived.Test.YtcbggkdginfakaaGreatDoorPLay
namespace Go.Proofs.YtcbggkdginfakaaGreatDoor
open Go.RowKit
set_option linter.unusedVariables false
theorem read_all (s : ByteArray) (w : World) (N : Nm2 w) (hs : s.size ≤ 512) (h0 : 0 < s.size) (hp : PN.pfx s.data.toList = s.size) (hh : PN.hexHead s.data.toList = false)
    (a r : List UInt8) (e : s.data.toList = a ++ r) (ha : DD a) (hr : ∀ c t, r = c :: t → c.toNat = 101 ∨ c.toNat = 69) :
    Calls Tryz.prog 21 #[.string s] w fun e w' => Below w.heap.size w w' ∧ ∃ b, PVal (PF.mf a PF.ls0).D (PF.expOf r - (PF.mf a PF.ls0).b) b ∧ e = .returned (RdAns b) := by
  obtain ⟨st, r', Dc, chars, first⟩ := dec_of s (by omega) hp h0 hh
  obtain ⟨a', e2, ha', I⟩ := PF.loop_val _ _ _ _ _ Dc.lp PF.Inv.start
  have hr' : ∀ c t, r' = c :: t → c.toNat = 101 ∨ c.toNat = 69 := fun c t h => by
    have := Dc.ex
    rw [h] at this; exact this.1
  obtain ⟨rfl, rfl⟩ := split_unique a a' r r' (e.symm.trans e2) ha ha' hr hr'
  have hf : PF.low (s[0]'h0).toNat ≠ 105 ∧ PF.low (s[0]'h0).toNat ≠ 110 := by
    have h := List.all_eq_true.1 low_first (s[0]'h0).toNat (List.mem_range.2 (by omega))
    rw [if_pos (by omega), Bool.and_eq_true, bne_iff_ne, bne_iff_ne] at h
    exact h
  refine readE s w N.n hs h0 hp (fun h => low_ok (chars _ (mem_data h))) hf.1 hf.2 _ _ (fun hDD => ?_) (fun W hb => hd (atof_dec s st r a W Dc e I (N.below hb)))
  have hrn : r = [] := by
    cases r with
    | nil => rfl
    | cons c t =>
      exfalso
      have h1 := hr c t rfl
      have h2 := hDD c (by rw [e]; simp)
      omega
  subst hrn
  rw [List.append_nil] at e
  rw [e]
  exact ⟨rfl, by show -_ = (0 : Int) - _; omega⟩
/-- digits and an exponent -/
theorem read_exp (a r : List UInt8) (ha0 : a ≠ []) (h1 : PF.Dig a) (hr : ∃ t, r = 101 :: t) (hx : PN.exl r = r.length) (hl : (a ++ r).length ≤ 512) (W : World) (N : Nm2 W) :
    Calls Tryz.prog 21 #[.string ⟨(a ++ r).toArray⟩] W fun e w' => Below W.heap.size W w' ∧ ∃ b, PVal (PF.dv a) (PF.expOf r) b ∧ e = .returned (RdAns b) := by
  obtain ⟨p1, p2⟩ := PF.pfx_exp a r ha0 h1 hr hx
  have hsz : (⟨(a ++ r).toArray⟩ : ByteArray).size = (a ++ r).length := by simp [ByteArray.size]
  have hpos : 0 < (a ++ r).length := by
    rw [List.length_append]
    have : 0 < a.length := by cases a with | nil => exact absurd rfl ha0 | cons c a => simp
    omega
  have hmf : PF.mf a PF.ls0 = ⟨PF.dv a, 0, false⟩ := by
    rw [show PF.ls0 = ⟨0, 0, false⟩ from rfl, PF.mf_dig _ _ _ _ h1]; rfl
  have R := read_all ⟨(a ++ r).toArray⟩ W N (by omega) (by omega) (by rw [hsz]; exact p1) p2 a r (by simp) (fun c hc => .inr (h1 c hc)) (fun c t h => by
    obtain ⟨t', h'⟩ := hr
    rw [h] at h'; injection h' with e1 e2; rw [e1]; exact .inl rfl)
  rw [hmf] at R
  rw [show PF.expOf r - ((0 : Nat) : Int) = PF.expOf r by omega] at R
  exact R
theorem PVal.mono {D E : Nat} {q : Int} {b c : Nat} (h : PVal D q b) (k : PVal E q c) (hle : D ≤ E) : b ≤ c := by
  rcases h with ⟨h1, h2⟩ | ⟨h1, h2⟩
  · omega
  · rcases k with ⟨k1, k2⟩ | ⟨k1, k2⟩
    · omega
    · refine FS.Rnd.mono (FS.X_pos _) (FS.X_pos _) h2 k2 (Nat.mul_le_mul_right _ ?_)
      unfold FS.vN
      exact Nat.mul_le_mul_right _ hle
theorem PVal.le {D : Nat} {q : Int} {b : Nat} (h : PVal D q b) : b ≤ FS.INF := by
  rcases h with ⟨_, h⟩ | ⟨_, h⟩
  · rw [h]; exact Nat.zero_le _
  · exact h.le
end Go.Proofs.YtcbggkdginfakaaGreatDoor
namespace Go.Proofs.YtcbggkdginfakaaGreatDoor
open Go.RowKit Go.ChangeShapes Go.WideShapes Go.ChangeAt Go.Deep
set_option linter.unusedVariables false
theorem powtab_eq : Rows.laid_internal_strconv_powtab (H := Unit) = .slice ((List.range 9).map fun j => .lit (.int .i64 (pwt j : Int))) [] := by kernel_rfl
theorem pt_of13 {W : World} (hL : laidMet Tryz.prog laid13 W) : Pt W W.heap.size := by
  have h5 := hL.tail.tail.tail.tail.tail
  have g5 : Tryz.prog.globalNamed "internal/strconv.powtab" = some 8 := by kernel_rfl
  rw [powtab_eq] at h5
  obtain ⟨ps, ⟨g', t', cs, fuel, p, q, hg', ht', hvar, hd, _, _⟩, _⟩ := h5
  obtain rfl := Option.some.inj (g5.symm.trans hg')
  obtain rfl : t' = 261 := (Option.some.inj ((show (Tryz.prog.globals[8]?).map (·.type) = some 261 by kernel_rfl).symm.trans ht')).symm
  obtain ⟨a, cap, hcs, hle, hel⟩ := open_row Tryz.underlying261 (by kernel_rfl) hd
  have hv := World.var?_cell g5 hvar 0
  have h9 : ((List.range 9).map fun j => (DataW.lit (.int .i64 (pwt j : Int)) : DataW Unit)).length = 9 := by simp
  rw [h9] at hcs
  have hc0 : cs[0]? = some (.slice (some a) 9 cap) := by
    rw [← Array.getElem?_toList, hcs]; rfl
  rw [hc0] at hv
  have el : ∀ j, j < 9 → W.cell? (a.add j) = some (.int .i64 (pwt j : Int)) := fun j hj => by
    obtain ⟨v, n, q', hc, ht⟩ := hel j (.lit (.int .i64 (pwt j : Int))) (by
      rw [List.getElem?_map, List.getElem?_range hj]; rfl)
    obtain ⟨z, e1, e2, _⟩ := DataW.trod_int Tryz.underlying3 ht
    simp only [Prod.mk.injEq, DataW.lit.injEq, Lit.int.injEq, true_and] at e2
    simp only [List.cons.injEq, and_true] at e1
    rw [hc, e1, e2.1]
  have ha : a = ⟨a.block, a.off, none⟩ := by
    have h0 := el 0 (by decide)
    rw [show a.add 0 = a from by simp [Addr.add]] at h0
    exact plain_of_cell h0
  have hB := World.block_lt_of_cell? W _ (by have h0 := el 0 (by decide); rw [show a.add 0 = a from by simp [Addr.add]] at h0; exact h0)
  refine ⟨a.block, a.off, cap, hB, World.block_lt_of_cell? W _ hv, by rw [← ha]; exact hv, fun j hj => ?_⟩
  have h := el j hj
  rw [ha, add_plain] at h
  exact h
theorem lc_of13 {W : World} (hL : laidMet Tryz.prog laid13 W) : Lc W W.heap.size := by
  have h11 := hL.tail.tail.tail.tail.tail.tail.tail.tail.tail.tail.tail
  have g11 : Tryz.prog.globalNamed "internal/strconv.leftcheats" = some 13 := by kernel_rfl
  obtain ⟨ps, ⟨g', t', cs, fuel, p, q, hg', ht', hvar, hd, _, _⟩, _⟩ := h11
  obtain rfl := Option.some.inj (g11.symm.trans hg')
  obtain rfl : t' = 273 := (Option.some.inj ((show (Tryz.prog.globals[13]?).map (·.type) = some 273 by kernel_rfl).symm.trans ht')).symm
  have hv := World.var?_cell g11 hvar 0
  have hd' : DataW.trod _ _ _ _ _ _ _ _ _ = some (Pinned.leftcheats, _) := hd
  rcases open_slice_fields Tryz.underlying273 Tryz.underlying272 (by kernel_rfl) (by kernel_rfl) hd' with ⟨hcs, hx⟩ | ⟨a, len, cap, m, D, Pl, hcs, _, hl, hm, hmm, hx, hi⟩
  · exfalso
    have := congrArg Prod.fst hx
    unfold Pinned.leftcheats at this
    cases this
  · have h1 := congrArg Prod.fst hx
    have h2 : (DataW.slice (Pinned.cheatRows.map fun x => .agg [.lit (.int .i64 (x.1 : Int)), .lit (.string x.2)]) [] : DataW Unit) = .slice ((List.range len).map D) ((List.range (m - len)).map fun j => D (len + j)) := h1
    simp only [DataW.slice.injEq] at h2
    obtain ⟨h2, h3⟩ := h2
    have hlen : len = 61 := by
      have := congrArg List.length h2
      rw [List.length_map, List.length_map, List.length_range] at this
      rw [← this]; decide
    subst hlen
    have hc0 : cs[0]? = some (.slice (some a) 61 cap) := by
      rw [← Array.getElem?_toList, hcs]; rfl
    rw [hc0] at hv
    have el : ∀ k, k ≤ 60 → W.cell? (a.add (k * 2)) = some (.int .i64 (DN.chD k : Int)) ∧ W.cell? (a.add (k * 2 + 1)) = some (.string ⟨(DN.chS k).toArray⟩) := fun k hk => by
      obtain ⟨ys, n, hD, _, hyl, hfs⟩ := hi k (by split at hmm <;> omega)
      have hDk : D k = .agg [.lit (.int .i64 (DN.chD k : Int)), .lit (.string (DN.chS k))] := by
        have h4 := congrArg (·[k]?) h2
        simp only [List.getElem?_map, List.getElem?_range (show k < 61 by omega), Option.map_some] at h4
        have h61 : Pinned.cheatRows.length = 61 := by decide
        have hkl : k < Pinned.cheatRows.length := by omega
        rw [List.getElem?_eq_getElem hkl] at h4
        simp only [Option.map_some, Option.some.injEq] at h4
        rw [← h4]
        unfold DN.chD DN.chS
        rw [List.getD_eq_getElem?_getD, List.getElem?_eq_getElem hkl]; rfl
      rw [hD] at hDk
      simp only [DataW.agg.injEq] at hDk
      obtain ⟨v0, y0, c0, k0, t0⟩ := hfs 0 _ rfl
      obtain ⟨v1, y1, c1, k1, t1⟩ := hfs 1 _ rfl
      obtain ⟨z, hz, hz2, _⟩ := DataW.trod_int Tryz.underlying3 t0
      obtain ⟨s, hs, hs2, _⟩ := DataW.trod_string Tryz.underlying9 t1
      have q0 := congrArg (·[0]?) hDk
      have q1 := congrArg (·[1]?) hDk
      simp only [List.getElem?_map, k0, k1, Option.map_some, hz2, hs2] at q0 q1
      simp at q0 q1 hz hs
      subst hz hs
      refine ⟨by rw [← q0]; exact c0, ?_⟩
      rw [← q1]
      exact c1
    have ha : a = ⟨a.block, a.off, none⟩ := by
      have h0 := (el 0 (by decide)).1
      rw [show a.add (0 * 2) = a from by simp [Addr.add]] at h0
      exact plain_of_cell h0
    have hB := World.block_lt_of_cell? W _ (by have h0 := (el 0 (by decide)).1; rw [show a.add (0 * 2) = a from by simp [Addr.add]] at h0; exact h0)
    refine ⟨a.block, a.off, cap, hB, World.block_lt_of_cell? W _ hv, by rw [← ha]; exact hv, fun k hk => ?_⟩
    obtain ⟨e1, e2⟩ := el k hk
    rw [ha, add_plain] at e1 e2
    exact ⟨e1, e2⟩
theorem nm2_of13 {W : World} (hL : laidMet Tryz.prog laid13 W) : Nm2 W := ⟨nms_of13 hL, lc_of13 hL, pt_of13 hL⟩
section
variable {H : Type} {enc : TypeId × Value → H} {w : World} {base : Nat}
theorem open_u8s {P : Program} {t e : TypeId} (ht : P.underlying t = some (.slice e)) (he : P.underlying e = some (.int .u8)) (hce : P.cellsOf e = 1) {v : Value} {d : DataW H} {p : List MemPlace}
    (hv : Value.okWide P w .any base t v) (h : DataW.Trod enc P w 0 (fun _ => true) true t v d p) :
    ∃ A c, ∃ xs : List UInt8, v = .slice A xs.length c ∧ IsL 1 w (.slice A xs.length c) xs.length (cellsB xs) ∧ xs.length ≤ 9223372036854775807 := by
  obtain ⟨A, len, cap, rfl⟩ := okWide_slice ht hv
  obtain ⟨fuel, hf⟩ := h
  rcases open_ints ht he hce hf with ⟨hcs, hx⟩ | ⟨a, len', cap', zs, hcs, _, hl, hm, hz, hx, hi, hwf⟩
  · simp [Value.cells] at hcs
    obtain ⟨rfl, rfl, rfl⟩ := hcs
    exact ⟨none, 0, [], rfl, IsL.nil 1 w none 0, by decide⟩
  · simp [Value.cells] at hcs
    obtain ⟨rfl, rfl, rfl⟩ := hcs
    simp only [if_true] at hz
    have hlen : (zs.take len).length = len := by rw [List.length_take]; omega
    have hb : ∀ z ∈ zs, 0 ≤ z ∧ z < 256 := fun z hzm => by
      have := hwf z hzm
      simp [Lit.wf, IntKind.min, IntKind.max, IntKind.signed, IntKind.bits] at this
      omega
    have hxl : ((zs.take len).map fun z : Int => UInt8.ofNat z.toNat).length = len := by rw [List.length_map, hlen]
    refine ⟨some a, cap, (zs.take len).map fun z : Int => UInt8.ofNat z.toNat, by rw [hxl], ⟨by rw [cellsB_len, Nat.mul_one], some a, cap, rfl, fun i hk => ?_⟩, by rw [hxl]; unfold maxLen at hm; omega⟩
    rw [cellsB_len, hxl] at hk
    have hc := hi i (by omega)
    have hget : zs.getD i 0 = (zs.take len)[i]'(by omega) := by
      rw [List.getElem_take, List.getD_eq_getElem?_getD, List.getElem?_eq_getElem (by omega)]; rfl
    have ha : a = ⟨a.block, a.off, none⟩ := by
      have h0 := hi 0 (by omega)
      rw [show a.add 0 = a from by simp [Addr.add]] at h0
      exact plain_of_cell h0
    refine ⟨a.block, a.off, by rw [← ha], ?_⟩
    rw [ha, add_plain, hget] at hc
    have hbd := hb _ (List.mem_of_mem_take (List.getElem_mem (l := zs.take len) (n := i) (by omega)))
    have e : (UInt8.ofNat ((zs.take len)[i]'(by omega)).toNat).toNat = ((zs.take len)[i]'(by omega)).toNat := by
      rw [UInt8.toNat_ofNat']
      exact Nat.mod_eq_of_lt (by omega)
    have e2 : (cellsB ((zs.take len).map fun z : Int => UInt8.ofNat z.toNat))[i]'(by rw [cellsB_len, hxl]; exact hk) = .int .u8 ((UInt8.ofNat ((zs.take len)[i]'(by omega)).toNat).toNat : Int) := by simp [cellsB]
    rw [hc, e2, e, Int.toNat_of_nonneg hbd.1]
end
end Go.Proofs.YtcbggkdginfakaaGreatDoor
